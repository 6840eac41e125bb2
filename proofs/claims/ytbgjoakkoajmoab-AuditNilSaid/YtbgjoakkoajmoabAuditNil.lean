/- AuditNil: whatever the config, the law returns true, and the config reads as it did. No condition. The closed runs, and the runs over each range of the config's numbers, are run by the small machine, whose answers are proved to be the model's. -/
import Derived.Test.YtbgjoakkoajmoabT
import Derived.Test.YtbgjoakkoajmoabRows
import Derived.WalkKit
import Derived.ProofKit
import Derived.OpenShut
import Derived.ShutString
import Derived.ChangeOld
import Derived.Below
import Derived.Lib.SmallJoins
namespace Go.Proofs.Ytbgjoakkoajmoab.auditNil
open Go.ChangeShapes Go.WideShapes Go.ChangeAt Go.RowKit Go.Joins Go.Vx

/-! The runs. -/
theorem awake_run : (callF noTbl code 100000 2000 28 [] ⟨.nil, 0⟩).map (·.1) = some (.bool true) := by kernel_rfl
def tbl (f : FuncId) (args : List AV) : Option AV := if f = 28 then match args with
  | [] => some (.bool true)
  | _ => none else none
theorem tbl_ok [Val] : TblOk Try.prog tbl := by
  intro f args r h
  unfold tbl at h
  split at h
  · rename_i hf
    subst hf
    cases args with
    | nil => cases h; exact closed_of (noTbl_ok _) codeOk awake_run rfl rfl
    | cons a l => cases h
  · cases h
def o (i : Nat) (lo hi : Int) : AV := .oint .i64 (.var i) lo hi
def I (n : Nat) : AV := .int .i64 n
def lo64 : Int := -9223372036854775808
def hi64 : Int := 9223372036854775807
def run (a b c d : AV) : Bool := match callF tbl code 100000 2000 7 [.agg [a, b, c, d]] ⟨.nil, 0⟩ with
  | some (.bool true, _) => true
  | _ => false
def ob : AV := o 1 lo64 hi64
def oc : AV := o 2 lo64 hi64
def od : AV := o 3 lo64 hi64
def o16 : AV := o 0 1 16
def sizeOk (k s : Nat) : Bool :=
  if [2, 4, 8, 16, 32, 64, 128, 256].contains s then run o16 (I k) (I s) (o 3 lo64 1) && run o16 (I k) (I s) (o 3 2 4096) && run o16 (I k) (I s) (o 3 4097 hi64) else run o16 (I k) (I s) od
theorem run_a0 : run (o 0 lo64 0) ob oc od = true := by kernel_rfl
theorem run_a2 : run (o 0 17 hi64) ob oc od = true := by kernel_rfl
theorem run_b0 : run o16 (o 1 lo64 (-1)) oc od = true := by kernel_rfl
theorem run_b2 : run o16 (o 1 2 hi64) oc od = true := by kernel_rfl
theorem run_c0 : ((List.range 2).all fun k => run o16 (I k) (o 2 lo64 1) od) = true := by kernel_rfl
theorem run_c2 : ((List.range 2).all fun k => run o16 (I k) (o 2 257 hi64) od) = true := by kernel_rfl
def part (n : Nat) : Bool := (List.range 2).all fun k => (List.range 16).all fun s => sizeOk k (s + 16 * n + 2)
theorem run_s0 : part 0 = true := by kernel_rfl
theorem run_s1 : part 1 = true := by kernel_rfl
theorem run_s2 : part 2 = true := by kernel_rfl
theorem run_s3 : part 3 = true := by kernel_rfl
theorem run_s4 : part 4 = true := by kernel_rfl
theorem run_s5 : part 5 = true := by kernel_rfl
theorem run_s6 : part 6 = true := by kernel_rfl
theorem run_s7 : part 7 = true := by kernel_rfl
theorem run_s8 : part 8 = true := by kernel_rfl
theorem run_s9 : part 9 = true := by kernel_rfl
theorem run_s10 : part 10 = true := by kernel_rfl
theorem run_s11 : part 11 = true := by kernel_rfl
theorem run_s12 : part 12 = true := by kernel_rfl
theorem run_s13 : part 13 = true := by kernel_rfl
theorem run_s14 : part 14 = true := by kernel_rfl
theorem run_s15 : part 15 = true := by kernel_rfl
theorem run_s {k s : Nat} (hk : k < 2) (hs : s < 255) : sizeOk k (s + 2) = true := by
  have h : part (s / 16) = true := by
    have hq : s / 16 < 16 := by omega
    generalize s / 16 = q at hq
    match q, hq with
    | 0, _ => exact run_s0
    | 1, _ => exact run_s1
    | 2, _ => exact run_s2
    | 3, _ => exact run_s3
    | 4, _ => exact run_s4
    | 5, _ => exact run_s5
    | 6, _ => exact run_s6
    | 7, _ => exact run_s7
    | 8, _ => exact run_s8
    | 9, _ => exact run_s9
    | 10, _ => exact run_s10
    | 11, _ => exact run_s11
    | 12, _ => exact run_s12
    | 13, _ => exact run_s13
    | 14, _ => exact run_s14
    | 15, _ => exact run_s15
    | n + 16, h => omega
  have h2 := List.all_eq_true.1 (List.all_eq_true.1 h k (List.mem_range.2 hk)) (s % 16) (List.mem_range.2 (by omega))
  rwa [show s % 16 + 16 * (s / 16) + 2 = s + 2 by omega] at h2

/-! What they tell. -/
abbrev V (a b c d : Int) : Val where
  int := fun
    | 0 => a
    | 1 => b
    | 2 => c
    | _ => d
  any := fun _ => undef
def Is (a b c d : Int) (x : AV) (n : Int) : Prop := @conc (V a b c d) (fun _ => none) x = some (.int .i64 n)
theorem of_run {a b c d : Int} {x y z u : AV} (h : run x y z u = true) (hx : Is a b c d x a) (hy : Is a b c d y b) (hz : Is a b c d z c) (hu : Is a b c d u d) (w : World) :
    Calls Try.prog 7 #[.agg #[.int .i64 a, .int .i64 b, .int .i64 c, .int .i64 d]] w fun e w' => e = .returned (.bool true) ∧ Below w.heap.size w w' := by
  letI : Val := V a b c d
  have h1 : (callF tbl code 100000 2000 7 [.agg [x, y, z, u]] ⟨.nil, 0⟩).map (·.1) = some (.bool true) := by
    unfold run at h
    cases hr : callF tbl code 100000 2000 7 [.agg [x, y, z, u]] ⟨.nil, 0⟩ with
    | none => rw [hr] at h; cases h
    | some p =>
      obtain ⟨v, M⟩ := p
      rw [hr] at h
      split at h
      · rename_i heq; cases heq; rfl
      · cases h
  have hargs : concs (fun _ => none) [.agg [x, y, z, u]] = some [.agg #[.int .i64 a, .int .i64 b, .int .i64 c, .int .i64 d]] := by
    simp only [concs, conc]
    rw [show conc (fun _ => none) x = _ from hx, show conc (fun _ => none) y = _ from hy, show conc (fun _ => none) z = _ from hz, show conc (fun _ => none) u = _ from hu]
  refine ((closed_of tbl_ok codeOk h1 hargs rfl (fun _ => none) w _ hargs).2).mono ?_
  rintro e w' ⟨v, g1, g2, g3⟩
  simp only [conc, Option.some.injEq] at g2
  subst g2
  exact ⟨g1, g3⟩
theorem isO (a b c d : Int) {lo hi : Int} (i : Nat) {n : Int} (hn : (V a b c d).int i = n) (h1 : lo ≤ n) (h2 : n ≤ hi) : Is a b c d (o i lo hi) n := by
  unfold Is o
  letI : Val := V a b c d
  have he : (SE.var i).eval = n := hn
  simp only [conc, he]
  rw [if_pos ⟨h1, h2⟩]
theorem isI (a b c d : Int) {n : Int} {m : Nat} (h : (m : Int) = n) : Is a b c d (I m) n := by
  unfold Is I; simp only [conc]; rw [h]

theorem walk (a b c d : Int) (w : World) (wa : (Lit.int .i64 a).wf = true) (wb : (Lit.int .i64 b).wf = true) (wc : (Lit.int .i64 c).wf = true) (wd : (Lit.int .i64 d).wf = true) :
    Calls Try.prog 7 #[.agg #[.int .i64 a, .int .i64 b, .int .i64 c, .int .i64 d]] w fun e w' => e = .returned (.bool true) ∧ Below w.heap.size w w' := by
  have bnd : ∀ n : Int, (Lit.int .i64 n).wf = true → lo64 ≤ n ∧ n ≤ hi64 := by
    intro n hn
    simp only [Lit.wf, Bool.and_eq_true, decide_eq_true_eq] at hn
    exact hn
  obtain ⟨a1, a2⟩ := bnd a wa
  obtain ⟨b1, b2⟩ := bnd b wb
  obtain ⟨c1, c2⟩ := bnd c wc
  obtain ⟨d1, d2⟩ := bnd d wd
  have fb : Is a b c d ob b := isO a b c d 1 rfl b1 b2
  have fc : Is a b c d oc c := isO a b c d 2 rfl c1 c2
  have fd : Is a b c d od d := isO a b c d 3 rfl d1 d2
  rcases Int.lt_or_le 0 a with ha | ha
  rotate_left
  · exact of_run run_a0 (isO a b c d 0 rfl a1 ha) fb fc fd w
  rcases Int.lt_or_le a 17 with ha2 | ha2
  rotate_left
  · exact of_run run_a2 (isO a b c d 0 rfl ha2 a2) fb fc fd w
  have fa : Is a b c d o16 a := isO a b c d 0 rfl (by omega) (by omega)
  rcases Int.lt_or_le b 0 with hb | hb
  · exact of_run run_b0 fa (isO a b c d 1 rfl b1 (by omega)) fc fd w
  rcases Int.lt_or_le b 2 with hb2 | hb2
  rotate_left
  · exact of_run run_b2 fa (isO a b c d 1 rfl hb2 b2) fc fd w
  obtain ⟨k, hk, hkb⟩ : ∃ k : Nat, k < 2 ∧ (k : Int) = b := ⟨b.toNat, by omega, by omega⟩
  have fk : Is a b c d (I k) b := isI a b c d hkb
  have hkr : k ∈ List.range 2 := List.mem_range.2 hk
  rcases Int.lt_or_le c 2 with hc | hc
  · exact of_run (List.all_eq_true.1 run_c0 k hkr) fa fk (isO a b c d 2 rfl c1 (by omega)) fd w
  rcases Int.lt_or_le c 257 with hc2 | hc2
  rotate_left
  · exact of_run (List.all_eq_true.1 run_c2 k hkr) fa fk (isO a b c d 2 rfl hc2 c2) fd w
  obtain ⟨s, hs, hsc⟩ : ∃ s : Nat, s < 255 ∧ ((s + 2 : Nat) : Int) = c := ⟨(c - 2).toNat, by omega, by omega⟩
  have fs : Is a b c d (I (s + 2)) c := isI a b c d hsc
  have h := run_s hk hs
  unfold sizeOk at h
  split at h
  · simp only [Bool.and_eq_true] at h
    rcases Int.lt_or_le d 2 with hd | hd
    · exact of_run h.1.1 fa fk fs (isO a b c d 3 rfl d1 (by omega)) w
    rcases Int.lt_or_le d 4097 with hd2 | hd2
    · exact of_run h.1.2 fa fk fs (isO a b c d 3 rfl hd (by omega)) w
    · exact of_run h.2 fa fk fs (isO a b c d 3 rfl hd2 d2) w
  · exact of_run h fa fk fs fd w

/-! The row. -/
theorem own : ownKnob Try.prog.godebug = none := by kernel_rfl
theorem laidOut : laidOutB Try.prog = true := by kernel_rfl
theorem cells60 : Try.prog.cellsOf 60 = 4 := by kernel_rfl
set_option maxRecDepth 100000 in
theorem lifted (os : Os) (started : os.Started) (H : Type) (enc : TypeId × Value → H) :
    ReturnsInHanded {} Try.checked os 7 .any (Rows.auditNilSpec.pre6 enc Try.prog Try.f7 Rows.auditNilRow.domain false) (Rows.auditNilSpec.post enc Try.prog Try.f7 false true false false) := by
  refine returnsInHanded_of_change (C := Try.checked) own started (by kernel_rfl) Try.func7
    (ChangeSpec.witness6 (enc := enc) (C := Try.checked) false ⟨#[], #[.agg #[.int .i64 0, .int .i64 0, .int .i64 0, .int .i64 0]], []⟩ 8 (by kernel_rfl) (by kernel_rfl) (by kernel_rfl) (by kernel_rfl)) ?_
  intro W base args ds gs before hval0 hW hcnd _
  have hval : ∀ (j : Nat) t v, Try.f7.params[j]? = some t → args[j]? = some v → Value.okWide Try.prog W .any base t v := hval0
  have hW' := hW
  obtain ⟨p, q, hA0, hV, rfl, hfz, hnd⟩ := hW
  have hA : DataW.TrodAll enc Try.prog W 0 (fun _ => true) true Try.f7.params.toList args.toList ds p := hA0
  rw [Try.params7] at hA hval
  obtain ⟨v0, vs0, d0, ds0, p0, q0, hargs, rfl, rfl, h0, r0⟩ := trodAll_cons hA
  obtain ⟨rfl, rfl, rfl⟩ := trodAll_nil r0
  obtain rfl : args = #[v0] := by cases args; simp_all
  obtain ⟨rfl, rfl⟩ := trodVars_none hV
  have k0 := h0
  have lt0 : ∀ x ∈ p0, x.block < W.heap.size := by obtain ⟨m, hm⟩ := k0; exact DataW.trod_lt m _ _ _ hm
  obtain ⟨c0, c1, c2, c3, y0, y1, y2, y3, m, rfl, hd0, hp0, hy0, hy1, hy2, hy3⟩ := open_agg4 Try.underlying60 (by kernel_rfl) cells60 (hval 0 60 v0 rfl rfl) h0
  obtain ⟨n0, e0, _, w0⟩ := DataW.trod_int Try.underlying3 hy0
  obtain ⟨n1, e1, _, w1⟩ := DataW.trod_int Try.underlying3 hy1
  obtain ⟨n2, e2, _, w2⟩ := DataW.trod_int Try.underlying3 hy2
  obtain ⟨n3, e3, _, w3⟩ := DataW.trod_int Try.underlying3 hy3
  cases e0; cases e1; cases e2; cases e3
  clear hA0 hval0
  refine (walk n0 n1 n2 n3 W w0 w1 w2 w3).mono fun e W' ⟨he, bel⟩ => ?_
  subst he
  exact ⟨_, rfl, _, _, _, [], _, [], hW', trodAll_mk1 (shut_bool Try.underlying4 _), (trodAll_cons_mk (Below.trod laidOut (by kernel_rfl) (of_decide_eq_true (by kernel_rfl)) k0 bel lt0) trodAll_mk0), rfl, bel.frame _, fun h => by cases h⟩

theorem over : Rows.auditNilRow.holds Try.pinned (OpenSpec.ofChange Rows.auditNilSpec) :=
  OpenClaim.holds_of_wide 7 Try.f7 rfl rfl rfl rfl rfl rfl rfl ⟨rfl, rfl, rfl, rfl, rfl⟩ rfl rfl rfl rfl rfl (by kernel_rfl) Try.func7 (by kernel_rfl)
    (of_decide_eq_true (by kernel_rfl)) (by unfold Func.isWrapper; first | (rw [if_pos (by decide +kernel)]; kernel_rfl) | (rw [if_neg (by decide +kernel)]; exact ⟨rfl, rfl⟩))
    (fun os started H enc _ => lifted os started H enc)

theorem proved : Rows.AuditNilSaid := over
#print axioms proved
end Go.Proofs.Ytbgjoakkoajmoab.auditNil
