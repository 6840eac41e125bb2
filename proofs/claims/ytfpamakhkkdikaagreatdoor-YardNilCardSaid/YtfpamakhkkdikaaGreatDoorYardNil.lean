/- YardNil: whatever the step and the config, the law returns true, and they read as they did. Condition: the package variable of the row holds what its text lays into it (the card ties it). The closed run of awake, and the runs over what comes in, of which nothing is known but the list's length and the ranges of the config's numbers, are run by the small machine, whose answers are proved to be the model's. -/
import Derived.Test.YtfpamakhkkdikaaGreatDoorYardRun
import Derived.Test.YtfpamakhkkdikaaGreatDoorCards
import Derived.Test.YtfpamakhkkdikaaGreatDoorTie
import Derived.WalkKit
import Derived.ProofKit
import Derived.LaidMore
import Derived.OpenShut
import Derived.ShutString
import Derived.ChangeOld
import Derived.Below
import Derived.Deep.Slices
import Derived.Stop.Joined
import Derived.SevenTiedAt
import Derived.Lib.SmallJoins
namespace Go.Proofs.YtfpamakhkkdikaaGreatDoor.yardNil
open Go.ChangeShapes Go.WideShapes Go.ChangeAt Go.RowKit Go.Joins Go.Vx

/-! What they tell. -/
abbrev V (a b c d p q r t : Int) (s : Value) : Val where
  int := fun
    | 0 => a
    | 1 => b
    | 2 => c
    | 3 => d
    | 5 => p
    | 6 => q
    | 7 => r
    | _ => t
  any := fun _ => s
  g := fun _ => none
theorem concs_nil [Val] {e : Env} : concs e [] = some [] := by simp [concs]
theorem conc_agg_of [Val] {e : Env} {cs : List AV} {vs : List Value} (h : concs e cs = some vs) : conc e (.agg cs) = some (.agg vs.toArray) := by simp [conc, h]
theorem conc_oint [Val] {i : Nat} {n lo hi : Int} (hi' : Val.int i = n) (h1 : lo ≤ n) (h2 : n ≤ hi) : conc (fun _ => none) (o i lo hi) = some (.int .i64 n) := by
  have he : (SE.var i).eval = n := hi'
  unfold o
  simp only [conc, he]
  rw [if_pos ⟨h1, h2⟩]
theorem conc_I [Val] {n : Int} {m : Nat} (h : (m : Int) = n) : conc (fun _ => none) (I m) = some (.int .i64 n) := by
  unfold I; simp only [conc]; rw [h]
/-- the outer numbers -/
structure Outer (p q r t : Int) (len : Nat) : Prop where
  p1 : lo64 ≤ p
  p2 : p ≤ hi64
  q1 : lo64 ≤ q
  q2 : q ≤ hi64
  r1 : lo64 ≤ r
  r2 : r ≤ hi64
  t1 : 0 ≤ t
  t2 : t ≤ 18446744073709551615
def stepV (p q r t : Int) (ad : Option Addr) (len cap : Nat) : Value := .agg #[.int .i64 p, .int .i64 q, .int .i64 r, .int .u64 t, .slice ad len cap]
theorem of_run {a b c d p q r t : Int} {ad : Option Addr} {len cap lo hi : Nat} {x y z u : AV} (ho : Outer p q r t len) (h1 : lo ≤ len) (h2 : len ≤ hi) (h : run lo hi x y z u = true)
    (hx : @conc (V a b c d p q r t (.slice ad len cap)) (fun _ => none) x = some (.int .i64 a)) (hy : @conc (V a b c d p q r t (.slice ad len cap)) (fun _ => none) y = some (.int .i64 b))
    (hz : @conc (V a b c d p q r t (.slice ad len cap)) (fun _ => none) z = some (.int .i64 c)) (hu : @conc (V a b c d p q r t (.slice ad len cap)) (fun _ => none) u = some (.int .i64 d)) (w : World) :
    Calls Tryz.prog 4 #[stepV p q r t ad len cap, .agg #[.int .i64 a, .int .i64 b, .int .i64 c, .int .i64 d]] w fun e w' => e = .returned (.bool true) ∧ Below w.heap.size w w' := by
  letI : Val := V a b c d p q r t (.slice ad len cap)
  have hr1 : (callF tbl code 100000 2000 4 [stepA lo hi, .agg [x, y, z, u]] ⟨.nil, 0, fun _ => none⟩).map (·.1) = some (.bool true) := by
    unfold run at h
    rw [callFK_eq] at h
    cases hc : callF tbl code 100000 2000 4 [stepA lo hi, .agg [x, y, z, u]] ⟨.nil, 0, fun _ => none⟩ with
    | none => rw [hc] at h; cases h
    | some p =>
      obtain ⟨v, M⟩ := p
      rw [hc] at h
      split at h
      · rename_i heq; cases heq; rfl
      · cases h
  have u64 : conc (fun _ => none) (.oint .u64 (.var 8) 0 18446744073709551615) = some (.int .u64 t) := by
    have he : (SE.var 8).eval = t := rfl
    simp only [conc, he]
    rw [if_pos ⟨ho.t1, ho.t2⟩]
  have sl : conc (fun _ => none) (.oslice 9 lo hi) = some (.slice ad len cap) := by
    have he : Val.any 9 = .slice ad len cap := rfl
    simp only [conc, he]
    rw [if_pos ⟨h1, h2⟩]
  have hargs : concs (fun _ => none) [stepA lo hi, .agg [x, y, z, u]] = some [stepV p q r t ad len cap, .agg #[.int .i64 a, .int .i64 b, .int .i64 c, .int .i64 d]] :=
    concs_mk (conc_agg_of (concs_mk (conc_oint rfl ho.p1 ho.p2) (concs_mk (conc_oint rfl ho.q1 ho.q2) (concs_mk (conc_oint rfl ho.r1 ho.r2) (concs_mk u64 (concs_mk sl concs_nil))))))
      (concs_mk (conc_agg_of (concs_mk hx (concs_mk hy (concs_mk hz (concs_mk hu concs_nil))))) concs_nil)
  refine ((closed_of tbl_ok codeOk rfl hr1 hargs rfl (fun _ => none) w _ (fun a v hm => by cases hm) hargs).2).mono ?_
  rintro e w' ⟨v, g1, g2, g3⟩
  simp only [conc, Option.some.injEq] at g2
  subst g2
  exact ⟨g1, g3⟩

theorem walk (a b c d p q r t : Int) (ad : Option Addr) (len cap : Nat) (w : World) (wa : (Lit.int .i64 a).wf = true) (wb : (Lit.int .i64 b).wf = true) (wc : (Lit.int .i64 c).wf = true) (wd : (Lit.int .i64 d).wf = true)
    (wp : (Lit.int .i64 p).wf = true) (wq : (Lit.int .i64 q).wf = true) (wr : (Lit.int .i64 r).wf = true) (wt : (Lit.int .u64 t).wf = true) (hl : len ≤ 9223372036854775807) :
    Calls Tryz.prog 4 #[stepV p q r t ad len cap, .agg #[.int .i64 a, .int .i64 b, .int .i64 c, .int .i64 d]] w fun e w' => e = .returned (.bool true) ∧ Below w.heap.size w w' := by
  have bnd : ∀ n : Int, (Lit.int .i64 n).wf = true → lo64 ≤ n ∧ n ≤ hi64 := by
    intro n hn
    simp only [Lit.wf, Bool.and_eq_true, decide_eq_true_eq] at hn
    exact hn
  obtain ⟨a1, a2⟩ := bnd a wa
  obtain ⟨b1, b2⟩ := bnd b wb
  obtain ⟨c1, c2⟩ := bnd c wc
  obtain ⟨d1, d2⟩ := bnd d wd
  simp only [Lit.wf, Bool.and_eq_true, decide_eq_true_eq] at wt
  have ho : Outer p q r t len := ⟨(bnd p wp).1, (bnd p wp).2, (bnd q wq).1, (bnd q wq).2, (bnd r wr).1, (bnd r wr).2, wt.1, wt.2⟩
  letI : Val := V a b c d p q r t (.slice ad len cap)
  by_cases hlen : len ≤ 70
  rotate_left
  · exact of_run ho (by omega) hl run_big (conc_oint rfl a1 a2) (conc_oint rfl b1 b2) (conc_oint rfl c1 c2) (conc_oint rfl d1 d2) w
  have h0 : 0 ≤ len := Nat.zero_le _
  rcases Int.lt_or_le 0 a with ha | ha
  rotate_left
  · exact of_run ho h0 hlen run_a0 (conc_oint rfl a1 ha) (conc_oint rfl b1 b2) (conc_oint rfl c1 c2) (conc_oint rfl d1 d2) w
  rcases Int.lt_or_le a 17 with ha2 | ha2
  rotate_left
  · exact of_run ho h0 hlen run_a2 (conc_oint rfl ha2 a2) (conc_oint rfl b1 b2) (conc_oint rfl c1 c2) (conc_oint rfl d1 d2) w
  have ha3 : 1 ≤ a := by omega
  have ha4 : a ≤ 16 := by omega
  rcases Int.lt_or_le b 0 with hb | hb
  · exact of_run ho h0 hlen run_b0 (conc_oint rfl ha3 ha4) (conc_oint rfl b1 (by omega)) (conc_oint rfl c1 c2) (conc_oint rfl d1 d2) w
  rcases Int.lt_or_le b 2 with hb2 | hb2
  rotate_left
  · exact of_run ho h0 hlen run_b2 (conc_oint rfl ha3 ha4) (conc_oint rfl hb2 b2) (conc_oint rfl c1 c2) (conc_oint rfl d1 d2) w
  obtain ⟨k, hk, hkb⟩ : ∃ k : Nat, k < 2 ∧ (k : Int) = b := ⟨b.toNat, by omega, by omega⟩
  have hkr : k ∈ List.range 2 := List.mem_range.2 hk
  rcases Int.lt_or_le c 2 with hc | hc
  · exact of_run ho h0 hlen (List.all_eq_true.1 run_c0 k hkr) (conc_oint rfl ha3 ha4) (conc_I hkb) (conc_oint rfl c1 (by omega)) (conc_oint rfl d1 d2) w
  rcases Int.lt_or_le c 257 with hc2 | hc2
  rotate_left
  · exact of_run ho h0 hlen (List.all_eq_true.1 run_c2 k hkr) (conc_oint rfl ha3 ha4) (conc_I hkb) (conc_oint rfl hc2 c2) (conc_oint rfl d1 d2) w
  obtain ⟨s, hs, hsc⟩ : ∃ s : Nat, s < 255 ∧ ((s + 2 : Nat) : Int) = c := ⟨(c - 2).toNat, by omega, by omega⟩
  have h := run_s hk hs
  unfold sizeOk at h
  split at h
  · simp only [Bool.and_eq_true] at h
    rcases Int.lt_or_le d 2 with hd | hd
    · exact of_run ho h0 hlen h.1.1 (conc_oint rfl ha3 ha4) (conc_I hkb) (conc_I hsc) (conc_oint rfl d1 (by omega)) w
    rcases Int.lt_or_le d 4097 with hd2 | hd2
    · exact of_run ho h0 hlen h.1.2 (conc_oint rfl ha3 ha4) (conc_I hkb) (conc_I hsc) (conc_oint rfl hd (by omega)) w
    · exact of_run ho h0 hlen h.2 (conc_oint rfl ha3 ha4) (conc_I hkb) (conc_I hsc) (conc_oint rfl hd2 d2) w
  · exact of_run ho h0 hlen h (conc_oint rfl ha3 ha4) (conc_I hkb) (conc_I hsc) (conc_oint rfl d1 d2) w

/-! The row. -/
theorem own : ownKnob Tryz.prog.godebug = none := by kernel_rfl
theorem laidOut : laidOutB Tryz.prog = true := by kernel_rfl
theorem cells25 : Tryz.prog.cellsOf 25 = 3 := by kernel_rfl
theorem cells57 : Tryz.prog.cellsOf 57 = 5 := by kernel_rfl
theorem cells3 : Tryz.prog.cellsOf 3 = 1 := by kernel_rfl
theorem cells22 : Tryz.prog.cellsOf 22 = 1 := by kernel_rfl
theorem cells23 : Tryz.prog.cellsOf 23 = 1 := by kernel_rfl
theorem cells32 : Tryz.prog.cellsOf 32 = 4 := by kernel_rfl
set_option maxRecDepth 100000 in
/-- a step's parts -/
theorem open_step {H : Type} {enc : TypeId × Value → H} {w : World} {base : Nat} {spare : Nat → Bool} {held : Bool} {r : Reach} {b0 : Nat} {v : Value} {d : DataW H} {ps : List MemPlace} (hv : Value.okWide Tryz.prog w r b0 57 v) (h : DataW.Trod enc Tryz.prog w base spare held 57 v d ps) :
    ∃ (p q k t : Int) (ad : Option Addr) (len cap : Nat), v = stepV p q k t ad len cap ∧ (Lit.int .i64 p).wf = true ∧ (Lit.int .i64 q).wf = true ∧ (Lit.int .i64 k).wf = true ∧ (Lit.int .u64 t).wf = true ∧ len ≤ 9223372036854775807 := by
  obtain ⟨cs, rfl, hsz⟩ := okWide_struct Tryz.underlying57 hv
  obtain ⟨l⟩ := cs
  match l, hsz.trans cells57 with
  | [c0, c1, c2, c3, c4], _ =>
    obtain ⟨fuel, hf⟩ := h
    obtain ⟨xs, n, _, hx, _, hlen, hg⟩ := DataW.trod_struct Tryz.underlying57 hf
    match xs, hlen with
    | [y0, y1, y2], _ =>
      have g0 := hg 0 { name := "Kind", type := 3, offset := 0, embedded := false, tag := "", pkgPath := "", byteOffset := 0 } rfl
      have g1 := hg 1 { name := "Who", type := 3, offset := 1, embedded := false, tag := "", pkgPath := "", byteOffset := 8 } rfl
      have g2 := hg 2 { name := "Call", type := 25, offset := 2, embedded := false, tag := "", pkgPath := "", byteOffset := 16 } rfl
      dsimp only at g0 g1 g2
      rw [cells3] at g0 g1
      rw [cells25] at g2
      have g0 : DataW.trod enc Tryz.prog w base spare held n 3 [c0] = some y0 := g0
      have g1 : DataW.trod enc Tryz.prog w base spare held n 3 [c1] = some y1 := g1
      have g2 : DataW.trod enc Tryz.prog w base spare held n 25 [c2, c3, c4] = some y2 := g2
      obtain ⟨p, e0, _, w0⟩ := DataW.trod_int Tryz.underlying3 g0
      obtain ⟨q, e1, _, w1⟩ := DataW.trod_int Tryz.underlying3 g1
      obtain ⟨zs, n2, _, hz, _, hlen2, hg2⟩ := DataW.trod_struct Tryz.underlying25 g2
      match zs, hlen2 with
      | [z0, z1, z2], _ =>
        have j0 := hg2 0 { name := "Kind", type := 3, offset := 0, embedded := false, tag := "", pkgPath := "", byteOffset := 0 } rfl
        have j1 := hg2 1 { name := "Task", type := 22, offset := 1, embedded := false, tag := "", pkgPath := "", byteOffset := 8 } rfl
        have j2 := hg2 2 { name := "Victims", type := 23, offset := 2, embedded := false, tag := "", pkgPath := "", byteOffset := 16 } rfl
        dsimp only at j0 j1 j2
        rw [cells3] at j0
        rw [cells22] at j1
        rw [cells23] at j2
        have j0 : DataW.trod enc Tryz.prog w base spare held n2 3 [c2] = some z0 := j0
        have j1 : DataW.trod enc Tryz.prog w base spare held n2 22 [c3] = some z1 := j1
        have j2 : DataW.trod enc Tryz.prog w base spare held n2 23 [c4] = some z2 := j2
        obtain ⟨k, e2, _, w2⟩ := DataW.trod_int Tryz.underlying3 j0
        obtain ⟨t, e3, _, w3⟩ := DataW.trod_int Tryz.underlying22 j1
        cases e0; cases e1; cases e2; cases e3
        rcases Deep.open_slice Tryz.underlying23 j2 with ⟨hc, _⟩ | ⟨a, len, cap, _, _, _, _, hc, _, h1, h2, _⟩
        · cases hc; exact ⟨p, q, k, t, none, 0, 0, rfl, w0, w1, w2, w3, by omega⟩
        · cases hc; unfold maxLen at h2; exact ⟨p, q, k, t, some a, len, cap, rfl, w0, w1, w2, w3, by omega⟩
def laid1 : List (String × DataW Unit) := [("math/bits.deBruijn64tab", Rows.laid_math_bits_deBruijn64tab)]
theorem door_met (os : Os) (args : Array Value) : laidMetH Tryz.prog laid1 ((World.doorLaid Tryz.prog 400 os).forCall (fun _ _ => 0) ⟨#[], args, []⟩).memory :=
  laidMetH_of_parts3 (fuel := 8) (laidMet_of_run' 8 (by kernel_rfl) (by kernel_rfl)) (by kernel_rfl) (by kernel_rfl)
set_option maxRecDepth 100000 in
theorem lifted (os : Os) (started : os.Started) (H : Type) (enc : TypeId × Value → H) :
    ReturnsInHanded {} Tryz.checked os 4 .any (fun w args => (Rows.yardNilSpec.pre enc Tryz.prog Tryz.f4 [] false w args ∧ laidMetH Tryz.prog laid1 w) ∧ sizedMet enc Tryz.prog Tryz.f4 (OpenSpec.ofChange Rows.yardNilSpec) false w args)
      (Rows.yardNilSpec.post enc Tryz.prog Tryz.f4 false true false false) := by
  refine returnsInHanded_of_change_and (C := Tryz.checked) (X := fun w _ => laidMetH Tryz.prog laid1 w) (fun _ _ _ hh h => h.of_heap hh) own started (by kernel_rfl) Tryz.func4
    (ChangeSpec.witness_shaped (enc := enc) (C := Tryz.checked) (os := os) (X := fun w _ => laidMetH Tryz.prog laid1 w) false (World.doorLaid Tryz.prog 400 os) #[stepV 0 0 0 0 none 0 0, .agg #[.int .i64 0, .int .i64 0, .int .i64 0, .int .i64 0]] 8 rfl (World.shaped_of_RefB (by kernel_rfl) (by kernel_rfl)) (by kernel_rfl) (by kernel_rfl) (by kernel_rfl) (door_met os _)) ?_
  intro W base args ds gs before hval0 hW _ _ hL _
  have hval : ∀ (j : Nat) t v, Tryz.f4.params[j]? = some t → args[j]? = some v → Value.okWide Tryz.prog W .any base t v := hval0
  have hW' := hW
  obtain ⟨p, q, hA0, hV, rfl, hfz, hnd⟩ := hW
  have hA : DataW.TrodAll enc Tryz.prog W 0 (fun _ => true) true Tryz.f4.params.toList args.toList ds p := hA0
  rw [Tryz.params4] at hA hval
  obtain ⟨v0, vs0, d0, ds0, p0, q0, hargs, rfl, rfl, h0, r0⟩ := trodAll_cons hA
  obtain ⟨v1, vs1, d1, ds1, p1, q1, rfl, rfl, rfl, h1, r1⟩ := trodAll_cons r0
  obtain ⟨rfl, rfl, rfl⟩ := trodAll_nil r1
  obtain rfl : args = #[v0, v1] := by cases args; simp_all
  obtain ⟨rfl, rfl⟩ := trodVars_none hV
  have k0 := h0
  have k1 := h1
  have lt0 : ∀ x ∈ p0, x.block < W.heap.size := by obtain ⟨m, hm⟩ := k0; exact DataW.trod_lt m _ _ _ hm
  have lt1 : ∀ x ∈ p1, x.block < W.heap.size := by obtain ⟨m, hm⟩ := k1; exact DataW.trod_lt m _ _ _ hm
  obtain ⟨p, q, k, t, ad, len, cap, rfl, wp, wq, wk, wt, hlen⟩ := open_step (hval 0 57 v0 rfl rfl) h0
  obtain ⟨c0, c1, c2, c3, y0, y1, y2, y3, m, rfl, hd0, hp0, hy0, hy1, hy2, hy3⟩ := open_agg4 Tryz.underlying32 (by kernel_rfl) cells32 (hval 1 32 v1 rfl rfl) h1
  obtain ⟨n0, e0, _, w0⟩ := DataW.trod_int Tryz.underlying3 hy0
  obtain ⟨n1, e1, _, w1⟩ := DataW.trod_int Tryz.underlying3 hy1
  obtain ⟨n2, e2, _, w2⟩ := DataW.trod_int Tryz.underlying3 hy2
  obtain ⟨n3, e3, _, w3⟩ := DataW.trod_int Tryz.underlying3 hy3
  cases e0; cases e1; cases e2; cases e3
  clear hA0 hval0
  refine (walk n0 n1 n2 n3 p q k t ad len cap W w0 w1 w2 w3 wp wq wk wt hlen).mono fun e W' ⟨he, bel⟩ => ?_
  subst he
  exact ⟨_, rfl, _, _, _, [], _, [], hW', trodAll_mk1 (shut_bool Tryz.underlying4 _), (trodAll_cons_mk (Below.trod laidOut (by kernel_rfl) (of_decide_eq_true (by kernel_rfl)) k0 bel lt0) (trodAll_cons_mk (Below.trod laidOut (by kernel_rfl) (of_decide_eq_true (by kernel_rfl)) k1 bel lt1) trodAll_mk0)), rfl, bel.frame _, fun h => by cases h⟩

theorem over : Rows.YardNilSaid :=
  OpenClaim.holds_of_wide 4 Tryz.f4 rfl rfl rfl rfl rfl rfl rfl ⟨rfl, rfl, rfl, rfl, rfl⟩ rfl rfl rfl rfl rfl (by kernel_rfl) Tryz.func4 (by kernel_rfl)
    (of_decide_eq_true (by kernel_rfl)) (by unfold Func.isWrapper; first | (rw [if_pos (by decide +kernel)]; kernel_rfl) | (rw [if_neg (by decide +kernel)]; exact ⟨rfl, rfl⟩))
    (fun os started H enc _ => lifted os started H enc)

theorem proved : Rows.YardNilCardSaid :=
  Claim7.holds_tied_plain_at .later [] [.data] true (true, "ad0ca9c3ff82c80078ba9893d1cd0b3d21d17960e47356263c5bd23242414deb") true
    over (fun _ h => by cases h) (by kernel_rfl) (fun _ h => by cases h) yardNil_row_tie rfl ⟨rfl, rfl⟩ (by kernel_rfl) rfl
    (fun f fn hf hfn => by
      obtain rfl : f = 4 := Option.some.inj ((show Tryz.prog.funcNamed "coachyard/coachyardlaw19.YardNil" = some 4 by kernel_rfl).symm.trans hf) |>.symm
      obtain rfl : fn = Tryz.f4 := (Option.some.inj (Tryz.func4.symm.trans hfn)).symm
      exact ⟨by kernel_rfl, fun j t ht => by
        rw [Tryz.params4] at ht
        have hm : t ∈ [57, 32] := by simpa using Array.mem_of_getElem? ht
        have hall : ([57, 32].all fun u => !Tryz.prog.wantsStandIn u) = true := by kernel_rfl
        exact (show Tryz.prog.wantsStandIn t = false by simpa using List.all_eq_true.1 hall t hm)⟩)
    (by kernel_rfl)
#print axioms proved
end Go.Proofs.YtfpamakhkkdikaaGreatDoor.yardNil
