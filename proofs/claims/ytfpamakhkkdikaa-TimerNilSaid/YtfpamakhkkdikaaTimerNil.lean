/- TimerNil: whatever the act, the law returns true, and the act reads as it did. No condition. The closed run of awake, and the run over the act's numbers, of which nothing is known, are run by the small machine, whose answers are proved to be the model's. -/
import Derived.Test.YtfpamakhkkdikaaT
import Derived.Test.YtfpamakhkkdikaaRows
import Derived.WalkKit
import Derived.ProofKit
import Derived.OpenShut
import Derived.ShutString
import Derived.ChangeOld
import Derived.Below
import Derived.Lib.SmallJoins
namespace Go.Proofs.Ytfpamakhkkdikaa.timerNil
open Go.ChangeShapes Go.WideShapes Go.ChangeAt Go.RowKit Go.Joins Go.Vx

/-! The runs. -/
theorem awake_run : (callF noTbl code 100000 2000 4 [] ⟨.nil, 0, []⟩).map (·.1) = some (.bool true) := by kernel_rfl
def tbl (f : FuncId) (args : List AV) : Option AV := if f = 4 then match args with
  | [] => some (.bool true)
  | _ => none else none
theorem tbl_ok [Val] (hg : Val.g = []) : TblOk Try.prog tbl := by
  intro f args r h
  unfold tbl at h
  split at h
  · rename_i hf
    subst hf
    cases args with
    | nil => cases h; exact closed_of (noTbl_ok _) codeOk hg awake_run rfl rfl
    | cons a l => cases h
  · cases h
def lo64 : Int := -9223372036854775808
def hi64 : Int := 9223372036854775807
def act : AV := .agg [.oint .u8 (.var 0) 0 255, .oint .i64 (.var 1) lo64 hi64, .oint .u64 (.var 2) 0 18446744073709551615, .oint .i64 (.var 3) lo64 hi64]
theorem law_run : (callF tbl code 100000 2000 3 [act] ⟨.nil, 0, []⟩).map (·.1) = some (.bool true) := by kernel_rfl

/-! What they tell. -/
abbrev V (a b c d : Int) : Val where
  int := fun
    | 0 => a
    | 1 => b
    | 2 => c
    | _ => d
  any := fun _ => undef
  g := []
theorem concs_nil [Val] {e : Env} : concs e [] = some [] := by simp [concs]
theorem conc_agg_of [Val] {e : Env} {cs : List AV} {vs : List Value} (h : concs e cs = some vs) : conc e (.agg cs) = some (.agg vs.toArray) := by simp [conc, h]
theorem walk (a b c d : Int) (w : World) (wa : (Lit.int .u8 a).wf = true) (wb : (Lit.int .i64 b).wf = true) (wc : (Lit.int .u64 c).wf = true) (wd : (Lit.int .i64 d).wf = true) :
    Calls Try.prog 3 #[.agg #[.int .u8 a, .int .i64 b, .int .u64 c, .int .i64 d]] w fun e w' => e = .returned (.bool true) ∧ Below w.heap.size w w' := by
  letI : Val := V a b c d
  have i8 : ∀ (i : Nat) (n : Int), Val.int i = n → (Lit.int .u8 n).wf = true → conc (fun _ => none) (.oint .u8 (.var i) 0 255) = some (.int .u8 n) := by
    intro i n hi hn
    simp only [Lit.wf, Bool.and_eq_true, decide_eq_true_eq] at hn
    have he : (SE.var i).eval = n := hi
    simp only [conc, he]
    rw [if_pos (show (0 : Int) ≤ n ∧ n ≤ 255 from hn)]
  have i64 : ∀ (i : Nat) (n : Int), Val.int i = n → (Lit.int .i64 n).wf = true → conc (fun _ => none) (.oint .i64 (.var i) lo64 hi64) = some (.int .i64 n) := by
    intro i n hi hn
    simp only [Lit.wf, Bool.and_eq_true, decide_eq_true_eq] at hn
    have he : (SE.var i).eval = n := hi
    simp only [conc, he]
    rw [if_pos (show lo64 ≤ n ∧ n ≤ hi64 from hn)]
  have u64 : ∀ (i : Nat) (n : Int), Val.int i = n → (Lit.int .u64 n).wf = true → conc (fun _ => none) (.oint .u64 (.var i) 0 18446744073709551615) = some (.int .u64 n) := by
    intro i n hi hn
    simp only [Lit.wf, Bool.and_eq_true, decide_eq_true_eq] at hn
    have he : (SE.var i).eval = n := hi
    simp only [conc, he]
    rw [if_pos (show (0 : Int) ≤ n ∧ n ≤ 18446744073709551615 from hn)]
  have hargs : concs (fun _ => none) [act] = some [.agg #[.int .u8 a, .int .i64 b, .int .u64 c, .int .i64 d]] := by
    exact concs_mk (conc_agg_of (concs_mk (i8 0 a rfl wa) (concs_mk (i64 1 b rfl wb) (concs_mk (u64 2 c rfl wc) (concs_mk (i64 3 d rfl wd) concs_nil))))) concs_nil
  refine ((closed_of (tbl_ok rfl) codeOk rfl law_run hargs rfl (fun _ => none) w _ (fun b l hm => by cases hm) hargs).2).mono ?_
  rintro e w' ⟨v, g1, g2, g3⟩
  simp only [conc, Option.some.injEq] at g2
  subst g2
  exact ⟨g1, g3⟩

/-! The row. -/
theorem own : ownKnob Try.prog.godebug = none := by kernel_rfl
theorem laidOut : laidOutB Try.prog = true := by kernel_rfl
theorem cells24 : Try.prog.cellsOf 24 = 4 := by kernel_rfl
set_option maxRecDepth 100000 in
theorem lifted (os : Os) (started : os.Started) (H : Type) (enc : TypeId × Value → H) :
    ReturnsInHanded {} Try.checked os 3 .any (Rows.timerNilSpec.pre6 enc Try.prog Try.f3 Rows.timerNilRow.domain false) (Rows.timerNilSpec.post enc Try.prog Try.f3 false true false false) := by
  refine returnsInHanded_of_change (C := Try.checked) own started (by kernel_rfl) Try.func3
    (ChangeSpec.witness6 (enc := enc) (C := Try.checked) false ⟨#[], #[.agg #[.int .u8 0, .int .i64 0, .int .u64 0, .int .i64 0]], []⟩ 8 (by kernel_rfl) (by kernel_rfl) (by kernel_rfl) (by kernel_rfl)) ?_
  intro W base args ds gs before hval0 hW hcnd _
  have hval : ∀ (j : Nat) t v, Try.f3.params[j]? = some t → args[j]? = some v → Value.okWide Try.prog W .any base t v := hval0
  have hW' := hW
  obtain ⟨p, q, hA0, hV, rfl, hfz, hnd⟩ := hW
  have hA : DataW.TrodAll enc Try.prog W 0 (fun _ => true) true Try.f3.params.toList args.toList ds p := hA0
  rw [Try.params3] at hA hval
  obtain ⟨v0, vs0, d0, ds0, p0, q0, hargs, rfl, rfl, h0, r0⟩ := trodAll_cons hA
  obtain ⟨rfl, rfl, rfl⟩ := trodAll_nil r0
  obtain rfl : args = #[v0] := by cases args; simp_all
  obtain ⟨rfl, rfl⟩ := trodVars_none hV
  have k0 := h0
  have lt0 : ∀ x ∈ p0, x.block < W.heap.size := by obtain ⟨m, hm⟩ := k0; exact DataW.trod_lt m _ _ _ hm
  obtain ⟨c0, c1, c2, c3, y0, y1, y2, y3, m, rfl, hd0, hp0, hy0, hy1, hy2, hy3⟩ := open_agg4 Try.underlying24 (by kernel_rfl) cells24 (hval 0 24 v0 rfl rfl) h0
  obtain ⟨n0, e0, _, w0⟩ := DataW.trod_int Try.underlying5 hy0
  obtain ⟨n1, e1, _, w1⟩ := DataW.trod_int Try.underlying2 hy1
  obtain ⟨n2, e2, _, w2⟩ := DataW.trod_int Try.underlying22 hy2
  obtain ⟨n3, e3, _, w3⟩ := DataW.trod_int Try.underlying3 hy3
  cases e0; cases e1; cases e2; cases e3
  clear hA0 hval0
  refine (walk n0 n1 n2 n3 W w0 w1 w2 w3).mono fun e W' ⟨he, bel⟩ => ?_
  subst he
  exact ⟨_, rfl, _, _, _, [], _, [], hW', trodAll_mk1 (shut_bool Try.underlying4 _), (trodAll_cons_mk (Below.trod laidOut (by kernel_rfl) (of_decide_eq_true (by kernel_rfl)) k0 bel lt0) trodAll_mk0), rfl, bel.frame _, fun h => by cases h⟩

theorem over : Rows.timerNilRow.holds Try.pinned (OpenSpec.ofChange Rows.timerNilSpec) :=
  OpenClaim.holds_of_wide 3 Try.f3 rfl rfl rfl rfl rfl rfl rfl ⟨rfl, rfl, rfl, rfl, rfl⟩ rfl rfl rfl rfl rfl (by kernel_rfl) Try.func3 (by kernel_rfl)
    (of_decide_eq_true (by kernel_rfl)) (by unfold Func.isWrapper; first | (rw [if_pos (by decide +kernel)]; kernel_rfl) | (rw [if_neg (by decide +kernel)]; exact ⟨rfl, rfl⟩))
    (fun os started H enc _ => lifted os started H enc)

theorem proved : Rows.TimerNilSaid := over
#print axioms proved
end Go.Proofs.Ytfpamakhkkdikaa.timerNil
