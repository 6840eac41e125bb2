/- PoolNil: whatever the number and the call, the law returns true, and they read as they did. Condition: the package variable of the row holds what its text lays into it (the card ties it). The closed run of awake, and the runs over what comes in, of which nothing is known but the number's sign and the list's length, are run by the small machine, whose answers are proved to be the model's. -/
import Derived.Test.YtfpamakhkkdikaaGreatDoorT
import Derived.Test.YtfpamakhkkdikaaGreatDoorCards
import Derived.Test.YtfpamakhkkdikaaGreatDoorTie
import Derived.WalkKit
import Derived.ProofKit
import Derived.LaidMore
import Derived.OpenShut
import Derived.ShutString
import Derived.ChangeOld
import Derived.Below
import Derived.Deep.Slices
import Derived.Stop.Joined
import Derived.SevenTiedAt
import Derived.Lib.SmallJoins
namespace Go.Proofs.YtfpamakhkkdikaaGreatDoor.poolNil
open Go.ChangeShapes Go.WideShapes Go.ChangeAt Go.RowKit Go.Joins Go.Vx

/-! The runs. -/
theorem awake_run : (callF noTbl code 100000 2000 6 [] ⟨.nil, 0, []⟩).map (·.1) = some (.bool true) := by kernel_rfl
def tbl (f : FuncId) (args : List AV) : Option AV := if f = 6 then match args with
  | [] => some (.bool true)
  | _ => none else none
theorem tbl_ok [Val] (hg : Val.g = []) : TblOk Tryz.prog tbl := by
  intro f args r h
  unfold tbl at h
  split at h
  · rename_i hf
    subst hf
    cases args with
    | nil => cases h; exact closed_of (noTbl_ok _) codeOk hg awake_run rfl rfl
    | cons a l => cases h
  · cases h
def lo64 : Int := -9223372036854775808
def hi64 : Int := 9223372036854775807
def callA (lo hi : Nat) : AV := .agg [.oint .i64 (.var 1) lo64 hi64, .oint .u64 (.var 2) 0 18446744073709551615, .oslice 3 lo hi]
def run (x y : AV) : Bool := match callF tbl code 100000 2000 3 [x, y] ⟨.nil, 0, []⟩ with
  | some (.bool true, _) => true
  | _ => false
theorem run_neg : run (.oint .i64 (.var 0) lo64 (-1)) (callA 0 100) = true := by kernel_rfl
theorem run_pos : run (.oint .i64 (.var 0) 0 hi64) (callA 0 100) = true := by kernel_rfl
theorem run_big : run (.oint .i64 (.var 0) lo64 hi64) (callA 101 9223372036854775807) = true := by kernel_rfl

/-! What they tell. -/
abbrev V (a b c : Int) (s : Value) : Val where
  int := fun
    | 0 => a
    | 1 => b
    | _ => c
  any := fun _ => s
  g := []
theorem concs_nil [Val] {e : Env} : concs e [] = some [] := by simp [concs]
theorem conc_agg_of [Val] {e : Env} {cs : List AV} {vs : List Value} (h : concs e cs = some vs) : conc e (.agg cs) = some (.agg vs.toArray) := by simp [conc, h]
theorem walk (a b c : Int) (ad : Option Addr) (len cap : Nat) (w : World) (wa : (Lit.int .i64 a).wf = true) (wb : (Lit.int .i64 b).wf = true) (wc : (Lit.int .u64 c).wf = true) (hl : len ≤ 9223372036854775807) :
    Calls Tryz.prog 3 #[.int .i64 a, .agg #[.int .i64 b, .int .u64 c, .slice ad len cap]] w fun e w' => e = .returned (.bool true) ∧ Below w.heap.size w w' := by
  letI : Val := V a b c (.slice ad len cap)
  simp only [Lit.wf, Bool.and_eq_true, decide_eq_true_eq] at wa wb wc
  have i64 : ∀ (i : Nat) (n lo hi : Int), Val.int i = n → lo ≤ n → n ≤ hi → conc (fun _ => none) (.oint .i64 (.var i) lo hi) = some (.int .i64 n) := by
    intro i n lo hi hi' h1 h2
    have he : (SE.var i).eval = n := hi'
    simp only [conc, he]
    rw [if_pos ⟨h1, h2⟩]
  have u64 : conc (fun _ => none) (.oint .u64 (.var 2) 0 18446744073709551615) = some (.int .u64 c) := by
    have he : (SE.var 2).eval = c := rfl
    simp only [conc, he]
    rw [if_pos (show (0 : Int) ≤ c ∧ c ≤ 18446744073709551615 from wc)]
  have sl : ∀ lo hi : Nat, lo ≤ len → len ≤ hi → conc (fun _ => none) (.oslice 3 lo hi) = some (.slice ad len cap) := by
    intro lo hi h1 h2
    have he : Val.any 3 = .slice ad len cap := rfl
    simp only [conc, he]
    rw [if_pos ⟨h1, h2⟩]
  have key : ∀ (lo hi : Int) (l h : Nat), lo ≤ a → a ≤ hi → l ≤ len → len ≤ h → run (.oint .i64 (.var 0) lo hi) (callA l h) = true →
      Calls Tryz.prog 3 #[.int .i64 a, .agg #[.int .i64 b, .int .u64 c, .slice ad len cap]] w fun e w' => e = .returned (.bool true) ∧ Below w.heap.size w w' := by
    intro lo hi l h h1 h2 h3 h4 hr
    have hargs : concs (fun _ => none) [.oint .i64 (.var 0) lo hi, callA l h] = some [.int .i64 a, .agg #[.int .i64 b, .int .u64 c, .slice ad len cap]] := by
      exact concs_mk (i64 0 a lo hi rfl h1 h2) (concs_mk (conc_agg_of (concs_mk (i64 1 b lo64 hi64 rfl wb.1 wb.2) (concs_mk u64 (concs_mk (sl l h h3 h4) concs_nil)))) concs_nil)
    have hr1 : (callF tbl code 100000 2000 3 [.oint .i64 (.var 0) lo hi, callA l h] ⟨.nil, 0, []⟩).map (·.1) = some (.bool true) := by
      unfold run at hr
      cases hc : callF tbl code 100000 2000 3 [.oint .i64 (.var 0) lo hi, callA l h] ⟨.nil, 0, []⟩ with
      | none => rw [hc] at hr; cases hr
      | some p =>
        obtain ⟨v, M⟩ := p
        rw [hc] at hr
        split at hr
        · rename_i heq; cases heq; rfl
        · cases hr
    refine ((closed_of (tbl_ok rfl) codeOk rfl hr1 hargs rfl (fun _ => none) w _ (fun b l hm => by cases hm) hargs).2).mono ?_
    rintro e w' ⟨v, g1, g2, g3⟩
    simp only [conc, Option.some.injEq] at g2
    subst g2
    exact ⟨g1, g3⟩
  have e1 : IntKind.i64.min = lo64 := rfl
  have e2 : IntKind.i64.max = hi64 := rfl
  rw [e1, e2] at wa
  by_cases hlen : len ≤ 100
  · rcases Int.lt_or_le a 0 with ha | ha
    · exact key lo64 (-1) 0 100 wa.1 (by omega) (Nat.zero_le _) hlen run_neg
    · exact key 0 hi64 0 100 ha wa.2 (Nat.zero_le _) hlen run_pos
  · exact key lo64 hi64 101 9223372036854775807 wa.1 wa.2 (by omega) hl run_big

/-! The row. -/
theorem own : ownKnob Tryz.prog.godebug = none := by kernel_rfl
theorem laidOut : laidOutB Tryz.prog = true := by kernel_rfl
theorem cells25 : Tryz.prog.cellsOf 25 = 3 := by kernel_rfl
def laid1 : List (String × DataW Unit) := [("math/bits.deBruijn64tab", Rows.laid_math_bits_deBruijn64tab)]
theorem door_met (os : Os) (args : Array Value) : laidMetH Tryz.prog laid1 ((World.doorLaid Tryz.prog 400 os).forCall (fun _ _ => 0) ⟨#[], args, []⟩).memory :=
  laidMetH_of_parts3 (fuel := 8) (laidMet_of_run' 8 (by kernel_rfl) (by kernel_rfl)) (by kernel_rfl) (by kernel_rfl)
set_option maxRecDepth 100000 in
theorem lifted (os : Os) (started : os.Started) (H : Type) (enc : TypeId × Value → H) :
    ReturnsInHanded {} Tryz.checked os 3 .any (fun w args => (Rows.poolNilSpec.pre enc Tryz.prog Tryz.f3 [] false w args ∧ laidMetH Tryz.prog laid1 w) ∧ sizedMet enc Tryz.prog Tryz.f3 (OpenSpec.ofChange Rows.poolNilSpec) false w args)
      (Rows.poolNilSpec.post enc Tryz.prog Tryz.f3 false true false false) := by
  refine returnsInHanded_of_change_and (C := Tryz.checked) (X := fun w _ => laidMetH Tryz.prog laid1 w) (fun _ _ _ hh h => h.of_heap hh) own started (by kernel_rfl) Tryz.func3
    (ChangeSpec.witness_shaped (enc := enc) (C := Tryz.checked) (os := os) (X := fun w _ => laidMetH Tryz.prog laid1 w) false (World.doorLaid Tryz.prog 400 os) #[.int .i64 0, .agg #[.int .i64 0, .int .u64 0, .slice none 0 0]] 8 rfl (World.shaped_of_RefB (by kernel_rfl) (by kernel_rfl)) (by kernel_rfl) (by kernel_rfl) (by kernel_rfl) (door_met os _)) ?_
  intro W base args ds gs before hval0 hW _ _ hL _
  have hval : ∀ (j : Nat) t v, Tryz.f3.params[j]? = some t → args[j]? = some v → Value.okWide Tryz.prog W .any base t v := hval0
  have hW' := hW
  obtain ⟨p, q, hA0, hV, rfl, hfz, hnd⟩ := hW
  have hA : DataW.TrodAll enc Tryz.prog W 0 (fun _ => true) true Tryz.f3.params.toList args.toList ds p := hA0
  rw [Tryz.params3] at hA hval
  obtain ⟨v0, vs0, d0, ds0, p0, q0, hargs, rfl, rfl, h0, r0⟩ := trodAll_cons hA
  obtain ⟨v1, vs1, d1, ds1, p1, q1, rfl, rfl, rfl, h1, r1⟩ := trodAll_cons r0
  obtain ⟨rfl, rfl, rfl⟩ := trodAll_nil r1
  obtain rfl : args = #[v0, v1] := by cases args; simp_all
  obtain ⟨rfl, rfl⟩ := trodVars_none hV
  have k0 := h0
  have k1 := h1
  have lt0 : ∀ x ∈ p0, x.block < W.heap.size := by obtain ⟨m, hm⟩ := k0; exact DataW.trod_lt m _ _ _ hm
  have lt1 : ∀ x ∈ p1, x.block < W.heap.size := by obtain ⟨m, hm⟩ := k1; exact DataW.trod_lt m _ _ _ hm
  obtain ⟨n0, rfl, hz0, hp0', wf0⟩ := open_int Tryz.underlying3 (hval 0 3 v0 rfl rfl) h0
  obtain ⟨c0, c1, c2, y0, y1, y2, m, rfl, hd0, hp0, hy0, hy1, hy2⟩ := open_agg3 Tryz.underlying25 (by kernel_rfl) cells25 (hval 1 25 v1 rfl rfl) h1
  obtain ⟨m0, e0, _, w0⟩ := DataW.trod_int Tryz.underlying3 hy0
  obtain ⟨m1, e1, _, w1⟩ := DataW.trod_int Tryz.underlying22 hy1
  cases e0; cases e1
  obtain ⟨ad, len, cap, e2, hlen⟩ : ∃ (ad : Option Addr) (len cap : Nat), c2 = .slice ad len cap ∧ len ≤ 9223372036854775807 := by
    rcases Deep.open_slice Tryz.underlying23 hy2 with ⟨hc, _⟩ | ⟨a, len, cap, _, _, _, _, hc, _, h1, h2, _⟩
    · cases hc; exact ⟨none, 0, 0, rfl, by omega⟩
    · cases hc; unfold maxLen at h2; exact ⟨some a, len, cap, rfl, by omega⟩
  subst e2
  clear hA0 hval0
  refine (walk n0 m0 m1 ad len cap W (by assumption) w0 w1 hlen).mono fun e W' ⟨he, bel⟩ => ?_
  subst he
  exact ⟨_, rfl, _, _, _, [], _, [], hW', trodAll_mk1 (shut_bool Tryz.underlying4 _), (trodAll_cons_mk (Below.trod laidOut (by kernel_rfl) (of_decide_eq_true (by kernel_rfl)) k0 bel lt0) (trodAll_cons_mk (Below.trod laidOut (by kernel_rfl) (of_decide_eq_true (by kernel_rfl)) k1 bel lt1) trodAll_mk0)), rfl, bel.frame _, fun h => by cases h⟩

theorem over : Rows.PoolNilSaid :=
  OpenClaim.holds_of_wide 3 Tryz.f3 rfl rfl rfl rfl rfl rfl rfl ⟨rfl, rfl, rfl, rfl, rfl⟩ rfl rfl rfl rfl rfl (by kernel_rfl) Tryz.func3 (by kernel_rfl)
    (of_decide_eq_true (by kernel_rfl)) (by unfold Func.isWrapper; first | (rw [if_pos (by decide +kernel)]; kernel_rfl) | (rw [if_neg (by decide +kernel)]; exact ⟨rfl, rfl⟩))
    (fun os started H enc _ => lifted os started H enc)

theorem proved : Rows.PoolNilCardSaid :=
  Claim7.holds_tied_plain_at .later [] [.data] true (true, "ad0ca9c3ff82c80078ba9893d1cd0b3d21d17960e47356263c5bd23242414deb") true
    over (fun _ h => by cases h) (by kernel_rfl) (fun _ h => by cases h) poolNil_row_tie rfl ⟨rfl, rfl⟩ (by kernel_rfl) rfl
    (fun f fn hf hfn => by
      obtain rfl : f = 3 := Option.some.inj ((show Tryz.prog.funcNamed "coachyard/coachyardlaw14.PoolNil" = some 3 by kernel_rfl).symm.trans hf) |>.symm
      obtain rfl : fn = Tryz.f3 := (Option.some.inj (Tryz.func3.symm.trans hfn)).symm
      exact ⟨by kernel_rfl, fun j t ht => by
        rw [Tryz.params3] at ht
        have hm : t ∈ [3, 25] := by simpa using Array.mem_of_getElem? ht
        have hall : ([3, 25].all fun u => !Tryz.prog.wantsStandIn u) = true := by kernel_rfl
        exact (show Tryz.prog.wantsStandIn t = false by simpa using List.all_eq_true.1 hall t hm)⟩)
    (by kernel_rfl)
#print axioms proved
end Go.Proofs.YtfpamakhkkdikaaGreatDoor.poolNil
