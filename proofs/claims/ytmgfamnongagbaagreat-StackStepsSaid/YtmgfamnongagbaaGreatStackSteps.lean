/- StackSteps: whatever the stack, the task and the answers, the law returns true, and they read as they did. No condition. The walks and the document's machines are run by the small machine at unknown numbers over the few blocks that each is made of (SkW, SkD), which states go together is shown (SkSim), and that a call sees nothing else (Vx31); the law's own loops are walked over that machine's semantics; slices.Grow by the kit's contract; the machine's answers are proved to be the model's. -/
import Derived.Test.YtmgfamnongagbaaGreatSkGrow
import Derived.Test.YtmgfamnongagbaaGreatVx19
import Derived.Test.YtmgfamnongagbaaGreatRows
import Derived.WalkKit
import Derived.ProofKit
import Derived.OpenShut
import Derived.ShutString
import Derived.ChangeOld
import Derived.ChangeArms
import Derived.Below
import Derived.Lib.SmallJoins
namespace Go.Proofs.YtmgfamnongagbaaGreat.stackSteps
open Go Go.ChangeShapes Go.WideShapes Go.ChangeAt Go.RowKit Go.Joins Go.Deep Go.Vx
open Go.Proofs.YtmgfamnongagbaaGreat.stk (tblS tblS_ok stackSteps_ok toldE U64 NH ArgP)

theorem walk {pa : Option Addr} {m c : Nat} {told : List (Int × Bool)} (at_ n v : Int) (w : World) (hT : stk.Told (readG w) (.rslice pa m c) told) (hu : ∀ p ∈ told, U64 p.1) :
    Calls Tryz.prog 3 #[.agg #[.int .i64 at_, .int .i64 n], .int .u64 v, .slice pa m c] w fun e w' => e = .returned (.bool true) ∧ Below w.heap.size w w' := by
  letI : Val := ⟨fun _ => 0, fun _ => undef, readG w⟩
  have hh : NH ⟨.nil, 0, readG w⟩ := fun b => by simp [AMem.get, Tr.get, isHeld]
  obtain ⟨r, M', hr, hrt⟩ := stackSteps_ok 0 ⟨.nil, 0, readG w⟩ Okg.nil hh at_ n v hu hT
  subst hrt
  have h1 : (callF tblS code 100000 (0 + 3) 3 [ArgP at_ n, .int .u64 v, .rslice pa m c] ⟨.nil, 0, readG w⟩).map (·.1) = some (.bool true) := by rw [hr]; rfl
  have hargs : concs (fun _ => none) [ArgP at_ n, .int .u64 v, .rslice pa m c] = some [.agg #[.int .i64 at_, .int .i64 n], .int .u64 v, .slice pa m c] := by simp [concs, conc]
  refine ((closed_of tblS_ok codeOk rfl h1 hargs rfl (fun _ => none) w _ (readG_ro w rfl) hargs).2).mono ?_
  rintro e w' ⟨v, g1, g2, g3⟩
  simp only [conc, Option.some.injEq] at g2
  subst g2
  exact ⟨g1, g3⟩

/-! The row. -/
theorem own : ownKnob Tryz.prog.godebug = none := by kernel_rfl
theorem laidOut : laidOutB Tryz.prog = true := by kernel_rfl
theorem cellsP : Tryz.prog.cellsOf 23 = 2 := by kernel_rfl
/-- what was told, as it came in -/
theorem told_of {H : Type} {enc : TypeId × Value → H} {W : World} {base : Nat} {spare : Nat → Bool} {held : Bool} {fuel : Nat} {v : Value} {x : DataW H × List MemPlace} (h : DataW.trod enc Tryz.prog W base spare held fuel 25 [v] = some x) :
    ∃ (pa : Option Addr) (m c : Nat) (told : List (Int × Bool)), v = .slice pa m c ∧ stk.Told (readG W) (.rslice pa m c) told ∧ ∀ p ∈ told, U64 p.1 := by
  rcases openRows Tryz.underlying25 Tryz.underlying70 (by kernel_rfl) (by kernel_rfl) h with h0 | ⟨a, len, cap, hcs, h1, h2, hi⟩
  · cases h0
    exact ⟨none, 0, 0, [], rfl, fun M _ => ⟨(fun e he => by cases he), .inl ⟨none, 0, rfl, fun j hj => by simp at hj⟩⟩, fun p hp => by cases hp⟩
  · cases hcs
    have key : ∀ i, ∃ (u : Int) (b : Bool), i < len → U64 u ∧ W.cell? (a.add (i * 2)) = some (.int .u64 u) ∧ W.cell? (a.add (i * 2 + 1)) = some (.bool b) := by
      intro i
      by_cases hlt : i < len
      · obtain ⟨n, hf⟩ := hi i hlt
        obtain ⟨v0, y0, k0, t0⟩ := hf 0 _ rfl
        obtain ⟨v1, y1, k1, t1⟩ := hf 1 _ rfl
        obtain ⟨u, e0, _, w0⟩ := DataW.trod_int Tryz.underlying24 t0
        obtain ⟨b, e1, _⟩ := DataW.trod_bool Tryz.underlying4 t1
        cases e0; cases e1
        simp only [Lit.wf, Bool.and_eq_true, decide_eq_true_eq] at w0
        exact ⟨u, b, fun _ => ⟨w0, k0, k1⟩⟩
      · exact ⟨0, false, fun h => absurd h hlt⟩
    refine ⟨some a, len, cap, (List.range len).map fun i => ((key i).choose, (key i).choose_spec.choose), rfl, fun M hM => ?_, fun p hp => ?_⟩
    · have hE : Els 2 (((List.range len).map fun i => ((key i).choose, (key i).choose_spec.choose)).map toldE) := fun e he => by
        obtain ⟨_, _, rfl⟩ := List.mem_map.1 he
        rfl
      refine ⟨hE, .inl ⟨some a, cap, by simp, fun j hj => ⟨a, rfl, ?_⟩⟩⟩
      have hj' : j < len * 2 := by simpa using hj
      have hlt : j / 2 < len := by omega
      have hlt' : j / 2 < (((List.range len).map fun i => ((key i).choose, (key i).choose_spec.choose)).map toldE).length := by simpa using hlt
      obtain ⟨_, c0, c1⟩ := (key (j / 2)).choose_spec.choose_spec hlt
      have e0 := hE.at_ (i := j / 2) (o := 0) hlt' (by omega)
      have e1 := hE.at_ (i := j / 2) (o := 1) hlt' (by omega)
      rw [hM]
      rcases (show j = j / 2 * 2 + 0 ∨ j = j / 2 * 2 + 1 by omega) with h | h
      · rw [h, e0, Nat.add_zero, readG_at c0 rfl]
        simp [toldE]
      · rw [h, e1, readG_at c1 rfl]
        simp [toldE]
    · obtain ⟨i, hi', rfl⟩ := List.mem_map.1 hp
      exact ((key i).choose_spec.choose_spec (List.mem_range.1 hi')).1
set_option maxRecDepth 100000 in
theorem lifted (os : Os) (started : os.Started) (H : Type) (enc : TypeId × Value → H) :
    ReturnsInHanded {} Tryz.checked os 3 .any (YtmgfamnongagbaaGreat.Rows.stackStepsSpec.pre6 enc Tryz.prog Tryz.f3 YtmgfamnongagbaaGreat.Rows.stackStepsRow.domain false) (YtmgfamnongagbaaGreat.Rows.stackStepsSpec.post enc Tryz.prog Tryz.f3 false true false false) := by
  refine returnsInHanded_of_change (C := Tryz.checked) own started (by kernel_rfl) Tryz.func3
    (ChangeSpec.witness6 (enc := enc) (C := Tryz.checked) false ⟨#[], #[.agg #[.int .i64 0, .int .i64 0], .int .u64 0, .slice none 0 0], []⟩ 8 (by kernel_rfl) (by kernel_rfl) (by kernel_rfl) (by kernel_rfl)) ?_
  intro W base args ds gs before hval0 hW hcnd _
  have hval : ∀ (j : Nat) t v, Tryz.f3.params[j]? = some t → args[j]? = some v → Value.okWide Tryz.prog W .any base t v := hval0
  have hW' := hW
  obtain ⟨p, q, hA0, hV, rfl, hfz, hnd⟩ := hW
  have hA : DataW.TrodAll enc Tryz.prog W 0 (fun _ => true) true Tryz.f3.params.toList args.toList ds p := hA0
  rw [Tryz.params3] at hA hval
  obtain ⟨v0, vs0, d0, ds0, p0, q0, hargs, rfl, rfl, h0, r0⟩ := trodAll_cons hA
  obtain ⟨v1, vs1, d1, ds1, p1, q1, rfl, rfl, rfl, h1, r1⟩ := trodAll_cons r0
  obtain ⟨v2, vs2, d2, ds2, p2, q2, rfl, rfl, rfl, h2, r2⟩ := trodAll_cons r1
  obtain ⟨rfl, rfl, rfl⟩ := trodAll_nil r2
  obtain rfl : args = #[v0, v1, v2] := by cases args; simp_all
  obtain ⟨rfl, rfl⟩ := trodVars_none hV
  have k0 := h0
  have k1 := h1
  have k2 := h2
  have lt0 : ∀ x ∈ p0, x.block < W.heap.size := by obtain ⟨m, hm⟩ := k0; exact DataW.trod_lt m _ _ _ hm
  have lt1 : ∀ x ∈ p1, x.block < W.heap.size := by obtain ⟨m, hm⟩ := k1; exact DataW.trod_lt m _ _ _ hm
  have lt2 : ∀ x ∈ p2, x.block < W.heap.size := by obtain ⟨m, hm⟩ := k2; exact DataW.trod_lt m _ _ _ hm
  obtain ⟨c0, c1, y0, y1, m0, rfl, hd0, hp0, hy0, hy1⟩ := open_agg2 Tryz.underlying23 (by kernel_rfl) cellsP (hval 0 23 v0 rfl rfl) h0
  obtain ⟨at_, e0, _, _⟩ := DataW.trod_int Tryz.underlying3 hy0
  obtain ⟨n, e1, _, _⟩ := DataW.trod_int Tryz.underlying3 hy1
  cases e0; cases e1
  obtain ⟨v, rfl, hz1, hp1', _⟩ := open_int Tryz.underlying24 (hval 1 24 v1 rfl rfl) h1
  obtain ⟨pa0, n0, ca0, rfl⟩ := okWide_slice Tryz.underlying25 (hval 2 25 v2 rfl rfl)
  obtain ⟨m2, hm2⟩ := h2
  obtain ⟨pa, m, c, told, ev, hT, hu⟩ := told_of (v := .slice pa0 n0 ca0) hm2
  cases ev
  clear hA0 hval0
  refine (walk at_ n v W hT hu).mono fun e W' ⟨he, bel⟩ => ?_
  subst he
  exact ⟨_, rfl, _, _, _, [], _, [], hW', trodAll_mk1 (shut_bool Tryz.underlying4 _), (trodAll_cons_mk (Below.trod laidOut (by kernel_rfl) (of_decide_eq_true (by kernel_rfl)) k0 bel lt0) (trodAll_cons_mk (Below.trod laidOut (by kernel_rfl) (of_decide_eq_true (by kernel_rfl)) k1 bel lt1) (trodAll_cons_mk (Below.trod laidOut (by kernel_rfl) (of_decide_eq_true (by kernel_rfl)) k2 bel lt2) trodAll_mk0))), rfl, bel.frame _, fun h => by cases h⟩

theorem over : YtmgfamnongagbaaGreat.Rows.stackStepsRow.holds YtmgfamnongagbaaGreat.Tryz.pinned (OpenSpec.ofChange YtmgfamnongagbaaGreat.Rows.stackStepsSpec) :=
  OpenClaim.holds_of_wide 3 Tryz.f3 rfl rfl rfl rfl rfl rfl rfl ⟨rfl, rfl, rfl, rfl, rfl⟩ rfl rfl rfl rfl rfl (by kernel_rfl) Tryz.func3 (by kernel_rfl)
    (of_decide_eq_true (by kernel_rfl)) (by unfold Func.isWrapper; first | (rw [if_pos (by decide +kernel)]; kernel_rfl) | (rw [if_neg (by decide +kernel)]; exact ⟨rfl, rfl⟩))
    (fun os started H enc _ => lifted os started H enc)

theorem proved : YtmgfamnongagbaaGreat.Rows.StackStepsSaid := over
#print axioms proved
end Go.Proofs.YtmgfamnongagbaaGreat.stackSteps
