/- The law StackSteps, walked: its own text. -/
import Derived.Test.YtmgfamnongagbaaGreatSkLaw
namespace Go.Proofs.YtmgfamnongagbaaGreat.stk
open Go Go.Vx
set_option maxRecDepth 20000 in
set_option maxHeartbeats 8000000 in
theorem stackSteps_ok (d : Nat) (M0 : AMem) (hok : Okg M0) (hh : NH M0) (at_ n v : Int) {told : List (Int × Bool)} (hu : ∀ p ∈ told, U64 p.1) {tv : AV} (ht : Told M0.g tv told) :
    Ans (callF tblS code 100000 (d + 3)) 3 [ArgP at_ n, .int .u64 v, tv] M0 fun r _ => r = .bool true := by
  refine Ans_of (tblS_none ⟨by decide, by decide⟩ _) (show code 3 = some c3 from by kernel_rfl) (by simp) fun t hd ha => ?_
  have h0 := ha 0 _ rfl
  have h1 := ha 1 _ rfl
  have h2 := ha 2 _ rfl
  clear ha
  refine W_seq (W_seqR (by simp only [runSeq_cons, runSeq_nil, evalArgs_nil, evalArgs_tmp, evalArgs_const, val1, putT, opI_move, opI_box, cells_agg, h0]; rfl) ?_)
  have s0 : Step M0 (M0.push (.cells [.int .i64 at_, .int .i64 n] 0 true none)) := (Step.refl hok).push (fun _ _ _ _ he => by cases he)
  have e0 := EvA.of_step s0 hh (fun _ => False)
  have g0 := get_push_self (k := .cells [.int .i64 at_, .int .i64 n] 0 true none) hok.1
  have n0 : (M0.push (.cells [.int .i64 at_, .int .i64 n] 0 true none)).n = M0.n + 1 := push_n
  generalize hA : M0.push (.cells [.int .i64 at_, .int .i64 n] 0 true none) = A at *
  have aw := awakeS (d + 1) A
  refine W_seq (W_seq (W_seqR (by simp only [runSeq_cons, runSeq_nil, evalArgs_nil, evalArgs_tmp, val1, putT, Tr.get_set_self, Tr.get_set_ne, hd _, ne_eq, Nat.reduceEqDiff, not_false_eq_true, decide_true, Nat.reduceLT, opI_not, opI_callF, aw, Bool.not_true]; rfl) ?_))
  refine W_cond (b := false) (by simp only [PArg.eval, Tr.get_set_self, Tr.get_set_ne, hd _, ne_eq, Nat.reduceEqDiff, not_false_eq_true, decide_true, Nat.reduceLT]; try rfl) (fun hb => by cases hb) (fun _ => W_skip ?_)
  show W _ _
  have hlr : opI .lenS [tv] A = some (.val (.int .i64 told.length) A) := by
    have := (ht A e0.g).len
    rwa [List.length_map] at this
  by_cases hbig : told.length > 100
  · have q1 : decide ((told.length : Int) > 100) = true := decide_eq_true (by omega)
    refine W_seq (W_seq (W_seqR (by simp only [runSeq_cons, runSeq_nil, evalArgs_nil, evalArgs_tmp, evalArgs_const, val1, putT, Tr.get_set_self, Tr.get_set_ne, hd _, ne_eq, Nat.reduceEqDiff, not_false_eq_true, decide_true, Nat.reduceLT, opI_move, opI_gtr, h2, hlr, q1]; rfl) ?_))
    refine W_cond (b := true) (by simp only [PArg.eval, Tr.get_set_self, Tr.get_set_ne, hd _, ne_eq, Nat.reduceEqDiff, not_false_eq_true, decide_true, Nat.reduceLT]; try rfl) (fun _ => ?_) (fun hb => by cases hb)
    refine W_seq (W_seqR (by simp only [runSeq_cons, runSeq_nil, evalArgs_nil, evalArgs_const, val1, putT, opI_move]; rfl) (W_ret ?_))
    exact ⟨_, fin_tmp (by simp only [Tr.get_set_self, Tr.get_set_ne, Tr.isSome_set, Option.isSome_some, hd _, ne_eq, Nat.reduceEqDiff, not_false_eq_true, decide_true, Nat.reduceLT]; try rfl), rfl⟩
  have q1 : decide ((told.length : Int) > 100) = false := decide_eq_false (by omega)
  refine W_seq (W_seq (W_seqR (by simp only [runSeq_cons, runSeq_nil, evalArgs_nil, evalArgs_tmp, evalArgs_const, val1, putT, Tr.get_set_self, Tr.get_set_ne, hd _, ne_eq, Nat.reduceEqDiff, not_false_eq_true, decide_true, Nat.reduceLT, opI_move, opI_gtr, h2, hlr, q1]; rfl) ?_))
  refine W_cond (b := false) (by simp only [PArg.eval, Tr.get_set_self, Tr.get_set_ne, hd _, ne_eq, Nat.reduceEqDiff, not_false_eq_true, decide_true, Nat.reduceLT]; try rfl) (fun hb => by cases hb) (fun _ => W_skip ?_)
  show W _ _
  -- the arena
  have LA := load_agg (n := 2) g0 rfl
  obtain ⟨M1, c1, e1⟩ := arena_ok at_ n A e0.ok e0.nh (d + 1)
  obtain ⟨M2, st2, e2, g2, l2⟩ := fill_new (z := [.int .i64 0, .int .i64 0]) (new := [.int .i64 (wrapF .i64 (at_ + 1)), .int .i64 n]) (n := 2) e1.ok e1.nh rfl rfl rfl
  refine W_seq (W_seqR (by simp only [runSeq_cons, runSeq_nil, evalArgs_nil, evalArgs_tmp, val1, putT, Tr.get_set_self, Tr.get_set_ne, hd _, ne_eq, Nat.reduceEqDiff, not_false_eq_true, decide_true, Nat.reduceLT, opI_callF, opI_new, LA, c1, st2]; rfl) ?_)
  have ev2 : EvA A M2 (fun _ => False) := e1.trans e2 (fun _ h => h) (fun _ _ h => h)
  have gA2 : M2.get M0.n = _ := (ev2.same M0.n (by omega) (fun h => h)).trans g0
  have n1 := e1.n
  -- may it be?
  obtain ⟨r, hr6, hr7⟩ := right_ok at_ n
  obtain ⟨M3, c3, e3⟩ := hr6 M2 e2.ok e2.nh (d + 1)
  obtain ⟨M4, c4, e4⟩ := hr7 M3 e3.ok e3.nh (d + 1)
  obtain ⟨M5, c5, e5⟩ := hr6 M4 e4.ok e4.nh (d + 1)
  have l0 : M0.n < M2.n := get_lt e2.ok.1 gA2
  have gA3 : M3.get M0.n = _ := (e3.same M0.n l0 (fun h => h)).trans gA2
  have gA4 : M4.get M0.n = _ := (e4.same M0.n (get_lt e3.ok.1 gA3) (fun h => h)).trans gA3
  have gA5 : M5.get M0.n = _ := (e5.same M0.n (get_lt e4.ok.1 gA4) (fun h => h)).trans gA4
  have gB3 : M3.get M1.n = _ := (e3.same M1.n (get_lt e2.ok.1 g2) (fun h => h)).trans g2
  have gB4 : M4.get M1.n = _ := (e4.same M1.n (get_lt e3.ok.1 gB3) (fun h => h)).trans gB3
  have gB5 : M5.get M1.n = _ := (e5.same M1.n (get_lt e4.ok.1 gB4) (fun h => h)).trans gB4
  have LA2 := load_agg (n := 2) gA2 rfl
  have La2 : opI (.load false 1) [.ptr (some (M0.n, 0))] M2 = some (.val (.int .i64 at_) M2) := load_own gA2 rfl
  have Ln2 : opI (.load false 1) [.ptr (some (M0.n, 1))] M2 = some (.val (.int .i64 n) M2) := load_own gA2 rfl
  have La3 : opI (.load false 1) [.ptr (some (M0.n, 0))] M3 = some (.val (.int .i64 at_) M3) := load_own gA3 rfl
  have Ln3 : opI (.load false 1) [.ptr (some (M0.n, 1))] M3 = some (.val (.int .i64 n) M3) := load_own gA3 rfl
  have LA4 := load_agg (n := 2) gA4 rfl
  have La5 : opI (.load false 1) [.ptr (some (M0.n, 0))] M5 = some (.val (.int .i64 at_) M5) := load_own gA5 rfl
  have Ln5 : opI (.load false 1) [.ptr (some (M0.n, 1))] M5 = some (.val (.int .i64 n) M5) := load_own gA5 rfl
  have Lb5 : opI (.load false 1) [.ptr (some (M1.n, 0))] M5 = some (.val (.int .i64 (wrapF .i64 (at_ + 1))) M5) := load_own gB5 rfl
  have Lc5 : opI (.load false 1) [.ptr (some (M1.n, 1))] M5 = some (.val (.int .i64 n) M5) := load_own gB5 rfl
  have i2 : isHeld (M2.get M2.n) = false := e2.nh _
  have i3 : isHeld (M3.get M2.n) = false := e3.nh _
  have i4 : isHeld (M4.get M2.n) = false := e4.nh _
  have i5 : isHeld (M5.get M2.n) = false := e5.nh _
  have xt : xorB true true = false := rfl
  have b1 : (wrapF .i64 (at_ + 1) != wrapF .i64 (at_ + 1)) = false := by simp
  have b2 : (n != n) = false := by simp
  refine W_seq (W_seq (W.mono (Q := fun x t' K => x = .normal ∧ K = M5 ∧ Dom t' 68 ∧ t'.get 3 = some (.ptr (some (M0.n, 0))) ∧ t'.get 1 = some (.int .u64 v) ∧ t'.get 2 = some tv ∧ t'.get 41 = some (.bool false)) ?_ ?_))
  · cases r with
    | true =>
      refine W_trace (M' := M5) rfl (by simp only [sameN_self, evalArgs_nil, evalArgs_tmp, evalArgs_const, val1, putT, Tr.get_set_self, Tr.get_set_ne, Tr.isSome_set, hd _, ne_eq, Nat.reduceEqDiff, not_false_eq_true, decide_true, Nat.reduceLT, opI_move, opI_neq, opI_add, opI_eqBool, opI_callF, opI_fieldP, opI_pick, Nat.zero_add, Nat.add_zero, trace_nil, trace_read, trace_eff, addR_some, addE_some, Bool.false_and, Bool.and_true, Bool.not_false, trace_gread (b := true), trace_gread (b := false), trace_geff (b := false), beq_self_eq_true, LA2, c3, La3, Ln3, c4, xt, LA4, c5, La5, Ln5, Lb5, Lc5, b1, b2, i2, i3, i4]; rfl) (by simp [checkRec, isLoad, sameAt, La2, Ln2, La3, Ln3, AV.beq]) rfl ?_
      exact ⟨rfl, rfl, by ((repeat (with_reducible apply Dom.set)); exact hd), by simp only [Tr.get_set_self, Tr.get_set_ne, hd _, ne_eq, Nat.reduceEqDiff, not_false_eq_true, decide_true, Nat.reduceLT], by simp only [Tr.get_set_ne, ne_eq, Nat.reduceEqDiff, not_false_eq_true, h1], by simp only [Tr.get_set_ne, ne_eq, Nat.reduceEqDiff, not_false_eq_true, h2], by simp only [Tr.get_set_self, Tr.get_set_ne, hd _, ne_eq, Nat.reduceEqDiff, not_false_eq_true, decide_true, Nat.reduceLT]; try rfl⟩
    | false =>
      refine W_trace (M' := M5) rfl (by simp only [sameN_self, evalArgs_nil, evalArgs_tmp, evalArgs_const, val1, putT, Tr.get_set_self, Tr.get_set_ne, Tr.isSome_set, hd _, ne_eq, Nat.reduceEqDiff, not_false_eq_true, decide_true, Nat.reduceLT, opI_move, opI_eqBool, opI_callF, opI_fieldP, opI_pick, Nat.zero_add, Nat.add_zero, trace_nil, trace_read, trace_eff, addR_some, addE_some, Bool.false_and, Bool.and_true, Bool.not_true, Bool.not_false, trace_gread (b := false), trace_geff (b := false), trace_sread, beq_self_eq_true, Bool.false_beq, LA2, c3, La3, Ln3, c4, xt, LA4, c5, i2, i3, i4]; rfl) (by simp [checkRec, isLoad, sameAt, La2, Ln2, La3, Ln3, AV.beq]) rfl ?_
      exact ⟨rfl, rfl, by ((repeat (with_reducible apply Dom.set)); exact hd), by simp only [Tr.get_set_self, Tr.get_set_ne, hd _, ne_eq, Nat.reduceEqDiff, not_false_eq_true, decide_true, Nat.reduceLT], by simp only [Tr.get_set_ne, ne_eq, Nat.reduceEqDiff, not_false_eq_true, h1], by simp only [Tr.get_set_ne, ne_eq, Nat.reduceEqDiff, not_false_eq_true, h2], by simp only [Tr.get_set_self, Tr.get_set_ne, hd _, ne_eq, Nat.reduceEqDiff, not_false_eq_true, decide_true, Nat.reduceLT]; try rfl⟩
  clear hd h0 h1 h2
  rintro x t' K ⟨rfl, rfl, hd, h3, h1, h2, g41⟩
  show W _ _
  refine W_cond (b := false) (by simp only [PArg.eval, g41]) (fun hb => by cases hb) (fun _ => W_skip ?_)
  show W _ _
  -- both
  obtain ⟨⟨Sw, D, p1, p2, ps⟩, Sw', D', p3, p4, ps'⟩ := starts at_ n v
  have hg5 : K.g = M0.g := by rw [e5.g, e4.g, e3.g, e2.g, e1.g, e0.g]
  obtain ⟨bw, bf, sv, K1, K2, K3, K4, k1, k2, k3, k4, v1, v2, v3, v4⟩ := both_ok d e5.ok e5.nh p1 p2 ps rfl rfl (by decide) (by decide) hu (tv := tv) (by rw [hg5]; exact ht) (by omega)
  obtain ⟨bw', bf', sv', K5, K6, K7, K8, k5, k6, k7, k8, v5, v6, v7, v8⟩ := both_ok d v4.ok v4.nh p3 p4 ps' rfl rfl (by decide) (by decide) hu (tv := tv) (by rw [v4.g, hg5]; exact ht) (by omega)
  have gK1 : K1.get M0.n = _ := v1.same _ _ gA5 rfl (fun h => h)
  have gK4 : K4.get M0.n = _ := v4.same _ _ gA5 rfl (fun h => h)
  have gK5 : K5.get M0.n = _ := v5.same _ _ gK4 rfl (fun h => h)
  have LAk := load_agg (n := 2) gA5 rfl
  have Lak1 : opI (.load false 1) [.ptr (some (M0.n, 0))] K1 = some (.val (.int .i64 at_) K1) := load_own gK1 rfl
  have Lnk1 : opI (.load false 1) [.ptr (some (M0.n, 1))] K1 = some (.val (.int .i64 n) K1) := load_own gK1 rfl
  have LAk4 := load_agg (n := 2) gK4 rfl
  have Lak4 : opI (.load false 1) [.ptr (some (M0.n, 0))] K4 = some (.val (.int .i64 at_) K4) := load_own gK4 rfl
  have Lnk4 : opI (.load false 1) [.ptr (some (M0.n, 1))] K4 = some (.val (.int .i64 n) K4) := load_own gK4 rfl
  have Lak5 : opI (.load false 1) [.ptr (some (M0.n, 0))] K5 = some (.val (.int .i64 at_) K5) := load_own gK5 rfl
  have Lnk5 : opI (.load false 1) [.ptr (some (M0.n, 1))] K5 = some (.val (.int .i64 n) K5) := load_own gK5 rfl
  have j0 : isHeld (K.get K.n) = false := e5.nh _
  have j1 : isHeld (K1.get K.n) = false := v1.nh _
  have j2 : isHeld (K2.get K.n) = false := v2.nh _
  have j3 : isHeld (K3.get K.n) = false := v3.nh _
  have j4 : isHeld (K4.get K.n) = false := v4.nh _
  have j5 : isHeld (K5.get K.n) = false := v5.nh _
  have j6 : isHeld (K6.get K.n) = false := v6.nh _
  have j7 : isHeld (K7.get K.n) = false := v7.nh _
  refine W_seq (W_trace (M' := K8) rfl (by simp only [sameN_self, evalArgs_nil, evalArgs_tmp, evalArgs_const, val1, putT, Tr.get_set_self, Tr.get_set_ne, Tr.isSome_set, hd _, ne_eq, Nat.reduceEqDiff, not_false_eq_true, decide_true, Nat.reduceLT, opI_move, opI_callF, opI_fieldP, opI_pick, Nat.zero_add, Nat.add_zero, trace_nil, trace_read, trace_eff, addR_some, addE_some, Bool.false_and, Bool.and_true, Bool.not_false, trace_gread (b := true), trace_geff (b := true), beq_self_eq_true, h3, h1, h2, LAk, k1, Lak1, Lnk1, k2, k3, k4, LAk4, k5, Lak5, Lnk5, k6, k7, k8, j0, j1, j2, j3, j4, j5, j6, j7]; rfl) (by simp [checkRec, isLoad, sameAt, La5, Ln5, Lak1, Lnk1, Lak4, Lnk4, Lak5, Lnk5, AV.beq]) rfl (W_ret ?_))
  exact ⟨_, fin_tmp (by simp only [Tr.get_set_self, Tr.get_set_ne, hd _, ne_eq, Nat.reduceEqDiff, not_false_eq_true, decide_true, Nat.reduceLT]; try rfl), rfl⟩
end Go.Proofs.YtmgfamnongagbaaGreat.stk
