/- The methods of a timer's heap: pointers to entries that know their places. -/
import Derived.Test.YtbjipmhdncfodaaTmWalk
namespace Go.Proofs.Ytbjipmhdncfodaa.grf
open Go Go.Vx

def cmp3 (a b : Int) : Int := if a < b then -1 else if a > b then 1 else 0
set_option maxHeartbeats 1000000 in
theorem nan_ok (d : Nat) (M : AMem) (x : Int) : callF tbl code 100000 (d + 1) 39 [.int .i64 x] M = some (.bool false, M) := by
  refine Ans.eq ?_
  refine Ans_of (tbl_none (by decide) _) (show code 39 = some c39 from by kernel_rfl) (by simp) fun t hd ha => ?_
  have h0 := ha 0 _ rfl
  clear ha
  have nn : (x != x) = false := by simp
  refine W_seq (W_seqR (by simp only [runSeq_cons, runSeq_nil, evalArgs_nil, evalArgs_const, val1, putT, opI_move]; rfl) ?_)
  refine W_seq (W_seqR (by simp only [runSeq_cons, runSeq_nil, evalArgs_nil, evalArgs_tmp, val1, putT, Tr.get_set_self, Tr.get_set_ne, hd _, ne_eq, Nat.reduceEqDiff, not_false_eq_true, decide_true, Nat.reduceLT, opI_move, opI_neq, h0, nn]; rfl) (W_ret ?_))
  exact ⟨_, fin_tmp (by simp only [Tr.get_set_self, Tr.get_set_ne, Option.isSome_some, hd _, ne_eq, Nat.reduceEqDiff, not_false_eq_true, decide_true, Nat.reduceLT]; try rfl), rfl, rfl⟩
set_option maxHeartbeats 1000000 in
theorem compare_ok (d : Nat) (M : AMem) (x y : Int) : callF tbl code 100000 (d + 2) 34 [.int .i64 x, .int .i64 y] M = some (.int .i64 (cmp3 x y), M) := by
  refine Ans.eq ?_
  refine Ans_of (tbl_none (by decide) _) (show code 34 = some c34 from by kernel_rfl) (by simp) fun t hd ha => ?_
  have h0 := ha 0 _ rfl
  have h1 := ha 1 _ rfl
  clear ha
  have n1 := nan_ok d M x
  have n2 := nan_ok d M y
  refine W_seq (W_seqR (by simp only [runSeq_cons, runSeq_nil, evalArgs_nil, evalArgs_const, val1, putT, opI_move]; rfl) (W_seq (W_seqR (by simp only [runSeq_cons, runSeq_nil, evalArgs_nil, evalArgs_tmp, val1, putT, Tr.get_set_self, Tr.get_set_ne, hd _, ne_eq, Nat.reduceEqDiff, not_false_eq_true, decide_true, Nat.reduceLT, opI_move, opI_callF, h0, n1]; rfl) (W_seq (W_seqR (by simp only [runSeq_cons, runSeq_nil, evalArgs_nil, evalArgs_tmp, val1, putT, Tr.get_set_self, Tr.get_set_ne, hd _, ne_eq, Nat.reduceEqDiff, not_false_eq_true, decide_true, Nat.reduceLT, opI_move, opI_callF, h1, n2]; rfl) ?_)))))
  refine W_seq (W_seq (W_seqR (by simp only [runSeq_cons, runSeq_nil, evalArgs_nil, evalArgs_tmp, val1, putT, Tr.get_set_self, Tr.get_set_ne, hd _, ne_eq, Nat.reduceEqDiff, not_false_eq_true, decide_true, Nat.reduceLT, opI_move]; rfl) ?_))
  refine W_cond (b := false) (by simp only [PArg.eval, Tr.get_set_self, Tr.get_set_ne, hd _, ne_eq, Nat.reduceEqDiff, not_false_eq_true, decide_true, Nat.reduceLT]; try rfl) (fun hb => by cases hb) (fun _ => W_skip ?_)
  show W _ _
  refine W_seq (W_seq (W_seqR (by simp only [runSeq_cons, runSeq_nil, evalArgs_nil, evalArgs_tmp, val1, putT, Tr.get_set_self, Tr.get_set_ne, hd _, ne_eq, Nat.reduceEqDiff, not_false_eq_true, decide_true, Nat.reduceLT, opI_move]; rfl) ?_))
  refine W_cond (b := false) (by simp only [PArg.eval, Tr.get_set_self, Tr.get_set_ne, hd _, ne_eq, Nat.reduceEqDiff, not_false_eq_true, decide_true, Nat.reduceLT]; try rfl) (fun hb => by cases hb) (fun _ => W_skip ?_)
  show W _ _
  refine W_seq (W_seq (W_seqR (by simp only [runSeq_cons, runSeq_nil, evalArgs_nil, evalArgs_tmp, val1, putT, Tr.get_set_self, Tr.get_set_ne, hd _, ne_eq, Nat.reduceEqDiff, not_false_eq_true, decide_true, Nat.reduceLT, opI_move, opI_lss, h0, h1]; rfl) ?_))
  by_cases c1 : x < y
  · have e1 : decide (x < y) = true := decide_eq_true c1
    refine W_cond (b := true) (by simp only [PArg.eval, Tr.get_set_self, Tr.get_set_ne, hd _, ne_eq, Nat.reduceEqDiff, not_false_eq_true, decide_true, Nat.reduceLT, e1]) (fun _ => ?_) (fun hb => by cases hb)
    refine W_seq (W_seqR (by simp only [runSeq_cons, runSeq_nil, evalArgs_nil, evalArgs_const, val1, putT, opI_move]; rfl) (W_ret ?_))
    exact ⟨_, fin_tmp (by simp only [Tr.get_set_self, Tr.get_set_ne, Option.isSome_some, hd _, ne_eq, Nat.reduceEqDiff, not_false_eq_true, decide_true, Nat.reduceLT]; try rfl), rfl, by unfold cmp3; rw [if_pos c1]; rfl⟩
  have e1 : decide (x < y) = false := decide_eq_false c1
  refine W_cond (b := false) (by simp only [PArg.eval, Tr.get_set_self, Tr.get_set_ne, hd _, ne_eq, Nat.reduceEqDiff, not_false_eq_true, decide_true, Nat.reduceLT, e1]) (fun hb => by cases hb) (fun _ => W_skip ?_)
  show W _ _
  refine W_seq (W_seq (W_seqR (by simp only [runSeq_cons, runSeq_nil, evalArgs_nil, evalArgs_tmp, val1, putT, Tr.get_set_self, Tr.get_set_ne, hd _, ne_eq, Nat.reduceEqDiff, not_false_eq_true, decide_true, Nat.reduceLT, opI_move, opI_gtr, h0, h1]; rfl) ?_))
  by_cases c2 : x > y
  · have e2 : decide (x > y) = true := decide_eq_true c2
    refine W_cond (b := true) (by simp only [PArg.eval, Tr.get_set_self, Tr.get_set_ne, hd _, ne_eq, Nat.reduceEqDiff, not_false_eq_true, decide_true, Nat.reduceLT, e2]) (fun _ => ?_) (fun hb => by cases hb)
    refine W_seq (W_seqR (by simp only [runSeq_cons, runSeq_nil, evalArgs_nil, evalArgs_const, val1, putT, opI_move]; rfl) (W_ret ?_))
    exact ⟨_, fin_tmp (by simp only [Tr.get_set_self, Tr.get_set_ne, Option.isSome_some, hd _, ne_eq, Nat.reduceEqDiff, not_false_eq_true, decide_true, Nat.reduceLT]; try rfl), rfl, by unfold cmp3; rw [if_neg c1, if_pos c2]; rfl⟩
  have e2 : decide (x > y) = false := decide_eq_false c2
  refine W_cond (b := false) (by simp only [PArg.eval, Tr.get_set_self, Tr.get_set_ne, hd _, ne_eq, Nat.reduceEqDiff, not_false_eq_true, decide_true, Nat.reduceLT, e2]) (fun hb => by cases hb) (fun _ => W_skip ?_)
  show W _ _
  refine W_seq (W_seqR (by simp only [runSeq_cons, runSeq_nil, evalArgs_nil, evalArgs_const, val1, putT, opI_move]; rfl) (W_ret ?_))
  exact ⟨_, fin_tmp (by simp only [Tr.get_set_self, Tr.get_set_ne, Option.isSome_some, hd _, ne_eq, Nat.reduceEqDiff, not_false_eq_true, decide_true, Nat.reduceLT]; try rfl), rfl, by unfold cmp3; rw [if_neg c1, if_neg c2]; rfl⟩
set_option maxHeartbeats 1000000 in
theorem nan64_ok (d : Nat) (M : AMem) (x : Int) : callF tbl code 100000 (d + 1) 38 [.int .i64 x] M = some (.bool false, M) := by
  refine Ans.eq ?_
  refine Ans_of (tbl_none (by decide) _) (show code 38 = some c38 from by kernel_rfl) (by simp) fun t hd ha => ?_
  have h0 := ha 0 _ rfl
  clear ha
  have nn : (x != x) = false := by simp
  refine W_seq (W_seqR (by simp only [runSeq_cons, runSeq_nil, evalArgs_nil, evalArgs_const, val1, putT, opI_move]; rfl) ?_)
  refine W_seq (W_seqR (by simp only [runSeq_cons, runSeq_nil, evalArgs_nil, evalArgs_tmp, val1, putT, Tr.get_set_self, Tr.get_set_ne, hd _, ne_eq, Nat.reduceEqDiff, not_false_eq_true, decide_true, Nat.reduceLT, opI_move, opI_neq, h0, nn]; rfl) (W_ret ?_))
  exact ⟨_, fin_tmp (by simp only [Tr.get_set_self, Tr.get_set_ne, Option.isSome_some, hd _, ne_eq, Nat.reduceEqDiff, not_false_eq_true, decide_true, Nat.reduceLT]; try rfl), rfl, rfl⟩
set_option maxHeartbeats 1000000 in
theorem compare64_ok (d : Nat) (M : AMem) (x y : Int) : callF tbl code 100000 (d + 2) 33 [.int .i64 x, .int .i64 y] M = some (.int .i64 (cmp3 x y), M) := by
  refine Ans.eq ?_
  refine Ans_of (tbl_none (by decide) _) (show code 33 = some c33 from by kernel_rfl) (by simp) fun t hd ha => ?_
  have h0 := ha 0 _ rfl
  have h1 := ha 1 _ rfl
  clear ha
  have n1 := nan64_ok d M x
  have n2 := nan64_ok d M y
  refine W_seq (W_seqR (by simp only [runSeq_cons, runSeq_nil, evalArgs_nil, evalArgs_const, val1, putT, opI_move]; rfl) (W_seq (W_seqR (by simp only [runSeq_cons, runSeq_nil, evalArgs_nil, evalArgs_tmp, val1, putT, Tr.get_set_self, Tr.get_set_ne, hd _, ne_eq, Nat.reduceEqDiff, not_false_eq_true, decide_true, Nat.reduceLT, opI_move, opI_callF, h0, n1]; rfl) (W_seq (W_seqR (by simp only [runSeq_cons, runSeq_nil, evalArgs_nil, evalArgs_tmp, val1, putT, Tr.get_set_self, Tr.get_set_ne, hd _, ne_eq, Nat.reduceEqDiff, not_false_eq_true, decide_true, Nat.reduceLT, opI_move, opI_callF, h1, n2]; rfl) ?_)))))
  refine W_seq (W_seq (W_seqR (by simp only [runSeq_cons, runSeq_nil, evalArgs_nil, evalArgs_tmp, val1, putT, Tr.get_set_self, Tr.get_set_ne, hd _, ne_eq, Nat.reduceEqDiff, not_false_eq_true, decide_true, Nat.reduceLT, opI_move]; rfl) ?_))
  refine W_cond (b := false) (by simp only [PArg.eval, Tr.get_set_self, Tr.get_set_ne, hd _, ne_eq, Nat.reduceEqDiff, not_false_eq_true, decide_true, Nat.reduceLT]; try rfl) (fun hb => by cases hb) (fun _ => W_skip ?_)
  show W _ _
  refine W_seq (W_seq (W_seqR (by simp only [runSeq_cons, runSeq_nil, evalArgs_nil, evalArgs_tmp, val1, putT, Tr.get_set_self, Tr.get_set_ne, hd _, ne_eq, Nat.reduceEqDiff, not_false_eq_true, decide_true, Nat.reduceLT, opI_move]; rfl) ?_))
  refine W_cond (b := false) (by simp only [PArg.eval, Tr.get_set_self, Tr.get_set_ne, hd _, ne_eq, Nat.reduceEqDiff, not_false_eq_true, decide_true, Nat.reduceLT]; try rfl) (fun hb => by cases hb) (fun _ => W_skip ?_)
  show W _ _
  refine W_seq (W_seq (W_seqR (by simp only [runSeq_cons, runSeq_nil, evalArgs_nil, evalArgs_tmp, val1, putT, Tr.get_set_self, Tr.get_set_ne, hd _, ne_eq, Nat.reduceEqDiff, not_false_eq_true, decide_true, Nat.reduceLT, opI_move, opI_lss, h0, h1]; rfl) ?_))
  by_cases c1 : x < y
  · have e1 : decide (x < y) = true := decide_eq_true c1
    refine W_cond (b := true) (by simp only [PArg.eval, Tr.get_set_self, Tr.get_set_ne, hd _, ne_eq, Nat.reduceEqDiff, not_false_eq_true, decide_true, Nat.reduceLT, e1]) (fun _ => ?_) (fun hb => by cases hb)
    refine W_seq (W_seqR (by simp only [runSeq_cons, runSeq_nil, evalArgs_nil, evalArgs_const, val1, putT, opI_move]; rfl) (W_ret ?_))
    exact ⟨_, fin_tmp (by simp only [Tr.get_set_self, Tr.get_set_ne, Option.isSome_some, hd _, ne_eq, Nat.reduceEqDiff, not_false_eq_true, decide_true, Nat.reduceLT]; try rfl), rfl, by unfold cmp3; rw [if_pos c1]; rfl⟩
  have e1 : decide (x < y) = false := decide_eq_false c1
  refine W_cond (b := false) (by simp only [PArg.eval, Tr.get_set_self, Tr.get_set_ne, hd _, ne_eq, Nat.reduceEqDiff, not_false_eq_true, decide_true, Nat.reduceLT, e1]) (fun hb => by cases hb) (fun _ => W_skip ?_)
  show W _ _
  refine W_seq (W_seq (W_seqR (by simp only [runSeq_cons, runSeq_nil, evalArgs_nil, evalArgs_tmp, val1, putT, Tr.get_set_self, Tr.get_set_ne, hd _, ne_eq, Nat.reduceEqDiff, not_false_eq_true, decide_true, Nat.reduceLT, opI_move, opI_gtr, h0, h1]; rfl) ?_))
  by_cases c2 : x > y
  · have e2 : decide (x > y) = true := decide_eq_true c2
    refine W_cond (b := true) (by simp only [PArg.eval, Tr.get_set_self, Tr.get_set_ne, hd _, ne_eq, Nat.reduceEqDiff, not_false_eq_true, decide_true, Nat.reduceLT, e2]) (fun _ => ?_) (fun hb => by cases hb)
    refine W_seq (W_seqR (by simp only [runSeq_cons, runSeq_nil, evalArgs_nil, evalArgs_const, val1, putT, opI_move]; rfl) (W_ret ?_))
    exact ⟨_, fin_tmp (by simp only [Tr.get_set_self, Tr.get_set_ne, Option.isSome_some, hd _, ne_eq, Nat.reduceEqDiff, not_false_eq_true, decide_true, Nat.reduceLT]; try rfl), rfl, by unfold cmp3; rw [if_neg c1, if_pos c2]; rfl⟩
  have e2 : decide (x > y) = false := decide_eq_false c2
  refine W_cond (b := false) (by simp only [PArg.eval, Tr.get_set_self, Tr.get_set_ne, hd _, ne_eq, Nat.reduceEqDiff, not_false_eq_true, decide_true, Nat.reduceLT, e2]) (fun hb => by cases hb) (fun _ => W_skip ?_)
  show W _ _
  refine W_seq (W_seqR (by simp only [runSeq_cons, runSeq_nil, evalArgs_nil, evalArgs_const, val1, putT, opI_move]; rfl) (W_ret ?_))
  exact ⟨_, fin_tmp (by simp only [Tr.get_set_self, Tr.get_set_ne, Option.isSome_some, hd _, ne_eq, Nat.reduceEqDiff, not_false_eq_true, decide_true, Nat.reduceLT]; try rfl), rfl, by unfold cmp3; rw [if_neg c1, if_neg c2]; rfl⟩
set_option maxHeartbeats 1000000 in
theorem or_ok (d : Nat) (M : AMem) {v : AV} {x y : Int} (hv : IRow M .i64 v [x, y]) : callF tbl code 100000 (d + 1) 32 [v] M = some (.int .i64 (if x = 0 then y else x), M) := by
  refine Ans.eq ?_
  refine Ans_of (tbl_none (by decide) _) (show code 32 = some c32 from by kernel_rfl) (by simp) fun t hd ha => ?_
  have h0 := ha 0 _ rfl
  clear ha
  have lv := hv.len
  refine W_seq (W_seqR (by simp only [runSeq_cons, runSeq_nil, evalArgs_nil, evalArgs_const, val1, putT, opI_move]; rfl) (W_seq (W_seqR (by simp only [runSeq_cons, runSeq_nil, evalArgs_nil, evalArgs_const, val1, putT, opI_move]; rfl) ?_)))
  refine W_seq (W_seq (W_seqR (by simp only [runSeq_cons, runSeq_nil, evalArgs_nil, evalArgs_tmp, evalArgs_const, val1, putT, Tr.get_set_self, Tr.get_set_ne, hd _, ne_eq, Nat.reduceEqDiff, not_false_eq_true, decide_true, Nat.reduceLT, opI_move, h0, lv]; rfl) (W_block (W_loop (fun k t M' => ∃ (i : Nat), k + i = 2 ∧ M' = M ∧ (∀ j, j < i → [x, y].getD j 0 = 0) ∧ Dom t 18 ∧ t.get 3 = some (.int .i64 0) ∧ t.get 6 = some v ∧ t.get 7 = some (.int .i64 2) ∧ t.get 8 = some (.int .i64 i)) (k := 2) (by omega) ?_ ?_))))
  · exact ⟨0, rfl, rfl, fun j hj => by omega, by ((repeat (with_reducible apply Dom.set)); exact hd), by simp only [Tr.get_set_self, Tr.get_set_ne, hd _, ne_eq, Nat.reduceEqDiff, not_false_eq_true, decide_true, Nat.reduceLT], by simp only [Tr.get_set_self, Tr.get_set_ne, hd _, ne_eq, Nat.reduceEqDiff, not_false_eq_true, decide_true, Nat.reduceLT], by simp only [Tr.get_set_self, Tr.get_set_ne, hd _, ne_eq, Nat.reduceEqDiff, not_false_eq_true, decide_true, Nat.reduceLT]; rfl, by simp only [Tr.get_set_self, Tr.get_set_ne, hd _, ne_eq, Nat.reduceEqDiff, not_false_eq_true, decide_true, Nat.reduceLT]; rfl⟩
  clear h0 hd
  intro k t M' ⟨i, hk, hM, hz, hd, h3, h6, h7, h8⟩
  subst hM
  refine W_seq (W_seqR (by simp only [runSeq_cons, runSeq_nil, evalArgs_nil, evalArgs_tmp, val1, putT, opI_lss, h7, h8]; rfl) (W_seq ?_))
  refine W_cond (by simp only [PArg.eval, Tr.get_set_self, hd _, decide_true, Nat.reduceLT]; rfl) (fun hb => ?_) (fun hb => ?_)
  · have hi : i < 2 := by
      have : (i : Int) < 2 := by simpa using hb
      omega
    obtain ⟨q, qq, q1, q2⟩ := hv.at_ (i := i) (by simpa using hi)
    have hget : ([x, y])[i]'(by simpa using hi) = [x, y].getD i 0 := by rw [List.getD_eq_getElem?_getD, List.getElem?_eq_getElem (by simpa using hi)]; rfl
    rw [hget] at q2
    refine W_skip (W_seq (W_block (W_seq (W_seqR (by simp only [runSeq_cons, runSeq_nil, evalArgs_nil, evalArgs_tmp, val1, putT, Tr.get_set_self, Tr.get_set_ne, hd _, ne_eq, Nat.reduceEqDiff, not_false_eq_true, decide_true, Nat.reduceLT, opI_move, h6, h8, q1, q2]; rfl) ?_))))
    show W _ _
    by_cases hne : [x, y].getD i 0 = 0
    · have en : ([x, y].getD i 0 != 0) = false := by simpa using hne
      refine W_seq (W_seqR (by simp only [runSeq_cons, runSeq_nil, evalArgs_nil, evalArgs_tmp, val1, putT, Tr.get_set_self, Tr.get_set_ne, hd _, ne_eq, Nat.reduceEqDiff, not_false_eq_true, decide_true, Nat.reduceLT, opI_move, opI_neq, h3, en]; rfl) ?_)
      refine W_cond (b := false) (by simp only [PArg.eval, Tr.get_set_self, Tr.get_set_ne, hd _, ne_eq, Nat.reduceEqDiff, not_false_eq_true, decide_true, Nat.reduceLT]; try rfl) (fun hb => by cases hb) (fun _ => W_skip ?_)
      show W _ _
      refine W_seqR (by simp only [runSeq_cons, runSeq_nil, evalArgs_nil, evalArgs_tmp, evalArgs_const, val1, putT, Tr.get_set_self, Tr.get_set_ne, hd _, ne_eq, Nat.reduceEqDiff, not_false_eq_true, decide_true, Nat.reduceLT, opI_move, opI_add, h8]; rfl) ?_
      refine ⟨k - 1, by omega, i + 1, by omega, rfl, fun j hj => ?_, by ((repeat (with_reducible apply Dom.set)); exact hd), by simp only [Tr.get_set_ne, ne_eq, Nat.reduceEqDiff, not_false_eq_true, h3], by simp only [Tr.get_set_ne, ne_eq, Nat.reduceEqDiff, not_false_eq_true, h6], by simp only [Tr.get_set_ne, ne_eq, Nat.reduceEqDiff, not_false_eq_true, h7], ?_⟩
      · rcases Nat.lt_or_ge j i with h | h
        · exact hz j h
        · rw [show j = i by omega]; exact hne
      · simp only [Tr.get_set_self, Tr.get_set_ne, hd _, ne_eq, Nat.reduceEqDiff, not_false_eq_true, decide_true, Nat.reduceLT]
        rw [wrapF_small (by omega) (by omega)]; rfl
    · have en : ([x, y].getD i 0 != 0) = true := by simpa using hne
      refine W_seq (W_seqR (by simp only [runSeq_cons, runSeq_nil, evalArgs_nil, evalArgs_tmp, val1, putT, Tr.get_set_self, Tr.get_set_ne, hd _, ne_eq, Nat.reduceEqDiff, not_false_eq_true, decide_true, Nat.reduceLT, opI_move, opI_neq, h3, en]; rfl) ?_)
      refine W_cond (b := true) (by simp only [PArg.eval, Tr.get_set_self, Tr.get_set_ne, hd _, ne_eq, Nat.reduceEqDiff, not_false_eq_true, decide_true, Nat.reduceLT]; try rfl) (fun _ => ?_) (fun hb => by cases hb)
      refine W_seq (W_seqR (by simp only [runSeq_cons, runSeq_nil, evalArgs_nil, evalArgs_tmp, val1, putT, Tr.get_set_self, Tr.get_set_ne, hd _, ne_eq, Nat.reduceEqDiff, not_false_eq_true, decide_true, Nat.reduceLT, opI_move]; rfl) (W_ret ?_))
      refine ⟨_, fin_tmp (by simp only [Tr.get_set_self, Tr.get_set_ne, hd _, ne_eq, Nat.reduceEqDiff, not_false_eq_true, decide_true, Nat.reduceLT]; try rfl), rfl, ?_⟩
      show AV.int .i64 _ = _
      congr 1
      rcases (show i = 0 ∨ i = 1 by omega) with rfl | rfl
      · have hx : x ≠ 0 := hne
        rw [if_neg hx]; rfl
      · have hx : x = 0 := hz 0 (by omega)
        rw [if_pos hx]; rfl
  refine W_exit ?_
  have hi : i = 2 := by
    have : ¬ (i : Int) < 2 := by simpa using hb
    omega
  subst hi
  show W _ _
  refine W_seq (W_seqR (by simp only [runSeq_cons, runSeq_nil, evalArgs_nil, evalArgs_tmp, val1, putT, Tr.get_set_self, Tr.get_set_ne, hd _, ne_eq, Nat.reduceEqDiff, not_false_eq_true, decide_true, Nat.reduceLT, opI_move, h3]; rfl) (W_ret ?_))
  refine ⟨_, fin_tmp (by simp only [Tr.get_set_self, Tr.get_set_ne, hd _, ne_eq, Nat.reduceEqDiff, not_false_eq_true, decide_true, Nat.reduceLT]; try rfl), rfl, ?_⟩
  have hx : x = 0 := hz 0 (by omega)
  have hy : y = 0 := hz 1 (by omega)
  show AV.int .i64 0 = _
  rw [if_pos hx, hy]

/-- an entry, and its block -/
structure En where
  at_ : Int
  task : Int
  n : Int
  b : Nat
def dEn : En := ⟨0, 0, 0, 0⟩
abbrev pP (x : En) : AV := .ptr (some (x.b, 0))
def eC (x : En) (p : Int) : List AV := [.int .i64 x.at_, .int .u64 x.task, .int .i64 x.n, .int .i64 p]
def eR (x : En) : List AV := [pP x]
def ltE (a b : En) : Bool := decide (a.at_ < b.at_ ∨ (a.at_ = b.at_ ∧ a.n < b.n))
theorem woE : WO ltE := ⟨fun a b h => by simp only [ltE, decide_eq_true_eq, decide_eq_false_iff_not] at *; omega, fun a b c h k => by simp only [ltE, decide_eq_false_iff_not] at *; omega⟩
def ordT (a b : En) : Int := if cmp3 a.at_ b.at_ = 0 then cmp3 a.n b.n else cmp3 a.at_ b.at_
theorem ordT_neg {a b : En} : decide (ordT a b < 0) = ltE a b := by
  unfold ordT ltE cmp3
  by_cases h1 : a.at_ < b.at_
  · simp only [h1, if_true]; simp
  · by_cases h2 : a.at_ > b.at_
    · simp only [h1, h2, if_true, if_false]; simp; omega
    · simp only [h1, h2, if_false, if_true]
      by_cases h3 : a.n < b.n
      · simp only [h3, if_true]; simp; omega
      · by_cases h4 : a.n > b.n
        · simp only [h3, h4, if_true, if_false]; simp
        · simp only [h3, h4, if_false]; simp
set_option maxRecDepth 20000 in
set_option maxHeartbeats 2000000 in
theorem cmpT_ok {a b : En} {p q : Int} (d : Nat) (M : AMem) (hok : Okg M) (ga : M.get a.b = some (.cells (eC a p) 0 true none)) (gb : M.get b.b = some (.cells (eC b q) 0 true none)) :
    Ans (callF tbl code 100000 (d + 3)) 28 [pP a, pP b] M fun r M' => r = .int .i64 (ordT a b) ∧ Step M M' := by
  refine Ans_of (tbl_none (by decide) _) (show code 28 = some c28 from by kernel_rfl) (by simp) fun t hd ha => ?_
  have h0 := ha 0 _ rfl
  have h1 := ha 1 _ rfl
  clear ha
  refine W_seq (W_seqR (by simp only [runSeq_cons, runSeq_nil, evalArgs_nil, evalArgs_const, val1, putT, opI_move]; rfl) ?_)
  have a0 := load_own (o := 0) ga rfl
  have b0 := load_own (o := 0) gb rfl
  have a2 := load_own (o := 2) ga rfl
  have b2 := load_own (o := 2) gb rfl
  have c1 := compare64_ok d M a.at_ b.at_
  have c2 := compare_ok d M a.n b.n
  have e3 : opI (.sliceLit 2 [.int .i64 0, .int .i64 0] [(0, 1), (1, 1)]) [.int .i64 (cmp3 a.at_ b.at_), .int .i64 (cmp3 a.n b.n)] M = some (.val (.slice (some (M.n, 0)) 2 2 false) (M.push (.cells [.int .i64 (cmp3 a.at_ b.at_), .int .i64 (cmp3 a.n b.n)] 0 true none))) := rfl
  have s3 := (Step.refl hok).push (k := .cells [.int .i64 (cmp3 a.at_ b.at_), .int .i64 (cmp3 a.n b.n)] 0 true none) (fun _ _ _ _ he => by cases he)
  have g3 := get_push_self (k := .cells [.int .i64 (cmp3 a.at_ b.at_), .int .i64 (cmp3 a.n b.n)] 0 true none) hok.1
  have r3 : IRow (M.push (.cells [.int .i64 (cmp3 a.at_ b.at_), .int .i64 (cmp3 a.n b.n)] 0 true none)) .i64 (.slice (some (M.n, 0)) 2 2 false) [cmp3 a.at_ b.at_, cmp3 a.n b.n] :=
    ⟨els_one, .inr (.inr ⟨M.n, 0, 2, false, _, 0, true, none, rfl, g3, by rw [push_n]; omega, by simp, by simp⟩)⟩
  have c4 := or_ok (d + 1) _ r3
  have q0 := held_none hok.1
  have q1 : isHeld ((M.push (.cells [.int .i64 (cmp3 a.at_ b.at_), .int .i64 (cmp3 a.n b.n)] 0 true none)).get M.n) = false := by rw [g3]; rfl
  refine W_seq (W_trace (M' := M.push (.cells [.int .i64 (cmp3 a.at_ b.at_), .int .i64 (cmp3 a.n b.n)] 0 true none)) rfl (by simp only [sameN_self, evalArgs_nil, evalArgs_tmp, val1, putT, Tr.get_set_self, Tr.get_set_ne, hd _, ne_eq, Nat.reduceEqDiff, not_false_eq_true, decide_true, Nat.reduceLT, opI_move, opI_callF, opI_fieldP, push_n, Nat.zero_add, Nat.add_zero, trace_nil, trace_read, trace_eff, addR_some, addE_some, Bool.and_true, Bool.not_false, h0, h1, opI_nilP, a0, b0, a2, b2, c1, c2, e3, c4, q0, q1]; rfl) (by simp [checkRec, isLoad, sameAt, a2, b2, AV.beq]) rfl (W_ret ?_))
  exact ⟨_, fin_tmp (by simp only [Tr.get_set_self, Tr.get_set_ne, Option.isSome_some, hd _, ne_eq, Nat.reduceEqDiff, not_false_eq_true, decide_true, Nat.reduceLT]; try rfl), rfl, s3⟩

section
variable {M0 A M : AMem} {tb γ : Nat} {l : List En} {v mp : AV} {nn now : Int}
theorem rowT_len (hv : RowI M0 M 1 γ v (l.map eR)) (hok : Ok M) : opI .lenS [v] M = some (.val (.int .i64 l.length) M) := by
  have := (hv.row hok).len
  rwa [List.length_map] at this
theorem rowT_at (hv : RowI M0 M 1 γ v (l.map eR)) (hok : Ok M) {i : Nat} (hi : i < l.length) : (∀ M', opI (.indexAddrS 1) [v, .int .i64 i] M' = some (.val (rowp v 1 i) M')) ∧ opI (.load false 1) [rowp v 1 i] M = some (.val (pP (l.getD i dEn)) M) := by
  have hi' : i < (l.map eR).length := by rw [List.length_map]; exact hi
  refine ⟨hv.idx hi', ?_⟩
  have := (hv.ld hok (by omega) hi').2 0 (pP (l.getD i dEn)) (by rw [List.getElem_map, List.getD_eq_getElem?_getD, List.getElem?_eq_getElem hi]; rfl)
  rwa [padd_z (hv.isP hi')] at this
theorem rowT_put (h : Step M0 M) (hv : RowI M0 M 1 γ v (l.map eR)) {i : Nat} (hi : i < l.length) (x : En) : ∃ M', opI (.store 1) [rowp v 1 i, pP x] M = some (.val (.tuple []) M') ∧ Step M0 M' ∧ RowI M0 M' 1 γ v ((l.set i x).map eR) ∧ Fr M M' (· = γ) ∧ M'.n = M.n := by
  obtain ⟨M', h1, h2, h3, h4, h5⟩ := hv.put h (i := i) (by rw [List.length_map]; exact hi) (x := pP x) rfl rfl
  exact ⟨M', h1, h2, by rw [List.map_set]; exact h3, h4, h5⟩
set_option maxHeartbeats 1000000 in
theorem lessT_ok (d : Nat) (h : Step M0 M) (hv : RowI M0 M 1 γ v (l.map eR)) (he : ∀ i, i < l.length → M.get (l.getD i dEn).b = some (.cells (eC (l.getD i dEn) i) 0 true none)) {i j : Nat} (hi : i < l.length) (hj : j < l.length) :
    Ans (callF tbl code 100000 (d + 4)) 73 [v, .int .i64 i, .int .i64 j] M fun r M' => r = .bool (ltE (l.getD i dEn) (l.getD j dEn)) ∧ Step M M' := by
  refine Ans_of (tbl_none (by decide) _) (show code 73 = some c73 from by kernel_rfl) (by simp) fun t hd ha => ?_
  have h0 := ha 0 _ rfl
  have h1 := ha 1 _ rfl
  have h2 := ha 2 _ rfl
  clear ha
  obtain ⟨a1, a2⟩ := rowT_at hv h.ok.1 hi
  obtain ⟨b1, b2⟩ := rowT_at hv h.ok.1 hj
  obtain ⟨_, M1, c1, rfl, s1⟩ := cmpT_ok d M h.ok (he i hi) (he j hj)
  have hh := held_none h.ok.1
  refine W_seq (W_seqR (by simp only [runSeq_cons, runSeq_nil, evalArgs_nil, evalArgs_const, val1, putT, opI_move]; rfl) ?_)
  refine W_seq (W_mix rfl (by simp only [sameN_self, evalArgs_nil, evalArgs_tmp, evalArgs_const, val1, putT, Tr.get_set_self, Tr.get_set_ne, hd _, ne_eq, Nat.reduceEqDiff, not_false_eq_true, decide_true, Nat.reduceLT, opI_move, opI_lss, opI_callF, runMix_nil, runMix_read, runMix_eff, h0, h1, h2, a1, a2, b1, b2, c1, hh]; rfl) (W_ret ?_))
  refine ⟨_, fin_tmp (by simp only [Tr.get_set_self, Tr.get_set_ne, Option.isSome_some, hd _, ne_eq, Nat.reduceEqDiff, not_false_eq_true, decide_true, Nat.reduceLT]; try rfl), ?_, s1⟩
  show AV.bool (decide (ordT _ _ < 0)) = _
  rw [ordT_neg]
set_option maxHeartbeats 1000000 in
theorem lenT_ok (d : Nat) (hok : Ok M) (hv : RowI M0 M 1 γ v (l.map eR)) : callF tbl code 100000 (d + 1) 72 [v] M = some (.int .i64 l.length, M) := by
  refine Ans.eq ?_
  refine Ans_of (tbl_none (by decide) _) (show code 72 = some c72 from by kernel_rfl) (by simp) fun t hd ha => ?_
  have h0 := ha 0 _ rfl
  clear ha
  have lv := rowT_len hv hok
  refine W_seq (W_seqR (by simp only [runSeq_cons, runSeq_nil, evalArgs_nil, evalArgs_const, val1, putT, opI_move]; rfl) ?_)
  refine W_seq (W_seqR (by simp only [runSeq_cons, runSeq_nil, evalArgs_nil, evalArgs_tmp, val1, putT, Tr.get_set_self, Tr.get_set_ne, hd _, ne_eq, Nat.reduceEqDiff, not_false_eq_true, decide_true, Nat.reduceLT, opI_move, h0, lv]; rfl) (W_ret ?_))
  exact ⟨_, fin_tmp (by simp only [Tr.get_set_self, Tr.get_set_ne, Option.isSome_some, hd _, ne_eq, Nat.reduceEqDiff, not_false_eq_true, decide_true, Nat.reduceLT]; try rfl), rfl, rfl⟩
end
end Go.Proofs.Ytbjipmhdncfodaa.grf
