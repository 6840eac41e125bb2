/- The walks of the functions that compare calls and results. -/
import Derived.Test.YtoddncakdnmloaaDiTbl
import Derived.Test.YtoddncakdnmloaaVx22
namespace Go.Proofs.Ytoddncakdnmloaa.diary
open Go Go.Vx

set_option maxHeartbeats 1000000 in
theorem sameU_ok {k : IntKind} {u v : AV} {xs ys : List Int} (d : Nat) (M : AMem) (hu : IRow M k u xs) (hv : IRow M k v ys) (hn : xs.length < 90000) :
    callF tbl code 100000 (d + 1) 42 [u, v] M = some (.bool (decide (xs = ys)), M) := by
  refine Ans.eq ?_
  refine Ans_of (tbl_none (by decide) _) (show code 42 = some c42 from by kernel_rfl) (by simp) fun t hd ha => ?_
  have h0 := ha 0 u rfl
  have h1 := ha 1 v rfl
  have lu := hu.len
  have lv := hv.len
  clear ha
  refine W_seq (W_seqR (by simp only [runSeq_cons, runSeq_nil, evalArgs_nil, evalArgs_const, val1, putT, opI_move]; rfl) ?_)
  refine W_seq (W_seq (W_seqR (by simp only [runSeq_cons, runSeq_nil, evalArgs_nil, evalArgs_tmp, val1, putT, Tr.get_set_self, Tr.get_set_ne, hd _, ne_eq, Nat.reduceEqDiff, not_false_eq_true, decide_true, Nat.reduceLT, opI_move, opI_neq, h0, h1, lu, lv]; rfl) ?_))
  refine W_cond (by simp only [PArg.eval, Tr.get_set_self, Tr.get_set_ne, hd _, ne_eq, Nat.reduceEqDiff, not_false_eq_true, decide_true, Nat.reduceLT]; rfl) (fun hb => ?_) (fun hb => ?_)
  · refine W_seq (W_seqR (by simp only [runSeq_cons, runSeq_nil, evalArgs_nil, evalArgs_const, val1, putT, opI_move]; rfl) (W_ret ?_))
    refine ⟨_, fin_tmp (by simp only [Tr.get_set_self, Tr.get_set_ne, Option.isSome_some, hd _, ne_eq, Nat.reduceEqDiff, not_false_eq_true, decide_true, Nat.reduceLT]; rfl), rfl, ?_⟩
    have : xs ≠ ys := fun h => by subst h; simp at hb
    simp [resV, this]
  have hnm : xs.length = ys.length := by simp at hb; omega
  clear hb
  refine W_skip (W_seq (W_seq (W_seqR (by simp only [runSeq_cons, runSeq_nil, evalArgs_nil, evalArgs_const, val1, putT, opI_move]; rfl) (W_block (W_loop (fun k' t M' => ∃ i : Nat, k' + i = xs.length ∧ M' = M ∧ Dom t 26 ∧ t.get 0 = some u ∧ t.get 1 = some v ∧ t.get 5 = some (.int .i64 i) ∧ xs.take i = ys.take i) (k := xs.length) (by omega) ?_ ?_)))))
  · exact ⟨0, rfl, rfl, by ((repeat (with_reducible apply Dom.set)); exact hd), by simp only [Tr.get_set_ne, ne_eq, Nat.reduceEqDiff, not_false_eq_true, h0], by simp only [Tr.get_set_ne, ne_eq, Nat.reduceEqDiff, not_false_eq_true, h1], by simp only [Tr.get_set_self, Tr.get_set_ne, hd _, ne_eq, Nat.reduceEqDiff, not_false_eq_true, decide_true, Nat.reduceLT]; rfl, rfl⟩
  clear h0 h1 hd
  intro k' t' M' ⟨i, hk, hM, hd, h0, h1, h5, hj⟩
  subst hM
  refine W_seq (W_seq (W_seqR (by simp only [runSeq_cons, runSeq_nil, evalArgs_nil, evalArgs_tmp, val1, putT, Tr.get_set_self, Tr.get_set_ne, hd _, ne_eq, Nat.reduceEqDiff, not_false_eq_true, decide_true, Nat.reduceLT, opI_move, opI_lss, h0, h5, lu]; rfl) ?_))
  refine W_cond (by simp only [PArg.eval, Tr.get_set_self, Tr.get_set_ne, hd _, ne_eq, Nat.reduceEqDiff, not_false_eq_true, decide_true, Nat.reduceLT]; rfl) (fun hb => ?_) (fun hb => ?_)
  rotate_left
  · refine W_exit ?_
    have hin : i = xs.length := by simp at hb; omega
    show W _ _
    refine W_seq (W_seqR (by simp only [runSeq_cons, runSeq_nil, evalArgs_nil, evalArgs_const, val1, putT, opI_move]; rfl) (W_ret ?_))
    refine ⟨_, fin_tmp (by simp only [Tr.get_set_self, Tr.get_set_ne, hd _, ne_eq, Nat.reduceEqDiff, not_false_eq_true, decide_true, Nat.reduceLT]; rfl), rfl, ?_⟩
    have : xs = ys := by
      rw [hin, List.take_length, hnm, List.take_length] at hj; exact hj
    simp [resV, this]
  have hin : i < xs.length := by simpa using hb
  obtain ⟨p, _, e1, e2⟩ := hu.at_ hin
  obtain ⟨q, _, e3, e4⟩ := hv.at_ (i := i) (by omega)
  refine W_skip (W_seq (W_block (W_seq (W_quiet rfl (by simp only [runPure_cons, runPure_nil, ofD_cons, ofD_nil, sameN_self, evalArgs_nil, evalArgs_tmp, putT, Tr.get_set_self, Tr.get_set_ne, hd _, ne_eq, Nat.reduceEqDiff, not_false_eq_true, decide_true, Nat.reduceLT, opI_move, opI_neq, h0, h1, h5, e1, e2, e3, e4]; rfl) ?_))))
  refine W_cond (by simp only [PArg.eval, Tr.get_set_self, Tr.get_set_ne, hd _, ne_eq, Nat.reduceEqDiff, not_false_eq_true, decide_true, Nat.reduceLT]; rfl) (fun hb => ?_) (fun hb => ?_)
  · refine W_seq (W_seqR (by simp only [runSeq_cons, runSeq_nil, evalArgs_nil, evalArgs_const, val1, putT, opI_move]; rfl) (W_ret ?_))
    refine ⟨_, fin_tmp (by simp only [Tr.get_set_self, Tr.get_set_ne, hd _, ne_eq, Nat.reduceEqDiff, not_false_eq_true, decide_true, Nat.reduceLT]; rfl), rfl, ?_⟩
    have h : xs[i] ≠ ys[i] := by simpa using hb
    have : xs ≠ ys := fun he => h (by subst he; rfl)
    simp [resV, this]
  have hfg : xs[i] = ys[i] := by simpa using hb
  refine W_skip (W_seqR (by simp only [runSeq_cons, runSeq_nil, evalArgs_nil, evalArgs_tmp, evalArgs_const, val1, putT, Tr.get_set_self, Tr.get_set_ne, hd _, ne_eq, Nat.reduceEqDiff, not_false_eq_true, decide_true, Nat.reduceLT, opI_move, opI_add, h5]; rfl) ?_)
  refine ⟨k' - 1, by omega, i + 1, by omega, rfl, by ((repeat (with_reducible apply Dom.set)); exact hd), by simp only [Tr.get_set_ne, ne_eq, Nat.reduceEqDiff, not_false_eq_true, h0], by simp only [Tr.get_set_ne, ne_eq, Nat.reduceEqDiff, not_false_eq_true, h1], ?_, ?_⟩
  · simp only [Tr.get_set_self, Tr.get_set_ne, hd _, ne_eq, Nat.reduceEqDiff, not_false_eq_true, decide_true, Nat.reduceLT]
    rw [wrapF_small (by omega) (by omega)]; rfl
  · rw [List.take_succ_eq_append_getElem hin, List.take_succ_eq_append_getElem (by omega), hj, hfg]

set_option maxHeartbeats 1000000 in
theorem sameI_ok {k : IntKind} {u v : AV} {xs ys : List Int} (d : Nat) (M : AMem) (hu : IRow M k u xs) (hv : IRow M k v ys) (hn : xs.length < 90000) :
    callF tbl code 100000 (d + 1) 13 [u, v] M = some (.bool (decide (xs = ys)), M) := by
  refine Ans.eq ?_
  refine Ans_of (tbl_none (by decide) _) (show code 13 = some c13 from by kernel_rfl) (by simp) fun t hd ha => ?_
  have h0 := ha 0 u rfl
  have h1 := ha 1 v rfl
  have lu := hu.len
  have lv := hv.len
  clear ha
  refine W_seq (W_seqR (by simp only [runSeq_cons, runSeq_nil, evalArgs_nil, evalArgs_const, val1, putT, opI_move]; rfl) ?_)
  refine W_seq (W_seq (W_seqR (by simp only [runSeq_cons, runSeq_nil, evalArgs_nil, evalArgs_tmp, val1, putT, Tr.get_set_self, Tr.get_set_ne, hd _, ne_eq, Nat.reduceEqDiff, not_false_eq_true, decide_true, Nat.reduceLT, opI_move, opI_neq, h0, h1, lu, lv]; rfl) ?_))
  refine W_cond (by simp only [PArg.eval, Tr.get_set_self, Tr.get_set_ne, hd _, ne_eq, Nat.reduceEqDiff, not_false_eq_true, decide_true, Nat.reduceLT]; rfl) (fun hb => ?_) (fun hb => ?_)
  · refine W_seq (W_seqR (by simp only [runSeq_cons, runSeq_nil, evalArgs_nil, evalArgs_const, val1, putT, opI_move]; rfl) (W_ret ?_))
    refine ⟨_, fin_tmp (by simp only [Tr.get_set_self, Tr.get_set_ne, Option.isSome_some, hd _, ne_eq, Nat.reduceEqDiff, not_false_eq_true, decide_true, Nat.reduceLT]; rfl), rfl, ?_⟩
    have : xs ≠ ys := fun h => by subst h; simp at hb
    simp [resV, this]
  have hnm : xs.length = ys.length := by simp at hb; omega
  clear hb
  refine W_skip (W_seq (W_seq (W_seqR (by simp only [runSeq_cons, runSeq_nil, evalArgs_nil, evalArgs_const, val1, putT, opI_move]; rfl) (W_block (W_loop (fun k' t M' => ∃ i : Nat, k' + i = xs.length ∧ M' = M ∧ Dom t 26 ∧ t.get 0 = some u ∧ t.get 1 = some v ∧ t.get 5 = some (.int .i64 i) ∧ xs.take i = ys.take i) (k := xs.length) (by omega) ?_ ?_)))))
  · exact ⟨0, rfl, rfl, by ((repeat (with_reducible apply Dom.set)); exact hd), by simp only [Tr.get_set_ne, ne_eq, Nat.reduceEqDiff, not_false_eq_true, h0], by simp only [Tr.get_set_ne, ne_eq, Nat.reduceEqDiff, not_false_eq_true, h1], by simp only [Tr.get_set_self, Tr.get_set_ne, hd _, ne_eq, Nat.reduceEqDiff, not_false_eq_true, decide_true, Nat.reduceLT]; rfl, rfl⟩
  clear h0 h1 hd
  intro k' t' M' ⟨i, hk, hM, hd, h0, h1, h5, hj⟩
  subst hM
  refine W_seq (W_seq (W_seqR (by simp only [runSeq_cons, runSeq_nil, evalArgs_nil, evalArgs_tmp, val1, putT, Tr.get_set_self, Tr.get_set_ne, hd _, ne_eq, Nat.reduceEqDiff, not_false_eq_true, decide_true, Nat.reduceLT, opI_move, opI_lss, h0, h5, lu]; rfl) ?_))
  refine W_cond (by simp only [PArg.eval, Tr.get_set_self, Tr.get_set_ne, hd _, ne_eq, Nat.reduceEqDiff, not_false_eq_true, decide_true, Nat.reduceLT]; rfl) (fun hb => ?_) (fun hb => ?_)
  rotate_left
  · refine W_exit ?_
    have hin : i = xs.length := by simp at hb; omega
    show W _ _
    refine W_seq (W_seqR (by simp only [runSeq_cons, runSeq_nil, evalArgs_nil, evalArgs_const, val1, putT, opI_move]; rfl) (W_ret ?_))
    refine ⟨_, fin_tmp (by simp only [Tr.get_set_self, Tr.get_set_ne, hd _, ne_eq, Nat.reduceEqDiff, not_false_eq_true, decide_true, Nat.reduceLT]; rfl), rfl, ?_⟩
    have : xs = ys := by
      rw [hin, List.take_length, hnm, List.take_length] at hj; exact hj
    simp [resV, this]
  have hin : i < xs.length := by simpa using hb
  obtain ⟨p, _, e1, e2⟩ := hu.at_ hin
  obtain ⟨q, _, e3, e4⟩ := hv.at_ (i := i) (by omega)
  refine W_skip (W_seq (W_block (W_seq (W_quiet rfl (by simp only [runPure_cons, runPure_nil, ofD_cons, ofD_nil, sameN_self, evalArgs_nil, evalArgs_tmp, putT, Tr.get_set_self, Tr.get_set_ne, hd _, ne_eq, Nat.reduceEqDiff, not_false_eq_true, decide_true, Nat.reduceLT, opI_move, opI_neq, h0, h1, h5, e1, e2, e3, e4]; rfl) ?_))))
  refine W_cond (by simp only [PArg.eval, Tr.get_set_self, Tr.get_set_ne, hd _, ne_eq, Nat.reduceEqDiff, not_false_eq_true, decide_true, Nat.reduceLT]; rfl) (fun hb => ?_) (fun hb => ?_)
  · refine W_seq (W_seqR (by simp only [runSeq_cons, runSeq_nil, evalArgs_nil, evalArgs_const, val1, putT, opI_move]; rfl) (W_ret ?_))
    refine ⟨_, fin_tmp (by simp only [Tr.get_set_self, Tr.get_set_ne, hd _, ne_eq, Nat.reduceEqDiff, not_false_eq_true, decide_true, Nat.reduceLT]; rfl), rfl, ?_⟩
    have h : xs[i] ≠ ys[i] := by simpa using hb
    have : xs ≠ ys := fun he => h (by subst he; rfl)
    simp [resV, this]
  have hfg : xs[i] = ys[i] := by simpa using hb
  refine W_skip (W_seqR (by simp only [runSeq_cons, runSeq_nil, evalArgs_nil, evalArgs_tmp, evalArgs_const, val1, putT, Tr.get_set_self, Tr.get_set_ne, hd _, ne_eq, Nat.reduceEqDiff, not_false_eq_true, decide_true, Nat.reduceLT, opI_move, opI_add, h5]; rfl) ?_)
  refine ⟨k' - 1, by omega, i + 1, by omega, rfl, by ((repeat (with_reducible apply Dom.set)); exact hd), by simp only [Tr.get_set_ne, ne_eq, Nat.reduceEqDiff, not_false_eq_true, h0], by simp only [Tr.get_set_ne, ne_eq, Nat.reduceEqDiff, not_false_eq_true, h1], ?_, ?_⟩
  · simp only [Tr.get_set_self, Tr.get_set_ne, hd _, ne_eq, Nat.reduceEqDiff, not_false_eq_true, decide_true, Nat.reduceLT]
    rw [wrapF_small (by omega) (by omega)]; rfl
  · rw [List.take_succ_eq_append_getElem hin, List.take_succ_eq_append_getElem (by omega), hj, hfg]

set_option maxHeartbeats 1000000 in
theorem equal_ok {k : IntKind} {u v : AV} {xs ys : List Int} (d : Nat) (M : AMem) (hu : IRow M k u xs) (hv : IRow M k v ys) (hn : xs.length < 90000) :
    callF tbl code 100000 (d + 1) 69 [u, v] M = some (.bool (decide (xs = ys)), M) := by
  refine Ans.eq ?_
  refine Ans_of (tbl_none (by decide) _) (show code 69 = some c69 from by kernel_rfl) (by simp) fun t hd ha => ?_
  have h0 := ha 0 u rfl
  have h1 := ha 1 v rfl
  have lu := hu.len
  have lv := hv.len
  clear ha
  refine W_seq (W_seqR (by simp only [runSeq_cons, runSeq_nil, evalArgs_nil, evalArgs_const, val1, putT, opI_move]; rfl) ?_)
  refine W_seq (W_seq (W_seqR (by simp only [runSeq_cons, runSeq_nil, evalArgs_nil, evalArgs_tmp, val1, putT, Tr.get_set_self, Tr.get_set_ne, hd _, ne_eq, Nat.reduceEqDiff, not_false_eq_true, decide_true, Nat.reduceLT, opI_move, opI_neq, h0, h1, lu, lv]; rfl) ?_))
  refine W_cond (by simp only [PArg.eval, Tr.get_set_self, Tr.get_set_ne, hd _, ne_eq, Nat.reduceEqDiff, not_false_eq_true, decide_true, Nat.reduceLT]; rfl) (fun hb => ?_) (fun hb => ?_)
  · refine W_seq (W_seqR (by simp only [runSeq_cons, runSeq_nil, evalArgs_nil, evalArgs_const, val1, putT, opI_move]; rfl) (W_ret ?_))
    refine ⟨_, fin_tmp (by simp only [Tr.get_set_self, Tr.get_set_ne, Option.isSome_some, hd _, ne_eq, Nat.reduceEqDiff, not_false_eq_true, decide_true, Nat.reduceLT]; rfl), rfl, ?_⟩
    have : xs ≠ ys := fun h => by subst h; simp at hb
    simp [resV, this]
  have hnm : xs.length = ys.length := by simp at hb; omega
  clear hb
  refine W_skip (W_seq (W_seq (W_seqR (by simp only [runSeq_cons, runSeq_nil, evalArgs_nil, evalArgs_tmp, evalArgs_const, val1, putT, Tr.get_set_self, Tr.get_set_ne, hd _, ne_eq, Nat.reduceEqDiff, not_false_eq_true, decide_true, Nat.reduceLT, opI_move, h0, lu]; rfl) (W_block (W_loop (fun k' t M' => ∃ i : Nat, k' + i = xs.length ∧ M' = M ∧ Dom t 26 ∧ t.get 0 = some u ∧ t.get 1 = some v ∧ t.get 12 = some (.int .i64 xs.length) ∧ t.get 13 = some (.int .i64 i) ∧ xs.take i = ys.take i) (k := xs.length) (by omega) ?_ ?_)))))
  · exact ⟨0, rfl, rfl, by ((repeat (with_reducible apply Dom.set)); exact hd), by simp only [Tr.get_set_ne, ne_eq, Nat.reduceEqDiff, not_false_eq_true, h0], by simp only [Tr.get_set_ne, ne_eq, Nat.reduceEqDiff, not_false_eq_true, h1], by simp only [Tr.get_set_self, Tr.get_set_ne, hd _, ne_eq, Nat.reduceEqDiff, not_false_eq_true, decide_true, Nat.reduceLT], by simp only [Tr.get_set_self, Tr.get_set_ne, hd _, ne_eq, Nat.reduceEqDiff, not_false_eq_true, decide_true, Nat.reduceLT]; rfl, rfl⟩
  clear h0 h1 hd
  intro k' t' M' ⟨i, hk, hM, hd, h0, h1, h12, h13, hj⟩
  subst hM
  refine W_seq (W_seqR (by simp only [runSeq_cons, runSeq_nil, evalArgs_nil, evalArgs_tmp, val1, putT, opI_lss, h12, h13]; rfl) (W_seq ?_))
  refine W_cond (by simp only [PArg.eval, Tr.get_set_self, hd _, decide_true, Nat.reduceLT]; rfl) (fun hb => ?_) (fun hb => ?_)
  rotate_left
  · refine W_exit ?_
    have hin : i = xs.length := by simp at hb; omega
    show W _ _
    refine W_seq (W_seqR (by simp only [runSeq_cons, runSeq_nil, evalArgs_nil, evalArgs_const, val1, putT, opI_move]; rfl) (W_ret ?_))
    refine ⟨_, fin_tmp (by simp only [Tr.get_set_self, Tr.get_set_ne, hd _, ne_eq, Nat.reduceEqDiff, not_false_eq_true, decide_true, Nat.reduceLT]; rfl), rfl, ?_⟩
    have : xs = ys := by
      rw [hin, List.take_length, hnm, List.take_length] at hj; exact hj
    simp [resV, this]
  have hin : i < xs.length := by simpa using hb
  obtain ⟨p, _, e1, e2⟩ := hu.at_ hin
  obtain ⟨q, _, e3, e4⟩ := hv.at_ (i := i) (by omega)
  refine W_skip (W_seq (W_block (W_seq (W_seqR (by simp only [runSeq_cons, runSeq_nil, evalArgs_nil, evalArgs_tmp, val1, putT, Tr.get_set_self, Tr.get_set_ne, hd _, ne_eq, Nat.reduceEqDiff, not_false_eq_true, decide_true, Nat.reduceLT, opI_move, h13]; rfl) (W_seq (W_quiet rfl (by simp only [runPure_cons, runPure_nil, ofD_cons, ofD_nil, sameN_self, evalArgs_nil, evalArgs_tmp, putT, Tr.get_set_self, Tr.get_set_ne, hd _, ne_eq, Nat.reduceEqDiff, not_false_eq_true, decide_true, Nat.reduceLT, opI_move, opI_neq, h0, h1, e1, e2, e3, e4]; rfl) ?_))))))
  refine W_cond (by simp only [PArg.eval, Tr.get_set_self, Tr.get_set_ne, hd _, ne_eq, Nat.reduceEqDiff, not_false_eq_true, decide_true, Nat.reduceLT]; rfl) (fun hb => ?_) (fun hb => ?_)
  · refine W_seq (W_seqR (by simp only [runSeq_cons, runSeq_nil, evalArgs_nil, evalArgs_const, val1, putT, opI_move]; rfl) (W_ret ?_))
    refine ⟨_, fin_tmp (by simp only [Tr.get_set_self, Tr.get_set_ne, hd _, ne_eq, Nat.reduceEqDiff, not_false_eq_true, decide_true, Nat.reduceLT]; rfl), rfl, ?_⟩
    have h : xs[i] ≠ ys[i] := by simpa using hb
    have : xs ≠ ys := fun he => h (by subst he; rfl)
    simp [resV, this]
  have hfg : xs[i] = ys[i] := by simpa using hb
  refine W_skip (W_seqR (by simp only [runSeq_cons, runSeq_nil, evalArgs_nil, evalArgs_tmp, evalArgs_const, val1, putT, Tr.get_set_self, Tr.get_set_ne, hd _, ne_eq, Nat.reduceEqDiff, not_false_eq_true, decide_true, Nat.reduceLT, opI_move, opI_add, h13]; rfl) ?_)
  refine ⟨k' - 1, by omega, i + 1, by omega, rfl, by ((repeat (with_reducible apply Dom.set)); exact hd), by simp only [Tr.get_set_ne, ne_eq, Nat.reduceEqDiff, not_false_eq_true, h0], by simp only [Tr.get_set_ne, ne_eq, Nat.reduceEqDiff, not_false_eq_true, h1], by simp only [Tr.get_set_ne, ne_eq, Nat.reduceEqDiff, not_false_eq_true, h12], ?_, ?_⟩
  · simp only [Tr.get_set_self, Tr.get_set_ne, hd _, ne_eq, Nat.reduceEqDiff, not_false_eq_true, decide_true, Nat.reduceLT]
    rw [wrapF_small (by omega) (by omega)]; rfl
  · rw [List.take_succ_eq_append_getElem hin, List.take_succ_eq_append_getElem (by omega), hj, hfg]

set_option maxHeartbeats 1000000 in
theorem sameResult_ok {c1 c2 v1 v2 : Int} {u v : AV} {xs ys : List Int} (d : Nat) (M : AMem) (hu : IRow M .u64 u xs) (hv : IRow M .u64 v ys) (hn : xs.length < 90000) (hok : Okg M) :
    Ans (callF tbl code 100000 (d + 2)) 34 [.agg [.int .i64 c1, .int .u64 v1, u], .agg [.int .i64 c2, .int .u64 v2, v]] M fun r M' => Step M M' ∧ r = .bool (decide (c1 = c2 ∧ v1 = v2 ∧ xs = ys)) := by
  refine Ans_of (tbl_none (by decide) _) (show code 34 = some c34 from by kernel_rfl) (by simp) fun t hd ha => ?_
  have h0 := ha 0 _ rfl
  have h1 := ha 1 _ rfl
  clear ha
  refine W_seq (W_seqR (by simp only [runSeq_cons, runSeq_nil, evalArgs_nil, evalArgs_tmp, evalArgs_const, val1, putT, Tr.get_set_ne, ne_eq, Nat.reduceEqDiff, not_false_eq_true, opI_move, opI_box, cells_agg, push_n, h0, h1]; rfl) ?_)
  have s1 := (Step.refl hok).push (k := .cells [.int .i64 c1, .int .u64 v1, u] 0 true none) (fun _ _ _ _ he => by cases he)
  have s2 := s1.push (k := .cells [.int .i64 c2, .int .u64 v2, v] 0 true none) (fun _ _ _ _ he => by cases he)
  have ga := (get_push_old (k := .cells [.int .i64 c2, .int .u64 v2, v] 0 true none) s1.ok.1 (show M.n < M.n + 1 by omega)).trans (get_push_self (k := .cells [.int .i64 c1, .int .u64 v1, u] 0 true none) hok.1)
  have gb := get_push_self (k := .cells [.int .i64 c2, .int .u64 v2, v] 0 true none) s1.ok.1
  simp only [push_n] at gb
  have a0 := load_own (o := 0) ga rfl
  have a1 := load_own (o := 1) ga rfl
  have a2 := load_own (o := 2) ga rfl
  have b0 := load_own (o := 0) gb rfl
  have b1 := load_own (o := 1) gb rfl
  have b2 := load_own (o := 2) gb rfl
  have he := sameU_ok d _ (hu.grow s2.grow) (hv.grow s2.grow) hn
  cases hk : (c1 == c2) <;> cases htt : (v1 == v2)
  all_goals
    refine W_seq (W_seqR (by simp only [runSeq_cons, runSeq_nil, evalArgs_nil, evalArgs_tmp, evalArgs_const, val1, putT, Tr.get_set_self, Tr.get_set_ne, Tr.isSome_set, hd _, ne_eq, Nat.reduceEqDiff, not_false_eq_true, decide_true, Nat.reduceLT, opI_move, opI_eql, opI_callF, opI_fieldP, opI_pick, Nat.zero_add, Nat.add_zero, runSeq_guard (b := true), runSeq_guard (b := false), beq_self_eq_true, Bool.false_beq, Bool.not_true, a0, a1, a2, b0, b1, b2, hk, htt, he]; rfl) (W_ret ?_))
    refine ⟨_, fin_tmp (by simp only [Tr.get_set_self, Tr.get_set_ne, Tr.isSome_set, Option.isSome_some, hd _, ne_eq, Nat.reduceEqDiff, not_false_eq_true, decide_true, Nat.reduceLT]; rfl), s2, ?_⟩
    simp only [beq_eq_false_iff_ne, ne_eq, beq_iff_eq] at hk htt
    simp [resV, hk, htt]

set_option maxHeartbeats 1000000 in
theorem sameCall_ok {c1 c2 v1 v2 : Int} {u v : AV} {xs ys : List Int} (d : Nat) (M : AMem) (hu : IRow M .i64 u xs) (hv : IRow M .i64 v ys) (hn : xs.length < 90000) (hok : Okg M) :
    Ans (callF tbl code 100000 (d + 2)) 33 [.agg [.int .i64 c1, .int .u64 v1, u], .agg [.int .i64 c2, .int .u64 v2, v]] M fun r M' => Step M M' ∧ r = .bool (decide (c1 = c2 ∧ v1 = v2 ∧ xs = ys)) := by
  refine Ans_of (tbl_none (by decide) _) (show code 33 = some c33 from by kernel_rfl) (by simp) fun t hd ha => ?_
  have h0 := ha 0 _ rfl
  have h1 := ha 1 _ rfl
  clear ha
  refine W_seq (W_seqR (by simp only [runSeq_cons, runSeq_nil, evalArgs_nil, evalArgs_tmp, evalArgs_const, val1, putT, Tr.get_set_ne, ne_eq, Nat.reduceEqDiff, not_false_eq_true, opI_move, opI_box, cells_agg, push_n, h0, h1]; rfl) ?_)
  have s1 := (Step.refl hok).push (k := .cells [.int .i64 c1, .int .u64 v1, u] 0 true none) (fun _ _ _ _ he => by cases he)
  have s2 := s1.push (k := .cells [.int .i64 c2, .int .u64 v2, v] 0 true none) (fun _ _ _ _ he => by cases he)
  have ga := (get_push_old (k := .cells [.int .i64 c2, .int .u64 v2, v] 0 true none) s1.ok.1 (show M.n < M.n + 1 by omega)).trans (get_push_self (k := .cells [.int .i64 c1, .int .u64 v1, u] 0 true none) hok.1)
  have gb := get_push_self (k := .cells [.int .i64 c2, .int .u64 v2, v] 0 true none) s1.ok.1
  simp only [push_n] at gb
  have a0 := load_own (o := 0) ga rfl
  have a1 := load_own (o := 1) ga rfl
  have a2 := load_own (o := 2) ga rfl
  have b0 := load_own (o := 0) gb rfl
  have b1 := load_own (o := 1) gb rfl
  have b2 := load_own (o := 2) gb rfl
  have he := sameI_ok d _ (hu.grow s2.grow) (hv.grow s2.grow) hn
  cases hk : (c1 == c2) <;> cases htt : (v1 == v2)
  all_goals
    refine W_seq (W_seqR (by simp only [runSeq_cons, runSeq_nil, evalArgs_nil, evalArgs_tmp, evalArgs_const, val1, putT, Tr.get_set_self, Tr.get_set_ne, Tr.isSome_set, hd _, ne_eq, Nat.reduceEqDiff, not_false_eq_true, decide_true, Nat.reduceLT, opI_move, opI_eql, opI_callF, opI_fieldP, opI_pick, Nat.zero_add, Nat.add_zero, runSeq_guard (b := true), runSeq_guard (b := false), beq_self_eq_true, Bool.false_beq, Bool.not_true, a0, a1, a2, b0, b1, b2, hk, htt, he]; rfl) (W_ret ?_))
    refine ⟨_, fin_tmp (by simp only [Tr.get_set_self, Tr.get_set_ne, Tr.isSome_set, Option.isSome_some, hd _, ne_eq, Nat.reduceEqDiff, not_false_eq_true, decide_true, Nat.reduceLT]; rfl), s2, ?_⟩
    simp only [beq_eq_false_iff_ne, ne_eq, beq_iff_eq] at hk htt
    simp [resV, hk, htt]

set_option maxHeartbeats 1000000 in
theorem same_ok {c1 c2 v1 v2 : Int} {u v : AV} {xs ys : List Int} (d : Nat) (M : AMem) (hu : IRow M .i64 u xs) (hv : IRow M .i64 v ys) (hn : xs.length < 90000) (hok : Okg M) :
    Ans (callF tbl code 100000 (d + 2)) 60 [.agg [.int .i64 c1, .int .u64 v1, u], .agg [.int .i64 c2, .int .u64 v2, v]] M fun r M' => Step M M' ∧ r = .bool (decide (c1 = c2 ∧ v1 = v2 ∧ xs = ys)) := by
  refine Ans_of (tbl_none (by decide) _) (show code 60 = some c60 from by kernel_rfl) (by simp) fun t hd ha => ?_
  have h0 := ha 0 _ rfl
  have h1 := ha 1 _ rfl
  clear ha
  refine W_seq (W_seqR (by simp only [runSeq_cons, runSeq_nil, evalArgs_nil, evalArgs_tmp, evalArgs_const, val1, putT, Tr.get_set_ne, ne_eq, Nat.reduceEqDiff, not_false_eq_true, opI_move, opI_box, cells_agg, push_n, h0, h1]; rfl) ?_)
  have s1 := (Step.refl hok).push (k := .cells [.int .i64 c1, .int .u64 v1, u] 0 true none) (fun _ _ _ _ he => by cases he)
  have s2 := s1.push (k := .cells [.int .i64 c2, .int .u64 v2, v] 0 true none) (fun _ _ _ _ he => by cases he)
  have ga := (get_push_old (k := .cells [.int .i64 c2, .int .u64 v2, v] 0 true none) s1.ok.1 (show M.n < M.n + 1 by omega)).trans (get_push_self (k := .cells [.int .i64 c1, .int .u64 v1, u] 0 true none) hok.1)
  have gb := get_push_self (k := .cells [.int .i64 c2, .int .u64 v2, v] 0 true none) s1.ok.1
  simp only [push_n] at gb
  have a0 := load_own (o := 0) ga rfl
  have a1 := load_own (o := 1) ga rfl
  have a2 := load_own (o := 2) ga rfl
  have b0 := load_own (o := 0) gb rfl
  have b1 := load_own (o := 1) gb rfl
  have b2 := load_own (o := 2) gb rfl
  have he := equal_ok d _ (hu.grow s2.grow) (hv.grow s2.grow) hn
  cases hk : (c1 == c2) <;> cases htt : (v1 == v2)
  all_goals
    refine W_seq (W_seqR (by simp only [runSeq_cons, runSeq_nil, evalArgs_nil, evalArgs_tmp, evalArgs_const, val1, putT, Tr.get_set_self, Tr.get_set_ne, Tr.isSome_set, hd _, ne_eq, Nat.reduceEqDiff, not_false_eq_true, decide_true, Nat.reduceLT, opI_move, opI_eql, opI_callF, opI_fieldP, opI_pick, Nat.zero_add, Nat.add_zero, runSeq_guard (b := true), runSeq_guard (b := false), beq_self_eq_true, Bool.false_beq, Bool.not_true, a0, a1, a2, b0, b1, b2, hk, htt, he]; rfl) (W_ret ?_))
    refine ⟨_, fin_tmp (by simp only [Tr.get_set_self, Tr.get_set_ne, Tr.isSome_set, Option.isSome_some, hd _, ne_eq, Nat.reduceEqDiff, not_false_eq_true, decide_true, Nat.reduceLT]; rfl), s2, ?_⟩
    simp only [beq_eq_false_iff_ne, ne_eq, beq_iff_eq] at hk htt
    simp [resV, hk, htt]

set_option maxHeartbeats 1000000 in
theorem none_ok {c v : Int} {u : AV} {xs : List Int} (d : Nat) (M : AMem) (hu : IRow M .u64 u xs) (hok : Okg M) :
    Ans (callF tbl code 100000 (d + 1)) 58 [.agg [.int .i64 c, .int .u64 v, u]] M fun r M' => Step M M' ∧ r = .bool (decide (c = 0 ∧ v = 0 ∧ xs = [])) := by
  refine Ans_of (tbl_none (by decide) _) (show code 58 = some c58 from by kernel_rfl) (by simp) fun t hd ha => ?_
  have h0 := ha 0 _ rfl
  clear ha
  refine W_seq (W_seqR (by simp only [runSeq_cons, runSeq_nil, evalArgs_nil, evalArgs_tmp, evalArgs_const, val1, putT, opI_move, opI_box, cells_agg, h0]; rfl) ?_)
  have s1 := (Step.refl hok).push (k := .cells [.int .i64 c, .int .u64 v, u] 0 true none) (fun _ _ _ _ he => by cases he)
  have ga := get_push_self (k := .cells [.int .i64 c, .int .u64 v, u] 0 true none) hok.1
  have a0 := load_own (o := 0) ga rfl
  have a1 := load_own (o := 1) ga rfl
  have a2 := load_own (o := 2) ga rfl
  have he := (hu.grow s1.grow).len
  cases hk : (c == 0) <;> cases htt : (v == 0)
  all_goals
    refine W_seq (W_seqR (by simp only [runSeq_cons, runSeq_nil, evalArgs_nil, evalArgs_tmp, evalArgs_const, val1, putT, Tr.get_set_self, Tr.get_set_ne, Tr.isSome_set, hd _, ne_eq, Nat.reduceEqDiff, not_false_eq_true, decide_true, Nat.reduceLT, opI_move, opI_eql, opI_fieldP, opI_pick, Nat.zero_add, Nat.add_zero, runSeq_guard (b := true), runSeq_guard (b := false), beq_self_eq_true, Bool.false_beq, Bool.not_true, a0, a1, a2, hk, htt, he]; rfl) (W_ret ?_))
    refine ⟨_, fin_tmp (by simp only [Tr.get_set_self, Tr.get_set_ne, Tr.isSome_set, Option.isSome_some, hd _, ne_eq, Nat.reduceEqDiff, not_false_eq_true, decide_true, Nat.reduceLT]; rfl), s1, ?_⟩
    simp only [beq_eq_false_iff_ne, ne_eq, beq_iff_eq] at hk htt
    simp [resV, hk, htt]
    try (cases xs <;> simp <;> omega)
end Go.Proofs.Ytoddncakdnmloaa.diary
