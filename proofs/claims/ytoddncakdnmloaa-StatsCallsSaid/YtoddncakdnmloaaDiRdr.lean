/- The parts DiTbl, DiRead, DiOwn, DiSp, DiRdr of the walk. -/
import Derived.Test.YtoddncakdnmloaaStRef
import Derived.Test.YtoddncakdnmloaaVx22
/- The calls whose answers are known, for the diary's walks. -/
namespace Go.Proofs.Ytoddncakdnmloaa.diary
open Go Go.Vx
abbrev tbl : FuncId → List AV → AMem → Option (AV × AMem) := stats.tbl
theorem tbl_none {f : FuncId} (h : f ≠ 6 ∧ f ≠ 22) (a : List AV) : ∀ M, tbl f a M = none := stats.tbl_none h a
end Go.Proofs.Ytoddncakdnmloaa.diary
/- The walks of the functions that compare calls and results. -/
namespace Go.Proofs.Ytoddncakdnmloaa.diary
open Go Go.Vx

set_option maxHeartbeats 1000000 in
theorem sameU_ok {k : IntKind} {u v : AV} {xs ys : List Int} (d : Nat) (M : AMem) (hu : IRow M k u xs) (hv : IRow M k v ys) (hn : xs.length < 90000) :
    callF tbl code 100000 (d + 1) 42 [u, v] M = some (.bool (decide (xs = ys)), M) := by
  refine Ans.eq ?_
  refine Ans_of (tbl_none (by decide) _) (show code 42 = some c42 from by kernel_rfl) (by simp) fun t hd ha => ?_
  have h0 := ha 0 u rfl
  have h1 := ha 1 v rfl
  have lu := hu.len
  have lv := hv.len
  clear ha
  refine W_seq (W_seqR (by simp only [runSeq_cons, runSeq_nil, evalArgs_nil, evalArgs_const, val1, putT, opI_move]; rfl) ?_)
  refine W_seq (W_seq (W_seqR (by simp only [runSeq_cons, runSeq_nil, evalArgs_nil, evalArgs_tmp, val1, putT, Tr.get_set_self, Tr.get_set_ne, hd _, ne_eq, Nat.reduceEqDiff, not_false_eq_true, decide_true, Nat.reduceLT, opI_move, opI_neq, h0, h1, lu, lv]; rfl) ?_))
  refine W_cond (by simp only [PArg.eval, Tr.get_set_self, Tr.get_set_ne, hd _, ne_eq, Nat.reduceEqDiff, not_false_eq_true, decide_true, Nat.reduceLT]; rfl) (fun hb => ?_) (fun hb => ?_)
  · refine W_seq (W_seqR (by simp only [runSeq_cons, runSeq_nil, evalArgs_nil, evalArgs_const, val1, putT, opI_move]; rfl) (W_ret ?_))
    refine ⟨_, fin_tmp (by simp only [Tr.get_set_self, Tr.get_set_ne, Option.isSome_some, hd _, ne_eq, Nat.reduceEqDiff, not_false_eq_true, decide_true, Nat.reduceLT]; rfl), rfl, ?_⟩
    have : xs ≠ ys := fun h => by subst h; simp at hb
    simp [resV, this]
  have hnm : xs.length = ys.length := by simp at hb; omega
  clear hb
  refine W_skip (W_seq (W_seq (W_seqR (by simp only [runSeq_cons, runSeq_nil, evalArgs_nil, evalArgs_const, val1, putT, opI_move]; rfl) (W_block (W_loop (fun k' t M' => ∃ i : Nat, k' + i = xs.length ∧ M' = M ∧ Dom t 26 ∧ t.get 0 = some u ∧ t.get 1 = some v ∧ t.get 5 = some (.int .i64 i) ∧ xs.take i = ys.take i) (k := xs.length) (by omega) ?_ ?_)))))
  · exact ⟨0, rfl, rfl, by ((repeat (with_reducible apply Dom.set)); exact hd), by simp only [Tr.get_set_ne, ne_eq, Nat.reduceEqDiff, not_false_eq_true, h0], by simp only [Tr.get_set_ne, ne_eq, Nat.reduceEqDiff, not_false_eq_true, h1], by simp only [Tr.get_set_self, Tr.get_set_ne, hd _, ne_eq, Nat.reduceEqDiff, not_false_eq_true, decide_true, Nat.reduceLT]; rfl, rfl⟩
  clear h0 h1 hd
  intro k' t' M' ⟨i, hk, hM, hd, h0, h1, h5, hj⟩
  subst hM
  refine W_seq (W_seq (W_seqR (by simp only [runSeq_cons, runSeq_nil, evalArgs_nil, evalArgs_tmp, val1, putT, Tr.get_set_self, Tr.get_set_ne, hd _, ne_eq, Nat.reduceEqDiff, not_false_eq_true, decide_true, Nat.reduceLT, opI_move, opI_lss, h0, h5, lu]; rfl) ?_))
  refine W_cond (by simp only [PArg.eval, Tr.get_set_self, Tr.get_set_ne, hd _, ne_eq, Nat.reduceEqDiff, not_false_eq_true, decide_true, Nat.reduceLT]; rfl) (fun hb => ?_) (fun hb => ?_)
  rotate_left
  · refine W_exit ?_
    have hin : i = xs.length := by simp at hb; omega
    show W _ _
    refine W_seq (W_seqR (by simp only [runSeq_cons, runSeq_nil, evalArgs_nil, evalArgs_const, val1, putT, opI_move]; rfl) (W_ret ?_))
    refine ⟨_, fin_tmp (by simp only [Tr.get_set_self, Tr.get_set_ne, hd _, ne_eq, Nat.reduceEqDiff, not_false_eq_true, decide_true, Nat.reduceLT]; rfl), rfl, ?_⟩
    have : xs = ys := by
      rw [hin, List.take_length, hnm, List.take_length] at hj; exact hj
    simp [resV, this]
  have hin : i < xs.length := by simpa using hb
  obtain ⟨p, _, e1, e2⟩ := hu.at_ hin
  obtain ⟨q, _, e3, e4⟩ := hv.at_ (i := i) (by omega)
  refine W_skip (W_seq (W_block (W_seq (W_quiet rfl (by simp only [runPure_cons, runPure_nil, ofD_cons, ofD_nil, sameN_self, evalArgs_nil, evalArgs_tmp, putT, Tr.get_set_self, Tr.get_set_ne, hd _, ne_eq, Nat.reduceEqDiff, not_false_eq_true, decide_true, Nat.reduceLT, opI_move, opI_neq, h0, h1, h5, e1, e2, e3, e4]; rfl) ?_))))
  refine W_cond (by simp only [PArg.eval, Tr.get_set_self, Tr.get_set_ne, hd _, ne_eq, Nat.reduceEqDiff, not_false_eq_true, decide_true, Nat.reduceLT]; rfl) (fun hb => ?_) (fun hb => ?_)
  · refine W_seq (W_seqR (by simp only [runSeq_cons, runSeq_nil, evalArgs_nil, evalArgs_const, val1, putT, opI_move]; rfl) (W_ret ?_))
    refine ⟨_, fin_tmp (by simp only [Tr.get_set_self, Tr.get_set_ne, hd _, ne_eq, Nat.reduceEqDiff, not_false_eq_true, decide_true, Nat.reduceLT]; rfl), rfl, ?_⟩
    have h : xs[i] ≠ ys[i] := by simpa using hb
    have : xs ≠ ys := fun he => h (by subst he; rfl)
    simp [resV, this]
  have hfg : xs[i] = ys[i] := by simpa using hb
  refine W_skip (W_seqR (by simp only [runSeq_cons, runSeq_nil, evalArgs_nil, evalArgs_tmp, evalArgs_const, val1, putT, Tr.get_set_self, Tr.get_set_ne, hd _, ne_eq, Nat.reduceEqDiff, not_false_eq_true, decide_true, Nat.reduceLT, opI_move, opI_add, h5]; rfl) ?_)
  refine ⟨k' - 1, by omega, i + 1, by omega, rfl, by ((repeat (with_reducible apply Dom.set)); exact hd), by simp only [Tr.get_set_ne, ne_eq, Nat.reduceEqDiff, not_false_eq_true, h0], by simp only [Tr.get_set_ne, ne_eq, Nat.reduceEqDiff, not_false_eq_true, h1], ?_, ?_⟩
  · simp only [Tr.get_set_self, Tr.get_set_ne, hd _, ne_eq, Nat.reduceEqDiff, not_false_eq_true, decide_true, Nat.reduceLT]
    rw [wrapF_small (by omega) (by omega)]; rfl
  · rw [List.take_succ_eq_append_getElem hin, List.take_succ_eq_append_getElem (by omega), hj, hfg]

set_option maxHeartbeats 1000000 in
theorem sameI_ok {k : IntKind} {u v : AV} {xs ys : List Int} (d : Nat) (M : AMem) (hu : IRow M k u xs) (hv : IRow M k v ys) (hn : xs.length < 90000) :
    callF tbl code 100000 (d + 1) 13 [u, v] M = some (.bool (decide (xs = ys)), M) := by
  refine Ans.eq ?_
  refine Ans_of (tbl_none (by decide) _) (show code 13 = some c13 from by kernel_rfl) (by simp) fun t hd ha => ?_
  have h0 := ha 0 u rfl
  have h1 := ha 1 v rfl
  have lu := hu.len
  have lv := hv.len
  clear ha
  refine W_seq (W_seqR (by simp only [runSeq_cons, runSeq_nil, evalArgs_nil, evalArgs_const, val1, putT, opI_move]; rfl) ?_)
  refine W_seq (W_seq (W_seqR (by simp only [runSeq_cons, runSeq_nil, evalArgs_nil, evalArgs_tmp, val1, putT, Tr.get_set_self, Tr.get_set_ne, hd _, ne_eq, Nat.reduceEqDiff, not_false_eq_true, decide_true, Nat.reduceLT, opI_move, opI_neq, h0, h1, lu, lv]; rfl) ?_))
  refine W_cond (by simp only [PArg.eval, Tr.get_set_self, Tr.get_set_ne, hd _, ne_eq, Nat.reduceEqDiff, not_false_eq_true, decide_true, Nat.reduceLT]; rfl) (fun hb => ?_) (fun hb => ?_)
  · refine W_seq (W_seqR (by simp only [runSeq_cons, runSeq_nil, evalArgs_nil, evalArgs_const, val1, putT, opI_move]; rfl) (W_ret ?_))
    refine ⟨_, fin_tmp (by simp only [Tr.get_set_self, Tr.get_set_ne, Option.isSome_some, hd _, ne_eq, Nat.reduceEqDiff, not_false_eq_true, decide_true, Nat.reduceLT]; rfl), rfl, ?_⟩
    have : xs ≠ ys := fun h => by subst h; simp at hb
    simp [resV, this]
  have hnm : xs.length = ys.length := by simp at hb; omega
  clear hb
  refine W_skip (W_seq (W_seq (W_seqR (by simp only [runSeq_cons, runSeq_nil, evalArgs_nil, evalArgs_const, val1, putT, opI_move]; rfl) (W_block (W_loop (fun k' t M' => ∃ i : Nat, k' + i = xs.length ∧ M' = M ∧ Dom t 26 ∧ t.get 0 = some u ∧ t.get 1 = some v ∧ t.get 5 = some (.int .i64 i) ∧ xs.take i = ys.take i) (k := xs.length) (by omega) ?_ ?_)))))
  · exact ⟨0, rfl, rfl, by ((repeat (with_reducible apply Dom.set)); exact hd), by simp only [Tr.get_set_ne, ne_eq, Nat.reduceEqDiff, not_false_eq_true, h0], by simp only [Tr.get_set_ne, ne_eq, Nat.reduceEqDiff, not_false_eq_true, h1], by simp only [Tr.get_set_self, Tr.get_set_ne, hd _, ne_eq, Nat.reduceEqDiff, not_false_eq_true, decide_true, Nat.reduceLT]; rfl, rfl⟩
  clear h0 h1 hd
  intro k' t' M' ⟨i, hk, hM, hd, h0, h1, h5, hj⟩
  subst hM
  refine W_seq (W_seq (W_seqR (by simp only [runSeq_cons, runSeq_nil, evalArgs_nil, evalArgs_tmp, val1, putT, Tr.get_set_self, Tr.get_set_ne, hd _, ne_eq, Nat.reduceEqDiff, not_false_eq_true, decide_true, Nat.reduceLT, opI_move, opI_lss, h0, h5, lu]; rfl) ?_))
  refine W_cond (by simp only [PArg.eval, Tr.get_set_self, Tr.get_set_ne, hd _, ne_eq, Nat.reduceEqDiff, not_false_eq_true, decide_true, Nat.reduceLT]; rfl) (fun hb => ?_) (fun hb => ?_)
  rotate_left
  · refine W_exit ?_
    have hin : i = xs.length := by simp at hb; omega
    show W _ _
    refine W_seq (W_seqR (by simp only [runSeq_cons, runSeq_nil, evalArgs_nil, evalArgs_const, val1, putT, opI_move]; rfl) (W_ret ?_))
    refine ⟨_, fin_tmp (by simp only [Tr.get_set_self, Tr.get_set_ne, hd _, ne_eq, Nat.reduceEqDiff, not_false_eq_true, decide_true, Nat.reduceLT]; rfl), rfl, ?_⟩
    have : xs = ys := by
      rw [hin, List.take_length, hnm, List.take_length] at hj; exact hj
    simp [resV, this]
  have hin : i < xs.length := by simpa using hb
  obtain ⟨p, _, e1, e2⟩ := hu.at_ hin
  obtain ⟨q, _, e3, e4⟩ := hv.at_ (i := i) (by omega)
  refine W_skip (W_seq (W_block (W_seq (W_quiet rfl (by simp only [runPure_cons, runPure_nil, ofD_cons, ofD_nil, sameN_self, evalArgs_nil, evalArgs_tmp, putT, Tr.get_set_self, Tr.get_set_ne, hd _, ne_eq, Nat.reduceEqDiff, not_false_eq_true, decide_true, Nat.reduceLT, opI_move, opI_neq, h0, h1, h5, e1, e2, e3, e4]; rfl) ?_))))
  refine W_cond (by simp only [PArg.eval, Tr.get_set_self, Tr.get_set_ne, hd _, ne_eq, Nat.reduceEqDiff, not_false_eq_true, decide_true, Nat.reduceLT]; rfl) (fun hb => ?_) (fun hb => ?_)
  · refine W_seq (W_seqR (by simp only [runSeq_cons, runSeq_nil, evalArgs_nil, evalArgs_const, val1, putT, opI_move]; rfl) (W_ret ?_))
    refine ⟨_, fin_tmp (by simp only [Tr.get_set_self, Tr.get_set_ne, hd _, ne_eq, Nat.reduceEqDiff, not_false_eq_true, decide_true, Nat.reduceLT]; rfl), rfl, ?_⟩
    have h : xs[i] ≠ ys[i] := by simpa using hb
    have : xs ≠ ys := fun he => h (by subst he; rfl)
    simp [resV, this]
  have hfg : xs[i] = ys[i] := by simpa using hb
  refine W_skip (W_seqR (by simp only [runSeq_cons, runSeq_nil, evalArgs_nil, evalArgs_tmp, evalArgs_const, val1, putT, Tr.get_set_self, Tr.get_set_ne, hd _, ne_eq, Nat.reduceEqDiff, not_false_eq_true, decide_true, Nat.reduceLT, opI_move, opI_add, h5]; rfl) ?_)
  refine ⟨k' - 1, by omega, i + 1, by omega, rfl, by ((repeat (with_reducible apply Dom.set)); exact hd), by simp only [Tr.get_set_ne, ne_eq, Nat.reduceEqDiff, not_false_eq_true, h0], by simp only [Tr.get_set_ne, ne_eq, Nat.reduceEqDiff, not_false_eq_true, h1], ?_, ?_⟩
  · simp only [Tr.get_set_self, Tr.get_set_ne, hd _, ne_eq, Nat.reduceEqDiff, not_false_eq_true, decide_true, Nat.reduceLT]
    rw [wrapF_small (by omega) (by omega)]; rfl
  · rw [List.take_succ_eq_append_getElem hin, List.take_succ_eq_append_getElem (by omega), hj, hfg]

set_option maxHeartbeats 1000000 in
theorem equal_ok {k : IntKind} {u v : AV} {xs ys : List Int} (d : Nat) (M : AMem) (hu : IRow M k u xs) (hv : IRow M k v ys) (hn : xs.length < 90000) :
    callF tbl code 100000 (d + 1) 69 [u, v] M = some (.bool (decide (xs = ys)), M) := by
  refine Ans.eq ?_
  refine Ans_of (tbl_none (by decide) _) (show code 69 = some c69 from by kernel_rfl) (by simp) fun t hd ha => ?_
  have h0 := ha 0 u rfl
  have h1 := ha 1 v rfl
  have lu := hu.len
  have lv := hv.len
  clear ha
  refine W_seq (W_seqR (by simp only [runSeq_cons, runSeq_nil, evalArgs_nil, evalArgs_const, val1, putT, opI_move]; rfl) ?_)
  refine W_seq (W_seq (W_seqR (by simp only [runSeq_cons, runSeq_nil, evalArgs_nil, evalArgs_tmp, val1, putT, Tr.get_set_self, Tr.get_set_ne, hd _, ne_eq, Nat.reduceEqDiff, not_false_eq_true, decide_true, Nat.reduceLT, opI_move, opI_neq, h0, h1, lu, lv]; rfl) ?_))
  refine W_cond (by simp only [PArg.eval, Tr.get_set_self, Tr.get_set_ne, hd _, ne_eq, Nat.reduceEqDiff, not_false_eq_true, decide_true, Nat.reduceLT]; rfl) (fun hb => ?_) (fun hb => ?_)
  · refine W_seq (W_seqR (by simp only [runSeq_cons, runSeq_nil, evalArgs_nil, evalArgs_const, val1, putT, opI_move]; rfl) (W_ret ?_))
    refine ⟨_, fin_tmp (by simp only [Tr.get_set_self, Tr.get_set_ne, Option.isSome_some, hd _, ne_eq, Nat.reduceEqDiff, not_false_eq_true, decide_true, Nat.reduceLT]; rfl), rfl, ?_⟩
    have : xs ≠ ys := fun h => by subst h; simp at hb
    simp [resV, this]
  have hnm : xs.length = ys.length := by simp at hb; omega
  clear hb
  refine W_skip (W_seq (W_seq (W_seqR (by simp only [runSeq_cons, runSeq_nil, evalArgs_nil, evalArgs_tmp, evalArgs_const, val1, putT, Tr.get_set_self, Tr.get_set_ne, hd _, ne_eq, Nat.reduceEqDiff, not_false_eq_true, decide_true, Nat.reduceLT, opI_move, h0, lu]; rfl) (W_block (W_loop (fun k' t M' => ∃ i : Nat, k' + i = xs.length ∧ M' = M ∧ Dom t 26 ∧ t.get 0 = some u ∧ t.get 1 = some v ∧ t.get 12 = some (.int .i64 xs.length) ∧ t.get 13 = some (.int .i64 i) ∧ xs.take i = ys.take i) (k := xs.length) (by omega) ?_ ?_)))))
  · exact ⟨0, rfl, rfl, by ((repeat (with_reducible apply Dom.set)); exact hd), by simp only [Tr.get_set_ne, ne_eq, Nat.reduceEqDiff, not_false_eq_true, h0], by simp only [Tr.get_set_ne, ne_eq, Nat.reduceEqDiff, not_false_eq_true, h1], by simp only [Tr.get_set_self, Tr.get_set_ne, hd _, ne_eq, Nat.reduceEqDiff, not_false_eq_true, decide_true, Nat.reduceLT], by simp only [Tr.get_set_self, Tr.get_set_ne, hd _, ne_eq, Nat.reduceEqDiff, not_false_eq_true, decide_true, Nat.reduceLT]; rfl, rfl⟩
  clear h0 h1 hd
  intro k' t' M' ⟨i, hk, hM, hd, h0, h1, h12, h13, hj⟩
  subst hM
  refine W_seq (W_seqR (by simp only [runSeq_cons, runSeq_nil, evalArgs_nil, evalArgs_tmp, val1, putT, opI_lss, h12, h13]; rfl) (W_seq ?_))
  refine W_cond (by simp only [PArg.eval, Tr.get_set_self, hd _, decide_true, Nat.reduceLT]; rfl) (fun hb => ?_) (fun hb => ?_)
  rotate_left
  · refine W_exit ?_
    have hin : i = xs.length := by simp at hb; omega
    show W _ _
    refine W_seq (W_seqR (by simp only [runSeq_cons, runSeq_nil, evalArgs_nil, evalArgs_const, val1, putT, opI_move]; rfl) (W_ret ?_))
    refine ⟨_, fin_tmp (by simp only [Tr.get_set_self, Tr.get_set_ne, hd _, ne_eq, Nat.reduceEqDiff, not_false_eq_true, decide_true, Nat.reduceLT]; rfl), rfl, ?_⟩
    have : xs = ys := by
      rw [hin, List.take_length, hnm, List.take_length] at hj; exact hj
    simp [resV, this]
  have hin : i < xs.length := by simpa using hb
  obtain ⟨p, _, e1, e2⟩ := hu.at_ hin
  obtain ⟨q, _, e3, e4⟩ := hv.at_ (i := i) (by omega)
  refine W_skip (W_seq (W_block (W_seq (W_seqR (by simp only [runSeq_cons, runSeq_nil, evalArgs_nil, evalArgs_tmp, val1, putT, Tr.get_set_self, Tr.get_set_ne, hd _, ne_eq, Nat.reduceEqDiff, not_false_eq_true, decide_true, Nat.reduceLT, opI_move, h13]; rfl) (W_seq (W_quiet rfl (by simp only [runPure_cons, runPure_nil, ofD_cons, ofD_nil, sameN_self, evalArgs_nil, evalArgs_tmp, putT, Tr.get_set_self, Tr.get_set_ne, hd _, ne_eq, Nat.reduceEqDiff, not_false_eq_true, decide_true, Nat.reduceLT, opI_move, opI_neq, h0, h1, e1, e2, e3, e4]; rfl) ?_))))))
  refine W_cond (by simp only [PArg.eval, Tr.get_set_self, Tr.get_set_ne, hd _, ne_eq, Nat.reduceEqDiff, not_false_eq_true, decide_true, Nat.reduceLT]; rfl) (fun hb => ?_) (fun hb => ?_)
  · refine W_seq (W_seqR (by simp only [runSeq_cons, runSeq_nil, evalArgs_nil, evalArgs_const, val1, putT, opI_move]; rfl) (W_ret ?_))
    refine ⟨_, fin_tmp (by simp only [Tr.get_set_self, Tr.get_set_ne, hd _, ne_eq, Nat.reduceEqDiff, not_false_eq_true, decide_true, Nat.reduceLT]; rfl), rfl, ?_⟩
    have h : xs[i] ≠ ys[i] := by simpa using hb
    have : xs ≠ ys := fun he => h (by subst he; rfl)
    simp [resV, this]
  have hfg : xs[i] = ys[i] := by simpa using hb
  refine W_skip (W_seqR (by simp only [runSeq_cons, runSeq_nil, evalArgs_nil, evalArgs_tmp, evalArgs_const, val1, putT, Tr.get_set_self, Tr.get_set_ne, hd _, ne_eq, Nat.reduceEqDiff, not_false_eq_true, decide_true, Nat.reduceLT, opI_move, opI_add, h13]; rfl) ?_)
  refine ⟨k' - 1, by omega, i + 1, by omega, rfl, by ((repeat (with_reducible apply Dom.set)); exact hd), by simp only [Tr.get_set_ne, ne_eq, Nat.reduceEqDiff, not_false_eq_true, h0], by simp only [Tr.get_set_ne, ne_eq, Nat.reduceEqDiff, not_false_eq_true, h1], by simp only [Tr.get_set_ne, ne_eq, Nat.reduceEqDiff, not_false_eq_true, h12], ?_, ?_⟩
  · simp only [Tr.get_set_self, Tr.get_set_ne, hd _, ne_eq, Nat.reduceEqDiff, not_false_eq_true, decide_true, Nat.reduceLT]
    rw [wrapF_small (by omega) (by omega)]; rfl
  · rw [List.take_succ_eq_append_getElem hin, List.take_succ_eq_append_getElem (by omega), hj, hfg]

set_option maxHeartbeats 1000000 in
theorem sameResult_ok {c1 c2 v1 v2 : Int} {u v : AV} {xs ys : List Int} (d : Nat) (M : AMem) (hu : IRow M .u64 u xs) (hv : IRow M .u64 v ys) (hn : xs.length < 90000) (hok : Okg M) :
    Ans (callF tbl code 100000 (d + 2)) 34 [.agg [.int .i64 c1, .int .u64 v1, u], .agg [.int .i64 c2, .int .u64 v2, v]] M fun r M' => Step M M' ∧ r = .bool (decide (c1 = c2 ∧ v1 = v2 ∧ xs = ys)) := by
  refine Ans_of (tbl_none (by decide) _) (show code 34 = some c34 from by kernel_rfl) (by simp) fun t hd ha => ?_
  have h0 := ha 0 _ rfl
  have h1 := ha 1 _ rfl
  clear ha
  refine W_seq (W_seqR (by simp only [runSeq_cons, runSeq_nil, evalArgs_nil, evalArgs_tmp, evalArgs_const, val1, putT, Tr.get_set_ne, ne_eq, Nat.reduceEqDiff, not_false_eq_true, opI_move, opI_box, cells_agg, push_n, h0, h1]; rfl) ?_)
  have s1 := (Step.refl hok).push (k := .cells [.int .i64 c1, .int .u64 v1, u] 0 true none) (fun _ _ _ _ he => by cases he)
  have s2 := s1.push (k := .cells [.int .i64 c2, .int .u64 v2, v] 0 true none) (fun _ _ _ _ he => by cases he)
  have ga := (get_push_old (k := .cells [.int .i64 c2, .int .u64 v2, v] 0 true none) s1.ok.1 (show M.n < M.n + 1 by omega)).trans (get_push_self (k := .cells [.int .i64 c1, .int .u64 v1, u] 0 true none) hok.1)
  have gb := get_push_self (k := .cells [.int .i64 c2, .int .u64 v2, v] 0 true none) s1.ok.1
  simp only [push_n] at gb
  have a0 := load_own (o := 0) ga rfl
  have a1 := load_own (o := 1) ga rfl
  have a2 := load_own (o := 2) ga rfl
  have b0 := load_own (o := 0) gb rfl
  have b1 := load_own (o := 1) gb rfl
  have b2 := load_own (o := 2) gb rfl
  have he := sameU_ok d _ (hu.grow s2.grow) (hv.grow s2.grow) hn
  cases hk : (c1 == c2) <;> cases htt : (v1 == v2)
  all_goals
    refine W_seq (W_seqR (by simp only [runSeq_cons, runSeq_nil, evalArgs_nil, evalArgs_tmp, evalArgs_const, val1, putT, Tr.get_set_self, Tr.get_set_ne, Tr.isSome_set, hd _, ne_eq, Nat.reduceEqDiff, not_false_eq_true, decide_true, Nat.reduceLT, opI_move, opI_eql, opI_callF, opI_fieldP, opI_pick, Nat.zero_add, Nat.add_zero, runSeq_guard (b := true), runSeq_guard (b := false), beq_self_eq_true, Bool.false_beq, Bool.not_true, a0, a1, a2, b0, b1, b2, hk, htt, he]; rfl) (W_ret ?_))
    refine ⟨_, fin_tmp (by simp only [Tr.get_set_self, Tr.get_set_ne, Tr.isSome_set, Option.isSome_some, hd _, ne_eq, Nat.reduceEqDiff, not_false_eq_true, decide_true, Nat.reduceLT]; rfl), s2, ?_⟩
    simp only [beq_eq_false_iff_ne, ne_eq, beq_iff_eq] at hk htt
    simp [resV, hk, htt]

set_option maxHeartbeats 1000000 in
theorem sameCall_ok {c1 c2 v1 v2 : Int} {u v : AV} {xs ys : List Int} (d : Nat) (M : AMem) (hu : IRow M .i64 u xs) (hv : IRow M .i64 v ys) (hn : xs.length < 90000) (hok : Okg M) :
    Ans (callF tbl code 100000 (d + 2)) 33 [.agg [.int .i64 c1, .int .u64 v1, u], .agg [.int .i64 c2, .int .u64 v2, v]] M fun r M' => Step M M' ∧ r = .bool (decide (c1 = c2 ∧ v1 = v2 ∧ xs = ys)) := by
  refine Ans_of (tbl_none (by decide) _) (show code 33 = some c33 from by kernel_rfl) (by simp) fun t hd ha => ?_
  have h0 := ha 0 _ rfl
  have h1 := ha 1 _ rfl
  clear ha
  refine W_seq (W_seqR (by simp only [runSeq_cons, runSeq_nil, evalArgs_nil, evalArgs_tmp, evalArgs_const, val1, putT, Tr.get_set_ne, ne_eq, Nat.reduceEqDiff, not_false_eq_true, opI_move, opI_box, cells_agg, push_n, h0, h1]; rfl) ?_)
  have s1 := (Step.refl hok).push (k := .cells [.int .i64 c1, .int .u64 v1, u] 0 true none) (fun _ _ _ _ he => by cases he)
  have s2 := s1.push (k := .cells [.int .i64 c2, .int .u64 v2, v] 0 true none) (fun _ _ _ _ he => by cases he)
  have ga := (get_push_old (k := .cells [.int .i64 c2, .int .u64 v2, v] 0 true none) s1.ok.1 (show M.n < M.n + 1 by omega)).trans (get_push_self (k := .cells [.int .i64 c1, .int .u64 v1, u] 0 true none) hok.1)
  have gb := get_push_self (k := .cells [.int .i64 c2, .int .u64 v2, v] 0 true none) s1.ok.1
  simp only [push_n] at gb
  have a0 := load_own (o := 0) ga rfl
  have a1 := load_own (o := 1) ga rfl
  have a2 := load_own (o := 2) ga rfl
  have b0 := load_own (o := 0) gb rfl
  have b1 := load_own (o := 1) gb rfl
  have b2 := load_own (o := 2) gb rfl
  have he := sameI_ok d _ (hu.grow s2.grow) (hv.grow s2.grow) hn
  cases hk : (c1 == c2) <;> cases htt : (v1 == v2)
  all_goals
    refine W_seq (W_seqR (by simp only [runSeq_cons, runSeq_nil, evalArgs_nil, evalArgs_tmp, evalArgs_const, val1, putT, Tr.get_set_self, Tr.get_set_ne, Tr.isSome_set, hd _, ne_eq, Nat.reduceEqDiff, not_false_eq_true, decide_true, Nat.reduceLT, opI_move, opI_eql, opI_callF, opI_fieldP, opI_pick, Nat.zero_add, Nat.add_zero, runSeq_guard (b := true), runSeq_guard (b := false), beq_self_eq_true, Bool.false_beq, Bool.not_true, a0, a1, a2, b0, b1, b2, hk, htt, he]; rfl) (W_ret ?_))
    refine ⟨_, fin_tmp (by simp only [Tr.get_set_self, Tr.get_set_ne, Tr.isSome_set, Option.isSome_some, hd _, ne_eq, Nat.reduceEqDiff, not_false_eq_true, decide_true, Nat.reduceLT]; rfl), s2, ?_⟩
    simp only [beq_eq_false_iff_ne, ne_eq, beq_iff_eq] at hk htt
    simp [resV, hk, htt]

set_option maxHeartbeats 1000000 in
theorem same_ok {c1 c2 v1 v2 : Int} {u v : AV} {xs ys : List Int} (d : Nat) (M : AMem) (hu : IRow M .i64 u xs) (hv : IRow M .i64 v ys) (hn : xs.length < 90000) (hok : Okg M) :
    Ans (callF tbl code 100000 (d + 2)) 60 [.agg [.int .i64 c1, .int .u64 v1, u], .agg [.int .i64 c2, .int .u64 v2, v]] M fun r M' => Step M M' ∧ r = .bool (decide (c1 = c2 ∧ v1 = v2 ∧ xs = ys)) := by
  refine Ans_of (tbl_none (by decide) _) (show code 60 = some c60 from by kernel_rfl) (by simp) fun t hd ha => ?_
  have h0 := ha 0 _ rfl
  have h1 := ha 1 _ rfl
  clear ha
  refine W_seq (W_seqR (by simp only [runSeq_cons, runSeq_nil, evalArgs_nil, evalArgs_tmp, evalArgs_const, val1, putT, Tr.get_set_ne, ne_eq, Nat.reduceEqDiff, not_false_eq_true, opI_move, opI_box, cells_agg, push_n, h0, h1]; rfl) ?_)
  have s1 := (Step.refl hok).push (k := .cells [.int .i64 c1, .int .u64 v1, u] 0 true none) (fun _ _ _ _ he => by cases he)
  have s2 := s1.push (k := .cells [.int .i64 c2, .int .u64 v2, v] 0 true none) (fun _ _ _ _ he => by cases he)
  have ga := (get_push_old (k := .cells [.int .i64 c2, .int .u64 v2, v] 0 true none) s1.ok.1 (show M.n < M.n + 1 by omega)).trans (get_push_self (k := .cells [.int .i64 c1, .int .u64 v1, u] 0 true none) hok.1)
  have gb := get_push_self (k := .cells [.int .i64 c2, .int .u64 v2, v] 0 true none) s1.ok.1
  simp only [push_n] at gb
  have a0 := load_own (o := 0) ga rfl
  have a1 := load_own (o := 1) ga rfl
  have a2 := load_own (o := 2) ga rfl
  have b0 := load_own (o := 0) gb rfl
  have b1 := load_own (o := 1) gb rfl
  have b2 := load_own (o := 2) gb rfl
  have he := equal_ok d _ (hu.grow s2.grow) (hv.grow s2.grow) hn
  cases hk : (c1 == c2) <;> cases htt : (v1 == v2)
  all_goals
    refine W_seq (W_seqR (by simp only [runSeq_cons, runSeq_nil, evalArgs_nil, evalArgs_tmp, evalArgs_const, val1, putT, Tr.get_set_self, Tr.get_set_ne, Tr.isSome_set, hd _, ne_eq, Nat.reduceEqDiff, not_false_eq_true, decide_true, Nat.reduceLT, opI_move, opI_eql, opI_callF, opI_fieldP, opI_pick, Nat.zero_add, Nat.add_zero, runSeq_guard (b := true), runSeq_guard (b := false), beq_self_eq_true, Bool.false_beq, Bool.not_true, a0, a1, a2, b0, b1, b2, hk, htt, he]; rfl) (W_ret ?_))
    refine ⟨_, fin_tmp (by simp only [Tr.get_set_self, Tr.get_set_ne, Tr.isSome_set, Option.isSome_some, hd _, ne_eq, Nat.reduceEqDiff, not_false_eq_true, decide_true, Nat.reduceLT]; rfl), s2, ?_⟩
    simp only [beq_eq_false_iff_ne, ne_eq, beq_iff_eq] at hk htt
    simp [resV, hk, htt]

set_option maxHeartbeats 1000000 in
theorem none_ok {c v : Int} {u : AV} {xs : List Int} (d : Nat) (M : AMem) (hu : IRow M .u64 u xs) (hok : Okg M) :
    Ans (callF tbl code 100000 (d + 1)) 58 [.agg [.int .i64 c, .int .u64 v, u]] M fun r M' => Step M M' ∧ r = .bool (decide (c = 0 ∧ v = 0 ∧ xs = [])) := by
  refine Ans_of (tbl_none (by decide) _) (show code 58 = some c58 from by kernel_rfl) (by simp) fun t hd ha => ?_
  have h0 := ha 0 _ rfl
  clear ha
  refine W_seq (W_seqR (by simp only [runSeq_cons, runSeq_nil, evalArgs_nil, evalArgs_tmp, evalArgs_const, val1, putT, opI_move, opI_box, cells_agg, h0]; rfl) ?_)
  have s1 := (Step.refl hok).push (k := .cells [.int .i64 c, .int .u64 v, u] 0 true none) (fun _ _ _ _ he => by cases he)
  have ga := get_push_self (k := .cells [.int .i64 c, .int .u64 v, u] 0 true none) hok.1
  have a0 := load_own (o := 0) ga rfl
  have a1 := load_own (o := 1) ga rfl
  have a2 := load_own (o := 2) ga rfl
  have he := (hu.grow s1.grow).len
  cases hk : (c == 0) <;> cases htt : (v == 0)
  all_goals
    refine W_seq (W_seqR (by simp only [runSeq_cons, runSeq_nil, evalArgs_nil, evalArgs_tmp, evalArgs_const, val1, putT, Tr.get_set_self, Tr.get_set_ne, Tr.isSome_set, hd _, ne_eq, Nat.reduceEqDiff, not_false_eq_true, decide_true, Nat.reduceLT, opI_move, opI_eql, opI_fieldP, opI_pick, Nat.zero_add, Nat.add_zero, runSeq_guard (b := true), runSeq_guard (b := false), beq_self_eq_true, Bool.false_beq, Bool.not_true, a0, a1, a2, hk, htt, he]; rfl) (W_ret ?_))
    refine ⟨_, fin_tmp (by simp only [Tr.get_set_self, Tr.get_set_ne, Tr.isSome_set, Option.isSome_some, hd _, ne_eq, Nat.reduceEqDiff, not_false_eq_true, decide_true, Nat.reduceLT]; rfl), s1, ?_⟩
    simp only [beq_eq_false_iff_ne, ne_eq, beq_iff_eq] at hk htt
    simp [resV, hk, htt]
    try (cases xs <;> simp <;> omega)
end Go.Proofs.Ytoddncakdnmloaa.diary
/- The walks of the functions that make a span's own memory. -/
namespace Go.Proofs.Ytoddncakdnmloaa.diary
open Go Go.Vx

set_option maxHeartbeats 1000000 in
theorem cloneI_ok {v : AV} {xs : List Int} (d : Nat) (M : AMem) (hv : IRow M .i64 v xs) (hok : Okg M) (hn : xs.length ≤ 90000) :
    Ans (callF tbl code 100000 (d + 1)) 67 [v] M fun r M' => Step M M' ∧ Solo M M' .i64 r xs := by
  refine Ans_of (tbl_none (by decide) _) (show code 67 = some c67 from by kernel_rfl) (by simp) fun t hd ha => ?_
  have h0 := ha 0 v rfl
  clear ha
  refine W_seq (W_seqR (by simp only [runSeq_cons, runSeq_nil, evalArgs_nil, evalArgs_const, val1, putT, opI_move]; rfl) ?_)
  rcases hv.isNil with ⟨hnil, hx⟩ | hnil
  · refine W_seq (W_seq (W_seqR (by simp only [runSeq_cons, runSeq_nil, evalArgs_nil, evalArgs_tmp, evalArgs_const, val1, putT, Tr.get_set_self, Tr.get_set_ne, hd _, ne_eq, Nat.reduceEqDiff, not_false_eq_true, decide_true, Nat.reduceLT, opI_move, h0, hnil]; rfl) ?_))
    refine W_cond (by simp only [PArg.eval, Tr.get_set_self, Tr.get_set_ne, hd _, ne_eq, Nat.reduceEqDiff, not_false_eq_true, decide_true, Nat.reduceLT]; rfl) (fun _ => ?_) (fun hb => by simp at hb)
    refine W_seq (W_seqR (by simp only [runSeq_cons, runSeq_nil, evalArgs_nil, evalArgs_const, val1, putT, opI_move]; rfl) (W_ret ?_))
    exact ⟨_, fin_tmp (by simp only [Tr.get_set_self, Tr.get_set_ne, Option.isSome_some, hd _, ne_eq, Nat.reduceEqDiff, not_false_eq_true, decide_true, Nat.reduceLT]; try rfl), Step.refl hok, .inl ⟨rfl, hx⟩⟩
  · refine W_seq (W_seq (W_seqR (by simp only [runSeq_cons, runSeq_nil, evalArgs_nil, evalArgs_tmp, evalArgs_const, val1, putT, Tr.get_set_self, Tr.get_set_ne, hd _, ne_eq, Nat.reduceEqDiff, not_false_eq_true, decide_true, Nat.reduceLT, opI_move, h0, hnil]; rfl) ?_))
    refine W_cond (by simp only [PArg.eval, Tr.get_set_self, Tr.get_set_ne, hd _, ne_eq, Nat.reduceEqDiff, not_false_eq_true, decide_true, Nat.reduceLT]; rfl) (fun hb => by simp at hb) (fun _ => W_skip ?_)
    have e1 : opI (.sliceLit 0 [] []) [] M = some (.val (.slice (some (M.n, 0)) 0 0 false) (M.push (.cells [] 0 true none))) := rfl
    obtain ⟨r, M', e2, s2, _, o2⟩ := clone_lit (Step.refl hok) hv (by omega)
    show W _ _
    refine W_seq (W_seqR (by simp only [runSeq_cons, runSeq_nil, evalArgs_nil, evalArgs_tmp, val1, putT, Tr.get_set_self, Tr.get_set_ne, hd _, ne_eq, Nat.reduceEqDiff, not_false_eq_true, decide_true, Nat.reduceLT, opI_move, h0, e1, e2]; rfl) (W_ret ?_))
    exact ⟨_, fin_tmp (by simp only [Tr.get_set_self, Tr.get_set_ne, Option.isSome_some, hd _, ne_eq, Nat.reduceEqDiff, not_false_eq_true, decide_true, Nat.reduceLT]; try rfl), s2, o2⟩

set_option maxHeartbeats 1000000 in
theorem cloneU_ok {v : AV} {xs : List Int} (d : Nat) (M : AMem) (hv : IRow M .u64 v xs) (hok : Okg M) (hn : xs.length ≤ 90000) :
    Ans (callF tbl code 100000 (d + 1)) 68 [v] M fun r M' => Step M M' ∧ Solo M M' .u64 r xs := by
  refine Ans_of (tbl_none (by decide) _) (show code 68 = some c68 from by kernel_rfl) (by simp) fun t hd ha => ?_
  have h0 := ha 0 v rfl
  clear ha
  refine W_seq (W_seqR (by simp only [runSeq_cons, runSeq_nil, evalArgs_nil, evalArgs_const, val1, putT, opI_move]; rfl) ?_)
  rcases hv.isNil with ⟨hnil, hx⟩ | hnil
  · refine W_seq (W_seq (W_seqR (by simp only [runSeq_cons, runSeq_nil, evalArgs_nil, evalArgs_tmp, evalArgs_const, val1, putT, Tr.get_set_self, Tr.get_set_ne, hd _, ne_eq, Nat.reduceEqDiff, not_false_eq_true, decide_true, Nat.reduceLT, opI_move, h0, hnil]; rfl) ?_))
    refine W_cond (by simp only [PArg.eval, Tr.get_set_self, Tr.get_set_ne, hd _, ne_eq, Nat.reduceEqDiff, not_false_eq_true, decide_true, Nat.reduceLT]; rfl) (fun _ => ?_) (fun hb => by simp at hb)
    refine W_seq (W_seqR (by simp only [runSeq_cons, runSeq_nil, evalArgs_nil, evalArgs_const, val1, putT, opI_move]; rfl) (W_ret ?_))
    exact ⟨_, fin_tmp (by simp only [Tr.get_set_self, Tr.get_set_ne, Option.isSome_some, hd _, ne_eq, Nat.reduceEqDiff, not_false_eq_true, decide_true, Nat.reduceLT]; try rfl), Step.refl hok, .inl ⟨rfl, hx⟩⟩
  · refine W_seq (W_seq (W_seqR (by simp only [runSeq_cons, runSeq_nil, evalArgs_nil, evalArgs_tmp, evalArgs_const, val1, putT, Tr.get_set_self, Tr.get_set_ne, hd _, ne_eq, Nat.reduceEqDiff, not_false_eq_true, decide_true, Nat.reduceLT, opI_move, h0, hnil]; rfl) ?_))
    refine W_cond (by simp only [PArg.eval, Tr.get_set_self, Tr.get_set_ne, hd _, ne_eq, Nat.reduceEqDiff, not_false_eq_true, decide_true, Nat.reduceLT]; rfl) (fun hb => by simp at hb) (fun _ => W_skip ?_)
    have e1 : opI (.sliceLit 0 [] []) [] M = some (.val (.slice (some (M.n, 0)) 0 0 false) (M.push (.cells [] 0 true none))) := rfl
    obtain ⟨r, M', e2, s2, _, o2⟩ := clone_lit (Step.refl hok) hv (by omega)
    show W _ _
    refine W_seq (W_seqR (by simp only [runSeq_cons, runSeq_nil, evalArgs_nil, evalArgs_tmp, val1, putT, Tr.get_set_self, Tr.get_set_ne, hd _, ne_eq, Nat.reduceEqDiff, not_false_eq_true, decide_true, Nat.reduceLT, opI_move, h0, e1, e2]; rfl) (W_ret ?_))
    exact ⟨_, fin_tmp (by simp only [Tr.get_set_self, Tr.get_set_ne, Option.isSome_some, hd _, ne_eq, Nat.reduceEqDiff, not_false_eq_true, decide_true, Nat.reduceLT]; try rfl), s2, o2⟩

abbrev spC (who nth from_ to kind task : Int) (va : AV) (code v : Int) (la : AV) : List AV := [.int .i64 who, .int .i64 nth, .int .i64 from_, .int .i64 to, .int .i64 kind, .int .u64 task, va, .int .i64 code, .int .u64 v, la]
set_option maxHeartbeats 2000000 in
theorem own_ok {a b c e f g h i : Int} {va la : AV} {vs ls : List Int} (d : Nat) (M : AMem) (hv : IRow M .i64 va vs) (hl : IRow M .u64 la ls) (hok : Okg M) (hn : vs.length ≤ 90000) (hm : ls.length ≤ 90000) :
    Ans (callF tbl code 100000 (d + 2)) 59 [.agg (spC a b c e f g va h i la)] M fun r M' => Step M M' ∧ ∃ va' la', r = .agg (spC a b c e f g va' h i la') ∧ Solo M M' .i64 va' vs ∧ Solo M M' .u64 la' ls := by
  refine Ans_of (tbl_none (by decide) _) (show code 59 = some c59 from by kernel_rfl) (by simp) fun t hd ha => ?_
  have h0 := ha 0 _ rfl
  clear ha
  refine W_seq (W_seqR (by simp only [runSeq_cons, runSeq_nil, evalArgs_nil, evalArgs_tmp, val1, putT, opI_new, opI_box, cells_agg, push_n, h0]; rfl) ?_)
  have s1 := (Step.refl hok).push (k := .cells (spC a b c e f g va h i la) 0 true none) (fun _ _ _ _ he => by cases he)
  have s2 := s1.push (k := .cells (spC 0 0 0 0 0 0 (.slice none 0 0 false) 0 0 (.slice none 0 0 false)) 0 true none) (fun _ _ _ _ he => by cases he)
  have ga := (get_push_old (k := .cells (spC 0 0 0 0 0 0 (.slice none 0 0 false) 0 0 (.slice none 0 0 false)) 0 true none) s1.ok.1 (show M.n < M.n + 1 by omega)).trans (get_push_self (k := .cells (spC a b c e f g va h i la) 0 true none) hok.1)
  have gb := get_push_self (k := .cells (spC 0 0 0 0 0 0 (.slice none 0 0 false) 0 0 (.slice none 0 0 false)) 0 true none) s1.ok.1
  simp only [push_n] at gb
  have n2 : ((M.push (.cells (spC a b c e f g va h i la) 0 true none)).push (.cells (spC 0 0 0 0 0 0 (.slice none 0 0 false) 0 0 (.slice none 0 0 false)) 0 true none)).n = M.n + 2 := rfl
  have hv2 := hv.grow s2.grow
  have hl2 := hl.grow s2.grow
  generalize hM2 : (M.push (.cells (spC a b c e f g va h i la) 0 true none)).push (.cells (spC 0 0 0 0 0 0 (.slice none 0 0 false) 0 0 (.slice none 0 0 false)) 0 true none) = M2 at *
  have a6 := load_own (o := 6) ga rfl
  obtain ⟨va', M3, c3, s3, o3⟩ := cloneI_ok d M2 hv2 s2.ok hn
  have t3 := s2.trans s3
  have ga3 := (s3.grow.get _ (by omega)).trans ga
  have gb3 := (s3.grow.get _ (by omega)).trans gb
  obtain ⟨e4, s4, ga4, k4⟩ := store1 (o := 6) t3 (Nat.le_refl _) ga3 o3.one (by simp)
  refine W_seq (W_seqR (by simp only [runSeq_cons, runSeq_nil, evalArgs_nil, evalArgs_tmp, val1, putT, Tr.get_set_self, Tr.get_set_ne, hd _, ne_eq, Nat.reduceEqDiff, not_false_eq_true, decide_true, Nat.reduceLT, opI_callF, opI_fieldP, Nat.zero_add, Nat.reduceAdd, a6, c3, e4]; rfl) ?_)
  have gb4 := (k4 _ (by omega)).trans gb3
  have o4 : Solo M2 _ .i64 va' vs := o3.other k4 (by omega)
  have hl4 : IRow (M3.set M.n (.cells ((spC a b c e f g va h i la).set 6 va') 0 true none)) .u64 la ls := hl.grow s4.grow
  simp only [List.set_cons_succ, List.set_cons_zero] at ga4 gb4 o4 hl4 s4
  have n4 : M2.n ≤ (M3.set M.n (.cells (spC a b c e f g va' h i la) 0 true none)).n := s3.grow.n
  generalize hM4 : M3.set M.n (.cells (spC a b c e f g va' h i la) 0 true none) = M4 at *
  simp only [List.set_cons_succ, List.set_cons_zero, hM4]
  have a9 := load_own (o := 9) ga4 rfl
  obtain ⟨la', M5, c5, s5, o5⟩ := cloneU_ok d M4 hl4 s4.ok hm
  have t5 := s4.trans s5
  have ga5 := (s5.grow.get _ (by omega)).trans ga4
  have gb5 := (s5.grow.get _ (by omega)).trans gb4
  obtain ⟨e6, s6, ga6, k6⟩ := store1 (o := 9) t5 (Nat.le_refl _) ga5 o5.one (by simp)
  refine W_seq (W_seqR (by simp only [runSeq_cons, runSeq_nil, evalArgs_nil, evalArgs_tmp, val1, putT, Tr.get_set_self, Tr.get_set_ne, hd _, ne_eq, Nat.reduceEqDiff, not_false_eq_true, decide_true, Nat.reduceLT, opI_callF, opI_fieldP, Nat.zero_add, Nat.reduceAdd, a9, c5, e6]; rfl) ?_)
  have gb6 := (k6 _ (by omega)).trans gb5
  have o6 : Solo M4 _ .u64 la' ls := o5.other k6 (by omega)
  have o6v : Solo M2 _ .i64 va' vs := (o4.grow s4.ok.1 s5.grow).other k6 (by omega)
  simp only [List.set_cons_succ, List.set_cons_zero] at ga6 gb6 o6 o6v s6
  generalize hM6 : M5.set M.n (.cells (spC a b c e f g va' h i la') 0 true none) = M6 at *
  simp only [List.set_cons_succ, List.set_cons_zero, hM6]
  have al := loads_own (o := 0) (n := 10) ga6 (by simp)
  simp only [List.drop_zero, List.take_succ_cons, List.take_zero] at al
  obtain ⟨e7, s7, gb7, k7⟩ := store_all (n := 10) (new := spC a b c e f g va' h i la') s6 (by omega) gb6 rfl rfl (by simp [one_int, o3.one.1, o5.one.1])
  refine W_seq (W_seqR (by simp only [runSeq_cons, runSeq_nil, evalArgs_nil, evalArgs_tmp, val1, putT, Tr.get_set_self, Tr.get_set_ne, hd _, ne_eq, Nat.reduceEqDiff, not_false_eq_true, decide_true, Nat.reduceLT, al, e7]; rfl) (W_ret ?_))
  refine ⟨_, fin_cell (by simp only [Tr.get_set_self, Tr.get_set_ne, hd _, ne_eq, Nat.reduceEqDiff, not_false_eq_true, decide_true, Nat.reduceLT]; try rfl) gb7 rfl, s7, va', la', rfl, ?_, ?_⟩
  · exact (o6v.other k7 (by omega)).mono s2.grow.n
  · exact (o6.other k7 (by omega)).mono (by omega)
end Go.Proofs.Ytoddncakdnmloaa.diary
/- Events and spans, and where they lie. -/
namespace Go.Proofs.Ytoddncakdnmloaa.diary
open Go Go.Vx

/-- an event, and where its lists lie -/
structure Ev where
  step : Int
  who : Int
  nth : Int
  ends : Bool
  kind : Int
  task : Int
  va : AV
  vs : List Int
  code : Int
  v : Int
  la : AV
  ls : List Int
def Ev.cells (e : Ev) : List AV := [.int .i64 e.step, .int .i64 e.who, .int .i64 e.nth, .bool e.ends, .int .i64 e.kind, .int .u64 e.task, e.va, .int .i64 e.code, .int .u64 e.v, e.la]
/-- a row that came in -/
def InRow (G : Addr → Option AV) (k : IntKind) (v : AV) (xs : List Int) : Prop := ∀ M : AMem, M.g = G → IRow M k v xs
structure EvOk (G : Addr → Option AV) (e : Ev) : Prop where
  vs : InRow G .i64 e.va e.vs
  ls : InRow G .u64 e.la e.ls
  nv : e.vs.length ≤ 100
  nl : e.ls.length ≤ 100
structure Sp where
  who : Int
  nth : Int
  from_ : Int
  to : Int
  kind : Int
  task : Int
  vs : List Int
  code : Int
  v : Int
  ls : List Int
deriving DecidableEq
/-- a span of our own -/
def IsSp (M0 M : AMem) (cs : List AV) (s : Sp) : Prop := ∃ va la, cs = spC s.who s.nth s.from_ s.to s.kind s.task va s.code s.v la ∧ Solo M0 M .i64 va s.vs ∧ Solo M0 M .u64 la s.ls
theorem IsSp.grow {M0 M M' : AMem} {cs : List AV} {s : Sp} (h : IsSp M0 M cs s) (hok : Ok M) (hg : Grow M M') : IsSp M0 M' cs s := by
  obtain ⟨va, la, e, h1, h2⟩ := h
  exact ⟨va, la, e, h1.grow hok hg, h2.grow hok hg⟩
theorem IsSp.keep {M0 M M' : AMem} {cs : List AV} {s : Sp} {v : AV} (h : IsSp M0 M cs s) (hk : Keeps M M' v) (hs : ∀ b cs sz, sbOf v = some b → M.get b = some (.cells cs sz true none) → cs ≠ [] ∧ sz ≠ 1) : IsSp M0 M' cs s := by
  obtain ⟨va, la, e, h1, h2⟩ := h
  have key : ∀ b cs sz, M.get b = some (.cells cs sz true none) → (cs ≠ [] → sz = 1) → sbOf v ≠ some b := fun b cs sz hb hc hv => by
    obtain ⟨k1, k2⟩ := hs b cs sz hv hb
    exact k2 (hc k1)
  exact ⟨va, la, e, h1.keep hk (fun b cs sz hb _ hc => key b cs sz hb hc), h2.keep hk (fun b cs sz hb _ hc => key b cs sz hb hc)⟩
theorem RowE.beq {M : AMem} {sz : Nat} {v : AV} {els : List (List AV)} (h : RowE M sz v els) : AV.beq v v = true := by
  obtain ⟨he, ⟨a, c, rfl, h⟩ | ⟨rfl, _⟩ | ⟨b, o, c, gr, cs, sz', wr, g, rfl, h1, h2, h3, h4⟩⟩ := h <;> simp [AV.beq]
theorem keepS {M M' : AMem} {b : Nat} (hk : ∀ c, c ≠ b → M'.get c = M.get c) : Keeps M M' (.slice (some (b, 0)) 0 0 false) := fun c k hc _ hs => (hk c (fun he => hs (by rw [he]; rfl))).trans hc
theorem spC_one {a b c e f g h i : Int} {va la : AV} (h1 : va.one = true) (h2 : la.one = true) : (spC a b c e f g va h i la).all AV.one = true := by simp [one_int, h1, h2]
theorem InRow.one {G : Addr → Option AV} {k : IntKind} {v : AV} {xs : List Int} (h : InRow G k v xs) : v.one = true := (h ⟨.nil, 0, G⟩ rfl).one2.1
/-- Spans of our own in a row. -/
def SpRow (M0 M : AMem) (v : AV) (sps : List Sp) : Prop :=
  ∃ els, FreshE M0 M 10 v els ∧ (∀ b, sbOf v = some b → ∃ cs g, M.get b = some (.cells cs 10 true g) ∧ cs ≠ []) ∧ els.length = sps.length ∧ ∀ (i : Nat) s, sps[i]? = some s → ∃ e, els[i]? = some e ∧ IsSp M0 M e s
theorem SpRow.grow {M0 M M' : AMem} {v : AV} {sps : List Sp} (h : SpRow M0 M v sps) (hok : Ok M) (hg : Grow M M') : SpRow M0 M' v sps := by
  obtain ⟨els, h1, h2, h3, h4⟩ := h
  refine ⟨els, h1.grow hok hg, fun b hb => ?_, h3, fun i s hi => ?_⟩
  · obtain ⟨cs, g, k1, k2⟩ := h2 b hb
    exact ⟨cs, g, (hg.get _ (get_lt hok k1)).trans k1, k2⟩
  · obtain ⟨e, k1, k2⟩ := h4 i s hi
    exact ⟨e, k1, k2.grow hok hg⟩
/-- a span that can be read -/
def RdSp (M : AMem) (cs : List AV) (s : Sp) : Prop := ∃ va la, cs = spC s.who s.nth s.from_ s.to s.kind s.task va s.code s.v la ∧ IRow M .i64 va s.vs ∧ IRow M .u64 la s.ls
def RdRow (M : AMem) (v : AV) (sps : List Sp) : Prop := ∃ els, RowE M 10 v els ∧ els.length = sps.length ∧ ∀ (i : Nat) s, sps[i]? = some s → ∃ e, els[i]? = some e ∧ RdSp M e s
theorem RdSp.grow {M M' : AMem} {cs : List AV} {s : Sp} (h : RdSp M cs s) (hg : Grow M M') : RdSp M' cs s := by
  obtain ⟨va, la, e, h1, h2⟩ := h
  exact ⟨va, la, e, h1.grow hg, h2.grow hg⟩
theorem RdRow.grow {M M' : AMem} {v : AV} {sps : List Sp} (h : RdRow M v sps) (hg : Grow M M') : RdRow M' v sps := by
  obtain ⟨els, h1, h2, h3⟩ := h
  exact ⟨els, h1.grow hg, h2, fun i s hi => by
    obtain ⟨e, k1, k2⟩ := h3 i s hi
    exact ⟨e, k1, k2.grow hg⟩⟩
theorem SpRow.rd {M0 M : AMem} {v : AV} {sps : List Sp} (h : SpRow M0 M v sps) (hok : Ok M) : RdRow M v sps := by
  obtain ⟨els, h1, _, h3, h4⟩ := h
  refine ⟨els, h1.row hok, h3, fun i s hi => ?_⟩
  obtain ⟨e, k1, va, la, k2, k3, k4⟩ := h4 i s hi
  exact ⟨e, k1, va, la, k2, k3.row hok, k4.row hok⟩
theorem RdRow.len {M : AMem} {v : AV} {sps : List Sp} (h : RdRow M v sps) : opI .lenS [v] M = some (.val (.int .i64 sps.length) M) := by
  obtain ⟨els, h1, h2, _⟩ := h
  rw [← h2]; exact h1.len
theorem RdRow.at_ {M : AMem} {v : AV} {sps : List Sp} (h : RdRow M v sps) {i : Nat} (hi : i < sps.length) :
    ∃ p va la, IsP p ∧ opI (.indexAddrS 10) [v, .int .i64 i] M = some (.val (padd p 0) M) ∧ IRow M .i64 va sps[i].vs ∧ IRow M .u64 la sps[i].ls ∧
      opI (.load false 1) [padd p 0] M = some (.val (.int .i64 sps[i].who) M) ∧ opI (.load false 1) [padd p 1] M = some (.val (.int .i64 sps[i].nth) M) ∧ opI (.load false 1) [padd p 2] M = some (.val (.int .i64 sps[i].from_) M) ∧ opI (.load false 1) [padd p 3] M = some (.val (.int .i64 sps[i].to) M) ∧
      opI (.load true 3) [padd p 4] M = some (.val (.agg [.int .i64 sps[i].kind, .int .u64 sps[i].task, va]) M) ∧ opI (.load true 3) [padd p 7] M = some (.val (.agg [.int .i64 sps[i].code, .int .u64 sps[i].v, la]) M) := by
  obtain ⟨els, h1, h2, h3⟩ := h
  obtain ⟨e, k1, va, la, rfl, k3, k4⟩ := h3 i _ (List.getElem?_eq_getElem hi)
  have hil : i < els.length := by omega
  obtain ⟨p, pp, p1, p2, p3⟩ := h1.at_ hil (by omega)
  rw [(List.getElem?_eq_some_iff.1 k1).2] at p2 p3
  exact ⟨p, va, la, pp, p1, k3, k4, p3 0 _ rfl, p3 1 _ rfl, p3 2 _ rfl, p3 3 _ rfl, p2 4 3 (by omega), p2 7 3 (by omega)⟩
theorem sp_eq {a b : Sp} : a = b ↔ a.who = b.who ∧ a.nth = b.nth ∧ a.from_ = b.from_ ∧ a.to = b.to ∧ (a.kind = b.kind ∧ a.task = b.task ∧ a.vs = b.vs) ∧ (a.code = b.code ∧ a.v = b.v ∧ a.ls = b.ls) := by
  cases a; cases b; simp only [Sp.mk.injEq]
  constructor
  · rintro ⟨h1, h2, h3, h4, h5, h6, h7, h8, h9, h10⟩; exact ⟨h1, h2, h3, h4, ⟨h5, h6, h7⟩, h8, h9, h10⟩
  · rintro ⟨h1, h2, h3, h4, ⟨h5, h6, h7⟩, h8, h9, h10⟩; exact ⟨h1, h2, h3, h4, h5, h6, h7, h8, h9, h10⟩
theorem InRow.nil {G : Addr → Option AV} {k : IntKind} : InRow G k (.slice none 0 0 false) [] := fun _ _ => IRow.nil
/-- a span whose lists came in -/
def InSp (G : Addr → Option AV) (cs : List AV) (s : Sp) : Prop := ∃ va la, cs = spC s.who s.nth s.from_ s.to s.kind s.task va s.code s.v la ∧ InRow G .i64 va s.vs ∧ InRow G .u64 la s.ls
theorem padd_zero {p : AV} (h : IsP p) : padd p 0 = p := by
  match p, h with
  | .ptr (some (b, x)), _ => rfl
  | .rptr (some x), _ => simp [padd, addr_add0]
theorem OwnE.other {M0 M M' : AMem} {sz : Nat} {v : AV} {els : List (List AV)} {b0 : Nat} (h : OwnE M0 M sz v els) (hk : ∀ c, c ≠ b0 → M'.get c = M.get c) (hb : sbOf v ≠ some b0) : OwnE M0 M' sz v els := by
  obtain ⟨b, gr, sz', g, rfl, h1, h2, h3⟩ := h
  exact ⟨b, gr, sz', g, rfl, h1, (hk b (fun he => hb (by rw [← he]; rfl))).trans h2, h3⟩
theorem OwnE.lt {M0 M : AMem} {sz : Nat} {v : AV} {els : List (List AV)} (h : OwnE M0 M sz v els) (hok : Ok M) : sbOf v ≠ some M.n := by
  obtain ⟨b, gr, sz', g, rfl, h1, h2, h3⟩ := h
  have := get_lt hok h2
  simp [sbOf]; omega

end Go.Proofs.Ytoddncakdnmloaa.diary
/- What a reader of a diary knows, and where it lies; what one event makes of it. -/
namespace Go.Proofs.Ytoddncakdnmloaa.diary
open Go Go.Vx

structure St where
  step : Int
  nth : List Int
  op : List Int
  spans : List Sp
/-- one event; none: it may not stand here -/
def takeP (at_ : Nat) (st : St) (e : Ev) : Option St :=
  if e.step < st.step ∨ e.who < 0 ∨ e.who ≥ 16 ∨ e.nth ≠ st.nth.getD e.who.toNat 0 then none
  else if e.ends then
    if st.op.getD e.who.toNat 0 < 0 then none
    else match st.spans[(st.op.getD e.who.toNat 0).toNat]? with
      | none => none
      | some s => if s.kind = e.kind ∧ s.task = e.task ∧ s.vs = e.vs then
          some ⟨e.step, st.nth.set e.who.toNat (wrapF .i64 (st.nth.getD e.who.toNat 0 + 1)), st.op.set e.who.toNat (-1), st.spans.set (st.op.getD e.who.toNat 0).toNat { s with to := at_, code := e.code, v := e.v, ls := e.ls }⟩
        else none
  else if st.op.getD e.who.toNat 0 ≥ 0 ∨ ¬ (e.code = 0 ∧ e.v = 0 ∧ e.ls = []) then none
  else some ⟨e.step, st.nth, st.op.set e.who.toNat st.spans.length, st.spans ++ [⟨e.who, e.nth, at_, -1, e.kind, e.task, e.vs, 0, 0, []⟩]⟩

/-- the reader's cells -/
def rdC (step : Int) (nth op : List Int) (sv : AV) : List AV := .int .i64 step :: (nth.map (AV.int .i64 ·) ++ (op.map (AV.int .i64 ·) ++ [sv]))
section
variable {step : Int} {nth op : List Int} {sv : AV} {w : Nat} {x : Int}
theorem rdC_length (h1 : nth.length = 16) (h2 : op.length = 16) : (rdC step nth op sv).length = 34 := by simp [rdC, h1, h2]
theorem rdC_nth (h1 : nth.length = 16) (hw : w < 16) : (rdC step nth op sv)[1 + w * 1]? = some (.int .i64 (nth.getD w 0)) := by
  unfold rdC
  rw [Nat.mul_one, Nat.add_comm, List.getElem?_cons_succ, List.getElem?_append_left (by simp [h1, hw])]
  simp [h1, hw]
theorem rdC_op (h1 : nth.length = 16) (h2 : op.length = 16) (hw : w < 16) : (rdC step nth op sv)[17 + w * 1]? = some (.int .i64 (op.getD w 0)) := by
  unfold rdC
  rw [Nat.mul_one, show 17 + w = (16 + w) + 1 by omega, List.getElem?_cons_succ, List.getElem?_append_right (by simp [h1]), List.length_map, h1, Nat.add_sub_cancel_left, List.getElem?_append_left (by simp [h2, hw])]
  simp [h2, hw]
theorem rdC_sv (h1 : nth.length = 16) (h2 : op.length = 16) : (rdC step nth op sv)[33]? = some sv := by
  unfold rdC
  rw [List.getElem?_cons_succ, List.getElem?_append_right (by simp [h1]), List.length_map, h1, List.getElem?_append_right (by simp [h2]), List.length_map, h2]
  rfl
theorem rdC_set_nth (h1 : nth.length = 16) (hw : w < 16) : (rdC step nth op sv).set (1 + w * 1) (.int .i64 x) = rdC step (nth.set w x) op sv := by
  unfold rdC
  rw [Nat.mul_one, Nat.add_comm, List.set_cons_succ, List.set_append_left _ _ (by simp [h1, hw]), List.map_set]
theorem rdC_set_op (h1 : nth.length = 16) (h2 : op.length = 16) (hw : w < 16) : (rdC step nth op sv).set (17 + w * 1) (.int .i64 x) = rdC step nth (op.set w x) sv := by
  unfold rdC
  rw [Nat.mul_one, show 17 + w = (16 + w) + 1 by omega, List.set_cons_succ, List.set_append_right _ _ (by simp [h1]), List.length_map, h1, Nat.add_sub_cancel_left, List.set_append_left _ _ (by simp [h2, hw]), List.map_set]
theorem rdC_set_sv {sv' : AV} (h1 : nth.length = 16) (h2 : op.length = 16) : (rdC step nth op sv).set 33 sv' = rdC step nth op sv' := by
  unfold rdC
  rw [List.set_cons_succ, List.set_append_right _ _ (by simp [h1]), List.length_map, h1, List.set_append_right _ _ (by simp [h2]), List.length_map, h2]
  rfl
end
structure Rdr (M0 M : AMem) (rb : Nat) (st : St) (sv : AV) (els : List (List AV)) : Prop where
  hrb : M0.n ≤ rb
  cell : M.get rb = some (.cells (rdC st.step st.nth st.op sv) 0 true none)
  row : FreshE M0 M 10 sv els
  blk : ∀ b, sbOf sv = some b → ∃ cs g, M.get b = some (.cells cs 10 true g) ∧ cs ≠ []
  len : els.length = st.spans.length
  sp : ∀ (i : Nat) s, st.spans[i]? = some s → ∃ e, els[i]? = some e ∧ IsSp M0 M e s
  nth : st.nth.length = 16
  op : st.op.length = 16
theorem Rdr.ne {M0 M : AMem} {rb : Nat} {st : St} {sv : AV} {els : List (List AV)} (h : Rdr M0 M rb st sv els) : sbOf sv ≠ some rb := fun he => by
  obtain ⟨cs, g, h1, _⟩ := h.blk _ he
  rw [h.cell] at h1; cases h1
theorem Rdr.grow {M0 M M' : AMem} {rb : Nat} {st : St} {sv : AV} {els : List (List AV)} (h : Rdr M0 M rb st sv els) (hok : Ok M) (hg : Grow M M') : Rdr M0 M' rb st sv els :=
  ⟨h.hrb, (hg.get _ (get_lt hok h.cell)).trans h.cell, h.row.grow hok hg, fun b hb => by
    obtain ⟨cs, g, h1, h2⟩ := h.blk b hb
    exact ⟨cs, g, (hg.get _ (get_lt hok h1)).trans h1, h2⟩, h.len, fun i s hi => by
    obtain ⟨e, h1, h2⟩ := h.sp i s hi
    exact ⟨e, h1, h2.grow hok hg⟩, h.nth, h.op⟩
/-- The reader's cells are written, but for its spans. -/
theorem Rdr.upd {M0 M M' : AMem} {rb : Nat} {st st' : St} {sv : AV} {els : List (List AV)} (h : Rdr M0 M rb st sv els) (hg : M'.get rb = some (.cells (rdC st'.step st'.nth st'.op sv) 0 true none)) (hk : ∀ c, c ≠ rb → M'.get c = M.get c)
    (hsp : st'.spans = st.spans) (h1 : st'.nth.length = 16) (h2 : st'.op.length = 16) : Rdr M0 M' rb st' sv els := by
  have hK : Keeps M M' (.slice (some (rb, 0)) 0 0 false) := fun c k hc _ hs => (hk c (fun he => hs (by rw [he]; rfl))).trans hc
  refine ⟨h.hrb, hg, ?_, fun b hb => ?_, by rw [hsp]; exact h.len, fun i s hi => ?_, h1, h2⟩
  · refine h.row.imp (fun ho => ?_) id
    obtain ⟨b, gr, sz', g, e, k1, k2, k3⟩ := ho
    exact ⟨b, gr, sz', g, e, k1, (hk b (fun he => h.ne (by rw [e, ← he]; rfl))).trans k2, k3⟩
  · obtain ⟨cs, g, k1, k2⟩ := h.blk b hb
    exact ⟨cs, g, (hk b (fun he => h.ne (by rw [hb, he]))).trans k1, k2⟩
  · rw [hsp] at hi
    obtain ⟨e, k1, k2⟩ := h.sp i s hi
    refine ⟨e, k1, k2.keep hK fun b cs sz hb hc => ?_⟩
    cases hb
    rw [h.cell] at hc
    cases hc
    exact ⟨by simp [rdC], by decide⟩
def Bnd (st : St) : Prop := (∀ w : Nat, w < 16 → st.op.getD w 0 < st.spans.length) ∧ ∀ s ∈ st.spans, s.vs.length ≤ 100
theorem Rdr.solo {M0 M : AMem} {rb : Nat} {st : St} {sv : AV} {els : List (List AV)} (h : Rdr M0 M rb st sv els) : ∀ b cs sz, sbOf sv = some b → M.get b = some (.cells cs sz true none) → cs ≠ [] ∧ sz ≠ 1 := fun b cs sz hb hc => by
  obtain ⟨cs', g, k1, k2⟩ := h.blk b hb
  rw [k1] at hc; cases hc
  exact ⟨k2, by decide⟩
/-- A span is laid behind the others. -/
theorem Rdr.push {M0 M : AMem} {rb : Nat} {st : St} {sv : AV} {els : List (List AV)} {xc : List AV} {s : Sp} (h : Step M0 M) (hr : Rdr M0 M rb st sv els) (hx : IsSp M0 M xc s) (hn : st.spans.length < 90000) :
    ∃ sv' M1 M2, opI (.sliceLit 1 [.int .i64 0, .int .i64 0, .int .i64 0, .int .i64 0, .int .i64 0, .int .u64 0, .slice none 0 0 false, .int .i64 0, .int .u64 0, .slice none 0 0 false] [(0, 10)]) [.agg xc] M = some (.val (.slice (some (M.n, 0)) 1 1 false) (M.push (.cells xc 0 true none))) ∧
      opI (.append 10 112) [sv, .slice (some (M.n, 0)) 1 1 false] (M.push (.cells xc 0 true none)) = some (.val sv' M1) ∧ opI (.store 1) [.ptr (some (rb, 33)), sv'] M1 = some (.val (.tuple []) M2) ∧ Step M0 M1 ∧ Step M0 M2 ∧
      Rdr M0 M2 rb ⟨st.step, st.nth, st.op, st.spans ++ [s]⟩ sv' (els ++ [xc]) := by
  obtain ⟨va, la, rfl, hv, hl⟩ := hx
  have hlen : (AV.cells (.agg (spC s.who s.nth s.from_ s.to s.kind s.task va s.code s.v la))).length = 10 := rfl
  obtain ⟨M1, g, e1, e2, s1, o1, k1, n1, b1⟩ := push_el (bytes := 112) (z := [.int .i64 0, .int .i64 0, .int .i64 0, .int .i64 0, .int .i64 0, .int .u64 0, .slice none 0 0 false, .int .i64 0, .int .u64 0, .slice none 0 0 false]) h hr.row rfl hlen (by omega) (spC_one hv.one.1 hl.one.1) (by rw [hr.len]; omega) (by rw [hr.len]; omega)
  rw [cells_agg] at e1 e2 o1 b1
  have hrb := get_lt h.ok.1 hr.cell
  have c1 := k1 _ _ hr.cell rfl hr.ne
  obtain ⟨e3, s3, c3, k3⟩ := store1 (o := 33) (x := .slice (some (M.n + 1, 0)) (els.length + 1) (els.length + 1) true) s1 hr.hrb c1 ⟨rfl, rfl⟩ (by rw [rdC_length hr.nth hr.op]; decide)
  rw [rdC_set_sv hr.nth hr.op] at e3 s3 c3 k3
  have b3 := (k3 (M.n + 1) (by omega)).trans b1
  refine ⟨_, M1, _, e1, e2, e3, s1, s3, hr.hrb, c3, .inl ?_, fun b hb => ?_, by simp [hr.len], fun i y hi => ?_, hr.nth, hr.op⟩
  · obtain ⟨b, gr, sz', g, e, q1, q2, q3⟩ := o1
    have : b = M.n + 1 := by simp only [AV.slice.injEq, Option.some.injEq, Prod.mk.injEq] at e; omega
    subst this
    exact ⟨M.n + 1, gr, sz', g, e, q1, (k3 _ (by omega)).trans q2, q3⟩
  · cases hb
    exact ⟨_, g, b3, by simp [spC]⟩
  · have old : ∀ cs y, IsSp M0 M cs y → IsSp M0 (M1.set rb (.cells (rdC st.step st.nth st.op (.slice (some (M.n + 1, 0)) (els.length + 1) (els.length + 1) true)) 0 true none)) cs y := fun cs y hy => by
      refine (hy.keep k1 hr.solo).keep (keepS k3) fun b cs sz hb hc => ?_
      cases hb
      rw [c1] at hc; cases hc
      exact ⟨by simp [rdC], by decide⟩
    rcases Nat.lt_or_ge i st.spans.length with hlt | hge
    · rw [List.getElem?_append_left hlt] at hi
      obtain ⟨e, q1, q2⟩ := hr.sp i y hi
      exact ⟨e, by rw [List.getElem?_append_left (by rw [hr.len]; exact hlt)]; exact q1, old _ _ q2⟩
    · have : i = st.spans.length := by
        have := (List.getElem?_eq_some_iff.1 hi).1
        simp at this; omega
      subst this
      simp only [List.getElem?_append_right (Nat.le_refl _), Nat.sub_self, List.getElem?_cons_zero, Option.some.injEq] at hi
      subst hi
      refine ⟨_, ?_, old _ _ ⟨va, la, rfl, hv, hl⟩⟩
      rw [List.getElem?_append_right (by rw [hr.len]; omega), hr.len, Nat.sub_self]; rfl
/-- A span's cells are written. -/
theorem Rdr.put {M0 M : AMem} {rb : Nat} {st : St} {sv : AV} {els : List (List AV)} {x : AV} {k o n : Nat} {s' : Sp} {e0 : List AV} (h : Step M0 M) (hr : Rdr M0 M rb st sv els) (hk0 : els[k]? = some e0) (hx : x.cells.length = n) (ho : o + n ≤ 10) (hone : x.cells.all AV.one = true) (hs' : IsSp M0 M (splice e0 o x.cells) s') :
    ∃ p M', IsP p ∧ opI (.indexAddrS 10) [sv, .int .i64 k] M = some (.val (padd p 0) M) ∧ opI (.store n) [padd p o, x] M = some (.val (.tuple []) M') ∧ Step M0 M' ∧ M'.n = M.n ∧ (∀ c cs sz, c < M.n → M.get c = some (.cells cs sz true none) → sz = 0 → M'.get c = some (.cells cs sz true none)) ∧
      Rdr M0 M' rb ⟨st.step, st.nth, st.op, st.spans.set k s'⟩ sv (els.set k (splice e0 o x.cells)) := by
  have hk : k < els.length := (List.getElem?_eq_some_iff.1 hk0).1
  obtain rfl : els[k] = e0 := (List.getElem?_eq_some_iff.1 hk0).2
  rcases hr.row with hrow | ⟨_, he⟩
  rotate_left
  · subst he; simp at hk
  obtain ⟨p, M', hp, e1, e2, s2, o2, k2, n2, b2⟩ := store_el h hrow hk hx ho hone
  refine ⟨p, M', hp, e1, e2, s2, n2, fun c cs sz hc hg hz => k2 c _ hg rfl fun hb => ?_, hr.hrb, k2 _ _ hr.cell rfl hr.ne, .inl o2, fun b hb => ?_, by simp [hr.len], fun i y hi => ?_, hr.nth, hr.op⟩
  · obtain ⟨cs', g, q1, q2⟩ := hr.blk c hb
    rw [q1] at hg; cases hg; cases hz
  · obtain ⟨cs', g, q1, q2⟩ := hr.blk b hb
    have := b2 cs' 10 true g (by rw [hb]; exact q1)
    rw [hb, Option.getD_some] at this
    obtain ⟨cs2, q3⟩ := this
    refine ⟨cs2, g, q3, ?_⟩
    obtain ⟨b', gr, sz', g', e, r1, r2, r3⟩ := o2
    have : b' = b := by rw [e] at hb; simpa [sbOf] using hb
    subst this
    rw [q3] at r2; cases r2
    intro hnil
    have hl := r3.2.2.1.len
    rw [hnil, List.length_set] at hl
    simp at hl; omega
  · rw [List.getElem?_set] at hi
    split at hi
    · rename_i heq; subst heq
      split at hi
      · cases hi
        exact ⟨_, by rw [List.getElem?_set_self hk], hs'.keep k2 hr.solo⟩
      · cases hi
    · rename_i hne
      obtain ⟨e, q1, q2⟩ := hr.sp i y hi
      exact ⟨e, by rw [List.getElem?_set_ne hne]; exact q1, q2.keep k2 hr.solo⟩
end Go.Proofs.Ytoddncakdnmloaa.diary
