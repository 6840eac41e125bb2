/- SameTexts at equal rows, and the law NumLists walked. -/
import Derived.Test.YtphdlmmllahgkaaDoorNlWords
namespace Go.Proofs.YtphdlmmllahgkaaDoor.num
open Go Go.Vx Go.Lib
def SRow (M : AMem) (v : AV) (ws : List (List UInt8)) : Prop := RowE M 1 v (ws.map strE)
theorem SRow.len {M : AMem} {v : AV} {ws : List (List UInt8)} (h : SRow M v ws) : opI .lenS [v] M = some (.val (.int .i64 ws.length) M) := by
  have := RowE.len h
  rwa [List.length_map] at this
theorem SRow.at_ {M : AMem} {v : AV} {ws : List (List UInt8)} (h : SRow M v ws) {i : Nat} (hi : i < ws.length) :
    ∃ p, IsP p ∧ opI (.indexAddrS 1) [v, .int .i64 i] M = some (.val (padd p 0) M) ∧ opI (.load false 1) [padd p 0] M = some (.val (strA ws[i]) M) := by
  obtain ⟨p, h0, h1, _, h2⟩ := RowE.at_ h (i := i) (by rw [List.length_map]; exact hi) (by omega)
  exact ⟨p, h0, h1, h2 0 _ (by simp [strE])⟩
set_option maxRecDepth 20000 in
set_option maxHeartbeats 4000000 in
theorem same_ok (d : Nat) (M : AMem) {v w : AV} {ws : List (List UInt8)} (hv : SRow M v ws) (hw : SRow M w ws) (hl : ws.length ≤ 2000) :
    callF tbl code 100000 (d + 1) 12 [v, w] M = some (.bool true, M) := by
  refine Ans.eq ?_
  refine Ans_of (tbl_none (by decide) _) (show code 12 = some c12 from by kernel_rfl) (by simp) fun t hd ha => ?_
  have h0 := ha 0 _ rfl
  have h1 := ha 1 _ rfl
  clear ha
  have lv := hv.len
  have lw := hw.len
  have e1 : ((ws.length : Int) != (ws.length : Int)) = false := by simp
  refine W_seq (W_seqR (by simp only [runSeq_cons, runSeq_nil, evalArgs_nil, evalArgs_const, val1, putT, opI_move]; rfl) ?_)
  refine W_seq (W_seq (W_seqR (by simp only [runSeq_cons, runSeq_nil, evalArgs_nil, evalArgs_tmp, val1, putT, Tr.get_set_self, Tr.get_set_ne, hd _, ne_eq, Nat.reduceEqDiff, not_false_eq_true, decide_true, Nat.reduceLT, opI_move, opI_neq, h0, h1, lv, lw, e1]; rfl) ?_))
  refine W_cond (b := false) (by simp only [PArg.eval, Tr.get_set_self, Tr.get_set_ne, hd _, ne_eq, Nat.reduceEqDiff, not_false_eq_true, decide_true, Nat.reduceLT]; try rfl) (fun hb => by cases hb) (fun _ => W_skip ?_)
  show W _ _
  refine W_seq (W_seq (W_seqR (by simp only [runSeq_cons, runSeq_nil, evalArgs_nil, evalArgs_const, val1, putT, opI_move]; rfl) (W_block (W_loop (fun k t M' => ∃ (i : Nat), k + i = ws.length ∧ M' = M ∧ Dom t 26 ∧ t.get 0 = some v ∧ t.get 1 = some w ∧ t.get 5 = some (.int .i64 i)) (k := ws.length) (by omega) ?_ ?_))))
  · exact ⟨0, rfl, rfl, by ((repeat (with_reducible apply Dom.set)); exact hd), by simp only [Tr.get_set_ne, ne_eq, Nat.reduceEqDiff, not_false_eq_true, h0], by simp only [Tr.get_set_ne, ne_eq, Nat.reduceEqDiff, not_false_eq_true, h1], by simp only [Tr.get_set_self, Tr.get_set_ne, hd _, ne_eq, Nat.reduceEqDiff, not_false_eq_true, decide_true, Nat.reduceLT]; rfl⟩
  clear h0 h1 hd
  intro k t M' ⟨i, hk, hM, hd, h0, h1, h5⟩
  subst hM
  refine W_seq (W_seq (W_seqR (by simp only [runSeq_cons, runSeq_nil, evalArgs_nil, evalArgs_tmp, val1, putT, Tr.get_set_self, Tr.get_set_ne, hd _, ne_eq, Nat.reduceEqDiff, not_false_eq_true, decide_true, Nat.reduceLT, opI_move, opI_lss, h0, h5, lv]; rfl) ?_))
  refine W_cond (by simp only [PArg.eval, Tr.get_set_self, Tr.get_set_ne, hd _, ne_eq, Nat.reduceEqDiff, not_false_eq_true, decide_true, Nat.reduceLT]; rfl) (fun hb => W_skip ?_) (fun hb => W_exit ?_)
  · have hi : i < ws.length := by simpa using hb
    obtain ⟨p, pp, p1, p2⟩ := hv.at_ hi
    obtain ⟨q, qq, q1, q2⟩ := hw.at_ hi
    have nq := opI_neqStr (M := M') (a := ws[i]) (b := ws[i])
    rw [decide_eq_false (fun h => h rfl)] at nq
    have nq' : opI (.bin .neq) [strA ws[i], strA ws[i]] M' = some (.val (.bool false) M') := nq
    show W _ _
    refine W_seq (W_block (W_seq (W_trace (M' := M') rfl (by simp only [sameN_self, evalArgs_nil, evalArgs_tmp, putT, Tr.get_set_self, Tr.get_set_ne, hd _, ne_eq, Nat.reduceEqDiff, not_false_eq_true, decide_true, Nat.reduceLT, opI_move, trace_nil, trace_read, addR_some, h0, h1, h5, p1, p2, q1, q2, nq']; rfl) (by simp [checkRec, isLoad]) rfl ?_)))
    refine W_cond (b := false) (by simp only [PArg.eval, Tr.get_set_self, Tr.get_set_ne, hd _, ne_eq, Nat.reduceEqDiff, not_false_eq_true, decide_true, Nat.reduceLT]; try rfl) (fun hb => by cases hb) (fun _ => ?_)
    refine W_skip ?_
    show W _ _
    refine W_seqR (by simp only [runSeq_cons, runSeq_nil, evalArgs_nil, evalArgs_tmp, evalArgs_const, val1, putT, Tr.get_set_self, Tr.get_set_ne, hd _, ne_eq, Nat.reduceEqDiff, not_false_eq_true, decide_true, Nat.reduceLT, opI_move, opI_add, h5]; rfl) ?_
    refine ⟨k - 1, by omega, i + 1, by omega, rfl, by ((repeat (with_reducible apply Dom.set)); exact hd), by simp only [Tr.get_set_ne, ne_eq, Nat.reduceEqDiff, not_false_eq_true, h0], by simp only [Tr.get_set_ne, ne_eq, Nat.reduceEqDiff, not_false_eq_true, h1], ?_⟩
    simp only [Tr.get_set_self, Tr.get_set_ne, hd _, ne_eq, Nat.reduceEqDiff, not_false_eq_true, decide_true, Nat.reduceLT]
    rw [wrapF_small (by omega) (by omega)]; rfl
  show W _ _
  refine W_seq (W_seqR (by simp only [runSeq_cons, runSeq_nil, evalArgs_nil, evalArgs_const, val1, putT, opI_move]; rfl) (W_ret ?_))
  exact ⟨_, fin_tmp (by simp only [Tr.get_set_self, Tr.get_set_ne, hd _, ne_eq, Nat.reduceEqDiff, not_false_eq_true, decide_true, Nat.reduceLT]; try rfl), rfl, rfl⟩
end Go.Proofs.YtphdlmmllahgkaaDoor.num
