/- The walk of the document's SameSpans. -/
import Derived.Test.YtoddncakdnmloaaDiRdr
namespace Go.Proofs.Ytoddncakdnmloaa.diary
open Go Go.Vx

set_option maxRecDepth 20000 in
set_option maxHeartbeats 8000000 in
theorem samespans_ok {u v : AV} {xs ys : List Sp} (d : Nat) (M0 : AMem) (hu0 : RdRow M0 u xs) (hv0 : RdRow M0 v ys) (hok : Okg M0) (hn : xs.length < 90000) (hbd : ∀ s ∈ xs, s.vs.length < 90000 ∧ s.ls.length < 90000) :
    Ans (callF tbl code 100000 (d + 3)) 18 [u, v] M0 fun r M' => Step M0 M' ∧ r = .bool (decide (xs = ys)) := by
  refine Ans_of (tbl_none (by decide) _) (show code 18 = some c18 from by kernel_rfl) (by simp) fun t hd ha => ?_
  have h0 := ha 0 u rfl
  have h1 := ha 1 v rfl
  have lu := hu0.len
  have lv := hv0.len
  clear ha
  refine W_seq (W_seqR (by simp only [runSeq_cons, runSeq_nil, evalArgs_nil, evalArgs_const, val1, putT, opI_move]; rfl) ?_)
  refine W_seq (W_seq (W_seqR (by simp only [runSeq_cons, runSeq_nil, evalArgs_nil, evalArgs_tmp, val1, putT, Tr.get_set_self, Tr.get_set_ne, hd _, ne_eq, Nat.reduceEqDiff, not_false_eq_true, decide_true, Nat.reduceLT, opI_move, opI_neq, h0, h1, lu, lv]; rfl) ?_))
  refine W_cond (by simp only [PArg.eval, Tr.get_set_self, Tr.get_set_ne, hd _, ne_eq, Nat.reduceEqDiff, not_false_eq_true, decide_true, Nat.reduceLT]; rfl) (fun hb => ?_) (fun hb => ?_)
  · refine W_seq (W_seqR (by simp only [runSeq_cons, runSeq_nil, evalArgs_nil, evalArgs_const, val1, putT, opI_move]; rfl) (W_ret ?_))
    refine ⟨_, fin_tmp (by simp only [Tr.get_set_self, Tr.get_set_ne, Option.isSome_some, hd _, ne_eq, Nat.reduceEqDiff, not_false_eq_true, decide_true, Nat.reduceLT]; rfl), Step.refl hok, ?_⟩
    have : xs ≠ ys := fun h => by subst h; simp at hb
    simp [resV, this]
  have hnm : xs.length = ys.length := by simp at hb; omega
  clear lu lv
  refine W_skip (W_seq (W_seq (W_seqR (by simp only [runSeq_cons, runSeq_nil, evalArgs_nil, evalArgs_const, val1, putT, opI_move]; rfl) (W_block (W_loop (fun k' t M' => ∃ i : Nat, k' + i = xs.length ∧ Step M0 M' ∧ Dom t 95 ∧ t.get 0 = some u ∧ t.get 1 = some v ∧ t.get 5 = some (.int .i64 i) ∧ xs.take i = ys.take i) (k := xs.length) (by omega) ?_ ?_)))))
  · exact ⟨0, rfl, Step.refl hok, by ((repeat (with_reducible apply Dom.set)); exact hd), by simp only [Tr.get_set_ne, ne_eq, Nat.reduceEqDiff, not_false_eq_true, h0], by simp only [Tr.get_set_ne, ne_eq, Nat.reduceEqDiff, not_false_eq_true, h1], by simp only [Tr.get_set_self, Tr.get_set_ne, hd _, ne_eq, Nat.reduceEqDiff, not_false_eq_true, decide_true, Nat.reduceLT]; rfl, rfl⟩
  clear h0 h1 hd
  intro k' t M ⟨i, hk, s, hd, h0, h1, h5, hj⟩
  have hu := hu0.grow s.grow
  have hv := hv0.grow s.grow
  have lu := hu.len
  refine W_seq (W_seq (W_seqR (by simp only [runSeq_cons, runSeq_nil, evalArgs_nil, evalArgs_tmp, val1, putT, Tr.get_set_self, Tr.get_set_ne, hd _, ne_eq, Nat.reduceEqDiff, not_false_eq_true, decide_true, Nat.reduceLT, opI_move, opI_lss, h0, h5, lu]; rfl) ?_))
  refine W_cond (by simp only [PArg.eval, Tr.get_set_self, Tr.get_set_ne, hd _, ne_eq, Nat.reduceEqDiff, not_false_eq_true, decide_true, Nat.reduceLT]; rfl) (fun hb => ?_) (fun hb => ?_)
  rotate_left
  · refine W_exit ?_
    have hin : i = xs.length := by simp at hb; omega
    show W _ _
    refine W_seq (W_seqR (by simp only [runSeq_cons, runSeq_nil, evalArgs_nil, evalArgs_const, val1, putT, opI_move]; rfl) (W_ret ?_))
    refine ⟨_, fin_tmp (by simp only [Tr.get_set_self, Tr.get_set_ne, hd _, ne_eq, Nat.reduceEqDiff, not_false_eq_true, decide_true, Nat.reduceLT]; rfl), s, ?_⟩
    have : xs = ys := by
      rw [hin, List.take_length, hnm, List.take_length] at hj; exact hj
    simp [resV, this]
  have hin : i < xs.length := by simpa using hb
  have hin' : i < ys.length := by omega
  obtain ⟨p, va, la, pp, p1, pv, pl, P0, P1, P2, P3, P4, _⟩ := hu.at_ hin
  obtain ⟨q, va', la', qq, q1, qv, ql, Q0, Q1, Q2, Q3, Q4, _⟩ := hv.at_ hin'
  have hx := sp_eq (a := xs[i]) (b := ys[i])
  have hbi := hbd (xs[i]) (List.getElem_mem hin)
  have bad : ¬ xs[i] = ys[i] → ∀ (t' : Tr AV) (M' : AMem), Step M0 M' → t'.get 4 = some (.bool false) → Fin ⟨95, Tr.ofList (List.replicate 95 undefA), c18.body, [.tmp 4]⟩ (fun r M' => Step M0 M' ∧ r = .bool (decide (xs = ys))) .ret t' M' := fun hs t' M' hst ht =>
    ⟨_, fin_tmp ht, hst, by rw [decide_eq_false (fun h => hs (by subst h; rfl))]; rfl⟩
  obtain ⟨r4, M4, c4, s4, rfl⟩ := sameCall_ok (c1 := xs[i].kind) (c2 := ys[i].kind) (v1 := xs[i].task) (v2 := ys[i].task) d M pv qv hbi.1 s.ok
  obtain ⟨p', va2, la2, pp', p1', pv', pl', _, _, _, _, _, P7⟩ := (hu.grow s4.grow).at_ hin
  obtain ⟨q', va2', la2', qq', q1', qv', ql', _, _, _, _, _, Q7⟩ := (hv.grow s4.grow).at_ hin'
  obtain ⟨r5, M5, c5, s5, rfl⟩ := sameResult_ok (c1 := xs[i].code) (c2 := ys[i].code) (v1 := xs[i].v) (v2 := ys[i].v) d M4 pl' ql' hbi.2 s4.ok
  have t4 := s.trans s4
  have t5 := t4.trans s5
  have hh := held_none s.ok.1
  have hh4 := t4.nh M.n s.grow.n
  generalize hX : xs[i] = X at *
  generalize hY : ys[i] = Y at *
  by_cases hA : X.who = Y.who
  rotate_left
  · have hA' : (X.who != Y.who) = true := by simpa using hA
    refine W_skip (W_seq (W_block (W_seq (W_mix rfl (by simp only [sameN_self, evalArgs_nil, evalArgs_tmp, evalArgs_const, putT, Tr.get_set_self, Tr.get_set_ne, Tr.isSome_set, hd _, ne_eq, Nat.reduceEqDiff, not_false_eq_true, decide_true, Nat.reduceLT, opI_move, opI_neq, opI_pick, Nat.add_zero, runMix_nil, runMix_read, runMix_guard (b := true), Bool.true_beq, h0, h1, h5, p1, q1, opI_fieldQ pp, opI_fieldQ qq, P0, Q0, hA']; rfl) ?_))))
    refine W_cond (b := true) (by simp only [PArg.eval, Tr.get_set_self, Tr.get_set_ne, hd _, ne_eq, Nat.reduceEqDiff, not_false_eq_true, decide_true, Nat.reduceLT]; try rfl) (fun _ => ?_) (fun hb => by cases hb)
    refine W_seq (W_seqR (by simp only [runSeq_cons, runSeq_nil, evalArgs_nil, evalArgs_const, val1, putT, opI_move]; rfl) (W_ret (bad (fun h => hA ((hx.1 h).1)) _ _ s (by simp only [Tr.get_set_self, Tr.get_set_ne, hd _, ne_eq, Nat.reduceEqDiff, not_false_eq_true, decide_true, Nat.reduceLT]; try rfl))))
  have hA' : (X.who != Y.who) = false := by simpa using hA
  by_cases hB : X.nth = Y.nth
  rotate_left
  · have hB' : (X.nth != Y.nth) = true := by simpa using hB
    refine W_skip (W_seq (W_block (W_seq (W_mix rfl (by simp only [sameN_self, evalArgs_nil, evalArgs_tmp, evalArgs_const, putT, Tr.get_set_self, Tr.get_set_ne, Tr.isSome_set, hd _, ne_eq, Nat.reduceEqDiff, not_false_eq_true, decide_true, Nat.reduceLT, opI_move, opI_neq, opI_pick, Nat.zero_add, Nat.add_zero, runMix_nil, runMix_read, runMix_guard (b := true), runMix_guard (b := false), beq_self_eq_true, Bool.true_beq, h0, h1, h5, p1, q1, opI_fieldQ pp, opI_fieldQ qq, P0, Q0, hA', P1, Q1, hB']; rfl) ?_))))
    refine W_cond (b := true) (by simp only [PArg.eval, Tr.get_set_self, Tr.get_set_ne, hd _, ne_eq, Nat.reduceEqDiff, not_false_eq_true, decide_true, Nat.reduceLT]; try rfl) (fun _ => ?_) (fun hb => by cases hb)
    refine W_seq (W_seqR (by simp only [runSeq_cons, runSeq_nil, evalArgs_nil, evalArgs_const, val1, putT, opI_move]; rfl) (W_ret (bad (fun h => hB ((hx.1 h).2.1)) _ _ s (by simp only [Tr.get_set_self, Tr.get_set_ne, hd _, ne_eq, Nat.reduceEqDiff, not_false_eq_true, decide_true, Nat.reduceLT]; try rfl))))
  have hB' : (X.nth != Y.nth) = false := by simpa using hB
  by_cases hC : X.from_ = Y.from_
  rotate_left
  · have hC' : (X.from_ != Y.from_) = true := by simpa using hC
    refine W_skip (W_seq (W_block (W_seq (W_mix rfl (by simp only [sameN_self, evalArgs_nil, evalArgs_tmp, evalArgs_const, putT, Tr.get_set_self, Tr.get_set_ne, Tr.isSome_set, hd _, ne_eq, Nat.reduceEqDiff, not_false_eq_true, decide_true, Nat.reduceLT, opI_move, opI_neq, opI_pick, Nat.zero_add, Nat.add_zero, runMix_nil, runMix_read, runMix_guard (b := true), runMix_guard (b := false), beq_self_eq_true, Bool.true_beq, h0, h1, h5, p1, q1, opI_fieldQ pp, opI_fieldQ qq, P0, Q0, hA', P1, Q1, hB', P2, Q2, hC']; rfl) ?_))))
    refine W_cond (b := true) (by simp only [PArg.eval, Tr.get_set_self, Tr.get_set_ne, hd _, ne_eq, Nat.reduceEqDiff, not_false_eq_true, decide_true, Nat.reduceLT]; try rfl) (fun _ => ?_) (fun hb => by cases hb)
    refine W_seq (W_seqR (by simp only [runSeq_cons, runSeq_nil, evalArgs_nil, evalArgs_const, val1, putT, opI_move]; rfl) (W_ret (bad (fun h => hC ((hx.1 h).2.2.1)) _ _ s (by simp only [Tr.get_set_self, Tr.get_set_ne, hd _, ne_eq, Nat.reduceEqDiff, not_false_eq_true, decide_true, Nat.reduceLT]; try rfl))))
  have hC' : (X.from_ != Y.from_) = false := by simpa using hC
  by_cases hD : X.to = Y.to
  rotate_left
  · have hD' : (X.to != Y.to) = true := by simpa using hD
    refine W_skip (W_seq (W_block (W_seq (W_mix rfl (by simp only [sameN_self, evalArgs_nil, evalArgs_tmp, evalArgs_const, putT, Tr.get_set_self, Tr.get_set_ne, Tr.isSome_set, hd _, ne_eq, Nat.reduceEqDiff, not_false_eq_true, decide_true, Nat.reduceLT, opI_move, opI_neq, opI_pick, Nat.zero_add, Nat.add_zero, runMix_nil, runMix_read, runMix_guard (b := true), runMix_guard (b := false), beq_self_eq_true, Bool.true_beq, h0, h1, h5, p1, q1, opI_fieldQ pp, opI_fieldQ qq, P0, Q0, hA', P1, Q1, hB', P2, Q2, hC', P3, Q3, hD']; rfl) ?_))))
    refine W_cond (b := true) (by simp only [PArg.eval, Tr.get_set_self, Tr.get_set_ne, hd _, ne_eq, Nat.reduceEqDiff, not_false_eq_true, decide_true, Nat.reduceLT]; try rfl) (fun _ => ?_) (fun hb => by cases hb)
    refine W_seq (W_seqR (by simp only [runSeq_cons, runSeq_nil, evalArgs_nil, evalArgs_const, val1, putT, opI_move]; rfl) (W_ret (bad (fun h => hD ((hx.1 h).2.2.2.1)) _ _ s (by simp only [Tr.get_set_self, Tr.get_set_ne, hd _, ne_eq, Nat.reduceEqDiff, not_false_eq_true, decide_true, Nat.reduceLT]; try rfl))))
  have hD' : (X.to != Y.to) = false := by simpa using hD
  by_cases hE : X.kind = Y.kind ∧ X.task = Y.task ∧ X.vs = Y.vs
  rotate_left
  · rw [decide_eq_false hE] at c4
    refine W_skip (W_seq (W_block (W_seq (W_mix rfl (by simp only [sameN_self, evalArgs_nil, evalArgs_tmp, evalArgs_const, val1, putT, Tr.get_set_self, Tr.get_set_ne, Tr.isSome_set, hd _, ne_eq, Nat.reduceEqDiff, not_false_eq_true, decide_true, Nat.reduceLT, opI_move, opI_not, opI_neq, opI_callF, opI_pick, Nat.zero_add, Nat.add_zero, runMix_nil, runMix_read, runMix_eff, runMix_guard (b := true), runMix_guard (b := false), beq_self_eq_true, Bool.true_beq, Bool.not_false, h0, h1, h5, p1, q1, opI_fieldQ pp, opI_fieldQ qq, hh, P0, Q0, hA', P1, Q1, hB', P2, Q2, hC', P3, Q3, hD', P4, Q4, c4]; rfl) ?_))))
    refine W_cond (b := true) (by simp only [PArg.eval, Tr.get_set_self, Tr.get_set_ne, hd _, ne_eq, Nat.reduceEqDiff, not_false_eq_true, decide_true, Nat.reduceLT]; try rfl) (fun _ => ?_) (fun hb => by cases hb)
    refine W_seq (W_seqR (by simp only [runSeq_cons, runSeq_nil, evalArgs_nil, evalArgs_const, val1, putT, opI_move]; rfl) (W_ret (bad (fun h => hE (hx.1 h).2.2.2.2.1) _ _ t4 (by simp only [Tr.get_set_self, Tr.get_set_ne, hd _, ne_eq, Nat.reduceEqDiff, not_false_eq_true, decide_true, Nat.reduceLT]; try rfl))))
  rw [decide_eq_true hE] at c4
  by_cases hF : X.code = Y.code ∧ X.v = Y.v ∧ X.ls = Y.ls
  rotate_left
  · rw [decide_eq_false hF] at c5
    refine W_skip (W_seq (W_block (W_seq (W_mix rfl (by simp only [sameN_self, evalArgs_nil, evalArgs_tmp, evalArgs_const, val1, putT, Tr.get_set_self, Tr.get_set_ne, Tr.isSome_set, hd _, ne_eq, Nat.reduceEqDiff, not_false_eq_true, decide_true, Nat.reduceLT, opI_move, opI_not, opI_neq, opI_callF, opI_pick, Nat.zero_add, Nat.add_zero, runMix_nil, runMix_read, runMix_eff, runMix_guard (b := false), beq_self_eq_true, Bool.not_true, Bool.not_false, h0, h1, h5, p1, q1, opI_fieldQ pp, opI_fieldQ qq, hh, P0, Q0, hA', P1, Q1, hB', P2, Q2, hC', P3, Q3, hD', P4, Q4, c4, p1', q1', opI_fieldQ pp', opI_fieldQ qq', P7, Q7, c5, hh4]; rfl) ?_))))
    refine W_cond (b := true) (by simp only [PArg.eval, Tr.get_set_self, Tr.get_set_ne, hd _, ne_eq, Nat.reduceEqDiff, not_false_eq_true, decide_true, Nat.reduceLT]; try rfl) (fun _ => ?_) (fun hb => by cases hb)
    refine W_seq (W_seqR (by simp only [runSeq_cons, runSeq_nil, evalArgs_nil, evalArgs_const, val1, putT, opI_move]; rfl) (W_ret (bad (fun h => hF (hx.1 h).2.2.2.2.2) _ _ t5 (by simp only [Tr.get_set_self, Tr.get_set_ne, hd _, ne_eq, Nat.reduceEqDiff, not_false_eq_true, decide_true, Nat.reduceLT]; try rfl))))
  rw [decide_eq_true hF] at c5
  refine W_skip (W_seq (W_block (W_seq (W_mix rfl (by simp only [sameN_self, evalArgs_nil, evalArgs_tmp, evalArgs_const, val1, putT, Tr.get_set_self, Tr.get_set_ne, Tr.isSome_set, hd _, ne_eq, Nat.reduceEqDiff, not_false_eq_true, decide_true, Nat.reduceLT, opI_move, opI_not, opI_neq, opI_callF, opI_pick, Nat.zero_add, Nat.add_zero, runMix_nil, runMix_read, runMix_eff, runMix_guard (b := false), beq_self_eq_true, Bool.not_true, h0, h1, h5, p1, q1, opI_fieldQ pp, opI_fieldQ qq, hh, P0, Q0, hA', P1, Q1, hB', P2, Q2, hC', P3, Q3, hD', P4, Q4, c4, p1', q1', opI_fieldQ pp', opI_fieldQ qq', P7, Q7, c5, hh4]; rfl) ?_))))
  refine W_cond (b := false) (by simp only [PArg.eval, Tr.get_set_self, Tr.get_set_ne, hd _, ne_eq, Nat.reduceEqDiff, not_false_eq_true, decide_true, Nat.reduceLT]; try rfl) (fun hb => by cases hb) (fun _ => W_skip ?_)
  show W _ _
  refine W_seqR (by simp only [runSeq_cons, runSeq_nil, evalArgs_nil, evalArgs_tmp, evalArgs_const, val1, putT, Tr.get_set_self, Tr.get_set_ne, hd _, ne_eq, Nat.reduceEqDiff, not_false_eq_true, decide_true, Nat.reduceLT, opI_move, opI_add, h5]; rfl) ?_
  refine ⟨k' - 1, by omega, i + 1, by omega, t5, by ((repeat (with_reducible apply Dom.set)); exact hd), by simp only [Tr.get_set_ne, ne_eq, Nat.reduceEqDiff, not_false_eq_true, h0], by simp only [Tr.get_set_ne, ne_eq, Nat.reduceEqDiff, not_false_eq_true, h1], ?_, ?_⟩
  · simp only [Tr.get_set_self, Tr.get_set_ne, hd _, ne_eq, Nat.reduceEqDiff, not_false_eq_true, decide_true, Nat.reduceLT]
    rw [wrapF_small (by omega) (by omega)]; rfl
  · rw [List.take_succ_eq_append_getElem hin, List.take_succ_eq_append_getElem hin', hj, hX, hY, hx.2 ⟨hA, hB, hC, hD, hE, hF⟩]
end Go.Proofs.Ytoddncakdnmloaa.diary
