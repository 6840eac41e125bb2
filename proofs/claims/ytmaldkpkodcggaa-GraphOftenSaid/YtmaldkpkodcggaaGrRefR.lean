/- The walk of the document's Right. -/
import Derived.Test.YtmaldkpkodcggaaGrRight
namespace Go.Proofs.Ytmaldkpkodcggaa.grf
open Go Go.Vx
set_option maxRecDepth 20000 in
set_option maxHeartbeats 4000000 in
theorem refright_ok {v : AV} {js : List Jb} (d : Nat) (M0 : AMem) (hv : JobsOk M0.g v js) :
    Ans (callF tbl code 100000 (d + 1)) 14 [v] M0 fun r M' => M' = M0 ∧ ∃ b, r = .bool b ∧ (b = true ↔ RightP js) := by
  refine Ans_of (tbl_none (by decide) _) (show code 14 = some c14 from by kernel_rfl) (by simp) fun t hd ha => ?_
  have h0 := ha 0 _ rfl
  clear ha
  have hlen := hv.len
  have lv := hv.jin.lenS M0 rfl
  have no : ∀ (Q : PEx → Tr AV → AMem → Prop) (t : Tr AV) (M : AMem), Dom t 63 → (∀ t' : Tr AV, t'.get 2 = some (.bool false) → Q .ret t' M) → W (exec (callF tbl code 100000 d) 100000 (.seq (.seqR [⟨.move, [.const (.bool false)], (some 2), none⟩]) .ret) t M) Q := fun Q t M hd hq => by
    refine W_seq (W_seqR (by simp only [runSeq_cons, runSeq_nil, evalArgs_nil, evalArgs_const, val1, putT, opI_move]; rfl) (W_ret ?_))
    exact hq _ (by simp only [Tr.get_set_self, hd _, decide_true, Nat.reduceLT])
  refine W_seq (W_seqR (by simp only [runSeq_cons, runSeq_nil, evalArgs_nil, evalArgs_const, val1, putT, opI_move]; rfl) ?_)
  refine W_seq (W_seq (W_seqR (by simp only [runSeq_cons, runSeq_nil, evalArgs_nil, evalArgs_tmp, evalArgs_const, val1, putT, Tr.get_set_self, Tr.get_set_ne, hd _, ne_eq, Nat.reduceEqDiff, not_false_eq_true, decide_true, Nat.reduceLT, opI_move, opI_gtr, h0, lv]; rfl) ?_))
  by_cases c1 : js.length > 200
  · have e1 : decide ((js.length : Int) > 200) = true := decide_eq_true (by omega)
    exact W_cond (b := true) (by simp only [PArg.eval, Tr.get_set_self, Tr.get_set_ne, hd _, ne_eq, Nat.reduceEqDiff, not_false_eq_true, decide_true, Nat.reduceLT, e1]) (fun _ => by refine no _ _ _ ?_ (fun t' hh => ⟨_, fin_tmp hh, rfl, false, rfl, by simp, fun h => absurd h (fun h => by have := h.1; omega)⟩); ((repeat (with_reducible apply Dom.set)); exact hd)) (fun hb => by cases hb)
  have e1 : decide ((js.length : Int) > 200) = false := decide_eq_false (by omega)
  refine W_cond (b := false) (by simp only [PArg.eval, Tr.get_set_self, Tr.get_set_ne, hd _, ne_eq, Nat.reduceEqDiff, not_false_eq_true, decide_true, Nat.reduceLT, e1]) (fun hb => by cases hb) (fun _ => W_skip ?_)
  show W _ _
  refine W_seq (W_seq (W_seqR (by simp only [runSeq_cons, runSeq_nil, evalArgs_nil, evalArgs_const, val1, putT, opI_move]; rfl) (W_block (W_loop (fun k t M' => ∃ (i : Nat), k + i = js.length ∧ M' = M0 ∧ (∀ j, j < i → (∀ k, k < j → (jb js k).task ≠ (jb js j).task) ∧ ∀ q, q < (jb js j).kids.length → 0 ≤ kid js j q ∧ kid js j q < js.length) ∧ Dom t 63 ∧ t.get 0 = some v ∧ t.get 3 = some (.int .i64 i)) (k := js.length) (by omega) ?_ ?_))))
  · exact ⟨0, rfl, rfl, fun j hj => by omega, by ((repeat (with_reducible apply Dom.set)); exact hd), by simp only [Tr.get_set_ne, ne_eq, Nat.reduceEqDiff, not_false_eq_true, h0], by simp only [Tr.get_set_self, Tr.get_set_ne, hd _, ne_eq, Nat.reduceEqDiff, not_false_eq_true, decide_true, Nat.reduceLT]; rfl⟩
  clear h0 hd
  intro k t M' ⟨i, hk, hM, hrt, hd, h0, h3⟩
  subst hM
  refine W_seq (W_seq (W_seqR (by simp only [runSeq_cons, runSeq_nil, evalArgs_nil, evalArgs_tmp, val1, putT, Tr.get_set_self, Tr.get_set_ne, hd _, ne_eq, Nat.reduceEqDiff, not_false_eq_true, decide_true, Nat.reduceLT, opI_move, opI_lss, h0, h3, lv]; rfl) ?_))
  refine W_cond (by simp only [PArg.eval, Tr.get_set_self, Tr.get_set_ne, hd _, ne_eq, Nat.reduceEqDiff, not_false_eq_true, decide_true, Nat.reduceLT]; rfl) (fun hb => W_skip ?_) (fun hb => ?_)
  rotate_left
  · refine W_exit ?_
    have hi : i = js.length := by simp at hb; omega
    subst hi
    show W _ _
    refine W_seq (W_seqR (by simp only [runSeq_cons, runSeq_nil, evalArgs_nil, evalArgs_const, val1, putT, opI_move]; rfl) (W_ret ?_))
    exact ⟨_, fin_tmp (by simp only [Tr.get_set_self, Tr.get_set_ne, hd _, ne_eq, Nat.reduceEqDiff, not_false_eq_true, decide_true, Nat.reduceLT]; try rfl), rfl, true, rfl, fun _ => ⟨by omega, hrt⟩, fun _ => rfl⟩
  have hin : i < js.length := by simpa using hb
  obtain ⟨p, pp, p1, _, p2, p3⟩ := hv.jin.at_ hin M' rfl
  have lk := hv.jin.kidLen hin M' rfl
  have hkid := hv.kids i hin
  clear hb
  show W _ _
  refine W_seq (W_block (W_seq (W_seq (W_seqR (by simp only [runSeq_cons, runSeq_nil, evalArgs_nil, evalArgs_const, val1, putT, opI_move]; rfl) (W_block (W_loop (fun kk t M'' => ∃ (j : Nat), kk + j = i ∧ M'' = M' ∧ (∀ k, k < j → (jb js k).task ≠ (jb js i).task) ∧ Dom t 63 ∧ t.get 0 = some v ∧ t.get 3 = some (.int .i64 i) ∧ t.get 4 = some (.int .i64 j)) (k := i) (by omega) ?_ ?_))))))
  · exact ⟨0, by omega, rfl, fun j hj => by omega, by ((repeat (with_reducible apply Dom.set)); exact hd), by simp only [Tr.get_set_ne, ne_eq, Nat.reduceEqDiff, not_false_eq_true, h0], by simp only [Tr.get_set_ne, ne_eq, Nat.reduceEqDiff, not_false_eq_true, h3], by simp only [Tr.get_set_self, Tr.get_set_ne, hd _, ne_eq, Nat.reduceEqDiff, not_false_eq_true, decide_true, Nat.reduceLT]; rfl⟩
  clear h0 h3 hd
  intro kk t M'' ⟨j, hkk, hM, hne, hd, h0, h3, h4⟩
  subst hM
  refine W_seq (W_seq (W_seqR (by simp only [runSeq_cons, runSeq_nil, evalArgs_nil, evalArgs_tmp, val1, putT, Tr.get_set_self, Tr.get_set_ne, hd _, ne_eq, Nat.reduceEqDiff, not_false_eq_true, decide_true, Nat.reduceLT, opI_move, opI_lss, h3, h4]; rfl) ?_))
  refine W_cond (by simp only [PArg.eval, Tr.get_set_self, Tr.get_set_ne, hd _, ne_eq, Nat.reduceEqDiff, not_false_eq_true, decide_true, Nat.reduceLT]; rfl) (fun hb => W_skip ?_) (fun hb => ?_)
  · have hj : j < i := by simpa using hb
    obtain ⟨q, qq, q1, _, q2, _⟩ := hv.jin.at_ (show j < js.length by omega) M'' rfl
    show W _ _
    by_cases ct : (jb js j).task = (jb js i).task
    · have et : ((jb js j).task == (jb js i).task) = true := by simpa using ct
      refine W_seq (W_block (W_seq (W_quiet rfl (by simp only [runPure_cons, runPure_nil, ofD_cons, ofD_nil, sameN_self, evalArgs_nil, evalArgs_tmp, putT, Tr.get_set_self, Tr.get_set_ne, hd _, ne_eq, Nat.reduceEqDiff, not_false_eq_true, decide_true, Nat.reduceLT, opI_move, opI_eql, Nat.add_zero, h0, h3, h4, p1, opI_fieldQ pp, p2, q1, opI_fieldQ qq, q2, et]; rfl) ?_)))
      exact W_cond (b := true) (by simp only [PArg.eval, Tr.get_set_self, Tr.get_set_ne, hd _, ne_eq, Nat.reduceEqDiff, not_false_eq_true, decide_true, Nat.reduceLT]; try rfl) (fun _ => by refine no _ _ _ ?_ (fun t' hh => ⟨_, fin_tmp hh, rfl, false, rfl, by simp, fun h => absurd h (fun h => (h.2 i hin).1 j hj ct)⟩); ((repeat (with_reducible apply Dom.set)); exact hd)) (fun hb => by cases hb)
    · have et : ((jb js j).task == (jb js i).task) = false := by simpa using ct
      refine W_seq (W_block (W_seq (W_quiet rfl (by simp only [runPure_cons, runPure_nil, ofD_cons, ofD_nil, sameN_self, evalArgs_nil, evalArgs_tmp, putT, Tr.get_set_self, Tr.get_set_ne, hd _, ne_eq, Nat.reduceEqDiff, not_false_eq_true, decide_true, Nat.reduceLT, opI_move, opI_eql, Nat.add_zero, h0, h3, h4, p1, opI_fieldQ pp, p2, q1, opI_fieldQ qq, q2, et]; rfl) ?_)))
      refine W_cond (b := false) (by simp only [PArg.eval, Tr.get_set_self, Tr.get_set_ne, hd _, ne_eq, Nat.reduceEqDiff, not_false_eq_true, decide_true, Nat.reduceLT]; try rfl) (fun hb => by cases hb) (fun _ => W_skip ?_)
      show W _ _
      refine W_seqR (by simp only [runSeq_cons, runSeq_nil, evalArgs_nil, evalArgs_tmp, evalArgs_const, val1, putT, Tr.get_set_self, Tr.get_set_ne, hd _, ne_eq, Nat.reduceEqDiff, not_false_eq_true, decide_true, Nat.reduceLT, opI_move, opI_add, h4]; rfl) ?_
      refine ⟨kk - 1, by omega, j + 1, by omega, rfl, fun k hk' => ?_, by ((repeat (with_reducible apply Dom.set)); exact hd), by simp only [Tr.get_set_ne, ne_eq, Nat.reduceEqDiff, not_false_eq_true, h0], by simp only [Tr.get_set_ne, ne_eq, Nat.reduceEqDiff, not_false_eq_true, h3], ?_⟩
      · rcases Nat.lt_or_ge k j with h | h
        · exact hne k h
        · rw [show k = j by omega]; exact ct
      · simp only [Tr.get_set_self, Tr.get_set_ne, hd _, ne_eq, Nat.reduceEqDiff, not_false_eq_true, decide_true, Nat.reduceLT]
        rw [wrapF_small (by omega) (by omega)]; rfl
  refine W_exit ?_
  have hji : j = i := by simp at hb; omega
  subst hji
  show W _ _
  refine W_seq (W_seqR (by simp only [runSeq_cons, runSeq_nil, evalArgs_nil, evalArgs_const, val1, putT, opI_move]; rfl) ?_)
  refine W_block (W_loop (fun kk t M' => ∃ (q : Nat), kk + q = (jb js j).kids.length ∧ M' = M'' ∧ (∀ r, r < q → 0 ≤ kid js j r ∧ kid js j r < js.length) ∧ Dom t 63 ∧ t.get 0 = some v ∧ t.get 3 = some (.int .i64 j) ∧ t.get 5 = some (.int .i64 q)) (k := (jb js j).kids.length) (by omega) ?_ ?_)
  · exact ⟨0, rfl, rfl, fun r hr => by omega, by ((repeat (with_reducible apply Dom.set)); exact hd), by simp only [Tr.get_set_ne, ne_eq, Nat.reduceEqDiff, not_false_eq_true, h0], by simp only [Tr.get_set_ne, ne_eq, Nat.reduceEqDiff, not_false_eq_true, h3], by simp only [Tr.get_set_self, Tr.get_set_ne, hd _, ne_eq, Nat.reduceEqDiff, not_false_eq_true, decide_true, Nat.reduceLT]; rfl⟩
  clear h0 h3 h4 hd hb
  intro kk t M' ⟨q, hkk, hM, hq, hd, h0, h3, h5⟩
  subst hM
  refine W_seq (W_seq (W_seqR (by simp only [runSeq_cons, runSeq_nil, evalArgs_nil, evalArgs_tmp, val1, putT, Tr.get_set_self, Tr.get_set_ne, hd _, ne_eq, Nat.reduceEqDiff, not_false_eq_true, decide_true, Nat.reduceLT, opI_move, opI_lss, Nat.zero_add, h0, h3, h5, p1, opI_fieldQ pp, p3, lk]; rfl) ?_))
  refine W_cond (by simp only [PArg.eval, Tr.get_set_self, Tr.get_set_ne, hd _, ne_eq, Nat.reduceEqDiff, not_false_eq_true, decide_true, Nat.reduceLT]; rfl) (fun hb => W_skip ?_) (fun hb => ?_)
  rotate_left
  · refine W_exit ?_
    have hqq : q = (jb js j).kids.length := by simp at hb; omega
    show W _ _
    refine W_seqR (by simp only [runSeq_cons, runSeq_nil, evalArgs_nil, evalArgs_tmp, evalArgs_const, val1, putT, Tr.get_set_self, Tr.get_set_ne, hd _, ne_eq, Nat.reduceEqDiff, not_false_eq_true, decide_true, Nat.reduceLT, opI_move, opI_add, h3]; rfl) ?_
    refine ⟨k - 1, by omega, j + 1, by omega, rfl, fun m hm => ?_, by ((repeat (with_reducible apply Dom.set)); exact hd), by simp only [Tr.get_set_ne, ne_eq, Nat.reduceEqDiff, not_false_eq_true, h0], ?_⟩
    · rcases Nat.lt_or_ge m j with h | h
      · exact hrt m h
      · obtain rfl : m = j := by omega
        exact ⟨hne, fun r hr => hq r (by omega)⟩
    · simp only [Tr.get_set_self, Tr.get_set_ne, hd _, ne_eq, Nat.reduceEqDiff, not_false_eq_true, decide_true, Nat.reduceLT]
      rw [wrapF_small (by omega) (by omega)]; rfl
  have hql : q < (jb js j).kids.length := by simpa using hb
  obtain ⟨r, rr, r1, r2⟩ := hv.jin.kidAt hin hql M' rfl
  show W _ _
  by_cases b1 : kid js j q < 0
  · have f1 : decide (kid js j q < 0) = true := decide_eq_true b1
    refine W_seq (W_block (W_seq (W_seqR (by simp only [runSeq_cons, runSeq_nil, evalArgs_nil, evalArgs_tmp, evalArgs_const, val1, putT, Tr.get_set_self, Tr.get_set_ne, Tr.isSome_set, hd _, ne_eq, Nat.reduceEqDiff, not_false_eq_true, decide_true, Nat.reduceLT, opI_move, opI_lss, opI_pick, Nat.zero_add, runSeq_guard (b := true), Bool.true_beq, h0, h3, h5, p1, opI_fieldQ pp, p3, r1, r2, f1]; rfl) ?_)))
    exact W_cond (b := true) (by simp only [PArg.eval, Tr.get_set_self, Tr.get_set_ne, hd _, ne_eq, Nat.reduceEqDiff, not_false_eq_true, decide_true, Nat.reduceLT]; try rfl) (fun _ => by refine no _ _ _ ?_ (fun t' hh => ⟨_, fin_tmp hh, rfl, false, rfl, by simp, fun h => absurd h (fun h => by have := (h.2 j hin).2 q hql; omega)⟩); ((repeat (with_reducible apply Dom.set)); exact hd)) (fun hb => by cases hb)
  have f1 : decide (kid js j q < 0) = false := decide_eq_false b1
  by_cases b2 : kid js j q ≥ js.length
  · have f2 : decide (kid js j q ≥ (js.length : Int)) = true := decide_eq_true b2
    refine W_seq (W_block (W_seq (W_seqR (by simp only [runSeq_cons, runSeq_nil, evalArgs_nil, evalArgs_tmp, evalArgs_const, val1, putT, Tr.get_set_self, Tr.get_set_ne, Tr.isSome_set, hd _, ne_eq, Nat.reduceEqDiff, not_false_eq_true, decide_true, Nat.reduceLT, opI_move, opI_lss, opI_geq, opI_pick, Nat.zero_add, runSeq_guard (b := false), beq_self_eq_true, h0, h3, h5, p1, opI_fieldQ pp, p3, r1, r2, lv, f1, f2]; rfl) ?_)))
    exact W_cond (b := true) (by simp only [PArg.eval, Tr.get_set_self, Tr.get_set_ne, hd _, ne_eq, Nat.reduceEqDiff, not_false_eq_true, decide_true, Nat.reduceLT]; try rfl) (fun _ => by refine no _ _ _ ?_ (fun t' hh => ⟨_, fin_tmp hh, rfl, false, rfl, by simp, fun h => absurd h (fun h => by have := (h.2 j hin).2 q hql; omega)⟩); ((repeat (with_reducible apply Dom.set)); exact hd)) (fun hb => by cases hb)
  have f2 : decide (kid js j q ≥ (js.length : Int)) = false := decide_eq_false b2
  refine W_seq (W_block (W_seq (W_seqR (by simp only [runSeq_cons, runSeq_nil, evalArgs_nil, evalArgs_tmp, evalArgs_const, val1, putT, Tr.get_set_self, Tr.get_set_ne, Tr.isSome_set, hd _, ne_eq, Nat.reduceEqDiff, not_false_eq_true, decide_true, Nat.reduceLT, opI_move, opI_lss, opI_geq, opI_pick, Nat.zero_add, runSeq_guard (b := false), beq_self_eq_true, h0, h3, h5, p1, opI_fieldQ pp, p3, r1, r2, lv, f1, f2]; rfl) ?_)))
  refine W_cond (b := false) (by simp only [PArg.eval, Tr.get_set_self, Tr.get_set_ne, hd _, ne_eq, Nat.reduceEqDiff, not_false_eq_true, decide_true, Nat.reduceLT]; try rfl) (fun hb => by cases hb) (fun _ => W_skip ?_)
  show W _ _
  refine W_seqR (by simp only [runSeq_cons, runSeq_nil, evalArgs_nil, evalArgs_tmp, evalArgs_const, val1, putT, Tr.get_set_self, Tr.get_set_ne, hd _, ne_eq, Nat.reduceEqDiff, not_false_eq_true, decide_true, Nat.reduceLT, opI_move, opI_add, h5]; rfl) ?_
  refine ⟨kk - 1, by omega, q + 1, by omega, rfl, fun r hr => ?_, by ((repeat (with_reducible apply Dom.set)); exact hd), by simp only [Tr.get_set_ne, ne_eq, Nat.reduceEqDiff, not_false_eq_true, h0], by simp only [Tr.get_set_ne, ne_eq, Nat.reduceEqDiff, not_false_eq_true, h3], ?_⟩
  · rcases Nat.lt_or_ge r q with h | h
    · exact hq r h
    · obtain rfl : r = q := by omega
      omega
  · simp only [Tr.get_set_self, Tr.get_set_ne, hd _, ne_eq, Nat.reduceEqDiff, not_false_eq_true, decide_true, Nat.reduceLT]
    rw [wrapF_small (by omega) (by omega)]; rfl
end Go.Proofs.Ytmaldkpkodcggaa.grf
