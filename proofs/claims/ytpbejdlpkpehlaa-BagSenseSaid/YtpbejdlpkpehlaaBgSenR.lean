/- The walk of the document's Sense. -/
import Derived.Test.YtpbejdlpkpehlaaBgPure
namespace Go.Proofs.Ytpbejdlpkpehlaa.bag
open Go Go.Vx
theorem min_max {x : Int} : max x 0 ≥ 0 := by omega
set_option maxRecDepth 20000 in
set_option maxHeartbeats 16000000 in
theorem refsense_ok {T : Tbl} (hA : ∀ a M, T 14 a M = none) (hB : ∀ a M, T 11 a M = none) (hC : ∀ a M, T 17 a M = none) (hT : ∀ a M, T 9 a M = none) {v : AV} {l : List Sn} (d : Nat) (M : AMem) (hok : Okg M) (hl : SnR M v l) (hn : l.length ≤ 1000) :
    Ans (callF T code 100000 (d + 3)) 9 [v] M fun res M' => Step M M' ∧ ∃ z, res = .int .i64 z ∧ FirstAt (onAt l (refP l)) l.length z := by
  refine Ans_of (hT _) (show code 9 = some c9 from by kernel_rfl) (by simp) fun t hd ha => ?_
  have h0 := ha 0 _ rfl
  clear ha
  refine W_seq (W_seqR (by simp only [runSeq_cons, runSeq_nil, evalArgs_nil, evalArgs_const, val1, putT, opI_move]; rfl) ?_)
  refine W_seq (W_seq (W_seqR (by simp only [runSeq_cons, runSeq_nil, evalArgs_nil, evalArgs_const, val1, putT, opI_move]; rfl) (W_block (W_loop (fun k t K => ∃ i : Nat, k + i = l.length ∧ Step M K ∧ (∀ j, j < i → onAt l (refP l) j = false) ∧ Dom t 124 ∧ t.get 0 = some v ∧ t.get 3 = some (.int .i64 i)) (k := l.length) (by omega) ?_ ?_))))
  · exact ⟨0, rfl, Step.refl hok, fun j hj => by omega, by ((repeat (with_reducible apply Dom.set)); exact hd), by simp only [Tr.get_set_ne, ne_eq, Nat.reduceEqDiff, not_false_eq_true, h0], by simp only [Tr.get_set_self, Tr.get_set_ne, hd _, ne_eq, Nat.reduceEqDiff, not_false_eq_true, decide_true, Nat.reduceLT]; try rfl⟩
  clear h0 hd
  rintro k t K ⟨i, hk, sK, hbef, hd, h0, h3⟩
  have lv := (hl.grow sK.grow).len
  refine W_seq (W_seq (W_seqR (by simp only [runSeq_cons, runSeq_nil, evalArgs_nil, evalArgs_tmp, val1, putT, Tr.get_set_self, Tr.get_set_ne, hd _, ne_eq, Nat.reduceEqDiff, not_false_eq_true, decide_true, Nat.reduceLT, opI_move, opI_lss, h0, h3, lv]; rfl) ?_))
  refine W_cond (by simp only [PArg.eval, Tr.get_set_self, Tr.get_set_ne, hd _, ne_eq, Nat.reduceEqDiff, not_false_eq_true, decide_true, Nat.reduceLT]; rfl) (fun hb => W_skip ?_) (fun hb => W_exit ?_)
  rotate_left
  · have hi : i = l.length := by
      have := of_decide_eq_false hb
      omega
    subst hi
    show W _ _
    refine W_seq (W_seqR (by simp only [runSeq_cons, runSeq_nil, evalArgs_nil, evalArgs_const, val1, putT, opI_move]; rfl) (W_ret ?_))
    exact ⟨_, fin_tmp (by simp only [Tr.get_set_self, Tr.get_set_ne, hd _, ne_eq, Nat.reduceEqDiff, not_false_eq_true, decide_true, Nat.reduceLT]; try rfl), sK, -1, rfl, .inl ⟨rfl, hbef⟩⟩
  have hi : i < l.length := by
    have := of_decide_eq_true hb
    omega
  clear lv
  have wi1 : wrapF .i64 ((i : Int) + 1) = i + 1 := wrapF_small (by omega) (by omega)
  obtain ⟨p, er, hsr, pp, ix, la, P2, P3, P4, P5, P7, P8⟩ := (hl.grow sK.grow).rd hi
  have hon : onAt l (refP l) i = refP l l[i] := onAt_get hi
  -- is it a refused one?
  refine W_seq (W_block (W_seq (W.mono (Q := fun z t' K' => K' = K ∧ Dom t' 124 ∧ t'.get 0 = some v ∧ t'.get 3 = some (.int .i64 i) ∧ z = if skipB l[i] then .exit 1 else .normal) ?_ ?_)))
  · refine W_seq (W.mono (Q := fun z t' K' => z = .normal ∧ K' = K ∧ Dom t' 124 ∧ t'.get 0 = some v ∧ t'.get 3 = some (.int .i64 i) ∧ t'.get 37 = some (.bool (skipB l[i]))) ?_ ?_)
    · unfold skipB
      cases u1 : l[i].kind != 2 with
      | true =>
        refine W_seqR (by simp only [runSeq_cons, runSeq_nil, evalArgs_nil, evalArgs_tmp, evalArgs_const, val1, putT, Tr.get_set_self, Tr.get_set_ne, Tr.isSome_set, hd _, ne_eq, Nat.reduceEqDiff, not_false_eq_true, decide_true, Nat.reduceLT, opI_move, opI_neq, opI_pick, Nat.zero_add, Nat.add_zero, runSeq_guard (b := true), Bool.true_beq, h0, h3, ix, opI_fieldQ pp, P4, u1]; rfl) ?_
        exact ⟨rfl, rfl, by ((repeat (with_reducible apply Dom.set)); exact hd), by simp only [Tr.get_set_ne, ne_eq, Nat.reduceEqDiff, not_false_eq_true, h0], by simp only [Tr.get_set_ne, ne_eq, Nat.reduceEqDiff, not_false_eq_true, h3], by simp only [Tr.get_set_self, Tr.get_set_ne, hd _, ne_eq, Nat.reduceEqDiff, not_false_eq_true, decide_true, Nat.reduceLT]; try rfl⟩
      | false =>
        cases u2 : decide (l[i].to < 0) with
        | true =>
          refine W_seqR (by simp only [runSeq_cons, runSeq_nil, evalArgs_nil, evalArgs_tmp, evalArgs_const, val1, putT, Tr.get_set_self, Tr.get_set_ne, Tr.isSome_set, hd _, ne_eq, Nat.reduceEqDiff, not_false_eq_true, decide_true, Nat.reduceLT, opI_move, opI_lss, opI_neq, opI_pick, Nat.zero_add, Nat.add_zero, runSeq_guard (b := true), runSeq_guard (b := false), beq_self_eq_true, Bool.true_beq, h0, h3, ix, opI_fieldQ pp, P4, P3, u1, u2]; rfl) ?_
          exact ⟨rfl, rfl, by ((repeat (with_reducible apply Dom.set)); exact hd), by simp only [Tr.get_set_ne, ne_eq, Nat.reduceEqDiff, not_false_eq_true, h0], by simp only [Tr.get_set_ne, ne_eq, Nat.reduceEqDiff, not_false_eq_true, h3], by simp only [Tr.get_set_self, Tr.get_set_ne, hd _, ne_eq, Nat.reduceEqDiff, not_false_eq_true, decide_true, Nat.reduceLT]; try rfl⟩
        | false =>
          refine W_seqR (by simp only [runSeq_cons, runSeq_nil, evalArgs_nil, evalArgs_tmp, evalArgs_const, val1, putT, Tr.get_set_self, Tr.get_set_ne, Tr.isSome_set, hd _, ne_eq, Nat.reduceEqDiff, not_false_eq_true, decide_true, Nat.reduceLT, opI_move, opI_lss, opI_neq, opI_pick, Nat.zero_add, Nat.add_zero, runSeq_guard (b := false), beq_self_eq_true, h0, h3, ix, opI_fieldQ pp, P4, P3, P7, u1, u2]; rfl) ?_
          exact ⟨rfl, rfl, by ((repeat (with_reducible apply Dom.set)); exact hd), by simp only [Tr.get_set_ne, ne_eq, Nat.reduceEqDiff, not_false_eq_true, h0], by simp only [Tr.get_set_ne, ne_eq, Nat.reduceEqDiff, not_false_eq_true, h3], by simp only [Tr.get_set_self, Tr.get_set_ne, hd _, ne_eq, Nat.reduceEqDiff, not_false_eq_true, decide_true, Nat.reduceLT]; try rfl⟩
    · clear h0 h3 hd
      rintro z t' K' ⟨rfl, rfl, hd, h0, h3, h37⟩
      show W _ _
      cases hs : skipB l[i] with
      | true =>
        rw [hs] at h37
        refine W_cond (b := true) (by simp only [PArg.eval, h37]; try rfl) (fun _ => W_exit ?_) (fun hb => by cases hb)
        exact ⟨rfl, hd, h0, h3, rfl⟩
      | false =>
        rw [hs] at h37
        refine W_cond (b := false) (by simp only [PArg.eval, h37]; try rfl) (fun hb => by cases hb) (fun _ => W_skip ?_)
        exact ⟨rfl, hd, h0, h3, rfl⟩
  clear h0 h3 hd
  rintro z t' K' ⟨rfl, hd, h0, h3, rfl⟩
  cases hs : skipB l[i] with
  | true =>
    have hbef' : ∀ j, j < i + 1 → onAt l (refP l) j = false := fun j hj => by
      rcases Nat.lt_or_ge j i with h | h
      · exact hbef j h
      · obtain rfl : j = i := by omega
        rw [hon]; unfold refP; rw [hs]; rfl
    show W _ _
    refine W_seqR (by simp only [runSeq_cons, runSeq_nil, evalArgs_nil, evalArgs_tmp, evalArgs_const, val1, putT, Tr.get_set_self, Tr.get_set_ne, hd _, ne_eq, Nat.reduceEqDiff, not_false_eq_true, decide_true, Nat.reduceLT, opI_move, opI_add, h3, wi1]; rfl) ?_
    exact ⟨k - 1, by omega, i + 1, by omega, sK, hbef', by ((repeat (with_reducible apply Dom.set)); exact hd), by simp only [Tr.get_set_ne, ne_eq, Nat.reduceEqDiff, not_false_eq_true, h0], by simp only [Tr.get_set_self, Tr.get_set_ne, hd _, ne_eq, Nat.reduceEqDiff, not_false_eq_true, decide_true, Nat.reduceLT]; rfl⟩
  | false =>
  show W _ _
  obtain ⟨r, hr⟩ : ∃ r, l[i] = r := ⟨_, rfl⟩
  rw [hr] at hon
  have hrP : refP l r = decide (refN r l l.length > 0) := by unfold refP; rw [← hr, hs]; rfl
  refine W_seq (W_seqR (by simp only [runSeq_cons, runSeq_nil, evalArgs_nil, evalArgs_const, val1, putT, opI_move]; rfl) ?_)
  -- counted over all
  refine W_seq (W_seq (W_seqR (by simp only [runSeq_cons, runSeq_nil, evalArgs_nil, evalArgs_const, val1, putT, opI_move]; rfl) (W_block (W_loop (fun kk t K' => ∃ j : Nat, kk + j = l.length ∧ Step M K' ∧ Dom t 124 ∧ t.get 0 = some v ∧ t.get 3 = some (.int .i64 i) ∧ t.get 4 = some (.int .i64 (refN r l j)) ∧ t.get 5 = some (.int .i64 j)) (k := l.length) (by omega) ?_ ?_))))
  · exact ⟨0, rfl, sK, by ((repeat (with_reducible apply Dom.set)); exact hd), by simp only [Tr.get_set_ne, ne_eq, Nat.reduceEqDiff, not_false_eq_true, h0], by simp only [Tr.get_set_ne, ne_eq, Nat.reduceEqDiff, not_false_eq_true, h3], by simp only [Tr.get_set_self, Tr.get_set_ne, hd _, ne_eq, Nat.reduceEqDiff, not_false_eq_true, decide_true, Nat.reduceLT]; try rfl, by simp only [Tr.get_set_self, Tr.get_set_ne, hd _, ne_eq, Nat.reduceEqDiff, not_false_eq_true, decide_true, Nat.reduceLT]; try rfl⟩
  clear h0 h3 hd t t' P2 P3 P4 P5 P7 P8 ix la pp p
  rintro kk t K2 ⟨j, hkk, sK2, hd, h0, h3, h4, h5⟩
  have lv := (hl.grow sK2.grow).len
  refine W_seq (W_seq (W_seqR (by simp only [runSeq_cons, runSeq_nil, evalArgs_nil, evalArgs_tmp, val1, putT, Tr.get_set_self, Tr.get_set_ne, hd _, ne_eq, Nat.reduceEqDiff, not_false_eq_true, decide_true, Nat.reduceLT, opI_move, opI_lss, h0, h5, lv]; rfl) ?_))
  refine W_cond (by simp only [PArg.eval, Tr.get_set_self, Tr.get_set_ne, hd _, ne_eq, Nat.reduceEqDiff, not_false_eq_true, decide_true, Nat.reduceLT]; rfl) (fun hb => W_skip ?_) (fun hb => W_exit ?_)
  rotate_left
  · have hj : j = l.length := by
      have := of_decide_eq_false hb
      omega
    subst hj
    show W _ _
    refine W_seq (W_seqR (by simp only [runSeq_cons, runSeq_nil, evalArgs_nil, evalArgs_tmp, evalArgs_const, val1, putT, Tr.get_set_self, Tr.get_set_ne, hd _, ne_eq, Nat.reduceEqDiff, not_false_eq_true, decide_true, Nat.reduceLT, opI_move, opI_gtr, h4]; rfl) ?_)
    refine W_cond (by simp only [PArg.eval, Tr.get_set_self, Tr.get_set_ne, hd _, ne_eq, Nat.reduceEqDiff, not_false_eq_true, decide_true, Nat.reduceLT]; rfl) (fun hb2 => ?_) (fun hb2 => W_skip ?_)
    · refine W_seq (W_seqR (by simp only [runSeq_cons, runSeq_nil, evalArgs_nil, evalArgs_tmp, val1, putT, Tr.get_set_self, Tr.get_set_ne, hd _, ne_eq, Nat.reduceEqDiff, not_false_eq_true, decide_true, Nat.reduceLT, opI_move, h3]; rfl) (W_ret ?_))
      exact ⟨_, fin_tmp (by simp only [Tr.get_set_self, Tr.get_set_ne, hd _, ne_eq, Nat.reduceEqDiff, not_false_eq_true, decide_true, Nat.reduceLT]; try rfl), sK2, i, rfl, .inr ⟨i, hi, rfl, by rw [hon, hrP]; exact hb2, hbef⟩⟩
    · have hbef' : ∀ j, j < i + 1 → onAt l (refP l) j = false := fun j hj => by
        rcases Nat.lt_or_ge j i with h | h
        · exact hbef j h
        · obtain rfl : j = i := by omega
          rw [hon, hrP]; exact hb2
      have sK := sK2
      show W _ _
      refine W_seqR (by simp only [runSeq_cons, runSeq_nil, evalArgs_nil, evalArgs_tmp, evalArgs_const, val1, putT, Tr.get_set_self, Tr.get_set_ne, hd _, ne_eq, Nat.reduceEqDiff, not_false_eq_true, decide_true, Nat.reduceLT, opI_move, opI_add, h3, wi1]; rfl) ?_
      exact ⟨k - 1, by omega, i + 1, by omega, sK, hbef', by ((repeat (with_reducible apply Dom.set)); exact hd), by simp only [Tr.get_set_ne, ne_eq, Nat.reduceEqDiff, not_false_eq_true, h0], by simp only [Tr.get_set_self, Tr.get_set_ne, hd _, ne_eq, Nat.reduceEqDiff, not_false_eq_true, decide_true, Nat.reduceLT]; rfl⟩
  have hj : j < l.length := by
    have := of_decide_eq_true hb
    omega
  clear hb lv
  have wj1 : wrapF .i64 ((j : Int) + 1) = j + 1 := wrapF_small (by omega) (by omega)
  have hrs := refN_succ (r := r) hj
  have hbd := refN_bd (r := r) (k := j) hn (by omega)
  have hbd2 := refN_bd (r := r) (k := j + 1) hn (by omega)
  obtain ⟨s, hsj⟩ : ∃ s, l[j] = s := ⟨_, rfl⟩
  rw [hsj] at hrs
  refine W_seq (W_block (W_seq (W_seqR (by simp only [runSeq_cons, runSeq_nil, evalArgs_nil, evalArgs_const, val1, putT, opI_move]; rfl) ?_)))
  -- is it the first of its kind?
  refine W_seq (W.mono (Q := fun z t' K' => z = .normal ∧ Step M K' ∧ Dom t' 124 ∧ t'.get 0 = some v ∧ t'.get 3 = some (.int .i64 i) ∧ t'.get 4 = some (.int .i64 (refN r l j)) ∧ t'.get 5 = some (.int .i64 j) ∧ t'.get 6 = some (.bool (firstB l j s.task))) ?_ ?_)
  · refine W_seq (W_seqR (by simp only [runSeq_cons, runSeq_nil, evalArgs_nil, evalArgs_const, val1, putT, opI_move]; rfl) (W_block (W_loop (fun k3 t K' => ∃ m : Nat, k3 + m = j ∧ Step M K' ∧ Dom t 124 ∧ t.get 0 = some v ∧ t.get 3 = some (.int .i64 i) ∧ t.get 4 = some (.int .i64 (refN r l j)) ∧ t.get 5 = some (.int .i64 j) ∧ t.get 6 = some (.bool (firstB l m s.task)) ∧ t.get 7 = some (.int .i64 m)) (k := j) (by omega) ?_ ?_)))
    · exact ⟨0, by omega, sK2, by ((repeat (with_reducible apply Dom.set)); exact hd), by simp only [Tr.get_set_ne, ne_eq, Nat.reduceEqDiff, not_false_eq_true, h0], by simp only [Tr.get_set_ne, ne_eq, Nat.reduceEqDiff, not_false_eq_true, h3], by simp only [Tr.get_set_ne, ne_eq, Nat.reduceEqDiff, not_false_eq_true, h4], by simp only [Tr.get_set_ne, ne_eq, Nat.reduceEqDiff, not_false_eq_true, h5], by simp only [Tr.get_set_self, Tr.get_set_ne, hd _, ne_eq, Nat.reduceEqDiff, not_false_eq_true, decide_true, Nat.reduceLT]; rfl, by simp only [Tr.get_set_self, Tr.get_set_ne, hd _, ne_eq, Nat.reduceEqDiff, not_false_eq_true, decide_true, Nat.reduceLT]; try rfl⟩
    clear h0 h3 h4 h5 hd t
    rintro k3 t K3 ⟨m, hk3, sK3, hd, h0, h3, h4, h5, h6, h7⟩
    refine W_seq (W_seq (W_seqR (by simp only [runSeq_cons, runSeq_nil, evalArgs_nil, evalArgs_tmp, val1, putT, Tr.get_set_self, Tr.get_set_ne, hd _, ne_eq, Nat.reduceEqDiff, not_false_eq_true, decide_true, Nat.reduceLT, opI_move, opI_lss, h5, h7]; rfl) ?_))
    refine W_cond (by simp only [PArg.eval, Tr.get_set_self, Tr.get_set_ne, hd _, ne_eq, Nat.reduceEqDiff, not_false_eq_true, decide_true, Nat.reduceLT]; rfl) (fun hb => W_skip ?_) (fun hb => W_exit ?_)
    rotate_left
    · have hm : m = j := by
        have := of_decide_eq_false hb
        omega
      subst hm
      exact ⟨rfl, sK3, by ((repeat (with_reducible apply Dom.set)); exact hd), by simp only [Tr.get_set_ne, ne_eq, Nat.reduceEqDiff, not_false_eq_true, h0], by simp only [Tr.get_set_ne, ne_eq, Nat.reduceEqDiff, not_false_eq_true, h3], by simp only [Tr.get_set_ne, ne_eq, Nat.reduceEqDiff, not_false_eq_true, h4], by simp only [Tr.get_set_ne, ne_eq, Nat.reduceEqDiff, not_false_eq_true, h5], by simp only [Tr.get_set_ne, ne_eq, Nat.reduceEqDiff, not_false_eq_true, h6]⟩
    have hm : m < l.length := by
      have := of_decide_eq_true hb
      omega
    have hmj : m < j := by
      have := of_decide_eq_true hb
      omega
    clear hb
    have wm1 : wrapF .i64 ((m : Int) + 1) = m + 1 := wrapF_small (by omega) (by omega)
    have hfs : firstB l (m + 1) s.task = (firstB l m s.task && !(addB l[m] && l[m].task == s.task)) := by
      unfold firstB
      rw [List.take_add_one, List.getElem?_eq_getElem hm, List.any_append]
      simp [Bool.not_or]
    obtain ⟨p, e, hse, pp, ix, la, P2, P3, P4, P5, P7, P8⟩ := (hl.grow sK3.grow).rd hm
    obtain ⟨_, K4, c1, s4, rfl⟩ := refadds_ok hA hse (d + 1) K3 sK3.ok
    have t4 := sK3.trans s4
    obtain ⟨q, f, hsf, qq, iy, lb, Q2, Q3, Q4, Q5, Q7, Q8⟩ := (hl.grow t4.grow).rd hm
    obtain ⟨q', f', hsf', qq', iy', lb', R2, R3, R4, R5, R7, R8⟩ := (hl.grow t4.grow).rd hj
    rw [hsj] at R5
    have hh := held_none sK3.ok.1
    refine W_seq (W_block (W_seq (W.mono (Q := fun z t' K' => z = .normal ∧ K' = K4 ∧ Dom t' 124 ∧ t'.get 0 = some v ∧ t'.get 3 = some (.int .i64 i) ∧ t'.get 4 = some (.int .i64 (refN r l j)) ∧ t'.get 5 = some (.int .i64 j) ∧ t'.get 6 = some (.bool (firstB l m s.task)) ∧ t'.get 7 = some (.int .i64 m) ∧ t'.get 68 = some (.bool (addB l[m] && l[m].task == s.task))) ?_ ?_)))
    · cases u1 : addB l[m] with
      | false =>
        rw [u1] at c1
        refine W_mix rfl (by simp only [sameN_self, evalArgs_nil, evalArgs_tmp, evalArgs_const, val1, putT, Tr.get_set_self, Tr.get_set_ne, Tr.isSome_set, hd _, ne_eq, Nat.reduceEqDiff, not_false_eq_true, decide_true, Nat.reduceLT, opI_move, opI_callF, opI_pick, runMix_nil, runMix_read, runMix_eff, runMix_guard (b := false), Bool.false_beq, Bool.not_true, h0, h7, ix, la, c1, hh]; rfl) ?_
        exact ⟨rfl, rfl, by ((repeat (with_reducible apply Dom.set)); exact hd), by simp only [Tr.get_set_ne, ne_eq, Nat.reduceEqDiff, not_false_eq_true, h0], by simp only [Tr.get_set_ne, ne_eq, Nat.reduceEqDiff, not_false_eq_true, h3], by simp only [Tr.get_set_ne, ne_eq, Nat.reduceEqDiff, not_false_eq_true, h4], by simp only [Tr.get_set_ne, ne_eq, Nat.reduceEqDiff, not_false_eq_true, h5], by simp only [Tr.get_set_ne, ne_eq, Nat.reduceEqDiff, not_false_eq_true, h6], by simp only [Tr.get_set_ne, ne_eq, Nat.reduceEqDiff, not_false_eq_true, h7], by simp only [Tr.get_set_self, Tr.get_set_ne, hd _, ne_eq, Nat.reduceEqDiff, not_false_eq_true, decide_true, Nat.reduceLT]; try rfl⟩
      | true =>
        rw [u1] at c1
        refine W_mix rfl (by simp only [sameN_self, evalArgs_nil, evalArgs_tmp, evalArgs_const, val1, putT, Tr.get_set_self, Tr.get_set_ne, Tr.isSome_set, hd _, ne_eq, Nat.reduceEqDiff, not_false_eq_true, decide_true, Nat.reduceLT, opI_move, opI_eql, opI_callF, opI_pick, Nat.zero_add, Nat.reduceAdd, runMix_nil, runMix_read, runMix_eff, runMix_guard (b := true), beq_self_eq_true, h0, h5, h7, ix, la, c1, hh, iy, opI_fieldQ qq, Q5, iy', opI_fieldQ qq', R5]; rfl) ?_
        exact ⟨rfl, rfl, by ((repeat (with_reducible apply Dom.set)); exact hd), by simp only [Tr.get_set_ne, ne_eq, Nat.reduceEqDiff, not_false_eq_true, h0], by simp only [Tr.get_set_ne, ne_eq, Nat.reduceEqDiff, not_false_eq_true, h3], by simp only [Tr.get_set_ne, ne_eq, Nat.reduceEqDiff, not_false_eq_true, h4], by simp only [Tr.get_set_ne, ne_eq, Nat.reduceEqDiff, not_false_eq_true, h5], by simp only [Tr.get_set_ne, ne_eq, Nat.reduceEqDiff, not_false_eq_true, h6], by simp only [Tr.get_set_ne, ne_eq, Nat.reduceEqDiff, not_false_eq_true, h7], by simp only [Tr.get_set_self, Tr.get_set_ne, hd _, ne_eq, Nat.reduceEqDiff, not_false_eq_true, decide_true, Nat.reduceLT]; try rfl⟩
    clear h0 h3 h4 h5 h6 h7 hd t
    rintro z t K' ⟨rfl, rfl, hd, h0, h3, h4, h5, h6, h7, h68⟩
    show W _ _
    cases hc : addB l[m] && l[m].task == s.task with
    | true =>
      rw [hc] at h68 hfs
      refine W_cond (b := true) (by simp only [PArg.eval, h68]; try rfl) (fun _ => ?_) (fun hb => by cases hb)
      refine W_seqR (by simp only [runSeq_cons, runSeq_nil, evalArgs_nil, evalArgs_const, val1, putT, opI_move]; rfl) ?_
      show W _ _
      refine W_seqR (by simp only [runSeq_cons, runSeq_nil, evalArgs_nil, evalArgs_tmp, evalArgs_const, val1, putT, Tr.get_set_self, Tr.get_set_ne, hd _, ne_eq, Nat.reduceEqDiff, not_false_eq_true, decide_true, Nat.reduceLT, opI_move, opI_add, h7, wm1]; rfl) ?_
      exact ⟨k3 - 1, by omega, m + 1, by omega, t4, by ((repeat (with_reducible apply Dom.set)); exact hd), by simp only [Tr.get_set_ne, ne_eq, Nat.reduceEqDiff, not_false_eq_true, h0], by simp only [Tr.get_set_ne, ne_eq, Nat.reduceEqDiff, not_false_eq_true, h3], by simp only [Tr.get_set_ne, ne_eq, Nat.reduceEqDiff, not_false_eq_true, h4], by simp only [Tr.get_set_ne, ne_eq, Nat.reduceEqDiff, not_false_eq_true, h5], by simp only [Tr.get_set_self, Tr.get_set_ne, hd _, ne_eq, Nat.reduceEqDiff, not_false_eq_true, decide_true, Nat.reduceLT]; rw [hfs]; simp, by simp only [Tr.get_set_self, Tr.get_set_ne, hd _, ne_eq, Nat.reduceEqDiff, not_false_eq_true, decide_true, Nat.reduceLT]; rfl⟩
    | false =>
      rw [hc] at h68 hfs
      refine W_cond (b := false) (by simp only [PArg.eval, h68]; try rfl) (fun hb => by cases hb) (fun _ => W_skip ?_)
      show W _ _
      refine W_seqR (by simp only [runSeq_cons, runSeq_nil, evalArgs_nil, evalArgs_tmp, evalArgs_const, val1, putT, Tr.get_set_self, Tr.get_set_ne, hd _, ne_eq, Nat.reduceEqDiff, not_false_eq_true, decide_true, Nat.reduceLT, opI_move, opI_add, h7, wm1]; rfl) ?_
      exact ⟨k3 - 1, by omega, m + 1, by omega, t4, by ((repeat (with_reducible apply Dom.set)); exact hd), by simp only [Tr.get_set_ne, ne_eq, Nat.reduceEqDiff, not_false_eq_true, h0], by simp only [Tr.get_set_ne, ne_eq, Nat.reduceEqDiff, not_false_eq_true, h3], by simp only [Tr.get_set_ne, ne_eq, Nat.reduceEqDiff, not_false_eq_true, h4], by simp only [Tr.get_set_ne, ne_eq, Nat.reduceEqDiff, not_false_eq_true, h5], by simp only [Tr.get_set_ne, ne_eq, Nat.reduceEqDiff, not_false_eq_true, h6]; rw [hfs]; simp, by simp only [Tr.get_set_self, Tr.get_set_ne, hd _, ne_eq, Nat.reduceEqDiff, not_false_eq_true, decide_true, Nat.reduceLT]; rfl⟩
  clear h0 h3 h4 h5 hd t sK2 K2
  rintro z t K2 ⟨rfl, sK2, hd, h0, h3, h4, h5, h6⟩
  show W _ _
  obtain ⟨p, e, hse, pp, ix, la, P2, P3, P4, P5, P7, P8⟩ := (hl.grow sK2.grow).rd hj
  rw [hsj] at hse P2 P3 P4 P5 P7 P8
  obtain ⟨_, K4, c1, s4, rfl⟩ := refadds_ok hA hse (d + 1) K2 sK2.ok
  have t4 := sK2.trans s4
  -- it counts
  refine W_seq (W.mono (Q := fun z t' K' => z = .normal ∧ Step M K' ∧ Dom t' 124 ∧ t'.get 0 = some v ∧ t'.get 3 = some (.int .i64 i) ∧ t'.get 4 = some (.int .i64 (refN r l j + if addB s && firstB l j s.task then max (leftN r l s.task) 0 else 0)) ∧ t'.get 5 = some (.int .i64 j)) ?_ ?_)
  · refine W_seq (W.mono (Q := fun z t' K' => z = .normal ∧ K' = K4 ∧ Dom t' 124 ∧ t'.get 0 = some v ∧ t'.get 3 = some (.int .i64 i) ∧ t'.get 4 = some (.int .i64 (refN r l j)) ∧ t'.get 5 = some (.int .i64 j) ∧ t'.get 76 = some (.bool (addB s && firstB l j s.task))) ?_ ?_)
    · cases u1 : addB s with
      | false =>
        rw [u1] at c1
        refine W_seqR (by simp only [runSeq_cons, runSeq_nil, evalArgs_nil, evalArgs_tmp, evalArgs_const, val1, putT, Tr.get_set_self, Tr.get_set_ne, Tr.isSome_set, hd _, ne_eq, Nat.reduceEqDiff, not_false_eq_true, decide_true, Nat.reduceLT, opI_move, opI_callF, opI_pick, runSeq_guard (b := false), Bool.false_beq, Bool.not_true, h0, h5, ix, la, c1]; rfl) ?_
        exact ⟨rfl, rfl, by ((repeat (with_reducible apply Dom.set)); exact hd), by simp only [Tr.get_set_ne, ne_eq, Nat.reduceEqDiff, not_false_eq_true, h0], by simp only [Tr.get_set_ne, ne_eq, Nat.reduceEqDiff, not_false_eq_true, h3], by simp only [Tr.get_set_ne, ne_eq, Nat.reduceEqDiff, not_false_eq_true, h4], by simp only [Tr.get_set_ne, ne_eq, Nat.reduceEqDiff, not_false_eq_true, h5], by simp only [Tr.get_set_self, Tr.get_set_ne, hd _, ne_eq, Nat.reduceEqDiff, not_false_eq_true, decide_true, Nat.reduceLT]; try rfl⟩
      | true =>
        rw [u1] at c1
        refine W_seqR (by simp only [runSeq_cons, runSeq_nil, evalArgs_nil, evalArgs_tmp, evalArgs_const, val1, putT, Tr.get_set_self, Tr.get_set_ne, Tr.isSome_set, hd _, ne_eq, Nat.reduceEqDiff, not_false_eq_true, decide_true, Nat.reduceLT, opI_move, opI_callF, opI_pick, runSeq_guard (b := true), beq_self_eq_true, h0, h5, h6, ix, la, c1]; rfl) ?_
        exact ⟨rfl, rfl, by ((repeat (with_reducible apply Dom.set)); exact hd), by simp only [Tr.get_set_ne, ne_eq, Nat.reduceEqDiff, not_false_eq_true, h0], by simp only [Tr.get_set_ne, ne_eq, Nat.reduceEqDiff, not_false_eq_true, h3], by simp only [Tr.get_set_ne, ne_eq, Nat.reduceEqDiff, not_false_eq_true, h4], by simp only [Tr.get_set_ne, ne_eq, Nat.reduceEqDiff, not_false_eq_true, h5], by simp only [Tr.get_set_self, Tr.get_set_ne, hd _, ne_eq, Nat.reduceEqDiff, not_false_eq_true, decide_true, Nat.reduceLT]; try rfl⟩
    clear h0 h3 h4 h5 h6 hd t
    rintro z t K' ⟨rfl, rfl, hd, h0, h3, h4, h5, h76⟩
    show W _ _
    cases hc : addB s && firstB l j s.task with
    | false =>
      rw [hc] at h76
      refine W_cond (b := false) (by simp only [PArg.eval, h76]; try rfl) (fun hb => by cases hb) (fun _ => W_skip ?_)
      exact ⟨rfl, t4, hd, h0, h3, by simpa using h4, h5⟩
    | true =>
      rw [hc] at h76 hrs
      refine W_cond (b := true) (by simp only [PArg.eval, h76]; try rfl) (fun _ => ?_) (fun hb => by cases hb)
      obtain ⟨p1, e1, hse1, pp1, ix1, la1, _⟩ := (hl.grow t4.grow).rd hi
      obtain ⟨q1, f1, hsf1, qq1, iy1, lb1, Q2, Q3, Q4, Q5, Q7, Q8⟩ := (hl.grow t4.grow).rd hj
      rw [hr] at hse1
      rw [hsj] at Q5
      obtain ⟨_, K5, c2, s5, rfl⟩ := lacks_ok hA hB hC (x := s.task) d K' t4.ok (hl.grow t4.grow) hse1 hn
      have hh := held_none t4.ok.1
      have hh5 : (isHeld (K'.get K'.n) && !isHeld (K5.get K'.n)) = false := by rw [hh]; rfl
      have ww : wrapF .i64 (refN r l j + max (leftN r l s.task) 0) = refN r l j + max (leftN r l s.task) 0 := by
        simp only [if_true] at hrs
        refine wrapF_any ?_ ?_
        · split at hrs <;> omega
        · split at hrs <;> omega
      refine W_trace (M' := K5) rfl (by simp only [sameN_self, evalArgs_nil, evalArgs_tmp, val1, putT, Tr.get_set_self, Tr.get_set_ne, hd _, ne_eq, Nat.reduceEqDiff, not_false_eq_true, decide_true, Nat.reduceLT, opI_move, opI_add, opI_callF, Nat.zero_add, Nat.reduceAdd, trace_nil, trace_read, trace_eff, addR_some, addE_some, h0, h3, h4, h5, ix1, la1, iy1, opI_fieldQ qq1, Q5, c2, hh5, ww]; rfl) (by simp [checkRec, isLoad]) rfl ?_
      exact ⟨rfl, t4.trans s5, by ((repeat (with_reducible apply Dom.set)); exact hd), by simp only [Tr.get_set_ne, ne_eq, Nat.reduceEqDiff, not_false_eq_true, h0], by simp only [Tr.get_set_ne, ne_eq, Nat.reduceEqDiff, not_false_eq_true, h3], by simp only [Tr.get_set_self, Tr.get_set_ne, hd _, ne_eq, Nat.reduceEqDiff, not_false_eq_true, decide_true, Nat.reduceLT]; rfl, by simp only [Tr.get_set_ne, ne_eq, Nat.reduceEqDiff, not_false_eq_true, h5]⟩
  clear h0 h3 h4 h5 h6 hd t c1 t4 s4 K4 P2 P3 P4 P5 P7 P8 ix la pp p hse sK2 K2
  rintro z t K2 ⟨rfl, sK2, hd, h0, h3, h4, h5⟩
  show W _ _
  generalize refN r l j + (if addB s && firstB l j s.task then max (leftN r l s.task) 0 else 0) = a1 at *
  obtain ⟨p, e, hse, pp, ix, la, P2, P3, P4, P5, P7, P8⟩ := (hl.grow sK2.grow).rd hj
  obtain ⟨p1, e1, hse1, pp1, ix1, la1, R2, R3, R4, R5, R7, R8⟩ := (hl.grow sK2.grow).rd hi
  rw [hsj] at P2 P3 P4
  rw [hr] at R3
  refine W.mono (Q := fun z t' K' => z = .normal ∧ K' = K2 ∧ Dom t' 124 ∧ t'.get 0 = some v ∧ t'.get 3 = some (.int .i64 i) ∧ t'.get 4 = some (.int .i64 (refN r l (j + 1))) ∧ t'.get 5 = some (.int .i64 j)) ?_ ?_
  · refine W_seq (W.mono (Q := fun z t' K' => z = .normal ∧ K' = K2 ∧ Dom t' 124 ∧ t'.get 0 = some v ∧ t'.get 3 = some (.int .i64 i) ∧ t'.get 4 = some (.int .i64 a1) ∧ t'.get 5 = some (.int .i64 j) ∧ t'.get 118 = some (.bool (waitB r s))) ?_ ?_)
    · unfold waitB
      cases u1 : s.kind == 2 with
      | false =>
        refine W_mix rfl (by simp only [sameN_self, evalArgs_nil, evalArgs_tmp, evalArgs_const, putT, Tr.get_set_self, Tr.get_set_ne, Tr.isSome_set, hd _, ne_eq, Nat.reduceEqDiff, not_false_eq_true, decide_true, Nat.reduceLT, opI_move, opI_eql, opI_pick, Nat.zero_add, Nat.add_zero, runMix_nil, runMix_read, runMix_guard (b := false), Bool.false_beq, Bool.not_true, h0, h5, ix, opI_fieldQ pp, P4, u1]; rfl) ?_
        exact ⟨rfl, rfl, by ((repeat (with_reducible apply Dom.set)); exact hd), by simp only [Tr.get_set_ne, ne_eq, Nat.reduceEqDiff, not_false_eq_true, h0], by simp only [Tr.get_set_ne, ne_eq, Nat.reduceEqDiff, not_false_eq_true, h3], by simp only [Tr.get_set_ne, ne_eq, Nat.reduceEqDiff, not_false_eq_true, h4], by simp only [Tr.get_set_ne, ne_eq, Nat.reduceEqDiff, not_false_eq_true, h5], by simp only [Tr.get_set_self, Tr.get_set_ne, hd _, ne_eq, Nat.reduceEqDiff, not_false_eq_true, decide_true, Nat.reduceLT]; try rfl⟩
      | true =>
        cases u2 : decide (s.to < 0) with
        | false =>
          refine W_mix rfl (by simp only [sameN_self, evalArgs_nil, evalArgs_tmp, evalArgs_const, putT, Tr.get_set_self, Tr.get_set_ne, Tr.isSome_set, hd _, ne_eq, Nat.reduceEqDiff, not_false_eq_true, decide_true, Nat.reduceLT, opI_move, opI_lss, opI_eql, opI_pick, Nat.zero_add, Nat.add_zero, runMix_nil, runMix_read, runMix_guard (b := true), runMix_guard (b := false), beq_self_eq_true, Bool.false_beq, Bool.not_true, h0, h5, ix, opI_fieldQ pp, P4, P3, u1, u2]; rfl) ?_
          exact ⟨rfl, rfl, by ((repeat (with_reducible apply Dom.set)); exact hd), by simp only [Tr.get_set_ne, ne_eq, Nat.reduceEqDiff, not_false_eq_true, h0], by simp only [Tr.get_set_ne, ne_eq, Nat.reduceEqDiff, not_false_eq_true, h3], by simp only [Tr.get_set_ne, ne_eq, Nat.reduceEqDiff, not_false_eq_true, h4], by simp only [Tr.get_set_ne, ne_eq, Nat.reduceEqDiff, not_false_eq_true, h5], by simp only [Tr.get_set_self, Tr.get_set_ne, hd _, ne_eq, Nat.reduceEqDiff, not_false_eq_true, decide_true, Nat.reduceLT]; try rfl⟩
        | true =>
          refine W_mix rfl (by simp only [sameN_self, evalArgs_nil, evalArgs_tmp, evalArgs_const, putT, Tr.get_set_self, Tr.get_set_ne, Tr.isSome_set, hd _, ne_eq, Nat.reduceEqDiff, not_false_eq_true, decide_true, Nat.reduceLT, opI_move, opI_lss, opI_eql, opI_pick, Nat.zero_add, Nat.add_zero, runMix_nil, runMix_read, runMix_guard (b := true), beq_self_eq_true, h0, h3, h5, ix, opI_fieldQ pp, P4, P3, P2, ix1, opI_fieldQ pp1, R3, u1, u2]; rfl) ?_
          exact ⟨rfl, rfl, by ((repeat (with_reducible apply Dom.set)); exact hd), by simp only [Tr.get_set_ne, ne_eq, Nat.reduceEqDiff, not_false_eq_true, h0], by simp only [Tr.get_set_ne, ne_eq, Nat.reduceEqDiff, not_false_eq_true, h3], by simp only [Tr.get_set_ne, ne_eq, Nat.reduceEqDiff, not_false_eq_true, h4], by simp only [Tr.get_set_ne, ne_eq, Nat.reduceEqDiff, not_false_eq_true, h5], by simp only [Tr.get_set_self, Tr.get_set_ne, hd _, ne_eq, Nat.reduceEqDiff, not_false_eq_true, decide_true, Nat.reduceLT]; try rfl⟩
    clear h0 h3 h4 h5 hd t
    rintro z t K' ⟨rfl, rfl, hd, h0, h3, h4, h5, h118⟩
    show W _ _
    cases hw : waitB r s with
    | false =>
      rw [hw] at h118 hrs
      refine W_cond (b := false) (by simp only [PArg.eval, h118]; try rfl) (fun hb => by cases hb) (fun _ => W_skip ?_)
      refine ⟨rfl, rfl, hd, h0, h3, ?_, h5⟩
      rw [h4, hrs]
      simp
    | true =>
      rw [hw] at h118 hrs
      simp only [if_true] at hrs
      refine W_cond (b := true) (by simp only [PArg.eval, h118]; try rfl) (fun _ => ?_) (fun hb => by cases hb)
      have ww : wrapF .i64 (a1 - 1) = a1 - 1 := wrapF_any (by omega) (by omega)
      refine W_seqR (by simp only [runSeq_cons, runSeq_nil, evalArgs_nil, evalArgs_tmp, evalArgs_const, val1, putT, Tr.get_set_self, Tr.get_set_ne, hd _, ne_eq, Nat.reduceEqDiff, not_false_eq_true, decide_true, Nat.reduceLT, opI_move, opI_sub, h4, ww]; rfl) ?_
      exact ⟨rfl, rfl, by ((repeat (with_reducible apply Dom.set)); exact hd), by simp only [Tr.get_set_ne, ne_eq, Nat.reduceEqDiff, not_false_eq_true, h0], by simp only [Tr.get_set_ne, ne_eq, Nat.reduceEqDiff, not_false_eq_true, h3], by simp only [Tr.get_set_self, Tr.get_set_ne, hd _, ne_eq, Nat.reduceEqDiff, not_false_eq_true, decide_true, Nat.reduceLT]; rw [hrs]; try rfl, by simp only [Tr.get_set_ne, ne_eq, Nat.reduceEqDiff, not_false_eq_true, h5]⟩
  clear h0 h3 h4 h5 hd t
  rintro z t K' ⟨rfl, rfl, hd, h0, h3, h4, h5⟩
  show W _ _
  refine W_seqR (by simp only [runSeq_cons, runSeq_nil, evalArgs_nil, evalArgs_tmp, evalArgs_const, val1, putT, Tr.get_set_self, Tr.get_set_ne, hd _, ne_eq, Nat.reduceEqDiff, not_false_eq_true, decide_true, Nat.reduceLT, opI_move, opI_add, h5, wj1]; rfl) ?_
  exact ⟨kk - 1, by omega, j + 1, by omega, sK2, by ((repeat (with_reducible apply Dom.set)); exact hd), by simp only [Tr.get_set_ne, ne_eq, Nat.reduceEqDiff, not_false_eq_true, h0], by simp only [Tr.get_set_ne, ne_eq, Nat.reduceEqDiff, not_false_eq_true, h3], by simp only [Tr.get_set_ne, ne_eq, Nat.reduceEqDiff, not_false_eq_true, h4], by simp only [Tr.get_set_self, Tr.get_set_ne, hd _, ne_eq, Nat.reduceEqDiff, not_false_eq_true, decide_true, Nat.reduceLT]; rfl⟩
end Go.Proofs.Ytpbejdlpkpehlaa.bag
