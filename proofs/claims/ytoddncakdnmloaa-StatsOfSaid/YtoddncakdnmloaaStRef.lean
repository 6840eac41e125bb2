/- The walk of the document's Of, and of the law StatsOf. -/
import Derived.Test.YtoddncakdnmloaaStOf2
namespace Go.Proofs.Ytoddncakdnmloaa.stats
open Go Go.Vx

theorem put1 {M0 M : AMem} {b o sz : Nat} {cs cs' : List AV} {x : Int} (h : Step M0 M) (hb : M0.n ≤ b) (hg : M.get b = some (.cells cs sz true none)) (ho : o < cs.length) (hc : cs.set o (.int .i64 x) = cs') :
    ∃ M', opI (.store 1) [.ptr (some (b, o)), .int .i64 x] M = some (.val (.tuple []) M') ∧ Step M0 M' ∧ M'.get b = some (.cells cs' sz true none) ∧ ∀ c, c ≠ b → M'.get c = M.get c := by
  subst hc
  exact ⟨_, store1 h hb hg ⟨rfl, rfl⟩ ho⟩
set_option maxRecDepth 20000 in
set_option maxHeartbeats 4000000 in
theorem refof_ok {v : AV} {xs : List Int} (d : Nat) (M0 : AMem) (hok : Okg M0) (hv0 : IRow M0 .i64 v xs) (hn : xs.length < 100000) :
    Ans (callF tbl code 100000 (d + 2)) 9 [v] M0 fun r M' => Step M0 M' ∧ r = .agg (ofP xs) := by
  refine Ans_of (tbl_none (by decide) _) (show code 9 = some c9 from by kernel_rfl) (by simp) fun t hd ha => ?_
  have h0 := ha 0 _ rfl
  clear ha
  have s1 := (Step.refl hok).push (k := .cells (six 0 0 0 0 0 0) 0 true none) (fun _ _ _ _ he => by cases he)
  have g1 := get_push_self (k := .cells (six 0 0 0 0 0 0) 0 true none) hok.1
  have hv := hv0.grow s1.grow
  have hM1n : (M0.push (.cells (six 0 0 0 0 0 0) 0 true none)).n = M0.n + 1 := rfl
  refine W_seq (W_seqR (by simp only [runSeq_cons, runSeq_nil, evalArgs_nil, val1, putT, opI_new]; rfl) ?_)
  generalize M0.push (.cells (six 0 0 0 0 0 0) 0 true none) = M1 at *
  have lv := hv.len
  have eb : ∀ M, opI (.build [(.int .i64 0), (.int .i64 0), (.int .i64 0), (.int .i64 0), (.int .i64 0), (.int .i64 0)] []) [] M = some (.val (.agg (six 0 0 0 0 0 0)) M) := fun _ => rfl
  have eb1 : ∀ (a : Int) M, opI (.build [(.int .i64 0), (.int .i64 0), (.int .i64 0), (.int .i64 0), (.int .i64 0), (.int .i64 0)] [(0, 1)]) [.int .i64 a] M = some (.val (.agg (six a 0 0 0 0 0)) M) := fun _ _ => rfl
  by_cases c2 : (xs.length : Int) > 65536
  · obtain ⟨e, s2, g2, _⟩ := store_all (n := 6) (new := six 0 0 0 0 0 0) s1 (Nat.le_refl _) g1 rfl rfl rfl
    refine W_seq (W_seq (W_seqR (by simp only [runSeq_cons, runSeq_nil, evalArgs_nil, evalArgs_tmp, evalArgs_const, val1, putT, Tr.get_set_self, Tr.get_set_ne, Tr.isSome_set, hd _, ne_eq, Nat.reduceEqDiff, not_false_eq_true, decide_true, Nat.reduceLT, opI_move, opI_gtr, opI_pick, runSeq_guard (b := true), Bool.true_beq, h0, lv, c2]; rfl) ?_))
    refine W_cond (b := true) (by simp only [PArg.eval, Tr.get_set_self, Tr.get_set_ne, hd _, ne_eq, Nat.reduceEqDiff, not_false_eq_true, decide_true, Nat.reduceLT]; try rfl) (fun _ => ?_) (fun hb => by cases hb)
    refine W_seq (W_seqR (by simp only [runSeq_cons, runSeq_nil, evalArgs_nil, evalArgs_tmp, val1, putT, Tr.get_set_self, Tr.get_set_ne, hd _, ne_eq, Nat.reduceEqDiff, not_false_eq_true, decide_true, Nat.reduceLT, eb, e]; rfl) (W_ret ?_))
    exact ⟨_, fin_cell (by simp only [Tr.get_set_self, Tr.get_set_ne, hd _, ne_eq, Nat.reduceEqDiff, not_false_eq_true, decide_true, Nat.reduceLT]; try rfl) g2 rfl, s2, by unfold ofP; rw [if_pos (.inr (.inl (by omega)))]; rfl⟩
  by_cases c1 : (xs.length : Int) = 0
  · have c1' : ((xs.length : Int) == 0) = true := by simpa using c1
    obtain ⟨e, s2, g2, _⟩ := store_all (n := 6) (new := six 0 0 0 0 0 0) s1 (Nat.le_refl _) g1 rfl rfl rfl
    refine W_seq (W_seq (W_seqR (by simp only [runSeq_cons, runSeq_nil, evalArgs_nil, evalArgs_tmp, evalArgs_const, val1, putT, Tr.get_set_self, Tr.get_set_ne, Tr.isSome_set, hd _, ne_eq, Nat.reduceEqDiff, not_false_eq_true, decide_true, Nat.reduceLT, opI_move, opI_gtr, opI_eql, opI_pick, runSeq_guard (b := false), beq_self_eq_true, h0, lv, c1', c2, decide_false]; rfl) ?_))
    refine W_cond (b := true) (by simp only [PArg.eval, Tr.get_set_self, Tr.get_set_ne, hd _, ne_eq, Nat.reduceEqDiff, not_false_eq_true, decide_true, Nat.reduceLT]; try rfl) (fun _ => ?_) (fun hb => by cases hb)
    refine W_seq (W_seqR (by simp only [runSeq_cons, runSeq_nil, evalArgs_nil, evalArgs_tmp, val1, putT, Tr.get_set_self, Tr.get_set_ne, hd _, ne_eq, Nat.reduceEqDiff, not_false_eq_true, decide_true, Nat.reduceLT, eb, e]; rfl) (W_ret ?_))
    exact ⟨_, fin_cell (by simp only [Tr.get_set_self, Tr.get_set_ne, hd _, ne_eq, Nat.reduceEqDiff, not_false_eq_true, decide_true, Nat.reduceLT]; try rfl) g2 rfl, s2, by unfold ofP; rw [if_pos (.inl (by omega))]; rfl⟩
  have c1' : ((xs.length : Int) == 0) = false := by simpa using c1
  refine W_seq (W_seq (W_seqR (by simp only [runSeq_cons, runSeq_nil, evalArgs_nil, evalArgs_tmp, evalArgs_const, val1, putT, Tr.get_set_self, Tr.get_set_ne, Tr.isSome_set, hd _, ne_eq, Nat.reduceEqDiff, not_false_eq_true, decide_true, Nat.reduceLT, opI_move, opI_gtr, opI_eql, opI_pick, runSeq_guard (b := false), beq_self_eq_true, h0, lv, c1', c2, decide_false]; rfl) ?_))
  refine W_cond (b := false) (by simp only [PArg.eval, Tr.get_set_self, Tr.get_set_ne, hd _, ne_eq, Nat.reduceEqDiff, not_false_eq_true, decide_true, Nat.reduceLT]; try rfl) (fun hb => by cases hb) (fun _ => W_skip ?_)
  show W _ _
  have s2 := s1.push (k := .cells (six 0 0 0 0 0 0) 0 true none) (fun _ _ _ _ he => by cases he)
  have gb := get_push_self (k := .cells (six 0 0 0 0 0 0) 0 true none) s1.ok.1
  have g2 := (get_push_old (k := .cells (six 0 0 0 0 0 0) 0 true none) s1.ok.1 (show M0.n < M1.n by omega)).trans g1
  obtain ⟨e3, s3, g3, k3⟩ := store_all (n := 6) (new := six xs.length 0 0 0 0 0) s2 (show M0.n ≤ M1.n by omega) gb rfl rfl rfl
  have g3' := (k3 M0.n (by omega)).trans g2
  have hvr : ∀ M', Step M0 M' → IRow M' .i64 v xs := fun M' st => hv0.grow st.grow
  refine W_seq (W_seqR (by simp only [runSeq_cons, runSeq_nil, evalArgs_nil, evalArgs_tmp, val1, putT, Tr.get_set_self, Tr.get_set_ne, hd _, ne_eq, Nat.reduceEqDiff, not_false_eq_true, decide_true, Nat.reduceLT, opI_move, opI_new, h0, lv, eb1, e3]; rfl) ?_)
  have hM3n : ((M1.push (.cells (six 0 0 0 0 0 0) 0 true none)).set M1.n (.cells (six xs.length 0 0 0 0 0) 0 true none)).n = M1.n + 1 := rfl
  clear e3 k3 gb g2 s2 hv lv
  generalize (M1.push (.cells (six 0 0 0 0 0 0) 0 true none)).set M1.n (.cells (six xs.length 0 0 0 0 0) 0 true none) = M3 at *
  refine W_seq (W_seq (W_seqR (by simp only [runSeq_cons, runSeq_nil, evalArgs_nil, evalArgs_const, val1, putT, opI_move]; rfl) (W_block (W_loop (fun k t M' => ∃ (i : Nat), k + i = xs.length ∧ Step M0 M' ∧ (∀ j, (hj : j < xs.length) → j < i → 0 ≤ xs[j] ∧ xs[j] ≤ 2147483647) ∧ M'.get M0.n = some (.cells (six 0 0 0 0 0 0) 0 true none) ∧ M'.get M1.n = some (.cells (six xs.length (sumL (xs.take i)) 0 0 0 0) 0 true none) ∧ Dom t 69 ∧ t.get 0 = some v ∧ t.get 2 = some (.ptr (some (M0.n, 0))) ∧ t.get 3 = some (.ptr (some (M1.n, 0))) ∧ t.get 4 = some (.int .i64 i)) (k := xs.length) (by omega) ?_ ?_))))
  · exact ⟨0, rfl, s3, fun j _ hj => by omega, g3', g3, by ((repeat (with_reducible apply Dom.set)); exact hd), by simp only [Tr.get_set_ne, ne_eq, Nat.reduceEqDiff, not_false_eq_true, h0], by simp only [Tr.get_set_self, Tr.get_set_ne, hd _, ne_eq, Nat.reduceEqDiff, not_false_eq_true, decide_true, Nat.reduceLT], by simp only [Tr.get_set_self, Tr.get_set_ne, hd _, ne_eq, Nat.reduceEqDiff, not_false_eq_true, decide_true, Nat.reduceLT], by simp only [Tr.get_set_self, Tr.get_set_ne, hd _, ne_eq, Nat.reduceEqDiff, not_false_eq_true, decide_true, Nat.reduceLT]; try rfl⟩
  clear h0 hd g3 g3' s3 t
  intro k t M' ⟨i, hk, st, hfi, gR, gB, hd, h0, h2, h3, h4⟩
  have hv := hvr M' st
  have lv := hv.len
  refine W_seq (W_seq (W_seqR (by simp only [runSeq_cons, runSeq_nil, evalArgs_nil, evalArgs_tmp, val1, putT, Tr.get_set_self, Tr.get_set_ne, hd _, ne_eq, Nat.reduceEqDiff, not_false_eq_true, decide_true, Nat.reduceLT, opI_move, opI_lss, h0, h4, lv]; rfl) ?_))
  refine W_cond (by simp only [PArg.eval, Tr.get_set_self, Tr.get_set_ne, hd _, ne_eq, Nat.reduceEqDiff, not_false_eq_true, decide_true, Nat.reduceLT]; rfl) (fun hb => W_skip ?_) (fun hb => ?_)
  · have hin : i < xs.length := by simpa using hb
    obtain ⟨p, _, p1, p2⟩ := hv.at_ hin
    by_cases b1 : xs[i] < 0
    · obtain ⟨e, s4, g4, _⟩ := store_all (n := 6) (new := six 0 0 0 0 0 0) st (Nat.le_refl _) gR rfl rfl rfl
      refine W_seq (W_block (W_seq (W_seq (W_seqR (by simp only [runSeq_cons, runSeq_nil, evalArgs_nil, evalArgs_tmp, evalArgs_const, val1, putT, Tr.get_set_self, Tr.get_set_ne, Tr.isSome_set, hd _, ne_eq, Nat.reduceEqDiff, not_false_eq_true, decide_true, Nat.reduceLT, opI_move, opI_lss, opI_pick, runSeq_guard (b := true), Bool.true_beq, h0, h4, p1, p2, b1]; rfl) ?_))))
      refine W_cond (b := true) (by simp only [PArg.eval, Tr.get_set_self, Tr.get_set_ne, hd _, ne_eq, Nat.reduceEqDiff, not_false_eq_true, decide_true, Nat.reduceLT]; try rfl) (fun _ => ?_) (fun hb => by cases hb)
      refine W_seq (W_seqR (by simp only [runSeq_cons, runSeq_nil, evalArgs_nil, evalArgs_tmp, val1, putT, Tr.get_set_self, Tr.get_set_ne, hd _, ne_eq, Nat.reduceEqDiff, not_false_eq_true, decide_true, Nat.reduceLT, h2, eb, e]; rfl) (W_ret ?_))
      exact ⟨_, fin_cell (by simp only [Tr.get_set_ne, ne_eq, Nat.reduceEqDiff, not_false_eq_true, h2]) g4 rfl, s4, by unfold ofP; rw [if_pos (.inr (.inr fun h => by have := (h _ (List.getElem_mem hin)).1; omega))]; rfl⟩
    by_cases b2 : xs[i] > 2147483647
    · obtain ⟨e, s4, g4, _⟩ := store_all (n := 6) (new := six 0 0 0 0 0 0) st (Nat.le_refl _) gR rfl rfl rfl
      refine W_seq (W_block (W_seq (W_seq (W_seqR (by simp only [runSeq_cons, runSeq_nil, evalArgs_nil, evalArgs_tmp, evalArgs_const, val1, putT, Tr.get_set_self, Tr.get_set_ne, Tr.isSome_set, hd _, ne_eq, Nat.reduceEqDiff, not_false_eq_true, decide_true, Nat.reduceLT, opI_move, opI_lss, opI_gtr, opI_pick, runSeq_guard (b := false), beq_self_eq_true, h0, h4, p1, p2, b1, b2, decide_false]; rfl) ?_))))
      refine W_cond (b := true) (by simp only [PArg.eval, Tr.get_set_self, Tr.get_set_ne, hd _, ne_eq, Nat.reduceEqDiff, not_false_eq_true, decide_true, Nat.reduceLT]; try rfl) (fun _ => ?_) (fun hb => by cases hb)
      refine W_seq (W_seqR (by simp only [runSeq_cons, runSeq_nil, evalArgs_nil, evalArgs_tmp, val1, putT, Tr.get_set_self, Tr.get_set_ne, hd _, ne_eq, Nat.reduceEqDiff, not_false_eq_true, decide_true, Nat.reduceLT, h2, eb, e]; rfl) (W_ret ?_))
      exact ⟨_, fin_cell (by simp only [Tr.get_set_ne, ne_eq, Nat.reduceEqDiff, not_false_eq_true, h2]) g4 rfl, s4, by unfold ofP; rw [if_pos (.inr (.inr fun h => by have := (h _ (List.getElem_mem hin)).2; omega))]; rfl⟩
    have hss := sumL_succ hin
    have hbd := sumL_bd (xs := xs.take i) (fun y hy => by
      obtain ⟨j, hj, rfl⟩ := List.mem_iff_getElem.1 hy
      rw [List.length_take] at hj
      rw [List.getElem_take]
      exact hfi j (by omega) (by omega))
    rw [List.length_take] at hbd
    have L1 := load_own (o := 1) gB rfl
    obtain ⟨e6, s6, g6, k6⟩ := store1 (o := 1) (x := .int .i64 (sumL (xs.take i) + xs[i])) st (show M0.n ≤ M1.n by omega) gB ⟨rfl, rfl⟩ (by simp)
    have hw : wrapF .i64 (sumL (xs.take i) + xs[i]) = sumL (xs.take i) + xs[i] := wrapF_small (by omega) (by omega)
    have hh := held_none st.ok.1
    refine W_seq (W_block (W_seq (W_seq (W_seqR (by simp only [runSeq_cons, runSeq_nil, evalArgs_nil, evalArgs_tmp, evalArgs_const, val1, putT, Tr.get_set_self, Tr.get_set_ne, Tr.isSome_set, hd _, ne_eq, Nat.reduceEqDiff, not_false_eq_true, decide_true, Nat.reduceLT, opI_move, opI_lss, opI_gtr, opI_pick, runSeq_guard (b := false), beq_self_eq_true, h0, h4, p1, p2, b1, b2, decide_false]; rfl) ?_))))
    refine W_cond (b := false) (by simp only [PArg.eval, Tr.get_set_self, Tr.get_set_ne, hd _, ne_eq, Nat.reduceEqDiff, not_false_eq_true, decide_true, Nat.reduceLT]; try rfl) (fun hb => by cases hb) (fun _ => W_skip ?_)
    show W _ _
    refine W_mix rfl (by simp only [sameN_self, evalArgs_nil, evalArgs_tmp, val1, putT, Tr.get_set_self, Tr.get_set_ne, hd _, ne_eq, Nat.reduceEqDiff, not_false_eq_true, decide_true, Nat.reduceLT, opI_move, opI_add, opI_fieldP, Nat.zero_add, runMix_nil, runMix_read, runMix_eff, h0, h3, h4, p1, p2, L1, hw, e6, hh]; rfl) ?_
    show W _ _
    refine W_seqR (by simp only [runSeq_cons, runSeq_nil, evalArgs_nil, evalArgs_tmp, evalArgs_const, val1, putT, Tr.get_set_self, Tr.get_set_ne, hd _, ne_eq, Nat.reduceEqDiff, not_false_eq_true, decide_true, Nat.reduceLT, opI_move, opI_add, h4]; rfl) ?_
    refine ⟨k - 1, by omega, i + 1, by omega, s6, fun j hj hji => ?_, (k6 _ (by omega)).trans gR, by rw [hss]; exact g6, by ((repeat (with_reducible apply Dom.set)); exact hd), by simp only [Tr.get_set_ne, ne_eq, Nat.reduceEqDiff, not_false_eq_true, h0], by simp only [Tr.get_set_ne, ne_eq, Nat.reduceEqDiff, not_false_eq_true, h2], by simp only [Tr.get_set_ne, ne_eq, Nat.reduceEqDiff, not_false_eq_true, h3], ?_⟩
    · rcases Nat.lt_or_ge j i with h | h
      · exact hfi j hj h
      · obtain rfl : j = i := by omega
        omega
    · simp only [Tr.get_set_self, Tr.get_set_ne, hd _, ne_eq, Nat.reduceEqDiff, not_false_eq_true, decide_true, Nat.reduceLT]
      rw [wrapF_small (by omega) (by omega)]; rfl
  refine W_exit ?_
  have hi : i = xs.length := by simp at hb; omega
  subst hi
  rw [List.take_length] at gB
  show W _ _
  have hfit : Fit xs := fun y hy => by
    obtain ⟨j, hj, rfl⟩ := List.mem_iff_getElem.1 hy
    exact hfi j hj hj
  have hof : ofP xs = six xs.length (sumL xs) (atP xs 0) (atP xs (xs.length - 1)) (atP xs ((xs.length - 1) / 2)) (atP xs (9 * (xs.length - 1) / 10)) := by
    unfold ofP
    rw [if_neg]
    rintro (h | h | h)
    · omega
    · omega
    · exact h hfit
  have w1 : wrapF .i64 ((xs.length : Int) - 1) = ((xs.length - 1 : Nat) : Int) := by rw [wrapF_small (by omega) (by omega)]; omega
  have w9 : wrapF .i64 (9 * ((xs.length - 1 : Nat) : Int)) = ((9 * (xs.length - 1) : Nat) : Int) := by rw [wrapF_small (by omega) (by omega)]; omega
  have q2 : ∀ M, opI (.bin .quo) [.int .i64 ((xs.length - 1 : Nat) : Int), .int .i64 2] M = some (.val (.int .i64 (((xs.length - 1) / 2 : Nat) : Int)) M) := fun M => quoN (b := 2) (by decide) (by omega)
  have q10 : ∀ M, opI (.bin .quo) [.int .i64 ((9 * (xs.length - 1) : Nat) : Int), .int .i64 10] M = some (.val (.int .i64 ((9 * (xs.length - 1) / 10 : Nat) : Int)) M) := fun M => quoN (b := 10) (by decide) (by omega)
  have nth : ∀ (q : Nat) M, q < xs.length → Step M0 M → callF tbl code 100000 (d + 1) 24 [v, .int .i64 (q : Int)] M = some (.int .i64 (atP xs q), M) := fun q M hq st => by
    obtain ⟨_, _, c, rfl, rfl⟩ := nth_ok d M (hvr M st) hq hn
    exact c
  have N0 : callF tbl code 100000 (d + 1) 24 [v, .int .i64 0] M' = some (.int .i64 (atP xs 0), M') := nth 0 M' (by omega) st
  obtain ⟨Ma, e1, s1', g1', k1'⟩ := put1 (o := 2) (cs' := six xs.length (sumL xs) (atP xs 0) 0 0 0) (x := (atP xs 0)) st (show M0.n ≤ M1.n by omega) gB (by simp) rfl
  refine W_seq (W_seqR (by simp only [runSeq_cons, runSeq_nil, evalArgs_nil, evalArgs_tmp, evalArgs_const, val1, putT, Tr.get_set_self, Tr.get_set_ne, hd _, ne_eq, Nat.reduceEqDiff, not_false_eq_true, decide_true, Nat.reduceLT, opI_move, opI_callF, opI_fieldP, Nat.zero_add, h0, h3, N0, e1]; rfl) ?_)
  have r1 := (k1' M0.n (by omega)).trans gR
  clear e1 N0 k1'
  have la := (hvr Ma s1').len
  have N1 := nth (xs.length - 1) Ma (by omega) s1'
  obtain ⟨Mb, e2, s2', g2', k2'⟩ := put1 (o := 3) (cs' := six xs.length (sumL xs) (atP xs 0) (atP xs (xs.length - 1)) 0 0) (x := (atP xs (xs.length - 1))) s1' (show M0.n ≤ M1.n by omega) g1' (by simp) rfl
  refine W_seq (W_seqR (by simp only [runSeq_cons, runSeq_nil, evalArgs_nil, evalArgs_tmp, evalArgs_const, val1, putT, Tr.get_set_self, Tr.get_set_ne, hd _, ne_eq, Nat.reduceEqDiff, not_false_eq_true, decide_true, Nat.reduceLT, opI_move, opI_sub, opI_callF, opI_fieldP, Nat.zero_add, h0, h3, la, w1, N1, e2]; rfl) ?_)
  have r2 := (k2' M0.n (by omega)).trans r1
  clear e2 N1 k2' la
  have lb := (hvr Mb s2').len
  have N2 := nth ((xs.length - 1) / 2) Mb (by omega) s2'
  obtain ⟨Mc, e4, s4', g4', k4'⟩ := put1 (o := 4) (cs' := six xs.length (sumL xs) (atP xs 0) (atP xs (xs.length - 1)) (atP xs ((xs.length - 1) / 2)) 0) (x := (atP xs ((xs.length - 1) / 2))) s2' (show M0.n ≤ M1.n by omega) g2' (by simp) rfl
  refine W_seq (W_seqR (by simp only [runSeq_cons, runSeq_nil, evalArgs_nil, evalArgs_tmp, evalArgs_const, val1, putT, Tr.get_set_self, Tr.get_set_ne, hd _, ne_eq, Nat.reduceEqDiff, not_false_eq_true, decide_true, Nat.reduceLT, opI_move, opI_sub, opI_callF, opI_fieldP, Nat.zero_add, h0, h3, lb, w1, q2, N2, e4]; rfl) ?_)
  have r4 := (k4' M0.n (by omega)).trans r2
  clear e4 N2 k4' lb
  have lc := (hvr Mc s4').len
  have N3 := nth (9 * (xs.length - 1) / 10) Mc (by omega) s4'
  obtain ⟨Md, e5, s5', g5', k5'⟩ := put1 (o := 5) (cs' := six xs.length (sumL xs) (atP xs 0) (atP xs (xs.length - 1)) (atP xs ((xs.length - 1) / 2)) (atP xs (9 * (xs.length - 1) / 10))) (x := (atP xs (9 * (xs.length - 1) / 10))) s4' (show M0.n ≤ M1.n by omega) g4' (by simp) rfl
  refine W_seq (W_seqR (by simp only [runSeq_cons, runSeq_nil, evalArgs_nil, evalArgs_tmp, evalArgs_const, val1, putT, Tr.get_set_self, Tr.get_set_ne, hd _, ne_eq, Nat.reduceEqDiff, not_false_eq_true, decide_true, Nat.reduceLT, opI_move, opI_sub, opI_callF, opI_fieldP, Nat.zero_add, h0, h3, lc, w1, w9, q10, opI_mul, N3, e5]; rfl) ?_)
  have r5 := (k5' M0.n (by omega)).trans r4
  clear e5 N3 k5' lc
  have L6 := loads_own (o := 0) (n := 6) g5' (by simp)
  simp only [List.drop_zero, List.take_succ_cons, List.take_zero] at L6
  obtain ⟨e6, s6, g6, _⟩ := store_all (n := 6) (new := six xs.length (sumL xs) (atP xs 0) (atP xs (xs.length - 1)) (atP xs ((xs.length - 1) / 2)) (atP xs (9 * (xs.length - 1) / 10))) s5' (Nat.le_refl _) r5 rfl rfl rfl
  refine W_seq (W_seqR (by simp only [runSeq_cons, runSeq_nil, evalArgs_nil, evalArgs_tmp, val1, putT, Tr.get_set_self, Tr.get_set_ne, hd _, ne_eq, Nat.reduceEqDiff, not_false_eq_true, decide_true, Nat.reduceLT, h2, h3, L6, e6]; rfl) (W_ret ?_))
  exact ⟨_, fin_cell (by simp only [Tr.get_set_ne, ne_eq, Nat.reduceEqDiff, not_false_eq_true, h2]) g6 rfl, s6, by rw [hof]; rfl⟩
end Go.Proofs.Ytoddncakdnmloaa.stats
