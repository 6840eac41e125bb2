/- The walk of the program's Of. -/
import Derived.Test.YtoddncakdnmloaaStOf
namespace Go.Proofs.Ytoddncakdnmloaa.stats
open Go Go.Vx

set_option maxRecDepth 20000 in
set_option maxHeartbeats 4000000 in
theorem of_ok {v : AV} {xs : List Int} (d : Nat) (M0 : AMem) (hok : Okg M0) (hv0 : IRow M0 .i64 v xs) (hn : xs.length < 100000) :
    Ans (callF tbl code 100000 (d + 2)) 8 [v] M0 fun r M' => Step M0 M' ∧ r = .agg (ofP xs) := by
  refine Ans_of (tbl_none (by decide) _) (show code 8 = some c8 from by kernel_rfl) (by simp) fun t hd ha => ?_
  have h0 := ha 0 _ rfl
  clear ha
  have s1 := (Step.refl hok).push (k := .cells (six 0 0 0 0 0 0) 0 true none) (fun _ _ _ _ he => by cases he)
  have g1 := get_push_self (k := .cells (six 0 0 0 0 0 0) 0 true none) hok.1
  have hv := hv0.grow s1.grow
  have hM1n : (M0.push (.cells (six 0 0 0 0 0 0) 0 true none)).n = M0.n + 1 := rfl
  refine W_seq (W_seqR (by simp only [runSeq_cons, runSeq_nil, evalArgs_nil, val1, putT, opI_new]; rfl) ?_)
  generalize M0.push (.cells (six 0 0 0 0 0 0) 0 true none) = M1 at *
  have lv := hv.len
  -- it is no number's
  have out : ∀ (t' : Tr AV), ofP xs = six 0 0 0 0 0 0 → Dom t' 68 → t'.get 2 = some (.ptr (some (M0.n, 0))) →
      W (exec (callF tbl code 100000 (d + 1)) 100000 (.seq (.seqR [⟨(.build [(.int .i64 0), (.int .i64 0), (.int .i64 0), (.int .i64 0), (.int .i64 0), (.int .i64 0)] []), [], (some 26), none⟩, ⟨(.store 6), [.tmp 2, .tmp 26], none, none⟩]) .ret) t' M1)
        fun x t2 M2 => x = .ret ∧ Step M0 M2 ∧ resIs t2 M2 [.cell 2 true 6] = some [.agg (ofP xs)] := by
    intro t' hof hd h2
    obtain ⟨e, s2, g2, _⟩ := store_all (n := 6) (new := six 0 0 0 0 0 0) s1 (Nat.le_refl _) g1 rfl rfl rfl
    have eb : opI (.build [(.int .i64 0), (.int .i64 0), (.int .i64 0), (.int .i64 0), (.int .i64 0), (.int .i64 0)] []) [] M1 = some (.val (.agg (six 0 0 0 0 0 0)) M1) := rfl
    refine W_seq (W_seqR (by simp only [runSeq_cons, runSeq_nil, evalArgs_nil, evalArgs_tmp, val1, putT, Tr.get_set_self, Tr.get_set_ne, hd _, ne_eq, Nat.reduceEqDiff, not_false_eq_true, decide_true, Nat.reduceLT, h2, eb, e]; rfl) (W_ret ?_))
    refine ⟨rfl, s2, ?_⟩
    rw [hof]
    exact fin_cell (by simp only [Tr.get_set_ne, ne_eq, Nat.reduceEqDiff, not_false_eq_true, h2]) g2 rfl
  by_cases c1 : (xs.length : Int) = 0
  · have c1' : ((xs.length : Int) == 0) = true := by simpa using c1
    refine W_seq (W_seq (W_seqR (by simp only [runSeq_cons, runSeq_nil, evalArgs_nil, evalArgs_tmp, evalArgs_const, val1, putT, Tr.get_set_self, Tr.get_set_ne, Tr.isSome_set, hd _, ne_eq, Nat.reduceEqDiff, not_false_eq_true, decide_true, Nat.reduceLT, opI_move, opI_eql, opI_pick, runSeq_guard (b := true), Bool.true_beq, h0, lv, c1']; rfl) ?_))
    refine W_cond (b := true) (by simp only [PArg.eval, Tr.get_set_self, Tr.get_set_ne, hd _, ne_eq, Nat.reduceEqDiff, not_false_eq_true, decide_true, Nat.reduceLT]; try rfl) (fun _ => ?_) (fun hb => by cases hb)
    refine (out _ (by unfold ofP; rw [if_pos (.inl (by omega))]) (by ((repeat (with_reducible apply Dom.set)); exact hd)) (by simp only [Tr.get_set_self, Tr.get_set_ne, hd _, ne_eq, Nat.reduceEqDiff, not_false_eq_true, decide_true, Nat.reduceLT])).mono ?_
    rintro x t2 M2 ⟨rfl, s2, hr⟩
    exact ⟨_, hr, s2, rfl⟩
  have c1' : ((xs.length : Int) == 0) = false := by simpa using c1
  by_cases c2 : (xs.length : Int) > 65536
  · refine W_seq (W_seq (W_seqR (by simp only [runSeq_cons, runSeq_nil, evalArgs_nil, evalArgs_tmp, evalArgs_const, val1, putT, Tr.get_set_self, Tr.get_set_ne, Tr.isSome_set, hd _, ne_eq, Nat.reduceEqDiff, not_false_eq_true, decide_true, Nat.reduceLT, opI_move, opI_gtr, opI_eql, opI_pick, runSeq_guard (b := true), runSeq_guard (b := false), beq_self_eq_true, Bool.true_beq, h0, lv, c1', c2]; rfl) ?_))
    refine W_cond (b := true) (by simp only [PArg.eval, Tr.get_set_self, Tr.get_set_ne, hd _, ne_eq, Nat.reduceEqDiff, not_false_eq_true, decide_true, Nat.reduceLT]; try rfl) (fun _ => ?_) (fun hb => by cases hb)
    refine (out _ (by unfold ofP; rw [if_pos (.inr (.inl (by omega)))]) (by ((repeat (with_reducible apply Dom.set)); exact hd)) (by simp only [Tr.get_set_self, Tr.get_set_ne, hd _, ne_eq, Nat.reduceEqDiff, not_false_eq_true, decide_true, Nat.reduceLT])).mono ?_
    rintro x t2 M2 ⟨rfl, s2, hr⟩
    exact ⟨_, hr, s2, rfl⟩
  obtain ⟨_, _, cm, hM, mn, rfl, mn1, mn2⟩ := min_ok d M1 hv (by omega) hn
  rw [hM] at cm
  clear hM
  by_cases c3 : mn < 0
  · refine W_seq (W_seq (W_seqR (by simp only [runSeq_cons, runSeq_nil, evalArgs_nil, evalArgs_tmp, evalArgs_const, val1, putT, Tr.get_set_self, Tr.get_set_ne, Tr.isSome_set, hd _, ne_eq, Nat.reduceEqDiff, not_false_eq_true, decide_true, Nat.reduceLT, opI_move, opI_lss, opI_gtr, opI_eql, opI_callF, opI_pick, runSeq_guard (b := true), runSeq_guard (b := false), beq_self_eq_true, Bool.true_beq, h0, lv, c1', c2, cm, c3, decide_false]; rfl) ?_))
    refine W_cond (b := true) (by simp only [PArg.eval, Tr.get_set_self, Tr.get_set_ne, hd _, ne_eq, Nat.reduceEqDiff, not_false_eq_true, decide_true, Nat.reduceLT]; try rfl) (fun _ => ?_) (fun hb => by cases hb)
    refine (out _ (by unfold ofP; rw [if_pos (.inr (.inr fun h => by have := (h mn mn1).1; omega))]) (by ((repeat (with_reducible apply Dom.set)); exact hd)) (by simp only [Tr.get_set_self, Tr.get_set_ne, hd _, ne_eq, Nat.reduceEqDiff, not_false_eq_true, decide_true, Nat.reduceLT])).mono ?_
    rintro x t2 M2 ⟨rfl, s2, hr⟩
    exact ⟨_, hr, s2, rfl⟩
  obtain ⟨_, _, cx, hM, mx, rfl, mx1, mx2⟩ := max_ok d M1 hv (by omega) hn
  rw [hM] at cx
  clear hM
  by_cases c4 : mx > 2147483647
  · refine W_seq (W_seq (W_seqR (by simp only [runSeq_cons, runSeq_nil, evalArgs_nil, evalArgs_tmp, evalArgs_const, val1, putT, Tr.get_set_self, Tr.get_set_ne, Tr.isSome_set, hd _, ne_eq, Nat.reduceEqDiff, not_false_eq_true, decide_true, Nat.reduceLT, opI_move, opI_lss, opI_gtr, opI_eql, opI_callF, opI_pick, runSeq_guard (b := false), beq_self_eq_true, h0, lv, c1', c2, cm, c3, cx, c4, decide_false]; rfl) ?_))
    refine W_cond (b := true) (by simp only [PArg.eval, Tr.get_set_self, Tr.get_set_ne, hd _, ne_eq, Nat.reduceEqDiff, not_false_eq_true, decide_true, Nat.reduceLT]; try rfl) (fun _ => ?_) (fun hb => by cases hb)
    refine (out _ (by unfold ofP; rw [if_pos (.inr (.inr fun h => by have := (h mx mx1).2; omega))]) (by ((repeat (with_reducible apply Dom.set)); exact hd)) (by simp only [Tr.get_set_self, Tr.get_set_ne, hd _, ne_eq, Nat.reduceEqDiff, not_false_eq_true, decide_true, Nat.reduceLT])).mono ?_
    rintro x t2 M2 ⟨rfl, s2, hr⟩
    exact ⟨_, hr, s2, rfl⟩
  have hfit : Fit xs := fun y hy => ⟨by have := mn2 y hy; omega, by have := mx2 y hy; omega⟩
  have hof : ofP xs = six xs.length (sumL xs) (atP xs 0) (atP xs (xs.length - 1)) (atP xs ((xs.length - 1) / 2)) (atP xs (9 * (xs.length - 1) / 10)) := by
    unfold ofP
    rw [if_neg]
    rintro (h | h | h)
    · omega
    · omega
    · exact h hfit
  refine W_seq (W_seq (W_seqR (by simp only [runSeq_cons, runSeq_nil, evalArgs_nil, evalArgs_tmp, evalArgs_const, val1, putT, Tr.get_set_self, Tr.get_set_ne, Tr.isSome_set, hd _, ne_eq, Nat.reduceEqDiff, not_false_eq_true, decide_true, Nat.reduceLT, opI_move, opI_lss, opI_gtr, opI_eql, opI_callF, opI_pick, runSeq_guard (b := false), beq_self_eq_true, h0, lv, c1', c2, cm, c3, cx, c4, decide_false]; rfl) ?_))
  refine W_cond (b := false) (by simp only [PArg.eval, Tr.get_set_self, Tr.get_set_ne, hd _, ne_eq, Nat.reduceEqDiff, not_false_eq_true, decide_true, Nat.reduceLT]; try rfl) (fun hb => by cases hb) (fun _ => W_skip ?_)
  show W _ _
  clear out cm cx mn1 mn2 mx1 mx2 c3 c4
  have cv := values_ok d M1 hv.one2.2
  have cs := sorted_ok d M1 s1.ok hv (by omega) hn
  have s2 := s1.push (k := .cells [v] 0 true none) (fun _ _ _ _ he => by cases he)
  have s3 := s2.push (k := .cells ((sortI xs).map (AV.int .i64 ·)) 1 true none) (fun _ _ _ _ he => by cases he)
  have gs := get_push_self (k := .cells ((sortI xs).map (AV.int .i64 ·)) 1 true none) s2.ok.1
  have g3 := ((get_push_old (k := .cells ((sortI xs).map (AV.int .i64 ·)) 1 true none) s2.ok.1 (show M0.n < (M1.push (.cells [v] 0 true none)).n by rw [push_n]; omega)).trans (get_push_old s1.ok.1 (by omega))).trans g1
  simp only [push_n] at gs
  refine W_seq (W_seqR (by simp only [runSeq_cons, runSeq_nil, evalArgs_nil, evalArgs_tmp, val1, putT, Tr.get_set_self, Tr.get_set_ne, hd _, ne_eq, Nat.reduceEqDiff, not_false_eq_true, decide_true, Nat.reduceLT, opI_move, opI_callF, h0, cv, cs]; rfl) ?_)
  have hMn : ((M1.push (.cells [v] 0 true none)).push (.cells ((sortI xs).map (AV.int .i64 ·)) 1 true none)).n = M1.n + 2 := rfl
  generalize (M1.push (.cells [v] 0 true none)).push (.cells ((sortI xs).map (AV.int .i64 ·)) 1 true none) = M3 at *
  refine W_seq (W_seqR (by simp only [runSeq_cons, runSeq_nil, evalArgs_nil, evalArgs_tmp, val1, putT, Tr.get_set_self, Tr.get_set_ne, hd _, ne_eq, Nat.reduceEqDiff, not_false_eq_true, decide_true, Nat.reduceLT, opI_move, opI_lenO]; rfl) ?_)
  have hsl := sortI_len xs
  have w1 : wrapF .i64 ((xs.length : Int) - 1) = ((xs.length - 1 : Nat) : Int) := by rw [wrapF_small (by omega) (by omega)]; omega
  have w9 : wrapF .i64 (9 * ((xs.length - 1 : Nat) : Int)) = ((9 * (xs.length - 1) : Nat) : Int) := by rw [wrapF_small (by omega) (by omega)]; omega
  have q2 : ∀ M, opI (.bin .quo) [.int .i64 ((xs.length - 1 : Nat) : Int), .int .i64 2] M = some (.val (.int .i64 (((xs.length - 1) / 2 : Nat) : Int)) M) := fun M => quoN (b := 2) (by decide) (by omega)
  have q10 : ∀ M, opI (.bin .quo) [.int .i64 ((9 * (xs.length - 1) : Nat) : Int), .int .i64 10] M = some (.val (.int .i64 ((9 * (xs.length - 1) / 10 : Nat) : Int)) M) := fun M => quoN (b := 10) (by decide) (by omega)
  have I0 : ∀ M, opI (.indexAddrS 1) [.slice (some (M1.n + 1, 0)) xs.length xs.length true, .int .i64 0] M = some (.val (.ptr (some (M1.n + 1, 0))) M) := fun M => idx_own (i := 0) (by omega)
  have I1 : ∀ M, opI (.indexAddrS 1) [.slice (some (M1.n + 1, 0)) xs.length xs.length true, .int .i64 ((xs.length - 1 : Nat) : Int)] M = some (.val (.ptr (some (M1.n + 1, xs.length - 1))) M) := fun M => idx_own (by omega)
  have I2 : ∀ M, opI (.indexAddrS 1) [.slice (some (M1.n + 1, 0)) xs.length xs.length true, .int .i64 (((xs.length - 1) / 2 : Nat) : Int)] M = some (.val (.ptr (some (M1.n + 1, (xs.length - 1) / 2))) M) := fun M => idx_own (by omega)
  have I3 : ∀ M, opI (.indexAddrS 1) [.slice (some (M1.n + 1, 0)) xs.length xs.length true, .int .i64 ((9 * (xs.length - 1) / 10 : Nat) : Int)] M = some (.val (.ptr (some (M1.n + 1, 9 * (xs.length - 1) / 10))) M) := fun M => idx_own (by omega)
  have cell : ∀ i, i < xs.length → ((sortI xs).map (AV.int .i64 ·))[i]? = some (.int .i64 (atP xs i)) := fun i hi => by
    unfold atP
    rw [List.getElem?_map, List.getD_eq_getElem?_getD, List.getElem?_eq_getElem (by omega)]; rfl
  have LD : ∀ M i, M.get (M1.n + 1) = some (.cells ((sortI xs).map (AV.int .i64 ·)) 1 true none) → i < xs.length → opI (.load false 1) [.ptr (some (M1.n + 1, i))] M = some (.val (.int .i64 (atP xs i)) M) := fun M i hg hi => load_own hg (cell i hi)
  have s4 := s3.push (k := .cells (six 0 0 0 0 0 0) 0 true none) (fun _ _ _ _ he => by cases he)
  have gb := get_push_self (k := .cells (six 0 0 0 0 0 0) 0 true none) s3.ok.1
  have gs4 := (get_push_old (k := .cells (six 0 0 0 0 0 0) 0 true none) s3.ok.1 (show M1.n + 1 < M3.n by omega)).trans gs
  have g4 := (get_push_old (k := .cells (six 0 0 0 0 0 0) 0 true none) s3.ok.1 (show M0.n < M3.n by omega)).trans g3
  obtain ⟨e5, s5, g5, k5⟩ := store_all (n := 6) (new := six xs.length 0 (atP xs 0) (atP xs (xs.length - 1)) (atP xs ((xs.length - 1) / 2)) (atP xs (9 * (xs.length - 1) / 10))) s4 (show M0.n ≤ M3.n by omega) gb rfl rfl rfl
  have eb : ∀ (a b c e f : Int) M, opI (.build [(.int .i64 0), (.int .i64 0), (.int .i64 0), (.int .i64 0), (.int .i64 0), (.int .i64 0)] [(0, 1), (2, 1), (3, 1), (4, 1), (5, 1)]) [.int .i64 a, .int .i64 b, .int .i64 c, .int .i64 e, .int .i64 f] M = some (.val (.agg (six a 0 b c e f)) M) := fun _ _ _ _ _ _ => rfl
  have n0 := held_none s3.ok.1
  have n1 : isHeld ((M3.push (.cells (six 0 0 0 0 0 0) 0 true none)).get M3.n) = false := by rw [gb]; rfl
  have A0 := LD M3 0 gs (by omega)
  have A1 := LD M3 (xs.length - 1) gs (by omega)
  have A2 := LD M3 ((xs.length - 1) / 2) gs (by omega)
  have A3 := LD M3 (9 * (xs.length - 1) / 10) gs (by omega)
  have B0 := LD _ 0 gs4 (by omega)
  have B1 := LD _ (xs.length - 1) gs4 (by omega)
  have B2 := LD _ ((xs.length - 1) / 2) gs4 (by omega)
  have B3 := LD _ (9 * (xs.length - 1) / 10) gs4 (by omega)
  refine W_seq (W_trace (M' := (M3.push (.cells (six 0 0 0 0 0 0) 0 true none)).set M3.n (.cells (six xs.length 0 (atP xs 0) (atP xs (xs.length - 1)) (atP xs ((xs.length - 1) / 2)) (atP xs (9 * (xs.length - 1) / 10))) 0 true none)) rfl (by simp only [sameN_self, evalArgs_nil, evalArgs_tmp, evalArgs_const, val1, putT, Tr.get_set_self, Tr.get_set_ne, hd _, ne_eq, Nat.reduceEqDiff, not_false_eq_true, decide_true, Nat.reduceLT, opI_move, opI_sub, opI_new, trace_nil, trace_read, trace_eff, addR_some, addE_some, Bool.false_and, Bool.and_true, Bool.not_false, I0, I1, I2, I3, w1, w9, q2, q10, opI_mul, A0, A1, A2, A3, eb, e5, n0, n1]; rfl) (by simp [checkRec, isLoad, sameAt, A0, A1, A2, A3, B0, B1, B2, B3, AV.beq]) rfl ?_)
  have hM5n : ((M3.push (.cells (six 0 0 0 0 0 0) 0 true none)).set M3.n (.cells (six xs.length 0 (atP xs 0) (atP xs (xs.length - 1)) (atP xs ((xs.length - 1) / 2)) (atP xs (9 * (xs.length - 1) / 10))) 0 true none)).n = M3.n + 1 := rfl
  have gs5 := (k5 (M1.n + 1) (by omega)).trans gs4
  have g5' := (k5 M0.n (by omega)).trans g4
  clear A0 A1 A2 A3 B0 B1 B2 B3 n0 n1 eb e5 k5 gb gs4 g4 s4
  generalize (M3.push (.cells (six 0 0 0 0 0 0) 0 true none)).set M3.n (.cells (six xs.length 0 (atP xs 0) (atP xs (xs.length - 1)) (atP xs ((xs.length - 1) / 2)) (atP xs (9 * (xs.length - 1) / 10))) 0 true none) = M5 at *
  have hfS : Fit (sortI xs) := fun y hy => hfit y ((sortI_perm xs).mem_iff.1 hy)
  refine W_seq (W_seq (W_seqR (by simp only [runSeq_cons, runSeq_nil, evalArgs_nil, evalArgs_tmp, evalArgs_const, val1, putT, Tr.get_set_self, Tr.get_set_ne, hd _, ne_eq, Nat.reduceEqDiff, not_false_eq_true, decide_true, Nat.reduceLT, opI_move, opI_lenO]; rfl) (W_block (W_loop (fun k t M' => ∃ (i : Nat), k + i = xs.length ∧ Step M0 M' ∧ M'.get (M1.n + 1) = some (.cells ((sortI xs).map (AV.int .i64 ·)) 1 true none) ∧ M'.get M0.n = some (.cells (six 0 0 0 0 0 0) 0 true none) ∧ M'.get M3.n = some (.cells (six xs.length (sumL ((sortI xs).take i)) (atP xs 0) (atP xs (xs.length - 1)) (atP xs ((xs.length - 1) / 2)) (atP xs (9 * (xs.length - 1) / 10))) 0 true none) ∧ Dom t 68 ∧ t.get 2 = some (.ptr (some (M0.n, 0))) ∧ t.get 5 = some (.ptr (some (M3.n, 0))) ∧ t.get 55 = some (.slice (some (M1.n + 1, 0)) xs.length xs.length true) ∧ t.get 56 = some (.int .i64 xs.length) ∧ t.get 57 = some (.int .i64 i)) (k := xs.length) (by omega) ?_ ?_))))
  · exact ⟨0, rfl, s5, gs5, g5', g5, by ((repeat (with_reducible apply Dom.set)); exact hd), by simp only [Tr.get_set_self, Tr.get_set_ne, hd _, ne_eq, Nat.reduceEqDiff, not_false_eq_true, decide_true, Nat.reduceLT], by simp only [Tr.get_set_self, Tr.get_set_ne, hd _, ne_eq, Nat.reduceEqDiff, not_false_eq_true, decide_true, Nat.reduceLT], by simp only [Tr.get_set_self, Tr.get_set_ne, hd _, ne_eq, Nat.reduceEqDiff, not_false_eq_true, decide_true, Nat.reduceLT], by simp only [Tr.get_set_self, Tr.get_set_ne, hd _, ne_eq, Nat.reduceEqDiff, not_false_eq_true, decide_true, Nat.reduceLT], by simp only [Tr.get_set_self, Tr.get_set_ne, hd _, ne_eq, Nat.reduceEqDiff, not_false_eq_true, decide_true, Nat.reduceLT]; try rfl⟩
  clear h0 hd g5 gs5 g5' s5 t
  intro k t M' ⟨i, hk, st, gS, gR, gB, hd, h2, h5, h55, h56, h57⟩
  refine W_seq (W_seqR (by simp only [runSeq_cons, runSeq_nil, evalArgs_nil, evalArgs_tmp, val1, putT, opI_lss, h56, h57]; rfl) (W_seq ?_))
  refine W_cond (by simp only [PArg.eval, Tr.get_set_self, hd _, decide_true, Nat.reduceLT]; rfl) (fun hb => W_skip ?_) (fun hb => ?_)
  rotate_left
  · refine W_exit ?_
    have hi : i = xs.length := by simp at hb; omega
    have hall : (sortI xs).take i = sortI xs := List.take_of_length_le (by omega)
    rw [hall, sumL_perm (sortI_perm xs)] at gB
    show W _ _
    have L6 := loads_own (o := 0) (n := 6) gB (by simp)
    simp only [List.drop_zero, List.take_succ_cons, List.take_zero] at L6
    obtain ⟨e6, s6, g6, _⟩ := store_all (n := 6) (new := six xs.length (sumL xs) (atP xs 0) (atP xs (xs.length - 1)) (atP xs ((xs.length - 1) / 2)) (atP xs (9 * (xs.length - 1) / 10))) st (Nat.le_refl _) gR rfl rfl rfl
    refine W_seq (W_seqR (by simp only [runSeq_cons, runSeq_nil, evalArgs_nil, evalArgs_tmp, val1, putT, Tr.get_set_self, Tr.get_set_ne, hd _, ne_eq, Nat.reduceEqDiff, not_false_eq_true, decide_true, Nat.reduceLT, h2, h5, L6, e6]; rfl) (W_ret ?_))
    exact ⟨_, fin_cell (by simp only [Tr.get_set_ne, ne_eq, Nat.reduceEqDiff, not_false_eq_true, h2]) g6 rfl, s6, by rw [hof]; rfl⟩
  have hin : i < xs.length := by simpa using hb
  have hss := sumL_succ (xs := sortI xs) (i := i) (by omega)
  have hbd := sumL_bd (xs := (sortI xs).take i) (fun y hy => hfS y (List.mem_of_mem_take hy))
  rw [List.length_take] at hbd
  have hx := hfS _ (List.getElem_mem (l := sortI xs) (n := i) (by omega))
  have Ii := idx_own (b := M1.n + 1) (c := xs.length) (gr := true) (M := M') hin
  have Li := load_own (o := i) (v := .int .i64 ((sortI xs)[i]'(by omega))) gS (by rw [List.getElem?_map, List.getElem?_eq_getElem (by omega)]; rfl)
  have L1 := load_own (o := 1) gB rfl
  obtain ⟨e6, s6, g6, k6⟩ := store1 (o := 1) (x := .int .i64 (sumL ((sortI xs).take i) + (sortI xs)[i]'(by omega))) st (show M0.n ≤ M3.n by omega) gB ⟨rfl, rfl⟩ (by simp)
  have hw : wrapF .i64 (sumL ((sortI xs).take i) + (sortI xs)[i]'(by omega)) = sumL ((sortI xs).take i) + (sortI xs)[i]'(by omega) := wrapF_small (by omega) (by omega)
  refine W_seq (W_block (W_seq (W_seqR (by simp only [runSeq_cons, runSeq_nil, evalArgs_nil, evalArgs_tmp, val1, putT, Tr.get_set_self, Tr.get_set_ne, hd _, ne_eq, Nat.reduceEqDiff, not_false_eq_true, decide_true, Nat.reduceLT, opI_move, h55, h57, Ii, Li]; rfl) ?_)))
  refine W_seqR (by simp only [runSeq_cons, runSeq_nil, evalArgs_nil, evalArgs_tmp, val1, putT, Tr.get_set_self, Tr.get_set_ne, hd _, ne_eq, Nat.reduceEqDiff, not_false_eq_true, decide_true, Nat.reduceLT, opI_move, opI_add, opI_fieldP, Nat.zero_add, h5, L1, hw, e6]; rfl) ?_
  show W _ _
  refine W_seqR (by simp only [runSeq_cons, runSeq_nil, evalArgs_nil, evalArgs_tmp, evalArgs_const, val1, putT, Tr.get_set_self, Tr.get_set_ne, hd _, ne_eq, Nat.reduceEqDiff, not_false_eq_true, decide_true, Nat.reduceLT, opI_move, opI_add, h57]; rfl) ?_
  refine ⟨k - 1, by omega, i + 1, by omega, s6, (k6 _ (by omega)).trans gS, (k6 _ (by omega)).trans gR, by rw [hss]; exact g6, by ((repeat (with_reducible apply Dom.set)); exact hd), by simp only [Tr.get_set_ne, ne_eq, Nat.reduceEqDiff, not_false_eq_true, h2], by simp only [Tr.get_set_ne, ne_eq, Nat.reduceEqDiff, not_false_eq_true, h5], by simp only [Tr.get_set_ne, ne_eq, Nat.reduceEqDiff, not_false_eq_true, h55], by simp only [Tr.get_set_ne, ne_eq, Nat.reduceEqDiff, not_false_eq_true, h56], ?_⟩
  simp only [Tr.get_set_self, Tr.get_set_ne, hd _, ne_eq, Nat.reduceEqDiff, not_false_eq_true, decide_true, Nat.reduceLT]
  rw [wrapF_small (by omega) (by omega)]; rfl
end Go.Proofs.Ytoddncakdnmloaa.stats
