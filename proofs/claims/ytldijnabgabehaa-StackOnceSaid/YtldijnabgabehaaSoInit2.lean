/- How a stack begins, walked. -/
import Derived.Test.YtldijnabgabehaaSoInit
namespace Go.Proofs.Ytldijnabgabehaa.so
open Go Go.Vx
/-- the cells while the free nodes are laid, up to node i -/
def initL (n i : Nat) : List Nat := (List.range (3 * n + 2)).map fun j => if j = 1 then 1 else if 2 ≤ j ∧ j ≤ n ∧ j - 1 < i then j else 0
theorem initL_len (n i : Nat) : (initL n i).length = 3 * n + 2 := by simp [initL]
theorem initL_get {n i j : Nat} (h : j < 3 * n + 2) : (initL n i)[j]? = some (if j = 1 then 1 else if 2 ≤ j ∧ j ≤ n ∧ j - 1 < i then j else 0) := by
  unfold initL
  rw [List.getElem?_map, List.getElem?_range h]; rfl
theorem initL_one (n : Nat) : (List.replicate (3 * n + 2) 0).set 1 1 = initL n 1 := by
  apply List.ext_getElem?
  intro j
  by_cases hj : j < 3 * n + 2
  · rw [initL_get hj, List.getElem?_set]
    by_cases h1 : 1 = j
    · subst h1
      rw [if_pos rfl, if_pos rfl, if_pos (by simp)]
    · rw [if_neg h1, if_neg (Ne.symm h1), if_neg (by omega), List.getElem?_replicate, if_pos hj]
  · rw [List.getElem?_eq_none (by simp; omega), List.getElem?_eq_none (by rw [initL_len]; omega)]
theorem initL_succ {n i : Nat} (h1 : 1 ≤ i) (h2 : i ≤ n) : (initL n i).set (1 + i) (if i < n then i + 1 else 0) = initL n (i + 1) := by
  apply List.ext_getElem?
  intro j
  by_cases hj : j < 3 * n + 2
  · rw [initL_get hj, List.getElem?_set, initL_get hj, initL_len]
    by_cases e : 1 + i = j
    · subst e
      rw [if_pos rfl, if_pos hj]
      by_cases hn : i < n
      · rw [if_pos hn, if_neg (show ¬ 1 + i = 1 by omega), if_pos (by omega), Nat.add_comm]
      · rw [if_neg hn, if_neg (show ¬ 1 + i = 1 by omega), if_neg (by omega)]
    · rw [if_neg e]
      congr 1
      by_cases e1 : j = 1
      · rw [if_pos e1, if_pos e1]
      · rw [if_neg e1, if_neg e1]
        by_cases e2 : 2 ≤ j ∧ j ≤ n ∧ j - 1 < i
        · rw [if_pos e2, if_pos (by omega)]
        · rw [if_neg e2, if_neg (by omega)]
  · rw [List.getElem?_eq_none (by simp [initL_len]; omega), List.getElem?_eq_none (by rw [initL_len]; omega)]
theorem initL_all {n : Nat} (hn : 1 ≤ n) : initL n (n + 1) = cellsOf n (mem0 n) := by
  unfold initL cellsOf
  apply List.map_congr_left
  intro j hj
  rw [List.mem_range] at hj
  simp only [mem0, pr0]
  (repeat' split) <;> omega
theorem set_z {k i : Nat} : (List.replicate k (0 : Nat)).set i 0 = List.replicate k 0 := by
  apply List.ext_getElem?
  intro j
  rw [List.getElem?_set, List.getElem?_replicate]
  by_cases e : i = j
  · subst e; simp
  · rw [if_neg e]
theorem now2 {a b u : Nat} : now 2 a b u = (a, true) := rfl
set_option maxRecDepth 20000 in
set_option maxHeartbeats 8000000 in
theorem ainit_ok (d : Nat) {n : Nat} (hn1 : 1 ≤ n) (hn : n ≤ 4096) {M : AMem} (hok : Okg M) (hh : NH M) {bm bc : Nat} (hc : CM M bm bc (List.replicate (3 * n + 2) 0)) :
    Ans (callF tblS code 100000 (d + 3)) 19 [.agg [.int .i64 1, .int .i64 n], .ptr (some (bm, 0)), .int .i64 1] M fun r M' => r = .int .i64 0 ∧ EvA M M' (· = bc) ∧ CM M' bm bc (cellsOf n (mem0 n)) := by
  refine Ans_of (tblS_none ⟨by decide, by decide⟩ _) (show code 19 = some c19 from by kernel_rfl) (by simp) fun t hd ha => ?_
  have h0 := ha 0 _ rfl
  have h1 := ha 1 _ rfl
  have h2 := ha 2 _ rfl
  clear ha
  obtain ⟨A, hA, e0, g0, n0⟩ := boxed hok hh [.int .i64 1, .int .i64 n]
  refine W_seq (W_seqR (by simp only [runSeq_cons, runSeq_nil, evalArgs_nil, evalArgs_tmp, evalArgs_const, val1, putT, opI_move, opI_box, cells_agg, h0, hA]; rfl) ?_)
  have hcA := hc.ev hok.1 e0
  have LA := load_agg (n := 2) g0 rfl
  obtain ⟨r1, M1, c1, rfl, e1⟩ := acheck_ok (d + 0) hn1 hn e0.ok e0.nh hcA (by simp)
  have hc1 := hcA.ev e0.ok.1 e1
  have g1 : M1.get M.n = _ := (e1.same M.n (by omega) (fun h => h)).trans g0
  have l1 := get_lt e1.ok.1 g1
  refine W_seq (W_seqR (by simp only [runSeq_cons, runSeq_nil, evalArgs_nil, evalArgs_tmp, val1, putT, Tr.get_set_self, Tr.get_set_ne, hd _, ne_eq, Nat.reduceEqDiff, not_false_eq_true, decide_true, Nat.reduceLT, opI_move, opI_callF, h1, LA, c1]; rfl) ?_)
  have b01 : ((0 : Int) == 1) = false := rfl
  refine W_seq (W_seq (W_seqR (by simp only [runSeq_cons, runSeq_nil, evalArgs_nil, evalArgs_tmp, evalArgs_const, val1, putT, Tr.get_set_self, Tr.get_set_ne, hd _, ne_eq, Nat.reduceEqDiff, not_false_eq_true, decide_true, Nat.reduceLT, opI_move, opI_eql, b01]; rfl) ?_))
  refine W_cond (b := false) (by simp only [PArg.eval, Tr.get_set_self, Tr.get_set_ne, hd _, ne_eq, Nat.reduceEqDiff, not_false_eq_true, decide_true, Nat.reduceLT]; try rfl) (fun hb => by cases hb) (fun _ => W_skip ?_)
  show W _ _
  have LA1 := load_agg (n := 2) g1 rfl
  obtain ⟨M2, c2, e2⟩ := aright_ok hn1 hn M1 e1.ok e1.nh (d + 1)
  have hc2 := hc1.ev e1.ok.1 e2
  have g2 : M2.get M.n = _ := (e2.same M.n l1 (fun h => h)).trans g1
  have l2 := get_lt e2.ok.1 g2
  have ln2 : opI (.load false 1) [.ptr (some (M.n, 1))] M2 = some (.val (.int .i64 n) M2) := load_own g2 rfl
  have la2 : opI (.load false 1) [.ptr (some (M.n, 0))] M2 = some (.val (.int .i64 1) M2) := load_own g2 rfl
  have b11 : decide ((1 : Int) < 1) = false := rfl
  have w1 : wrapF .i64 ((n : Int) + 1) = n + 1 := wi (by omega) (by omega)
  have q1 : decide ((1 : Int) > n + 1) = false := decide_eq_false (by omega)
  refine W_seq (W_seq (W_seqR (by simp only [runSeq_cons, runSeq_nil, evalArgs_nil, evalArgs_tmp, evalArgs_const, val1, putT, Tr.get_set_self, Tr.get_set_ne, Tr.isSome_set, hd _, ne_eq, Nat.reduceEqDiff, not_false_eq_true, decide_true, Nat.reduceLT, opI_move, opI_not, opI_lss, opI_gtr, opI_add, opI_callF, opI_fieldP, opI_pick, Nat.zero_add, runSeq_guard (b := false), beq_self_eq_true, Bool.not_true, LA1, c2, h2, b11, ln2, w1, q1, Bool.not_true]; rfl) ?_))
  refine W_cond (b := false) (by simp only [PArg.eval, Tr.get_set_self, Tr.get_set_ne, hd _, ne_eq, Nat.reduceEqDiff, not_false_eq_true, decide_true, Nat.reduceLT]; try rfl) (fun hb => by cases hb) (fun _ => W_skip ?_)
  show W _ _
  refine W_seq (W_seq (W_seqR (by simp only [runSeq_cons, runSeq_nil, evalArgs_nil, evalArgs_tmp, evalArgs_const, val1, putT, Tr.get_set_self, Tr.get_set_ne, hd _, ne_eq, Nat.reduceEqDiff, not_false_eq_true, decide_true, Nat.reduceLT, opI_move, opI_neq, b00]; rfl) ?_))
  refine W_cond (b := false) (by simp only [PArg.eval, Tr.get_set_self, Tr.get_set_ne, hd _, ne_eq, Nat.reduceEqDiff, not_false_eq_true, decide_true, Nat.reduceLT]; try rfl) (fun hb => by cases hb) (fun _ => W_skip ?_)
  show W _ _
  refine W_seq (W_seqR (by simp only [runSeq_cons, runSeq_nil, evalArgs_nil, evalArgs_const, val1, putT, opI_move]; rfl) ?_)
  have q2 : decide ((1 : Int) ≤ n) = true := decide_eq_true (by omega)
  have u1 : wrapF .u64 1 = 1 := wu (by omega) (by omega)
  have cv : ∀ (x : Int) (M : AMem), opI (.conv .u64) [.int .i64 x] M = some (.val (.int .u64 (wrapF .u64 x)) M) := fun _ _ => rfl
  refine W_seq (W_seq (W_seqR (by simp only [runSeq_cons, runSeq_nil, evalArgs_nil, evalArgs_tmp, val1, putT, Tr.get_set_self, Tr.get_set_ne, hd _, ne_eq, Nat.reduceEqDiff, not_false_eq_true, decide_true, Nat.reduceLT, opI_move, opI_leq, opI_fieldP, Nat.zero_add, h2, ln2, q2]; rfl) ?_))
  refine W_cond (b := true) (by simp only [PArg.eval, Tr.get_set_self, Tr.get_set_ne, hd _, ne_eq, Nat.reduceEqDiff, not_false_eq_true, decide_true, Nat.reduceLT]; try rfl) (fun _ => ?_) (fun hb => by cases hb)
  refine W_seqR (by simp only [runSeq_cons, runSeq_nil, evalArgs_nil, evalArgs_tmp, val1, putT, Tr.get_set_self, Tr.get_set_ne, hd _, ne_eq, Nat.reduceEqDiff, not_false_eq_true, decide_true, Nat.reduceLT, opI_move, h2, cv, u1]; rfl) ?_
  show W _ _
  have bld : ∀ (c x : Nat) (M : AMem), opI (.build [.int .i64 0, .int .i64 0, .int .u64 0, .int .u64 0] [(0, 1), (1, 1), (2, 1)]) [.int .i64 2, .int .i64 c, .int .u64 x] M = some (.val (.agg [.int .i64 2, .int .i64 c, .int .u64 x, .int .u64 0]) M) := fun _ _ _ => rfl
  obtain ⟨r3, M3, c3, rfl, e3, hc3⟩ := do_ok (d + 0) e2.ok e2.nh hc2 (k := 2) (c := 1) 1 0 (.inr (.inl rfl)) (by simp)
  rw [now2, initL_one] at hc3
  have bl1 := bld 1 1 M2
  simp only [Int.cast_ofNat_Int] at bl1 c3
  refine W_seq (W_seqR (by simp only [runSeq_cons, runSeq_nil, evalArgs_nil, evalArgs_tmp, evalArgs_const, val1, putT, Tr.get_set_self, Tr.get_set_ne, Tr.isSome_set, Option.isSome_some, hd _, ne_eq, Nat.reduceEqDiff, not_false_eq_true, decide_true, Nat.reduceLT, opI_move, opI_callF, opI_fieldP, Nat.add_zero, h1, la2, bl1, c3]; rfl) ?_)
  have nb : M.n ≠ bc := fun h => by have := get_lt hok.1 hc.cel; omega
  have g3 : M3.get M.n = _ := (e3.same M.n l2 nb).trans g2
  have a2 : EvA M M2 (· = bc) := (e0.trans e1 (fun _ h => h) (fun _ _ h => h)).trans e2 (fun _ h => h.elim) (fun _ _ h => h.elim)
  have a3 : EvA M M3 (· = bc) := a2.trans e3 (fun _ h => h) (fun _ _ h => h)
  refine W_seq (W_seq (W_seqR (by simp only [runSeq_cons, runSeq_nil, evalArgs_nil, evalArgs_const, val1, putT, opI_move]; rfl) (W_block (W_loop (fun k t M' => ∃ i : Nat, k + i = n + 1 ∧ 1 ≤ i ∧ Dom t 72 ∧ t.get 1 = some (.ptr (some (bm, 0))) ∧ t.get 2 = some (.int .i64 1) ∧ t.get 3 = some (.ptr (some (M.n, 0))) ∧ t.get 9 = some (.int .i64 i) ∧ EvA M M' (· = bc) ∧ CM M' bm bc (initL n i) ∧ M'.get M.n = some (.cells [.int .i64 1, .int .i64 n] 0 true none))
    (k := n) (by omega) ?_ ?_))))
  · exact ⟨1, by omega, by omega, by ((repeat (with_reducible apply Dom.set)); exact hd), by simp only [Tr.get_set_ne, ne_eq, Nat.reduceEqDiff, not_false_eq_true, h1], by simp only [Tr.get_set_ne, ne_eq, Nat.reduceEqDiff, not_false_eq_true, h2], by simp only [Tr.get_set_self, Tr.get_set_ne, hd _, ne_eq, Nat.reduceEqDiff, not_false_eq_true, decide_true, Nat.reduceLT]; try rfl, by simp only [Tr.get_set_self, Tr.get_set_ne, hd _, ne_eq, Nat.reduceEqDiff, not_false_eq_true, decide_true, Nat.reduceLT]; rfl, a3, hc3, g3⟩
  clear h0 h1 h2 hd
  rintro k t K ⟨i, hk, hi1, hd, h1, h2, h3, h9, ea, hcK, gK⟩
  have lnK : opI (.load false 1) [.ptr (some (M.n, 1))] K = some (.val (.int .i64 n) K) := load_own gK rfl
  have laK : opI (.load false 1) [.ptr (some (M.n, 0))] K = some (.val (.int .i64 1) K) := load_own gK rfl
  refine W_seq (W_seq (W_seqR (by simp only [runSeq_cons, runSeq_nil, evalArgs_nil, evalArgs_tmp, val1, putT, Tr.get_set_self, Tr.get_set_ne, hd _, ne_eq, Nat.reduceEqDiff, not_false_eq_true, decide_true, Nat.reduceLT, opI_move, opI_leq, opI_fieldP, Nat.zero_add, h9, h3, lnK]; rfl) ?_))
  refine W_cond (by simp only [PArg.eval, Tr.get_set_self, Tr.get_set_ne, hd _, ne_eq, Nat.reduceEqDiff, not_false_eq_true, decide_true, Nat.reduceLT]; rfl) (fun hb => W_skip ?_) (fun hb => W_exit ?_)
  · have hi : i ≤ n := by simpa using hb
    show W _ _
    have q3 : decide ((i : Int) ≥ 1) = true := decide_eq_true (by omega)
    have w4 : wrapF .i64 (1 + (i : Int)) = ((1 + i : Nat) : Int) := by rw [wi (by omega) (by omega)]; omega
    have u4 : wrapF .u64 (i : Int) = i := wu (by omega) (by omega)
    have u5 : wrapF .u64 ((i : Int) + 1) = ((i + 1 : Nat) : Int) := by rw [wu (by omega) (by omega)]; omega
    have hlt : 1 + i < (initL n i).length := by rw [initL_len]; omega
    refine W_seq (W_block (W_seq (W_seqR (by simp only [runSeq_cons, runSeq_nil, evalArgs_nil, evalArgs_const, val1, putT, opI_move]; rfl) ?_)))
    show W _ _
    have hdo : ∀ x : Nat, (if i < n then i + 1 else 0) = x → ∃ M', callF tblS code 100000 (d + 2) 18 [.ptr (some (bm, 0)), .agg [.int .i64 2, .int .i64 (1 + i : Nat), .int .u64 x, .int .u64 0]] K = some (.tuple [.int .u64 ((initL n i).getD (1 + i) 0 : Nat), .bool true, .int .i64 0], M') ∧ EvA K M' (· = bc) ∧ CM M' bm bc (initL n (i + 1)) := fun x hx => by
      obtain ⟨r4, M4, c4, rfl, e4, hc4⟩ := do_ok (d + 0) ea.ok ea.nh hcK (k := 2) (c := 1 + i) x 0 (.inr (.inl rfl)) hlt
      rw [now2] at c4
      rw [now2, ← hx, initL_succ hi1 hi] at hc4
      exact ⟨M4, c4, e4, hc4⟩
    by_cases hin : i < n
    · have q5 : decide ((i : Int) < n) = true := decide_eq_true (by omega)
      obtain ⟨M4, c4, e4, hc4⟩ := hdo (i + 1) (if_pos hin)
      refine W_seq (W_seq (W_seqR (by simp only [runSeq_cons, runSeq_nil, evalArgs_nil, evalArgs_tmp, evalArgs_const, val1, putT, Tr.get_set_self, Tr.get_set_ne, Tr.isSome_set, hd _, ne_eq, Nat.reduceEqDiff, not_false_eq_true, decide_true, Nat.reduceLT, opI_move, opI_lss, opI_geq, opI_fieldP, opI_pick, Nat.zero_add, runSeq_guard (b := true), beq_self_eq_true, h9, h2, q3, h3, lnK, q5]; rfl) ?_))
      refine W_cond (b := true) (by simp only [PArg.eval, Tr.get_set_self, Tr.get_set_ne, hd _, ne_eq, Nat.reduceEqDiff, not_false_eq_true, decide_true, Nat.reduceLT]; try rfl) (fun _ => ?_) (fun hb => by cases hb)
      refine W_seqR (by simp only [runSeq_cons, runSeq_nil, evalArgs_nil, evalArgs_tmp, evalArgs_const, val1, putT, Tr.get_set_self, Tr.get_set_ne, hd _, ne_eq, Nat.reduceEqDiff, not_false_eq_true, decide_true, Nat.reduceLT, opI_move, opI_add, h9, cv, u4, u5]; rfl) ?_
      show W _ _
      have g4 : M4.get M.n = _ := (e4.same M.n (get_lt ea.ok.1 gK) nb).trans gK
      refine W_seqR (by simp only [runSeq_cons, runSeq_nil, evalArgs_nil, evalArgs_tmp, evalArgs_const, val1, putT, Tr.get_set_self, Tr.get_set_ne, Tr.isSome_set, Option.isSome_some, hd _, ne_eq, Nat.reduceEqDiff, not_false_eq_true, decide_true, Nat.reduceLT, opI_move, opI_add, opI_callF, opI_fieldP, Nat.add_zero, h1, h3, laK, h9, w4, bld, c4]; rfl) ?_
      show W _ _
      refine W_seqR (by simp only [runSeq_cons, runSeq_nil, evalArgs_nil, evalArgs_tmp, evalArgs_const, val1, putT, Tr.get_set_self, Tr.get_set_ne, hd _, ne_eq, Nat.reduceEqDiff, not_false_eq_true, decide_true, Nat.reduceLT, opI_move, opI_add, h9]; rfl) ?_
      exact ⟨k - 1, by omega, i + 1, by omega, by omega, by ((repeat (with_reducible apply Dom.set)); exact hd), by simp only [Tr.get_set_ne, ne_eq, Nat.reduceEqDiff, not_false_eq_true, h1], by simp only [Tr.get_set_ne, ne_eq, Nat.reduceEqDiff, not_false_eq_true, h2], by simp only [Tr.get_set_ne, ne_eq, Nat.reduceEqDiff, not_false_eq_true, h3], by simp only [Tr.get_set_self, Tr.get_set_ne, hd _, ne_eq, Nat.reduceEqDiff, not_false_eq_true, decide_true, Nat.reduceLT]; rw [wi (by omega) (by omega)]; rfl, ea.trans e4 (fun _ h => h) (fun _ _ h => h), hc4, g4⟩
    · have q5 : decide ((i : Int) < n) = false := decide_eq_false (by omega)
      obtain ⟨M4, c4, e4, hc4⟩ := hdo 0 (if_neg hin)
      have bl0 := bld (1 + i) 0 K
      simp only [Int.cast_ofNat_Int] at c4 bl0
      refine W_seq (W_seq (W_seqR (by simp only [runSeq_cons, runSeq_nil, evalArgs_nil, evalArgs_tmp, evalArgs_const, val1, putT, Tr.get_set_self, Tr.get_set_ne, Tr.isSome_set, hd _, ne_eq, Nat.reduceEqDiff, not_false_eq_true, decide_true, Nat.reduceLT, opI_move, opI_lss, opI_geq, opI_fieldP, opI_pick, Nat.zero_add, runSeq_guard (b := true), beq_self_eq_true, h9, h2, q3, h3, lnK, q5]; rfl) ?_))
      refine W_cond (b := false) (by simp only [PArg.eval, Tr.get_set_self, Tr.get_set_ne, hd _, ne_eq, Nat.reduceEqDiff, not_false_eq_true, decide_true, Nat.reduceLT]; try rfl) (fun hb => by cases hb) (fun _ => W_skip ?_)
      show W _ _
      have g4 : M4.get M.n = _ := (e4.same M.n (get_lt ea.ok.1 gK) nb).trans gK
      refine W_seqR (by simp only [runSeq_cons, runSeq_nil, evalArgs_nil, evalArgs_tmp, evalArgs_const, val1, putT, Tr.get_set_self, Tr.get_set_ne, hd _, ne_eq, Nat.reduceEqDiff, not_false_eq_true, decide_true, Nat.reduceLT, opI_move, opI_add, opI_callF, opI_fieldP, Nat.add_zero, h1, h3, laK, h9, w4, bl0, c4]; rfl) ?_
      show W _ _
      refine W_seqR (by simp only [runSeq_cons, runSeq_nil, evalArgs_nil, evalArgs_tmp, evalArgs_const, val1, putT, Tr.get_set_self, Tr.get_set_ne, hd _, ne_eq, Nat.reduceEqDiff, not_false_eq_true, decide_true, Nat.reduceLT, opI_move, opI_add, h9]; rfl) ?_
      exact ⟨k - 1, by omega, i + 1, by omega, by omega, by ((repeat (with_reducible apply Dom.set)); exact hd), by simp only [Tr.get_set_ne, ne_eq, Nat.reduceEqDiff, not_false_eq_true, h1], by simp only [Tr.get_set_ne, ne_eq, Nat.reduceEqDiff, not_false_eq_true, h2], by simp only [Tr.get_set_ne, ne_eq, Nat.reduceEqDiff, not_false_eq_true, h3], by simp only [Tr.get_set_self, Tr.get_set_ne, hd _, ne_eq, Nat.reduceEqDiff, not_false_eq_true, decide_true, Nat.reduceLT]; rw [wi (by omega) (by omega)]; rfl, ea.trans e4 (fun _ h => h) (fun _ _ h => h), hc4, g4⟩
  · have hni : ¬ i ≤ n := by simpa using hb
    show W _ _
    refine W_seq (W_seqR (by simp only [runSeq_cons, runSeq_nil, evalArgs_nil, evalArgs_const, val1, putT, opI_move]; rfl) (W_ret ?_))
    refine ⟨_, fin_tmp (by simp only [Tr.get_set_self, Tr.get_set_ne, hd _, ne_eq, Nat.reduceEqDiff, not_false_eq_true, decide_true, Nat.reduceLT]; try rfl), rfl, ea, ?_⟩
    have : i = n + 1 := by omega
    subst this
    rw [← initL_all hn1]
    exact hcK
end Go.Proofs.Ytldijnabgabehaa.so
