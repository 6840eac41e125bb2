/- The walks of the least, of the greatest, and of the one at a place. -/
import Derived.Test.YtoddncakdnmloaaStTbl
namespace Go.Proofs.Ytoddncakdnmloaa.stats
open Go Go.Vx

theorem opI_min {k : IntKind} {x y : Int} {M : AMem} : opI (.minmax false) [.int k x, .int k y] M = some (.val (.int k (if y < x then y else x)) M) := by simp [opI]
theorem opI_max {k : IntKind} {x y : Int} {M : AMem} : opI (.minmax true) [.int k x, .int k y] M = some (.val (.int k (if y > x then y else x)) M) := by simp [opI]
set_option maxHeartbeats 1000000 in
theorem min_ok {v : AV} {xs : List Int} (d : Nat) (M : AMem) (hv : IRow M .i64 v xs) (h1 : 1 ≤ xs.length) (hn : xs.length < 100000) :
    Ans (callF tbl code 100000 (d + 1)) 20 [v] M fun r M' => M' = M ∧ ∃ m, r = .int .i64 m ∧ m ∈ xs ∧ ∀ y ∈ xs, m ≤ y := by
  refine Ans_of (tbl_none (by decide) _) (show code 20 = some c20 from by kernel_rfl) (by simp) fun t hd ha => ?_
  have h0 := ha 0 _ rfl
  clear ha
  have lv := hv.len
  have c1 : ¬ (xs.length : Int) < 1 := by omega
  obtain ⟨p0, _, p1, p2⟩ := hv.at_ (i := 0) (by omega)
  simp only [Int.natCast_zero] at p1
  refine W_seq (W_seqR (by simp only [runSeq_cons, runSeq_nil, evalArgs_nil, evalArgs_const, val1, putT, opI_move]; rfl) ?_)
  refine W_seq (W_seq (W_seqR (by simp only [runSeq_cons, runSeq_nil, evalArgs_nil, evalArgs_tmp, evalArgs_const, val1, putT, Tr.get_set_self, Tr.get_set_ne, hd _, ne_eq, Nat.reduceEqDiff, not_false_eq_true, decide_true, Nat.reduceLT, opI_move, opI_lss, h0, lv, c1, decide_false]; rfl) ?_))
  refine W_cond (b := false) (by simp only [PArg.eval, Tr.get_set_self, Tr.get_set_ne, hd _, ne_eq, Nat.reduceEqDiff, not_false_eq_true, decide_true, Nat.reduceLT]; try rfl) (fun hb => by cases hb) (fun _ => W_skip ?_)
  show W _ _
  refine W_seq (W_seqR (by simp only [runSeq_cons, runSeq_nil, evalArgs_nil, evalArgs_tmp, evalArgs_const, val1, putT, Tr.get_set_self, Tr.get_set_ne, hd _, ne_eq, Nat.reduceEqDiff, not_false_eq_true, decide_true, Nat.reduceLT, opI_move, h0, p1, p2]; rfl) ?_)
  refine W_seq (W_seq (W_seqR (by simp only [runSeq_cons, runSeq_nil, evalArgs_nil, evalArgs_const, val1, putT, opI_move]; rfl) (W_block (W_loop (fun k t M' => ∃ (i : Nat) (m : Int), k + i = xs.length ∧ 1 ≤ i ∧ M' = M ∧ m ∈ xs ∧ (∀ j, (hj : j < xs.length) → j < i → m ≤ xs[j]) ∧ Dom t 25 ∧ t.get 0 = some v ∧ t.get 3 = some (.int .i64 m) ∧ t.get 4 = some (.int .i64 i)) (k := xs.length - 1) (by omega) ?_ ?_))))
  · exact ⟨1, xs[0], by omega, by omega, rfl, List.getElem_mem _, fun j hj hji => by (obtain rfl : j = 0 := by omega); exact Int.le_refl _, by ((repeat (with_reducible apply Dom.set)); exact hd), by simp only [Tr.get_set_ne, ne_eq, Nat.reduceEqDiff, not_false_eq_true, h0], by simp only [Tr.get_set_self, Tr.get_set_ne, hd _, ne_eq, Nat.reduceEqDiff, not_false_eq_true, decide_true, Nat.reduceLT]; try rfl, by simp only [Tr.get_set_self, Tr.get_set_ne, hd _, ne_eq, Nat.reduceEqDiff, not_false_eq_true, decide_true, Nat.reduceLT]; try rfl⟩
  clear h0 hd p1 p2
  intro k t M' ⟨i, m, hk, hi1, hM, hmx, hml, hd, h0, h3, h4⟩
  subst hM
  refine W_seq (W_seq (W_seqR (by simp only [runSeq_cons, runSeq_nil, evalArgs_nil, evalArgs_tmp, val1, putT, Tr.get_set_self, Tr.get_set_ne, hd _, ne_eq, Nat.reduceEqDiff, not_false_eq_true, decide_true, Nat.reduceLT, opI_move, opI_lss, h0, h4, lv]; rfl) ?_))
  refine W_cond (by simp only [PArg.eval, Tr.get_set_self, Tr.get_set_ne, hd _, ne_eq, Nat.reduceEqDiff, not_false_eq_true, decide_true, Nat.reduceLT]; rfl) (fun hb => W_skip ?_) (fun hb => ?_)
  rotate_left
  · refine W_exit ?_
    have hi : i = xs.length := by simp at hb; omega
    show W _ _
    refine W_seq (W_seqR (by simp only [runSeq_cons, runSeq_nil, evalArgs_nil, evalArgs_tmp, val1, putT, Tr.get_set_self, Tr.get_set_ne, hd _, ne_eq, Nat.reduceEqDiff, not_false_eq_true, decide_true, Nat.reduceLT, opI_move, h3]; rfl) (W_ret ?_))
    refine ⟨_, fin_tmp (by simp only [Tr.get_set_self, Tr.get_set_ne, hd _, ne_eq, Nat.reduceEqDiff, not_false_eq_true, decide_true, Nat.reduceLT]; try rfl), rfl, m, rfl, hmx, fun y hy => ?_⟩
    obtain ⟨j, hj, rfl⟩ := List.mem_iff_getElem.1 hy
    exact hml j hj (by omega)
  have hin : i < xs.length := by simpa using hb
  obtain ⟨p, _, p1, p2⟩ := hv.at_ hin
  refine W_seq (W_block (W_seqR (by simp only [runSeq_cons, runSeq_nil, evalArgs_nil, evalArgs_tmp, val1, putT, Tr.get_set_self, Tr.get_set_ne, hd _, ne_eq, Nat.reduceEqDiff, not_false_eq_true, decide_true, Nat.reduceLT, opI_move, h0, h3, h4, p1, p2, opI_min]; rfl) ?_))
  show W _ _
  refine W_seqR (by simp only [runSeq_cons, runSeq_nil, evalArgs_nil, evalArgs_tmp, evalArgs_const, val1, putT, Tr.get_set_self, Tr.get_set_ne, hd _, ne_eq, Nat.reduceEqDiff, not_false_eq_true, decide_true, Nat.reduceLT, opI_move, opI_add, h4]; rfl) ?_
  refine ⟨k - 1, by omega, i + 1, if xs[i] < m then xs[i] else m, by omega, by omega, rfl, ?_, fun j hj hji => ?_, by ((repeat (with_reducible apply Dom.set)); exact hd), by simp only [Tr.get_set_ne, ne_eq, Nat.reduceEqDiff, not_false_eq_true, h0], by simp only [Tr.get_set_self, Tr.get_set_ne, hd _, ne_eq, Nat.reduceEqDiff, not_false_eq_true, decide_true, Nat.reduceLT]; try rfl, ?_⟩
  · split
    · exact List.getElem_mem _
    · exact hmx
  · rcases Nat.lt_or_ge j i with h | h
    · have := hml j hj h
      split <;> omega
    · obtain rfl : j = i := by omega
      split <;> omega
  · simp only [Tr.get_set_self, Tr.get_set_ne, hd _, ne_eq, Nat.reduceEqDiff, not_false_eq_true, decide_true, Nat.reduceLT]
    rw [wrapF_small (by omega) (by omega)]; rfl
set_option maxHeartbeats 1000000 in
theorem max_ok {v : AV} {xs : List Int} (d : Nat) (M : AMem) (hv : IRow M .i64 v xs) (h1 : 1 ≤ xs.length) (hn : xs.length < 100000) :
    Ans (callF tbl code 100000 (d + 1)) 21 [v] M fun r M' => M' = M ∧ ∃ m, r = .int .i64 m ∧ m ∈ xs ∧ ∀ y ∈ xs, y ≤ m := by
  refine Ans_of (tbl_none (by decide) _) (show code 21 = some c21 from by kernel_rfl) (by simp) fun t hd ha => ?_
  have h0 := ha 0 _ rfl
  clear ha
  have lv := hv.len
  have c1 : ¬ (xs.length : Int) < 1 := by omega
  obtain ⟨p0, _, p1, p2⟩ := hv.at_ (i := 0) (by omega)
  simp only [Int.natCast_zero] at p1
  refine W_seq (W_seqR (by simp only [runSeq_cons, runSeq_nil, evalArgs_nil, evalArgs_const, val1, putT, opI_move]; rfl) ?_)
  refine W_seq (W_seq (W_seqR (by simp only [runSeq_cons, runSeq_nil, evalArgs_nil, evalArgs_tmp, evalArgs_const, val1, putT, Tr.get_set_self, Tr.get_set_ne, hd _, ne_eq, Nat.reduceEqDiff, not_false_eq_true, decide_true, Nat.reduceLT, opI_move, opI_lss, h0, lv, c1, decide_false]; rfl) ?_))
  refine W_cond (b := false) (by simp only [PArg.eval, Tr.get_set_self, Tr.get_set_ne, hd _, ne_eq, Nat.reduceEqDiff, not_false_eq_true, decide_true, Nat.reduceLT]; try rfl) (fun hb => by cases hb) (fun _ => W_skip ?_)
  show W _ _
  refine W_seq (W_seqR (by simp only [runSeq_cons, runSeq_nil, evalArgs_nil, evalArgs_tmp, evalArgs_const, val1, putT, Tr.get_set_self, Tr.get_set_ne, hd _, ne_eq, Nat.reduceEqDiff, not_false_eq_true, decide_true, Nat.reduceLT, opI_move, h0, p1, p2]; rfl) ?_)
  refine W_seq (W_seq (W_seqR (by simp only [runSeq_cons, runSeq_nil, evalArgs_nil, evalArgs_const, val1, putT, opI_move]; rfl) (W_block (W_loop (fun k t M' => ∃ (i : Nat) (m : Int), k + i = xs.length ∧ 1 ≤ i ∧ M' = M ∧ m ∈ xs ∧ (∀ j, (hj : j < xs.length) → j < i → xs[j] ≤ m) ∧ Dom t 25 ∧ t.get 0 = some v ∧ t.get 3 = some (.int .i64 m) ∧ t.get 4 = some (.int .i64 i)) (k := xs.length - 1) (by omega) ?_ ?_))))
  · exact ⟨1, xs[0], by omega, by omega, rfl, List.getElem_mem _, fun j hj hji => by (obtain rfl : j = 0 := by omega); exact Int.le_refl _, by ((repeat (with_reducible apply Dom.set)); exact hd), by simp only [Tr.get_set_ne, ne_eq, Nat.reduceEqDiff, not_false_eq_true, h0], by simp only [Tr.get_set_self, Tr.get_set_ne, hd _, ne_eq, Nat.reduceEqDiff, not_false_eq_true, decide_true, Nat.reduceLT]; try rfl, by simp only [Tr.get_set_self, Tr.get_set_ne, hd _, ne_eq, Nat.reduceEqDiff, not_false_eq_true, decide_true, Nat.reduceLT]; try rfl⟩
  clear h0 hd p1 p2
  intro k t M' ⟨i, m, hk, hi1, hM, hmx, hml, hd, h0, h3, h4⟩
  subst hM
  refine W_seq (W_seq (W_seqR (by simp only [runSeq_cons, runSeq_nil, evalArgs_nil, evalArgs_tmp, val1, putT, Tr.get_set_self, Tr.get_set_ne, hd _, ne_eq, Nat.reduceEqDiff, not_false_eq_true, decide_true, Nat.reduceLT, opI_move, opI_lss, h0, h4, lv]; rfl) ?_))
  refine W_cond (by simp only [PArg.eval, Tr.get_set_self, Tr.get_set_ne, hd _, ne_eq, Nat.reduceEqDiff, not_false_eq_true, decide_true, Nat.reduceLT]; rfl) (fun hb => W_skip ?_) (fun hb => ?_)
  rotate_left
  · refine W_exit ?_
    have hi : i = xs.length := by simp at hb; omega
    show W _ _
    refine W_seq (W_seqR (by simp only [runSeq_cons, runSeq_nil, evalArgs_nil, evalArgs_tmp, val1, putT, Tr.get_set_self, Tr.get_set_ne, hd _, ne_eq, Nat.reduceEqDiff, not_false_eq_true, decide_true, Nat.reduceLT, opI_move, h3]; rfl) (W_ret ?_))
    refine ⟨_, fin_tmp (by simp only [Tr.get_set_self, Tr.get_set_ne, hd _, ne_eq, Nat.reduceEqDiff, not_false_eq_true, decide_true, Nat.reduceLT]; try rfl), rfl, m, rfl, hmx, fun y hy => ?_⟩
    obtain ⟨j, hj, rfl⟩ := List.mem_iff_getElem.1 hy
    exact hml j hj (by omega)
  have hin : i < xs.length := by simpa using hb
  obtain ⟨p, _, p1, p2⟩ := hv.at_ hin
  refine W_seq (W_block (W_seqR (by simp only [runSeq_cons, runSeq_nil, evalArgs_nil, evalArgs_tmp, val1, putT, Tr.get_set_self, Tr.get_set_ne, hd _, ne_eq, Nat.reduceEqDiff, not_false_eq_true, decide_true, Nat.reduceLT, opI_move, h0, h3, h4, p1, p2, opI_max]; rfl) ?_))
  show W _ _
  refine W_seqR (by simp only [runSeq_cons, runSeq_nil, evalArgs_nil, evalArgs_tmp, evalArgs_const, val1, putT, Tr.get_set_self, Tr.get_set_ne, hd _, ne_eq, Nat.reduceEqDiff, not_false_eq_true, decide_true, Nat.reduceLT, opI_move, opI_add, h4]; rfl) ?_
  refine ⟨k - 1, by omega, i + 1, if xs[i] > m then xs[i] else m, by omega, by omega, rfl, ?_, fun j hj hji => ?_, by ((repeat (with_reducible apply Dom.set)); exact hd), by simp only [Tr.get_set_ne, ne_eq, Nat.reduceEqDiff, not_false_eq_true, h0], by simp only [Tr.get_set_self, Tr.get_set_ne, hd _, ne_eq, Nat.reduceEqDiff, not_false_eq_true, decide_true, Nat.reduceLT]; try rfl, ?_⟩
  · split
    · exact List.getElem_mem _
    · exact hmx
  · rcases Nat.lt_or_ge j i with h | h
    · have := hml j hj h
      split <;> omega
    · obtain rfl : j = i := by omega
      split <;> omega
  · simp only [Tr.get_set_self, Tr.get_set_ne, hd _, ne_eq, Nat.reduceEqDiff, not_false_eq_true, decide_true, Nat.reduceLT]
    rw [wrapF_small (by omega) (by omega)]; rfl

/-- how many are less, or not more -/
def lessN (xs : List Int) (y : Int) : Nat := xs.countP fun x => decide (x < y)
def upToN (xs : List Int) (y : Int) : Nat := xs.countP fun x => decide (x ≤ y)
theorem countP_succ {xs : List Int} {p : Int → Bool} {i : Nat} (h : i < xs.length) : (xs.take (i + 1)).countP p = (xs.take i).countP p + if p xs[i] then 1 else 0 := by
  rw [List.take_succ_eq_append_getElem h, List.countP_append, List.countP_singleton]
def isAt (xs : List Int) (k : Nat) (y : Int) : Prop := lessN xs y ≤ k ∧ k < upToN xs y
instance (xs : List Int) (k : Nat) (y : Int) : Decidable (isAt xs k y) := by unfold isAt; exact inferInstance
/-- In a sorted row the one at k has k or fewer that are less, and more than k that are not more. -/
theorem sorted_at : ∀ {s : List Int}, s.Pairwise (· ≤ ·) → ∀ {k : Nat} (hk : k < s.length), isAt s k s[k]
  | [], _, k, hk => by simp at hk
  | x :: s, h, k, hk => by
    rw [List.pairwise_cons] at h
    unfold isAt lessN upToN
    cases k with
    | zero =>
      simp only [List.getElem_cons_zero, List.countP_cons]
      have : s.countP (fun y => decide (y < x)) = 0 := by
        rw [List.countP_eq_zero]
        intro y hy
        have := h.1 y hy
        simp; omega
      rw [this]
      simp
    | succ k =>
      have hk' : k < s.length := by simpa using hk
      obtain ⟨a, b⟩ := sorted_at h.2 hk'
      unfold lessN at a
      unfold upToN at b
      have hx := h.1 s[k] (List.getElem_mem _)
      simp only [List.getElem_cons_succ, List.countP_cons]
      rw [if_pos (show decide (x ≤ s[k]) = true by simpa using hx)]
      split <;> omega
theorem isAt_unique {xs : List Int} {k : Nat} {y z : Int} (hy : isAt xs k y) (hz : isAt xs k z) : y = z := by
  have mono : ∀ {a b : Int}, a < b → upToN xs a ≤ lessN xs b := fun {a b} hab => by
    unfold upToN lessN
    refine List.countP_mono_left fun x _ hx => ?_
    simp at hx ⊢; omega
  rcases Int.lt_trichotomy y z with h | h | h
  · have := mono h; have := hy.2; have := hz.1; omega
  · exact h
  · have := mono h; have := hz.2; have := hy.1; omega
/-- the one at a place, of some numbers in order -/
def atP (xs : List Int) (k : Nat) : Int := (sortI xs).getD k 0
theorem atP_law {xs : List Int} {k : Nat} (hk : k < xs.length) : atP xs k ∈ xs ∧ isAt xs k (atP xs k) := by
  have hp := sortI_perm xs
  have hk' : k < (sortI xs).length := by rw [sortI_len]; exact hk
  have hz : atP xs k = (sortI xs)[k] := by unfold atP; rw [List.getD_eq_getElem?_getD, List.getElem?_eq_getElem hk']; rfl
  rw [hz]
  refine ⟨hp.mem_iff.1 (List.getElem_mem _), ?_⟩
  have := sorted_at (sortI_sorted xs) hk'
  unfold isAt lessN upToN at this ⊢
  rw [hp.countP_eq, hp.countP_eq] at this
  exact this
set_option maxRecDepth 20000 in
set_option maxHeartbeats 2000000 in
theorem nth_ok {v : AV} {xs : List Int} {q : Nat} (d : Nat) (M : AMem) (hv : IRow M .i64 v xs) (hq : q < xs.length) (hn : xs.length < 100000) :
    Ans (callF tbl code 100000 (d + 1)) 24 [v, .int .i64 q] M fun r M' => M' = M ∧ r = .int .i64 (atP xs q) := by
  refine Ans_of (tbl_none (by decide) _) (show code 24 = some c24 from by kernel_rfl) (by simp) fun t hd ha => ?_
  have h0 := ha 0 _ rfl
  have h1 := ha 1 _ rfl
  clear ha
  have lv := hv.len
  refine W_seq (W_seqR (by simp only [runSeq_cons, runSeq_nil, evalArgs_nil, evalArgs_const, val1, putT, opI_move]; rfl) ?_)
  refine W_seq (W_seq (W_seqR (by simp only [runSeq_cons, runSeq_nil, evalArgs_nil, evalArgs_const, val1, putT, opI_move]; rfl) (W_block (W_loop (fun k t M' => ∃ (i : Nat), k + i = xs.length ∧ M' = M ∧ (∀ j, (hj : j < xs.length) → j < i → ¬ isAt xs q xs[j]) ∧ Dom t 55 ∧ t.get 0 = some v ∧ t.get 1 = some (.int .i64 q) ∧ t.get 5 = some (.int .i64 i)) (k := xs.length) (by omega) ?_ ?_))))
  · exact ⟨0, rfl, rfl, fun j _ hj => by omega, by ((repeat (with_reducible apply Dom.set)); exact hd), by simp only [Tr.get_set_ne, ne_eq, Nat.reduceEqDiff, not_false_eq_true, h0], by simp only [Tr.get_set_ne, ne_eq, Nat.reduceEqDiff, not_false_eq_true, h1], by simp only [Tr.get_set_self, Tr.get_set_ne, hd _, ne_eq, Nat.reduceEqDiff, not_false_eq_true, decide_true, Nat.reduceLT]; try rfl⟩
  clear h0 h1 hd
  intro k t M' ⟨i, hk, hM, hno, hd, h0, h1, h5⟩
  subst hM
  refine W_seq (W_seq (W_seqR (by simp only [runSeq_cons, runSeq_nil, evalArgs_nil, evalArgs_tmp, val1, putT, Tr.get_set_self, Tr.get_set_ne, hd _, ne_eq, Nat.reduceEqDiff, not_false_eq_true, decide_true, Nat.reduceLT, opI_move, opI_lss, h0, h5, lv]; rfl) ?_))
  refine W_cond (by simp only [PArg.eval, Tr.get_set_self, Tr.get_set_ne, hd _, ne_eq, Nat.reduceEqDiff, not_false_eq_true, decide_true, Nat.reduceLT]; rfl) (fun hb => W_skip ?_) (fun hb => ?_)
  rotate_left
  · exfalso
    have hi : i = xs.length := by simp at hb; omega
    obtain ⟨hm, ha⟩ := atP_law hq
    obtain ⟨j, hj, he⟩ := List.mem_iff_getElem.1 hm
    exact hno j hj (by omega) (by rw [he]; exact ha)
  have hin : i < xs.length := by simpa using hb
  obtain ⟨p, _, p1, p2⟩ := hv.at_ hin
  refine W_seq (W_block (W_seq (W_seqR (by simp only [runSeq_cons, runSeq_nil, evalArgs_nil, evalArgs_const, val1, putT, opI_move]; rfl) (W_seq (W_seq (W_seqR (by simp only [runSeq_cons, runSeq_nil, evalArgs_nil, evalArgs_const, val1, putT, opI_move]; rfl) (W_block (W_loop (fun kk t M2 => ∃ (j : Nat), kk + j = xs.length ∧ M2 = M' ∧ Dom t 55 ∧ t.get 0 = some v ∧ t.get 1 = some (.int .i64 q) ∧ t.get 5 = some (.int .i64 i) ∧ t.get 6 = some (.int .i64 (lessN (xs.take j) xs[i] : Nat)) ∧ t.get 7 = some (.int .i64 (upToN (xs.take j) xs[i] : Nat)) ∧ t.get 8 = some (.int .i64 j)) (k := xs.length) (by omega) ?_ ?_))))))))
  · exact ⟨0, rfl, rfl, by ((repeat (with_reducible apply Dom.set)); exact hd), by simp only [Tr.get_set_ne, ne_eq, Nat.reduceEqDiff, not_false_eq_true, h0], by simp only [Tr.get_set_ne, ne_eq, Nat.reduceEqDiff, not_false_eq_true, h1], by simp only [Tr.get_set_ne, ne_eq, Nat.reduceEqDiff, not_false_eq_true, h5], by simp only [Tr.get_set_self, Tr.get_set_ne, hd _, ne_eq, Nat.reduceEqDiff, not_false_eq_true, decide_true, Nat.reduceLT]; try rfl, by simp only [Tr.get_set_self, Tr.get_set_ne, hd _, ne_eq, Nat.reduceEqDiff, not_false_eq_true, decide_true, Nat.reduceLT]; try rfl, by simp only [Tr.get_set_self, Tr.get_set_ne, hd _, ne_eq, Nat.reduceEqDiff, not_false_eq_true, decide_true, Nat.reduceLT]; try rfl⟩
  clear h0 h1 h5 hd
  intro kk t M2 ⟨j, hkk, hM, hd, h0, h1, h5, h6, h7, h8⟩
  subst hM
  refine W_seq (W_seq (W_seqR (by simp only [runSeq_cons, runSeq_nil, evalArgs_nil, evalArgs_tmp, val1, putT, Tr.get_set_self, Tr.get_set_ne, hd _, ne_eq, Nat.reduceEqDiff, not_false_eq_true, decide_true, Nat.reduceLT, opI_move, opI_lss, h0, h8, lv]; rfl) ?_))
  refine W_cond (by simp only [PArg.eval, Tr.get_set_self, Tr.get_set_ne, hd _, ne_eq, Nat.reduceEqDiff, not_false_eq_true, decide_true, Nat.reduceLT]; rfl) (fun hb => W_skip ?_) (fun hb => ?_)
  · have hjn : j < xs.length := by simpa using hb
    obtain ⟨o, _, o1, o2⟩ := hv.at_ hjn
    have hl := countP_succ (p := fun x => decide (x < xs[i])) hjn
    have hu := countP_succ (p := fun x => decide (x ≤ xs[i])) hjn
    have hlb : lessN (xs.take j) xs[i] ≤ j := by
      unfold lessN; refine Nat.le_trans List.countP_le_length ?_; rw [List.length_take]; omega
    have hub : upToN (xs.take j) xs[i] ≤ j := by
      unfold upToN; refine Nat.le_trans List.countP_le_length ?_; rw [List.length_take]; omega
    refine W_seq (W_block (W_seq (W_seq (W_mix rfl (by simp only [sameN_self, evalArgs_nil, evalArgs_tmp, putT, Tr.get_set_self, Tr.get_set_ne, hd _, ne_eq, Nat.reduceEqDiff, not_false_eq_true, decide_true, Nat.reduceLT, opI_move, opI_lss, runMix_nil, runMix_read, h0, h5, h8, p1, p2, o1, o2]; rfl) ?_))))
    refine W.mono (Q := fun x t2 M3 => x = .normal ∧ M3 = M2 ∧ Dom t2 55 ∧ t2.get 0 = some v ∧ t2.get 1 = some (.int .i64 q) ∧ t2.get 5 = some (.int .i64 i) ∧ t2.get 6 = some (.int .i64 (lessN (xs.take (j + 1)) xs[i] : Nat)) ∧ t2.get 7 = some (.int .i64 (upToN (xs.take j) xs[i] : Nat)) ∧ t2.get 8 = some (.int .i64 j)) ?_ ?_
    · by_cases c : xs[j] < xs[i]
      · refine W_cond (b := true) (by simp only [PArg.eval, Tr.get_set_self, Tr.get_set_ne, hd _, ne_eq, Nat.reduceEqDiff, not_false_eq_true, decide_true, Nat.reduceLT, c]; try rfl) (fun _ => ?_) (fun hb => by cases hb)
        refine W_seqR (by simp only [runSeq_cons, runSeq_nil, evalArgs_nil, evalArgs_tmp, evalArgs_const, val1, putT, Tr.get_set_self, Tr.get_set_ne, hd _, ne_eq, Nat.reduceEqDiff, not_false_eq_true, decide_true, Nat.reduceLT, opI_move, opI_add, h6]; rfl) ⟨rfl, rfl, by ((repeat (with_reducible apply Dom.set)); exact hd), by simp only [Tr.get_set_ne, ne_eq, Nat.reduceEqDiff, not_false_eq_true, h0], by simp only [Tr.get_set_ne, ne_eq, Nat.reduceEqDiff, not_false_eq_true, h1], by simp only [Tr.get_set_ne, ne_eq, Nat.reduceEqDiff, not_false_eq_true, h5], ?_, by simp only [Tr.get_set_ne, ne_eq, Nat.reduceEqDiff, not_false_eq_true, h7], by simp only [Tr.get_set_ne, ne_eq, Nat.reduceEqDiff, not_false_eq_true, h8]⟩
        simp only [Tr.get_set_self, Tr.get_set_ne, hd _, ne_eq, Nat.reduceEqDiff, not_false_eq_true, decide_true, Nat.reduceLT]
        unfold lessN at hlb ⊢
        rw [hl, if_pos (by simpa using c), wrapF_small (by omega) (by omega)]; rfl
      · refine W_cond (b := false) (by simp only [PArg.eval, Tr.get_set_self, Tr.get_set_ne, hd _, ne_eq, Nat.reduceEqDiff, not_false_eq_true, decide_true, Nat.reduceLT, c, decide_false]; try rfl) (fun hb => by cases hb) (fun _ => W_skip ?_)
        refine ⟨rfl, rfl, by ((repeat (with_reducible apply Dom.set)); exact hd), by simp only [Tr.get_set_ne, ne_eq, Nat.reduceEqDiff, not_false_eq_true, h0], by simp only [Tr.get_set_ne, ne_eq, Nat.reduceEqDiff, not_false_eq_true, h1], by simp only [Tr.get_set_ne, ne_eq, Nat.reduceEqDiff, not_false_eq_true, h5], ?_, by simp only [Tr.get_set_ne, ne_eq, Nat.reduceEqDiff, not_false_eq_true, h7], by simp only [Tr.get_set_ne, ne_eq, Nat.reduceEqDiff, not_false_eq_true, h8]⟩
        simp only [Tr.get_set_ne, ne_eq, Nat.reduceEqDiff, not_false_eq_true, h6]
        unfold lessN
        rw [hl, if_neg (by simpa using c)]; rfl
    clear h0 h1 h5 h6 h7 h8 hd
    rintro x t3 M3 ⟨rfl, rfl, hd, h0, h1, h5, h6, h7, h8⟩
    show W _ _
    refine W_seq (W_mix rfl (by simp only [sameN_self, evalArgs_nil, evalArgs_tmp, putT, Tr.get_set_self, Tr.get_set_ne, hd _, ne_eq, Nat.reduceEqDiff, not_false_eq_true, decide_true, Nat.reduceLT, opI_move, opI_leq, runMix_nil, runMix_read, h0, h5, h8, p1, p2, o1, o2]; rfl) ?_)
    refine W.mono (Q := fun x t2 M4 => x = .normal ∧ M4 = M3 ∧ Dom t2 55 ∧ t2.get 0 = some v ∧ t2.get 1 = some (.int .i64 q) ∧ t2.get 5 = some (.int .i64 i) ∧ t2.get 6 = some (.int .i64 (lessN (xs.take (j + 1)) xs[i] : Nat)) ∧ t2.get 7 = some (.int .i64 (upToN (xs.take (j + 1)) xs[i] : Nat)) ∧ t2.get 8 = some (.int .i64 j)) ?_ ?_
    · by_cases c : xs[j] ≤ xs[i]
      · refine W_cond (b := true) (by simp only [PArg.eval, Tr.get_set_self, Tr.get_set_ne, hd _, ne_eq, Nat.reduceEqDiff, not_false_eq_true, decide_true, Nat.reduceLT, c]; try rfl) (fun _ => ?_) (fun hb => by cases hb)
        refine W_seqR (by simp only [runSeq_cons, runSeq_nil, evalArgs_nil, evalArgs_tmp, evalArgs_const, val1, putT, Tr.get_set_self, Tr.get_set_ne, hd _, ne_eq, Nat.reduceEqDiff, not_false_eq_true, decide_true, Nat.reduceLT, opI_move, opI_add, h7]; rfl) ⟨rfl, rfl, by ((repeat (with_reducible apply Dom.set)); exact hd), by simp only [Tr.get_set_ne, ne_eq, Nat.reduceEqDiff, not_false_eq_true, h0], by simp only [Tr.get_set_ne, ne_eq, Nat.reduceEqDiff, not_false_eq_true, h1], by simp only [Tr.get_set_ne, ne_eq, Nat.reduceEqDiff, not_false_eq_true, h5], by simp only [Tr.get_set_ne, ne_eq, Nat.reduceEqDiff, not_false_eq_true, h6], ?_, by simp only [Tr.get_set_ne, ne_eq, Nat.reduceEqDiff, not_false_eq_true, h8]⟩
        simp only [Tr.get_set_self, Tr.get_set_ne, hd _, ne_eq, Nat.reduceEqDiff, not_false_eq_true, decide_true, Nat.reduceLT]
        unfold upToN at hub ⊢
        rw [hu, if_pos (by simpa using c), wrapF_small (by omega) (by omega)]; rfl
      · refine W_cond (b := false) (by simp only [PArg.eval, Tr.get_set_self, Tr.get_set_ne, hd _, ne_eq, Nat.reduceEqDiff, not_false_eq_true, decide_true, Nat.reduceLT, c, decide_false]; try rfl) (fun hb => by cases hb) (fun _ => W_skip ?_)
        refine ⟨rfl, rfl, by ((repeat (with_reducible apply Dom.set)); exact hd), by simp only [Tr.get_set_ne, ne_eq, Nat.reduceEqDiff, not_false_eq_true, h0], by simp only [Tr.get_set_ne, ne_eq, Nat.reduceEqDiff, not_false_eq_true, h1], by simp only [Tr.get_set_ne, ne_eq, Nat.reduceEqDiff, not_false_eq_true, h5], by simp only [Tr.get_set_ne, ne_eq, Nat.reduceEqDiff, not_false_eq_true, h6], ?_, by simp only [Tr.get_set_ne, ne_eq, Nat.reduceEqDiff, not_false_eq_true, h8]⟩
        simp only [Tr.get_set_ne, ne_eq, Nat.reduceEqDiff, not_false_eq_true, h7]
        unfold upToN
        rw [hu, if_neg (by simpa using c)]; rfl
    clear h0 h1 h5 h6 h7 h8 hd
    rintro x t4 M4 ⟨rfl, rfl, hd, h0, h1, h5, h6, h7, h8⟩
    show W _ _
    refine W_seqR (by simp only [runSeq_cons, runSeq_nil, evalArgs_nil, evalArgs_tmp, evalArgs_const, val1, putT, Tr.get_set_self, Tr.get_set_ne, hd _, ne_eq, Nat.reduceEqDiff, not_false_eq_true, decide_true, Nat.reduceLT, opI_move, opI_add, h8]; rfl) ?_
    refine ⟨kk - 1, by omega, j + 1, by omega, rfl, by ((repeat (with_reducible apply Dom.set)); exact hd), by simp only [Tr.get_set_ne, ne_eq, Nat.reduceEqDiff, not_false_eq_true, h0], by simp only [Tr.get_set_ne, ne_eq, Nat.reduceEqDiff, not_false_eq_true, h1], by simp only [Tr.get_set_ne, ne_eq, Nat.reduceEqDiff, not_false_eq_true, h5], by simp only [Tr.get_set_ne, ne_eq, Nat.reduceEqDiff, not_false_eq_true, h6], by simp only [Tr.get_set_ne, ne_eq, Nat.reduceEqDiff, not_false_eq_true, h7], ?_⟩
    simp only [Tr.get_set_self, Tr.get_set_ne, hd _, ne_eq, Nat.reduceEqDiff, not_false_eq_true, decide_true, Nat.reduceLT]
    rw [wrapF_small (by omega) (by omega)]; rfl
  · refine W_exit ?_
    have hj : j = xs.length := by simp at hb; omega
    subst hj
    rw [List.take_length] at h6 h7
    show W _ _
    by_cases c1 : lessN xs xs[i] ≤ q
    · by_cases c2 : q < upToN xs xs[i]
      · have c1' : ((lessN xs xs[i] : Nat) : Int) ≤ (q : Int) := by omega
        have c2' : (q : Int) < ((upToN xs xs[i] : Nat) : Int) := by omega
        refine W_seq (W_seqR (by simp only [runSeq_cons, runSeq_nil, evalArgs_nil, evalArgs_tmp, evalArgs_const, val1, putT, Tr.get_set_self, Tr.get_set_ne, Tr.isSome_set, hd _, ne_eq, Nat.reduceEqDiff, not_false_eq_true, decide_true, Nat.reduceLT, opI_move, opI_lss, opI_leq, opI_pick, runSeq_guard (b := true), beq_self_eq_true, h1, h6, h7, c1', c2']; rfl) ?_)
        refine W_cond (b := true) (by simp only [PArg.eval, Tr.get_set_self, Tr.get_set_ne, hd _, ne_eq, Nat.reduceEqDiff, not_false_eq_true, decide_true, Nat.reduceLT]; try rfl) (fun _ => ?_) (fun hb => by cases hb)
        refine W_seq (W_seqR (by simp only [runSeq_cons, runSeq_nil, evalArgs_nil, evalArgs_tmp, val1, putT, Tr.get_set_self, Tr.get_set_ne, hd _, ne_eq, Nat.reduceEqDiff, not_false_eq_true, decide_true, Nat.reduceLT, opI_move, h0, h5, p1, p2]; rfl) (W_ret ?_))
        refine ⟨_, fin_tmp (by simp only [Tr.get_set_self, Tr.get_set_ne, hd _, ne_eq, Nat.reduceEqDiff, not_false_eq_true, decide_true, Nat.reduceLT]; try rfl), rfl, ?_⟩
        rw [isAt_unique ⟨c1, c2⟩ (atP_law hq).2]; rfl
      · have c1' : ((lessN xs xs[i] : Nat) : Int) ≤ (q : Int) := by omega
        have c2' : ¬ (q : Int) < ((upToN xs xs[i] : Nat) : Int) := by omega
        refine W_seq (W_seqR (by simp only [runSeq_cons, runSeq_nil, evalArgs_nil, evalArgs_tmp, evalArgs_const, val1, putT, Tr.get_set_self, Tr.get_set_ne, Tr.isSome_set, hd _, ne_eq, Nat.reduceEqDiff, not_false_eq_true, decide_true, Nat.reduceLT, opI_move, opI_lss, opI_leq, opI_pick, runSeq_guard (b := true), beq_self_eq_true, h1, h6, h7, c1', c2', decide_false]; rfl) ?_)
        refine W_cond (b := false) (by simp only [PArg.eval, Tr.get_set_self, Tr.get_set_ne, hd _, ne_eq, Nat.reduceEqDiff, not_false_eq_true, decide_true, Nat.reduceLT]; try rfl) (fun hb => by cases hb) (fun _ => W_skip ?_)
        show W _ _
        refine W_seqR (by simp only [runSeq_cons, runSeq_nil, evalArgs_nil, evalArgs_tmp, evalArgs_const, val1, putT, Tr.get_set_self, Tr.get_set_ne, hd _, ne_eq, Nat.reduceEqDiff, not_false_eq_true, decide_true, Nat.reduceLT, opI_move, opI_add, h5]; rfl) ?_
        refine ⟨k - 1, by omega, i + 1, by omega, rfl, fun j hj hji => ?_, by ((repeat (with_reducible apply Dom.set)); exact hd), by simp only [Tr.get_set_ne, ne_eq, Nat.reduceEqDiff, not_false_eq_true, h0], by simp only [Tr.get_set_ne, ne_eq, Nat.reduceEqDiff, not_false_eq_true, h1], ?_⟩
        · rcases Nat.lt_or_ge j i with h | h
          · exact hno j hj h
          · obtain rfl : j = i := by omega
            exact fun h => c2 h.2
        · simp only [Tr.get_set_self, Tr.get_set_ne, hd _, ne_eq, Nat.reduceEqDiff, not_false_eq_true, decide_true, Nat.reduceLT]
          rw [wrapF_small (by omega) (by omega)]; rfl
    · have c1' : ¬ ((lessN xs xs[i] : Nat) : Int) ≤ (q : Int) := by omega
      refine W_seq (W_seqR (by simp only [runSeq_cons, runSeq_nil, evalArgs_nil, evalArgs_tmp, evalArgs_const, val1, putT, Tr.get_set_self, Tr.get_set_ne, Tr.isSome_set, hd _, ne_eq, Nat.reduceEqDiff, not_false_eq_true, decide_true, Nat.reduceLT, opI_move, opI_leq, opI_pick, runSeq_guard (b := false), Bool.false_beq, Bool.not_true, h1, h6, c1', decide_false]; rfl) ?_)
      refine W_cond (b := false) (by simp only [PArg.eval, Tr.get_set_self, Tr.get_set_ne, hd _, ne_eq, Nat.reduceEqDiff, not_false_eq_true, decide_true, Nat.reduceLT]; try rfl) (fun hb => by cases hb) (fun _ => W_skip ?_)
      show W _ _
      refine W_seqR (by simp only [runSeq_cons, runSeq_nil, evalArgs_nil, evalArgs_tmp, evalArgs_const, val1, putT, Tr.get_set_self, Tr.get_set_ne, hd _, ne_eq, Nat.reduceEqDiff, not_false_eq_true, decide_true, Nat.reduceLT, opI_move, opI_add, h5]; rfl) ?_
      refine ⟨k - 1, by omega, i + 1, by omega, rfl, fun j hj hji => ?_, by ((repeat (with_reducible apply Dom.set)); exact hd), by simp only [Tr.get_set_ne, ne_eq, Nat.reduceEqDiff, not_false_eq_true, h0], by simp only [Tr.get_set_ne, ne_eq, Nat.reduceEqDiff, not_false_eq_true, h1], ?_⟩
      · rcases Nat.lt_or_ge j i with h | h
        · exact hno j hj h
        · obtain rfl : j = i := by omega
          exact fun h => c1 h.1
      · simp only [Tr.get_set_self, Tr.get_set_ne, hd _, ne_eq, Nat.reduceEqDiff, not_false_eq_true, decide_true, Nat.reduceLT]
        rw [wrapF_small (by omega) (by omega)]; rfl
end Go.Proofs.Ytoddncakdnmloaa.stats
