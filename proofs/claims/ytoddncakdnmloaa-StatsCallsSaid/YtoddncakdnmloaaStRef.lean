/- The parts StTbl, StNth, StOf, StOf2, StRef of the walk. -/
import Derived.Test.YtoddncakdnmloaaT
import Derived.Test.YtoddncakdnmloaaVx24
import Derived.Test.YtoddncakdnmloaaVx20
import Derived.KernelRfl
/- The calls whose answers are known: awake, and the library's Sorted. -/
namespace Go.Proofs.Ytoddncakdnmloaa.stats
open Go Go.Vx
abbrev srt : FuncId → List AV → AMem → Option (AV × AMem) := sortedX 22 37
def tbl0 (f : FuncId) (args : List AV) : Option AV :=
  if f = 6 then match args with
    | [] => some (.bool true)
    | _ => none
  else none
def tbl (f : FuncId) (args : List AV) (M : AMem) : Option (AV × AMem) := match (match tbl0 f args with
    | some r => some (r, M)
    | none => none) with
  | some q => some q
  | none => srt f args M
theorem tbl_none {f : FuncId} (h : f ≠ 6 ∧ f ≠ 22) (a : List AV) : ∀ M, tbl f a M = none := fun M => by
  unfold tbl tbl0 srt sortedX
  rw [if_neg h.1, if_neg h.2]
theorem awake_run (g : Addr → Option AV) : (callF srt code 100000 2000 6 [] ⟨.nil, 0, g⟩).map (·.1) = some (.bool true) := of_callFK (by kernel_rfl)
end Go.Proofs.Ytoddncakdnmloaa.stats
/- The walks of the least, of the greatest, and of the one at a place. -/
namespace Go.Proofs.Ytoddncakdnmloaa.stats
open Go Go.Vx

theorem opI_min {k : IntKind} {x y : Int} {M : AMem} : opI (.minmax false) [.int k x, .int k y] M = some (.val (.int k (if y < x then y else x)) M) := by simp [opI]
theorem opI_max {k : IntKind} {x y : Int} {M : AMem} : opI (.minmax true) [.int k x, .int k y] M = some (.val (.int k (if y > x then y else x)) M) := by simp [opI]
set_option maxHeartbeats 1000000 in
theorem min_ok {v : AV} {xs : List Int} (d : Nat) (M : AMem) (hv : IRow M .i64 v xs) (h1 : 1 ≤ xs.length) (hn : xs.length < 100000) :
    Ans (callF tbl code 100000 (d + 1)) 20 [v] M fun r M' => M' = M ∧ ∃ m, r = .int .i64 m ∧ m ∈ xs ∧ ∀ y ∈ xs, m ≤ y := by
  refine Ans_of (tbl_none (by decide) _) (show code 20 = some c20 from by kernel_rfl) (by simp) fun t hd ha => ?_
  have h0 := ha 0 _ rfl
  clear ha
  have lv := hv.len
  have c1 : ¬ (xs.length : Int) < 1 := by omega
  obtain ⟨p0, _, p1, p2⟩ := hv.at_ (i := 0) (by omega)
  simp only [Int.natCast_zero] at p1
  refine W_seq (W_seqR (by simp only [runSeq_cons, runSeq_nil, evalArgs_nil, evalArgs_const, val1, putT, opI_move]; rfl) ?_)
  refine W_seq (W_seq (W_seqR (by simp only [runSeq_cons, runSeq_nil, evalArgs_nil, evalArgs_tmp, evalArgs_const, val1, putT, Tr.get_set_self, Tr.get_set_ne, hd _, ne_eq, Nat.reduceEqDiff, not_false_eq_true, decide_true, Nat.reduceLT, opI_move, opI_lss, h0, lv, c1, decide_false]; rfl) ?_))
  refine W_cond (b := false) (by simp only [PArg.eval, Tr.get_set_self, Tr.get_set_ne, hd _, ne_eq, Nat.reduceEqDiff, not_false_eq_true, decide_true, Nat.reduceLT]; try rfl) (fun hb => by cases hb) (fun _ => W_skip ?_)
  show W _ _
  refine W_seq (W_seqR (by simp only [runSeq_cons, runSeq_nil, evalArgs_nil, evalArgs_tmp, evalArgs_const, val1, putT, Tr.get_set_self, Tr.get_set_ne, hd _, ne_eq, Nat.reduceEqDiff, not_false_eq_true, decide_true, Nat.reduceLT, opI_move, h0, p1, p2]; rfl) ?_)
  refine W_seq (W_seq (W_seqR (by simp only [runSeq_cons, runSeq_nil, evalArgs_nil, evalArgs_const, val1, putT, opI_move]; rfl) (W_block (W_loop (fun k t M' => ∃ (i : Nat) (m : Int), k + i = xs.length ∧ 1 ≤ i ∧ M' = M ∧ m ∈ xs ∧ (∀ j, (hj : j < xs.length) → j < i → m ≤ xs[j]) ∧ Dom t 25 ∧ t.get 0 = some v ∧ t.get 3 = some (.int .i64 m) ∧ t.get 4 = some (.int .i64 i)) (k := xs.length - 1) (by omega) ?_ ?_))))
  · exact ⟨1, xs[0], by omega, by omega, rfl, List.getElem_mem _, fun j hj hji => by (obtain rfl : j = 0 := by omega); exact Int.le_refl _, by ((repeat (with_reducible apply Dom.set)); exact hd), by simp only [Tr.get_set_ne, ne_eq, Nat.reduceEqDiff, not_false_eq_true, h0], by simp only [Tr.get_set_self, Tr.get_set_ne, hd _, ne_eq, Nat.reduceEqDiff, not_false_eq_true, decide_true, Nat.reduceLT]; try rfl, by simp only [Tr.get_set_self, Tr.get_set_ne, hd _, ne_eq, Nat.reduceEqDiff, not_false_eq_true, decide_true, Nat.reduceLT]; try rfl⟩
  clear h0 hd p1 p2
  intro k t M' ⟨i, m, hk, hi1, hM, hmx, hml, hd, h0, h3, h4⟩
  subst hM
  refine W_seq (W_seq (W_seqR (by simp only [runSeq_cons, runSeq_nil, evalArgs_nil, evalArgs_tmp, val1, putT, Tr.get_set_self, Tr.get_set_ne, hd _, ne_eq, Nat.reduceEqDiff, not_false_eq_true, decide_true, Nat.reduceLT, opI_move, opI_lss, h0, h4, lv]; rfl) ?_))
  refine W_cond (by simp only [PArg.eval, Tr.get_set_self, Tr.get_set_ne, hd _, ne_eq, Nat.reduceEqDiff, not_false_eq_true, decide_true, Nat.reduceLT]; rfl) (fun hb => W_skip ?_) (fun hb => ?_)
  rotate_left
  · refine W_exit ?_
    have hi : i = xs.length := by simp at hb; omega
    show W _ _
    refine W_seq (W_seqR (by simp only [runSeq_cons, runSeq_nil, evalArgs_nil, evalArgs_tmp, val1, putT, Tr.get_set_self, Tr.get_set_ne, hd _, ne_eq, Nat.reduceEqDiff, not_false_eq_true, decide_true, Nat.reduceLT, opI_move, h3]; rfl) (W_ret ?_))
    refine ⟨_, fin_tmp (by simp only [Tr.get_set_self, Tr.get_set_ne, hd _, ne_eq, Nat.reduceEqDiff, not_false_eq_true, decide_true, Nat.reduceLT]; try rfl), rfl, m, rfl, hmx, fun y hy => ?_⟩
    obtain ⟨j, hj, rfl⟩ := List.mem_iff_getElem.1 hy
    exact hml j hj (by omega)
  have hin : i < xs.length := by simpa using hb
  obtain ⟨p, _, p1, p2⟩ := hv.at_ hin
  refine W_seq (W_block (W_seqR (by simp only [runSeq_cons, runSeq_nil, evalArgs_nil, evalArgs_tmp, val1, putT, Tr.get_set_self, Tr.get_set_ne, hd _, ne_eq, Nat.reduceEqDiff, not_false_eq_true, decide_true, Nat.reduceLT, opI_move, h0, h3, h4, p1, p2, opI_min]; rfl) ?_))
  show W _ _
  refine W_seqR (by simp only [runSeq_cons, runSeq_nil, evalArgs_nil, evalArgs_tmp, evalArgs_const, val1, putT, Tr.get_set_self, Tr.get_set_ne, hd _, ne_eq, Nat.reduceEqDiff, not_false_eq_true, decide_true, Nat.reduceLT, opI_move, opI_add, h4]; rfl) ?_
  refine ⟨k - 1, by omega, i + 1, if xs[i] < m then xs[i] else m, by omega, by omega, rfl, ?_, fun j hj hji => ?_, by ((repeat (with_reducible apply Dom.set)); exact hd), by simp only [Tr.get_set_ne, ne_eq, Nat.reduceEqDiff, not_false_eq_true, h0], by simp only [Tr.get_set_self, Tr.get_set_ne, hd _, ne_eq, Nat.reduceEqDiff, not_false_eq_true, decide_true, Nat.reduceLT]; try rfl, ?_⟩
  · split
    · exact List.getElem_mem _
    · exact hmx
  · rcases Nat.lt_or_ge j i with h | h
    · have := hml j hj h
      split <;> omega
    · obtain rfl : j = i := by omega
      split <;> omega
  · simp only [Tr.get_set_self, Tr.get_set_ne, hd _, ne_eq, Nat.reduceEqDiff, not_false_eq_true, decide_true, Nat.reduceLT]
    rw [wrapF_small (by omega) (by omega)]; rfl
set_option maxHeartbeats 1000000 in
theorem max_ok {v : AV} {xs : List Int} (d : Nat) (M : AMem) (hv : IRow M .i64 v xs) (h1 : 1 ≤ xs.length) (hn : xs.length < 100000) :
    Ans (callF tbl code 100000 (d + 1)) 21 [v] M fun r M' => M' = M ∧ ∃ m, r = .int .i64 m ∧ m ∈ xs ∧ ∀ y ∈ xs, y ≤ m := by
  refine Ans_of (tbl_none (by decide) _) (show code 21 = some c21 from by kernel_rfl) (by simp) fun t hd ha => ?_
  have h0 := ha 0 _ rfl
  clear ha
  have lv := hv.len
  have c1 : ¬ (xs.length : Int) < 1 := by omega
  obtain ⟨p0, _, p1, p2⟩ := hv.at_ (i := 0) (by omega)
  simp only [Int.natCast_zero] at p1
  refine W_seq (W_seqR (by simp only [runSeq_cons, runSeq_nil, evalArgs_nil, evalArgs_const, val1, putT, opI_move]; rfl) ?_)
  refine W_seq (W_seq (W_seqR (by simp only [runSeq_cons, runSeq_nil, evalArgs_nil, evalArgs_tmp, evalArgs_const, val1, putT, Tr.get_set_self, Tr.get_set_ne, hd _, ne_eq, Nat.reduceEqDiff, not_false_eq_true, decide_true, Nat.reduceLT, opI_move, opI_lss, h0, lv, c1, decide_false]; rfl) ?_))
  refine W_cond (b := false) (by simp only [PArg.eval, Tr.get_set_self, Tr.get_set_ne, hd _, ne_eq, Nat.reduceEqDiff, not_false_eq_true, decide_true, Nat.reduceLT]; try rfl) (fun hb => by cases hb) (fun _ => W_skip ?_)
  show W _ _
  refine W_seq (W_seqR (by simp only [runSeq_cons, runSeq_nil, evalArgs_nil, evalArgs_tmp, evalArgs_const, val1, putT, Tr.get_set_self, Tr.get_set_ne, hd _, ne_eq, Nat.reduceEqDiff, not_false_eq_true, decide_true, Nat.reduceLT, opI_move, h0, p1, p2]; rfl) ?_)
  refine W_seq (W_seq (W_seqR (by simp only [runSeq_cons, runSeq_nil, evalArgs_nil, evalArgs_const, val1, putT, opI_move]; rfl) (W_block (W_loop (fun k t M' => ∃ (i : Nat) (m : Int), k + i = xs.length ∧ 1 ≤ i ∧ M' = M ∧ m ∈ xs ∧ (∀ j, (hj : j < xs.length) → j < i → xs[j] ≤ m) ∧ Dom t 25 ∧ t.get 0 = some v ∧ t.get 3 = some (.int .i64 m) ∧ t.get 4 = some (.int .i64 i)) (k := xs.length - 1) (by omega) ?_ ?_))))
  · exact ⟨1, xs[0], by omega, by omega, rfl, List.getElem_mem _, fun j hj hji => by (obtain rfl : j = 0 := by omega); exact Int.le_refl _, by ((repeat (with_reducible apply Dom.set)); exact hd), by simp only [Tr.get_set_ne, ne_eq, Nat.reduceEqDiff, not_false_eq_true, h0], by simp only [Tr.get_set_self, Tr.get_set_ne, hd _, ne_eq, Nat.reduceEqDiff, not_false_eq_true, decide_true, Nat.reduceLT]; try rfl, by simp only [Tr.get_set_self, Tr.get_set_ne, hd _, ne_eq, Nat.reduceEqDiff, not_false_eq_true, decide_true, Nat.reduceLT]; try rfl⟩
  clear h0 hd p1 p2
  intro k t M' ⟨i, m, hk, hi1, hM, hmx, hml, hd, h0, h3, h4⟩
  subst hM
  refine W_seq (W_seq (W_seqR (by simp only [runSeq_cons, runSeq_nil, evalArgs_nil, evalArgs_tmp, val1, putT, Tr.get_set_self, Tr.get_set_ne, hd _, ne_eq, Nat.reduceEqDiff, not_false_eq_true, decide_true, Nat.reduceLT, opI_move, opI_lss, h0, h4, lv]; rfl) ?_))
  refine W_cond (by simp only [PArg.eval, Tr.get_set_self, Tr.get_set_ne, hd _, ne_eq, Nat.reduceEqDiff, not_false_eq_true, decide_true, Nat.reduceLT]; rfl) (fun hb => W_skip ?_) (fun hb => ?_)
  rotate_left
  · refine W_exit ?_
    have hi : i = xs.length := by simp at hb; omega
    show W _ _
    refine W_seq (W_seqR (by simp only [runSeq_cons, runSeq_nil, evalArgs_nil, evalArgs_tmp, val1, putT, Tr.get_set_self, Tr.get_set_ne, hd _, ne_eq, Nat.reduceEqDiff, not_false_eq_true, decide_true, Nat.reduceLT, opI_move, h3]; rfl) (W_ret ?_))
    refine ⟨_, fin_tmp (by simp only [Tr.get_set_self, Tr.get_set_ne, hd _, ne_eq, Nat.reduceEqDiff, not_false_eq_true, decide_true, Nat.reduceLT]; try rfl), rfl, m, rfl, hmx, fun y hy => ?_⟩
    obtain ⟨j, hj, rfl⟩ := List.mem_iff_getElem.1 hy
    exact hml j hj (by omega)
  have hin : i < xs.length := by simpa using hb
  obtain ⟨p, _, p1, p2⟩ := hv.at_ hin
  refine W_seq (W_block (W_seqR (by simp only [runSeq_cons, runSeq_nil, evalArgs_nil, evalArgs_tmp, val1, putT, Tr.get_set_self, Tr.get_set_ne, hd _, ne_eq, Nat.reduceEqDiff, not_false_eq_true, decide_true, Nat.reduceLT, opI_move, h0, h3, h4, p1, p2, opI_max]; rfl) ?_))
  show W _ _
  refine W_seqR (by simp only [runSeq_cons, runSeq_nil, evalArgs_nil, evalArgs_tmp, evalArgs_const, val1, putT, Tr.get_set_self, Tr.get_set_ne, hd _, ne_eq, Nat.reduceEqDiff, not_false_eq_true, decide_true, Nat.reduceLT, opI_move, opI_add, h4]; rfl) ?_
  refine ⟨k - 1, by omega, i + 1, if xs[i] > m then xs[i] else m, by omega, by omega, rfl, ?_, fun j hj hji => ?_, by ((repeat (with_reducible apply Dom.set)); exact hd), by simp only [Tr.get_set_ne, ne_eq, Nat.reduceEqDiff, not_false_eq_true, h0], by simp only [Tr.get_set_self, Tr.get_set_ne, hd _, ne_eq, Nat.reduceEqDiff, not_false_eq_true, decide_true, Nat.reduceLT]; try rfl, ?_⟩
  · split
    · exact List.getElem_mem _
    · exact hmx
  · rcases Nat.lt_or_ge j i with h | h
    · have := hml j hj h
      split <;> omega
    · obtain rfl : j = i := by omega
      split <;> omega
  · simp only [Tr.get_set_self, Tr.get_set_ne, hd _, ne_eq, Nat.reduceEqDiff, not_false_eq_true, decide_true, Nat.reduceLT]
    rw [wrapF_small (by omega) (by omega)]; rfl

/-- how many are less, or not more -/
def lessN (xs : List Int) (y : Int) : Nat := xs.countP fun x => decide (x < y)
def upToN (xs : List Int) (y : Int) : Nat := xs.countP fun x => decide (x ≤ y)
theorem countP_succ {xs : List Int} {p : Int → Bool} {i : Nat} (h : i < xs.length) : (xs.take (i + 1)).countP p = (xs.take i).countP p + if p xs[i] then 1 else 0 := by
  rw [List.take_succ_eq_append_getElem h, List.countP_append, List.countP_singleton]
def isAt (xs : List Int) (k : Nat) (y : Int) : Prop := lessN xs y ≤ k ∧ k < upToN xs y
instance (xs : List Int) (k : Nat) (y : Int) : Decidable (isAt xs k y) := by unfold isAt; exact inferInstance
/-- In a sorted row the one at k has k or fewer that are less, and more than k that are not more. -/
theorem sorted_at : ∀ {s : List Int}, s.Pairwise (· ≤ ·) → ∀ {k : Nat} (hk : k < s.length), isAt s k s[k]
  | [], _, k, hk => by simp at hk
  | x :: s, h, k, hk => by
    rw [List.pairwise_cons] at h
    unfold isAt lessN upToN
    cases k with
    | zero =>
      simp only [List.getElem_cons_zero, List.countP_cons]
      have : s.countP (fun y => decide (y < x)) = 0 := by
        rw [List.countP_eq_zero]
        intro y hy
        have := h.1 y hy
        simp; omega
      rw [this]
      simp
    | succ k =>
      have hk' : k < s.length := by simpa using hk
      obtain ⟨a, b⟩ := sorted_at h.2 hk'
      unfold lessN at a
      unfold upToN at b
      have hx := h.1 s[k] (List.getElem_mem _)
      simp only [List.getElem_cons_succ, List.countP_cons]
      rw [if_pos (show decide (x ≤ s[k]) = true by simpa using hx)]
      split <;> omega
theorem isAt_unique {xs : List Int} {k : Nat} {y z : Int} (hy : isAt xs k y) (hz : isAt xs k z) : y = z := by
  have mono : ∀ {a b : Int}, a < b → upToN xs a ≤ lessN xs b := fun {a b} hab => by
    unfold upToN lessN
    refine List.countP_mono_left fun x _ hx => ?_
    simp at hx ⊢; omega
  rcases Int.lt_trichotomy y z with h | h | h
  · have := mono h; have := hy.2; have := hz.1; omega
  · exact h
  · have := mono h; have := hz.2; have := hy.1; omega
/-- the one at a place, of some numbers in order -/
def atP (xs : List Int) (k : Nat) : Int := (sortI xs).getD k 0
theorem atP_law {xs : List Int} {k : Nat} (hk : k < xs.length) : atP xs k ∈ xs ∧ isAt xs k (atP xs k) := by
  have hp := sortI_perm xs
  have hk' : k < (sortI xs).length := by rw [sortI_len]; exact hk
  have hz : atP xs k = (sortI xs)[k] := by unfold atP; rw [List.getD_eq_getElem?_getD, List.getElem?_eq_getElem hk']; rfl
  rw [hz]
  refine ⟨hp.mem_iff.1 (List.getElem_mem _), ?_⟩
  have := sorted_at (sortI_sorted xs) hk'
  unfold isAt lessN upToN at this ⊢
  rw [hp.countP_eq, hp.countP_eq] at this
  exact this
set_option maxRecDepth 20000 in
set_option maxHeartbeats 2000000 in
theorem nth_ok {v : AV} {xs : List Int} {q : Nat} (d : Nat) (M : AMem) (hv : IRow M .i64 v xs) (hq : q < xs.length) (hn : xs.length < 100000) :
    Ans (callF tbl code 100000 (d + 1)) 24 [v, .int .i64 q] M fun r M' => M' = M ∧ r = .int .i64 (atP xs q) := by
  refine Ans_of (tbl_none (by decide) _) (show code 24 = some c24 from by kernel_rfl) (by simp) fun t hd ha => ?_
  have h0 := ha 0 _ rfl
  have h1 := ha 1 _ rfl
  clear ha
  have lv := hv.len
  refine W_seq (W_seqR (by simp only [runSeq_cons, runSeq_nil, evalArgs_nil, evalArgs_const, val1, putT, opI_move]; rfl) ?_)
  refine W_seq (W_seq (W_seqR (by simp only [runSeq_cons, runSeq_nil, evalArgs_nil, evalArgs_const, val1, putT, opI_move]; rfl) (W_block (W_loop (fun k t M' => ∃ (i : Nat), k + i = xs.length ∧ M' = M ∧ (∀ j, (hj : j < xs.length) → j < i → ¬ isAt xs q xs[j]) ∧ Dom t 55 ∧ t.get 0 = some v ∧ t.get 1 = some (.int .i64 q) ∧ t.get 5 = some (.int .i64 i)) (k := xs.length) (by omega) ?_ ?_))))
  · exact ⟨0, rfl, rfl, fun j _ hj => by omega, by ((repeat (with_reducible apply Dom.set)); exact hd), by simp only [Tr.get_set_ne, ne_eq, Nat.reduceEqDiff, not_false_eq_true, h0], by simp only [Tr.get_set_ne, ne_eq, Nat.reduceEqDiff, not_false_eq_true, h1], by simp only [Tr.get_set_self, Tr.get_set_ne, hd _, ne_eq, Nat.reduceEqDiff, not_false_eq_true, decide_true, Nat.reduceLT]; try rfl⟩
  clear h0 h1 hd
  intro k t M' ⟨i, hk, hM, hno, hd, h0, h1, h5⟩
  subst hM
  refine W_seq (W_seq (W_seqR (by simp only [runSeq_cons, runSeq_nil, evalArgs_nil, evalArgs_tmp, val1, putT, Tr.get_set_self, Tr.get_set_ne, hd _, ne_eq, Nat.reduceEqDiff, not_false_eq_true, decide_true, Nat.reduceLT, opI_move, opI_lss, h0, h5, lv]; rfl) ?_))
  refine W_cond (by simp only [PArg.eval, Tr.get_set_self, Tr.get_set_ne, hd _, ne_eq, Nat.reduceEqDiff, not_false_eq_true, decide_true, Nat.reduceLT]; rfl) (fun hb => W_skip ?_) (fun hb => ?_)
  rotate_left
  · exfalso
    have hi : i = xs.length := by simp at hb; omega
    obtain ⟨hm, ha⟩ := atP_law hq
    obtain ⟨j, hj, he⟩ := List.mem_iff_getElem.1 hm
    exact hno j hj (by omega) (by rw [he]; exact ha)
  have hin : i < xs.length := by simpa using hb
  obtain ⟨p, _, p1, p2⟩ := hv.at_ hin
  refine W_seq (W_block (W_seq (W_seqR (by simp only [runSeq_cons, runSeq_nil, evalArgs_nil, evalArgs_const, val1, putT, opI_move]; rfl) (W_seq (W_seq (W_seqR (by simp only [runSeq_cons, runSeq_nil, evalArgs_nil, evalArgs_const, val1, putT, opI_move]; rfl) (W_block (W_loop (fun kk t M2 => ∃ (j : Nat), kk + j = xs.length ∧ M2 = M' ∧ Dom t 55 ∧ t.get 0 = some v ∧ t.get 1 = some (.int .i64 q) ∧ t.get 5 = some (.int .i64 i) ∧ t.get 6 = some (.int .i64 (lessN (xs.take j) xs[i] : Nat)) ∧ t.get 7 = some (.int .i64 (upToN (xs.take j) xs[i] : Nat)) ∧ t.get 8 = some (.int .i64 j)) (k := xs.length) (by omega) ?_ ?_))))))))
  · exact ⟨0, rfl, rfl, by ((repeat (with_reducible apply Dom.set)); exact hd), by simp only [Tr.get_set_ne, ne_eq, Nat.reduceEqDiff, not_false_eq_true, h0], by simp only [Tr.get_set_ne, ne_eq, Nat.reduceEqDiff, not_false_eq_true, h1], by simp only [Tr.get_set_ne, ne_eq, Nat.reduceEqDiff, not_false_eq_true, h5], by simp only [Tr.get_set_self, Tr.get_set_ne, hd _, ne_eq, Nat.reduceEqDiff, not_false_eq_true, decide_true, Nat.reduceLT]; try rfl, by simp only [Tr.get_set_self, Tr.get_set_ne, hd _, ne_eq, Nat.reduceEqDiff, not_false_eq_true, decide_true, Nat.reduceLT]; try rfl, by simp only [Tr.get_set_self, Tr.get_set_ne, hd _, ne_eq, Nat.reduceEqDiff, not_false_eq_true, decide_true, Nat.reduceLT]; try rfl⟩
  clear h0 h1 h5 hd
  intro kk t M2 ⟨j, hkk, hM, hd, h0, h1, h5, h6, h7, h8⟩
  subst hM
  refine W_seq (W_seq (W_seqR (by simp only [runSeq_cons, runSeq_nil, evalArgs_nil, evalArgs_tmp, val1, putT, Tr.get_set_self, Tr.get_set_ne, hd _, ne_eq, Nat.reduceEqDiff, not_false_eq_true, decide_true, Nat.reduceLT, opI_move, opI_lss, h0, h8, lv]; rfl) ?_))
  refine W_cond (by simp only [PArg.eval, Tr.get_set_self, Tr.get_set_ne, hd _, ne_eq, Nat.reduceEqDiff, not_false_eq_true, decide_true, Nat.reduceLT]; rfl) (fun hb => W_skip ?_) (fun hb => ?_)
  · have hjn : j < xs.length := by simpa using hb
    obtain ⟨o, _, o1, o2⟩ := hv.at_ hjn
    have hl := countP_succ (p := fun x => decide (x < xs[i])) hjn
    have hu := countP_succ (p := fun x => decide (x ≤ xs[i])) hjn
    have hlb : lessN (xs.take j) xs[i] ≤ j := by
      unfold lessN; refine Nat.le_trans List.countP_le_length ?_; rw [List.length_take]; omega
    have hub : upToN (xs.take j) xs[i] ≤ j := by
      unfold upToN; refine Nat.le_trans List.countP_le_length ?_; rw [List.length_take]; omega
    refine W_seq (W_block (W_seq (W_seq (W_mix rfl (by simp only [sameN_self, evalArgs_nil, evalArgs_tmp, putT, Tr.get_set_self, Tr.get_set_ne, hd _, ne_eq, Nat.reduceEqDiff, not_false_eq_true, decide_true, Nat.reduceLT, opI_move, opI_lss, runMix_nil, runMix_read, h0, h5, h8, p1, p2, o1, o2]; rfl) ?_))))
    refine W.mono (Q := fun x t2 M3 => x = .normal ∧ M3 = M2 ∧ Dom t2 55 ∧ t2.get 0 = some v ∧ t2.get 1 = some (.int .i64 q) ∧ t2.get 5 = some (.int .i64 i) ∧ t2.get 6 = some (.int .i64 (lessN (xs.take (j + 1)) xs[i] : Nat)) ∧ t2.get 7 = some (.int .i64 (upToN (xs.take j) xs[i] : Nat)) ∧ t2.get 8 = some (.int .i64 j)) ?_ ?_
    · by_cases c : xs[j] < xs[i]
      · refine W_cond (b := true) (by simp only [PArg.eval, Tr.get_set_self, Tr.get_set_ne, hd _, ne_eq, Nat.reduceEqDiff, not_false_eq_true, decide_true, Nat.reduceLT, c]; try rfl) (fun _ => ?_) (fun hb => by cases hb)
        refine W_seqR (by simp only [runSeq_cons, runSeq_nil, evalArgs_nil, evalArgs_tmp, evalArgs_const, val1, putT, Tr.get_set_self, Tr.get_set_ne, hd _, ne_eq, Nat.reduceEqDiff, not_false_eq_true, decide_true, Nat.reduceLT, opI_move, opI_add, h6]; rfl) ⟨rfl, rfl, by ((repeat (with_reducible apply Dom.set)); exact hd), by simp only [Tr.get_set_ne, ne_eq, Nat.reduceEqDiff, not_false_eq_true, h0], by simp only [Tr.get_set_ne, ne_eq, Nat.reduceEqDiff, not_false_eq_true, h1], by simp only [Tr.get_set_ne, ne_eq, Nat.reduceEqDiff, not_false_eq_true, h5], ?_, by simp only [Tr.get_set_ne, ne_eq, Nat.reduceEqDiff, not_false_eq_true, h7], by simp only [Tr.get_set_ne, ne_eq, Nat.reduceEqDiff, not_false_eq_true, h8]⟩
        simp only [Tr.get_set_self, Tr.get_set_ne, hd _, ne_eq, Nat.reduceEqDiff, not_false_eq_true, decide_true, Nat.reduceLT]
        unfold lessN at hlb ⊢
        rw [hl, if_pos (by simpa using c), wrapF_small (by omega) (by omega)]; rfl
      · refine W_cond (b := false) (by simp only [PArg.eval, Tr.get_set_self, Tr.get_set_ne, hd _, ne_eq, Nat.reduceEqDiff, not_false_eq_true, decide_true, Nat.reduceLT, c, decide_false]; try rfl) (fun hb => by cases hb) (fun _ => W_skip ?_)
        refine ⟨rfl, rfl, by ((repeat (with_reducible apply Dom.set)); exact hd), by simp only [Tr.get_set_ne, ne_eq, Nat.reduceEqDiff, not_false_eq_true, h0], by simp only [Tr.get_set_ne, ne_eq, Nat.reduceEqDiff, not_false_eq_true, h1], by simp only [Tr.get_set_ne, ne_eq, Nat.reduceEqDiff, not_false_eq_true, h5], ?_, by simp only [Tr.get_set_ne, ne_eq, Nat.reduceEqDiff, not_false_eq_true, h7], by simp only [Tr.get_set_ne, ne_eq, Nat.reduceEqDiff, not_false_eq_true, h8]⟩
        simp only [Tr.get_set_ne, ne_eq, Nat.reduceEqDiff, not_false_eq_true, h6]
        unfold lessN
        rw [hl, if_neg (by simpa using c)]; rfl
    clear h0 h1 h5 h6 h7 h8 hd
    rintro x t3 M3 ⟨rfl, rfl, hd, h0, h1, h5, h6, h7, h8⟩
    show W _ _
    refine W_seq (W_mix rfl (by simp only [sameN_self, evalArgs_nil, evalArgs_tmp, putT, Tr.get_set_self, Tr.get_set_ne, hd _, ne_eq, Nat.reduceEqDiff, not_false_eq_true, decide_true, Nat.reduceLT, opI_move, opI_leq, runMix_nil, runMix_read, h0, h5, h8, p1, p2, o1, o2]; rfl) ?_)
    refine W.mono (Q := fun x t2 M4 => x = .normal ∧ M4 = M3 ∧ Dom t2 55 ∧ t2.get 0 = some v ∧ t2.get 1 = some (.int .i64 q) ∧ t2.get 5 = some (.int .i64 i) ∧ t2.get 6 = some (.int .i64 (lessN (xs.take (j + 1)) xs[i] : Nat)) ∧ t2.get 7 = some (.int .i64 (upToN (xs.take (j + 1)) xs[i] : Nat)) ∧ t2.get 8 = some (.int .i64 j)) ?_ ?_
    · by_cases c : xs[j] ≤ xs[i]
      · refine W_cond (b := true) (by simp only [PArg.eval, Tr.get_set_self, Tr.get_set_ne, hd _, ne_eq, Nat.reduceEqDiff, not_false_eq_true, decide_true, Nat.reduceLT, c]; try rfl) (fun _ => ?_) (fun hb => by cases hb)
        refine W_seqR (by simp only [runSeq_cons, runSeq_nil, evalArgs_nil, evalArgs_tmp, evalArgs_const, val1, putT, Tr.get_set_self, Tr.get_set_ne, hd _, ne_eq, Nat.reduceEqDiff, not_false_eq_true, decide_true, Nat.reduceLT, opI_move, opI_add, h7]; rfl) ⟨rfl, rfl, by ((repeat (with_reducible apply Dom.set)); exact hd), by simp only [Tr.get_set_ne, ne_eq, Nat.reduceEqDiff, not_false_eq_true, h0], by simp only [Tr.get_set_ne, ne_eq, Nat.reduceEqDiff, not_false_eq_true, h1], by simp only [Tr.get_set_ne, ne_eq, Nat.reduceEqDiff, not_false_eq_true, h5], by simp only [Tr.get_set_ne, ne_eq, Nat.reduceEqDiff, not_false_eq_true, h6], ?_, by simp only [Tr.get_set_ne, ne_eq, Nat.reduceEqDiff, not_false_eq_true, h8]⟩
        simp only [Tr.get_set_self, Tr.get_set_ne, hd _, ne_eq, Nat.reduceEqDiff, not_false_eq_true, decide_true, Nat.reduceLT]
        unfold upToN at hub ⊢
        rw [hu, if_pos (by simpa using c), wrapF_small (by omega) (by omega)]; rfl
      · refine W_cond (b := false) (by simp only [PArg.eval, Tr.get_set_self, Tr.get_set_ne, hd _, ne_eq, Nat.reduceEqDiff, not_false_eq_true, decide_true, Nat.reduceLT, c, decide_false]; try rfl) (fun hb => by cases hb) (fun _ => W_skip ?_)
        refine ⟨rfl, rfl, by ((repeat (with_reducible apply Dom.set)); exact hd), by simp only [Tr.get_set_ne, ne_eq, Nat.reduceEqDiff, not_false_eq_true, h0], by simp only [Tr.get_set_ne, ne_eq, Nat.reduceEqDiff, not_false_eq_true, h1], by simp only [Tr.get_set_ne, ne_eq, Nat.reduceEqDiff, not_false_eq_true, h5], by simp only [Tr.get_set_ne, ne_eq, Nat.reduceEqDiff, not_false_eq_true, h6], ?_, by simp only [Tr.get_set_ne, ne_eq, Nat.reduceEqDiff, not_false_eq_true, h8]⟩
        simp only [Tr.get_set_ne, ne_eq, Nat.reduceEqDiff, not_false_eq_true, h7]
        unfold upToN
        rw [hu, if_neg (by simpa using c)]; rfl
    clear h0 h1 h5 h6 h7 h8 hd
    rintro x t4 M4 ⟨rfl, rfl, hd, h0, h1, h5, h6, h7, h8⟩
    show W _ _
    refine W_seqR (by simp only [runSeq_cons, runSeq_nil, evalArgs_nil, evalArgs_tmp, evalArgs_const, val1, putT, Tr.get_set_self, Tr.get_set_ne, hd _, ne_eq, Nat.reduceEqDiff, not_false_eq_true, decide_true, Nat.reduceLT, opI_move, opI_add, h8]; rfl) ?_
    refine ⟨kk - 1, by omega, j + 1, by omega, rfl, by ((repeat (with_reducible apply Dom.set)); exact hd), by simp only [Tr.get_set_ne, ne_eq, Nat.reduceEqDiff, not_false_eq_true, h0], by simp only [Tr.get_set_ne, ne_eq, Nat.reduceEqDiff, not_false_eq_true, h1], by simp only [Tr.get_set_ne, ne_eq, Nat.reduceEqDiff, not_false_eq_true, h5], by simp only [Tr.get_set_ne, ne_eq, Nat.reduceEqDiff, not_false_eq_true, h6], by simp only [Tr.get_set_ne, ne_eq, Nat.reduceEqDiff, not_false_eq_true, h7], ?_⟩
    simp only [Tr.get_set_self, Tr.get_set_ne, hd _, ne_eq, Nat.reduceEqDiff, not_false_eq_true, decide_true, Nat.reduceLT]
    rw [wrapF_small (by omega) (by omega)]; rfl
  · refine W_exit ?_
    have hj : j = xs.length := by simp at hb; omega
    subst hj
    rw [List.take_length] at h6 h7
    show W _ _
    by_cases c1 : lessN xs xs[i] ≤ q
    · by_cases c2 : q < upToN xs xs[i]
      · have c1' : ((lessN xs xs[i] : Nat) : Int) ≤ (q : Int) := by omega
        have c2' : (q : Int) < ((upToN xs xs[i] : Nat) : Int) := by omega
        refine W_seq (W_seqR (by simp only [runSeq_cons, runSeq_nil, evalArgs_nil, evalArgs_tmp, evalArgs_const, val1, putT, Tr.get_set_self, Tr.get_set_ne, Tr.isSome_set, hd _, ne_eq, Nat.reduceEqDiff, not_false_eq_true, decide_true, Nat.reduceLT, opI_move, opI_lss, opI_leq, opI_pick, runSeq_guard (b := true), beq_self_eq_true, h1, h6, h7, c1', c2']; rfl) ?_)
        refine W_cond (b := true) (by simp only [PArg.eval, Tr.get_set_self, Tr.get_set_ne, hd _, ne_eq, Nat.reduceEqDiff, not_false_eq_true, decide_true, Nat.reduceLT]; try rfl) (fun _ => ?_) (fun hb => by cases hb)
        refine W_seq (W_seqR (by simp only [runSeq_cons, runSeq_nil, evalArgs_nil, evalArgs_tmp, val1, putT, Tr.get_set_self, Tr.get_set_ne, hd _, ne_eq, Nat.reduceEqDiff, not_false_eq_true, decide_true, Nat.reduceLT, opI_move, h0, h5, p1, p2]; rfl) (W_ret ?_))
        refine ⟨_, fin_tmp (by simp only [Tr.get_set_self, Tr.get_set_ne, hd _, ne_eq, Nat.reduceEqDiff, not_false_eq_true, decide_true, Nat.reduceLT]; try rfl), rfl, ?_⟩
        rw [isAt_unique ⟨c1, c2⟩ (atP_law hq).2]; rfl
      · have c1' : ((lessN xs xs[i] : Nat) : Int) ≤ (q : Int) := by omega
        have c2' : ¬ (q : Int) < ((upToN xs xs[i] : Nat) : Int) := by omega
        refine W_seq (W_seqR (by simp only [runSeq_cons, runSeq_nil, evalArgs_nil, evalArgs_tmp, evalArgs_const, val1, putT, Tr.get_set_self, Tr.get_set_ne, Tr.isSome_set, hd _, ne_eq, Nat.reduceEqDiff, not_false_eq_true, decide_true, Nat.reduceLT, opI_move, opI_lss, opI_leq, opI_pick, runSeq_guard (b := true), beq_self_eq_true, h1, h6, h7, c1', c2', decide_false]; rfl) ?_)
        refine W_cond (b := false) (by simp only [PArg.eval, Tr.get_set_self, Tr.get_set_ne, hd _, ne_eq, Nat.reduceEqDiff, not_false_eq_true, decide_true, Nat.reduceLT]; try rfl) (fun hb => by cases hb) (fun _ => W_skip ?_)
        show W _ _
        refine W_seqR (by simp only [runSeq_cons, runSeq_nil, evalArgs_nil, evalArgs_tmp, evalArgs_const, val1, putT, Tr.get_set_self, Tr.get_set_ne, hd _, ne_eq, Nat.reduceEqDiff, not_false_eq_true, decide_true, Nat.reduceLT, opI_move, opI_add, h5]; rfl) ?_
        refine ⟨k - 1, by omega, i + 1, by omega, rfl, fun j hj hji => ?_, by ((repeat (with_reducible apply Dom.set)); exact hd), by simp only [Tr.get_set_ne, ne_eq, Nat.reduceEqDiff, not_false_eq_true, h0], by simp only [Tr.get_set_ne, ne_eq, Nat.reduceEqDiff, not_false_eq_true, h1], ?_⟩
        · rcases Nat.lt_or_ge j i with h | h
          · exact hno j hj h
          · obtain rfl : j = i := by omega
            exact fun h => c2 h.2
        · simp only [Tr.get_set_self, Tr.get_set_ne, hd _, ne_eq, Nat.reduceEqDiff, not_false_eq_true, decide_true, Nat.reduceLT]
          rw [wrapF_small (by omega) (by omega)]; rfl
    · have c1' : ¬ ((lessN xs xs[i] : Nat) : Int) ≤ (q : Int) := by omega
      refine W_seq (W_seqR (by simp only [runSeq_cons, runSeq_nil, evalArgs_nil, evalArgs_tmp, evalArgs_const, val1, putT, Tr.get_set_self, Tr.get_set_ne, Tr.isSome_set, hd _, ne_eq, Nat.reduceEqDiff, not_false_eq_true, decide_true, Nat.reduceLT, opI_move, opI_leq, opI_pick, runSeq_guard (b := false), Bool.false_beq, Bool.not_true, h1, h6, c1', decide_false]; rfl) ?_)
      refine W_cond (b := false) (by simp only [PArg.eval, Tr.get_set_self, Tr.get_set_ne, hd _, ne_eq, Nat.reduceEqDiff, not_false_eq_true, decide_true, Nat.reduceLT]; try rfl) (fun hb => by cases hb) (fun _ => W_skip ?_)
      show W _ _
      refine W_seqR (by simp only [runSeq_cons, runSeq_nil, evalArgs_nil, evalArgs_tmp, evalArgs_const, val1, putT, Tr.get_set_self, Tr.get_set_ne, hd _, ne_eq, Nat.reduceEqDiff, not_false_eq_true, decide_true, Nat.reduceLT, opI_move, opI_add, h5]; rfl) ?_
      refine ⟨k - 1, by omega, i + 1, by omega, rfl, fun j hj hji => ?_, by ((repeat (with_reducible apply Dom.set)); exact hd), by simp only [Tr.get_set_ne, ne_eq, Nat.reduceEqDiff, not_false_eq_true, h0], by simp only [Tr.get_set_ne, ne_eq, Nat.reduceEqDiff, not_false_eq_true, h1], ?_⟩
      · rcases Nat.lt_or_ge j i with h | h
        · exact hno j hj h
        · obtain rfl : j = i := by omega
          exact fun h => c1 h.1
      · simp only [Tr.get_set_self, Tr.get_set_ne, hd _, ne_eq, Nat.reduceEqDiff, not_false_eq_true, decide_true, Nat.reduceLT]
        rw [wrapF_small (by omega) (by omega)]; rfl
end Go.Proofs.Ytoddncakdnmloaa.stats
/- The walks of what numbers come to: the program's, and the document's. -/
namespace Go.Proofs.Ytoddncakdnmloaa.stats
open Go Go.Vx

def sumL (xs : List Int) : Int := xs.foldr (· + ·) 0
theorem sumL_perm {a b : List Int} (h : a.Perm b) : sumL a = sumL b := by
  unfold sumL
  induction h with
  | nil => rfl
  | cons x _ ih => simp only [List.foldr_cons, ih]
  | swap x y l => simp only [List.foldr_cons]; omega
  | trans _ _ ih1 ih2 => exact ih1.trans ih2
theorem sumL_append (a b : List Int) : sumL (a ++ b) = sumL a + sumL b := by
  unfold sumL
  induction a with
  | nil => simp
  | cons x a ih => simp only [List.cons_append, List.foldr_cons, ih]; omega
theorem sumL_succ {xs : List Int} {i : Nat} (h : i < xs.length) : sumL (xs.take (i + 1)) = sumL (xs.take i) + xs[i] := by
  rw [List.take_succ_eq_append_getElem h, sumL_append]
  simp [sumL]
/-- numbers that may be -/
def Fit (xs : List Int) : Prop := ∀ y ∈ xs, 0 ≤ y ∧ y ≤ 2147483647
instance (xs : List Int) : Decidable (Fit xs) := by unfold Fit; exact inferInstance
theorem sumL_bd {xs : List Int} (h : Fit xs) : 0 ≤ sumL xs ∧ sumL xs ≤ xs.length * 2147483647 := by
  induction xs with
  | nil => simp [sumL]
  | cons x xs ih =>
    have h1 := h x List.mem_cons_self
    have h2 := ih (fun y hy => h y (List.mem_cons_of_mem _ hy))
    have : sumL (x :: xs) = x + sumL xs := rfl
    rw [this, List.length_cons]
    omega
abbrev six (a b c e f g : Int) : List AV := [.int .i64 a, .int .i64 b, .int .i64 c, .int .i64 e, .int .i64 f, .int .i64 g]
theorem six_one {a b c e f g : Int} : (six a b c e f g).all AV.one = true := rfl
/-- what numbers come to -/
def ofP (xs : List Int) : List AV :=
  if xs.length = 0 ∨ xs.length > 65536 ∨ ¬ Fit xs then six 0 0 0 0 0 0
  else six xs.length (sumL xs) (atP xs 0) (atP xs (xs.length - 1)) (atP xs ((xs.length - 1) / 2)) (atP xs (9 * (xs.length - 1) / 10))
theorem idx_own {b n c i : Nat} {gr : Bool} {M : AMem} (h : i < n) : opI (.indexAddrS 1) [.slice (some (b, 0)) n c gr, .int .i64 (i : Int)] M = some (.val (.ptr (some (b, i))) M) := by
  simp only [opI]
  rw [if_pos ⟨by omega, by omega⟩]
  simp
theorem quoN {a b : Nat} {M : AMem} (hb : b ≠ 0) (ha : a < 1000000) : opI (.bin .quo) [.int .i64 (a : Int), .int .i64 (b : Int)] M = some (.val (.int .i64 ((a / b : Nat) : Int)) M) := by
  have hd : a / b ≤ a := Nat.div_le_self _ _
  have hb' : ¬ ((b : Int) = 0) := by omega
  have he : (a : Int).tdiv (b : Int) = ((a / b : Nat) : Int) := (Int.ofNat_tdiv a b).symm
  simp only [opI, binI, intI, if_true, hb', if_false, he]
  generalize a / b = c at hd
  rw [wrapF_small (by omega) (by omega)]
theorem opI_mul {k : IntKind} {a b : Int} {M : AMem} : opI (.bin .mul) [.int k a, .int k b] M = some (.val (.int k (wrapF k (a * b))) M) := by
  simp [opI, binI, intI]
set_option maxHeartbeats 1000000 in
theorem values_ok {v : AV} (d : Nat) (M : AMem) (hone : v.cells = [v]) :
    callF tbl code 100000 (d + 1) 23 [v] M = some (.func (.func 37) [] [.ptr (some (M.n, 0))], M.push (.cells [v] 0 true none)) := by
  refine Ans.eq ?_
  refine Ans_of (tbl_none (by decide) _) (show code 23 = some c23 from by kernel_rfl) (by simp) fun t hd ha => ?_
  have h0 := ha 0 _ rfl
  clear ha
  refine W_seq (W_seqR (by simp only [runSeq_cons, runSeq_nil, evalArgs_nil, evalArgs_tmp, evalArgs_const, val1, putT, opI_move, opI_box, h0, hone]; rfl) (W_seq (W_seqR (by simp only [runSeq_cons, runSeq_nil, evalArgs_nil, evalArgs_tmp, val1, putT, Tr.get_set_self, Tr.get_set_ne, hd _, ne_eq, Nat.reduceEqDiff, not_false_eq_true, decide_true, Nat.reduceLT, opI_move, opI_mkFunc]; rfl) (W_ret ?_))))
  exact ⟨_, fin_tmp (by simp only [Tr.get_set_self, Tr.get_set_ne, Tr.isSome_set, Option.isSome_some, hd _, ne_eq, Nat.reduceEqDiff, not_false_eq_true, decide_true, Nat.reduceLT]; try rfl), rfl, rfl⟩
theorem sorted_ok {v : AV} {xs : List Int} (d : Nat) (M : AMem) (hok : Okg M) (hv : IRow M .i64 v xs) (h1 : 1 ≤ xs.length) (hn : xs.length < 100000) :
    callF tbl code 100000 (d + 1) 22 [.func (.func 37) [] [.ptr (some (M.n, 0))]] (M.push (.cells [v] 0 true none)) = some (.slice (some (M.n + 1, 0)) xs.length xs.length true, (M.push (.cells [v] 0 true none)).push (.cells ((sortI xs).map (AV.int .i64 ·)) 1 true none)) := by
  have hg := get_push_self (k := .cells [v] 0 true none) hok.1
  have hl : (M.push (.cells [v] 0 true none)).loadCells M.n 0 1 = some [v] := by
    unfold AMem.loadCells
    rw [hg]; rfl
  have hi := (hv.grow (Grow.push hok.1 (.cells [v] 0 true none))).ints
  have ht : tbl 22 [.func (.func 37) [] [.ptr (some (M.n, 0))]] (M.push (.cells [v] 0 true none)) = some (.slice (some (M.n + 1, 0)) xs.length xs.length true, (M.push (.cells [v] 0 true none)).push (.cells ((sortI xs).map (AV.int .i64 ·)) 1 true none)) := by
    unfold tbl tbl0 srt sortedX
    simp only [if_neg (show ¬ (22 : Nat) = 6 by decide), if_true, hl, hi]
    cases xs with
    | nil => simp at h1
    | cons z r =>
      simp only [List.length_cons] at hn
      simp only [if_pos (show r.length < 1000000 by omega), push_n, List.length_cons]
  simp only [callF, ht]
end Go.Proofs.Ytoddncakdnmloaa.stats
/- The walk of the program's Of. -/
namespace Go.Proofs.Ytoddncakdnmloaa.stats
open Go Go.Vx

set_option maxRecDepth 20000 in
set_option maxHeartbeats 4000000 in
theorem of_ok {v : AV} {xs : List Int} (d : Nat) (M0 : AMem) (hok : Okg M0) (hv0 : IRow M0 .i64 v xs) (hn : xs.length < 100000) :
    Ans (callF tbl code 100000 (d + 2)) 8 [v] M0 fun r M' => Step M0 M' ∧ r = .agg (ofP xs) := by
  refine Ans_of (tbl_none (by decide) _) (show code 8 = some c8 from by kernel_rfl) (by simp) fun t hd ha => ?_
  have h0 := ha 0 _ rfl
  clear ha
  have s1 := (Step.refl hok).push (k := .cells (six 0 0 0 0 0 0) 0 true none) (fun _ _ _ _ he => by cases he)
  have g1 := get_push_self (k := .cells (six 0 0 0 0 0 0) 0 true none) hok.1
  have hv := hv0.grow s1.grow
  have hM1n : (M0.push (.cells (six 0 0 0 0 0 0) 0 true none)).n = M0.n + 1 := rfl
  refine W_seq (W_seqR (by simp only [runSeq_cons, runSeq_nil, evalArgs_nil, val1, putT, opI_new]; rfl) ?_)
  generalize M0.push (.cells (six 0 0 0 0 0 0) 0 true none) = M1 at *
  have lv := hv.len
  -- it is no number's
  have out : ∀ (t' : Tr AV), ofP xs = six 0 0 0 0 0 0 → Dom t' 68 → t'.get 2 = some (.ptr (some (M0.n, 0))) →
      W (exec (callF tbl code 100000 (d + 1)) 100000 (.seq (.seqR [⟨(.build [(.int .i64 0), (.int .i64 0), (.int .i64 0), (.int .i64 0), (.int .i64 0), (.int .i64 0)] []), [], (some 26), none⟩, ⟨(.store 6), [.tmp 2, .tmp 26], none, none⟩]) .ret) t' M1)
        fun x t2 M2 => x = .ret ∧ Step M0 M2 ∧ resIs t2 M2 [.cell 2 true 6] = some [.agg (ofP xs)] := by
    intro t' hof hd h2
    obtain ⟨e, s2, g2, _⟩ := store_all (n := 6) (new := six 0 0 0 0 0 0) s1 (Nat.le_refl _) g1 rfl rfl rfl
    have eb : opI (.build [(.int .i64 0), (.int .i64 0), (.int .i64 0), (.int .i64 0), (.int .i64 0), (.int .i64 0)] []) [] M1 = some (.val (.agg (six 0 0 0 0 0 0)) M1) := rfl
    refine W_seq (W_seqR (by simp only [runSeq_cons, runSeq_nil, evalArgs_nil, evalArgs_tmp, val1, putT, Tr.get_set_self, Tr.get_set_ne, hd _, ne_eq, Nat.reduceEqDiff, not_false_eq_true, decide_true, Nat.reduceLT, h2, eb, e]; rfl) (W_ret ?_))
    refine ⟨rfl, s2, ?_⟩
    rw [hof]
    exact fin_cell (by simp only [Tr.get_set_ne, ne_eq, Nat.reduceEqDiff, not_false_eq_true, h2]) g2 rfl
  by_cases c1 : (xs.length : Int) = 0
  · have c1' : ((xs.length : Int) == 0) = true := by simpa using c1
    refine W_seq (W_seq (W_seqR (by simp only [runSeq_cons, runSeq_nil, evalArgs_nil, evalArgs_tmp, evalArgs_const, val1, putT, Tr.get_set_self, Tr.get_set_ne, Tr.isSome_set, hd _, ne_eq, Nat.reduceEqDiff, not_false_eq_true, decide_true, Nat.reduceLT, opI_move, opI_eql, opI_pick, runSeq_guard (b := true), Bool.true_beq, h0, lv, c1']; rfl) ?_))
    refine W_cond (b := true) (by simp only [PArg.eval, Tr.get_set_self, Tr.get_set_ne, hd _, ne_eq, Nat.reduceEqDiff, not_false_eq_true, decide_true, Nat.reduceLT]; try rfl) (fun _ => ?_) (fun hb => by cases hb)
    refine (out _ (by unfold ofP; rw [if_pos (.inl (by omega))]) (by ((repeat (with_reducible apply Dom.set)); exact hd)) (by simp only [Tr.get_set_self, Tr.get_set_ne, hd _, ne_eq, Nat.reduceEqDiff, not_false_eq_true, decide_true, Nat.reduceLT])).mono ?_
    rintro x t2 M2 ⟨rfl, s2, hr⟩
    exact ⟨_, hr, s2, rfl⟩
  have c1' : ((xs.length : Int) == 0) = false := by simpa using c1
  by_cases c2 : (xs.length : Int) > 65536
  · refine W_seq (W_seq (W_seqR (by simp only [runSeq_cons, runSeq_nil, evalArgs_nil, evalArgs_tmp, evalArgs_const, val1, putT, Tr.get_set_self, Tr.get_set_ne, Tr.isSome_set, hd _, ne_eq, Nat.reduceEqDiff, not_false_eq_true, decide_true, Nat.reduceLT, opI_move, opI_gtr, opI_eql, opI_pick, runSeq_guard (b := true), runSeq_guard (b := false), beq_self_eq_true, Bool.true_beq, h0, lv, c1', c2]; rfl) ?_))
    refine W_cond (b := true) (by simp only [PArg.eval, Tr.get_set_self, Tr.get_set_ne, hd _, ne_eq, Nat.reduceEqDiff, not_false_eq_true, decide_true, Nat.reduceLT]; try rfl) (fun _ => ?_) (fun hb => by cases hb)
    refine (out _ (by unfold ofP; rw [if_pos (.inr (.inl (by omega)))]) (by ((repeat (with_reducible apply Dom.set)); exact hd)) (by simp only [Tr.get_set_self, Tr.get_set_ne, hd _, ne_eq, Nat.reduceEqDiff, not_false_eq_true, decide_true, Nat.reduceLT])).mono ?_
    rintro x t2 M2 ⟨rfl, s2, hr⟩
    exact ⟨_, hr, s2, rfl⟩
  obtain ⟨_, _, cm, hM, mn, rfl, mn1, mn2⟩ := min_ok d M1 hv (by omega) hn
  rw [hM] at cm
  clear hM
  by_cases c3 : mn < 0
  · refine W_seq (W_seq (W_seqR (by simp only [runSeq_cons, runSeq_nil, evalArgs_nil, evalArgs_tmp, evalArgs_const, val1, putT, Tr.get_set_self, Tr.get_set_ne, Tr.isSome_set, hd _, ne_eq, Nat.reduceEqDiff, not_false_eq_true, decide_true, Nat.reduceLT, opI_move, opI_lss, opI_gtr, opI_eql, opI_callF, opI_pick, runSeq_guard (b := true), runSeq_guard (b := false), beq_self_eq_true, Bool.true_beq, h0, lv, c1', c2, cm, c3, decide_false]; rfl) ?_))
    refine W_cond (b := true) (by simp only [PArg.eval, Tr.get_set_self, Tr.get_set_ne, hd _, ne_eq, Nat.reduceEqDiff, not_false_eq_true, decide_true, Nat.reduceLT]; try rfl) (fun _ => ?_) (fun hb => by cases hb)
    refine (out _ (by unfold ofP; rw [if_pos (.inr (.inr fun h => by have := (h mn mn1).1; omega))]) (by ((repeat (with_reducible apply Dom.set)); exact hd)) (by simp only [Tr.get_set_self, Tr.get_set_ne, hd _, ne_eq, Nat.reduceEqDiff, not_false_eq_true, decide_true, Nat.reduceLT])).mono ?_
    rintro x t2 M2 ⟨rfl, s2, hr⟩
    exact ⟨_, hr, s2, rfl⟩
  obtain ⟨_, _, cx, hM, mx, rfl, mx1, mx2⟩ := max_ok d M1 hv (by omega) hn
  rw [hM] at cx
  clear hM
  by_cases c4 : mx > 2147483647
  · refine W_seq (W_seq (W_seqR (by simp only [runSeq_cons, runSeq_nil, evalArgs_nil, evalArgs_tmp, evalArgs_const, val1, putT, Tr.get_set_self, Tr.get_set_ne, Tr.isSome_set, hd _, ne_eq, Nat.reduceEqDiff, not_false_eq_true, decide_true, Nat.reduceLT, opI_move, opI_lss, opI_gtr, opI_eql, opI_callF, opI_pick, runSeq_guard (b := false), beq_self_eq_true, h0, lv, c1', c2, cm, c3, cx, c4, decide_false]; rfl) ?_))
    refine W_cond (b := true) (by simp only [PArg.eval, Tr.get_set_self, Tr.get_set_ne, hd _, ne_eq, Nat.reduceEqDiff, not_false_eq_true, decide_true, Nat.reduceLT]; try rfl) (fun _ => ?_) (fun hb => by cases hb)
    refine (out _ (by unfold ofP; rw [if_pos (.inr (.inr fun h => by have := (h mx mx1).2; omega))]) (by ((repeat (with_reducible apply Dom.set)); exact hd)) (by simp only [Tr.get_set_self, Tr.get_set_ne, hd _, ne_eq, Nat.reduceEqDiff, not_false_eq_true, decide_true, Nat.reduceLT])).mono ?_
    rintro x t2 M2 ⟨rfl, s2, hr⟩
    exact ⟨_, hr, s2, rfl⟩
  have hfit : Fit xs := fun y hy => ⟨by have := mn2 y hy; omega, by have := mx2 y hy; omega⟩
  have hof : ofP xs = six xs.length (sumL xs) (atP xs 0) (atP xs (xs.length - 1)) (atP xs ((xs.length - 1) / 2)) (atP xs (9 * (xs.length - 1) / 10)) := by
    unfold ofP
    rw [if_neg]
    rintro (h | h | h)
    · omega
    · omega
    · exact h hfit
  refine W_seq (W_seq (W_seqR (by simp only [runSeq_cons, runSeq_nil, evalArgs_nil, evalArgs_tmp, evalArgs_const, val1, putT, Tr.get_set_self, Tr.get_set_ne, Tr.isSome_set, hd _, ne_eq, Nat.reduceEqDiff, not_false_eq_true, decide_true, Nat.reduceLT, opI_move, opI_lss, opI_gtr, opI_eql, opI_callF, opI_pick, runSeq_guard (b := false), beq_self_eq_true, h0, lv, c1', c2, cm, c3, cx, c4, decide_false]; rfl) ?_))
  refine W_cond (b := false) (by simp only [PArg.eval, Tr.get_set_self, Tr.get_set_ne, hd _, ne_eq, Nat.reduceEqDiff, not_false_eq_true, decide_true, Nat.reduceLT]; try rfl) (fun hb => by cases hb) (fun _ => W_skip ?_)
  show W _ _
  clear out cm cx mn1 mn2 mx1 mx2 c3 c4
  have cv := values_ok d M1 hv.one2.2
  have cs := sorted_ok d M1 s1.ok hv (by omega) hn
  have s2 := s1.push (k := .cells [v] 0 true none) (fun _ _ _ _ he => by cases he)
  have s3 := s2.push (k := .cells ((sortI xs).map (AV.int .i64 ·)) 1 true none) (fun _ _ _ _ he => by cases he)
  have gs := get_push_self (k := .cells ((sortI xs).map (AV.int .i64 ·)) 1 true none) s2.ok.1
  have g3 := ((get_push_old (k := .cells ((sortI xs).map (AV.int .i64 ·)) 1 true none) s2.ok.1 (show M0.n < (M1.push (.cells [v] 0 true none)).n by rw [push_n]; omega)).trans (get_push_old s1.ok.1 (by omega))).trans g1
  simp only [push_n] at gs
  refine W_seq (W_seqR (by simp only [runSeq_cons, runSeq_nil, evalArgs_nil, evalArgs_tmp, val1, putT, Tr.get_set_self, Tr.get_set_ne, hd _, ne_eq, Nat.reduceEqDiff, not_false_eq_true, decide_true, Nat.reduceLT, opI_move, opI_callF, h0, cv, cs]; rfl) ?_)
  have hMn : ((M1.push (.cells [v] 0 true none)).push (.cells ((sortI xs).map (AV.int .i64 ·)) 1 true none)).n = M1.n + 2 := rfl
  generalize (M1.push (.cells [v] 0 true none)).push (.cells ((sortI xs).map (AV.int .i64 ·)) 1 true none) = M3 at *
  refine W_seq (W_seqR (by simp only [runSeq_cons, runSeq_nil, evalArgs_nil, evalArgs_tmp, val1, putT, Tr.get_set_self, Tr.get_set_ne, hd _, ne_eq, Nat.reduceEqDiff, not_false_eq_true, decide_true, Nat.reduceLT, opI_move, opI_lenO]; rfl) ?_)
  have hsl := sortI_len xs
  have w1 : wrapF .i64 ((xs.length : Int) - 1) = ((xs.length - 1 : Nat) : Int) := by rw [wrapF_small (by omega) (by omega)]; omega
  have w9 : wrapF .i64 (9 * ((xs.length - 1 : Nat) : Int)) = ((9 * (xs.length - 1) : Nat) : Int) := by rw [wrapF_small (by omega) (by omega)]; omega
  have q2 : ∀ M, opI (.bin .quo) [.int .i64 ((xs.length - 1 : Nat) : Int), .int .i64 2] M = some (.val (.int .i64 (((xs.length - 1) / 2 : Nat) : Int)) M) := fun M => quoN (b := 2) (by decide) (by omega)
  have q10 : ∀ M, opI (.bin .quo) [.int .i64 ((9 * (xs.length - 1) : Nat) : Int), .int .i64 10] M = some (.val (.int .i64 ((9 * (xs.length - 1) / 10 : Nat) : Int)) M) := fun M => quoN (b := 10) (by decide) (by omega)
  have I0 : ∀ M, opI (.indexAddrS 1) [.slice (some (M1.n + 1, 0)) xs.length xs.length true, .int .i64 0] M = some (.val (.ptr (some (M1.n + 1, 0))) M) := fun M => idx_own (i := 0) (by omega)
  have I1 : ∀ M, opI (.indexAddrS 1) [.slice (some (M1.n + 1, 0)) xs.length xs.length true, .int .i64 ((xs.length - 1 : Nat) : Int)] M = some (.val (.ptr (some (M1.n + 1, xs.length - 1))) M) := fun M => idx_own (by omega)
  have I2 : ∀ M, opI (.indexAddrS 1) [.slice (some (M1.n + 1, 0)) xs.length xs.length true, .int .i64 (((xs.length - 1) / 2 : Nat) : Int)] M = some (.val (.ptr (some (M1.n + 1, (xs.length - 1) / 2))) M) := fun M => idx_own (by omega)
  have I3 : ∀ M, opI (.indexAddrS 1) [.slice (some (M1.n + 1, 0)) xs.length xs.length true, .int .i64 ((9 * (xs.length - 1) / 10 : Nat) : Int)] M = some (.val (.ptr (some (M1.n + 1, 9 * (xs.length - 1) / 10))) M) := fun M => idx_own (by omega)
  have cell : ∀ i, i < xs.length → ((sortI xs).map (AV.int .i64 ·))[i]? = some (.int .i64 (atP xs i)) := fun i hi => by
    unfold atP
    rw [List.getElem?_map, List.getD_eq_getElem?_getD, List.getElem?_eq_getElem (by omega)]; rfl
  have LD : ∀ M i, M.get (M1.n + 1) = some (.cells ((sortI xs).map (AV.int .i64 ·)) 1 true none) → i < xs.length → opI (.load false 1) [.ptr (some (M1.n + 1, i))] M = some (.val (.int .i64 (atP xs i)) M) := fun M i hg hi => load_own hg (cell i hi)
  have s4 := s3.push (k := .cells (six 0 0 0 0 0 0) 0 true none) (fun _ _ _ _ he => by cases he)
  have gb := get_push_self (k := .cells (six 0 0 0 0 0 0) 0 true none) s3.ok.1
  have gs4 := (get_push_old (k := .cells (six 0 0 0 0 0 0) 0 true none) s3.ok.1 (show M1.n + 1 < M3.n by omega)).trans gs
  have g4 := (get_push_old (k := .cells (six 0 0 0 0 0 0) 0 true none) s3.ok.1 (show M0.n < M3.n by omega)).trans g3
  obtain ⟨e5, s5, g5, k5⟩ := store_all (n := 6) (new := six xs.length 0 (atP xs 0) (atP xs (xs.length - 1)) (atP xs ((xs.length - 1) / 2)) (atP xs (9 * (xs.length - 1) / 10))) s4 (show M0.n ≤ M3.n by omega) gb rfl rfl rfl
  have eb : ∀ (a b c e f : Int) M, opI (.build [(.int .i64 0), (.int .i64 0), (.int .i64 0), (.int .i64 0), (.int .i64 0), (.int .i64 0)] [(0, 1), (2, 1), (3, 1), (4, 1), (5, 1)]) [.int .i64 a, .int .i64 b, .int .i64 c, .int .i64 e, .int .i64 f] M = some (.val (.agg (six a 0 b c e f)) M) := fun _ _ _ _ _ _ => rfl
  have n0 := held_none s3.ok.1
  have n1 : isHeld ((M3.push (.cells (six 0 0 0 0 0 0) 0 true none)).get M3.n) = false := by rw [gb]; rfl
  have A0 := LD M3 0 gs (by omega)
  have A1 := LD M3 (xs.length - 1) gs (by omega)
  have A2 := LD M3 ((xs.length - 1) / 2) gs (by omega)
  have A3 := LD M3 (9 * (xs.length - 1) / 10) gs (by omega)
  have B0 := LD _ 0 gs4 (by omega)
  have B1 := LD _ (xs.length - 1) gs4 (by omega)
  have B2 := LD _ ((xs.length - 1) / 2) gs4 (by omega)
  have B3 := LD _ (9 * (xs.length - 1) / 10) gs4 (by omega)
  refine W_seq (W_trace (M' := (M3.push (.cells (six 0 0 0 0 0 0) 0 true none)).set M3.n (.cells (six xs.length 0 (atP xs 0) (atP xs (xs.length - 1)) (atP xs ((xs.length - 1) / 2)) (atP xs (9 * (xs.length - 1) / 10))) 0 true none)) rfl (by simp only [sameN_self, evalArgs_nil, evalArgs_tmp, evalArgs_const, val1, putT, Tr.get_set_self, Tr.get_set_ne, hd _, ne_eq, Nat.reduceEqDiff, not_false_eq_true, decide_true, Nat.reduceLT, opI_move, opI_sub, opI_new, trace_nil, trace_read, trace_eff, addR_some, addE_some, Bool.false_and, Bool.and_true, Bool.not_false, I0, I1, I2, I3, w1, w9, q2, q10, opI_mul, A0, A1, A2, A3, eb, e5, n0, n1]; rfl) (by simp [checkRec, isLoad, sameAt, A0, A1, A2, A3, B0, B1, B2, B3, AV.beq]) rfl ?_)
  have hM5n : ((M3.push (.cells (six 0 0 0 0 0 0) 0 true none)).set M3.n (.cells (six xs.length 0 (atP xs 0) (atP xs (xs.length - 1)) (atP xs ((xs.length - 1) / 2)) (atP xs (9 * (xs.length - 1) / 10))) 0 true none)).n = M3.n + 1 := rfl
  have gs5 := (k5 (M1.n + 1) (by omega)).trans gs4
  have g5' := (k5 M0.n (by omega)).trans g4
  clear A0 A1 A2 A3 B0 B1 B2 B3 n0 n1 eb e5 k5 gb gs4 g4 s4
  generalize (M3.push (.cells (six 0 0 0 0 0 0) 0 true none)).set M3.n (.cells (six xs.length 0 (atP xs 0) (atP xs (xs.length - 1)) (atP xs ((xs.length - 1) / 2)) (atP xs (9 * (xs.length - 1) / 10))) 0 true none) = M5 at *
  have hfS : Fit (sortI xs) := fun y hy => hfit y ((sortI_perm xs).mem_iff.1 hy)
  refine W_seq (W_seq (W_seqR (by simp only [runSeq_cons, runSeq_nil, evalArgs_nil, evalArgs_tmp, evalArgs_const, val1, putT, Tr.get_set_self, Tr.get_set_ne, hd _, ne_eq, Nat.reduceEqDiff, not_false_eq_true, decide_true, Nat.reduceLT, opI_move, opI_lenO]; rfl) (W_block (W_loop (fun k t M' => ∃ (i : Nat), k + i = xs.length ∧ Step M0 M' ∧ M'.get (M1.n + 1) = some (.cells ((sortI xs).map (AV.int .i64 ·)) 1 true none) ∧ M'.get M0.n = some (.cells (six 0 0 0 0 0 0) 0 true none) ∧ M'.get M3.n = some (.cells (six xs.length (sumL ((sortI xs).take i)) (atP xs 0) (atP xs (xs.length - 1)) (atP xs ((xs.length - 1) / 2)) (atP xs (9 * (xs.length - 1) / 10))) 0 true none) ∧ Dom t 68 ∧ t.get 2 = some (.ptr (some (M0.n, 0))) ∧ t.get 5 = some (.ptr (some (M3.n, 0))) ∧ t.get 55 = some (.slice (some (M1.n + 1, 0)) xs.length xs.length true) ∧ t.get 56 = some (.int .i64 xs.length) ∧ t.get 57 = some (.int .i64 i)) (k := xs.length) (by omega) ?_ ?_))))
  · exact ⟨0, rfl, s5, gs5, g5', g5, by ((repeat (with_reducible apply Dom.set)); exact hd), by simp only [Tr.get_set_self, Tr.get_set_ne, hd _, ne_eq, Nat.reduceEqDiff, not_false_eq_true, decide_true, Nat.reduceLT], by simp only [Tr.get_set_self, Tr.get_set_ne, hd _, ne_eq, Nat.reduceEqDiff, not_false_eq_true, decide_true, Nat.reduceLT], by simp only [Tr.get_set_self, Tr.get_set_ne, hd _, ne_eq, Nat.reduceEqDiff, not_false_eq_true, decide_true, Nat.reduceLT], by simp only [Tr.get_set_self, Tr.get_set_ne, hd _, ne_eq, Nat.reduceEqDiff, not_false_eq_true, decide_true, Nat.reduceLT], by simp only [Tr.get_set_self, Tr.get_set_ne, hd _, ne_eq, Nat.reduceEqDiff, not_false_eq_true, decide_true, Nat.reduceLT]; try rfl⟩
  clear h0 hd g5 gs5 g5' s5 t
  intro k t M' ⟨i, hk, st, gS, gR, gB, hd, h2, h5, h55, h56, h57⟩
  refine W_seq (W_seqR (by simp only [runSeq_cons, runSeq_nil, evalArgs_nil, evalArgs_tmp, val1, putT, opI_lss, h56, h57]; rfl) (W_seq ?_))
  refine W_cond (by simp only [PArg.eval, Tr.get_set_self, hd _, decide_true, Nat.reduceLT]; rfl) (fun hb => W_skip ?_) (fun hb => ?_)
  rotate_left
  · refine W_exit ?_
    have hi : i = xs.length := by simp at hb; omega
    have hall : (sortI xs).take i = sortI xs := List.take_of_length_le (by omega)
    rw [hall, sumL_perm (sortI_perm xs)] at gB
    show W _ _
    have L6 := loads_own (o := 0) (n := 6) gB (by simp)
    simp only [List.drop_zero, List.take_succ_cons, List.take_zero] at L6
    obtain ⟨e6, s6, g6, _⟩ := store_all (n := 6) (new := six xs.length (sumL xs) (atP xs 0) (atP xs (xs.length - 1)) (atP xs ((xs.length - 1) / 2)) (atP xs (9 * (xs.length - 1) / 10))) st (Nat.le_refl _) gR rfl rfl rfl
    refine W_seq (W_seqR (by simp only [runSeq_cons, runSeq_nil, evalArgs_nil, evalArgs_tmp, val1, putT, Tr.get_set_self, Tr.get_set_ne, hd _, ne_eq, Nat.reduceEqDiff, not_false_eq_true, decide_true, Nat.reduceLT, h2, h5, L6, e6]; rfl) (W_ret ?_))
    exact ⟨_, fin_cell (by simp only [Tr.get_set_ne, ne_eq, Nat.reduceEqDiff, not_false_eq_true, h2]) g6 rfl, s6, by rw [hof]; rfl⟩
  have hin : i < xs.length := by simpa using hb
  have hss := sumL_succ (xs := sortI xs) (i := i) (by omega)
  have hbd := sumL_bd (xs := (sortI xs).take i) (fun y hy => hfS y (List.mem_of_mem_take hy))
  rw [List.length_take] at hbd
  have hx := hfS _ (List.getElem_mem (l := sortI xs) (n := i) (by omega))
  have Ii := idx_own (b := M1.n + 1) (c := xs.length) (gr := true) (M := M') hin
  have Li := load_own (o := i) (v := .int .i64 ((sortI xs)[i]'(by omega))) gS (by rw [List.getElem?_map, List.getElem?_eq_getElem (by omega)]; rfl)
  have L1 := load_own (o := 1) gB rfl
  obtain ⟨e6, s6, g6, k6⟩ := store1 (o := 1) (x := .int .i64 (sumL ((sortI xs).take i) + (sortI xs)[i]'(by omega))) st (show M0.n ≤ M3.n by omega) gB ⟨rfl, rfl⟩ (by simp)
  have hw : wrapF .i64 (sumL ((sortI xs).take i) + (sortI xs)[i]'(by omega)) = sumL ((sortI xs).take i) + (sortI xs)[i]'(by omega) := wrapF_small (by omega) (by omega)
  refine W_seq (W_block (W_seq (W_seqR (by simp only [runSeq_cons, runSeq_nil, evalArgs_nil, evalArgs_tmp, val1, putT, Tr.get_set_self, Tr.get_set_ne, hd _, ne_eq, Nat.reduceEqDiff, not_false_eq_true, decide_true, Nat.reduceLT, opI_move, h55, h57, Ii, Li]; rfl) ?_)))
  refine W_seqR (by simp only [runSeq_cons, runSeq_nil, evalArgs_nil, evalArgs_tmp, val1, putT, Tr.get_set_self, Tr.get_set_ne, hd _, ne_eq, Nat.reduceEqDiff, not_false_eq_true, decide_true, Nat.reduceLT, opI_move, opI_add, opI_fieldP, Nat.zero_add, h5, L1, hw, e6]; rfl) ?_
  show W _ _
  refine W_seqR (by simp only [runSeq_cons, runSeq_nil, evalArgs_nil, evalArgs_tmp, evalArgs_const, val1, putT, Tr.get_set_self, Tr.get_set_ne, hd _, ne_eq, Nat.reduceEqDiff, not_false_eq_true, decide_true, Nat.reduceLT, opI_move, opI_add, h57]; rfl) ?_
  refine ⟨k - 1, by omega, i + 1, by omega, s6, (k6 _ (by omega)).trans gS, (k6 _ (by omega)).trans gR, by rw [hss]; exact g6, by ((repeat (with_reducible apply Dom.set)); exact hd), by simp only [Tr.get_set_ne, ne_eq, Nat.reduceEqDiff, not_false_eq_true, h2], by simp only [Tr.get_set_ne, ne_eq, Nat.reduceEqDiff, not_false_eq_true, h5], by simp only [Tr.get_set_ne, ne_eq, Nat.reduceEqDiff, not_false_eq_true, h55], by simp only [Tr.get_set_ne, ne_eq, Nat.reduceEqDiff, not_false_eq_true, h56], ?_⟩
  simp only [Tr.get_set_self, Tr.get_set_ne, hd _, ne_eq, Nat.reduceEqDiff, not_false_eq_true, decide_true, Nat.reduceLT]
  rw [wrapF_small (by omega) (by omega)]; rfl
end Go.Proofs.Ytoddncakdnmloaa.stats
/- The walk of the document's Of, and of the law StatsOf. -/
namespace Go.Proofs.Ytoddncakdnmloaa.stats
open Go Go.Vx

theorem put1 {M0 M : AMem} {b o sz : Nat} {cs cs' : List AV} {x : Int} (h : Step M0 M) (hb : M0.n ≤ b) (hg : M.get b = some (.cells cs sz true none)) (ho : o < cs.length) (hc : cs.set o (.int .i64 x) = cs') :
    ∃ M', opI (.store 1) [.ptr (some (b, o)), .int .i64 x] M = some (.val (.tuple []) M') ∧ Step M0 M' ∧ M'.get b = some (.cells cs' sz true none) ∧ ∀ c, c ≠ b → M'.get c = M.get c := by
  subst hc
  exact ⟨_, store1 h hb hg ⟨rfl, rfl⟩ ho⟩
set_option maxRecDepth 20000 in
set_option maxHeartbeats 4000000 in
theorem refof_ok {v : AV} {xs : List Int} (d : Nat) (M0 : AMem) (hok : Okg M0) (hv0 : IRow M0 .i64 v xs) (hn : xs.length < 100000) :
    Ans (callF tbl code 100000 (d + 2)) 9 [v] M0 fun r M' => Step M0 M' ∧ r = .agg (ofP xs) := by
  refine Ans_of (tbl_none (by decide) _) (show code 9 = some c9 from by kernel_rfl) (by simp) fun t hd ha => ?_
  have h0 := ha 0 _ rfl
  clear ha
  have s1 := (Step.refl hok).push (k := .cells (six 0 0 0 0 0 0) 0 true none) (fun _ _ _ _ he => by cases he)
  have g1 := get_push_self (k := .cells (six 0 0 0 0 0 0) 0 true none) hok.1
  have hv := hv0.grow s1.grow
  have hM1n : (M0.push (.cells (six 0 0 0 0 0 0) 0 true none)).n = M0.n + 1 := rfl
  refine W_seq (W_seqR (by simp only [runSeq_cons, runSeq_nil, evalArgs_nil, val1, putT, opI_new]; rfl) ?_)
  generalize M0.push (.cells (six 0 0 0 0 0 0) 0 true none) = M1 at *
  have lv := hv.len
  have eb : ∀ M, opI (.build [(.int .i64 0), (.int .i64 0), (.int .i64 0), (.int .i64 0), (.int .i64 0), (.int .i64 0)] []) [] M = some (.val (.agg (six 0 0 0 0 0 0)) M) := fun _ => rfl
  have eb1 : ∀ (a : Int) M, opI (.build [(.int .i64 0), (.int .i64 0), (.int .i64 0), (.int .i64 0), (.int .i64 0), (.int .i64 0)] [(0, 1)]) [.int .i64 a] M = some (.val (.agg (six a 0 0 0 0 0)) M) := fun _ _ => rfl
  by_cases c2 : (xs.length : Int) > 65536
  · obtain ⟨e, s2, g2, _⟩ := store_all (n := 6) (new := six 0 0 0 0 0 0) s1 (Nat.le_refl _) g1 rfl rfl rfl
    refine W_seq (W_seq (W_seqR (by simp only [runSeq_cons, runSeq_nil, evalArgs_nil, evalArgs_tmp, evalArgs_const, val1, putT, Tr.get_set_self, Tr.get_set_ne, Tr.isSome_set, hd _, ne_eq, Nat.reduceEqDiff, not_false_eq_true, decide_true, Nat.reduceLT, opI_move, opI_gtr, opI_pick, runSeq_guard (b := true), Bool.true_beq, h0, lv, c2]; rfl) ?_))
    refine W_cond (b := true) (by simp only [PArg.eval, Tr.get_set_self, Tr.get_set_ne, hd _, ne_eq, Nat.reduceEqDiff, not_false_eq_true, decide_true, Nat.reduceLT]; try rfl) (fun _ => ?_) (fun hb => by cases hb)
    refine W_seq (W_seqR (by simp only [runSeq_cons, runSeq_nil, evalArgs_nil, evalArgs_tmp, val1, putT, Tr.get_set_self, Tr.get_set_ne, hd _, ne_eq, Nat.reduceEqDiff, not_false_eq_true, decide_true, Nat.reduceLT, eb, e]; rfl) (W_ret ?_))
    exact ⟨_, fin_cell (by simp only [Tr.get_set_self, Tr.get_set_ne, hd _, ne_eq, Nat.reduceEqDiff, not_false_eq_true, decide_true, Nat.reduceLT]; try rfl) g2 rfl, s2, by unfold ofP; rw [if_pos (.inr (.inl (by omega)))]; rfl⟩
  by_cases c1 : (xs.length : Int) = 0
  · have c1' : ((xs.length : Int) == 0) = true := by simpa using c1
    obtain ⟨e, s2, g2, _⟩ := store_all (n := 6) (new := six 0 0 0 0 0 0) s1 (Nat.le_refl _) g1 rfl rfl rfl
    refine W_seq (W_seq (W_seqR (by simp only [runSeq_cons, runSeq_nil, evalArgs_nil, evalArgs_tmp, evalArgs_const, val1, putT, Tr.get_set_self, Tr.get_set_ne, Tr.isSome_set, hd _, ne_eq, Nat.reduceEqDiff, not_false_eq_true, decide_true, Nat.reduceLT, opI_move, opI_gtr, opI_eql, opI_pick, runSeq_guard (b := false), beq_self_eq_true, h0, lv, c1', c2, decide_false]; rfl) ?_))
    refine W_cond (b := true) (by simp only [PArg.eval, Tr.get_set_self, Tr.get_set_ne, hd _, ne_eq, Nat.reduceEqDiff, not_false_eq_true, decide_true, Nat.reduceLT]; try rfl) (fun _ => ?_) (fun hb => by cases hb)
    refine W_seq (W_seqR (by simp only [runSeq_cons, runSeq_nil, evalArgs_nil, evalArgs_tmp, val1, putT, Tr.get_set_self, Tr.get_set_ne, hd _, ne_eq, Nat.reduceEqDiff, not_false_eq_true, decide_true, Nat.reduceLT, eb, e]; rfl) (W_ret ?_))
    exact ⟨_, fin_cell (by simp only [Tr.get_set_self, Tr.get_set_ne, hd _, ne_eq, Nat.reduceEqDiff, not_false_eq_true, decide_true, Nat.reduceLT]; try rfl) g2 rfl, s2, by unfold ofP; rw [if_pos (.inl (by omega))]; rfl⟩
  have c1' : ((xs.length : Int) == 0) = false := by simpa using c1
  refine W_seq (W_seq (W_seqR (by simp only [runSeq_cons, runSeq_nil, evalArgs_nil, evalArgs_tmp, evalArgs_const, val1, putT, Tr.get_set_self, Tr.get_set_ne, Tr.isSome_set, hd _, ne_eq, Nat.reduceEqDiff, not_false_eq_true, decide_true, Nat.reduceLT, opI_move, opI_gtr, opI_eql, opI_pick, runSeq_guard (b := false), beq_self_eq_true, h0, lv, c1', c2, decide_false]; rfl) ?_))
  refine W_cond (b := false) (by simp only [PArg.eval, Tr.get_set_self, Tr.get_set_ne, hd _, ne_eq, Nat.reduceEqDiff, not_false_eq_true, decide_true, Nat.reduceLT]; try rfl) (fun hb => by cases hb) (fun _ => W_skip ?_)
  show W _ _
  have s2 := s1.push (k := .cells (six 0 0 0 0 0 0) 0 true none) (fun _ _ _ _ he => by cases he)
  have gb := get_push_self (k := .cells (six 0 0 0 0 0 0) 0 true none) s1.ok.1
  have g2 := (get_push_old (k := .cells (six 0 0 0 0 0 0) 0 true none) s1.ok.1 (show M0.n < M1.n by omega)).trans g1
  obtain ⟨e3, s3, g3, k3⟩ := store_all (n := 6) (new := six xs.length 0 0 0 0 0) s2 (show M0.n ≤ M1.n by omega) gb rfl rfl rfl
  have g3' := (k3 M0.n (by omega)).trans g2
  have hvr : ∀ M', Step M0 M' → IRow M' .i64 v xs := fun M' st => hv0.grow st.grow
  refine W_seq (W_seqR (by simp only [runSeq_cons, runSeq_nil, evalArgs_nil, evalArgs_tmp, val1, putT, Tr.get_set_self, Tr.get_set_ne, hd _, ne_eq, Nat.reduceEqDiff, not_false_eq_true, decide_true, Nat.reduceLT, opI_move, opI_new, h0, lv, eb1, e3]; rfl) ?_)
  have hM3n : ((M1.push (.cells (six 0 0 0 0 0 0) 0 true none)).set M1.n (.cells (six xs.length 0 0 0 0 0) 0 true none)).n = M1.n + 1 := rfl
  clear e3 k3 gb g2 s2 hv lv
  generalize (M1.push (.cells (six 0 0 0 0 0 0) 0 true none)).set M1.n (.cells (six xs.length 0 0 0 0 0) 0 true none) = M3 at *
  refine W_seq (W_seq (W_seqR (by simp only [runSeq_cons, runSeq_nil, evalArgs_nil, evalArgs_const, val1, putT, opI_move]; rfl) (W_block (W_loop (fun k t M' => ∃ (i : Nat), k + i = xs.length ∧ Step M0 M' ∧ (∀ j, (hj : j < xs.length) → j < i → 0 ≤ xs[j] ∧ xs[j] ≤ 2147483647) ∧ M'.get M0.n = some (.cells (six 0 0 0 0 0 0) 0 true none) ∧ M'.get M1.n = some (.cells (six xs.length (sumL (xs.take i)) 0 0 0 0) 0 true none) ∧ Dom t 69 ∧ t.get 0 = some v ∧ t.get 2 = some (.ptr (some (M0.n, 0))) ∧ t.get 3 = some (.ptr (some (M1.n, 0))) ∧ t.get 4 = some (.int .i64 i)) (k := xs.length) (by omega) ?_ ?_))))
  · exact ⟨0, rfl, s3, fun j _ hj => by omega, g3', g3, by ((repeat (with_reducible apply Dom.set)); exact hd), by simp only [Tr.get_set_ne, ne_eq, Nat.reduceEqDiff, not_false_eq_true, h0], by simp only [Tr.get_set_self, Tr.get_set_ne, hd _, ne_eq, Nat.reduceEqDiff, not_false_eq_true, decide_true, Nat.reduceLT], by simp only [Tr.get_set_self, Tr.get_set_ne, hd _, ne_eq, Nat.reduceEqDiff, not_false_eq_true, decide_true, Nat.reduceLT], by simp only [Tr.get_set_self, Tr.get_set_ne, hd _, ne_eq, Nat.reduceEqDiff, not_false_eq_true, decide_true, Nat.reduceLT]; try rfl⟩
  clear h0 hd g3 g3' s3 t
  intro k t M' ⟨i, hk, st, hfi, gR, gB, hd, h0, h2, h3, h4⟩
  have hv := hvr M' st
  have lv := hv.len
  refine W_seq (W_seq (W_seqR (by simp only [runSeq_cons, runSeq_nil, evalArgs_nil, evalArgs_tmp, val1, putT, Tr.get_set_self, Tr.get_set_ne, hd _, ne_eq, Nat.reduceEqDiff, not_false_eq_true, decide_true, Nat.reduceLT, opI_move, opI_lss, h0, h4, lv]; rfl) ?_))
  refine W_cond (by simp only [PArg.eval, Tr.get_set_self, Tr.get_set_ne, hd _, ne_eq, Nat.reduceEqDiff, not_false_eq_true, decide_true, Nat.reduceLT]; rfl) (fun hb => W_skip ?_) (fun hb => ?_)
  · have hin : i < xs.length := by simpa using hb
    obtain ⟨p, _, p1, p2⟩ := hv.at_ hin
    by_cases b1 : xs[i] < 0
    · obtain ⟨e, s4, g4, _⟩ := store_all (n := 6) (new := six 0 0 0 0 0 0) st (Nat.le_refl _) gR rfl rfl rfl
      refine W_seq (W_block (W_seq (W_seq (W_seqR (by simp only [runSeq_cons, runSeq_nil, evalArgs_nil, evalArgs_tmp, evalArgs_const, val1, putT, Tr.get_set_self, Tr.get_set_ne, Tr.isSome_set, hd _, ne_eq, Nat.reduceEqDiff, not_false_eq_true, decide_true, Nat.reduceLT, opI_move, opI_lss, opI_pick, runSeq_guard (b := true), Bool.true_beq, h0, h4, p1, p2, b1]; rfl) ?_))))
      refine W_cond (b := true) (by simp only [PArg.eval, Tr.get_set_self, Tr.get_set_ne, hd _, ne_eq, Nat.reduceEqDiff, not_false_eq_true, decide_true, Nat.reduceLT]; try rfl) (fun _ => ?_) (fun hb => by cases hb)
      refine W_seq (W_seqR (by simp only [runSeq_cons, runSeq_nil, evalArgs_nil, evalArgs_tmp, val1, putT, Tr.get_set_self, Tr.get_set_ne, hd _, ne_eq, Nat.reduceEqDiff, not_false_eq_true, decide_true, Nat.reduceLT, h2, eb, e]; rfl) (W_ret ?_))
      exact ⟨_, fin_cell (by simp only [Tr.get_set_ne, ne_eq, Nat.reduceEqDiff, not_false_eq_true, h2]) g4 rfl, s4, by unfold ofP; rw [if_pos (.inr (.inr fun h => by have := (h _ (List.getElem_mem hin)).1; omega))]; rfl⟩
    by_cases b2 : xs[i] > 2147483647
    · obtain ⟨e, s4, g4, _⟩ := store_all (n := 6) (new := six 0 0 0 0 0 0) st (Nat.le_refl _) gR rfl rfl rfl
      refine W_seq (W_block (W_seq (W_seq (W_seqR (by simp only [runSeq_cons, runSeq_nil, evalArgs_nil, evalArgs_tmp, evalArgs_const, val1, putT, Tr.get_set_self, Tr.get_set_ne, Tr.isSome_set, hd _, ne_eq, Nat.reduceEqDiff, not_false_eq_true, decide_true, Nat.reduceLT, opI_move, opI_lss, opI_gtr, opI_pick, runSeq_guard (b := false), beq_self_eq_true, h0, h4, p1, p2, b1, b2, decide_false]; rfl) ?_))))
      refine W_cond (b := true) (by simp only [PArg.eval, Tr.get_set_self, Tr.get_set_ne, hd _, ne_eq, Nat.reduceEqDiff, not_false_eq_true, decide_true, Nat.reduceLT]; try rfl) (fun _ => ?_) (fun hb => by cases hb)
      refine W_seq (W_seqR (by simp only [runSeq_cons, runSeq_nil, evalArgs_nil, evalArgs_tmp, val1, putT, Tr.get_set_self, Tr.get_set_ne, hd _, ne_eq, Nat.reduceEqDiff, not_false_eq_true, decide_true, Nat.reduceLT, h2, eb, e]; rfl) (W_ret ?_))
      exact ⟨_, fin_cell (by simp only [Tr.get_set_ne, ne_eq, Nat.reduceEqDiff, not_false_eq_true, h2]) g4 rfl, s4, by unfold ofP; rw [if_pos (.inr (.inr fun h => by have := (h _ (List.getElem_mem hin)).2; omega))]; rfl⟩
    have hss := sumL_succ hin
    have hbd := sumL_bd (xs := xs.take i) (fun y hy => by
      obtain ⟨j, hj, rfl⟩ := List.mem_iff_getElem.1 hy
      rw [List.length_take] at hj
      rw [List.getElem_take]
      exact hfi j (by omega) (by omega))
    rw [List.length_take] at hbd
    have L1 := load_own (o := 1) gB rfl
    obtain ⟨e6, s6, g6, k6⟩ := store1 (o := 1) (x := .int .i64 (sumL (xs.take i) + xs[i])) st (show M0.n ≤ M1.n by omega) gB ⟨rfl, rfl⟩ (by simp)
    have hw : wrapF .i64 (sumL (xs.take i) + xs[i]) = sumL (xs.take i) + xs[i] := wrapF_small (by omega) (by omega)
    have hh := held_none st.ok.1
    refine W_seq (W_block (W_seq (W_seq (W_seqR (by simp only [runSeq_cons, runSeq_nil, evalArgs_nil, evalArgs_tmp, evalArgs_const, val1, putT, Tr.get_set_self, Tr.get_set_ne, Tr.isSome_set, hd _, ne_eq, Nat.reduceEqDiff, not_false_eq_true, decide_true, Nat.reduceLT, opI_move, opI_lss, opI_gtr, opI_pick, runSeq_guard (b := false), beq_self_eq_true, h0, h4, p1, p2, b1, b2, decide_false]; rfl) ?_))))
    refine W_cond (b := false) (by simp only [PArg.eval, Tr.get_set_self, Tr.get_set_ne, hd _, ne_eq, Nat.reduceEqDiff, not_false_eq_true, decide_true, Nat.reduceLT]; try rfl) (fun hb => by cases hb) (fun _ => W_skip ?_)
    show W _ _
    refine W_mix rfl (by simp only [sameN_self, evalArgs_nil, evalArgs_tmp, val1, putT, Tr.get_set_self, Tr.get_set_ne, hd _, ne_eq, Nat.reduceEqDiff, not_false_eq_true, decide_true, Nat.reduceLT, opI_move, opI_add, opI_fieldP, Nat.zero_add, runMix_nil, runMix_read, runMix_eff, h0, h3, h4, p1, p2, L1, hw, e6, hh]; rfl) ?_
    show W _ _
    refine W_seqR (by simp only [runSeq_cons, runSeq_nil, evalArgs_nil, evalArgs_tmp, evalArgs_const, val1, putT, Tr.get_set_self, Tr.get_set_ne, hd _, ne_eq, Nat.reduceEqDiff, not_false_eq_true, decide_true, Nat.reduceLT, opI_move, opI_add, h4]; rfl) ?_
    refine ⟨k - 1, by omega, i + 1, by omega, s6, fun j hj hji => ?_, (k6 _ (by omega)).trans gR, by rw [hss]; exact g6, by ((repeat (with_reducible apply Dom.set)); exact hd), by simp only [Tr.get_set_ne, ne_eq, Nat.reduceEqDiff, not_false_eq_true, h0], by simp only [Tr.get_set_ne, ne_eq, Nat.reduceEqDiff, not_false_eq_true, h2], by simp only [Tr.get_set_ne, ne_eq, Nat.reduceEqDiff, not_false_eq_true, h3], ?_⟩
    · rcases Nat.lt_or_ge j i with h | h
      · exact hfi j hj h
      · obtain rfl : j = i := by omega
        omega
    · simp only [Tr.get_set_self, Tr.get_set_ne, hd _, ne_eq, Nat.reduceEqDiff, not_false_eq_true, decide_true, Nat.reduceLT]
      rw [wrapF_small (by omega) (by omega)]; rfl
  refine W_exit ?_
  have hi : i = xs.length := by simp at hb; omega
  subst hi
  rw [List.take_length] at gB
  show W _ _
  have hfit : Fit xs := fun y hy => by
    obtain ⟨j, hj, rfl⟩ := List.mem_iff_getElem.1 hy
    exact hfi j hj hj
  have hof : ofP xs = six xs.length (sumL xs) (atP xs 0) (atP xs (xs.length - 1)) (atP xs ((xs.length - 1) / 2)) (atP xs (9 * (xs.length - 1) / 10)) := by
    unfold ofP
    rw [if_neg]
    rintro (h | h | h)
    · omega
    · omega
    · exact h hfit
  have w1 : wrapF .i64 ((xs.length : Int) - 1) = ((xs.length - 1 : Nat) : Int) := by rw [wrapF_small (by omega) (by omega)]; omega
  have w9 : wrapF .i64 (9 * ((xs.length - 1 : Nat) : Int)) = ((9 * (xs.length - 1) : Nat) : Int) := by rw [wrapF_small (by omega) (by omega)]; omega
  have q2 : ∀ M, opI (.bin .quo) [.int .i64 ((xs.length - 1 : Nat) : Int), .int .i64 2] M = some (.val (.int .i64 (((xs.length - 1) / 2 : Nat) : Int)) M) := fun M => quoN (b := 2) (by decide) (by omega)
  have q10 : ∀ M, opI (.bin .quo) [.int .i64 ((9 * (xs.length - 1) : Nat) : Int), .int .i64 10] M = some (.val (.int .i64 ((9 * (xs.length - 1) / 10 : Nat) : Int)) M) := fun M => quoN (b := 10) (by decide) (by omega)
  have nth : ∀ (q : Nat) M, q < xs.length → Step M0 M → callF tbl code 100000 (d + 1) 24 [v, .int .i64 (q : Int)] M = some (.int .i64 (atP xs q), M) := fun q M hq st => by
    obtain ⟨_, _, c, rfl, rfl⟩ := nth_ok d M (hvr M st) hq hn
    exact c
  have N0 : callF tbl code 100000 (d + 1) 24 [v, .int .i64 0] M' = some (.int .i64 (atP xs 0), M') := nth 0 M' (by omega) st
  obtain ⟨Ma, e1, s1', g1', k1'⟩ := put1 (o := 2) (cs' := six xs.length (sumL xs) (atP xs 0) 0 0 0) (x := (atP xs 0)) st (show M0.n ≤ M1.n by omega) gB (by simp) rfl
  refine W_seq (W_seqR (by simp only [runSeq_cons, runSeq_nil, evalArgs_nil, evalArgs_tmp, evalArgs_const, val1, putT, Tr.get_set_self, Tr.get_set_ne, hd _, ne_eq, Nat.reduceEqDiff, not_false_eq_true, decide_true, Nat.reduceLT, opI_move, opI_callF, opI_fieldP, Nat.zero_add, h0, h3, N0, e1]; rfl) ?_)
  have r1 := (k1' M0.n (by omega)).trans gR
  clear e1 N0 k1'
  have la := (hvr Ma s1').len
  have N1 := nth (xs.length - 1) Ma (by omega) s1'
  obtain ⟨Mb, e2, s2', g2', k2'⟩ := put1 (o := 3) (cs' := six xs.length (sumL xs) (atP xs 0) (atP xs (xs.length - 1)) 0 0) (x := (atP xs (xs.length - 1))) s1' (show M0.n ≤ M1.n by omega) g1' (by simp) rfl
  refine W_seq (W_seqR (by simp only [runSeq_cons, runSeq_nil, evalArgs_nil, evalArgs_tmp, evalArgs_const, val1, putT, Tr.get_set_self, Tr.get_set_ne, hd _, ne_eq, Nat.reduceEqDiff, not_false_eq_true, decide_true, Nat.reduceLT, opI_move, opI_sub, opI_callF, opI_fieldP, Nat.zero_add, h0, h3, la, w1, N1, e2]; rfl) ?_)
  have r2 := (k2' M0.n (by omega)).trans r1
  clear e2 N1 k2' la
  have lb := (hvr Mb s2').len
  have N2 := nth ((xs.length - 1) / 2) Mb (by omega) s2'
  obtain ⟨Mc, e4, s4', g4', k4'⟩ := put1 (o := 4) (cs' := six xs.length (sumL xs) (atP xs 0) (atP xs (xs.length - 1)) (atP xs ((xs.length - 1) / 2)) 0) (x := (atP xs ((xs.length - 1) / 2))) s2' (show M0.n ≤ M1.n by omega) g2' (by simp) rfl
  refine W_seq (W_seqR (by simp only [runSeq_cons, runSeq_nil, evalArgs_nil, evalArgs_tmp, evalArgs_const, val1, putT, Tr.get_set_self, Tr.get_set_ne, hd _, ne_eq, Nat.reduceEqDiff, not_false_eq_true, decide_true, Nat.reduceLT, opI_move, opI_sub, opI_callF, opI_fieldP, Nat.zero_add, h0, h3, lb, w1, q2, N2, e4]; rfl) ?_)
  have r4 := (k4' M0.n (by omega)).trans r2
  clear e4 N2 k4' lb
  have lc := (hvr Mc s4').len
  have N3 := nth (9 * (xs.length - 1) / 10) Mc (by omega) s4'
  obtain ⟨Md, e5, s5', g5', k5'⟩ := put1 (o := 5) (cs' := six xs.length (sumL xs) (atP xs 0) (atP xs (xs.length - 1)) (atP xs ((xs.length - 1) / 2)) (atP xs (9 * (xs.length - 1) / 10))) (x := (atP xs (9 * (xs.length - 1) / 10))) s4' (show M0.n ≤ M1.n by omega) g4' (by simp) rfl
  refine W_seq (W_seqR (by simp only [runSeq_cons, runSeq_nil, evalArgs_nil, evalArgs_tmp, evalArgs_const, val1, putT, Tr.get_set_self, Tr.get_set_ne, hd _, ne_eq, Nat.reduceEqDiff, not_false_eq_true, decide_true, Nat.reduceLT, opI_move, opI_sub, opI_callF, opI_fieldP, Nat.zero_add, h0, h3, lc, w1, w9, q10, opI_mul, N3, e5]; rfl) ?_)
  have r5 := (k5' M0.n (by omega)).trans r4
  clear e5 N3 k5' lc
  have L6 := loads_own (o := 0) (n := 6) g5' (by simp)
  simp only [List.drop_zero, List.take_succ_cons, List.take_zero] at L6
  obtain ⟨e6, s6, g6, _⟩ := store_all (n := 6) (new := six xs.length (sumL xs) (atP xs 0) (atP xs (xs.length - 1)) (atP xs ((xs.length - 1) / 2)) (atP xs (9 * (xs.length - 1) / 10))) s5' (Nat.le_refl _) r5 rfl rfl rfl
  refine W_seq (W_seqR (by simp only [runSeq_cons, runSeq_nil, evalArgs_nil, evalArgs_tmp, val1, putT, Tr.get_set_self, Tr.get_set_ne, hd _, ne_eq, Nat.reduceEqDiff, not_false_eq_true, decide_true, Nat.reduceLT, h2, h3, L6, e6]; rfl) (W_ret ?_))
  exact ⟨_, fin_cell (by simp only [Tr.get_set_ne, ne_eq, Nat.reduceEqDiff, not_false_eq_true, h2]) g6 rfl, s6, by rw [hof]; rfl⟩
end Go.Proofs.Ytoddncakdnmloaa.stats
