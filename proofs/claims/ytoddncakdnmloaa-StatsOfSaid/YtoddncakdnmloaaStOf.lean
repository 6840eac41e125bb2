/- The walks of what numbers come to: the program's, and the document's. -/
import Derived.Test.YtoddncakdnmloaaStNth
namespace Go.Proofs.Ytoddncakdnmloaa.stats
open Go Go.Vx

def sumL (xs : List Int) : Int := xs.foldr (· + ·) 0
theorem sumL_perm {a b : List Int} (h : a.Perm b) : sumL a = sumL b := by
  unfold sumL
  induction h with
  | nil => rfl
  | cons x _ ih => simp only [List.foldr_cons, ih]
  | swap x y l => simp only [List.foldr_cons]; omega
  | trans _ _ ih1 ih2 => exact ih1.trans ih2
theorem sumL_append (a b : List Int) : sumL (a ++ b) = sumL a + sumL b := by
  unfold sumL
  induction a with
  | nil => simp
  | cons x a ih => simp only [List.cons_append, List.foldr_cons, ih]; omega
theorem sumL_succ {xs : List Int} {i : Nat} (h : i < xs.length) : sumL (xs.take (i + 1)) = sumL (xs.take i) + xs[i] := by
  rw [List.take_succ_eq_append_getElem h, sumL_append]
  simp [sumL]
/-- numbers that may be -/
def Fit (xs : List Int) : Prop := ∀ y ∈ xs, 0 ≤ y ∧ y ≤ 2147483647
instance (xs : List Int) : Decidable (Fit xs) := by unfold Fit; exact inferInstance
theorem sumL_bd {xs : List Int} (h : Fit xs) : 0 ≤ sumL xs ∧ sumL xs ≤ xs.length * 2147483647 := by
  induction xs with
  | nil => simp [sumL]
  | cons x xs ih =>
    have h1 := h x List.mem_cons_self
    have h2 := ih (fun y hy => h y (List.mem_cons_of_mem _ hy))
    have : sumL (x :: xs) = x + sumL xs := rfl
    rw [this, List.length_cons]
    omega
abbrev six (a b c e f g : Int) : List AV := [.int .i64 a, .int .i64 b, .int .i64 c, .int .i64 e, .int .i64 f, .int .i64 g]
theorem six_one {a b c e f g : Int} : (six a b c e f g).all AV.one = true := rfl
/-- what numbers come to -/
def ofP (xs : List Int) : List AV :=
  if xs.length = 0 ∨ xs.length > 65536 ∨ ¬ Fit xs then six 0 0 0 0 0 0
  else six xs.length (sumL xs) (atP xs 0) (atP xs (xs.length - 1)) (atP xs ((xs.length - 1) / 2)) (atP xs (9 * (xs.length - 1) / 10))
theorem idx_own {b n c i : Nat} {gr : Bool} {M : AMem} (h : i < n) : opI (.indexAddrS 1) [.slice (some (b, 0)) n c gr, .int .i64 (i : Int)] M = some (.val (.ptr (some (b, i))) M) := by
  simp only [opI]
  rw [if_pos ⟨by omega, by omega⟩]
  simp
theorem quoN {a b : Nat} {M : AMem} (hb : b ≠ 0) (ha : a < 1000000) : opI (.bin .quo) [.int .i64 (a : Int), .int .i64 (b : Int)] M = some (.val (.int .i64 ((a / b : Nat) : Int)) M) := by
  have hd : a / b ≤ a := Nat.div_le_self _ _
  have hb' : ¬ ((b : Int) = 0) := by omega
  have he : (a : Int).tdiv (b : Int) = ((a / b : Nat) : Int) := (Int.ofNat_tdiv a b).symm
  simp only [opI, binI, intI, if_true, hb', if_false, he]
  generalize a / b = c at hd
  rw [wrapF_small (by omega) (by omega)]
theorem opI_mul {k : IntKind} {a b : Int} {M : AMem} : opI (.bin .mul) [.int k a, .int k b] M = some (.val (.int k (wrapF k (a * b))) M) := by
  simp [opI, binI, intI]
set_option maxHeartbeats 1000000 in
theorem values_ok {v : AV} (d : Nat) (M : AMem) (hone : v.cells = [v]) :
    callF tbl code 100000 (d + 1) 23 [v] M = some (.func (.func 37) [] [.ptr (some (M.n, 0))], M.push (.cells [v] 0 true none)) := by
  refine Ans.eq ?_
  refine Ans_of (tbl_none (by decide) _) (show code 23 = some c23 from by kernel_rfl) (by simp) fun t hd ha => ?_
  have h0 := ha 0 _ rfl
  clear ha
  refine W_seq (W_seqR (by simp only [runSeq_cons, runSeq_nil, evalArgs_nil, evalArgs_tmp, evalArgs_const, val1, putT, opI_move, opI_box, h0, hone]; rfl) (W_seq (W_seqR (by simp only [runSeq_cons, runSeq_nil, evalArgs_nil, evalArgs_tmp, val1, putT, Tr.get_set_self, Tr.get_set_ne, hd _, ne_eq, Nat.reduceEqDiff, not_false_eq_true, decide_true, Nat.reduceLT, opI_move, opI_mkFunc]; rfl) (W_ret ?_))))
  exact ⟨_, fin_tmp (by simp only [Tr.get_set_self, Tr.get_set_ne, Tr.isSome_set, Option.isSome_some, hd _, ne_eq, Nat.reduceEqDiff, not_false_eq_true, decide_true, Nat.reduceLT]; try rfl), rfl, rfl⟩
theorem sorted_ok {v : AV} {xs : List Int} (d : Nat) (M : AMem) (hok : Okg M) (hv : IRow M .i64 v xs) (h1 : 1 ≤ xs.length) (hn : xs.length < 100000) :
    callF tbl code 100000 (d + 1) 22 [.func (.func 37) [] [.ptr (some (M.n, 0))]] (M.push (.cells [v] 0 true none)) = some (.slice (some (M.n + 1, 0)) xs.length xs.length true, (M.push (.cells [v] 0 true none)).push (.cells ((sortI xs).map (AV.int .i64 ·)) 1 true none)) := by
  have hg := get_push_self (k := .cells [v] 0 true none) hok.1
  have hl : (M.push (.cells [v] 0 true none)).loadCells M.n 0 1 = some [v] := by
    unfold AMem.loadCells
    rw [hg]; rfl
  have hi := (hv.grow (Grow.push hok.1 (.cells [v] 0 true none))).ints
  have ht : tbl 22 [.func (.func 37) [] [.ptr (some (M.n, 0))]] (M.push (.cells [v] 0 true none)) = some (.slice (some (M.n + 1, 0)) xs.length xs.length true, (M.push (.cells [v] 0 true none)).push (.cells ((sortI xs).map (AV.int .i64 ·)) 1 true none)) := by
    unfold tbl tbl0 srt sortedX
    simp only [if_neg (show ¬ (22 : Nat) = 6 by decide), if_true, hl, hi]
    cases xs with
    | nil => simp at h1
    | cons z r =>
      simp only [List.length_cons] at hn
      simp only [if_pos (show r.length < 1000000 by omega), push_n, List.length_cons]
  simp only [callF, ht]
end Go.Proofs.Ytoddncakdnmloaa.stats
