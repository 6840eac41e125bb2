/- The document's answer: its walks. -/
import Derived.Test.YtefcnhmbpkdlmaaMoAll
namespace Go.Proofs.Ytefcnhmbpkdlmaa.model
open Go Go.Vx

set_option maxHeartbeats 1000000 in
theorem refwithout_ok {v : AV} {xs : List Int} {i : Nat} (d : Nat) (M : AMem) (hv : Row M v xs) (hw : Wide v) (hok : Okg M) (hn : xs.length ≤ 90000) (hi : i < xs.length) :
    Ans (callF tbl code 100000 (d + 1)) 13 [v, .int .i64 i] M fun r M' => Step M M' ∧ Own M M' r (xs.eraseIdx i) := by
  refine Ans_of (tbl_none (by decide) _) (show code 13 = some c13 from by kernel_rfl) (by simp) fun t hd ha => ?_
  have h0 := ha 0 v rfl
  have h1 := ha 1 _ rfl
  clear ha
  have hwr : wrapF .i64 ((i : Int) + 1) = ((i + 1 : Nat) : Int) := by rw [wrapF_small (by omega) (by omega)]; rfl
  obtain ⟨M1, e1, s1, o1, _⟩ := lit_empty (Step.refl hok)
  obtain ⟨w, e2, c2⟩ := row_take (hv.grow s1.grow) hw hi
  obtain ⟨r, M2, e3, s2, o2⟩ := append_anyC s1 o1 c2 (by simp; omega)
  obtain ⟨w2, e4, c4⟩ := row_drop (hv.grow s2.grow) hw (i := i + 1) (by omega) (by omega)
  obtain ⟨r3, M3, e5, s3, o3⟩ := append_anyC s2 o2 c4 (by simp; omega)
  have n0 := held_none hok.1
  have n1 := s1.nh M.n (Nat.le_refl _)
  have n2 := s2.nh M.n (Nat.le_refl _)
  have n3 := s3.nh M.n (Nat.le_refl _)
  refine W_seq (W_seqR (by simp only [runSeq_cons, runSeq_nil, evalArgs_nil, evalArgs_const, val1, putT, opI_move]; rfl) ?_)
  refine W_seq (W_trace rfl (by simp only [sameN_self, evalArgs_nil, evalArgs_tmp, evalArgs_const, val1, putT, Tr.get_set_self, Tr.get_set_ne, hd _, ne_eq, Nat.reduceEqDiff, not_false_eq_true, decide_true, Nat.reduceLT, opI_move, opI_add, trace_nil, trace_read, trace_eff, addR_some, addE_some, Bool.and_true, Bool.not_false, h0, h1, e1, e2, e3, hwr, e4, e5, n0, n1, n2, n3]; rfl) rfl rfl (W_ret ?_))
  refine ⟨_, fin_tmp (by simp only [Tr.get_set_self, Tr.get_set_ne, Option.isSome_some, hd _, ne_eq, Nat.reduceEqDiff, not_false_eq_true, decide_true, Nat.reduceLT]; try rfl), s3, ?_⟩
  rw [List.nil_append, ← List.eraseIdx_eq_take_drop_succ] at o3
  exact o3

/-! What 'ap' comes to, case by case. -/
theorem ap_out {k x cd : Int} {xs : List Int} {put : Bool} (h : k < 1 ∨ k > 4) : ap k xs put x cd = none := by
  unfold ap
  rw [if_neg (by omega), if_neg (by omega), if_neg (by omega), if_neg (by omega)]
theorem ap_same {k x cd : Int} {xs : List Int} {put : Bool} (h1 : 1 ≤ k) (h4 : k ≤ 4) (hc : cd ≠ 0) (hp : put = true ∨ cd ≠ 5) : ap k xs put x cd = some xs := by
  have hk : k = 1 ∨ k = 2 ∨ k = 3 ∨ k = 4 := by omega
  have : ∀ p t e, apD p t e xs put cd = some xs := by
    intro p t e
    unfold apD
    cases put with
    | true => simp [hc]
    | false => simp only [Bool.false_eq_true, false_or] at hp; simp [hc, hp]
  rcases hk with rfl | rfl | rfl | rfl <;> simp [ap, this]
theorem ap_put {k x : Int} {xs : List Int} (h1 : 1 ≤ k) (h4 : k ≤ 3) : ap k xs true x 0 = some (xs ++ [x]) := by
  have hk : k = 1 ∨ k = 2 ∨ k = 3 := by omega
  rcases hk with rfl | rfl | rfl <;> simp [ap, apD]
theorem ap_put4 {x : Int} {xs : List Int} : ap 4 xs true x 0 = some [wrapF .u64 (sum64 xs + x)] := by simp [ap, apD]
theorem ap_read {x : Int} {xs : List Int} : ap 4 xs false x 0 = if sum64 xs == x then some xs else none := by simp [ap, apD]
theorem ap_empty4 {x : Int} {xs : List Int} : ap 4 xs false x 5 = none := by simp [ap, apD]
theorem ap_empty {k x : Int} {xs : List Int} (h1 : 1 ≤ k) (h4 : k ≤ 3) : ap k xs false x 5 = if (xs.length : Int) == 0 then some xs else none := by
  have hk : k = 1 ∨ k = 2 ∨ k = 3 := by omega
  rcases hk with rfl | rfl | rfl <;> simp [ap, apD]
/-- a place that a kind lets go -/
def hit (k : Int) (n i : Nat) : Prop := k = 1 ∨ (k = 2 ∧ i = 0) ∨ (k = 3 ∧ i + 1 = n)
theorem ap_found {k x : Int} {xs : List Int} {i : Nat} (h1 : 1 ≤ k) (h4 : k ≤ 3) (hn : xs.length < 90000) (hi : i < xs.length) (hx : xs[i] = x) (hh : hit k xs.length i)
    (hj : ∀ j, j < i → (hl : j < xs.length) → ¬(xs[j] = x ∧ hit k xs.length j)) : ap k xs false x 0 = some (xs.eraseIdx i) := by
  have hk : k = 1 ∨ k = 2 ∨ k = 3 := by omega
  rcases hk with rfl | rfl | rfl
  · have he := idxOf_at hi hx (fun j hji he => hj j hji (by omega) ⟨he, .inl rfl⟩)
    simp [ap, apD, he, wo_at hi hx]
  · have : i = 0 := by rcases hh with h | h | h <;> omega
    subst this
    have : wo xs 0 x = some (xs.eraseIdx 0) := wo_at hi hx
    simp only [ap, apD, this, show ¬((2 : Int) = 1) from by decide, if_false, if_true, Bool.false_eq_true]
  · have : i + 1 = xs.length := by rcases hh with h | h | h <;> omega
    have hw : wrapF .i64 ((xs.length : Int) - 1) = (i : Int) := by rw [wrapF_small (by omega) (by omega)]; omega
    simp [ap, apD, hw, wo_at hi hx]
theorem ap_none {k x : Int} {xs : List Int} (h1 : 1 ≤ k) (h4 : k ≤ 3) (hn : xs.length < 90000)
    (hj : ∀ j, (hl : j < xs.length) → ¬(xs[j] = x ∧ hit k xs.length j)) : ap k xs false x 0 = none := by
  have hk : k = 1 ∨ k = 2 ∨ k = 3 := by omega
  rcases hk with rfl | rfl | rfl
  · have : x ∉ xs := fun hm => by
      obtain ⟨j, hl, he⟩ := List.mem_iff_getElem.1 hm
      exact hj j hl ⟨he, .inl rfl⟩
    simp [ap, apD, indexOf, this, wo_out (xs := xs) (a := -1) (x := x) (.inl (by omega))]
  · have : wo xs 0 x = none := by
      by_cases hl : 0 < xs.length
      · exact wo_ne hl (fun he => hj 0 hl ⟨he, .inr (.inl ⟨rfl, rfl⟩)⟩)
      · exact wo_out (.inr (by omega))
    simp [ap, apD, this]
  · have : wo xs (wrapF .i64 ((xs.length : Int) - 1)) x = none := by
      by_cases hl : 0 < xs.length
      · have hw : wrapF .i64 ((xs.length : Int) - 1) = ((xs.length - 1 : Nat) : Int) := by rw [wrapF_small (by omega) (by omega)]; omega
        rw [hw]
        exact wo_ne (by omega) (fun he => hj (xs.length - 1) (by omega) ⟨he, .inr (.inr ⟨rfl, by omega⟩)⟩)
      · have hz : xs.length = 0 := by omega
        rw [hz]
        exact wo_out (.inl (by decide))
    simp [ap, apD, this]
end Go.Proofs.Ytefcnhmbpkdlmaa.model
