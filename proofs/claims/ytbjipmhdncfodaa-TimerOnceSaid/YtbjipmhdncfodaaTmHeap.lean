/- A timer's heap: what its methods do, and the heap's Push, Pop and Remove. -/
import Derived.Test.YtbjipmhdncfodaaTmMeth
namespace Go.Proofs.Ytbjipmhdncfodaa.grf
open Go Go.Vx

/-- the entries of a list know their places -/
def EntsAt (M : AMem) (l : List En) : Prop := ∀ i, i < l.length → M.get (l.getD i dEn).b = some (.cells (eC (l.getD i dEn) i) 0 true none)
theorem EntsAt.frame {M M' : AMem} {l : List En} {ids : Nat → Prop} (h : EntsAt M l) (hf : Fr M M' ids) (hi : ∀ x ∈ l, ¬ ids x.b) : EntsAt M' l := fun i hl =>
  hf _ _ (h i hl) (hi _ (by rw [List.getD_eq_getElem?_getD, List.getElem?_eq_getElem hl]; exact List.getElem_mem hl))
theorem getD_mem {l : List En} {i : Nat} (hi : i < l.length) : l.getD i dEn ∈ l := by
  rw [List.getD_eq_getElem?_getD, List.getElem?_eq_getElem hi]; exact List.getElem_mem hi
theorem nodup_b {l : List En} (h : (l.map (·.b)).Nodup) {i j : Nat} (hi : i < l.length) (hj : j < l.length) (he : (l.getD i dEn).b = (l.getD j dEn).b) : i = j := by
  rw [List.getD_eq_getElem?_getD, List.getElem?_eq_getElem hi, List.getD_eq_getElem?_getD, List.getElem?_eq_getElem hj] at he
  have := (List.getElem_inj (h₀ := by rw [List.length_map]; exact hi) (h₁ := by rw [List.length_map]; exact hj) h).1 (by rw [List.getElem_map, List.getElem_map]; exact he)
  exact this
section
variable {M0 A M : AMem} {tb γ : Nat} {l : List En} {v mp : AV} {nn now : Int} {I : Nat → Prop}
theorem place_put (h : Step M0 M) {x : En} {p q : Int} (hb : M0.n ≤ x.b) (hg : M.get x.b = some (.cells (eC x p) 0 true none)) : ∃ M', opI (.store 1) [.ptr (some (x.b, 3)), .int .i64 q] M = some (.val (.tuple []) M') ∧ Step M0 M' ∧ M'.get x.b = some (.cells (eC x q) 0 true none) ∧ Fr M M' (· = x.b) ∧ M'.n = M.n := by
  obtain ⟨e, s, g, k⟩ := store1 (o := 3) (x := .int .i64 q) h hb hg ⟨rfl, rfl⟩ (by simp [eC])
  exact ⟨_, e, s, g, Fr.set hg, rfl⟩
set_option maxHeartbeats 2000000 in
theorem swapT_ok (d : Nat) (h : Step M0 M) (hv : RowI M0 M 1 γ v (l.map eR)) (he : EntsAt M l) (hnd : (l.map (·.b)).Nodup) (hb : ∀ x ∈ l, M0.n ≤ x.b ∧ x.b ≠ γ) {i j : Nat} (hi : i < l.length) (hj : j < l.length) :
    Ans (callF tbl code 100000 (d + 1)) 74 [v, .int .i64 i, .int .i64 j] M fun _ M' => Step M0 M' ∧ RowI M0 M' 1 γ v ((swapL dEn l i j).map eR) ∧ EntsAt M' (swapL dEn l i j) ∧ Fr M M' (fun k => k = γ ∨ ∃ x ∈ l, k = x.b) ∧ M'.n = M.n := by
  refine Ans_of (tbl_none (by decide) _) (show code 74 = some c74 from by kernel_rfl) (by simp) fun t hd ha => ?_
  have h0 := ha 0 _ rfl
  have h1 := ha 1 _ rfl
  have h2 := ha 2 _ rfl
  clear ha
  obtain ⟨a1, a2⟩ := rowT_at hv h.ok.1 hi
  obtain ⟨b1, b2⟩ := rowT_at hv h.ok.1 hj
  obtain ⟨M1, e1, s1, r1, f1, n1⟩ := rowT_put h hv hi (l.getD j dEn)
  obtain ⟨M2, e2, s2, r2, f2, n2⟩ := rowT_put s1 r1 (i := j) (by rw [List.length_set]; exact hj) (l.getD i dEn)
  have q0 := held_none h.ok.1
  have q1 := s1.nh M.n h.grow.n
  refine W_seq (W_trace (M' := M2) rfl (by simp only [sameN_self, evalArgs_nil, evalArgs_tmp, val1, putT, Tr.get_set_self, Tr.get_set_ne, hd _, ne_eq, Nat.reduceEqDiff, not_false_eq_true, decide_true, Nat.reduceLT, opI_move, trace_nil, trace_read, trace_eff, addR_some, addE_some, Bool.false_and, Bool.and_true, Bool.not_false, h0, h1, h2, a1, a2, b1, b2, e1, e2, q0, q1]; rfl) (by simp [checkRec, isLoad]) rfl ?_)
  have f12 := f1.trans f2
  have he2 : EntsAt M2 l := he.frame f12 (fun x hx => (hb x hx).2)
  change RowI M0 M2 1 γ v ((swapL dEn l i j).map eR) at r2
  have hsl : (swapL dEn l i j).length = l.length := swapL_len
  obtain ⟨c1, c2⟩ := rowT_at r2 s2.ok.1 (i := i) (by rw [hsl]; exact hi)
  obtain ⟨d1, d2⟩ := rowT_at r2 s2.ok.1 (i := j) (by rw [hsl]; exact hj)
  have gi : (swapL dEn l i j).getD i dEn = l.getD j dEn := by
    rw [swapL_get hi hj]
    by_cases hij : i = j
    · rw [if_pos hij, hij]
    · rw [if_neg hij, if_pos rfl]
  have gj : (swapL dEn l i j).getD j dEn = l.getD i dEn := by rw [swapL_get hi hj, if_pos rfl]
  rw [gi] at c2
  rw [gj] at d2
  obtain ⟨M3, e3, s3, g3, f3, n3⟩ := place_put s2 (x := l.getD j dEn) (p := j) (q := i) (hb _ (getD_mem hj)).1 (he2 j hj)
  -- the other one
  have hg4 : ∃ p : Int, M3.get (l.getD i dEn).b = some (.cells (eC (l.getD i dEn) p) 0 true none) := by
    by_cases hij : i = j
    · subst hij; exact ⟨_, g3⟩
    · exact ⟨_, f3 _ _ (he2 i hi) (fun hh => hij (nodup_b hnd hi hj hh))⟩
  obtain ⟨p4, hg4⟩ := hg4
  obtain ⟨M4, e4, s4, g4, f4, n4⟩ := place_put s3 (x := l.getD i dEn) (p := p4) (q := j) (hb _ (getD_mem hi)).1 hg4
  have k0 := held_none s2.ok.1
  have k1 := s3.nh M2.n s2.grow.n
  refine W_trace (M' := M4) rfl (by simp only [sameN_self, evalArgs_nil, evalArgs_tmp, val1, putT, Tr.get_set_self, Tr.get_set_ne, hd _, ne_eq, Nat.reduceEqDiff, not_false_eq_true, decide_true, Nat.reduceLT, opI_move, opI_fieldP, Nat.zero_add, trace_nil, trace_read, trace_eff, addR_some, addE_some, Bool.false_and, Bool.and_true, Bool.not_false, h0, h1, h2, c1, c2, d1, d2, opI_nilP, e3, e4, k0, k1]; rfl) (by simp [checkRec, isLoad]) rfl ?_
  refine ⟨[], rfl, s4, (r2.frame f3 (fun hh => (hb _ (getD_mem hj)).2 hh.symm)).frame f4 (fun hh => (hb _ (getD_mem hi)).2 hh.symm), fun k hk => ?_, fun c k hc hid => ?_, by omega⟩
  · rw [hsl] at hk
    by_cases hkj : k = j
    · subst hkj
      rw [gj]; exact g4
    · by_cases hki : k = i
      · subst hki
        rw [gi]
        exact f4 _ _ g3 (fun hh => hkj (nodup_b hnd hk hj hh.symm ▸ rfl))
      · rw [swapL_get hi hj, if_neg hkj, if_neg hki]
        exact f4 _ _ (f3 _ _ (he2 k hk) (fun hh => hkj (nodup_b hnd hk hj hh))) (fun hh => hki (nodup_b hnd hk hi hh))
  · refine f4 _ _ (f3 _ _ (f12 _ _ hc ?_) ?_) ?_
    · exact fun hh => hid (.inl hh)
    · exact fun hh => hid (.inr ⟨_, getD_mem hj, hh⟩)
    · exact fun hh => hid (.inr ⟨_, getD_mem hi, hh⟩)
end
end Go.Proofs.Ytbjipmhdncfodaa.grf
