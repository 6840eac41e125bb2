/- The parts TmHeap, TmRem, TmSt, TmOps of the walk. -/
import Derived.Test.YtbjipmhdncfodaaTmMeth
import Derived.Test.YtbjipmhdncfodaaTmWalk
/- A timer's heap: what its methods do, and the heap's Push, Pop and Remove. -/
namespace Go.Proofs.Ytbjipmhdncfodaa.grf
open Go Go.Vx

/-- the entries of a list know their places -/
def EntsAt (M : AMem) (l : List En) : Prop := ∀ i, i < l.length → M.get (l.getD i dEn).b = some (.cells (eC (l.getD i dEn) i) 0 true none)
theorem EntsAt.frame {M M' : AMem} {l : List En} {ids : Nat → Prop} (h : EntsAt M l) (hf : Fr M M' ids) (hi : ∀ x ∈ l, ¬ ids x.b) : EntsAt M' l := fun i hl =>
  hf _ _ (h i hl) (hi _ (by rw [List.getD_eq_getElem?_getD, List.getElem?_eq_getElem hl]; exact List.getElem_mem hl))
theorem getD_mem {l : List En} {i : Nat} (hi : i < l.length) : l.getD i dEn ∈ l := by
  rw [List.getD_eq_getElem?_getD, List.getElem?_eq_getElem hi]; exact List.getElem_mem hi
theorem nodup_b {l : List En} (h : (l.map (·.b)).Nodup) {i j : Nat} (hi : i < l.length) (hj : j < l.length) (he : (l.getD i dEn).b = (l.getD j dEn).b) : i = j := by
  rw [List.getD_eq_getElem?_getD, List.getElem?_eq_getElem hi, List.getD_eq_getElem?_getD, List.getElem?_eq_getElem hj] at he
  have := (List.getElem_inj (h₀ := by rw [List.length_map]; exact hi) (h₁ := by rw [List.length_map]; exact hj) h).1 (by rw [List.getElem_map, List.getElem_map]; exact he)
  exact this
section
variable {M0 A M : AMem} {tb γ : Nat} {l : List En} {v mp : AV} {nn now : Int} {I : Nat → Prop}
theorem place_put (h : Step M0 M) {x : En} {p q : Int} (hb : M0.n ≤ x.b) (hg : M.get x.b = some (.cells (eC x p) 0 true none)) : ∃ M', opI (.store 1) [.ptr (some (x.b, 3)), .int .i64 q] M = some (.val (.tuple []) M') ∧ Step M0 M' ∧ M'.get x.b = some (.cells (eC x q) 0 true none) ∧ Fr M M' (· = x.b) ∧ M'.n = M.n := by
  obtain ⟨e, s, g, k⟩ := store1 (o := 3) (x := .int .i64 q) h hb hg ⟨rfl, rfl⟩ (by simp [eC])
  exact ⟨_, e, s, g, Fr.set hg, rfl⟩
set_option maxHeartbeats 2000000 in
theorem swapT_ok (d : Nat) (h : Step M0 M) (hv : RowI M0 M 1 γ v (l.map eR)) (he : EntsAt M l) (hnd : (l.map (·.b)).Nodup) (hb : ∀ x ∈ l, M0.n ≤ x.b ∧ x.b ≠ γ) {i j : Nat} (hi : i < l.length) (hj : j < l.length) :
    Ans (callF tbl code 100000 (d + 1)) 74 [v, .int .i64 i, .int .i64 j] M fun _ M' => Step M0 M' ∧ RowI M0 M' 1 γ v ((swapL dEn l i j).map eR) ∧ EntsAt M' (swapL dEn l i j) ∧ Fr M M' (fun k => k = γ ∨ ∃ x ∈ l, k = x.b) ∧ M'.n = M.n := by
  refine Ans_of (tbl_none (by decide) _) (show code 74 = some c74 from by kernel_rfl) (by simp) fun t hd ha => ?_
  have h0 := ha 0 _ rfl
  have h1 := ha 1 _ rfl
  have h2 := ha 2 _ rfl
  clear ha
  obtain ⟨a1, a2⟩ := rowT_at hv h.ok.1 hi
  obtain ⟨b1, b2⟩ := rowT_at hv h.ok.1 hj
  obtain ⟨M1, e1, s1, r1, f1, n1⟩ := rowT_put h hv hi (l.getD j dEn)
  obtain ⟨M2, e2, s2, r2, f2, n2⟩ := rowT_put s1 r1 (i := j) (by rw [List.length_set]; exact hj) (l.getD i dEn)
  have q0 := held_none h.ok.1
  have q1 := s1.nh M.n h.grow.n
  refine W_seq (W_trace (M' := M2) rfl (by simp only [sameN_self, evalArgs_nil, evalArgs_tmp, val1, putT, Tr.get_set_self, Tr.get_set_ne, hd _, ne_eq, Nat.reduceEqDiff, not_false_eq_true, decide_true, Nat.reduceLT, opI_move, trace_nil, trace_read, trace_eff, addR_some, addE_some, Bool.false_and, Bool.and_true, Bool.not_false, h0, h1, h2, a1, a2, b1, b2, e1, e2, q0, q1]; rfl) (by simp [checkRec, isLoad]) rfl ?_)
  have f12 := f1.trans f2
  have he2 : EntsAt M2 l := he.frame f12 (fun x hx => (hb x hx).2)
  change RowI M0 M2 1 γ v ((swapL dEn l i j).map eR) at r2
  have hsl : (swapL dEn l i j).length = l.length := swapL_len
  obtain ⟨c1, c2⟩ := rowT_at r2 s2.ok.1 (i := i) (by rw [hsl]; exact hi)
  obtain ⟨d1, d2⟩ := rowT_at r2 s2.ok.1 (i := j) (by rw [hsl]; exact hj)
  have gi : (swapL dEn l i j).getD i dEn = l.getD j dEn := by
    rw [swapL_get hi hj]
    by_cases hij : i = j
    · rw [if_pos hij, hij]
    · rw [if_neg hij, if_pos rfl]
  have gj : (swapL dEn l i j).getD j dEn = l.getD i dEn := by rw [swapL_get hi hj, if_pos rfl]
  rw [gi] at c2
  rw [gj] at d2
  obtain ⟨M3, e3, s3, g3, f3, n3⟩ := place_put s2 (x := l.getD j dEn) (p := j) (q := i) (hb _ (getD_mem hj)).1 (he2 j hj)
  -- the other one
  have hg4 : ∃ p : Int, M3.get (l.getD i dEn).b = some (.cells (eC (l.getD i dEn) p) 0 true none) := by
    by_cases hij : i = j
    · subst hij; exact ⟨_, g3⟩
    · exact ⟨_, f3 _ _ (he2 i hi) (fun hh => hij (nodup_b hnd hi hj hh))⟩
  obtain ⟨p4, hg4⟩ := hg4
  obtain ⟨M4, e4, s4, g4, f4, n4⟩ := place_put s3 (x := l.getD i dEn) (p := p4) (q := j) (hb _ (getD_mem hi)).1 hg4
  have k0 := held_none s2.ok.1
  have k1 := s3.nh M2.n s2.grow.n
  refine W_trace (M' := M4) rfl (by simp only [sameN_self, evalArgs_nil, evalArgs_tmp, val1, putT, Tr.get_set_self, Tr.get_set_ne, hd _, ne_eq, Nat.reduceEqDiff, not_false_eq_true, decide_true, Nat.reduceLT, opI_move, opI_fieldP, Nat.zero_add, trace_nil, trace_read, trace_eff, addR_some, addE_some, Bool.false_and, Bool.and_true, Bool.not_false, h0, h1, h2, c1, c2, d1, d2, opI_nilP, e3, e4, k0, k1]; rfl) (by simp [checkRec, isLoad]) rfl ?_
  refine ⟨[], rfl, s4, (r2.frame f3 (fun hh => (hb _ (getD_mem hj)).2 hh.symm)).frame f4 (fun hh => (hb _ (getD_mem hi)).2 hh.symm), fun k hk => ?_, fun c k hc hid => ?_, by omega⟩
  · rw [hsl] at hk
    by_cases hkj : k = j
    · subst hkj
      rw [gj]; exact g4
    · by_cases hki : k = i
      · subst hki
        rw [gi]
        exact f4 _ _ g3 (fun hh => hkj (nodup_b hnd hk hj hh.symm ▸ rfl))
      · rw [swapL_get hi hj, if_neg hkj, if_neg hki]
        exact f4 _ _ (f3 _ _ (he2 k hk) (fun hh => hkj (nodup_b hnd hk hj hh))) (fun hh => hki (nodup_b hnd hk hi hh))
  · refine f4 _ _ (f3 _ _ (f12 _ _ hc ?_) ?_) ?_
    · exact fun hh => hid (.inl hh)
    · exact fun hh => hid (.inr ⟨_, getD_mem hj, hh⟩)
    · exact fun hh => hid (.inr ⟨_, getD_mem hi, hh⟩)
end
end Go.Proofs.Ytbjipmhdncfodaa.grf
/- The walk of container/heap's Remove, whatever the methods. -/
namespace Go.Proofs.Ytbjipmhdncfodaa.grf
open Go Go.Vx
section
variable {α : Type} {D : Nat} {hv : AV} {Rep : AMem → List α → Prop} {d0 : α} {enc : α → AV} {lt : α → α → Bool}
set_option maxRecDepth 20000 in
set_option maxHeartbeats 2000000 in
theorem upn_ok (H : HM D hv Rep d0 enc lt) (hw : WO lt) (d : Nat) {M : AMem} {l : List α} {j n : Nat} (hr : Rep M l) (hn : n ≤ l.length) (hj : j < n) (hu : UpI lt d0 l n j) (hlen : l.length ≤ 90000) :
    Ans (callF tbl code 100000 (d + D + 1)) 24 [hv, .int .i64 j] M fun _ M' => ∃ l', Rep M' l' ∧ l'.Perm l ∧ (∀ k, n ≤ k → l'.getD k d0 = l.getD k d0) ∧ HeapN lt d0 l' n := by
  refine Ans_of (tbl_none (by decide) _) (show code 24 = some c24 from by kernel_rfl) (by simp) fun t hd ha => ?_
  have h0 := ha 0 _ rfl
  have h1 := ha 1 _ rfl
  clear ha
  refine W_block (W_loop (fun k t M' => ∃ l', Rep M' l' ∧ l'.Perm l ∧ (∀ m, n ≤ m → l'.getD m d0 = l.getD m d0) ∧ k < n ∧ UpI lt d0 l' n k ∧ Dom t 23 ∧ t.get 0 = some hv ∧ t.get 1 = some (.int .i64 k)) (k := j) (by omega) ?_ ?_)
  · exact ⟨l, hr, .refl _, fun _ _ => rfl, hj, hu, hd, h0, h1⟩
  clear h0 h1 hd hr hu hj
  intro k t M ⟨l', hr, hp, htl, hk, hu, hd, h0, h1⟩
  have hle : l'.length = l.length := hp.length_eq
  by_cases hk0 : k = 0
  · subst hk0
    have q1 : wrapF .i64 (((0 : Nat) : Int) - 1) = -1 := by decide
    have q2 : opI (.bin .quo) [.int .i64 (-1), .int .i64 2] M = some (.val (.int .i64 0) M) := by rfl
    have q3 : ((0 : Int) == ((0 : Nat) : Int)) = true := rfl
    refine W_block (W_seq (W_seqR (by simp only [runSeq_cons, runSeq_nil, evalArgs_nil, evalArgs_tmp, evalArgs_const, val1, putT, Tr.get_set_self, Tr.get_set_ne, hd _, ne_eq, Nat.reduceEqDiff, not_false_eq_true, decide_true, Nat.reduceLT, opI_move, opI_sub, h1, q1, q2]; rfl) ?_))
    refine W_seq (W_seq (W_seqR (by simp only [runSeq_cons, runSeq_nil, evalArgs_nil, evalArgs_tmp, evalArgs_const, val1, putT, Tr.get_set_self, Tr.get_set_ne, Tr.isSome_set, hd _, ne_eq, Nat.reduceEqDiff, not_false_eq_true, decide_true, Nat.reduceLT, opI_move, opI_eql, opI_pick, runSeq_guard (b := true), Bool.true_beq, h1, q3]; rfl) ?_))
    refine W_cond (b := true) (by simp only [PArg.eval, Tr.get_set_self, Tr.get_set_ne, hd _, ne_eq, Nat.reduceEqDiff, not_false_eq_true, decide_true, Nat.reduceLT]; try rfl) (fun _ => W_exit ?_) (fun hb => by cases hb)
    exact ⟨[], rfl, l', hr, hp, htl, hu.zero⟩
  · have w1 : wrapF .i64 ((k : Int) - 1) = ((k - 1 : Nat) : Int) := by rw [wrapF_small (by omega) (by omega)]; omega
    have w2 := opI_half (k := k - 1) (M := M) (by omega)
    have e1 : ((((k - 1) / 2 : Nat) : Int) == (k : Int)) = false := by rw [beq_eq_false_iff_ne]; omega
    obtain ⟨f, vs, M1, i1, c1, r1⟩ := (H d).less (i := k) (j := (k - 1) / 2) hr (by omega) (by omega)
    refine W_block (W_seq (W_seqR (by simp only [runSeq_cons, runSeq_nil, evalArgs_nil, evalArgs_tmp, evalArgs_const, val1, putT, Tr.get_set_self, Tr.get_set_ne, hd _, ne_eq, Nat.reduceEqDiff, not_false_eq_true, decide_true, Nat.reduceLT, opI_move, opI_sub, h1, w1, w2]; rfl) ?_))
    cases hl : lt (l'.getD k d0) (l'.getD ((k - 1) / 2) d0) with
    | false =>
      rw [hl] at c1
      refine W_seq (W_seq (W_seqR (by simp only [runSeq_cons, runSeq_nil, evalArgs_nil, evalArgs_tmp, evalArgs_const, val1, putT, Tr.get_set_self, Tr.get_set_ne, Tr.isSome_set, hd _, ne_eq, Nat.reduceEqDiff, not_false_eq_true, decide_true, Nat.reduceLT, opI_move, opI_not, opI_eql, opI_pick, runSeq_guard (b := false), beq_self_eq_true, Bool.not_false, h0, h1, e1, i1, c1]; rfl) ?_))
      refine W_cond (b := true) (by simp only [PArg.eval, Tr.get_set_self, Tr.get_set_ne, hd _, ne_eq, Nat.reduceEqDiff, not_false_eq_true, decide_true, Nat.reduceLT]; try rfl) (fun _ => W_exit ?_) (fun hb => by cases hb)
      exact ⟨[], rfl, l', r1, hp, htl, hu.exit hl⟩
    | true =>
      rw [hl] at c1
      refine W_seq (W_seq (W_seqR (by simp only [runSeq_cons, runSeq_nil, evalArgs_nil, evalArgs_tmp, evalArgs_const, val1, putT, Tr.get_set_self, Tr.get_set_ne, Tr.isSome_set, hd _, ne_eq, Nat.reduceEqDiff, not_false_eq_true, decide_true, Nat.reduceLT, opI_move, opI_not, opI_eql, opI_pick, runSeq_guard (b := false), beq_self_eq_true, Bool.not_true, h0, h1, e1, i1, c1]; rfl) ?_))
      refine W_cond (b := false) (by simp only [PArg.eval, Tr.get_set_self, Tr.get_set_ne, hd _, ne_eq, Nat.reduceEqDiff, not_false_eq_true, decide_true, Nat.reduceLT]; try rfl) (fun hb => by cases hb) (fun _ => W_skip ?_)
      show W _ _
      obtain ⟨f2, vs2, r2, M2, i2, c2, hr2⟩ := (H d).swap (i := (k - 1) / 2) (j := k) r1 (by omega) (by omega)
      refine W_seq (W_seqR (by simp only [runSeq_cons, runSeq_nil, evalArgs_nil, evalArgs_tmp, val1, putT, Tr.get_set_self, Tr.get_set_ne, hd _, ne_eq, Nat.reduceEqDiff, not_false_eq_true, decide_true, Nat.reduceLT, opI_move, h0, h1, i2, c2]; rfl) ?_)
      refine W_seqR (by simp only [runSeq_cons, runSeq_nil, evalArgs_nil, evalArgs_tmp, val1, putT, Tr.get_set_self, Tr.get_set_ne, hd _, ne_eq, Nat.reduceEqDiff, not_false_eq_true, decide_true, Nat.reduceLT, opI_move]; rfl) ?_
      refine ⟨(k - 1) / 2, by omega, _, hr2, (swapL_perm (by omega) (by omega)).trans hp, fun m hm => ?_, by omega, ?_, by ((repeat (with_reducible apply Dom.set)); exact hd), by simp only [Tr.get_set_ne, ne_eq, Nat.reduceEqDiff, not_false_eq_true, h0], by simp only [Tr.get_set_self, Tr.get_set_ne, hd _, ne_eq, Nat.reduceEqDiff, not_false_eq_true, decide_true, Nat.reduceLT]⟩
      · rw [swapL_get (by omega) (by omega), if_neg (by omega), if_neg (by omega)]
        exact htl m hm
      · exact hu.step hw (by omega) hk (by omega) hl

set_option maxRecDepth 20000 in
set_option maxHeartbeats 2000000 in
theorem remove_ok (H : HM D hv Rep d0 enc lt) (hw : WO lt) (d : Nat) {M : AMem} {l : List α} {i : Nat} (hr : Rep M l) (hh : HeapN lt d0 l l.length) (hi : i < l.length) (hlen : l.length < 90000) :
    Ans (callF tbl code 100000 (d + D + 2)) 19 [hv, .int .i64 i] M fun _ M' => ∃ l', Rep M' l' ∧ l.Perm (l.getD i d0 :: l') ∧ HeapN lt d0 l' l'.length := by
  refine Ans_of (tbl_none (by decide) _) (show code 19 = some c19 from by kernel_rfl) (by simp) fun t hd ha => ?_
  have h0 := ha 0 _ rfl
  have h1 := ha 1 _ rfl
  clear ha
  obtain ⟨f1, vs1, M1, i1, c1, r1⟩ := (H (d + 1)).len hr
  rw [show d + 1 + D = d + D + 1 by omega] at c1
  have w1 : wrapF .i64 ((l.length : Int) - 1) = ((l.length - 1 : Nat) : Int) := by rw [wrapF_small (by omega) (by omega)]; omega
  refine W_seq (W_seqR (by simp only [runSeq_cons, runSeq_nil, evalArgs_nil, evalArgs_const, val1, putT, opI_move]; rfl) (W_seq (W_seqR (by simp only [runSeq_cons, runSeq_nil, evalArgs_nil, evalArgs_tmp, evalArgs_const, val1, putT, Tr.get_set_self, Tr.get_set_ne, hd _, ne_eq, Nat.reduceEqDiff, not_false_eq_true, decide_true, Nat.reduceLT, opI_move, opI_sub, h0, i1, c1, w1]; rfl) ?_)))
  -- what is struck at the end
  have fin : ∀ (t : Tr AV) (M2 : AMem) (l2 : List α), Rep M2 l2 → l2.Perm l → l2.getD (l.length - 1) d0 = l.getD i d0 → HeapN lt d0 l2 (l.length - 1) → Dom t 26 → t.get 0 = some hv →
      W (exec (callF tbl code 100000 (d + D + 1)) 100000 (.seq (.seqR [⟨.move, [.tmp 0], (some 24), none⟩, ⟨(.invoke [(66, 75)] []), [.tmp 24], (some 25), none⟩, ⟨.move, [.tmp 25], (some 4), none⟩]) .ret) t M2) (Fin c19 fun _ M' => ∃ l', Rep M' l' ∧ l.Perm (l.getD i d0 :: l') ∧ HeapN lt d0 l' l'.length) := by
    intro t M2 l2 hr2 hp2 hlast hheap hd h0
    have hl2 : l2.length = l.length := hp2.length_eq
    obtain ⟨f4, vs4, M4, i4, c4, r4⟩ := (H (d + 1)).pop hr2 (by omega)
    rw [show d + 1 + D = d + D + 1 by omega] at c4
    refine W_seq (W_seqR (by simp only [runSeq_cons, runSeq_nil, evalArgs_nil, evalArgs_tmp, val1, putT, Tr.get_set_self, Tr.get_set_ne, hd _, ne_eq, Nat.reduceEqDiff, not_false_eq_true, decide_true, Nat.reduceLT, opI_move, h0, i4, c4]; rfl) (W_ret ?_))
    refine ⟨_, fin_tmp (by simp only [Tr.get_set_self, Tr.get_set_ne, hd _, ne_eq, Nat.reduceEqDiff, not_false_eq_true, decide_true, Nat.reduceLT]; try rfl), _, r4, ?_, ?_⟩
    · have hsplit := take_last (d := d0) (l := l2) (n := l2.length - 1) (by omega)
      rw [hl2, hlast] at hsplit
      refine hp2.symm.trans ?_
      rw [hl2]
      conv => lhs; rw [hsplit]
      exact List.perm_append_singleton _ _
    · have : (l2.take (l2.length - 1)).length = l.length - 1 := by rw [List.length_take]; omega
      rw [this]
      exact hheap.take (by omega)
  by_cases hin : i = l.length - 1
  · have e1 : (((l.length - 1 : Nat) : Int) != (i : Int)) = false := by rw [hin]; simp
    refine W_seq (W_seq (W_seqR (by simp only [runSeq_cons, runSeq_nil, evalArgs_nil, evalArgs_tmp, val1, putT, Tr.get_set_self, Tr.get_set_ne, hd _, ne_eq, Nat.reduceEqDiff, not_false_eq_true, decide_true, Nat.reduceLT, opI_move, opI_neq, h1, e1]; rfl) ?_))
    refine W_cond (b := false) (by simp only [PArg.eval, Tr.get_set_self, Tr.get_set_ne, hd _, ne_eq, Nat.reduceEqDiff, not_false_eq_true, decide_true, Nat.reduceLT]; try rfl) (fun hb => by cases hb) (fun _ => W_skip ?_)
    refine fin _ _ l r1 (.refl _) (by rw [hin]) ?_ (by ((repeat (with_reducible apply Dom.set)); exact hd)) (by simp only [Tr.get_set_ne, ne_eq, Nat.reduceEqDiff, not_false_eq_true, h0])
    exact fun c h0 hc => hh c h0 (by omega)
  have e1 : (((l.length - 1 : Nat) : Int) != (i : Int)) = true := by simp only [bne_iff_ne]; omega
  refine W_seq (W_seq (W_seqR (by simp only [runSeq_cons, runSeq_nil, evalArgs_nil, evalArgs_tmp, val1, putT, Tr.get_set_self, Tr.get_set_ne, hd _, ne_eq, Nat.reduceEqDiff, not_false_eq_true, decide_true, Nat.reduceLT, opI_move, opI_neq, h1, e1]; rfl) ?_))
  refine W_cond (b := true) (by simp only [PArg.eval, Tr.get_set_self, Tr.get_set_ne, hd _, ne_eq, Nat.reduceEqDiff, not_false_eq_true, decide_true, Nat.reduceLT]; try rfl) (fun _ => ?_) (fun hb => by cases hb)
  obtain ⟨f2, vs2, q2, M2, i2, c2, r2⟩ := (H (d + 1)).swap (i := i) (j := l.length - 1) r1 hi (by omega)
  rw [show d + 1 + D = d + D + 1 by omega] at c2
  refine W_seq (W_seqR (by simp only [runSeq_cons, runSeq_nil, evalArgs_nil, evalArgs_tmp, val1, putT, Tr.get_set_self, Tr.get_set_ne, hd _, ne_eq, Nat.reduceEqDiff, not_false_eq_true, decide_true, Nat.reduceLT, opI_move, h0, h1, i2, c2]; rfl) ?_)
  have hsl : (swapL d0 l i (l.length - 1)).length = l.length := swapL_len
  have hdn : DnI lt d0 (swapL d0 l i (l.length - 1)) (l.length - 1) i i := DnI.start hw (by rw [show l.length - 1 + 1 = l.length by omega]; exact hh) (by omega) (by omega)
  have hp1 : (swapL d0 l i (l.length - 1)).Perm l := swapL_perm hi (by omega)
  have hl1 : (swapL d0 l i (l.length - 1)).getD (l.length - 1) d0 = l.getD i d0 := by rw [swapL_get hi (by omega), if_pos rfl]
  obtain ⟨q3, M3, c3, l3, r3, p3, t3, hor⟩ := down_ok H hw d r2 (i0 := i) (n := l.length - 1) (by omega) (by omega) hdn (by omega)
  rcases hor with ⟨rfl, hx⟩ | ⟨rfl, rfl, hx⟩
  · refine W_seq (W_seqR (by simp only [runSeq_cons, runSeq_nil, evalArgs_nil, evalArgs_tmp, val1, putT, Tr.get_set_self, Tr.get_set_ne, hd _, ne_eq, Nat.reduceEqDiff, not_false_eq_true, decide_true, Nat.reduceLT, opI_move, opI_not, opI_callF, h0, h1, c3]; rfl) ?_)
    refine W_cond (b := false) (by simp only [PArg.eval, Tr.get_set_self, Tr.get_set_ne, hd _, ne_eq, Nat.reduceEqDiff, not_false_eq_true, decide_true, Nat.reduceLT]; try rfl) (fun hb => by cases hb) (fun _ => W_skip ?_)
    exact fin _ _ l3 r3 (p3.trans hp1) (by rw [t3 _ (Nat.le_refl _)]; exact hl1) hx (by ((repeat (with_reducible apply Dom.set)); exact hd)) (by simp only [Tr.get_set_ne, ne_eq, Nat.reduceEqDiff, not_false_eq_true, h0])
  · refine W_seq (W_seqR (by simp only [runSeq_cons, runSeq_nil, evalArgs_nil, evalArgs_tmp, val1, putT, Tr.get_set_self, Tr.get_set_ne, hd _, ne_eq, Nat.reduceEqDiff, not_false_eq_true, decide_true, Nat.reduceLT, opI_move, opI_not, opI_callF, h0, h1, c3]; rfl) ?_)
    refine W_cond (b := true) (by simp only [PArg.eval, Tr.get_set_self, Tr.get_set_ne, hd _, ne_eq, Nat.reduceEqDiff, not_false_eq_true, decide_true, Nat.reduceLT]; try rfl) (fun _ => ?_) (fun hb => by cases hb)
    obtain ⟨q4, M4, c4, l4, r4, p4, t4, h4⟩ := upn_ok H hw d r3 (j := i) (n := l.length - 1) (by omega) (by omega) (hdn.rise hx) (by omega)
    refine W_seqR (by simp only [runSeq_cons, runSeq_nil, evalArgs_nil, evalArgs_tmp, val1, putT, Tr.get_set_self, Tr.get_set_ne, hd _, ne_eq, Nat.reduceEqDiff, not_false_eq_true, decide_true, Nat.reduceLT, opI_move, opI_callF, h0, h1, c4]; rfl) ?_
    exact fin _ _ l4 r4 (p4.trans hp1) (by rw [t4 _ (Nat.le_refl _)]; exact hl1) h4 (by ((repeat (with_reducible apply Dom.set)); exact hd)) (by simp only [Tr.get_set_ne, ne_eq, Nat.reduceEqDiff, not_false_eq_true, h0])
end
end Go.Proofs.Ytbjipmhdncfodaa.grf
/- A timer's heap: Push, Pop and Remove, whatever stands in it. -/
namespace Go.Proofs.Ytbjipmhdncfodaa.grf
open Go Go.Vx

section
variable {M0 A M : AMem} {tb γ : Nat} {l : List En} {v mp : AV} {nn now : Int} {I : Nat → Prop}
abbrev tC (v mp : AV) (nn now : Int) : List AV := [v, mp, .int .i64 nn, .int .i64 now]
set_option maxHeartbeats 2000000 in
theorem popT_ok (d : Nat) (h : Step M0 M) (hp : M0.n ≤ tb) (hc : M.get tb = some (.cells (tC v mp nn now) 0 true none)) (hv : RowI M0 M 1 γ v (l.map eR)) (hpg : tb ≠ γ) (hl : 0 < l.length) (hn : l.length ≤ 90000) :
    Ans (callF tbl code 100000 (d + 1)) 75 [.ptr (some (tb, 0))] M fun r M' => r = .iface 60 (pP (l.getD (l.length - 1) dEn)) ∧ Step M0 M' ∧ (∃ v', M'.get tb = some (.cells (tC v' mp nn now) 0 true none) ∧ RowI M0 M' 1 γ v' ((l.take (l.length - 1)).map eR)) ∧ Fr M M' (· = tb) ∧ M'.n = M.n := by
  refine Ans_of (tbl_none (by decide) _) (show code 75 = some c75 from by kernel_rfl) (by simp) fun t hd ha => ?_
  have h0 := ha 0 _ rfl
  clear ha
  have w1 : wrapF .i64 ((l.length : Int) - 1) = ((l.length - 1 : Nat) : Int) := by rw [wrapF_small (by omega) (by omega)]; omega
  have lv := rowT_len hv h.ok.1
  have L := load_own (o := 0) hc rfl
  obtain ⟨a1, a2⟩ := rowT_at hv h.ok.1 (i := l.length - 1) (by omega)
  refine W_seq (W_seqR (by simp only [runSeq_cons, runSeq_nil, evalArgs_nil, evalArgs_const, val1, putT, opI_move]; rfl) ?_)
  refine W_seq (W_trace (M' := M) rfl (by simp only [sameN_self, evalArgs_nil, evalArgs_tmp, evalArgs_const, putT, Tr.get_set_self, Tr.get_set_ne, hd _, ne_eq, Nat.reduceEqDiff, not_false_eq_true, decide_true, Nat.reduceLT, opI_move, opI_sub, trace_nil, trace_read, addR_some, h0, opI_nilP, L, lv, w1, a1, a2]; rfl) (by simp [checkRec, isLoad]) rfl ?_)
  obtain ⟨v', p1, p2⟩ := hv.pop (by rw [List.length_map]; exact hl)
  rw [List.length_map] at p1 p2
  rw [← List.map_take] at p2
  obtain ⟨e3, s3, g3, k3⟩ := store1 (o := 0) (x := v') h hp hc p2.one (by simp)
  simp only [List.set_cons_zero] at e3 s3 g3 k3
  have hh := held_none h.ok.1
  refine W_seq (W_mix rfl (by simp only [sameN_self, evalArgs_nil, evalArgs_tmp, evalArgs_const, val1, putT, Tr.get_set_self, Tr.get_set_ne, hd _, ne_eq, Nat.reduceEqDiff, not_false_eq_true, decide_true, Nat.reduceLT, opI_move, opI_sub, runMix_nil, runMix_read, runMix_eff, h0, opI_nilP, L, lv, w1, p1, e3, hh]; rfl) ?_)
  have fr3 : Fr M (M.set tb (.cells (tC v' mp nn now) 0 true none)) (· = tb) := Fr.set hc
  refine W_seq (W_seqR (by simp only [runSeq_cons, runSeq_nil, evalArgs_nil, evalArgs_tmp, val1, putT, Tr.get_set_self, Tr.get_set_ne, hd _, ne_eq, Nat.reduceEqDiff, not_false_eq_true, decide_true, Nat.reduceLT, opI_move, opI_mkIface]; rfl) (W_ret ?_))
  exact ⟨_, fin_tmp (by simp only [Tr.get_set_self, Tr.get_set_ne, Option.isSome_some, hd _, ne_eq, Nat.reduceEqDiff, not_false_eq_true, decide_true, Nat.reduceLT]; try rfl), rfl, s3, ⟨v', g3, p2.frame fr3 (fun h => hpg h.symm)⟩, fr3, rfl⟩
set_option maxRecDepth 20000 in
set_option maxHeartbeats 2000000 in
theorem pushT_ok (d : Nat) (h : Step M0 M) (hp : M0.n ≤ tb) (hpg : tb ≠ γ) (hc : M.get tb = some (.cells (tC v mp nn now) 0 true none)) (hv : RowI M0 M 1 γ v (l.map eR)) (hn : l.length ≤ 90000) {x : En} {p : Int} (hx : M.get x.b = some (.cells (eC x p) 0 true none)) (hxb : M0.n ≤ x.b) (hxt : x.b ≠ tb) (hxg : x.b ≠ γ) :
    Ans (callF tbl code 100000 (d + 1)) 76 [.ptr (some (tb, 0)), .iface 60 (pP x)] M fun _ M' => Step M0 M' ∧ ∃ γ', (γ' = γ ∨ M.n ≤ γ') ∧ (∃ v', M'.get tb = some (.cells (tC v' mp nn now) 0 true none) ∧ RowI M0 M' 1 γ' v' ((l ++ [x]).map eR)) ∧ M'.get x.b = some (.cells (eC x l.length) 0 true none) ∧ Fr M M' (fun i => i = tb ∨ i = γ ∨ i = x.b) ∧ M.n ≤ M'.n := by
  refine Ans_of (tbl_none (by decide) _) (show code 76 = some c76 from by kernel_rfl) (by simp) fun t hd ha => ?_
  have h0 := ha 0 _ rfl
  have h1 := ha 1 _ rfl
  clear ha
  have L := load_own (o := 0) hc rfl
  have lv := rowT_len hv h.ok.1
  have hlt := get_lt h.ok.1 hc
  have hxl := get_lt h.ok.1 hx
  have as1 : ∀ M : AMem, opI (.assertC 60 false (.ptr none)) [.iface 60 (pP x)] M = some (.val (pP x) M) := fun _ => rfl
  refine W_seq (W_seqR (by simp only [runSeq_cons, runSeq_nil, evalArgs_nil, evalArgs_tmp, val1, putT, Tr.get_set_self, Tr.get_set_ne, hd _, ne_eq, Nat.reduceEqDiff, not_false_eq_true, decide_true, Nat.reduceLT, opI_move, h1, as1]; rfl) ?_)
  obtain ⟨M1, e1, s1, g1, f1, n1⟩ := place_put h (q := l.length) hxb hx
  refine W_seq (W_seqR (by simp only [runSeq_cons, runSeq_nil, evalArgs_nil, evalArgs_tmp, val1, putT, Tr.get_set_self, Tr.get_set_ne, hd _, ne_eq, Nat.reduceEqDiff, not_false_eq_true, decide_true, Nat.reduceLT, opI_move, opI_fieldP, Nat.zero_add, h0, opI_nilP, L, lv, e1]; rfl) ?_)
  have hc1 := f1 tb _ hc (fun hh => hxt hh.symm)
  have hv1 := hv.frame f1 (fun hh => hxg hh.symm)
  have L1 := load_own (o := 0) hc1 rfl
  obtain ⟨M2, v', γ', e2, e3, s2, r2, f2, g2, n2⟩ := hv1.push (bytes := 8) (z := [.ptr none]) (x := pP x) s1 rfl rfl (by omega) rfl (by simp; omega) (by simp; omega)
  have hc2 := f2 tb _ hc1 hpg
  have hx2 := f2 x.b _ g1 hxg
  obtain ⟨e4, s4, g4, k4⟩ := store1 (o := 0) (x := v') s2 hp hc2 r2.one (by simp)
  simp only [List.set_cons_zero] at e4 s4 g4 k4
  refine W_seqR (by simp only [runSeq_cons, runSeq_nil, evalArgs_nil, evalArgs_tmp, val1, putT, Tr.get_set_self, Tr.get_set_ne, hd _, ne_eq, Nat.reduceEqDiff, not_false_eq_true, decide_true, Nat.reduceLT, opI_move, h0, opI_nilP, L1, e2, e3, e4]; rfl) ?_
  have fr : Fr M2 (M2.set tb (.cells (tC v' mp nn now) 0 true none)) (· = tb) := Fr.set hc2
  have hne : tb ≠ γ' := by
    rcases g2 with rfl | hge
    · exact hpg
    · omega
  refine ⟨[], rfl, s4, γ', by rw [n1] at g2; exact g2, ⟨v', g4, ?_⟩, fr x.b _ hx2 hxt, ((f1.mono (fun i hi => .inr (.inr hi))).trans (f2.mono (fun i hi => .inr (.inl hi)))).trans (fr.mono (fun i hi => .inl hi)), by show M.n ≤ M2.n; omega⟩
  have r3 := r2.frame fr (fun h => hne h.symm)
  rw [List.map_append]
  exact r3

/-- the heap's row, and its entries -/
def TRep (M0 A : AMem) (tb γ : Nat) (mp : AV) (nn now : Int) (I : Nat → Prop) (L0 : List En) (M : AMem) (l : List En) : Prop :=
  Step M0 M ∧ A.n ≤ M.n ∧ Fr A M (fun i => i = tb ∨ i = γ ∨ I i) ∧ (M0.n ≤ tb ∧ tb ≠ γ ∧ ¬ I tb ∧ ¬ I γ) ∧ l.length ≤ 90000 ∧ (l.map (·.b)).Nodup ∧ (∀ x ∈ l, I x.b ∧ M0.n ≤ x.b) ∧ EntsAt M l ∧ ((∀ x ∈ L0, I x.b ∧ ∃ p : Int, M.get x.b = some (.cells (eC x p) 0 true none)) ∧ ∀ x ∈ L0, ∀ y ∈ l, x.b = y.b → x = y) ∧
    ∃ v, M.get tb = some (.cells (tC v mp nn now) 0 true none) ∧ RowI M0 M 1 γ v (l.map eR)
abbrev hvT (tb : Nat) : AV := .iface 66 (.ptr (some (tb, 0)))
abbrev encT (x : En) : AV := .iface 60 (pP x)
/-- The methods, as the heap calls them. -/
theorem heapT {L0 : List En} : HM 4 (hvT tb) (TRep M0 A tb γ mp nn now I L0) dEn encT ltE := fun d => by
  refine ⟨?_, ?_, ?_, ?_⟩
  · rintro M l i j ⟨h1, h2, h3, h4, h5, h6, h7, h8, ⟨hL, hI⟩, v, h9, h10⟩ hi hj
    obtain ⟨r, M', k1, rfl, k2⟩ := lessT_ok d h1 h10 h8 hi hj
    have fr : ∀ ids, Fr M M' ids := fun ids => Fr.grow h1.ok.1 k2.grow
    have hn := k2.grow.n
    exact ⟨_, _, M', by simp [opI, invokeI, List.lookup, viaI, AMem.loadCells, h9], k1, h1.trans k2, by omega, h3.trans (fr _), h4, h5, h6, h7, h8.frame (fr (fun _ => False)) (fun _ _ h => h), ⟨fun x hx => ⟨(hL x hx).1, by obtain ⟨p, hp⟩ := (hL x hx).2; exact ⟨p, fr (fun _ => False) _ _ hp (fun h => h)⟩⟩, hI⟩, v, fr (fun _ => False) tb _ h9 (fun h => h), h10.frame (fr (fun _ => False)) (fun h => h)⟩
  · rintro M l i j ⟨h1, h2, h3, h4, h5, h6, h7, h8, ⟨hL, hI⟩, v, h9, h10⟩ hi hj
    obtain ⟨a1, a2, a3, a4⟩ := h4
    obtain ⟨r, M', k1, k2, k3, k4, k5, k6⟩ := swapT_ok (d + 3) h1 h10 h8 h6 (fun x hx => ⟨(h7 x hx).2, fun he => a4 (he ▸ (h7 x hx).1)⟩) hi hj
    have hp := swapL_perm (d := dEn) hi hj
    refine ⟨_, _, r, M', by simp [opI, invokeI, List.lookup, viaI, AMem.loadCells, h9], k1, k2, by omega, h3.trans (k5.mono ?_), ⟨a1, a2, a3, a4⟩, by rw [swapL_len]; exact h5, (hp.map _).nodup_iff.2 h6, fun x hm => h7 x (hp.mem_iff.1 hm), k4, ⟨fun x hx => ⟨(hL x hx).1, ?_⟩, fun x hx y hy => hI x hx y (hp.mem_iff.1 hy)⟩, v, k5 tb _ h9 ?_, k3⟩
    · rintro i (rfl | ⟨x, hx, rfl⟩)
      · exact .inr (.inl rfl)
      · exact .inr (.inr (h7 x hx).1)
    · by_cases hy : ∃ y ∈ l, x.b = y.b
      · obtain ⟨y, hy, hb⟩ := hy
        obtain rfl := hI x hx y hy hb
        obtain ⟨m, hm, hg⟩ := List.mem_iff_getElem.1 (hp.mem_iff.2 hy)
        have := k4 m hm
        rw [show (swapL dEn l i j).getD m dEn = x by rw [List.getD_eq_getElem?_getD, List.getElem?_eq_getElem hm]; exact hg] at this
        exact ⟨_, this⟩
      · obtain ⟨p, hpx⟩ := (hL x hx).2
        refine ⟨p, k5 _ _ hpx ?_⟩
        rintro (he | ⟨y, hy', he⟩)
        · exact a4 (show I γ from (show x.b = γ from he) ▸ (hL x hx).1)
        · exact hy ⟨y, hy', he⟩
    · rintro (he | ⟨x, hx, he⟩)
      · exact a2 he
      · exact a3 (show I tb from (show tb = x.b from he) ▸ (h7 x hx).1)
  · rintro M l ⟨h1, h2, h3, h4, h5, h6, h7, h8, ⟨hL, hI⟩, v, h9, h10⟩
    exact ⟨_, _, _, by simp [opI, invokeI, List.lookup, viaI, AMem.loadCells, h9], lenT_ok (d + 3) h1.ok.1 h10, h1, h2, h3, h4, h5, h6, h7, h8, ⟨hL, hI⟩, v, h9, h10⟩
  · rintro M l ⟨h1, h2, h3, ⟨a1, a2, a3, a4⟩, h5, h6, h7, h8, ⟨hL, hI⟩, v, h9, h10⟩ hl
    obtain ⟨r, M', k1, rfl, k2, ⟨v', k3, k4⟩, k5, k6⟩ := popT_ok (d + 3) h1 a1 h9 h10 a2 hl h5
    refine ⟨75, [.ptr (some (tb, 0))], M', by simp [opI, invokeI, List.lookup], k1, k2, by omega, h3.trans (k5.mono (fun i hi => .inl hi)), ⟨a1, a2, a3, a4⟩, by rw [List.length_take]; omega, ?_, fun x hm => h7 x (List.mem_of_mem_take hm), ?_, ⟨fun x hx => ⟨(hL x hx).1, by obtain ⟨p, hp⟩ := (hL x hx).2; exact ⟨p, k5 _ _ hp (fun hb => a3 (show I tb from (show x.b = tb from hb) ▸ (hL x hx).1))⟩⟩, fun x hx y hy => hI x hx y (List.mem_of_mem_take hy)⟩, v', k3, k4⟩
    · rw [List.map_take]
      exact h6.sublist (List.take_sublist _ _)
    · have he := h8.frame k5 (fun x hx hb => a3 (show I tb from (show x.b = tb from hb) ▸ (h7 x hx).1))
      intro i hi
      rw [List.length_take] at hi
      have hg : (l.take (l.length - 1)).getD i dEn = l.getD i dEn := by
        rw [List.getD_eq_getElem?_getD, List.getElem?_take_of_lt (by omega), ← List.getD_eq_getElem?_getD]
      rw [hg]
      exact he i (by omega)
end
end Go.Proofs.Ytbjipmhdncfodaa.grf
/- A timer: what stands in it, and the heap's Push, Pop and Remove on it. -/
namespace Go.Proofs.Ytbjipmhdncfodaa.grf
open Go Go.Vx

/-- a timer's heap; J: the blocks that are its own -/
structure TSh (M0 M : AMem) (J : Nat → Prop) (tb mb : Nat) (l : List En) (nn now : Int) : Prop where
  step : Step M0 M
  jlo : ∀ i, J i → M0.n ≤ i ∧ i < M.n
  jt : J tb
  jm : J mb
  ne : tb ≠ mb
  jx : ∀ x ∈ l, J x.b ∧ x.b ≠ tb ∧ x.b ≠ mb
  nb : (l.map (·.b)).Nodup
  ents : EntsAt M l
  row : ∃ v γ, M.get tb = some (.cells (tC v (.map (some mb)) nn now) 0 true none) ∧ RowI M0 M 1 γ v (l.map eR) ∧ ((v = .slice none 0 0 false ∧ l = []) ∨ (J γ ∧ γ ≠ tb ∧ γ ≠ mb ∧ ∀ x ∈ l, x.b ≠ γ))
  heap : HeapN ltE dEn l l.length
  len : l.length ≤ 1000
section
variable {M0 M : AMem} {J : Nat → Prop} {tb mb : Nat} {l : List En} {nn now : Int}
theorem TSh.frame {M' : AMem} {ids : Nat → Prop} (h : TSh M0 M J tb mb l nn now) (hs : Step M0 M') (hn : M.n ≤ M'.n) (hf : Fr M M' ids) (hi : ∀ i, J i → i ≠ mb → ¬ ids i) : TSh M0 M' J tb mb l nn now := by
  obtain ⟨v, γ, g1, g2, g3⟩ := h.row
  refine ⟨hs, fun i hi => ⟨(h.jlo i hi).1, Nat.lt_of_lt_of_le (h.jlo i hi).2 hn⟩, h.jt, h.jm, h.ne, h.jx, h.nb, h.ents.frame hf (fun x hx => hi _ (h.jx x hx).1 (h.jx x hx).2.2), ⟨v, γ, hf tb _ g1 (hi _ h.jt h.ne), ?_, g3⟩, h.heap, h.len⟩
  rcases g3 with ⟨rfl, rfl⟩ | ⟨j, _, j2, _⟩
  · exact .inl ⟨rfl, rfl⟩
  · exact g2.frame hf (hi _ j j2)
/-- its row, by a block that nobody else has -/
theorem TSh.row' (h : TSh M0 M J tb mb l nn now) : ∃ v γ, M.get tb = some (.cells (tC v (.map (some mb)) nn now) 0 true none) ∧ RowI M0 M 1 γ v (l.map eR) ∧ M0.n ≤ γ ∧ γ ≠ tb ∧ γ ≠ mb ∧ (∀ x ∈ l, x.b ≠ γ) ∧ (J γ ∨ (γ = M.n ∧ l = [])) := by
  obtain ⟨v, γ, g1, g2, ⟨rfl, rfl⟩ | ⟨j, j1, j2, j3⟩⟩ := h.row
  · exact ⟨_, M.n, g1, .inl ⟨rfl, rfl⟩, h.step.grow.n, by have := (h.jlo _ h.jt).2; omega, by have := (h.jlo _ h.jm).2; omega, fun x hx => by simp at hx, .inr ⟨rfl, rfl⟩⟩
  · exact ⟨v, γ, g1, g2, (h.jlo _ j).1, j1, j2, j3, .inl j⟩
theorem TSh.hlen (h : TSh M0 M J tb mb l nn now) : ∃ v, opI (.load false 1) [.ptr (some (tb, 0))] M = some (.val v M) ∧ opI .lenS [v] M = some (.val (.int .i64 l.length) M) ∧ ∀ i, i < l.length → (∀ M', opI (.indexAddrS 1) [v, .int .i64 i] M' = some (.val (rowp v 1 i) M')) ∧ opI (.load false 1) [rowp v 1 i] M = some (.val (pP (l.getD i dEn)) M) := by
  obtain ⟨v, γ, g1, g2, _⟩ := h.row
  exact ⟨v, load_own (o := 0) g1 rfl, rowT_len g2 h.step.ok.1, fun i hi => rowT_at g2 h.step.ok.1 hi⟩
theorem TSh.rep (h : TSh M0 M J tb mb l nn now) {v : AV} {γ : Nat} (g1 : M.get tb = some (.cells (tC v (.map (some mb)) nn now) 0 true none)) (g2 : RowI M0 M 1 γ v (l.map eR)) (g4 : γ ≠ tb) (g6 : ∀ x ∈ l, x.b ≠ γ) : TRep M0 M tb γ (.map (some mb)) nn now (fun i => ∃ x ∈ l, i = x.b) l M l :=
  ⟨h.step, Nat.le_refl _, Fr.refl, ⟨(h.jlo _ h.jt).1, fun he => g4 he.symm, fun ⟨x, hx, he⟩ => (h.jx x hx).2.1 he.symm, fun ⟨x, hx, he⟩ => g6 x hx he.symm⟩, by have := h.len; omega, h.nb, fun x hx => ⟨⟨x, hx, rfl⟩, (h.jlo _ (h.jx x hx).1).1⟩, h.ents,
    ⟨fun x hx => ⟨⟨x, hx, rfl⟩, by
      obtain ⟨i, hi, rfl⟩ := List.mem_iff_getElem.1 hx
      have := h.ents i hi
      rw [show l.getD i dEn = l[i] by rw [List.getD_eq_getElem?_getD, List.getElem?_eq_getElem hi]; rfl] at this
      exact ⟨_, this⟩⟩, fun x hx y hy hb => by
      obtain ⟨i, hi, rfl⟩ := List.mem_iff_getElem.1 hx
      obtain ⟨j, hj, rfl⟩ := List.mem_iff_getElem.1 hy
      have e1 : l.getD i dEn = l[i] := by rw [List.getD_eq_getElem?_getD, List.getElem?_eq_getElem hi]; rfl
      have e2 : l.getD j dEn = l[j] := by rw [List.getD_eq_getElem?_getD, List.getElem?_eq_getElem hj]; rfl
      have := nodup_b h.nb hi hj (by rw [e1, e2]; exact hb)
      subst this; rfl⟩, v, g1, g2⟩
/-- The first one comes out. -/
theorem TSh.pop (h : TSh M0 M J tb mb l nn now) (d : Nat) (h0 : 0 < l.length) :
    Ans (callF tbl code 100000 (d + 6)) 20 [hvT tb] M fun r M' => r = encT (l.getD 0 dEn) ∧ Step M0 M' ∧ M.n ≤ M'.n ∧ Fr M M' (fun i => J i ∧ i ≠ mb) ∧ (∃ p : Int, M'.get (l.getD 0 dEn).b = some (.cells (eC (l.getD 0 dEn) p) 0 true none)) ∧
      ∃ l', TSh M0 M' J tb mb l' nn now ∧ l.Perm (l.getD 0 dEn :: l') ∧ ∀ x ∈ l', ltE x (l.getD 0 dEn) = false := by
  obtain ⟨v, γ, g1, g2, g3, g4, g5, g6, g7⟩ := h.row'
  have hJ : J γ := by
    rcases g7 with g | ⟨_, rfl⟩
    · exact g
    · simp at h0
  have hr := h.rep g1 g2 g4 g6
  obtain ⟨r2, M2, c2, hr2, l', ⟨k1, k2, k3, k4, k5, k6, k7, k8, ⟨k9, k10⟩, v2, k11, k12⟩, q1, q2⟩ := pop_ok heapT woE d hr h.heap h0 (by have := h.len; omega)
  have hsub : ∀ x ∈ l', x ∈ l := fun x hx => q1.mem_iff.2 (List.mem_cons_of_mem _ hx)
  have hll := q1.length_eq
  rw [List.length_cons] at hll
  refine ⟨r2, M2, c2, hr2, k1, k2, k3.mono ?_, (k9 _ (getD_mem h0)).2, l', ⟨k1, fun i hi => ⟨(h.jlo i hi).1, Nat.lt_of_lt_of_le (h.jlo i hi).2 k2⟩, h.jt, h.jm, h.ne, fun x hx => h.jx x (hsub x hx), k6, k8, ⟨v2, γ, k11, k12, .inr ⟨hJ, g4, g5, fun x hx => g6 x (hsub x hx)⟩⟩, q2, by have := h.len; omega⟩, q1, fun x hx => ?_⟩
  · rintro i (rfl | rfl | ⟨x, hx, rfl⟩)
    · exact ⟨h.jt, h.ne⟩
    · exact ⟨hJ, g5⟩
    · exact ⟨(h.jx x hx).1, (h.jx x hx).2.2⟩
  · obtain ⟨c, hcl, he⟩ := List.mem_iff_getElem.1 (hsub x hx)
    have := heap_min woE h.heap c hcl
    rwa [show l.getD c dEn = x by rw [List.getD_eq_getElem?_getD, List.getElem?_eq_getElem hcl]; exact he] at this
/-- One is struck, by its place. -/
theorem TSh.remove (h : TSh M0 M J tb mb l nn now) (d : Nat) {i : Nat} (hi : i < l.length) :
    Ans (callF tbl code 100000 (d + 6)) 19 [hvT tb, .int .i64 i] M fun _ M' => Step M0 M' ∧ M.n ≤ M'.n ∧ Fr M M' (fun i => J i ∧ i ≠ mb) ∧
      ∃ l', TSh M0 M' J tb mb l' nn now ∧ l.Perm (l.getD i dEn :: l') := by
  obtain ⟨v, γ, g1, g2, g3, g4, g5, g6, g7⟩ := h.row'
  have hJ : J γ := by
    rcases g7 with g | ⟨_, rfl⟩
    · exact g
    · simp at hi
  have hr := h.rep g1 g2 g4 g6
  obtain ⟨r2, M2, c2, l', ⟨k1, k2, k3, k4, k5, k6, k7, k8, ⟨k9, k10⟩, v2, k11, k12⟩, q1, q2⟩ := remove_ok heapT woE d hr h.heap hi (by have := h.len; omega)
  have hsub : ∀ x ∈ l', x ∈ l := fun x hx => q1.mem_iff.2 (List.mem_cons_of_mem _ hx)
  have hll := q1.length_eq
  rw [List.length_cons] at hll
  refine ⟨r2, M2, c2, k1, k2, k3.mono ?_, l', ⟨k1, fun i hi => ⟨(h.jlo i hi).1, Nat.lt_of_lt_of_le (h.jlo i hi).2 k2⟩, h.jt, h.jm, h.ne, fun x hx => h.jx x (hsub x hx), k6, k8, ⟨v2, γ, k11, k12, .inr ⟨hJ, g4, g5, fun x hx => g6 x (hsub x hx)⟩⟩, q2, by have := h.len; omega⟩, q1⟩
  rintro i (rfl | rfl | ⟨x, hx, rfl⟩)
  · exact ⟨h.jt, h.ne⟩
  · exact ⟨hJ, g5⟩
  · exact ⟨(h.jx x hx).1, (h.jx x hx).2.2⟩
/-- One comes in: its block is new. -/
theorem TSh.push (h : TSh M0 M J tb mb l nn now) (d : Nat) (hl : l.length < 1000) {x : En} {p : Int} (hx : M.get x.b = some (.cells (eC x p) 0 true none)) (hx0 : M0.n ≤ x.b) (hxJ : ¬ J x.b) :
    Ans (callF tbl code 100000 (d + 6)) 18 [hvT tb, encT x] M fun _ M' => Step M0 M' ∧ M.n ≤ M'.n ∧ Fr M M' (fun i => (J i ∧ i ≠ mb) ∨ i = x.b) ∧ (∃ p : Int, M'.get x.b = some (.cells (eC x p) 0 true none)) ∧
      ∃ l', TSh M0 M' (fun i => J i ∨ i = x.b ∨ (M.n ≤ i ∧ i < M'.n)) tb mb l' nn now ∧ l'.Perm (l ++ [x]) := by
  obtain ⟨v, γ, g1, g2, g3, g4, g5, g6, g7⟩ := h.row'
  have hxt : x.b ≠ tb := fun he => hxJ (he ▸ h.jt)
  have hxm : x.b ≠ mb := fun he => hxJ (he ▸ h.jm)
  have hxn := get_lt h.step.ok.1 hx
  have hxg : x.b ≠ γ := fun he => by
    rcases g7 with g | ⟨g, _⟩
    · exact hxJ (he ▸ g)
    · omega
  obtain ⟨r1, M1, c1, s1, γ', g', ⟨v1, a1, b1⟩, x1, f1, n1⟩ := pushT_ok (d + 4) h.step (h.jlo _ h.jt).1 (fun he => g4 he.symm) g1 g2 (by have := h.len; omega) hx hx0 hxt hxg
  have hγ : γ' ≠ tb ∧ γ' ≠ mb ∧ (∀ y ∈ l ++ [x], y.b ≠ γ') := by
    have t1 := (h.jlo _ h.jt).2
    have t2 := (h.jlo _ h.jm).2
    rcases g' with rfl | g'
    · exact ⟨g4, g5, fun y hy => by
        rcases List.mem_append.1 hy with hy | hy
        · exact g6 y hy
        · simp at hy; subst hy; exact hxg⟩
    · exact ⟨by omega, by omega, fun y hy => by
        rcases List.mem_append.1 hy with hy | hy
        · have := (h.jlo _ (h.jx y hy).1).2; omega
        · simp at hy; subst hy; omega⟩
  have he1 : EntsAt M1 (l ++ [x]) := by
    have hf := h.ents.frame f1 (fun y hy hh => by
      rcases hh with hh | hh | hh
      · exact (h.jx y hy).2.1 hh
      · exact g6 y hy hh
      · exact hxJ (hh ▸ (h.jx y hy).1))
    intro i hi
    rw [List.length_append, List.length_singleton] at hi
    rcases Nat.lt_or_ge i l.length with hil | hil
    · have e : (l ++ [x]).getD i dEn = l.getD i dEn := by
        rw [List.getD_eq_getElem?_getD, List.getElem?_append_left hil, ← List.getD_eq_getElem?_getD]
      rw [e]; exact hf i hil
    · have hi' : i = l.length := by omega
      subst hi'
      have e : (l ++ [x]).getD l.length dEn = x := by
        rw [List.getD_eq_getElem?_getD, List.getElem?_append_right (Nat.le_refl _), Nat.sub_self]; rfl
      rw [e]; exact x1
  have hnb : ((l ++ [x]).map (·.b)).Nodup := by
    rw [List.map_append, List.nodup_append]
    refine ⟨h.nb, by simp, fun a ha b hb => ?_⟩
    simp at hb
    subst hb
    obtain ⟨y, hy, rfl⟩ := List.mem_map.1 ha
    exact fun he => hxJ (he ▸ (h.jx y hy).1)
  have hlo : ∀ y ∈ l ++ [x], M0.n ≤ y.b ∧ y.b ≠ tb := fun y hy => by
    rcases List.mem_append.1 hy with hy | hy
    · exact ⟨(h.jlo _ (h.jx y hy).1).1, (h.jx y hy).2.1⟩
    · simp at hy; subst hy; exact ⟨hx0, hxt⟩
  have hr : TRep M0 M1 tb γ' (.map (some mb)) nn now (fun i => ∃ y ∈ l ++ [x], i = y.b) [x] M1 (l ++ [x]) := ⟨s1, Nat.le_refl _, Fr.refl, ⟨(h.jlo _ h.jt).1, fun he => hγ.1 he.symm, fun ⟨y, hy, he⟩ => (hlo y hy).2 he.symm, fun ⟨y, hy, he⟩ => hγ.2.2 y hy he.symm⟩, by simp; omega, hnb, fun y hy => ⟨⟨y, hy, rfl⟩, (hlo y hy).1⟩, he1,
    ⟨fun y hy => by simp at hy; subst hy; exact ⟨⟨_, List.mem_append_right _ (List.mem_singleton.2 rfl), rfl⟩, _, x1⟩, fun y hy z hz hb => by
      simp at hy; subst hy
      rcases List.mem_append.1 hz with hz | hz
      · exact absurd (hb ▸ (h.jx z hz).1) hxJ
      · simp at hz; exact hz.symm⟩, v1, a1, b1⟩
  have i1 : opI (.invoke [(66, 76)] []) [hvT tb, encT x] M = some (.call 76 [.ptr (some (tb, 0)), encT x]) := by simp [opI, invokeI, List.lookup]
  obtain ⟨r2, M2, c2, l', ⟨k1, k2, k3, k4, k5, k6, k7, k8, ⟨k9, k10⟩, v2, k11, k12⟩, q1, q2⟩ := push_ok heapT woE d i1 c1 hr h.heap (by have := h.len; omega)
  have hγn : γ' < M2.n := by
    have := b1.id_lt s1.ok (by simp)
    omega
  have hx2n : x.b < M2.n := by omega
  refine ⟨r2, M2, c2, k1, by omega, fun c k hc hid => ?_, (k9 x (List.mem_singleton.2 rfl)).2, l', ⟨k1, ?_, .inl h.jt, .inl h.jm, h.ne, fun y hy => ?_, k6, k8, ⟨v2, γ', k11, k12, .inr ⟨?_, hγ.1, hγ.2.1, fun y hy => hγ.2.2 y (q1.mem_iff.1 hy)⟩⟩, q2, by rw [q1.length_eq]; simp; omega⟩, q1⟩
  · have hgn := gid_le h.step.ok hc
    refine k3 c k (f1 c k hc ?_) ?_
    · rintro (hh | hh | hh)
      · exact hid (.inl ⟨hh ▸ h.jt, hh ▸ h.ne⟩)
      · rcases g7 with g | ⟨g, _⟩
        · exact hid (.inl ⟨hh ▸ g, hh ▸ g5⟩)
        · omega
      · exact hid (.inr hh)
    · rintro (hh | hh | ⟨y, hy, hh⟩)
      · exact hid (.inl ⟨hh ▸ h.jt, hh ▸ h.ne⟩)
      · rcases g' with rfl | g'
        · rcases g7 with g | ⟨g, _⟩
          · exact hid (.inl ⟨hh ▸ g, hh ▸ g5⟩)
          · omega
        · omega
      · rcases List.mem_append.1 hy with hy | hy
        · exact hid (.inl ⟨hh ▸ (h.jx y hy).1, hh ▸ (h.jx y hy).2.2⟩)
        · simp at hy; subst hy; exact hid (.inr hh)
  · rintro i (hi | rfl | ⟨h1, h2⟩)
    · have := h.jlo i hi; omega
    · exact ⟨hx0, hx2n⟩
    · have := h.step.grow.n; omega
  · rcases List.mem_append.1 (q1.mem_iff.1 hy) with hy | hy
    · exact ⟨.inl (h.jx y hy).1, (h.jx y hy).2.1, (h.jx y hy).2.2⟩
    · simp at hy; subst hy; exact ⟨.inr (.inl rfl), hxt, hxm⟩
  · rcases g' with rfl | g'
    · rcases g7 with g | ⟨g, _⟩
      · exact .inl g
      · exact .inr (.inr ⟨by omega, hγn⟩)
    · exact .inr (.inr ⟨g', hγn⟩)
end
end Go.Proofs.Ytbjipmhdncfodaa.grf
