/- The walk of container/heap's Remove, whatever the methods. -/
import Derived.Test.YtbjipmhdncfodaaTmWalk
namespace Go.Proofs.Ytbjipmhdncfodaa.grf
open Go Go.Vx
section
variable {α : Type} {D : Nat} {hv : AV} {Rep : AMem → List α → Prop} {d0 : α} {enc : α → AV} {lt : α → α → Bool}
set_option maxRecDepth 20000 in
set_option maxHeartbeats 2000000 in
theorem upn_ok (H : HM D hv Rep d0 enc lt) (hw : WO lt) (d : Nat) {M : AMem} {l : List α} {j n : Nat} (hr : Rep M l) (hn : n ≤ l.length) (hj : j < n) (hu : UpI lt d0 l n j) (hlen : l.length ≤ 90000) :
    Ans (callF tbl code 100000 (d + D + 1)) 24 [hv, .int .i64 j] M fun _ M' => ∃ l', Rep M' l' ∧ l'.Perm l ∧ (∀ k, n ≤ k → l'.getD k d0 = l.getD k d0) ∧ HeapN lt d0 l' n := by
  refine Ans_of (tbl_none (by decide) _) (show code 24 = some c24 from by kernel_rfl) (by simp) fun t hd ha => ?_
  have h0 := ha 0 _ rfl
  have h1 := ha 1 _ rfl
  clear ha
  refine W_block (W_loop (fun k t M' => ∃ l', Rep M' l' ∧ l'.Perm l ∧ (∀ m, n ≤ m → l'.getD m d0 = l.getD m d0) ∧ k < n ∧ UpI lt d0 l' n k ∧ Dom t 23 ∧ t.get 0 = some hv ∧ t.get 1 = some (.int .i64 k)) (k := j) (by omega) ?_ ?_)
  · exact ⟨l, hr, .refl _, fun _ _ => rfl, hj, hu, hd, h0, h1⟩
  clear h0 h1 hd hr hu hj
  intro k t M ⟨l', hr, hp, htl, hk, hu, hd, h0, h1⟩
  have hle : l'.length = l.length := hp.length_eq
  by_cases hk0 : k = 0
  · subst hk0
    have q1 : wrapF .i64 (((0 : Nat) : Int) - 1) = -1 := by decide
    have q2 : opI (.bin .quo) [.int .i64 (-1), .int .i64 2] M = some (.val (.int .i64 0) M) := by rfl
    have q3 : ((0 : Int) == ((0 : Nat) : Int)) = true := rfl
    refine W_block (W_seq (W_seqR (by simp only [runSeq_cons, runSeq_nil, evalArgs_nil, evalArgs_tmp, evalArgs_const, val1, putT, Tr.get_set_self, Tr.get_set_ne, hd _, ne_eq, Nat.reduceEqDiff, not_false_eq_true, decide_true, Nat.reduceLT, opI_move, opI_sub, h1, q1, q2]; rfl) ?_))
    refine W_seq (W_seq (W_seqR (by simp only [runSeq_cons, runSeq_nil, evalArgs_nil, evalArgs_tmp, evalArgs_const, val1, putT, Tr.get_set_self, Tr.get_set_ne, Tr.isSome_set, hd _, ne_eq, Nat.reduceEqDiff, not_false_eq_true, decide_true, Nat.reduceLT, opI_move, opI_eql, opI_pick, runSeq_guard (b := true), Bool.true_beq, h1, q3]; rfl) ?_))
    refine W_cond (b := true) (by simp only [PArg.eval, Tr.get_set_self, Tr.get_set_ne, hd _, ne_eq, Nat.reduceEqDiff, not_false_eq_true, decide_true, Nat.reduceLT]; try rfl) (fun _ => W_exit ?_) (fun hb => by cases hb)
    exact ⟨[], rfl, l', hr, hp, htl, hu.zero⟩
  · have w1 : wrapF .i64 ((k : Int) - 1) = ((k - 1 : Nat) : Int) := by rw [wrapF_small (by omega) (by omega)]; omega
    have w2 := opI_half (k := k - 1) (M := M) (by omega)
    have e1 : ((((k - 1) / 2 : Nat) : Int) == (k : Int)) = false := by rw [beq_eq_false_iff_ne]; omega
    obtain ⟨f, vs, M1, i1, c1, r1⟩ := (H d).less (i := k) (j := (k - 1) / 2) hr (by omega) (by omega)
    refine W_block (W_seq (W_seqR (by simp only [runSeq_cons, runSeq_nil, evalArgs_nil, evalArgs_tmp, evalArgs_const, val1, putT, Tr.get_set_self, Tr.get_set_ne, hd _, ne_eq, Nat.reduceEqDiff, not_false_eq_true, decide_true, Nat.reduceLT, opI_move, opI_sub, h1, w1, w2]; rfl) ?_))
    cases hl : lt (l'.getD k d0) (l'.getD ((k - 1) / 2) d0) with
    | false =>
      rw [hl] at c1
      refine W_seq (W_seq (W_seqR (by simp only [runSeq_cons, runSeq_nil, evalArgs_nil, evalArgs_tmp, evalArgs_const, val1, putT, Tr.get_set_self, Tr.get_set_ne, Tr.isSome_set, hd _, ne_eq, Nat.reduceEqDiff, not_false_eq_true, decide_true, Nat.reduceLT, opI_move, opI_not, opI_eql, opI_pick, runSeq_guard (b := false), beq_self_eq_true, Bool.not_false, h0, h1, e1, i1, c1]; rfl) ?_))
      refine W_cond (b := true) (by simp only [PArg.eval, Tr.get_set_self, Tr.get_set_ne, hd _, ne_eq, Nat.reduceEqDiff, not_false_eq_true, decide_true, Nat.reduceLT]; try rfl) (fun _ => W_exit ?_) (fun hb => by cases hb)
      exact ⟨[], rfl, l', r1, hp, htl, hu.exit hl⟩
    | true =>
      rw [hl] at c1
      refine W_seq (W_seq (W_seqR (by simp only [runSeq_cons, runSeq_nil, evalArgs_nil, evalArgs_tmp, evalArgs_const, val1, putT, Tr.get_set_self, Tr.get_set_ne, Tr.isSome_set, hd _, ne_eq, Nat.reduceEqDiff, not_false_eq_true, decide_true, Nat.reduceLT, opI_move, opI_not, opI_eql, opI_pick, runSeq_guard (b := false), beq_self_eq_true, Bool.not_true, h0, h1, e1, i1, c1]; rfl) ?_))
      refine W_cond (b := false) (by simp only [PArg.eval, Tr.get_set_self, Tr.get_set_ne, hd _, ne_eq, Nat.reduceEqDiff, not_false_eq_true, decide_true, Nat.reduceLT]; try rfl) (fun hb => by cases hb) (fun _ => W_skip ?_)
      show W _ _
      obtain ⟨f2, vs2, r2, M2, i2, c2, hr2⟩ := (H d).swap (i := (k - 1) / 2) (j := k) r1 (by omega) (by omega)
      refine W_seq (W_seqR (by simp only [runSeq_cons, runSeq_nil, evalArgs_nil, evalArgs_tmp, val1, putT, Tr.get_set_self, Tr.get_set_ne, hd _, ne_eq, Nat.reduceEqDiff, not_false_eq_true, decide_true, Nat.reduceLT, opI_move, h0, h1, i2, c2]; rfl) ?_)
      refine W_seqR (by simp only [runSeq_cons, runSeq_nil, evalArgs_nil, evalArgs_tmp, val1, putT, Tr.get_set_self, Tr.get_set_ne, hd _, ne_eq, Nat.reduceEqDiff, not_false_eq_true, decide_true, Nat.reduceLT, opI_move]; rfl) ?_
      refine ⟨(k - 1) / 2, by omega, _, hr2, (swapL_perm (by omega) (by omega)).trans hp, fun m hm => ?_, by omega, ?_, by ((repeat (with_reducible apply Dom.set)); exact hd), by simp only [Tr.get_set_ne, ne_eq, Nat.reduceEqDiff, not_false_eq_true, h0], by simp only [Tr.get_set_self, Tr.get_set_ne, hd _, ne_eq, Nat.reduceEqDiff, not_false_eq_true, decide_true, Nat.reduceLT]⟩
      · rw [swapL_get (by omega) (by omega), if_neg (by omega), if_neg (by omega)]
        exact htl m hm
      · exact hu.step hw (by omega) hk (by omega) hl

set_option maxRecDepth 20000 in
set_option maxHeartbeats 2000000 in
theorem remove_ok (H : HM D hv Rep d0 enc lt) (hw : WO lt) (d : Nat) {M : AMem} {l : List α} {i : Nat} (hr : Rep M l) (hh : HeapN lt d0 l l.length) (hi : i < l.length) (hlen : l.length < 90000) :
    Ans (callF tbl code 100000 (d + D + 2)) 19 [hv, .int .i64 i] M fun _ M' => ∃ l', Rep M' l' ∧ l.Perm (l.getD i d0 :: l') ∧ HeapN lt d0 l' l'.length := by
  refine Ans_of (tbl_none (by decide) _) (show code 19 = some c19 from by kernel_rfl) (by simp) fun t hd ha => ?_
  have h0 := ha 0 _ rfl
  have h1 := ha 1 _ rfl
  clear ha
  obtain ⟨f1, vs1, M1, i1, c1, r1⟩ := (H (d + 1)).len hr
  rw [show d + 1 + D = d + D + 1 by omega] at c1
  have w1 : wrapF .i64 ((l.length : Int) - 1) = ((l.length - 1 : Nat) : Int) := by rw [wrapF_small (by omega) (by omega)]; omega
  refine W_seq (W_seqR (by simp only [runSeq_cons, runSeq_nil, evalArgs_nil, evalArgs_const, val1, putT, opI_move]; rfl) (W_seq (W_seqR (by simp only [runSeq_cons, runSeq_nil, evalArgs_nil, evalArgs_tmp, evalArgs_const, val1, putT, Tr.get_set_self, Tr.get_set_ne, hd _, ne_eq, Nat.reduceEqDiff, not_false_eq_true, decide_true, Nat.reduceLT, opI_move, opI_sub, h0, i1, c1, w1]; rfl) ?_)))
  -- what is struck at the end
  have fin : ∀ (t : Tr AV) (M2 : AMem) (l2 : List α), Rep M2 l2 → l2.Perm l → l2.getD (l.length - 1) d0 = l.getD i d0 → HeapN lt d0 l2 (l.length - 1) → Dom t 26 → t.get 0 = some hv →
      W (exec (callF tbl code 100000 (d + D + 1)) 100000 (.seq (.seqR [⟨.move, [.tmp 0], (some 24), none⟩, ⟨(.invoke [(66, 75)] []), [.tmp 24], (some 25), none⟩, ⟨.move, [.tmp 25], (some 4), none⟩]) .ret) t M2) (Fin c19 fun _ M' => ∃ l', Rep M' l' ∧ l.Perm (l.getD i d0 :: l') ∧ HeapN lt d0 l' l'.length) := by
    intro t M2 l2 hr2 hp2 hlast hheap hd h0
    have hl2 : l2.length = l.length := hp2.length_eq
    obtain ⟨f4, vs4, M4, i4, c4, r4⟩ := (H (d + 1)).pop hr2 (by omega)
    rw [show d + 1 + D = d + D + 1 by omega] at c4
    refine W_seq (W_seqR (by simp only [runSeq_cons, runSeq_nil, evalArgs_nil, evalArgs_tmp, val1, putT, Tr.get_set_self, Tr.get_set_ne, hd _, ne_eq, Nat.reduceEqDiff, not_false_eq_true, decide_true, Nat.reduceLT, opI_move, h0, i4, c4]; rfl) (W_ret ?_))
    refine ⟨_, fin_tmp (by simp only [Tr.get_set_self, Tr.get_set_ne, hd _, ne_eq, Nat.reduceEqDiff, not_false_eq_true, decide_true, Nat.reduceLT]; try rfl), _, r4, ?_, ?_⟩
    · have hsplit := take_last (d := d0) (l := l2) (n := l2.length - 1) (by omega)
      rw [hl2, hlast] at hsplit
      refine hp2.symm.trans ?_
      rw [hl2]
      conv => lhs; rw [hsplit]
      exact List.perm_append_singleton _ _
    · have : (l2.take (l2.length - 1)).length = l.length - 1 := by rw [List.length_take]; omega
      rw [this]
      exact hheap.take (by omega)
  by_cases hin : i = l.length - 1
  · have e1 : (((l.length - 1 : Nat) : Int) != (i : Int)) = false := by rw [hin]; simp
    refine W_seq (W_seq (W_seqR (by simp only [runSeq_cons, runSeq_nil, evalArgs_nil, evalArgs_tmp, val1, putT, Tr.get_set_self, Tr.get_set_ne, hd _, ne_eq, Nat.reduceEqDiff, not_false_eq_true, decide_true, Nat.reduceLT, opI_move, opI_neq, h1, e1]; rfl) ?_))
    refine W_cond (b := false) (by simp only [PArg.eval, Tr.get_set_self, Tr.get_set_ne, hd _, ne_eq, Nat.reduceEqDiff, not_false_eq_true, decide_true, Nat.reduceLT]; try rfl) (fun hb => by cases hb) (fun _ => W_skip ?_)
    refine fin _ _ l r1 (.refl _) (by rw [hin]) ?_ (by ((repeat (with_reducible apply Dom.set)); exact hd)) (by simp only [Tr.get_set_ne, ne_eq, Nat.reduceEqDiff, not_false_eq_true, h0])
    exact fun c h0 hc => hh c h0 (by omega)
  have e1 : (((l.length - 1 : Nat) : Int) != (i : Int)) = true := by simp only [bne_iff_ne]; omega
  refine W_seq (W_seq (W_seqR (by simp only [runSeq_cons, runSeq_nil, evalArgs_nil, evalArgs_tmp, val1, putT, Tr.get_set_self, Tr.get_set_ne, hd _, ne_eq, Nat.reduceEqDiff, not_false_eq_true, decide_true, Nat.reduceLT, opI_move, opI_neq, h1, e1]; rfl) ?_))
  refine W_cond (b := true) (by simp only [PArg.eval, Tr.get_set_self, Tr.get_set_ne, hd _, ne_eq, Nat.reduceEqDiff, not_false_eq_true, decide_true, Nat.reduceLT]; try rfl) (fun _ => ?_) (fun hb => by cases hb)
  obtain ⟨f2, vs2, q2, M2, i2, c2, r2⟩ := (H (d + 1)).swap (i := i) (j := l.length - 1) r1 hi (by omega)
  rw [show d + 1 + D = d + D + 1 by omega] at c2
  refine W_seq (W_seqR (by simp only [runSeq_cons, runSeq_nil, evalArgs_nil, evalArgs_tmp, val1, putT, Tr.get_set_self, Tr.get_set_ne, hd _, ne_eq, Nat.reduceEqDiff, not_false_eq_true, decide_true, Nat.reduceLT, opI_move, h0, h1, i2, c2]; rfl) ?_)
  have hsl : (swapL d0 l i (l.length - 1)).length = l.length := swapL_len
  have hdn : DnI lt d0 (swapL d0 l i (l.length - 1)) (l.length - 1) i i := DnI.start hw (by rw [show l.length - 1 + 1 = l.length by omega]; exact hh) (by omega) (by omega)
  have hp1 : (swapL d0 l i (l.length - 1)).Perm l := swapL_perm hi (by omega)
  have hl1 : (swapL d0 l i (l.length - 1)).getD (l.length - 1) d0 = l.getD i d0 := by rw [swapL_get hi (by omega), if_pos rfl]
  obtain ⟨q3, M3, c3, l3, r3, p3, t3, hor⟩ := down_ok H hw d r2 (i0 := i) (n := l.length - 1) (by omega) (by omega) hdn (by omega)
  rcases hor with ⟨rfl, hx⟩ | ⟨rfl, rfl, hx⟩
  · refine W_seq (W_seqR (by simp only [runSeq_cons, runSeq_nil, evalArgs_nil, evalArgs_tmp, val1, putT, Tr.get_set_self, Tr.get_set_ne, hd _, ne_eq, Nat.reduceEqDiff, not_false_eq_true, decide_true, Nat.reduceLT, opI_move, opI_not, opI_callF, h0, h1, c3]; rfl) ?_)
    refine W_cond (b := false) (by simp only [PArg.eval, Tr.get_set_self, Tr.get_set_ne, hd _, ne_eq, Nat.reduceEqDiff, not_false_eq_true, decide_true, Nat.reduceLT]; try rfl) (fun hb => by cases hb) (fun _ => W_skip ?_)
    exact fin _ _ l3 r3 (p3.trans hp1) (by rw [t3 _ (Nat.le_refl _)]; exact hl1) hx (by ((repeat (with_reducible apply Dom.set)); exact hd)) (by simp only [Tr.get_set_ne, ne_eq, Nat.reduceEqDiff, not_false_eq_true, h0])
  · refine W_seq (W_seqR (by simp only [runSeq_cons, runSeq_nil, evalArgs_nil, evalArgs_tmp, val1, putT, Tr.get_set_self, Tr.get_set_ne, hd _, ne_eq, Nat.reduceEqDiff, not_false_eq_true, decide_true, Nat.reduceLT, opI_move, opI_not, opI_callF, h0, h1, c3]; rfl) ?_)
    refine W_cond (b := true) (by simp only [PArg.eval, Tr.get_set_self, Tr.get_set_ne, hd _, ne_eq, Nat.reduceEqDiff, not_false_eq_true, decide_true, Nat.reduceLT]; try rfl) (fun _ => ?_) (fun hb => by cases hb)
    obtain ⟨q4, M4, c4, l4, r4, p4, t4, h4⟩ := upn_ok H hw d r3 (j := i) (n := l.length - 1) (by omega) (by omega) (hdn.rise hx) (by omega)
    refine W_seqR (by simp only [runSeq_cons, runSeq_nil, evalArgs_nil, evalArgs_tmp, val1, putT, Tr.get_set_self, Tr.get_set_ne, hd _, ne_eq, Nat.reduceEqDiff, not_false_eq_true, decide_true, Nat.reduceLT, opI_move, opI_callF, h0, h1, c4]; rfl) ?_
    exact fin _ _ l4 r4 (p4.trans hp1) (by rw [t4 _ (Nat.le_refl _)]; exact hl1) h4 (by ((repeat (with_reducible apply Dom.set)); exact hd)) (by simp only [Tr.get_set_ne, ne_eq, Nat.reduceEqDiff, not_false_eq_true, h0])
end
end Go.Proofs.Ytbjipmhdncfodaa.grf
