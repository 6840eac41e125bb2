/- The walks of container/heap's functions, whatever the methods. -/
import Derived.Test.YtbjipmhdncfodaaTmTbl
namespace Go.Proofs.Ytbjipmhdncfodaa.grf
open Go Go.Vx
section
variable {α : Type} {D : Nat} {hv : AV} {Rep : AMem → List α → Prop} {d0 : α} {enc : α → AV} {lt : α → α → Bool}
abbrev HM (D : Nat) (hv : AV) (Rep : AMem → List α → Prop) (d0 : α) (enc : α → AV) (lt : α → α → Bool) : Prop := ∀ d, HeapM (callF tbl code 100000 (d + D)) (.invoke [(56, 73)] [(66, 73, false, 1)]) (.invoke [(56, 74)] [(66, 74, false, 1)]) (.invoke [(25, 11), (56, 72)] [(66, 72, false, 1)]) (.invoke [(66, 75)] []) hv Rep d0 enc lt

set_option maxRecDepth 20000 in
set_option maxHeartbeats 2000000 in
theorem up_ok (H : HM D hv Rep d0 enc lt) (hw : WO lt) (d : Nat) {M : AMem} {l : List α} {j : Nat} (hr : Rep M l) (hj : j < l.length) (hu : UpI lt d0 l l.length j) (hlen : l.length ≤ 90000) :
    Ans (callF tbl code 100000 (d + D + 1)) 24 [hv, .int .i64 j] M fun _ M' => ∃ l', Rep M' l' ∧ l'.Perm l ∧ HeapN lt d0 l' l'.length := by
  refine Ans_of (tbl_none (by decide) _) (show code 24 = some c24 from by kernel_rfl) (by simp) fun t hd ha => ?_
  have h0 := ha 0 _ rfl
  have h1 := ha 1 _ rfl
  clear ha
  refine W_block (W_loop (fun k t M' => ∃ l', Rep M' l' ∧ l'.Perm l ∧ k < l'.length ∧ UpI lt d0 l' l'.length k ∧ Dom t 23 ∧ t.get 0 = some hv ∧ t.get 1 = some (.int .i64 k)) (k := j) (by omega) ?_ ?_)
  · exact ⟨l, hr, .refl _, hj, hu, hd, h0, h1⟩
  clear h0 h1 hd hr hu hj
  intro k t M ⟨l', hr, hp, hk, hu, hd, h0, h1⟩
  have hle : l'.length = l.length := hp.length_eq
  by_cases hk0 : k = 0
  · subst hk0
    have q1 : wrapF .i64 (((0 : Nat) : Int) - 1) = -1 := by decide
    have q2 : opI (.bin .quo) [.int .i64 (-1), .int .i64 2] M = some (.val (.int .i64 0) M) := by rfl
    have q3 : ((0 : Int) == ((0 : Nat) : Int)) = true := rfl
    refine W_block (W_seq (W_seqR (by simp only [runSeq_cons, runSeq_nil, evalArgs_nil, evalArgs_tmp, evalArgs_const, val1, putT, Tr.get_set_self, Tr.get_set_ne, hd _, ne_eq, Nat.reduceEqDiff, not_false_eq_true, decide_true, Nat.reduceLT, opI_move, opI_sub, h1, q1, q2]; rfl) ?_))
    refine W_seq (W_seq (W_seqR (by simp only [runSeq_cons, runSeq_nil, evalArgs_nil, evalArgs_tmp, evalArgs_const, val1, putT, Tr.get_set_self, Tr.get_set_ne, Tr.isSome_set, hd _, ne_eq, Nat.reduceEqDiff, not_false_eq_true, decide_true, Nat.reduceLT, opI_move, opI_eql, opI_pick, runSeq_guard (b := true), Bool.true_beq, h1, q3]; rfl) ?_))
    refine W_cond (b := true) (by simp only [PArg.eval, Tr.get_set_self, Tr.get_set_ne, hd _, ne_eq, Nat.reduceEqDiff, not_false_eq_true, decide_true, Nat.reduceLT]; try rfl) (fun _ => W_exit ?_) (fun hb => by cases hb)
    exact ⟨[], rfl, l', hr, hp, hu.zero⟩
  · have w1 : wrapF .i64 ((k : Int) - 1) = ((k - 1 : Nat) : Int) := by rw [wrapF_small (by omega) (by omega)]; omega
    have w2 := opI_half (k := k - 1) (M := M) (by omega)
    have e1 : ((((k - 1) / 2 : Nat) : Int) == (k : Int)) = false := by rw [beq_eq_false_iff_ne]; omega
    obtain ⟨f, vs, M1, i1, c1, r1⟩ := (H d).less (i := k) (j := (k - 1) / 2) hr hk (by omega)
    refine W_block (W_seq (W_seqR (by simp only [runSeq_cons, runSeq_nil, evalArgs_nil, evalArgs_tmp, evalArgs_const, val1, putT, Tr.get_set_self, Tr.get_set_ne, hd _, ne_eq, Nat.reduceEqDiff, not_false_eq_true, decide_true, Nat.reduceLT, opI_move, opI_sub, h1, w1, w2]; rfl) ?_))
    cases hl : lt (l'.getD k d0) (l'.getD ((k - 1) / 2) d0) with
    | false =>
      rw [hl] at c1
      refine W_seq (W_seq (W_seqR (by simp only [runSeq_cons, runSeq_nil, evalArgs_nil, evalArgs_tmp, evalArgs_const, val1, putT, Tr.get_set_self, Tr.get_set_ne, Tr.isSome_set, hd _, ne_eq, Nat.reduceEqDiff, not_false_eq_true, decide_true, Nat.reduceLT, opI_move, opI_not, opI_eql, opI_pick, runSeq_guard (b := false), beq_self_eq_true, Bool.not_false, h0, h1, e1, i1, c1]; rfl) ?_))
      refine W_cond (b := true) (by simp only [PArg.eval, Tr.get_set_self, Tr.get_set_ne, hd _, ne_eq, Nat.reduceEqDiff, not_false_eq_true, decide_true, Nat.reduceLT]; try rfl) (fun _ => W_exit ?_) (fun hb => by cases hb)
      exact ⟨[], rfl, l', r1, hp, hu.exit hl⟩
    | true =>
      rw [hl] at c1
      refine W_seq (W_seq (W_seqR (by simp only [runSeq_cons, runSeq_nil, evalArgs_nil, evalArgs_tmp, evalArgs_const, val1, putT, Tr.get_set_self, Tr.get_set_ne, Tr.isSome_set, hd _, ne_eq, Nat.reduceEqDiff, not_false_eq_true, decide_true, Nat.reduceLT, opI_move, opI_not, opI_eql, opI_pick, runSeq_guard (b := false), beq_self_eq_true, Bool.not_true, h0, h1, e1, i1, c1]; rfl) ?_))
      refine W_cond (b := false) (by simp only [PArg.eval, Tr.get_set_self, Tr.get_set_ne, hd _, ne_eq, Nat.reduceEqDiff, not_false_eq_true, decide_true, Nat.reduceLT]; try rfl) (fun hb => by cases hb) (fun _ => W_skip ?_)
      show W _ _
      obtain ⟨f2, vs2, r2, M2, i2, c2, hr2⟩ := (H d).swap (i := (k - 1) / 2) (j := k) r1 (by omega) hk
      refine W_seq (W_seqR (by simp only [runSeq_cons, runSeq_nil, evalArgs_nil, evalArgs_tmp, val1, putT, Tr.get_set_self, Tr.get_set_ne, hd _, ne_eq, Nat.reduceEqDiff, not_false_eq_true, decide_true, Nat.reduceLT, opI_move, h0, h1, i2, c2]; rfl) ?_)
      refine W_seqR (by simp only [runSeq_cons, runSeq_nil, evalArgs_nil, evalArgs_tmp, val1, putT, Tr.get_set_self, Tr.get_set_ne, hd _, ne_eq, Nat.reduceEqDiff, not_false_eq_true, decide_true, Nat.reduceLT, opI_move]; rfl) ?_
      refine ⟨(k - 1) / 2, by omega, _, hr2, (swapL_perm (by omega) hk).trans hp, by rw [swapL_len]; omega, ?_, by ((repeat (with_reducible apply Dom.set)); exact hd), by simp only [Tr.get_set_ne, ne_eq, Nat.reduceEqDiff, not_false_eq_true, h0], by simp only [Tr.get_set_self, Tr.get_set_ne, hd _, ne_eq, Nat.reduceEqDiff, not_false_eq_true, decide_true, Nat.reduceLT]⟩
      rw [swapL_len]
      exact hu.step hw (by omega) hk (Nat.le_refl _) hl

set_option maxRecDepth 20000 in
set_option maxHeartbeats 4000000 in
theorem down_ok (H : HM D hv Rep d0 enc lt) (hw : WO lt) (d : Nat) {M : AMem} {l : List α} {i0 n : Nat} (hr : Rep M l) (hn : n ≤ l.length) (hi0 : i0 ≤ n) (hu : DnI lt d0 l n i0 i0) (hlen : l.length ≤ 90000) :
    Ans (callF tbl code 100000 (d + D + 1)) 25 [hv, .int .i64 i0, .int .i64 n] M fun r M' => ∃ l', Rep M' l' ∧ l'.Perm l ∧ (∀ k, n ≤ k → l'.getD k d0 = l.getD k d0) ∧
      ((r = .bool true ∧ HeapN lt d0 l' n) ∨ (r = .bool false ∧ l' = l ∧ ∀ c, 0 < c → c < n → c ≠ i0 → InOrd lt d0 l c)) := by
  refine Ans_of (tbl_none (by decide) _) (show code 25 = some c25 from by kernel_rfl) (by simp) fun t hd ha => ?_
  have h0 := ha 0 _ rfl
  have h1 := ha 1 _ rfl
  have h2 := ha 2 _ rfl
  clear ha
  refine W_seq (W_seqR (by simp only [runSeq_cons, runSeq_nil, evalArgs_nil, evalArgs_const, val1, putT, opI_move]; rfl) (W_seq (W_seqR (by simp only [runSeq_cons, runSeq_nil, evalArgs_nil, evalArgs_tmp, val1, putT, Tr.get_set_self, Tr.get_set_ne, hd _, ne_eq, Nat.reduceEqDiff, not_false_eq_true, decide_true, Nat.reduceLT, opI_move, h1]; rfl) (W_seq ?_))))
  refine W_block (W_loop (fun k t M' => ∃ (i e : Nat) (l' : List α), k = l.length - i ∧ i ≤ n ∧ Rep M' l' ∧ l'.Perm l ∧ (∀ k, n ≤ k → l'.getD k d0 = l.getD k d0) ∧ DnI lt d0 l' n i e ∧ ((e = i ∧ i = i0 ∧ l' = l) ∨ (e = n ∧ i0 < i)) ∧ Dom t 48 ∧ t.get 0 = some hv ∧ t.get 1 = some (.int .i64 i0) ∧ t.get 2 = some (.int .i64 n) ∧ t.get 7 = some (.int .i64 i)) (k := l.length - i0) (by omega) ?_ ?_)
  · exact ⟨i0, i0, l, rfl, hi0, hr, .refl _, fun _ _ => rfl, hu, .inl ⟨rfl, rfl, rfl⟩, by ((repeat (with_reducible apply Dom.set)); exact hd), by simp only [Tr.get_set_ne, ne_eq, Nat.reduceEqDiff, not_false_eq_true, h0], by simp only [Tr.get_set_ne, ne_eq, Nat.reduceEqDiff, not_false_eq_true, h1], by simp only [Tr.get_set_ne, ne_eq, Nat.reduceEqDiff, not_false_eq_true, h2], by simp only [Tr.get_set_self, Tr.get_set_ne, hd _, ne_eq, Nat.reduceEqDiff, not_false_eq_true, decide_true, Nat.reduceLT]⟩
  clear h0 h1 h2 hd hr hu
  intro k t M ⟨i, e, l', hk, hin, hr, hp, htl, hu, he, hd, h0, h1, h2, h7⟩
  have hle : l'.length = l.length := hp.length_eq
  -- how it ends
  have fin : ∀ (t : Tr AV) (M' : AMem), Rep M' l' → Dom t 48 → t.get 1 = some (.int .i64 i0) → t.get 7 = some (.int .i64 i) → (∀ c, 0 < c → c < n → par c = i → InOrd lt d0 l' c) → W (exec (callF tbl code 100000 (d + D)) 100000 (.seq (.seqR [⟨.move, [.tmp 7], (some 45), none⟩, ⟨.move, [.tmp 1], (some 46), none⟩, ⟨(.bin .gtr), [.tmp 45, .tmp 46], (some 47), none⟩, ⟨.move, [.tmp 47], (some 6), none⟩]) .ret) t M') (Fin c25 fun r M' => ∃ l', Rep M' l' ∧ l'.Perm l ∧ (∀ k, n ≤ k → l'.getD k d0 = l.getD k d0) ∧ ((r = .bool true ∧ HeapN lt d0 l' n) ∨ (r = .bool false ∧ l' = l ∧ ∀ c, 0 < c → c < n → c ≠ i0 → InOrd lt d0 l c))) := by
    intro t M' hr' hd h1 h7 hc
    refine W_seq (W_seqR (by simp only [runSeq_cons, runSeq_nil, evalArgs_nil, evalArgs_tmp, val1, putT, Tr.get_set_self, Tr.get_set_ne, hd _, ne_eq, Nat.reduceEqDiff, not_false_eq_true, decide_true, Nat.reduceLT, opI_move, opI_gtr, h1, h7]; rfl) (W_ret ?_))
    refine ⟨_, fin_tmp (by simp only [Tr.get_set_self, Tr.get_set_ne, hd _, ne_eq, Nat.reduceEqDiff, not_false_eq_true, decide_true, Nat.reduceLT]; try rfl), l', hr', hp, htl, ?_⟩
    have hx := hu.exit hc
    rcases he with ⟨rfl, rfl, rfl⟩ | ⟨rfl, hlt⟩
    · right
      refine ⟨?_, rfl, hx⟩
      show AV.bool (decide ((e : Int) > (e : Int))) = _
      simp
    · left
      refine ⟨?_, fun c h0 hcn => hx c h0 hcn (by omega)⟩
      show AV.bool (decide ((i : Int) > (i0 : Int))) = _
      rw [decide_eq_true (by omega)]
  have w1 : wrapF .i64 (2 * (i : Int)) = ((2 * i : Nat) : Int) := by rw [wrapF_small (by omega) (by omega)]; rfl
  have w2 : wrapF .i64 (((2 * i : Nat) : Int) + 1) = ((2 * i + 1 : Nat) : Int) := by rw [wrapF_small (by omega) (by omega)]; rfl
  refine W_block (W_seq (W_seqR (by simp only [runSeq_cons, runSeq_nil, evalArgs_nil, evalArgs_tmp, evalArgs_const, val1, putT, Tr.get_set_self, Tr.get_set_ne, hd _, ne_eq, Nat.reduceEqDiff, not_false_eq_true, decide_true, Nat.reduceLT, opI_move, opI_add, opI_mul, h7, w1, w2]; rfl) ?_))
  by_cases hg : 2 * i + 1 ≥ n
  · have e1 : decide (((2 * i + 1 : Nat) : Int) ≥ (n : Int)) = true := decide_eq_true (by omega)
    refine W_seq (W_seq (W_seqR (by simp only [runSeq_cons, runSeq_nil, evalArgs_nil, evalArgs_tmp, evalArgs_const, val1, putT, Tr.get_set_self, Tr.get_set_ne, Tr.isSome_set, hd _, ne_eq, Nat.reduceEqDiff, not_false_eq_true, decide_true, Nat.reduceLT, opI_move, opI_geq, opI_pick, runSeq_guard (b := true), Bool.true_beq, h2, e1]; rfl) ?_))
    refine W_cond (b := true) (by simp only [PArg.eval, Tr.get_set_self, Tr.get_set_ne, hd _, ne_eq, Nat.reduceEqDiff, not_false_eq_true, decide_true, Nat.reduceLT]; try rfl) (fun _ => W_exit ?_) (fun hb => by cases hb)
    exact fin _ _ hr (by ((repeat (with_reducible apply Dom.set)); exact hd)) (by simp only [Tr.get_set_ne, ne_eq, Nat.reduceEqDiff, not_false_eq_true, h1]) (by simp only [Tr.get_set_ne, ne_eq, Nat.reduceEqDiff, not_false_eq_true, h7]) (fun c h0 hc hpc => by unfold par at hpc; omega)
  have e1 : decide (((2 * i + 1 : Nat) : Int) ≥ (n : Int)) = false := decide_eq_false (by omega)
  have e2 : decide (((2 * i + 1 : Nat) : Int) < 0) = false := decide_eq_false (by omega)
  refine W_seq (W_seq (W_seqR (by simp only [runSeq_cons, runSeq_nil, evalArgs_nil, evalArgs_tmp, evalArgs_const, val1, putT, Tr.get_set_self, Tr.get_set_ne, Tr.isSome_set, hd _, ne_eq, Nat.reduceEqDiff, not_false_eq_true, decide_true, Nat.reduceLT, opI_move, opI_lss, opI_geq, opI_pick, runSeq_guard (b := false), beq_self_eq_true, h2, e1, e2]; rfl) ?_))
  refine W_cond (b := false) (by simp only [PArg.eval, Tr.get_set_self, Tr.get_set_ne, hd _, ne_eq, Nat.reduceEqDiff, not_false_eq_true, decide_true, Nat.reduceLT]; try rfl) (fun hb => by cases hb) (fun _ => W_skip ?_)
  show W _ _
  refine W_seq (W_seqR (by simp only [runSeq_cons, runSeq_nil, evalArgs_nil, evalArgs_tmp, val1, putT, Tr.get_set_self, Tr.get_set_ne, hd _, ne_eq, Nat.reduceEqDiff, not_false_eq_true, decide_true, Nat.reduceLT, opI_move]; rfl) ?_)
  have w3 : wrapF .i64 (((2 * i + 1 : Nat) : Int) + 1) = ((2 * i + 2 : Nat) : Int) := by rw [wrapF_small (by omega) (by omega)]; rfl
  refine W_seq (W.mono (Q := fun x t' M' => x = .normal ∧ Rep M' l' ∧ (∃ j : Nat, 0 < j ∧ j < n ∧ par j = i ∧ (∀ c, 0 < c → c < n → par c = i → lt (l'.getD c d0) (l'.getD j d0) = false) ∧ t'.get 9 = some (.int .i64 j)) ∧ Dom t' 48 ∧ t'.get 0 = some hv ∧ t'.get 1 = some (.int .i64 i0) ∧ t'.get 2 = some (.int .i64 n) ∧ t'.get 7 = some (.int .i64 i)) ?_ ?_)
  · refine W_seq (W_seqR (by simp only [runSeq_cons, runSeq_nil, evalArgs_nil, evalArgs_tmp, evalArgs_const, val1, putT, Tr.get_set_self, Tr.get_set_ne, hd _, ne_eq, Nat.reduceEqDiff, not_false_eq_true, decide_true, Nat.reduceLT, opI_move, opI_add, w3]; rfl) ?_)
    by_cases hg2 : 2 * i + 2 < n
    · have e3 : decide (((2 * i + 2 : Nat) : Int) < (n : Int)) = true := decide_eq_true (by omega)
      obtain ⟨f, vs, M1, i1, c1, r1⟩ := (H d).less (i := 2 * i + 2) (j := 2 * i + 1) hr (by omega) (by omega)
      cases hl : lt (l'.getD (2 * i + 2) d0) (l'.getD (2 * i + 1) d0) with
      | true =>
        rw [hl] at c1
        refine W_seq (W_seqR (by simp only [runSeq_cons, runSeq_nil, evalArgs_nil, evalArgs_tmp, evalArgs_const, val1, putT, Tr.get_set_self, Tr.get_set_ne, Tr.isSome_set, hd _, ne_eq, Nat.reduceEqDiff, not_false_eq_true, decide_true, Nat.reduceLT, opI_move, opI_lss, opI_pick, runSeq_guard (b := true), beq_self_eq_true, h0, h2, e3, i1, c1]; rfl) ?_)
        refine W_cond (b := true) (by simp only [PArg.eval, Tr.get_set_self, Tr.get_set_ne, hd _, ne_eq, Nat.reduceEqDiff, not_false_eq_true, decide_true, Nat.reduceLT]; try rfl) (fun _ => ?_) (fun hb => by cases hb)
        refine W_seqR (by simp only [runSeq_cons, runSeq_nil, evalArgs_nil, evalArgs_tmp, val1, putT, Tr.get_set_self, Tr.get_set_ne, hd _, ne_eq, Nat.reduceEqDiff, not_false_eq_true, decide_true, Nat.reduceLT, opI_move]; rfl) ?_
        refine ⟨rfl, r1, ⟨2 * i + 2, by omega, hg2, by unfold par; omega, fun c h0 hc hpc => ?_, by simp only [Tr.get_set_self, Tr.get_set_ne, Tr.isSome_set, Option.isSome_some, hd _, ne_eq, Nat.reduceEqDiff, not_false_eq_true, decide_true, Nat.reduceLT]⟩, by ((repeat (with_reducible apply Dom.set)); exact hd), by simp only [Tr.get_set_ne, ne_eq, Nat.reduceEqDiff, not_false_eq_true, h0], by simp only [Tr.get_set_ne, ne_eq, Nat.reduceEqDiff, not_false_eq_true, h1], by simp only [Tr.get_set_ne, ne_eq, Nat.reduceEqDiff, not_false_eq_true, h2], by simp only [Tr.get_set_ne, ne_eq, Nat.reduceEqDiff, not_false_eq_true, h7]⟩
        have : c = 2 * i + 1 ∨ c = 2 * i + 2 := by unfold par at hpc; omega
        rcases this with rfl | rfl
        · exact hw.asymm _ _ hl
        · exact hw.irr _
      | false =>
        rw [hl] at c1
        refine W_seq (W_seqR (by simp only [runSeq_cons, runSeq_nil, evalArgs_nil, evalArgs_tmp, evalArgs_const, val1, putT, Tr.get_set_self, Tr.get_set_ne, Tr.isSome_set, hd _, ne_eq, Nat.reduceEqDiff, not_false_eq_true, decide_true, Nat.reduceLT, opI_move, opI_lss, opI_pick, runSeq_guard (b := true), beq_self_eq_true, h0, h2, e3, i1, c1]; rfl) ?_)
        refine W_cond (b := false) (by simp only [PArg.eval, Tr.get_set_self, Tr.get_set_ne, hd _, ne_eq, Nat.reduceEqDiff, not_false_eq_true, decide_true, Nat.reduceLT]; try rfl) (fun hb => by cases hb) (fun _ => W_skip ?_)
        refine ⟨rfl, r1, ⟨2 * i + 1, by omega, by omega, by unfold par; omega, fun c h0 hc hpc => ?_, by simp only [Tr.get_set_self, Tr.get_set_ne, hd _, ne_eq, Nat.reduceEqDiff, not_false_eq_true, decide_true, Nat.reduceLT]⟩, by ((repeat (with_reducible apply Dom.set)); exact hd), by simp only [Tr.get_set_ne, ne_eq, Nat.reduceEqDiff, not_false_eq_true, h0], by simp only [Tr.get_set_ne, ne_eq, Nat.reduceEqDiff, not_false_eq_true, h1], by simp only [Tr.get_set_ne, ne_eq, Nat.reduceEqDiff, not_false_eq_true, h2], by simp only [Tr.get_set_ne, ne_eq, Nat.reduceEqDiff, not_false_eq_true, h7]⟩
        have : c = 2 * i + 1 ∨ c = 2 * i + 2 := by unfold par at hpc; omega
        rcases this with rfl | rfl
        · exact hw.irr _
        · exact hl
    · have e3 : decide (((2 * i + 2 : Nat) : Int) < (n : Int)) = false := decide_eq_false (by omega)
      refine W_seq (W_seqR (by simp only [runSeq_cons, runSeq_nil, evalArgs_nil, evalArgs_tmp, evalArgs_const, val1, putT, Tr.get_set_self, Tr.get_set_ne, Tr.isSome_set, hd _, ne_eq, Nat.reduceEqDiff, not_false_eq_true, decide_true, Nat.reduceLT, opI_move, opI_lss, opI_pick, runSeq_guard (b := false), Bool.false_beq, Bool.not_true, h2, e3]; rfl) ?_)
      refine W_cond (b := false) (by simp only [PArg.eval, Tr.get_set_self, Tr.get_set_ne, hd _, ne_eq, Nat.reduceEqDiff, not_false_eq_true, decide_true, Nat.reduceLT]; try rfl) (fun hb => by cases hb) (fun _ => W_skip ?_)
      refine ⟨rfl, hr, ⟨2 * i + 1, by omega, by omega, by unfold par; omega, fun c h0 hc hpc => ?_, by simp only [Tr.get_set_self, Tr.get_set_ne, hd _, ne_eq, Nat.reduceEqDiff, not_false_eq_true, decide_true, Nat.reduceLT]⟩, by ((repeat (with_reducible apply Dom.set)); exact hd), by simp only [Tr.get_set_ne, ne_eq, Nat.reduceEqDiff, not_false_eq_true, h0], by simp only [Tr.get_set_ne, ne_eq, Nat.reduceEqDiff, not_false_eq_true, h1], by simp only [Tr.get_set_ne, ne_eq, Nat.reduceEqDiff, not_false_eq_true, h2], by simp only [Tr.get_set_ne, ne_eq, Nat.reduceEqDiff, not_false_eq_true, h7]⟩
      have : c = 2 * i + 1 := by unfold par at hpc; omega
      subst this
      exact hw.irr _
  clear hd h0 h1 h2 h7 hr
  rintro x t M ⟨rfl, hr, ⟨j, hj0, hjn, hpj, hmin, h9⟩, hd, h0, h1, h2, h7⟩
  show W _ _
  obtain ⟨f, vs, M1, i1, c1, r1⟩ := (H d).less (i := j) (j := i) hr (by omega) (by omega)
  cases hl : lt (l'.getD j d0) (l'.getD i d0) with
  | false =>
    rw [hl] at c1
    refine W_seq (W_seq (W_seqR (by simp only [runSeq_cons, runSeq_nil, evalArgs_nil, evalArgs_tmp, val1, putT, Tr.get_set_self, Tr.get_set_ne, hd _, ne_eq, Nat.reduceEqDiff, not_false_eq_true, decide_true, Nat.reduceLT, opI_move, opI_not, h0, h9, h7, i1, c1]; rfl) ?_))
    refine W_cond (b := true) (by simp only [PArg.eval, Tr.get_set_self, Tr.get_set_ne, hd _, ne_eq, Nat.reduceEqDiff, not_false_eq_true, decide_true, Nat.reduceLT]; try rfl) (fun _ => W_exit ?_) (fun hb => by cases hb)
    refine fin _ _ r1 (by ((repeat (with_reducible apply Dom.set)); exact hd)) (by simp only [Tr.get_set_ne, ne_eq, Nat.reduceEqDiff, not_false_eq_true, h1]) (by simp only [Tr.get_set_ne, ne_eq, Nat.reduceEqDiff, not_false_eq_true, h7]) (fun c h0 hc hpc => ?_)
    unfold InOrd
    rw [hpc]
    exact hw.ntrans _ _ _ hl (hmin c h0 hc hpc)
  | true =>
    rw [hl] at c1
    refine W_seq (W_seq (W_seqR (by simp only [runSeq_cons, runSeq_nil, evalArgs_nil, evalArgs_tmp, val1, putT, Tr.get_set_self, Tr.get_set_ne, hd _, ne_eq, Nat.reduceEqDiff, not_false_eq_true, decide_true, Nat.reduceLT, opI_move, opI_not, h0, h9, h7, i1, c1]; rfl) ?_))
    refine W_cond (b := false) (by simp only [PArg.eval, Tr.get_set_self, Tr.get_set_ne, hd _, ne_eq, Nat.reduceEqDiff, not_false_eq_true, decide_true, Nat.reduceLT]; try rfl) (fun hb => by cases hb) (fun _ => W_skip ?_)
    show W _ _
    have hij : i < j := by unfold par at hpj; omega
    obtain ⟨f2, vs2, r2, M2, i2, c2, hr2⟩ := (H d).swap (i := i) (j := j) r1 (by omega) (by omega)
    refine W_seq (W_seqR (by simp only [runSeq_cons, runSeq_nil, evalArgs_nil, evalArgs_tmp, val1, putT, Tr.get_set_self, Tr.get_set_ne, hd _, ne_eq, Nat.reduceEqDiff, not_false_eq_true, decide_true, Nat.reduceLT, opI_move, h0, h7, h9, i2, c2]; rfl) ?_)
    refine W_seqR (by simp only [runSeq_cons, runSeq_nil, evalArgs_nil, evalArgs_tmp, val1, putT, Tr.get_set_self, Tr.get_set_ne, hd _, ne_eq, Nat.reduceEqDiff, not_false_eq_true, decide_true, Nat.reduceLT, opI_move, h9]; rfl) ?_
    have hi0j : i0 < j := by rcases he with ⟨_, rfl, _⟩ | ⟨_, h⟩ <;> omega
    refine ⟨l.length - j, by omega, j, n, _, rfl, by omega, hr2, (swapL_perm (by omega) (by omega)).trans hp, fun k hk => ?_, ?_, .inr ⟨rfl, hi0j⟩, by ((repeat (with_reducible apply Dom.set)); exact hd), by simp only [Tr.get_set_ne, ne_eq, Nat.reduceEqDiff, not_false_eq_true, h0], by simp only [Tr.get_set_ne, ne_eq, Nat.reduceEqDiff, not_false_eq_true, h1], by simp only [Tr.get_set_ne, ne_eq, Nat.reduceEqDiff, not_false_eq_true, h2], by simp only [Tr.get_set_self, Tr.get_set_ne, hd _, ne_eq, Nat.reduceEqDiff, not_false_eq_true, decide_true, Nat.reduceLT]⟩
    · rw [swapL_get (by omega) (by omega), if_neg (by omega), if_neg (by omega)]
      exact htl k hk
    · exact hu.step hw (he.imp (fun h => h.1) (fun h => h.1)) hj0 hjn hpj (by omega) hl hmin

set_option maxRecDepth 20000 in
set_option maxHeartbeats 2000000 in
theorem push_ok (H : HM D hv Rep d0 enc lt) (hw : WO lt) (d : Nat) {M M1 : AMem} {l : List α} {x : α} {xv r : AV} {f : FuncId} {vs : List AV} (i1 : opI (.invoke [(66, 76)] []) [hv, xv] M = some (.call f vs)) (c1 : callF tbl code 100000 (d + D + 1) f vs M = some (r, M1))
    (hr : Rep M1 (l ++ [x])) (hh : HeapN lt d0 l l.length) (hlen : l.length < 90000) :
    Ans (callF tbl code 100000 (d + D + 2)) 18 [hv, xv] M fun _ M' => ∃ l', Rep M' l' ∧ l'.Perm (l ++ [x]) ∧ HeapN lt d0 l' l'.length := by
  refine Ans_of (tbl_none (by decide) _) (show code 18 = some c18 from by kernel_rfl) (by simp) fun t hd ha => ?_
  have h0 := ha 0 _ rfl
  have h1 := ha 1 _ rfl
  clear ha
  refine W_seq (W_seqR (by simp only [runSeq_cons, runSeq_nil, evalArgs_nil, evalArgs_tmp, val1, putT, Tr.get_set_self, Tr.get_set_ne, hd _, ne_eq, Nat.reduceEqDiff, not_false_eq_true, decide_true, Nat.reduceLT, opI_move, h0, h1, i1, c1]; rfl) ?_)
  obtain ⟨f2, vs2, M2, i2, c2, r2⟩ := (H (d + 1)).len hr
  rw [show d + 1 + D = d + D + 1 by omega] at c2
  have hl : (l ++ [x]).length = l.length + 1 := by simp
  have w1 : wrapF .i64 (((l ++ [x]).length : Int) - 1) = ((l.length : Nat) : Int) := by rw [hl, wrapF_small (by omega) (by omega)]; omega
  obtain ⟨r3, M3, c3, l3, r3', p3, h3⟩ := up_ok H hw d r2 (j := l.length) (by omega) (by rw [hl]; exact UpI.push hh) (by omega)
  refine W_seqR (by simp only [runSeq_cons, runSeq_nil, evalArgs_nil, evalArgs_tmp, evalArgs_const, val1, putT, Tr.get_set_self, Tr.get_set_ne, hd _, ne_eq, Nat.reduceEqDiff, not_false_eq_true, decide_true, Nat.reduceLT, opI_move, opI_sub, opI_callF, h0, i2, c2, w1, c3]; rfl) ?_
  exact ⟨[], rfl, l3, r3', p3, h3⟩

set_option maxRecDepth 20000 in
set_option maxHeartbeats 2000000 in
theorem pop_ok (H : HM D hv Rep d0 enc lt) (hw : WO lt) (d : Nat) {M : AMem} {l : List α} (hr : Rep M l) (hh : HeapN lt d0 l l.length) (hne : 0 < l.length) (hlen : l.length < 90000) :
    Ans (callF tbl code 100000 (d + D + 2)) 20 [hv] M fun r M' => r = enc (l.getD 0 d0) ∧ ∃ l', Rep M' l' ∧ l.Perm (l.getD 0 d0 :: l') ∧ HeapN lt d0 l' l'.length := by
  refine Ans_of (tbl_none (by decide) _) (show code 20 = some c20 from by kernel_rfl) (by simp) fun t hd ha => ?_
  have h0 := ha 0 _ rfl
  clear ha
  obtain ⟨f1, vs1, M1, i1, c1, r1⟩ := (H (d + 1)).len hr
  rw [show d + 1 + D = d + D + 1 by omega] at c1
  have w1 : wrapF .i64 ((l.length : Int) - 1) = ((l.length - 1 : Nat) : Int) := by rw [wrapF_small (by omega) (by omega)]; omega
  refine W_seq (W_seqR (by simp only [runSeq_cons, runSeq_nil, evalArgs_nil, evalArgs_const, val1, putT, opI_move]; rfl) (W_seq (W_seqR (by simp only [runSeq_cons, runSeq_nil, evalArgs_nil, evalArgs_tmp, evalArgs_const, val1, putT, Tr.get_set_self, Tr.get_set_ne, hd _, ne_eq, Nat.reduceEqDiff, not_false_eq_true, decide_true, Nat.reduceLT, opI_move, opI_sub, h0, i1, c1, w1]; rfl) ?_)))
  obtain ⟨f2, vs2, q2, M2, i2, c2, r2⟩ := (H (d + 1)).swap (i := 0) (j := l.length - 1) r1 hne (by omega)
  rw [show d + 1 + D = d + D + 1 by omega] at c2
  have i2' : opI (.invoke [(56, 74)] [(66, 74, false, 1)]) [hv, .int .i64 0, .int .i64 (l.length - 1 : Nat)] M1 = some (.call f2 vs2) := i2
  refine W_seq (W_seqR (by simp only [runSeq_cons, runSeq_nil, evalArgs_nil, evalArgs_tmp, evalArgs_const, val1, putT, Tr.get_set_self, Tr.get_set_ne, hd _, ne_eq, Nat.reduceEqDiff, not_false_eq_true, decide_true, Nat.reduceLT, opI_move, h0, i2', c2]; rfl) ?_)
  have hsl : (swapL d0 l 0 (l.length - 1)).length = l.length := swapL_len
  have hdn : DnI lt d0 (swapL d0 l 0 (l.length - 1)) (l.length - 1) 0 0 := by
    by_cases h1 : l.length = 1
    · exact ⟨fun c h0 hc => by omega, fun c h0 hc => by omega⟩
    · exact DnI.start hw (by rw [show l.length - 1 + 1 = l.length by omega]; exact hh) (by omega) (by omega)
  obtain ⟨q3, M3, c3, l3, r3, p3, t3, hor⟩ := down_ok H hw d r2 (i0 := 0) (n := l.length - 1) (by omega) (by omega) hdn (by omega)
  have c3' : callF tbl code 100000 (d + D + 1) 25 [hv, .int .i64 0, .int .i64 (l.length - 1 : Nat)] M2 = some (q3, M3) := c3
  refine W_seq (W_seqR (by simp only [runSeq_cons, runSeq_nil, evalArgs_nil, evalArgs_tmp, evalArgs_const, val1, putT, Tr.get_set_self, Tr.get_set_ne, hd _, ne_eq, Nat.reduceEqDiff, not_false_eq_true, decide_true, Nat.reduceLT, opI_move, opI_callF, h0, c3']; rfl) ?_)
  have hl3 : l3.length = l.length := by rw [p3.length_eq, hsl]
  have hheap : HeapN lt d0 l3 (l.length - 1) := by
    rcases hor with ⟨_, h⟩ | ⟨_, rfl, h⟩
    · exact h
    · exact fun c h0 hc => h c h0 hc (by omega)
  obtain ⟨f4, vs4, M4, i4, c4, r4⟩ := (H (d + 1)).pop r3 (by omega)
  rw [show d + 1 + D = d + D + 1 by omega] at c4
  refine W_seq (W_seqR (by simp only [runSeq_cons, runSeq_nil, evalArgs_nil, evalArgs_tmp, val1, putT, Tr.get_set_self, Tr.get_set_ne, hd _, ne_eq, Nat.reduceEqDiff, not_false_eq_true, decide_true, Nat.reduceLT, opI_move, h0, i4, c4]; rfl) (W_ret ?_))
  have hlast : l3.getD (l3.length - 1) d0 = l.getD 0 d0 := by
    rw [hl3, t3 _ (Nat.le_refl _), swapL_get hne (by omega), if_pos rfl]
  refine ⟨_, fin_tmp (by simp only [Tr.get_set_self, Tr.get_set_ne, Option.isSome_some, hd _, ne_eq, Nat.reduceEqDiff, not_false_eq_true, decide_true, Nat.reduceLT]; try rfl), ?_, _, r4, ?_, ?_⟩
  · show enc _ = _
    rw [hlast]
  · have hperm : l.Perm l3 := ((swapL_perm (d := d0) hne (show l.length - 1 < l.length by omega)).symm).trans p3.symm
    have hsplit := take_last (d := d0) (l := l3) (n := l3.length - 1) (by omega)
    rw [hlast] at hsplit
    refine hperm.trans ?_
    conv => lhs; rw [hsplit]
    exact List.perm_append_singleton _ _
  · have : (l3.take (l3.length - 1)).length = l.length - 1 := by rw [List.length_take]; omega
    rw [this]
    exact hheap.take (by omega)
end
end Go.Proofs.Ytbjipmhdncfodaa.grf
