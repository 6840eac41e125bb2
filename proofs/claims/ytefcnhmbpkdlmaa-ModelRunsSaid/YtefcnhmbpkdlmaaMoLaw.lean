/- ModelApplies, walked. -/
import Derived.Test.YtefcnhmbpkdlmaaMoRefA
namespace Go.Proofs.Ytefcnhmbpkdlmaa.model
open Go Go.Vx

theorem loads_own5 {M : AMem} {b : Nat} {x y z u w : AV} {sz : Nat} {wr : Bool} {g : Option Nat} (h : M.get b = some (.cells [x, y, z, u, w] sz wr g)) :
    opI (.load true 5) [.ptr (some (b, 0))] M = some (.val (.agg [x, y, z, u, w]) M) := loads_own h (by simp)

theorem wo_len {xs ys : List Int} {a x : Int} (h : wo xs a x = some ys) : ys.length ≤ xs.length + 1 := by
  unfold wo at h
  split at h
  · cases h
    have := List.length_eraseIdx_le (xs) a.toNat
    omega
  · cases h
theorem apD_len {pxs xs ys : List Int} {tks : Option (List Int)} {emp put : Bool} {cd : Int} {n : Nat} (hp : pxs.length ≤ n) (ht : ∀ ys, tks = some ys → ys.length ≤ n) (hx : xs.length ≤ n)
    (h : apD pxs tks emp xs put cd = some ys) : ys.length ≤ n := by
  unfold apD at h
  split at h
  · split at h <;> (cases h; assumption)
  · split at h
    · exact ht _ h
    · split at h
      · split at h
        · cases h; assumption
        · cases h
      · cases h; assumption
theorem ap_len {k x cd : Int} {xs ys : List Int} {put : Bool} (h : ap k xs put x cd = some ys) : ys.length ≤ xs.length + 1 := by
  unfold ap at h
  split at h
  · exact apD_len (by simp) (fun _ h => wo_len h) (by omega) h
  · split at h
    · exact apD_len (by simp) (fun _ h => wo_len h) (by omega) h
    · split at h
      · exact apD_len (by simp) (fun _ h => wo_len h) (by omega) h
      · split at h
        · refine apD_len (by simp) (fun zs h => ?_) (by omega) h
          split at h
          · cases h; omega
          · cases h
        · cases h

set_option maxHeartbeats 2000000 in
theorem applies_ok {k : Int} {v c0 c1 : AV} {xs : List Int} {x cd : Int} {put : Bool} (d : Nat) (M : AMem) (hv : Row M v xs) (hw : Wide v) (hok : Okg M) :
    Ans (callF tbl code 100000 (d + 5)) 3 [.int .i64 k, v, .agg [c0, c1, .bool put, .int .u64 x, .int .i64 cd]] M fun r _ => r = .bool true := by
  refine Ans_of (tbl_none (by decide) _) (show code 3 = some c3 from by kernel_rfl) (by simp) fun t hd ha => ?_
  have h0 := ha 0 _ rfl
  have h1 := ha 1 v rfl
  have h2 := ha 2 _ rfl
  clear ha
  refine W_seq (W_seqR (by simp only [runSeq_cons, runSeq_nil, evalArgs_nil, evalArgs_tmp, evalArgs_const, val1, putT, opI_move, opI_box, cells_agg, h2]; rfl) ?_)
  have s0 := (Step.refl hok).push (k := .cells [c0, c1, .bool put, .int .u64 x, .int .i64 cd] 0 true none) (fun _ _ _ _ he => by cases he)
  have hv0 := hv.grow s0.grow
  have hgb : (M.push (.cells [c0, c1, .bool put, .int .u64 x, .int .i64 cd] 0 true none)).get M.n = some (.cells [c0, c1, .bool put, .int .u64 x, .int .i64 cd] 0 true none) := get_push_self hok.1
  have hbn : M.n < (M.push (.cells [c0, c1, .bool put, .int .u64 x, .int .i64 cd] 0 true none)).n := by rw [push_n]; omega
  generalize hB : M.push (.cells [c0, c1, .bool put, .int .u64 x, .int .i64 cd] 0 true none) = B at *
  have haw : callF tbl code 100000 (d + 4) 5 [] B = some (.bool true, B) := rfl
  have L : ∀ M', Grow B M' → opI (.load true 5) [.ptr (some (M.n, 0))] M' = some (.val (.agg [c0, c1, .bool put, .int .u64 x, .int .i64 cd]) M') := fun M' hg => loads_own5 ((hg.get M.n hbn).trans hgb)
  have lv := hv0.len
  show W _ _
  refine W_seq (W_seq (W_seqR (by simp only [runSeq_cons, runSeq_nil, evalArgs_nil, evalArgs_tmp, val1, putT, Tr.get_set_self, Tr.get_set_ne, hd _, ne_eq, Nat.reduceEqDiff, not_false_eq_true, decide_true, Nat.reduceLT, opI_not, opI_callF, haw]; rfl) ?_))
  refine W_cond (by simp only [PArg.eval, Tr.get_set_self, Tr.get_set_ne, hd _, ne_eq, Nat.reduceEqDiff, not_false_eq_true, decide_true, Nat.reduceLT]; rfl) (fun hb => by simp at hb) (fun _ => W_skip ?_)
  show W _ _
  refine W_seq (W_seq (W_seqR (by simp only [runSeq_cons, runSeq_nil, evalArgs_nil, evalArgs_tmp, evalArgs_const, val1, putT, Tr.get_set_self, Tr.get_set_ne, hd _, ne_eq, Nat.reduceEqDiff, not_false_eq_true, decide_true, Nat.reduceLT, opI_move, opI_gtr, h1, lv]; rfl) ?_))
  refine W_cond (by simp only [PArg.eval, Tr.get_set_self, Tr.get_set_ne, hd _, ne_eq, Nat.reduceEqDiff, not_false_eq_true, decide_true, Nat.reduceLT]; rfl) (fun _ => ?_) (fun hb => W_skip ?_)
  · refine W_seq (W_seqR (by simp only [runSeq_cons, runSeq_nil, evalArgs_nil, evalArgs_const, val1, putT, opI_move]; rfl) (W_ret ?_))
    exact ⟨_, fin_tmp (by simp only [Tr.get_set_self, Tr.get_set_ne, Tr.isSome_set, Option.isSome_some, hd _, ne_eq, Nat.reduceEqDiff, not_false_eq_true, decide_true, Nat.reduceLT]; try rfl), rfl⟩
  have hn : xs.length ≤ 100 := by simp at hb; omega
  show W _ _
  obtain ⟨b0, M1, r, M2, e1, e2, s1, s2, o2⟩ := copy2 hv0 s0.ok (by omega)
  have hr2 := o2.row s2.ok.1
  obtain ⟨ra, M3, ea, out, hra, s3, hnone, hsome⟩ := apply_ok (k := k) (c0 := c0) (c1 := c1) (x := x) (cd := cd) (put := put) d M2 hr2 s2.ok (by omega)
  have s23 := s2.trans s3
  obtain ⟨rb, M4, eb, want, hrb, s4, hwant⟩ := refapply_ok (k := k) (c0 := c0) (c1 := c1) (x := x) (cd := cd) (put := put) (d + 2) M3 (hv0.grow s23.grow) hw s23.ok (by omega)
  have L2 := L M2 s2.grow
  have L3 := L M3 s23.grow
  subst hra
  subst hrb
  refine W_seq (W_seqR (by simp only [runSeq_cons, runSeq_nil, evalArgs_nil, evalArgs_tmp, val1, putT, Tr.get_set_self, Tr.get_set_ne, hd _, ne_eq, Nat.reduceEqDiff, not_false_eq_true, decide_true, Nat.reduceLT, opI_move, h1, e1, e2]; rfl) ?_)
  refine W_seq (W_seqR (by simp only [runSeq_cons, runSeq_nil, evalArgs_nil, evalArgs_tmp, val1, putT, Tr.get_set_self, Tr.get_set_ne, hd _, ne_eq, Nat.reduceEqDiff, not_false_eq_true, decide_true, Nat.reduceLT, opI_move, opI_extract, opI_callF, h0, L2, ea]; rfl) ?_)
  refine W_seq (W_seqR (by simp only [runSeq_cons, runSeq_nil, evalArgs_nil, evalArgs_tmp, val1, putT, Tr.get_set_self, Tr.get_set_ne, hd _, ne_eq, Nat.reduceEqDiff, not_false_eq_true, decide_true, Nat.reduceLT, opI_move, opI_extract, opI_callF, h0, h1, L3, eb]; rfl) ?_)
  have hlen : ∀ ys, ap k xs put x cd = some ys → ys.length ≤ 101 := fun ys h => by have := ap_len h; omega
  generalize ap k xs put x cd = o at *
  obtain ⟨zs, hz, hzl⟩ : ∃ zs, Free M2 M4 out zs ∧ zs.length ≤ 101 := by
    cases o with
    | none => exact ⟨[], .inr ⟨hnone rfl, rfl⟩, by simp⟩
    | some ys => exact ⟨ys, (hsome ys rfl).grow s3.ok.1 s4.grow, hlen ys rfl⟩
  have s24 := s3.trans s4
  have hxor : xorB true true = false := rfl
  refine W_seq (W.mono (Q := fun y t' M' => y = .normal ∧ M' = M4 ∧ Dom t' 73 ∧ t'.get 1 = some v ∧ t'.get 7 = some r ∧ t'.get 8 = some out) ?_ ?_)
  · cases o with
    | none =>
      have hout := hnone rfl
      subst hout
      have e0 : opI .lenS [.slice none 0 0 false] M4 = some (.val (.int .i64 0) M4) := rfl
      refine W_seq (W_seqR (by simp only [runSeq_cons, runSeq_nil, evalArgs_nil, evalArgs_tmp, evalArgs_const, val1, putT, Tr.get_set_self, Tr.get_set_ne, Tr.isSome_set, hd _, ne_eq, Nat.reduceEqDiff, not_false_eq_true, decide_true, Nat.reduceLT, opI_move, opI_not, opI_neq, opI_eqBool, opI_pick, runSeq_guard (b := true), runSeq_guard (b := false), beq_self_eq_true, Bool.false_beq, Bool.not_true, Bool.not_false, Option.isSome_none, e0, bne_self_eq_false, hxor]; rfl) ?_)
      refine W_cond (by simp only [PArg.eval, Tr.get_set_self, Tr.get_set_ne, hd _, ne_eq, Nat.reduceEqDiff, not_false_eq_true, decide_true, Nat.reduceLT]; rfl) (fun hb => by simp at hb) (fun _ => W_skip ?_)
      exact ⟨rfl, rfl, by ((repeat (with_reducible apply Dom.set)); exact hd), by simp only [Tr.get_set_ne, ne_eq, Nat.reduceEqDiff, not_false_eq_true, h1], by simp only [Tr.get_set_self, Tr.get_set_ne, hd _, ne_eq, Nat.reduceEqDiff, not_false_eq_true, decide_true, Nat.reduceLT], by simp only [Tr.get_set_self, Tr.get_set_ne, hd _, ne_eq, Nat.reduceEqDiff, not_false_eq_true, decide_true, Nat.reduceLT]⟩
    | some ys =>
      have hs := same_ok (d + 3) M4 (((hsome ys rfl).grow s3.ok.1 s4.grow).row s4.ok.1) ((hwant ys rfl).row s4.ok.1) (by have := hlen ys rfl; omega)
      rw [show decide (ys = ys) = true from by simp] at hs
      refine W_seq (W_seqR (by simp only [runSeq_cons, runSeq_nil, evalArgs_nil, evalArgs_tmp, evalArgs_const, val1, putT, Tr.get_set_self, Tr.get_set_ne, Tr.isSome_set, Option.isSome_some, hd _, ne_eq, Nat.reduceEqDiff, not_false_eq_true, decide_true, Nat.reduceLT, opI_move, opI_not, opI_eqBool, opI_callF, opI_pick, runSeq_guard (b := true), runSeq_guard (b := false), beq_self_eq_true, Bool.false_beq, Bool.not_true, hs, hxor]; rfl) ?_)
      refine W_cond (by simp only [PArg.eval, Tr.get_set_self, Tr.get_set_ne, hd _, ne_eq, Nat.reduceEqDiff, not_false_eq_true, decide_true, Nat.reduceLT]; rfl) (fun hb => by simp at hb) (fun _ => W_skip ?_)
      exact ⟨rfl, rfl, by ((repeat (with_reducible apply Dom.set)); exact hd), by simp only [Tr.get_set_ne, ne_eq, Nat.reduceEqDiff, not_false_eq_true, h1], by simp only [Tr.get_set_self, Tr.get_set_ne, hd _, ne_eq, Nat.reduceEqDiff, not_false_eq_true, decide_true, Nat.reduceLT], by simp only [Tr.get_set_self, Tr.get_set_ne, hd _, ne_eq, Nat.reduceEqDiff, not_false_eq_true, decide_true, Nat.reduceLT]⟩
  clear h0 h1 h2 hd
  rintro y t' M' ⟨rfl, rfl, hd, h1, h7, h8⟩
  show W _ _
  refine W_seq (W_seq (W_seqR (by simp only [runSeq_cons, runSeq_nil, evalArgs_nil, evalArgs_const, val1, putT, opI_move]; rfl) (W_block (W_loop (fun m t N' => ∃ (i : Nat) (zs' : List Int), m + i = zs.length ∧ zs'.length = zs.length ∧ Step M2 N' ∧ Free M2 N' out zs' ∧ Dom t 73 ∧ t.get 1 = some v ∧ t.get 7 = some r ∧ t.get 8 = some out ∧ t.get 12 = some (.int .i64 i)) (k := zs.length) (by omega) ?_ ?_))))
  · exact ⟨0, zs, rfl, rfl, s24, hz, by ((repeat (with_reducible apply Dom.set)); exact hd), by simp only [Tr.get_set_ne, ne_eq, Nat.reduceEqDiff, not_false_eq_true, h1], by simp only [Tr.get_set_ne, ne_eq, Nat.reduceEqDiff, not_false_eq_true, h7], by simp only [Tr.get_set_ne, ne_eq, Nat.reduceEqDiff, not_false_eq_true, h8], by simp only [Tr.get_set_self, hd _, decide_true, Nat.reduceLT]; rfl⟩
  clear h1 h7 h8 hd
  intro m t' N' ⟨i, zs', hk, hl, sn, hf, hd, h1, h7, h8, h12⟩
  have lo := (hf.row sn.ok.1).len
  refine W_seq (W_seq (W_seqR (by simp only [runSeq_cons, runSeq_nil, evalArgs_nil, evalArgs_tmp, val1, putT, Tr.get_set_self, Tr.get_set_ne, hd _, ne_eq, Nat.reduceEqDiff, not_false_eq_true, decide_true, Nat.reduceLT, opI_move, opI_lss, h8, h12, lo]; rfl) ?_))
  refine W_cond (by simp only [PArg.eval, Tr.get_set_self, Tr.get_set_ne, hd _, ne_eq, Nat.reduceEqDiff, not_false_eq_true, decide_true, Nat.reduceLT]; rfl) (fun hb => ?_) (fun hb => ?_)
  rotate_left
  · refine W_exit ?_
    show W _ _
    have hs := same_ok (d + 3) N' ((o2.grow s2.ok.1 sn.grow).row sn.ok.1) (hv0.grow (s2.grow.trans sn.grow)) (by omega)
    rw [show decide (xs = xs) = true from by simp] at hs
    refine W_seq (W_seqR (by simp only [runSeq_cons, runSeq_nil, evalArgs_nil, evalArgs_tmp, val1, putT, Tr.get_set_self, Tr.get_set_ne, hd _, ne_eq, Nat.reduceEqDiff, not_false_eq_true, decide_true, Nat.reduceLT, opI_move, opI_callF, h7, h1, hs]; rfl) (W_ret ?_))
    exact ⟨_, fin_tmp (by simp only [Tr.get_set_self, Tr.get_set_ne, hd _, ne_eq, Nat.reduceEqDiff, not_false_eq_true, decide_true, Nat.reduceLT]; try rfl), rfl⟩
  have hin : i < zs'.length := by simpa using hb
  refine W_skip ?_
  show W _ _
  rcases hf with hf | ⟨_, he⟩
  · obtain ⟨p, N2, q1, q2, q3, sn2, hf2⟩ := mine_set sn hf hin (wrapF .u64 (zs'[i] + 1))
    refine W_seq (W_block (W_seqR (by simp only [runSeq_cons, runSeq_nil, evalArgs_nil, evalArgs_tmp, evalArgs_const, val1, putT, Tr.get_set_self, Tr.get_set_ne, hd _, ne_eq, Nat.reduceEqDiff, not_false_eq_true, decide_true, Nat.reduceLT, opI_move, opI_add, h8, h12, q1, q2, q3]; rfl) ?_))
    show W _ _
    refine W_seqR (by simp only [runSeq_cons, runSeq_nil, evalArgs_nil, evalArgs_tmp, evalArgs_const, val1, putT, Tr.get_set_self, Tr.get_set_ne, hd _, ne_eq, Nat.reduceEqDiff, not_false_eq_true, decide_true, Nat.reduceLT, opI_move, opI_add, h12]; rfl) ?_
    refine ⟨m - 1, by omega, i + 1, _, by omega, by rw [List.length_set]; exact hl, sn2, .inl hf2, by ((repeat (with_reducible apply Dom.set)); exact hd), by simp only [Tr.get_set_ne, ne_eq, Nat.reduceEqDiff, not_false_eq_true, h1], by simp only [Tr.get_set_ne, ne_eq, Nat.reduceEqDiff, not_false_eq_true, h7], by simp only [Tr.get_set_ne, ne_eq, Nat.reduceEqDiff, not_false_eq_true, h8], ?_⟩
    simp only [Tr.get_set_self, Tr.get_set_ne, hd _, ne_eq, Nat.reduceEqDiff, not_false_eq_true, decide_true, Nat.reduceLT]
    rw [wrapF_small (by omega) (by omega)]; rfl
  · subst he; simp at hin
end Go.Proofs.Ytefcnhmbpkdlmaa.model
