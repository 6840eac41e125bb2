/- The walk of the law StatsOf. -/
import Derived.Test.YtoddncakdnmloaaStRef
namespace Go.Proofs.Ytoddncakdnmloaa.stats
open Go Go.Vx

set_option maxRecDepth 20000 in
set_option maxHeartbeats 2000000 in
theorem same_ok {a b c e f g : Int} (d : Nat) (M : AMem) (hok : Okg M) :
    Ans (callF tbl code 100000 (d + 1)) 7 [.agg (six a b c e f g), .agg (six a b c e f g)] M fun r M' => Step M M' ∧ r = .bool true := by
  refine Ans_of (tbl_none (by decide) _) (show code 7 = some c7 from by kernel_rfl) (by simp) fun t hd ha => ?_
  have h0 := ha 0 _ rfl
  have h1 := ha 1 _ rfl
  clear ha
  refine W_seq (W_seqR (by simp only [runSeq_cons, runSeq_nil, evalArgs_nil, evalArgs_tmp, evalArgs_const, val1, putT, Tr.get_set_ne, ne_eq, Nat.reduceEqDiff, not_false_eq_true, opI_move, opI_box, cells_agg, push_n, h0, h1]; rfl) ?_)
  have s1 := (Step.refl hok).push (k := .cells (six a b c e f g) 0 true none) (fun _ _ _ _ he => by cases he)
  have s2 := s1.push (k := .cells (six a b c e f g) 0 true none) (fun _ _ _ _ he => by cases he)
  have ga := (get_push_old (k := .cells (six a b c e f g) 0 true none) s1.ok.1 (show M.n < M.n + 1 by omega)).trans (get_push_self (k := .cells (six a b c e f g) 0 true none) hok.1)
  have gb := get_push_self (k := .cells (six a b c e f g) 0 true none) s1.ok.1
  simp only [push_n] at gb
  have A0 := load_own (o := 0) ga rfl
  have A1 := load_own (o := 1) ga rfl
  have A2 := load_own (o := 2) ga rfl
  have A3 := load_own (o := 3) ga rfl
  have A4 := load_own (o := 4) ga rfl
  have A5 := load_own (o := 5) ga rfl
  have B0 := load_own (o := 0) gb rfl
  have B1 := load_own (o := 1) gb rfl
  have B2 := load_own (o := 2) gb rfl
  have B3 := load_own (o := 3) gb rfl
  have B4 := load_own (o := 4) gb rfl
  have B5 := load_own (o := 5) gb rfl
  refine W_seq (W_seqR (by simp only [runSeq_cons, runSeq_nil, evalArgs_nil, evalArgs_tmp, evalArgs_const, val1, putT, Tr.get_set_self, Tr.get_set_ne, Tr.isSome_set, hd _, ne_eq, Nat.reduceEqDiff, not_false_eq_true, decide_true, Nat.reduceLT, opI_move, opI_eql, opI_fieldP, opI_pick, Nat.zero_add, Nat.add_zero, runSeq_guard (b := true), beq_self_eq_true, A0, A1, A2, A3, A4, A5, B0, B1, B2, B3, B4, B5, beq_self_eq_true]; rfl) (W_ret ?_))
  exact ⟨_, fin_tmp (by simp only [Tr.get_set_self, Tr.get_set_ne, Tr.isSome_set, Option.isSome_some, hd _, ne_eq, Nat.reduceEqDiff, not_false_eq_true, decide_true, Nat.reduceLT]; try rfl), s2, rfl⟩
theorem ofP_six (xs : List Int) : ∃ a b c e f g, ofP xs = six a b c e f g := by
  unfold ofP
  split
  · exact ⟨_, _, _, _, _, _, rfl⟩
  · exact ⟨_, _, _, _, _, _, rfl⟩
set_option maxHeartbeats 2000000 in
theorem statsOf_ok {v : AV} {xs : List Int} (d : Nat) (M : AMem) (hok : Okg M) (hv : IRow M .i64 v xs) :
    Ans (callF tbl code 100000 (d + 4)) 3 [v] M fun r _ => r = .bool true := by
  refine Ans_of (tbl_none (by decide) _) (show code 3 = some c3 from by kernel_rfl) (by simp) fun t hd ha => ?_
  have h0 := ha 0 _ rfl
  clear ha
  have lv := hv.len
  have aw : callF tbl code 100000 (d + 3) 6 [] M = some (.bool true, M) := rfl
  refine W_seq (W_seqR (by simp only [runSeq_cons, runSeq_nil, evalArgs_nil, evalArgs_const, val1, putT, opI_move]; rfl) (W_seq (W_seq (W_seqR (by simp only [runSeq_cons, runSeq_nil, evalArgs_nil, evalArgs_tmp, val1, putT, Tr.get_set_self, Tr.get_set_ne, hd _, ne_eq, Nat.reduceEqDiff, not_false_eq_true, decide_true, Nat.reduceLT, opI_not, opI_callF, aw]; rfl) ?_))))
  refine W_cond (b := false) (by simp only [PArg.eval, Tr.get_set_self, Tr.get_set_ne, hd _, ne_eq, Nat.reduceEqDiff, not_false_eq_true, decide_true, Nat.reduceLT]; try rfl) (fun hb => by cases hb) (fun _ => W_skip ?_)
  refine W_seq (W_seq (W_seqR (by simp only [runSeq_cons, runSeq_nil, evalArgs_nil, evalArgs_tmp, evalArgs_const, val1, putT, Tr.get_set_self, Tr.get_set_ne, hd _, ne_eq, Nat.reduceEqDiff, not_false_eq_true, decide_true, Nat.reduceLT, opI_move, opI_gtr, h0, lv]; rfl) ?_))
  refine W_cond (by simp only [PArg.eval, Tr.get_set_self, Tr.get_set_ne, hd _, ne_eq, Nat.reduceEqDiff, not_false_eq_true, decide_true, Nat.reduceLT]; rfl) (fun _ => ?_) (fun hb => W_skip ?_)
  · refine W_seq (W_seqR (by simp only [runSeq_cons, runSeq_nil, evalArgs_nil, evalArgs_const, val1, putT, opI_move]; rfl) (W_ret ?_))
    exact ⟨_, fin_tmp (by simp only [Tr.get_set_self, Tr.get_set_ne, Option.isSome_some, hd _, ne_eq, Nat.reduceEqDiff, not_false_eq_true, decide_true, Nat.reduceLT]; try rfl), rfl⟩
  have hn : xs.length ≤ 200 := by simp at hb; omega
  obtain ⟨_, M1, c1, s1, rfl⟩ := of_ok (d + 1) M hok hv (by omega)
  obtain ⟨_, M2, c2, s2, rfl⟩ := refof_ok (d + 1) M1 s1.ok (hv.grow s1.grow) (by omega)
  obtain ⟨a, b, c, e, f, g, hs⟩ := ofP_six xs
  rw [hs] at c1 c2
  obtain ⟨_, M3, c3, s3, rfl⟩ := same_ok (a := a) (b := b) (c := c) (e := e) (f := f) (g := g) (d + 2) M2 s2.ok
  show W _ _
  refine W_seq (W_seqR (by simp only [runSeq_cons, runSeq_nil, evalArgs_nil, evalArgs_tmp, val1, putT, Tr.get_set_self, Tr.get_set_ne, hd _, ne_eq, Nat.reduceEqDiff, not_false_eq_true, decide_true, Nat.reduceLT, opI_move, opI_callF, h0, c1, c2, c3]; rfl) (W_ret ?_))
  exact ⟨_, fin_tmp (by simp only [Tr.get_set_self, Tr.get_set_ne, Option.isSome_some, hd _, ne_eq, Nat.reduceEqDiff, not_false_eq_true, decide_true, Nat.reduceLT]; try rfl), rfl⟩
end Go.Proofs.Ytoddncakdnmloaa.stats
