/- The walks of a timer's New, check, Now, Len, Add and Drop. -/
import Derived.Test.YtbjipmhdncfodaaTmMap
namespace Go.Proofs.Ytbjipmhdncfodaa.grf
open Go Go.Vx

structure TS (M0 M : AMem) (J : Nat → Prop) (tb mb : Nat) (l : List En) (nn now : Int) : Prop where
  h : TSh M0 M J tb mb l nn now
  m : MapT M mb l
  ns : ∀ x ∈ l, 0 ≤ x.n ∧ x.n < nn
def chk (at_ now : Int) : Int := if at_ < 0 ∨ at_ > 1099511627776 then 2 else if at_ < now then 15 else 0
section
variable {M0 M : AMem} {J : Nat → Prop} {tb mb : Nat} {l : List En} {nn now : Int}
theorem TSh.now_ (h : TSh M0 M J tb mb l nn now) : opI (.load false 1) [.ptr (some (tb, 3))] M = some (.val (.int .i64 now) M) ∧ opI (.load false 1) [.ptr (some (tb, 2))] M = some (.val (.int .i64 nn) M) ∧ opI (.load false 1) [.ptr (some (tb, 1))] M = some (.val (.map (some mb)) M) := by
  obtain ⟨v, γ, g1, _⟩ := h.row
  exact ⟨load_own (o := 3) g1 rfl, load_own (o := 2) g1 rfl, load_own (o := 1) g1 rfl⟩
set_option maxHeartbeats 1000000 in
theorem check_ok (h : TSh M0 M J tb mb l nn now) (d : Nat) (x : Int) : callF tbl code 100000 (d + 1) 17 [.ptr (some (tb, 0)), .int .i64 x] M = some (.int .i64 (chk x now), M) := by
  refine Ans.eq ?_
  refine Ans_of (tbl_none (by decide) _) (show code 17 = some c17 from by kernel_rfl) (by simp) fun t hd ha => ?_
  have h0 := ha 0 _ rfl
  have h1 := ha 1 _ rfl
  clear ha
  obtain ⟨n1, _, _⟩ := h.now_
  refine W_seq (W_seqR (by simp only [runSeq_cons, runSeq_nil, evalArgs_nil, evalArgs_const, val1, putT, opI_move]; rfl) (W_seq (W_block (W_seq (W_seqR (by simp only [runSeq_cons, runSeq_nil, evalArgs_nil, evalArgs_tmp, evalArgs_const, val1, putT, Tr.get_set_self, Tr.get_set_ne, hd _, ne_eq, Nat.reduceEqDiff, not_false_eq_true, decide_true, Nat.reduceLT, opI_move, h0]; rfl) ?_)))))
  refine W_cond (b := false) (by simp only [PArg.eval, Tr.get_set_self, Tr.get_set_ne, hd _, ne_eq, Nat.reduceEqDiff, not_false_eq_true, decide_true, Nat.reduceLT]; try rfl) (fun hb => by cases hb) (fun _ => ?_)
  by_cases c1 : x < 0
  · have e1 : decide (x < 0) = true := decide_eq_true c1
    refine W_seq (W_seqR (by simp only [runSeq_cons, runSeq_nil, evalArgs_nil, evalArgs_tmp, evalArgs_const, val1, putT, Tr.get_set_self, Tr.get_set_ne, Tr.isSome_set, hd _, ne_eq, Nat.reduceEqDiff, not_false_eq_true, decide_true, Nat.reduceLT, opI_move, opI_lss, opI_pick, runSeq_guard (b := true), Bool.true_beq, h1, e1]; rfl) ?_)
    refine W_cond (b := true) (by simp only [PArg.eval, Tr.get_set_self, Tr.get_set_ne, hd _, ne_eq, Nat.reduceEqDiff, not_false_eq_true, decide_true, Nat.reduceLT]; try rfl) (fun _ => ?_) (fun hb => by cases hb)
    refine W_seq (W_seqR (by simp only [runSeq_cons, runSeq_nil, evalArgs_nil, evalArgs_const, val1, putT, opI_move]; rfl) (W_ret ?_))
    exact ⟨_, fin_tmp (by simp only [Tr.get_set_self, Tr.get_set_ne, Option.isSome_some, hd _, ne_eq, Nat.reduceEqDiff, not_false_eq_true, decide_true, Nat.reduceLT]; try rfl), rfl, by unfold chk; rw [if_pos (.inl c1)]; rfl⟩
  have e1 : decide (x < 0) = false := decide_eq_false c1
  by_cases c2 : x > 1099511627776
  · have e2 : decide (x > 1099511627776) = true := decide_eq_true c2
    refine W_seq (W_seqR (by simp only [runSeq_cons, runSeq_nil, evalArgs_nil, evalArgs_tmp, evalArgs_const, val1, putT, Tr.get_set_self, Tr.get_set_ne, Tr.isSome_set, hd _, ne_eq, Nat.reduceEqDiff, not_false_eq_true, decide_true, Nat.reduceLT, opI_move, opI_lss, opI_gtr, opI_pick, runSeq_guard (b := false), beq_self_eq_true, h1, e1, e2]; rfl) ?_)
    refine W_cond (b := true) (by simp only [PArg.eval, Tr.get_set_self, Tr.get_set_ne, hd _, ne_eq, Nat.reduceEqDiff, not_false_eq_true, decide_true, Nat.reduceLT]; try rfl) (fun _ => ?_) (fun hb => by cases hb)
    refine W_seq (W_seqR (by simp only [runSeq_cons, runSeq_nil, evalArgs_nil, evalArgs_const, val1, putT, opI_move]; rfl) (W_ret ?_))
    exact ⟨_, fin_tmp (by simp only [Tr.get_set_self, Tr.get_set_ne, Option.isSome_some, hd _, ne_eq, Nat.reduceEqDiff, not_false_eq_true, decide_true, Nat.reduceLT]; try rfl), rfl, by unfold chk; rw [if_pos (.inr c2)]; rfl⟩
  have e2 : decide (x > 1099511627776) = false := decide_eq_false c2
  have hno : ¬ (x < 0 ∨ x > 1099511627776) := by omega
  refine W_seq (W_seqR (by simp only [runSeq_cons, runSeq_nil, evalArgs_nil, evalArgs_tmp, evalArgs_const, val1, putT, Tr.get_set_self, Tr.get_set_ne, Tr.isSome_set, hd _, ne_eq, Nat.reduceEqDiff, not_false_eq_true, decide_true, Nat.reduceLT, opI_move, opI_lss, opI_gtr, opI_pick, runSeq_guard (b := false), beq_self_eq_true, h1, e1, e2]; rfl) ?_)
  refine W_cond (b := false) (by simp only [PArg.eval, Tr.get_set_self, Tr.get_set_ne, hd _, ne_eq, Nat.reduceEqDiff, not_false_eq_true, decide_true, Nat.reduceLT]; try rfl) (fun hb => by cases hb) (fun _ => ?_)
  by_cases c3 : x < now
  · have e3 : decide (x < now) = true := decide_eq_true c3
    refine W_seq (W_seqR (by simp only [runSeq_cons, runSeq_nil, evalArgs_nil, evalArgs_tmp, val1, putT, Tr.get_set_self, Tr.get_set_ne, hd _, ne_eq, Nat.reduceEqDiff, not_false_eq_true, decide_true, Nat.reduceLT, opI_move, opI_lss, opI_fieldP, Nat.zero_add, h0, h1, opI_nilP, n1, e3]; rfl) ?_)
    refine W_cond (b := true) (by simp only [PArg.eval, Tr.get_set_self, Tr.get_set_ne, hd _, ne_eq, Nat.reduceEqDiff, not_false_eq_true, decide_true, Nat.reduceLT]; try rfl) (fun _ => ?_) (fun hb => by cases hb)
    refine W_seq (W_seqR (by simp only [runSeq_cons, runSeq_nil, evalArgs_nil, evalArgs_const, val1, putT, opI_move]; rfl) (W_ret ?_))
    exact ⟨_, fin_tmp (by simp only [Tr.get_set_self, Tr.get_set_ne, Option.isSome_some, hd _, ne_eq, Nat.reduceEqDiff, not_false_eq_true, decide_true, Nat.reduceLT]; try rfl), rfl, by unfold chk; rw [if_neg hno, if_pos c3]; rfl⟩
  have e3 : decide (x < now) = false := decide_eq_false c3
  refine W_seq (W_seqR (by simp only [runSeq_cons, runSeq_nil, evalArgs_nil, evalArgs_tmp, val1, putT, Tr.get_set_self, Tr.get_set_ne, hd _, ne_eq, Nat.reduceEqDiff, not_false_eq_true, decide_true, Nat.reduceLT, opI_move, opI_lss, opI_fieldP, Nat.zero_add, h0, h1, opI_nilP, n1, e3]; rfl) ?_)
  refine W_cond (b := false) (by simp only [PArg.eval, Tr.get_set_self, Tr.get_set_ne, hd _, ne_eq, Nat.reduceEqDiff, not_false_eq_true, decide_true, Nat.reduceLT]; try rfl) (fun hb => by cases hb) (fun _ => W_skip ?_)
  show W _ _
  refine W_seq (W_seqR (by simp only [runSeq_cons, runSeq_nil, evalArgs_nil, evalArgs_const, val1, putT, opI_move]; rfl) (W_ret ?_))
  exact ⟨_, fin_tmp (by simp only [Tr.get_set_self, Tr.get_set_ne, Option.isSome_some, hd _, ne_eq, Nat.reduceEqDiff, not_false_eq_true, decide_true, Nat.reduceLT]; try rfl), rfl, by unfold chk; rw [if_neg hno, if_neg c3]; rfl⟩
set_option maxHeartbeats 1000000 in
theorem now_ok (h : TSh M0 M J tb mb l nn now) (d : Nat) : callF tbl code 100000 (d + 1) 9 [.ptr (some (tb, 0))] M = some (.int .i64 now, M) := by
  refine Ans.eq ?_
  refine Ans_of (tbl_none (by decide) _) (show code 9 = some c9 from by kernel_rfl) (by simp) fun t hd ha => ?_
  have h0 := ha 0 _ rfl
  clear ha
  obtain ⟨n1, _, _⟩ := h.now_
  refine W_seq (W_seqR (by simp only [runSeq_cons, runSeq_nil, evalArgs_nil, evalArgs_const, val1, putT, opI_move]; rfl) (W_seq (W_seq (W_seqR (by simp only [runSeq_cons, runSeq_nil, evalArgs_nil, evalArgs_tmp, evalArgs_const, val1, putT, Tr.get_set_self, Tr.get_set_ne, hd _, ne_eq, Nat.reduceEqDiff, not_false_eq_true, decide_true, Nat.reduceLT, opI_move, h0]; rfl) ?_))))
  refine W_cond (b := false) (by simp only [PArg.eval, Tr.get_set_self, Tr.get_set_ne, hd _, ne_eq, Nat.reduceEqDiff, not_false_eq_true, decide_true, Nat.reduceLT]; try rfl) (fun hb => by cases hb) (fun _ => W_skip ?_)
  show W _ _
  refine W_seq (W_seqR (by simp only [runSeq_cons, runSeq_nil, evalArgs_nil, evalArgs_tmp, val1, putT, Tr.get_set_self, Tr.get_set_ne, hd _, ne_eq, Nat.reduceEqDiff, not_false_eq_true, decide_true, Nat.reduceLT, opI_move, opI_fieldP, Nat.zero_add, h0, opI_nilP, n1]; rfl) (W_ret ?_))
  exact ⟨_, fin_tmp (by simp only [Tr.get_set_self, Tr.get_set_ne, Option.isSome_some, hd _, ne_eq, Nat.reduceEqDiff, not_false_eq_true, decide_true, Nat.reduceLT]; try rfl), rfl, rfl⟩
set_option maxHeartbeats 1000000 in
theorem len_ok (h : TSh M0 M J tb mb l nn now) (d : Nat) : callF tbl code 100000 (d + 1) 11 [.ptr (some (tb, 0))] M = some (.int .i64 l.length, M) := by
  refine Ans.eq ?_
  refine Ans_of (tbl_none (by decide) _) (show code 11 = some c11 from by kernel_rfl) (by simp) fun t hd ha => ?_
  have h0 := ha 0 _ rfl
  clear ha
  obtain ⟨v, n1, n2, _⟩ := h.hlen
  refine W_seq (W_seqR (by simp only [runSeq_cons, runSeq_nil, evalArgs_nil, evalArgs_const, val1, putT, opI_move]; rfl) (W_seq (W_seq (W_seqR (by simp only [runSeq_cons, runSeq_nil, evalArgs_nil, evalArgs_tmp, evalArgs_const, val1, putT, Tr.get_set_self, Tr.get_set_ne, hd _, ne_eq, Nat.reduceEqDiff, not_false_eq_true, decide_true, Nat.reduceLT, opI_move, h0]; rfl) ?_))))
  refine W_cond (b := false) (by simp only [PArg.eval, Tr.get_set_self, Tr.get_set_ne, hd _, ne_eq, Nat.reduceEqDiff, not_false_eq_true, decide_true, Nat.reduceLT]; try rfl) (fun hb => by cases hb) (fun _ => W_skip ?_)
  show W _ _
  refine W_seq (W_seqR (by simp only [runSeq_cons, runSeq_nil, evalArgs_nil, evalArgs_tmp, val1, putT, Tr.get_set_self, Tr.get_set_ne, hd _, ne_eq, Nat.reduceEqDiff, not_false_eq_true, decide_true, Nat.reduceLT, opI_move, opI_fieldP, Nat.add_zero, h0, opI_nilP, n1, n2]; rfl) (W_ret ?_))
  exact ⟨_, fin_tmp (by simp only [Tr.get_set_self, Tr.get_set_ne, Option.isSome_some, hd _, ne_eq, Nat.reduceEqDiff, not_false_eq_true, decide_true, Nat.reduceLT]; try rfl), rfl, rfl⟩
end
end Go.Proofs.Ytbjipmhdncfodaa.grf
