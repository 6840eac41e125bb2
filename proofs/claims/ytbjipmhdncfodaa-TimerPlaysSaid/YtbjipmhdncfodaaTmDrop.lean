/- The walk of a timer's Drop. -/
import Derived.Test.YtbjipmhdncfodaaTmAct
namespace Go.Proofs.Ytbjipmhdncfodaa.grf
open Go Go.Vx
section
variable {M0 M : AMem} {J : Nat → Prop} {tb mb : Nat} {l : List En} {nn now : Int}
theorem jm_not {i : Nat} : (fun i => J i ∧ i ≠ mb) i → i ≠ mb := fun h => h.2
set_option maxRecDepth 20000 in
set_option maxHeartbeats 2000000 in
theorem drop_ok (h : TS M0 M J tb mb l nn now) (d : Nat) (n : Int) : Ans (callF tbl code 100000 (d + 7)) 8 [.ptr (some (tb, 0)), .int .i64 n] M fun r M' => Step M0 M' ∧ M.n ≤ M'.n ∧ Fr M M' J ∧
    ((∃ x l', x ∈ l ∧ x.n = n ∧ l.Perm (x :: l') ∧ r = .int .i64 0 ∧ TS M0 M' J tb mb l' nn now) ∨ ((∀ x ∈ l, x.n ≠ n) ∧ r = .int .i64 15 ∧ M' = M)) := by
  refine Ans_of (tbl_none (by decide) _) (show code 8 = some c8 from by kernel_rfl) (by simp) fun t hd ha => ?_
  have h0 := ha 0 _ rfl
  have h1 := ha 1 _ rfl
  clear ha
  obtain ⟨_, _, p1⟩ := h.h.now_
  refine W_seq (W_seqR (by simp only [runSeq_cons, runSeq_nil, evalArgs_nil, evalArgs_const, val1, putT, opI_move]; rfl) (W_seq (W_seq (W_seqR (by simp only [runSeq_cons, runSeq_nil, evalArgs_nil, evalArgs_tmp, evalArgs_const, val1, putT, Tr.get_set_self, Tr.get_set_ne, hd _, ne_eq, Nat.reduceEqDiff, not_false_eq_true, decide_true, Nat.reduceLT, opI_move, h0]; rfl) ?_))))
  refine W_cond (b := false) (by simp only [PArg.eval, Tr.get_set_self, Tr.get_set_ne, hd _, ne_eq, Nat.reduceEqDiff, not_false_eq_true, decide_true, Nat.reduceLT]; try rfl) (fun hb => by cases hb) (fun _ => W_skip ?_)
  show W _ _
  by_cases hx : ∃ x ∈ l, x.n = n
  rotate_left
  · have hno : ∀ x ∈ l, x.n ≠ n := fun x hm he => hx ⟨x, hm, he⟩
    have f1 := h.m.lost hno
    refine W_seq (W_seqR (by simp only [runSeq_cons, runSeq_nil, evalArgs_nil, evalArgs_tmp, val1, putT, Tr.get_set_self, Tr.get_set_ne, hd _, ne_eq, Nat.reduceEqDiff, not_false_eq_true, decide_true, Nat.reduceLT, opI_move, opI_extract, opI_fieldP, Nat.zero_add, h0, h1, opI_nilP, p1, f1, List.getElem?_cons_zero, List.getElem?_cons_succ]; rfl) ?_)
    refine W_seq (W_seq (W_seqR (by simp only [runSeq_cons, runSeq_nil, evalArgs_nil, evalArgs_tmp, val1, putT, Tr.get_set_self, Tr.get_set_ne, hd _, ne_eq, Nat.reduceEqDiff, not_false_eq_true, decide_true, Nat.reduceLT, opI_move, opI_not]; rfl) ?_))
    refine W_cond (b := true) (by simp only [PArg.eval, Tr.get_set_self, Tr.get_set_ne, hd _, ne_eq, Nat.reduceEqDiff, not_false_eq_true, decide_true, Nat.reduceLT]; try rfl) (fun _ => ?_) (fun hb => by cases hb)
    refine W_seq (W_seqR (by simp only [runSeq_cons, runSeq_nil, evalArgs_nil, evalArgs_const, val1, putT, opI_move]; rfl) (W_ret ?_))
    exact ⟨_, fin_tmp (by simp only [Tr.get_set_self, Tr.get_set_ne, Option.isSome_some, hd _, ne_eq, Nat.reduceEqDiff, not_false_eq_true, decide_true, Nat.reduceLT]; try rfl), h.h.step, Nat.le_refl _, Fr.refl, .inr ⟨hno, rfl, rfl⟩⟩
  obtain ⟨x, hxm, rfl⟩ := hx
  have f1 := h.m.find hxm
  refine W_seq (W_seqR (by simp only [runSeq_cons, runSeq_nil, evalArgs_nil, evalArgs_tmp, val1, putT, Tr.get_set_self, Tr.get_set_ne, hd _, ne_eq, Nat.reduceEqDiff, not_false_eq_true, decide_true, Nat.reduceLT, opI_move, opI_extract, opI_fieldP, Nat.zero_add, h0, h1, opI_nilP, p1, f1, List.getElem?_cons_zero, List.getElem?_cons_succ]; rfl) ?_)
  refine W_seq (W_seq (W_seqR (by simp only [runSeq_cons, runSeq_nil, evalArgs_nil, evalArgs_tmp, val1, putT, Tr.get_set_self, Tr.get_set_ne, hd _, ne_eq, Nat.reduceEqDiff, not_false_eq_true, decide_true, Nat.reduceLT, opI_move, opI_not]; rfl) ?_))
  refine W_cond (b := false) (by simp only [PArg.eval, Tr.get_set_self, Tr.get_set_ne, hd _, ne_eq, Nat.reduceEqDiff, not_false_eq_true, decide_true, Nat.reduceLT]; try rfl) (fun hb => by cases hb) (fun _ => W_skip ?_)
  show W _ _
  obtain ⟨i, hi, rfl⟩ := List.mem_iff_getElem.1 hxm
  have hget : l.getD i dEn = l[i] := by rw [List.getD_eq_getElem?_getD, List.getElem?_eq_getElem hi]; rfl
  have hent := h.h.ents i hi
  rw [hget] at hent
  have L3 := load_own (o := 3) hent rfl
  obtain ⟨r1, M1, c1, s1, n1, fr1, l', hT, hp⟩ := h.h.remove d hi
  rw [hget] at hp
  have mk1 : ∀ (t : TypeId) (u : AV) (M : AMem), opI (.mkIface t) [u] M = some (.val (.iface t u) M) := fun _ _ _ => rfl
  have q0 := held_none h.h.step.ok.1
  refine W_seq (W_trace (M' := M1) rfl (by simp only [sameN_self, evalArgs_nil, evalArgs_tmp, val1, putT, Tr.get_set_self, Tr.get_set_ne, hd _, ne_eq, Nat.reduceEqDiff, not_false_eq_true, decide_true, Nat.reduceLT, opI_move, opI_callF, opI_fieldP, Nat.zero_add, Nat.add_zero, trace_nil, trace_read, trace_eff, addR_some, addE_some, Bool.false_and, Bool.not_true, h0, opI_nilP, mk1, L3, c1, q0]; rfl) (by simp [checkRec, isLoad]) rfl ?_)
  have hm1 := h.m.frame fr1 (fun hh => hh.2 rfl)
  obtain ⟨M2, e2, s2, f2, n2, hm2⟩ := hm1.drop s1 (h.h.jlo _ h.h.jm).1 hp
  obtain ⟨_, _, p2⟩ := hT.now_
  refine W_seq (W_seqR (by simp only [runSeq_cons, runSeq_nil, evalArgs_nil, evalArgs_tmp, val1, putT, Tr.get_set_self, Tr.get_set_ne, hd _, ne_eq, Nat.reduceEqDiff, not_false_eq_true, decide_true, Nat.reduceLT, opI_move, opI_fieldP, Nat.zero_add, h0, h1, opI_nilP, p2, e2]; rfl) ?_)
  refine W_seq (W_seqR (by simp only [runSeq_cons, runSeq_nil, evalArgs_nil, evalArgs_const, val1, putT, opI_move]; rfl) (W_ret ?_))
  refine ⟨_, fin_tmp (by simp only [Tr.get_set_self, Tr.get_set_ne, Option.isSome_some, hd _, ne_eq, Nat.reduceEqDiff, not_false_eq_true, decide_true, Nat.reduceLT]; try rfl), s2, by omega, (fr1.mono (fun _ hh => hh.1)).trans (f2.mono (fun _ hh => hh ▸ h.h.jm)), .inl ⟨l[i], l', hxm, rfl, hp, rfl, hT.frame s2 (by omega) f2 (fun j _ hj => hj), hm2, fun y hy => h.ns y (hp.mem_iff.2 (List.mem_cons_of_mem _ hy))⟩⟩
end
end Go.Proofs.Ytbjipmhdncfodaa.grf
