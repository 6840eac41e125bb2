/- The walk of the law NumReads. -/
import Derived.Test.YtphdlmmllahgkaaDoorNuList
namespace Go.Proofs.YtphdlmmllahgkaaDoor.num
open Go Go.Vx Go.Lib
set_option maxRecDepth 20000 in
set_option maxHeartbeats 8000000 in
theorem numReads_ok (d : Nat) (M0 : AMem) (hok : Okg M0) (l : List UInt8) (u : Nat) (hu : u ≤ 18446744073709551615) :
    Ans (callF tbl code 100000 (d + 4)) 3 [.str (SB l), .int .u64 u] M0 fun r _ => r = .bool true := by
  refine Ans_of (tbl_none (by decide) _) (show code 3 = some c3 from by kernel_rfl) (by simp) fun t hd ha => ?_
  have h0 := ha 0 _ rfl
  have h1 := ha 1 _ rfl
  clear ha
  obtain ⟨_, M1, c1, rfl, s1⟩ := awake_ok d M0 hok
  refine W_seq (W_seqR (by simp only [runSeq_cons, runSeq_nil, evalArgs_nil, evalArgs_const, val1, putT, opI_move]; rfl) ?_)
  refine W_seq (W_seq (W_seqR (by simp only [runSeq_cons, runSeq_nil, evalArgs_nil, evalArgs_tmp, val1, putT, Tr.get_set_self, Tr.get_set_ne, hd _, ne_eq, Nat.reduceEqDiff, not_false_eq_true, decide_true, Nat.reduceLT, opI_not, opI_callF, c1]; rfl) ?_))
  refine W_cond (b := false) (by simp only [PArg.eval, Tr.get_set_self, Tr.get_set_ne, hd _, ne_eq, Nat.reduceEqDiff, not_false_eq_true, decide_true, Nat.reduceLT]; try rfl) (fun hb => by cases hb) (fun _ => W_skip ?_)
  show W _ _
  have ls := opI_lenStr (M := M1) (l := l)
  by_cases hbig : l.length > 400
  · have e1 : decide ((l.length : Int) > 400) = true := decide_eq_true (by omega)
    refine W_seq (W_seq (W_seqR (by simp only [runSeq_cons, runSeq_nil, evalArgs_nil, evalArgs_tmp, evalArgs_const, val1, putT, Tr.get_set_self, Tr.get_set_ne, hd _, ne_eq, Nat.reduceEqDiff, not_false_eq_true, decide_true, Nat.reduceLT, opI_move, opI_gtr, h0, ls, e1]; rfl) ?_))
    refine W_cond (b := true) (by simp only [PArg.eval, Tr.get_set_self, Tr.get_set_ne, hd _, ne_eq, Nat.reduceEqDiff, not_false_eq_true, decide_true, Nat.reduceLT]; try rfl) (fun _ => ?_) (fun hb => by cases hb)
    refine W_seq (W_seqR (by simp only [runSeq_cons, runSeq_nil, evalArgs_nil, evalArgs_const, val1, putT, opI_move]; rfl) (W_ret ?_))
    exact ⟨_, fin_tmp (by simp only [Tr.get_set_self, Tr.get_set_ne, Option.isSome_some, hd _, ne_eq, Nat.reduceEqDiff, not_false_eq_true, decide_true, Nat.reduceLT]; try rfl), rfl⟩
  have e1 : decide ((l.length : Int) > 400) = false := decide_eq_false (by omega)
  refine W_seq (W_seq (W_seqR (by simp only [runSeq_cons, runSeq_nil, evalArgs_nil, evalArgs_tmp, evalArgs_const, val1, putT, Tr.get_set_self, Tr.get_set_ne, hd _, ne_eq, Nat.reduceEqDiff, not_false_eq_true, decide_true, Nat.reduceLT, opI_move, opI_gtr, h0, ls, e1]; rfl) ?_))
  refine W_cond (b := false) (by simp only [PArg.eval, Tr.get_set_self, Tr.get_set_ne, hd _, ne_eq, Nat.reduceEqDiff, not_false_eq_true, decide_true, Nat.reduceLT]; try rfl) (fun hb => by cases hb) (fun _ => W_skip ?_)
  show W _ _
  have r1 := read_call (d + 2) M1 l (by omega)
  refine W_seq (W_seqR (by simp only [runSeq_cons, runSeq_nil, evalArgs_nil, evalArgs_tmp, val1, putT, Tr.get_set_self, Tr.get_set_ne, hd _, ne_eq, Nat.reduceEqDiff, not_false_eq_true, decide_true, Nat.reduceLT, opI_move, opI_extract, opI_callF, h0, r1, List.getElem?_cons_zero, List.getElem?_cons_succ]; rfl) ?_)
  have r2 := refread_ok (d + 2) M1 l (by omega)
  refine W_seq (W_seqR (by simp only [runSeq_cons, runSeq_nil, evalArgs_nil, evalArgs_tmp, val1, putT, Tr.get_set_self, Tr.get_set_ne, hd _, ne_eq, Nat.reduceEqDiff, not_false_eq_true, decide_true, Nat.reduceLT, opI_move, opI_extract, opI_callF, h0, r2, List.getElem?_cons_zero, List.getElem?_cons_succ]; rfl) ?_)
  have p1 := print_call (d + 2) M1 u hu
  refine W_seq (W_seqR (by simp only [runSeq_cons, runSeq_nil, evalArgs_nil, evalArgs_tmp, val1, putT, Tr.get_set_self, Tr.get_set_ne, hd _, ne_eq, Nat.reduceEqDiff, not_false_eq_true, decide_true, Nat.reduceLT, opI_move, opI_callF, h1, p1]; rfl) ?_)
  have r3 := read_call (d + 2) M1 (decDigits u) (by have := dec_len20 hu; omega)
  rw [read_dec u hu] at r3
  refine W_seq (W_seqR (by simp only [runSeq_cons, runSeq_nil, evalArgs_nil, evalArgs_tmp, val1, putT, Tr.get_set_self, Tr.get_set_ne, hd _, ne_eq, Nat.reduceEqDiff, not_false_eq_true, decide_true, Nat.reduceLT, opI_move, opI_extract, opI_callF, r3, List.getElem?_cons_zero, List.getElem?_cons_succ]; rfl) ?_)
  have hv := readL_le l
  have p2 := print_call (d + 2) M1 (readL l).1 hv
  obtain ⟨_, M2, c2, rfl, s2⟩ := refprint_ok (d + 2) M1 s1.ok u hu
  have q1 := opI_eqStr (M := M1) (a := decDigits (readL l).1) (b := l)
  have q2 := opI_eqStr (M := M2) (a := decDigits u) (b := decDigits u)
  rw [decide_eq_true rfl] at q2
  have zz : ∀ z : Int, (z == z) = true := fun z => by simp
  have nz : ((0 : Int) != 0) = false := rfl
  by_cases hc : (readL l).2 = 0
  · have hb := read_back (l := l) (u := (readL l).1) (by rw [← hc])
    have q1' : opI (.bin .eql) [.str (SB (decDigits (readL l).1)), .str (SB l)] M1 = some (.val (.bool true) M1) := by rw [q1, decide_eq_true hb]
    rw [hc]
    refine W_seq (W_seqR (by simp only [runSeq_cons, runSeq_nil, evalArgs_nil, evalArgs_tmp, evalArgs_const, val1, putT, Tr.get_set_self, Tr.get_set_ne, Tr.isSome_set, hd _, ne_eq, Nat.reduceEqDiff, not_false_eq_true, decide_true, Nat.reduceLT, opI_move, opI_neq, opI_eql, opI_callF, opI_pick, runSeq_guard (b := true), runSeq_guard (b := false), beq_self_eq_true, Bool.not_true, h0, h1, nz, p2, q1', c2, q2]; rfl) (W_ret ?_))
    exact ⟨_, fin_tmp (by simp only [Tr.get_set_self, Tr.get_set_ne, Option.isSome_some, hd _, ne_eq, Nat.reduceEqDiff, not_false_eq_true, decide_true, Nat.reduceLT]; try rfl), rfl⟩
  · have hc' : ((readL l).2 != 0) = true := by simpa using hc
    refine W_seq (W_seqR (by simp only [runSeq_cons, runSeq_nil, evalArgs_nil, evalArgs_tmp, evalArgs_const, val1, putT, Tr.get_set_self, Tr.get_set_ne, Tr.isSome_set, hd _, ne_eq, Nat.reduceEqDiff, not_false_eq_true, decide_true, Nat.reduceLT, opI_move, opI_neq, opI_eql, opI_callF, opI_pick, runSeq_guard (b := true), beq_self_eq_true, Bool.true_beq, Bool.not_true, h1, hc', c2, q2]; rfl) (W_ret ?_))
    exact ⟨_, fin_tmp (by simp only [Tr.get_set_self, Tr.get_set_ne, Option.isSome_some, hd _, ne_eq, Nat.reduceEqDiff, not_false_eq_true, decide_true, Nat.reduceLT]; try rfl), rfl⟩
end Go.Proofs.YtphdlmmllahgkaaDoor.num
