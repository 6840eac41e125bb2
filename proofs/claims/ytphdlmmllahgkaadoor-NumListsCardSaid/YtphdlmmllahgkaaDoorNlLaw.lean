/- The walk of the law NumLists. -/
import Derived.Test.YtphdlmmllahgkaaDoorNlSame
namespace Go.Proofs.YtphdlmmllahgkaaDoor.num
open Go Go.Vx Go.Lib
theorem words_row {M0 M : AMem} (h : Step M0 M) (l : List UInt8) (hl : l.length ≤ 1000) (d : Nat) : ∃ v M', callF tbl code 100000 (d + 1) 13 [.str (SB l)] M = some (v, M') ∧ Step M0 M' ∧ SRow M' v (wordsL l) := by
  have hc := words_call d M l hl
  cases hw : wordsL l with
  | nil =>
    rw [hw] at hc
    exact ⟨_, _, hc, h, (fun e he => by simp at he), .inr (.inl ⟨rfl, rfl⟩)⟩
  | cons w r =>
    rw [hw] at hc
    have s := h.push (k := .cells ((w :: r).map strA) 1 true none) (fun _ _ _ _ he => by cases he)
    have g := get_push_self (k := .cells ((w :: r).map strA) 1 true none) h.ok.1
    have hfl : ((w :: r).map strE).flatten = (w :: r).map strA := by
      induction (w :: r) with
      | nil => rfl
      | cons x y ih => rw [List.map_cons, List.map_cons, List.flatten_cons, ih]; rfl
    refine ⟨_, _, hc, s, (fun e he => ?_), .inr (.inr ⟨M.n, 0, r.length + 1, true, _, 1, true, none, ?_, g, get_lt s.ok.1 g, ?_, ?_⟩)⟩
    · obtain ⟨x, _, rfl⟩ := List.mem_map.1 he
      rfl
    · rw [List.length_map]; rfl
    · simp
    · rw [hfl, List.drop_zero]; exact List.take_of_length_le (by simp)
set_option maxRecDepth 20000 in
set_option maxHeartbeats 8000000 in
theorem numLists_ok (d : Nat) (M0 : AMem) (hok : Okg M0) {v : AV} {us : List Int} (hv : IRow M0 .u64 v us) (hu : ∀ u ∈ us, 0 ≤ u ∧ u ≤ 18446744073709551615) (l : List UInt8) :
    Ans (callF tbl code 100000 (d + 4)) 4 [v, .str (SB l)] M0 fun r _ => r = .bool true := by
  refine Ans_of (tbl_none (by decide) _) (show code 4 = some c4 from by kernel_rfl) (by simp) fun t hd ha => ?_
  have h0 := ha 0 _ rfl
  have h1 := ha 1 _ rfl
  clear ha
  obtain ⟨_, M1, c1, rfl, s1⟩ := awake_ok d M0 hok
  refine W_seq (W_seqR (by simp only [runSeq_cons, runSeq_nil, evalArgs_nil, evalArgs_const, val1, putT, opI_move]; rfl) ?_)
  refine W_seq (W_seq (W_seqR (by simp only [runSeq_cons, runSeq_nil, evalArgs_nil, evalArgs_tmp, val1, putT, Tr.get_set_self, Tr.get_set_ne, hd _, ne_eq, Nat.reduceEqDiff, not_false_eq_true, decide_true, Nat.reduceLT, opI_not, opI_callF, c1]; rfl) ?_))
  refine W_cond (b := false) (by simp only [PArg.eval, Tr.get_set_self, Tr.get_set_ne, hd _, ne_eq, Nat.reduceEqDiff, not_false_eq_true, decide_true, Nat.reduceLT]; try rfl) (fun hb => by cases hb) (fun _ => W_skip ?_)
  show W _ _
  have ls := opI_lenStr (M := M1) (l := l)
  have hv1 := hv.grow s1.grow
  have lv := hv1.len
  by_cases hbig : us.length > 100
  · have e1 : decide ((us.length : Int) > 100) = true := decide_eq_true (by omega)
    refine W_seq (W_seq (W_seqR (by simp only [runSeq_cons, runSeq_nil, evalArgs_nil, evalArgs_tmp, evalArgs_const, val1, putT, Tr.get_set_self, Tr.get_set_ne, Tr.isSome_set, hd _, ne_eq, Nat.reduceEqDiff, not_false_eq_true, decide_true, Nat.reduceLT, opI_move, opI_gtr, opI_pick, runSeq_guard (b := true), Bool.true_beq, Bool.not_true, h0, lv, e1]; rfl) ?_))
    refine W_cond (b := true) (by simp only [PArg.eval, Tr.get_set_self, Tr.get_set_ne, hd _, ne_eq, Nat.reduceEqDiff, not_false_eq_true, decide_true, Nat.reduceLT]; try rfl) (fun _ => ?_) (fun hb => by cases hb)
    refine W_seq (W_seqR (by simp only [runSeq_cons, runSeq_nil, evalArgs_nil, evalArgs_const, val1, putT, opI_move]; rfl) (W_ret ?_))
    exact ⟨_, fin_tmp (by simp only [Tr.get_set_self, Tr.get_set_ne, Option.isSome_some, hd _, ne_eq, Nat.reduceEqDiff, not_false_eq_true, decide_true, Nat.reduceLT]; try rfl), rfl⟩
  have e1 : decide ((us.length : Int) > 100) = false := decide_eq_false (by omega)
  by_cases hbig2 : l.length > 400
  · have e2 : decide ((l.length : Int) > 400) = true := decide_eq_true (by omega)
    refine W_seq (W_seq (W_seqR (by simp only [runSeq_cons, runSeq_nil, evalArgs_nil, evalArgs_tmp, evalArgs_const, val1, putT, Tr.get_set_self, Tr.get_set_ne, Tr.isSome_set, hd _, ne_eq, Nat.reduceEqDiff, not_false_eq_true, decide_true, Nat.reduceLT, opI_move, opI_gtr, opI_pick, runSeq_guard (b := false), beq_self_eq_true, Bool.not_true, h0, h1, lv, e1, ls, e2]; rfl) ?_))
    refine W_cond (b := true) (by simp only [PArg.eval, Tr.get_set_self, Tr.get_set_ne, hd _, ne_eq, Nat.reduceEqDiff, not_false_eq_true, decide_true, Nat.reduceLT]; try rfl) (fun _ => ?_) (fun hb => by cases hb)
    refine W_seq (W_seqR (by simp only [runSeq_cons, runSeq_nil, evalArgs_nil, evalArgs_const, val1, putT, opI_move]; rfl) (W_ret ?_))
    exact ⟨_, fin_tmp (by simp only [Tr.get_set_self, Tr.get_set_ne, Option.isSome_some, hd _, ne_eq, Nat.reduceEqDiff, not_false_eq_true, decide_true, Nat.reduceLT]; try rfl), rfl⟩
  have e2 : decide ((l.length : Int) > 400) = false := decide_eq_false (by omega)
  refine W_seq (W_seq (W_seqR (by simp only [runSeq_cons, runSeq_nil, evalArgs_nil, evalArgs_tmp, evalArgs_const, val1, putT, Tr.get_set_self, Tr.get_set_ne, Tr.isSome_set, hd _, ne_eq, Nat.reduceEqDiff, not_false_eq_true, decide_true, Nat.reduceLT, opI_move, opI_gtr, opI_pick, runSeq_guard (b := false), beq_self_eq_true, Bool.not_true, h0, h1, lv, e1, ls, e2]; rfl) ?_))
  refine W_cond (b := false) (by simp only [PArg.eval, Tr.get_set_self, Tr.get_set_ne, hd _, ne_eq, Nat.reduceEqDiff, not_false_eq_true, decide_true, Nat.reduceLT]; try rfl) (fun hb => by cases hb) (fun _ => W_skip ?_)
  show W _ _
  obtain ⟨_, M2, c2, rfl, s2⟩ := list_ok (d + 1) M1 s1.ok hv1 (by omega) hu
  have hv2 := hv1.grow s2.grow
  obtain ⟨_, M3, c3, rfl, s3⟩ := reflist_ok (d + 1) M2 s2.ok hv2 (by omega) hu
  obtain ⟨w1, M4, c4, s4, r4⟩ := words_row (Step.refl s3.ok) l (by omega) (d + 2)
  obtain ⟨w2, M5, c5, s5, r5⟩ := refwords_ok (d + 2) M4 s4.ok l (by omega)
  have r4' : SRow M5 w1 (wordsL l) := RowE.grow r4 s5.grow
  have hwl := words_len l []
  have c6 := same_ok (d + 2) M5 r4' r5 (by unfold wordsL; omega)
  have q1 := opI_eqStr (M := M3) (a := listL us) (b := listL us)
  rw [decide_eq_true rfl] at q1
  refine W_seq (W_seqR (by simp only [runSeq_cons, runSeq_nil, evalArgs_nil, evalArgs_tmp, evalArgs_const, val1, putT, Tr.get_set_self, Tr.get_set_ne, Tr.isSome_set, hd _, ne_eq, Nat.reduceEqDiff, not_false_eq_true, decide_true, Nat.reduceLT, opI_move, opI_callF, opI_pick, runSeq_guard (b := true), beq_self_eq_true, h0, h1, c2, c3, q1, c4, c5, c6]; rfl) (W_ret ?_))
  exact ⟨_, fin_tmp (by simp only [Tr.get_set_self, Tr.get_set_ne, Option.isSome_some, hd _, ne_eq, Nat.reduceEqDiff, not_false_eq_true, decide_true, Nat.reduceLT]; try rfl), rfl⟩
end Go.Proofs.YtphdlmmllahgkaaDoor.num
