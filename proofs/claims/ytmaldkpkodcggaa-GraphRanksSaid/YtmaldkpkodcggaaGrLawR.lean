/- The walk of the law GraphRanks. -/
import Derived.Test.YtmaldkpkodcggaaGrRanksW
namespace Go.Proofs.Ytmaldkpkodcggaa.grf
open Go Go.Vx
set_option maxRecDepth 20000 in
set_option maxHeartbeats 4000000 in
theorem graphRanks_ok {v : AV} {js : List Jb} (d : Nat) (M0 : AMem) (hok : Okg M0) (hv0 : JobsIn M0.g v js) :
    Ans (callF tbl code 100000 (d + 6)) 4 [v] M0 fun r _ => r = .bool true := by
  refine Ans_of (tbl_none (by decide) _) (show code 4 = some c4 from by kernel_rfl) (by simp) fun t hd ha => ?_
  have h0 := ha 0 _ rfl
  clear ha
  have haw : callF tbl code 100000 (d + 5) 5 [] M0 = some (.bool true, M0) := rfl
  refine W_seq (W_seqR (by simp only [runSeq_cons, runSeq_nil, evalArgs_nil, evalArgs_const, val1, putT, opI_move]; rfl) (W_seq (W_seq (W_seqR (by simp only [runSeq_cons, runSeq_nil, evalArgs_nil, evalArgs_tmp, val1, putT, Tr.get_set_self, Tr.get_set_ne, hd _, ne_eq, Nat.reduceEqDiff, not_false_eq_true, decide_true, Nat.reduceLT, opI_not, opI_callF, haw]; rfl) ?_))))
  refine W_cond (b := false) (by simp only [PArg.eval, Tr.get_set_self, Tr.get_set_ne, hd _, ne_eq, Nat.reduceEqDiff, not_false_eq_true, decide_true, Nat.reduceLT]; try rfl) (fun hb => by cases hb) (fun _ => W_skip ?_)
  show W _ _
  obtain ⟨_, _, c1, rfl, b, rfl, hb⟩ := heavy_ok (most := 30) (d + 4) M0 hv0
  rename_i M0
  have c1' : callF tbl code 100000 (d + 5) 6 [v, .int .i64 30] M0 = some (.bool b, M0) := c1
  refine W_seq (W_seq (W_seqR (by simp only [runSeq_cons, runSeq_nil, evalArgs_nil, evalArgs_tmp, evalArgs_const, val1, putT, Tr.get_set_self, Tr.get_set_ne, hd _, ne_eq, Nat.reduceEqDiff, not_false_eq_true, decide_true, Nat.reduceLT, opI_move, opI_callF, h0, c1']; rfl) ?_))
  cases b with
  | true =>
    refine W_cond (b := true) (by simp only [PArg.eval, Tr.get_set_self, Tr.get_set_ne, hd _, ne_eq, Nat.reduceEqDiff, not_false_eq_true, decide_true, Nat.reduceLT]; try rfl) (fun _ => ?_) (fun hb => by cases hb)
    refine W_seq (W_seqR (by simp only [runSeq_cons, runSeq_nil, evalArgs_nil, evalArgs_const, val1, putT, opI_move]; rfl) (W_ret ?_))
    exact ⟨_, fin_tmp (by simp only [Tr.get_set_self, Tr.get_set_ne, Option.isSome_some, hd _, ne_eq, Nat.reduceEqDiff, not_false_eq_true, decide_true, Nat.reduceLT]; try rfl), rfl⟩
  | false =>
  refine W_cond (b := false) (by simp only [PArg.eval, Tr.get_set_self, Tr.get_set_ne, hd _, ne_eq, Nat.reduceEqDiff, not_false_eq_true, decide_true, Nat.reduceLT]; try rfl) (fun hb => by cases hb) (fun _ => W_skip ?_)
  show W _ _
  obtain ⟨_, hv⟩ := hb rfl
  obtain ⟨r1, M1, c2, s1, h1⟩ := ranks_ok d M0 hok hv
  obtain ⟨r2, M2, c3, s2, h2⟩ := refranks_ok (d + 3) M1 s1.ok (by rw [s1.grow.g]; exact hv)
  have t2 := s1.trans s2
  obtain ⟨_, M3, c4, s3, b3, rfl, hb3⟩ := right_ok (d + 4) M2 t2.ok (by rw [t2.grow.g]; exact hv)
  have t3 := t2.trans s3
  obtain ⟨_, M4, c5, hM4, b4, rfl, hb4⟩ := refright_ok (d + 4) M3 (by rw [t3.grow.g]; exact hv)
  subst hM4
  obtain ⟨_, M5, c6, s5, b5, rfl, hb5⟩ := even_ok d M4 t3.ok (by rw [t3.grow.g]; exact hv)
  have t5 := t3.trans s5
  have eb34 : b3 = b4 := by
    cases b3 <;> cases b4
    · rfl
    · exact absurd (hb3.2 (hb4.1 rfl)) (by simp)
    · exact absurd (hb4.2 (hb3.1 rfl)) (by simp)
    · rfl
  subst eb34
  have bb : ∀ b : Bool, (b == b) = true := fun b => by cases b <;> rfl
  have x1 : xorB true true = false := rfl
  have e0 : (((0 : Nat) : Int) == 0) = true := rfl
  have z0 : ((0 : Int) == 0) = true := rfl
  -- no ranks
  rcases h2 with ⟨rfl, hn2⟩ | ⟨hR, xs2, vr2, hx2, rfl, hrow2⟩
  · have h1' : r1 = .tuple [.slice none 0 0 false, .int .i64 13] := by
      rcases h1 with ⟨h, _⟩ | ⟨hR, xs, vr, hx, _⟩
      · exact h
      · have := hn2 hR; rw [this] at hx; cases hx
    subst h1'
    have hb5' : b5 = false := by
      cases b5 with
      | false => rfl
      | true =>
        obtain ⟨hR, hs⟩ := hb5.1 rfl
        rw [hn2 hR] at hs; cases hs
    subst hb5'
    refine W_seq (W_seqR (by simp only [runSeq_cons, runSeq_nil, evalArgs_nil, evalArgs_tmp, val1, putT, Tr.get_set_self, Tr.get_set_ne, hd _, ne_eq, Nat.reduceEqDiff, not_false_eq_true, decide_true, Nat.reduceLT, opI_move, opI_extract, opI_callF, h0, c2, List.getElem?_cons_zero, List.getElem?_cons_succ]; rfl) ?_)
    refine W_seq (W_seqR (by simp only [runSeq_cons, runSeq_nil, evalArgs_nil, evalArgs_tmp, val1, putT, Tr.get_set_self, Tr.get_set_ne, hd _, ne_eq, Nat.reduceEqDiff, not_false_eq_true, decide_true, Nat.reduceLT, opI_move, opI_extract, opI_callF, h0, c3, List.getElem?_cons_zero, List.getElem?_cons_succ]; rfl) ?_)
    refine W_seq (W_seq (W_seqR (by simp only [runSeq_cons, runSeq_nil, evalArgs_nil, evalArgs_tmp, evalArgs_const, val1, putT, Tr.get_set_self, Tr.get_set_ne, Tr.isSome_set, hd _, ne_eq, Nat.reduceEqDiff, not_false_eq_true, decide_true, Nat.reduceLT, opI_move, opI_eqBool, opI_callF, opI_pick, runSeq_guard (b := false), beq_self_eq_true, Bool.not_true, h0, c4, c5, c6, x1]; rfl) ?_))
    refine W_cond (b := false) (by simp only [PArg.eval, Tr.get_set_self, Tr.get_set_ne, hd _, ne_eq, Nat.reduceEqDiff, not_false_eq_true, decide_true, Nat.reduceLT]; try rfl) (fun hb => by cases hb) (fun _ => W_skip ?_)
    show W _ _
    refine W_seq (W_seq (W_seqR (by simp only [runSeq_cons, runSeq_nil, evalArgs_nil, evalArgs_tmp, val1, putT, Tr.get_set_self, Tr.get_set_ne, hd _, ne_eq, Nat.reduceEqDiff, not_false_eq_true, decide_true, Nat.reduceLT, opI_move, opI_not]; rfl) ?_))
    refine W_cond (b := true) (by simp only [PArg.eval, Tr.get_set_self, Tr.get_set_ne, hd _, ne_eq, Nat.reduceEqDiff, not_false_eq_true, decide_true, Nat.reduceLT]; try rfl) (fun _ => ?_) (fun hb => by cases hb)
    refine W_seq (W_seqR (by simp only [runSeq_cons, runSeq_nil, evalArgs_nil, evalArgs_tmp, evalArgs_const, val1, putT, Tr.get_set_self, Tr.get_set_ne, Tr.isSome_set, hd _, ne_eq, Nat.reduceEqDiff, not_false_eq_true, decide_true, Nat.reduceLT, opI_move, opI_eql, opI_lenO, opI_pick, runSeq_guard (b := true), beq_self_eq_true, Bool.not_false, e0]; rfl) (W_ret ?_))
    exact ⟨_, fin_tmp (by simp only [Tr.get_set_self, Tr.get_set_ne, Option.isSome_some, hd _, ne_eq, Nat.reduceEqDiff, not_false_eq_true, decide_true, Nat.reduceLT]; try rfl), rfl⟩
  · obtain ⟨xs1, vr1, hx1, rfl, hrow1⟩ : ∃ xs vr, ranksD js = some xs ∧ r1 = .tuple [vr, .int .i64 0] ∧ IRow M1 .i64 vr xs := by
      rcases h1 with ⟨_, hn⟩ | ⟨_, h⟩
      · have := hn hR; rw [this] at hx2; cases hx2
      · exact h
    have hxx : xs1 = xs2 := by rw [hx1] at hx2; cases hx2; rfl
    subst hxx
    have hb5' : b5 = true := hb5.2 ⟨hR, by rw [hx1]; rfl⟩
    subst hb5'
    have hxl : xs1.length = js.length := by
      have := (ranksP_is Sup.zeros hx1).len
      exact this
    have hlen := hR.1
    have c7 := sameI_ok (d + 4) M5 (hrow1.grow (((s2.trans s3).trans s5).grow)) (hrow2.grow ((s3.trans s5).grow)) (by omega)
    rw [decide_eq_true rfl] at c7
    refine W_seq (W_seqR (by simp only [runSeq_cons, runSeq_nil, evalArgs_nil, evalArgs_tmp, val1, putT, Tr.get_set_self, Tr.get_set_ne, hd _, ne_eq, Nat.reduceEqDiff, not_false_eq_true, decide_true, Nat.reduceLT, opI_move, opI_extract, opI_callF, h0, c2, List.getElem?_cons_zero, List.getElem?_cons_succ]; rfl) ?_)
    refine W_seq (W_seqR (by simp only [runSeq_cons, runSeq_nil, evalArgs_nil, evalArgs_tmp, val1, putT, Tr.get_set_self, Tr.get_set_ne, hd _, ne_eq, Nat.reduceEqDiff, not_false_eq_true, decide_true, Nat.reduceLT, opI_move, opI_extract, opI_callF, h0, c3, List.getElem?_cons_zero, List.getElem?_cons_succ]; rfl) ?_)
    refine W_seq (W_seq (W_seqR (by simp only [runSeq_cons, runSeq_nil, evalArgs_nil, evalArgs_tmp, evalArgs_const, val1, putT, Tr.get_set_self, Tr.get_set_ne, Tr.isSome_set, hd _, ne_eq, Nat.reduceEqDiff, not_false_eq_true, decide_true, Nat.reduceLT, opI_move, opI_eqBool, opI_callF, opI_pick, runSeq_guard (b := false), beq_self_eq_true, Bool.not_true, h0, c4, c5, c6, x1]; rfl) ?_))
    refine W_cond (b := false) (by simp only [PArg.eval, Tr.get_set_self, Tr.get_set_ne, hd _, ne_eq, Nat.reduceEqDiff, not_false_eq_true, decide_true, Nat.reduceLT]; try rfl) (fun hb => by cases hb) (fun _ => W_skip ?_)
    show W _ _
    refine W_seq (W_seq (W_seqR (by simp only [runSeq_cons, runSeq_nil, evalArgs_nil, evalArgs_tmp, val1, putT, Tr.get_set_self, Tr.get_set_ne, hd _, ne_eq, Nat.reduceEqDiff, not_false_eq_true, decide_true, Nat.reduceLT, opI_move, opI_not]; rfl) ?_))
    refine W_cond (b := false) (by simp only [PArg.eval, Tr.get_set_self, Tr.get_set_ne, hd _, ne_eq, Nat.reduceEqDiff, not_false_eq_true, decide_true, Nat.reduceLT]; try rfl) (fun hb => by cases hb) (fun _ => W_skip ?_)
    show W _ _
    refine W_seq (W_seqR (by simp only [runSeq_cons, runSeq_nil, evalArgs_nil, evalArgs_tmp, evalArgs_const, val1, putT, Tr.get_set_self, Tr.get_set_ne, Tr.isSome_set, hd _, ne_eq, Nat.reduceEqDiff, not_false_eq_true, decide_true, Nat.reduceLT, opI_move, opI_eql, opI_callF, opI_pick, runSeq_guard (b := true), beq_self_eq_true, Bool.not_true, c7]; rfl) (W_ret ?_))
    exact ⟨_, fin_tmp (by simp only [Tr.get_set_self, Tr.get_set_ne, Option.isSome_some, hd _, ne_eq, Nat.reduceEqDiff, not_false_eq_true, decide_true, Nat.reduceLT]; try rfl), rfl⟩
end Go.Proofs.Ytmaldkpkodcggaa.grf
