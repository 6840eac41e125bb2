/- The document's Words. -/
import Derived.Test.YtphdlmmllahgkaaDoorNlRef
namespace Go.Proofs.YtphdlmmllahgkaaDoor.num
open Go Go.Vx Go.Lib
def strE (l : List UInt8) : List AV := [strA l]
theorem wordsA_blank {c : UInt8} {r : List UInt8} (h : c.toNat = 32) (cur : List UInt8) : wordsA cur (c :: r) = (if cur = [] then [] else [cur]) ++ wordsA [] r := by
  rw [wordsA, if_pos h]
  split <;> simp
theorem wordsA_word {c : UInt8} {r : List UInt8} (h : c.toNat ≠ 32) (cur : List UInt8) : wordsA cur (c :: r) = wordsA (cur ++ [c]) r := by
  rw [wordsA, if_neg h]
theorem drop_at {l : List UInt8} {i : Nat} (h : i < l.length) : l.drop i = l.getD i 0 :: l.drop (i + 1) := by
  rw [List.drop_eq_getElem_cons h, getD_mem8 h]
theorem empty_lit {M0 M : AMem} (h : Step M0 M) : opI (.sliceLit 0 [] []) [] M = some (.val (.slice (some (M.n, 0)) 0 0 false) (M.push (.cells [] 0 true none))) := by
  rfl
theorem words_len : ∀ (l cur : List UInt8), (wordsA cur l).length ≤ l.length + 1
  | [], cur => by rw [wordsA]; split <;> simp
  | c :: r, cur => by
    by_cases h : c.toNat = 32
    · rw [wordsA_blank h, List.length_append, List.length_cons]
      have := words_len r []
      have : (if cur = [] then [] else [cur] : List (List UInt8)).length ≤ 1 := by split <;> simp
      omega
    · rw [wordsA_word h, List.length_cons]
      have := words_len r (cur ++ [c])
      omega
set_option maxRecDepth 20000 in
set_option maxHeartbeats 4000000 in
theorem refwords_ok (d : Nat) (M0 : AMem) (hok : Okg M0) (l : List UInt8) (hl : l.length ≤ 1000) :
    Ans (callF tbl code 100000 (d + 1)) 14 [.str (SB l)] M0 fun r M' => Step M0 M' ∧ RowE M' 1 r ((wordsL l).map strE) := by
  refine Ans_of (tbl_none (by decide) _) (show code 14 = some c14 from by kernel_rfl) (by simp) fun t hd ha => ?_
  have h0 := ha 0 _ rfl
  clear ha
  have ls : ∀ M, opI .lenStr [.str (SB l)] M = some (.val (.int .i64 l.length) M) := fun M => opI_lenStr
  refine W_seq (W_seqR (by simp only [runSeq_cons, runSeq_nil, evalArgs_nil, evalArgs_const, val1, putT, opI_move]; rfl) ?_)
  have s1 := (Step.refl hok).push (k := .cells [] 0 true none) (fun _ _ _ _ he => by cases he)
  have g1 := get_push_self (k := .cells [] 0 true none) hok.1
  have f1 : FreshE M0 (M0.push (.cells [] 0 true none)) 1 (.slice (some (M0.n, 0)) 0 0 false) [] := .inl ⟨M0.n, false, 0, none, rfl, Nat.le_refl _, g1, (fun h => by cases h), (fun _ h => by cases h), (fun e he => by cases he), rfl⟩
  have e1 := empty_lit (Step.refl hok)
  refine W_seq (W_seqR (by simp only [runSeq_cons, runSeq_nil, evalArgs_nil, evalArgs_tmp, val1, putT, Tr.get_set_self, Tr.get_set_ne, hd _, ne_eq, Nat.reduceEqDiff, not_false_eq_true, decide_true, Nat.reduceLT, opI_move, e1]; rfl) ?_)
  refine W_seq (W_seqR (by simp only [runSeq_cons, runSeq_nil, evalArgs_nil, evalArgs_const, val1, putT, opI_move]; rfl) ?_)
  refine W_seq (W_seq (W_seqR (by simp only [runSeq_cons, runSeq_nil, evalArgs_nil, evalArgs_const, val1, putT, opI_move]; rfl) (W_block (W_loop (fun k t M' => ∃ (i : Nat) (cur : List UInt8) (out : List (List UInt8)) (v : AV), k + i = l.length ∧ Step M0 M' ∧ wordsL l = out ++ wordsA cur (l.drop i) ∧ cur.length ≤ i ∧ out.length ≤ i ∧ FreshE M0 M' 1 v (out.map strE) ∧ Dom t 37 ∧ t.get 0 = some (.str (SB l)) ∧ t.get 3 = some v ∧ t.get 4 = some (strA cur) ∧ t.get 5 = some (.int .i64 i)) (k := l.length) (by omega) ?_ ?_))))
  · exact ⟨0, [], [], _, rfl, s1, rfl, by simp, Nat.le_refl _, f1, by ((repeat (with_reducible apply Dom.set)); exact hd), by simp only [Tr.get_set_ne, ne_eq, Nat.reduceEqDiff, not_false_eq_true, h0], by simp only [Tr.get_set_self, Tr.get_set_ne, hd _, ne_eq, Nat.reduceEqDiff, not_false_eq_true, decide_true, Nat.reduceLT], by simp only [Tr.get_set_self, Tr.get_set_ne, hd _, ne_eq, Nat.reduceEqDiff, not_false_eq_true, decide_true, Nat.reduceLT]; rfl, by simp only [Tr.get_set_self, Tr.get_set_ne, hd _, ne_eq, Nat.reduceEqDiff, not_false_eq_true, decide_true, Nat.reduceLT]; rfl⟩
  clear h0 hd
  intro k t M ⟨i, cur, out, v, hk, sM, hw, hcl, hol, hf, hd, h0, h3, h4, h5⟩
  refine W_seq (W_seq (W_seqR (by simp only [runSeq_cons, runSeq_nil, evalArgs_nil, evalArgs_tmp, val1, putT, Tr.get_set_self, Tr.get_set_ne, hd _, ne_eq, Nat.reduceEqDiff, not_false_eq_true, decide_true, Nat.reduceLT, opI_move, opI_lss, h0, h5, ls]; rfl) ?_))
  refine W_cond (by simp only [PArg.eval, Tr.get_set_self, Tr.get_set_ne, hd _, ne_eq, Nat.reduceEqDiff, not_false_eq_true, decide_true, Nat.reduceLT]; rfl) (fun hb => W_skip ?_) (fun hb => W_exit ?_)
  · have hi : i < l.length := by simpa using hb
    have ix := opI_indexStr (M := M) (k := .i64) hi
    show W _ _
    by_cases hc : (l.getD i 0).toNat = 32
    · have b1 : (((l.getD i 0).toNat : Int) != 32) = false := by rw [hc]; rfl
      refine W_seq (W_block ?_)
      refine W_seq (W_seq (W_seqR (by simp only [runSeq_cons, runSeq_nil, evalArgs_nil, evalArgs_tmp, evalArgs_const, val1, putT, Tr.get_set_self, Tr.get_set_ne, hd _, ne_eq, Nat.reduceEqDiff, not_false_eq_true, decide_true, Nat.reduceLT, opI_move, opI_neq, h0, h5, ix, b1]; rfl) ?_))
      refine W_cond (b := false) (by simp only [PArg.eval, Tr.get_set_self, Tr.get_set_ne, hd _, ne_eq, Nat.reduceEqDiff, not_false_eq_true, decide_true, Nat.reduceLT]; try rfl) (fun hb => by cases hb) (fun _ => W_skip ?_)
      show W _ _
      have hwi : wordsL l = (out ++ (if cur = [] then [] else [cur])) ++ wordsA [] (l.drop (i + 1)) := by
        rw [hw, drop_at hi, wordsA_blank hc, List.append_assoc]
      have nq := opI_neqStr (M := M) (a := cur) (b := [])
      by_cases hcur : cur = []
      · have b2 : decide (cur ≠ []) = false := decide_eq_false (fun h => h hcur)
        rw [b2] at nq
        have nq' : opI (.bin .neq) [strA cur, .str ⟨#[]⟩] M = some (.val (.bool false) M) := nq
        refine W_seq (W_seq (W_seqR (by simp only [runSeq_cons, runSeq_nil, evalArgs_nil, evalArgs_tmp, evalArgs_const, val1, putT, Tr.get_set_self, Tr.get_set_ne, hd _, ne_eq, Nat.reduceEqDiff, not_false_eq_true, decide_true, Nat.reduceLT, opI_move, h4, nq']; rfl) ?_))
        refine W_cond (b := false) (by simp only [PArg.eval, Tr.get_set_self, Tr.get_set_ne, hd _, ne_eq, Nat.reduceEqDiff, not_false_eq_true, decide_true, Nat.reduceLT]; try rfl) (fun hb => by cases hb) (fun _ => W_skip ?_)
        show W _ _
        refine W_seqR (by simp only [runSeq_cons, runSeq_nil, evalArgs_nil, evalArgs_const, val1, putT, opI_move]; rfl) ?_
        show W _ _
        refine W_seqR (by simp only [runSeq_cons, runSeq_nil, evalArgs_nil, evalArgs_tmp, evalArgs_const, val1, putT, Tr.get_set_self, Tr.get_set_ne, hd _, ne_eq, Nat.reduceEqDiff, not_false_eq_true, decide_true, Nat.reduceLT, opI_move, opI_add, h5]; rfl) ?_
        refine ⟨k - 1, by omega, i + 1, [], out, v, by omega, sM, ?_, by simp, by omega, hf, by ((repeat (with_reducible apply Dom.set)); exact hd), by simp only [Tr.get_set_ne, ne_eq, Nat.reduceEqDiff, not_false_eq_true, h0], by simp only [Tr.get_set_ne, ne_eq, Nat.reduceEqDiff, not_false_eq_true, h3], by simp only [Tr.get_set_self, Tr.get_set_ne, hd _, ne_eq, Nat.reduceEqDiff, not_false_eq_true, decide_true, Nat.reduceLT, strA]; try rfl, ?_⟩
        · rw [hwi, if_pos hcur, List.append_nil]
        simp only [Tr.get_set_self, Tr.get_set_ne, hd _, ne_eq, Nat.reduceEqDiff, not_false_eq_true, decide_true, Nat.reduceLT]
        rw [wrapF_small (by omega) (by omega)]; rfl
      · have b2 : decide (cur ≠ []) = true := decide_eq_true hcur
        rw [b2] at nq
        have nq' : opI (.bin .neq) [strA cur, .str ⟨#[]⟩] M = some (.val (.bool true) M) := nq
        obtain ⟨M', g', e1, e2, s2, o2, k2, n2, k3⟩ := push_el (bytes := 16) (x := strA cur) (z := [.str ⟨#[]⟩]) sM hf rfl rfl (by omega) rfl (by rw [List.length_map]; omega) (by rw [List.length_map]; omega)
        refine W_seq (W_seq (W_seqR (by simp only [runSeq_cons, runSeq_nil, evalArgs_nil, evalArgs_tmp, evalArgs_const, val1, putT, Tr.get_set_self, Tr.get_set_ne, hd _, ne_eq, Nat.reduceEqDiff, not_false_eq_true, decide_true, Nat.reduceLT, opI_move, h4, nq']; rfl) ?_))
        refine W_cond (b := true) (by simp only [PArg.eval, Tr.get_set_self, Tr.get_set_ne, hd _, ne_eq, Nat.reduceEqDiff, not_false_eq_true, decide_true, Nat.reduceLT]; try rfl) (fun _ => ?_) (fun hb => by cases hb)
        refine W_seqR (by simp only [runSeq_cons, runSeq_nil, evalArgs_nil, evalArgs_tmp, val1, putT, Tr.get_set_self, Tr.get_set_ne, hd _, ne_eq, Nat.reduceEqDiff, not_false_eq_true, decide_true, Nat.reduceLT, opI_move, h3, h4, e1, e2]; rfl) ?_
        show W _ _
        refine W_seqR (by simp only [runSeq_cons, runSeq_nil, evalArgs_nil, evalArgs_const, val1, putT, opI_move]; rfl) ?_
        show W _ _
        refine W_seqR (by simp only [runSeq_cons, runSeq_nil, evalArgs_nil, evalArgs_tmp, evalArgs_const, val1, putT, Tr.get_set_self, Tr.get_set_ne, hd _, ne_eq, Nat.reduceEqDiff, not_false_eq_true, decide_true, Nat.reduceLT, opI_move, opI_add, h5]; rfl) ?_
        refine ⟨k - 1, by omega, i + 1, [], out ++ [cur], _, by omega, s2, ?_, by simp, by rw [List.length_append, List.length_singleton]; omega, ?_, by ((repeat (with_reducible apply Dom.set)); exact hd), by simp only [Tr.get_set_ne, ne_eq, Nat.reduceEqDiff, not_false_eq_true, h0], by simp only [Tr.get_set_self, Tr.get_set_ne, hd _, ne_eq, Nat.reduceEqDiff, not_false_eq_true, decide_true, Nat.reduceLT]; rfl, by simp only [Tr.get_set_self, Tr.get_set_ne, hd _, ne_eq, Nat.reduceEqDiff, not_false_eq_true, decide_true, Nat.reduceLT, strA]; try rfl, ?_⟩
        · rw [hwi, if_neg hcur]
        · rw [List.map_append]; exact .inl o2
        simp only [Tr.get_set_self, Tr.get_set_ne, hd _, ne_eq, Nat.reduceEqDiff, not_false_eq_true, decide_true, Nat.reduceLT]
        rw [wrapF_small (by omega) (by omega)]; rfl
    · have b1 : (((l.getD i 0).toNat : Int) != 32) = true := bne_iff_ne.2 (by omega)
      have cu := opI_cut1 (M := M) hi
      have ad := opI_addStr (M := M) (a := cur) (b := [l.getD i 0]) (by rw [List.length_singleton]; omega)
      have wr : wrapF .i64 ((i : Int) + 1) = (i : Int) + 1 := wrapF_small (by omega) (by omega)
      refine W_seq (W_block ?_)
      refine W_seq (W_seq (W_seqR (by simp only [runSeq_cons, runSeq_nil, evalArgs_nil, evalArgs_tmp, evalArgs_const, val1, putT, Tr.get_set_self, Tr.get_set_ne, hd _, ne_eq, Nat.reduceEqDiff, not_false_eq_true, decide_true, Nat.reduceLT, opI_move, opI_neq, h0, h5, ix, b1]; rfl) ?_))
      refine W_cond (b := true) (by simp only [PArg.eval, Tr.get_set_self, Tr.get_set_ne, hd _, ne_eq, Nat.reduceEqDiff, not_false_eq_true, decide_true, Nat.reduceLT]; try rfl) (fun _ => ?_) (fun hb => by cases hb)
      refine W_seq (W_seqR (by simp only [runSeq_cons, runSeq_nil, evalArgs_nil, evalArgs_tmp, evalArgs_const, val1, putT, Tr.get_set_self, Tr.get_set_ne, hd _, ne_eq, Nat.reduceEqDiff, not_false_eq_true, decide_true, Nat.reduceLT, opI_move, opI_add, strA, h0, h4, h5, wr, cu, ad]; rfl) (W_exit ?_))
      show W _ _
      refine W_seqR (by simp only [runSeq_cons, runSeq_nil, evalArgs_nil, evalArgs_tmp, evalArgs_const, val1, putT, Tr.get_set_self, Tr.get_set_ne, hd _, ne_eq, Nat.reduceEqDiff, not_false_eq_true, decide_true, Nat.reduceLT, opI_move, opI_add, h5]; rfl) ?_
      refine ⟨k - 1, by omega, i + 1, cur ++ [l.getD i 0], out, v, by omega, sM, ?_, by rw [List.length_append, List.length_singleton]; omega, by omega, hf, by ((repeat (with_reducible apply Dom.set)); exact hd), by simp only [Tr.get_set_ne, ne_eq, Nat.reduceEqDiff, not_false_eq_true, h0], by simp only [Tr.get_set_ne, ne_eq, Nat.reduceEqDiff, not_false_eq_true, h3], by simp only [Tr.get_set_self, Tr.get_set_ne, hd _, ne_eq, Nat.reduceEqDiff, not_false_eq_true, decide_true, Nat.reduceLT, strA], ?_⟩
      · rw [hw, drop_at hi, wordsA_word hc]
      simp only [Tr.get_set_self, Tr.get_set_ne, hd _, ne_eq, Nat.reduceEqDiff, not_false_eq_true, decide_true, Nat.reduceLT]
      rw [wrapF_small (by omega) (by omega)]; rfl
  show W _ _
  have hie : i = l.length := by
    have : ¬ i < l.length := by simpa using hb
    omega
  subst hie
  rw [List.drop_length, wordsA] at hw
  have nq := opI_neqStr (M := M) (a := cur) (b := [])
  by_cases hcur : cur = []
  · have b2 : decide (cur ≠ []) = false := decide_eq_false (fun h => h hcur)
    rw [b2] at nq
    have nq' : opI (.bin .neq) [strA cur, .str ⟨#[]⟩] M = some (.val (.bool false) M) := nq
    rw [if_pos hcur, List.append_nil] at hw
    refine W_seq (W_seq (W_seqR (by simp only [runSeq_cons, runSeq_nil, evalArgs_nil, evalArgs_tmp, evalArgs_const, val1, putT, Tr.get_set_self, Tr.get_set_ne, hd _, ne_eq, Nat.reduceEqDiff, not_false_eq_true, decide_true, Nat.reduceLT, opI_move, h4, nq']; rfl) ?_))
    refine W_cond (b := false) (by simp only [PArg.eval, Tr.get_set_self, Tr.get_set_ne, hd _, ne_eq, Nat.reduceEqDiff, not_false_eq_true, decide_true, Nat.reduceLT]; try rfl) (fun hb => by cases hb) (fun _ => W_skip ?_)
    show W _ _
    refine W_seq (W_seqR (by simp only [runSeq_cons, runSeq_nil, evalArgs_nil, evalArgs_tmp, val1, putT, Tr.get_set_self, Tr.get_set_ne, hd _, ne_eq, Nat.reduceEqDiff, not_false_eq_true, decide_true, Nat.reduceLT, opI_move, h3]; rfl) (W_ret ?_))
    refine ⟨_, fin_tmp (by simp only [Tr.get_set_self, Tr.get_set_ne, hd _, ne_eq, Nat.reduceEqDiff, not_false_eq_true, decide_true, Nat.reduceLT]; try rfl), sM, ?_⟩
    rw [hw]; exact hf.row sM.ok.1
  · have b2 : decide (cur ≠ []) = true := decide_eq_true hcur
    rw [b2] at nq
    have nq' : opI (.bin .neq) [strA cur, .str ⟨#[]⟩] M = some (.val (.bool true) M) := nq
    rw [if_neg hcur] at hw
    obtain ⟨M', g', e1, e2, s2, o2, k2, n2, k3⟩ := push_el (bytes := 16) (x := strA cur) (z := [.str ⟨#[]⟩]) sM hf rfl rfl (by omega) rfl (by rw [List.length_map]; omega) (by rw [List.length_map]; omega)
    refine W_seq (W_seq (W_seqR (by simp only [runSeq_cons, runSeq_nil, evalArgs_nil, evalArgs_tmp, evalArgs_const, val1, putT, Tr.get_set_self, Tr.get_set_ne, hd _, ne_eq, Nat.reduceEqDiff, not_false_eq_true, decide_true, Nat.reduceLT, opI_move, h4, nq']; rfl) ?_))
    refine W_cond (b := true) (by simp only [PArg.eval, Tr.get_set_self, Tr.get_set_ne, hd _, ne_eq, Nat.reduceEqDiff, not_false_eq_true, decide_true, Nat.reduceLT]; try rfl) (fun _ => ?_) (fun hb => by cases hb)
    refine W_seqR (by simp only [runSeq_cons, runSeq_nil, evalArgs_nil, evalArgs_tmp, val1, putT, Tr.get_set_self, Tr.get_set_ne, hd _, ne_eq, Nat.reduceEqDiff, not_false_eq_true, decide_true, Nat.reduceLT, opI_move, h3, h4, e1, e2]; rfl) ?_
    show W _ _
    refine W_seq (W_seqR (by simp only [runSeq_cons, runSeq_nil, evalArgs_nil, evalArgs_tmp, val1, putT, Tr.get_set_self, Tr.get_set_ne, hd _, ne_eq, Nat.reduceEqDiff, not_false_eq_true, decide_true, Nat.reduceLT, opI_move]; rfl) (W_ret ?_))
    refine ⟨_, fin_tmp (by simp only [Tr.get_set_self, Tr.get_set_ne, hd _, ne_eq, Nat.reduceEqDiff, not_false_eq_true, decide_true, Nat.reduceLT]; try rfl), s2, ?_⟩
    rw [hw, List.map_append]; exact o2.row s2.ok.1
end Go.Proofs.YtphdlmmllahgkaaDoor.num
