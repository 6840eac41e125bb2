/- The document's List and Words; SameTexts. -/
import Derived.Test.YtphdlmmllahgkaaDoorNuList
namespace Go.Proofs.YtphdlmmllahgkaaDoor.num
open Go Go.Vx Go.Lib
theorem joinS_cons2 (sep x y : List UInt8) (r : List (List UInt8)) : joinS sep (x :: y :: r) = x ++ sep ++ joinS sep (y :: r) := by
  rw [joinS]
  simp
theorem joinS_snoc (sep y : List UInt8) : ∀ l : List (List UInt8), l ≠ [] → joinS sep (l ++ [y]) = joinS sep l ++ sep ++ y
  | [], h => absurd rfl h
  | [x], _ => by rw [List.cons_append, List.nil_append, joinS_cons2]; simp [joinS]
  | x :: z :: r, _ => by
    rw [List.cons_append, List.cons_append, joinS_cons2, joinS_cons2, ← List.cons_append, joinS_snoc sep y (z :: r) (by simp)]
    simp [List.append_assoc]
def partL (us : List Int) (i : Nat) : List UInt8 := joinS [44] ((us.take i).map fun u => decDigits u.toNat)
theorem partL_succ {us : List Int} {i : Nat} (h0 : 0 < i) (hi : i < us.length) : partL us (i + 1) = partL us i ++ [44] ++ decDigits us[i].toNat := by
  unfold partL
  rw [List.take_add_one, List.getElem?_eq_getElem hi, Option.toList_some, List.map_append, List.map_cons, List.map_nil, joinS_snoc]
  intro h
  have := congrArg List.length h
  rw [List.length_map, List.length_take, List.length_nil] at this
  omega
theorem partL_one {us : List Int} (hi : 0 < us.length) : partL us 1 = decDigits us[0].toNat := by
  unfold partL
  rw [List.take_add_one, List.getElem?_eq_getElem hi]; rfl
theorem partL_len {us : List Int} (hu : ∀ u ∈ us, 0 ≤ u ∧ u ≤ 18446744073709551615) : ∀ i, i ≤ us.length → (partL us i).length ≤ i * 21
  | 0, _ => by unfold partL; simp [joinS]
  | 1, h => by
    rw [partL_one (by omega)]
    have := dec_len20 (u := us[0].toNat) (by have := hu us[0] (List.getElem_mem _); omega)
    omega
  | i + 2, h => by
    rw [partL_succ (by omega) (by omega), List.length_append, List.length_append, List.length_singleton]
    have := partL_len hu (i + 1) (by omega)
    have := dec_len20 (u := us[i + 1].toNat) (by have := hu us[i + 1] (List.getElem_mem _); omega)
    omega
set_option maxRecDepth 20000 in
set_option maxHeartbeats 4000000 in
theorem reflist_ok (d : Nat) (M0 : AMem) (hok : Okg M0) {v : AV} {us : List Int} (hv : IRow M0 .u64 v us) (hl : us.length ≤ 1000) (hu : ∀ u ∈ us, 0 ≤ u ∧ u ≤ 18446744073709551615) :
    Ans (callF tbl code 100000 (d + 2)) 11 [v] M0 fun r M' => r = .str (SB (listL us)) ∧ Step M0 M' := by
  refine Ans_of (tbl_none (by decide) _) (show code 11 = some c11 from by kernel_rfl) (by simp) fun t hd ha => ?_
  have h0 := ha 0 _ rfl
  clear ha
  have lv := hv.len
  refine W_seq (W_seqR (by simp only [runSeq_cons, runSeq_nil, evalArgs_nil, evalArgs_const, val1, putT, opI_move]; rfl) ?_)
  by_cases hne : us = []
  · have e1 : ((us.length : Int) == 0) = true := by rw [hne]; rfl
    refine W_seq (W_seq (W_seqR (by simp only [runSeq_cons, runSeq_nil, evalArgs_nil, evalArgs_tmp, evalArgs_const, val1, putT, Tr.get_set_self, Tr.get_set_ne, hd _, ne_eq, Nat.reduceEqDiff, not_false_eq_true, decide_true, Nat.reduceLT, opI_move, opI_eql, h0, lv, e1]; rfl) ?_))
    refine W_cond (b := true) (by simp only [PArg.eval, Tr.get_set_self, Tr.get_set_ne, hd _, ne_eq, Nat.reduceEqDiff, not_false_eq_true, decide_true, Nat.reduceLT]; try rfl) (fun _ => ?_) (fun hb => by cases hb)
    refine W_seq (W_seqR (by simp only [runSeq_cons, runSeq_nil, evalArgs_nil, evalArgs_const, val1, putT, opI_move]; rfl) (W_ret ?_))
    refine ⟨_, fin_tmp (by simp only [Tr.get_set_self, Tr.get_set_ne, Option.isSome_some, hd _, ne_eq, Nat.reduceEqDiff, not_false_eq_true, decide_true, Nat.reduceLT]; try rfl), ?_, Step.refl hok⟩
    unfold listL; rw [if_pos hne]; rfl
  have hpos : 0 < us.length := List.length_pos_iff.2 hne
  have e1 : ((us.length : Int) == 0) = false := beq_false_of_ne (by omega)
  refine W_seq (W_seq (W_seqR (by simp only [runSeq_cons, runSeq_nil, evalArgs_nil, evalArgs_tmp, evalArgs_const, val1, putT, Tr.get_set_self, Tr.get_set_ne, hd _, ne_eq, Nat.reduceEqDiff, not_false_eq_true, decide_true, Nat.reduceLT, opI_move, opI_eql, h0, lv, e1]; rfl) ?_))
  refine W_cond (b := false) (by simp only [PArg.eval, Tr.get_set_self, Tr.get_set_ne, hd _, ne_eq, Nat.reduceEqDiff, not_false_eq_true, decide_true, Nat.reduceLT]; try rfl) (fun hb => by cases hb) (fun _ => W_skip ?_)
  show W _ _
  obtain ⟨p, pp, p1, p2⟩ := hv.at_ hpos
  have hu0 := hu us[0] (List.getElem_mem hpos)
  obtain ⟨n, hn⟩ : ∃ n : Nat, us[0] = n := ⟨us[0].toNat, by omega⟩
  rw [hn] at p2
  have p1' : opI (.indexAddrS 1) [v, .int .i64 0] M0 = some (.val (padd p 0) M0) := p1
  obtain ⟨_, M1, c1, rfl, s1⟩ := refprint_ok d M0 hok n (by omega)
  refine W_seq (W_seqR (by simp only [runSeq_cons, runSeq_nil, evalArgs_nil, evalArgs_tmp, evalArgs_const, val1, putT, Tr.get_set_self, Tr.get_set_ne, hd _, ne_eq, Nat.reduceEqDiff, not_false_eq_true, decide_true, Nat.reduceLT, opI_move, opI_callF, h0, p1', p2, c1]; rfl) ?_)
  have hd1 : decDigits n = partL us 1 := by rw [partL_one hpos, hn]; rfl
  refine W_seq (W_seq (W_seqR (by simp only [runSeq_cons, runSeq_nil, evalArgs_nil, evalArgs_const, val1, putT, opI_move]; rfl) (W_block (W_loop (fun k t M' => ∃ (i : Nat), k + i = us.length ∧ 0 < i ∧ Step M0 M' ∧ Dom t 27 ∧ t.get 0 = some v ∧ t.get 3 = some (.str (SB (partL us i))) ∧ t.get 4 = some (.int .i64 i)) (k := us.length - 1) (by omega) ?_ ?_))))
  · exact ⟨1, by omega, by omega, s1, by ((repeat (with_reducible apply Dom.set)); exact hd), by simp only [Tr.get_set_ne, ne_eq, Nat.reduceEqDiff, not_false_eq_true, h0], by simp only [Tr.get_set_self, Tr.get_set_ne, hd _, ne_eq, Nat.reduceEqDiff, not_false_eq_true, decide_true, Nat.reduceLT, hd1], by simp only [Tr.get_set_self, Tr.get_set_ne, hd _, ne_eq, Nat.reduceEqDiff, not_false_eq_true, decide_true, Nat.reduceLT]; rfl⟩
  clear h0 hd
  intro k t M ⟨i, hk, hi0, sM, hd, h0, h3, h4⟩
  have lv1 := (hv.grow sM.grow).len
  refine W_seq (W_seq (W_seqR (by simp only [runSeq_cons, runSeq_nil, evalArgs_nil, evalArgs_tmp, val1, putT, Tr.get_set_self, Tr.get_set_ne, hd _, ne_eq, Nat.reduceEqDiff, not_false_eq_true, decide_true, Nat.reduceLT, opI_move, opI_lss, h0, h4, lv1]; rfl) ?_))
  refine W_cond (by simp only [PArg.eval, Tr.get_set_self, Tr.get_set_ne, hd _, ne_eq, Nat.reduceEqDiff, not_false_eq_true, decide_true, Nat.reduceLT]; rfl) (fun hb => W_skip ?_) (fun hb => W_exit ?_)
  · have hi : i < us.length := by simpa using hb
    obtain ⟨p, pp, p1, p2⟩ := (hv.grow sM.grow).at_ hi
    have hui := hu us[i] (List.getElem_mem hi)
    obtain ⟨n, hn⟩ : ∃ n : Nat, us[i] = n := ⟨us[i].toNat, by omega⟩
    rw [hn] at p2
    obtain ⟨_, M2, c2, rfl, s2⟩ := refprint_ok d M sM.ok n (by omega)
    have hpl := partL_len hu i (by omega)
    have hn20 := dec_len20 (u := n) (by omega)
    have a1 := opI_addStr (M := M) (a := partL us i) (b := [44]) (by rw [List.length_singleton]; omega)
    have a2 := opI_addStr (M := M2) (a := partL us i ++ [44]) (b := decDigits n) (by rw [List.length_append, List.length_singleton]; omega)
    have hp : partL us i ++ [44] ++ decDigits n = partL us (i + 1) := by rw [partL_succ hi0 hi, hn]; rfl
    show W _ _
    refine W_seq (W_block (W_seqR (by simp only [runSeq_cons, runSeq_nil, evalArgs_nil, evalArgs_tmp, evalArgs_const, val1, putT, Tr.get_set_self, Tr.get_set_ne, hd _, ne_eq, Nat.reduceEqDiff, not_false_eq_true, decide_true, Nat.reduceLT, opI_move, opI_callF, h0, h3, h4, a1, p1, p2, c2, a2, hp]; rfl) ?_))
    show W _ _
    refine W_seqR (by simp only [runSeq_cons, runSeq_nil, evalArgs_nil, evalArgs_tmp, evalArgs_const, val1, putT, Tr.get_set_self, Tr.get_set_ne, hd _, ne_eq, Nat.reduceEqDiff, not_false_eq_true, decide_true, Nat.reduceLT, opI_move, opI_add, h4]; rfl) ?_
    refine ⟨k - 1, by omega, i + 1, by omega, by omega, sM.trans s2, by ((repeat (with_reducible apply Dom.set)); exact hd), by simp only [Tr.get_set_ne, ne_eq, Nat.reduceEqDiff, not_false_eq_true, h0], by simp only [Tr.get_set_self, Tr.get_set_ne, hd _, ne_eq, Nat.reduceEqDiff, not_false_eq_true, decide_true, Nat.reduceLT], ?_⟩
    simp only [Tr.get_set_self, Tr.get_set_ne, hd _, ne_eq, Nat.reduceEqDiff, not_false_eq_true, decide_true, Nat.reduceLT]
    rw [wrapF_small (by omega) (by omega)]; rfl
  show W _ _
  have hie : i = us.length := by
    have : ¬ i < us.length := by simpa using hb
    omega
  subst hie
  refine W_seq (W_seqR (by simp only [runSeq_cons, runSeq_nil, evalArgs_nil, evalArgs_tmp, val1, putT, Tr.get_set_self, Tr.get_set_ne, hd _, ne_eq, Nat.reduceEqDiff, not_false_eq_true, decide_true, Nat.reduceLT, opI_move, h3]; rfl) (W_ret ?_))
  refine ⟨_, fin_tmp (by simp only [Tr.get_set_self, Tr.get_set_ne, hd _, ne_eq, Nat.reduceEqDiff, not_false_eq_true, decide_true, Nat.reduceLT]; try rfl), ?_, sM⟩
  unfold listL partL; rw [if_neg hne, List.take_of_length_le (Nat.le_refl _)]; rfl
end Go.Proofs.YtphdlmmllahgkaaDoor.num
