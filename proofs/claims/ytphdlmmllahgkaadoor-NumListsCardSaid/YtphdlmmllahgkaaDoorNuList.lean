/- The walks of num.List and of awake. -/
import Derived.Test.YtphdlmmllahgkaaDoorNuRef
namespace Go.Proofs.YtphdlmmllahgkaaDoor.num
open Go Go.Vx Go.Lib
/-- what a list of numbers is printed as -/
def listL (us : List Int) : List UInt8 := if us = [] then [45] else joinS [44] (us.map fun u => decDigits u.toNat)
abbrev strU (u : Int) : AV := .str (SB (decDigits u.toNat))
theorem make_strs {M0 M : AMem} (h : Step M0 M) {n : Nat} (hn : n ≤ 100000) :
    opI (.makeSlice 1 16 [.str ⟨#[]⟩]) [.int .i64 n, .int .i64 n] M = some (.val (.slice (some (M.n, 0)) n n false) (M.push (.cells (List.replicate n (.str ⟨#[]⟩)) 1 true none))) ∧ Step M0 (M.push (.cells (List.replicate n (.str ⟨#[]⟩)) 1 true none)) := by
  have e : ((List.range (((n : Nat) : Int).toNat * 1)).map fun i => [AV.str ⟨#[]⟩].getD (i % 1) (.tuple [])) = List.replicate n (.str ⟨#[]⟩) := by
    apply List.ext_getElem
    · simp
    · intro i h1 h2
      simp [Nat.mod_one]
  refine ⟨?_, h.push (fun _ _ _ _ he => by cases he)⟩
  simp only [opI]
  rw [if_pos ⟨by omega, by omega, by omega, by omega⟩, e]
  simp
theorem strs_of (us : List Int) : mapO strOf (us.map strU) = some (us.map fun u => decDigits u.toNat) := by
  induction us with
  | nil => rfl
  | cons u us ih =>
    rw [List.map_cons, List.map_cons]
    simp only [mapO, ih]
    rfl
theorem join_call (d : Nat) (M : AMem) {b : Nat} {us : List Int} {gr : Bool} {c sz : Nat} {wr : Bool} {g : Option Nat} (hb : M.get b = some (.cells (us.map strU) sz wr g)) (hcap : us.length ≤ c) (hl : us.length ≤ 1000) (hu : ∀ u ∈ us, 0 ≤ u ∧ u ≤ 18446744073709551615) :
    callF tbl code 100000 (d + 1) 19 [.slice (some (b, 0)) us.length c gr, .str (SB [44])] M = some (.str (SB (joinS [44] (us.map fun u => decDigits u.toNat))), M) := by
  refine callF_tbl ?_
  have hld : M.loadCells b 0 us.length = some (us.map strU) := by
    unfold AMem.loadCells
    rw [hb]
    simp only
    rw [if_pos (by rw [List.length_map]; omega), List.drop_zero, List.take_of_length_le (by rw [List.length_map]; omega)]
  have hall : (us.map fun u => decDigits u.toNat).all (fun x => decide (x.length ≤ 1000)) = true := by
    rw [List.all_eq_true]
    intro x hx
    obtain ⟨u, hu', rfl⟩ := List.mem_map.1 hx
    have := dec_len20 (u := u.toNat) (by have := hu u hu'; omega)
    exact decide_eq_true (by omega)
  have e0 : tbl0 19 [.slice (some (b, 0)) us.length c gr, .str (SB [44])] = none := by
    unfold tbl0
    rw [if_neg (by decide), if_neg (by decide)]
  unfold tbl
  rw [e0]
  show joinX _ _ _ M = _
  unfold joinX
  rw [if_pos rfl]
  simp only [hld, strs_of]
  rw [if_pos ⟨hcap, hl, by rw [SB_size]; simp, hall⟩]
set_option maxRecDepth 20000 in
set_option maxHeartbeats 4000000 in
theorem list_ok (d : Nat) (M0 : AMem) (hok : Okg M0) {v : AV} {us : List Int} (hv : IRow M0 .u64 v us) (hl : us.length ≤ 1000) (hu : ∀ u ∈ us, 0 ≤ u ∧ u ≤ 18446744073709551615) :
    Ans (callF tbl code 100000 (d + 2)) 10 [v] M0 fun r M' => r = .str (SB (listL us)) ∧ Step M0 M' := by
  refine Ans_of (tbl_none (by decide) _) (show code 10 = some c10 from by kernel_rfl) (by simp) fun t hd ha => ?_
  have h0 := ha 0 _ rfl
  clear ha
  have lv := hv.len
  refine W_seq (W_seqR (by simp only [runSeq_cons, runSeq_nil, evalArgs_nil, evalArgs_const, val1, putT, opI_move]; rfl) ?_)
  by_cases hne : us = []
  · have e1 : ((us.length : Int) == 0) = true := by rw [hne]; rfl
    refine W_seq (W_seq (W_seqR (by simp only [runSeq_cons, runSeq_nil, evalArgs_nil, evalArgs_tmp, evalArgs_const, val1, putT, Tr.get_set_self, Tr.get_set_ne, hd _, ne_eq, Nat.reduceEqDiff, not_false_eq_true, decide_true, Nat.reduceLT, opI_move, opI_eql, h0, lv, e1]; rfl) ?_))
    refine W_cond (b := true) (by simp only [PArg.eval, Tr.get_set_self, Tr.get_set_ne, hd _, ne_eq, Nat.reduceEqDiff, not_false_eq_true, decide_true, Nat.reduceLT]; try rfl) (fun _ => ?_) (fun hb => by cases hb)
    refine W_seq (W_seqR (by simp only [runSeq_cons, runSeq_nil, evalArgs_nil, evalArgs_const, val1, putT, opI_move]; rfl) (W_ret ?_))
    refine ⟨_, fin_tmp (by simp only [Tr.get_set_self, Tr.get_set_ne, Option.isSome_some, hd _, ne_eq, Nat.reduceEqDiff, not_false_eq_true, decide_true, Nat.reduceLT]; try rfl), ?_, Step.refl hok⟩
    unfold listL; rw [if_pos hne]; rfl
  have hpos : 0 < us.length := List.length_pos_iff.2 hne
  have e1 : ((us.length : Int) == 0) = false := beq_false_of_ne (by omega)
  refine W_seq (W_seq (W_seqR (by simp only [runSeq_cons, runSeq_nil, evalArgs_nil, evalArgs_tmp, evalArgs_const, val1, putT, Tr.get_set_self, Tr.get_set_ne, hd _, ne_eq, Nat.reduceEqDiff, not_false_eq_true, decide_true, Nat.reduceLT, opI_move, opI_eql, h0, lv, e1]; rfl) ?_))
  refine W_cond (b := false) (by simp only [PArg.eval, Tr.get_set_self, Tr.get_set_ne, hd _, ne_eq, Nat.reduceEqDiff, not_false_eq_true, decide_true, Nat.reduceLT]; try rfl) (fun hb => by cases hb) (fun _ => W_skip ?_)
  show W _ _
  obtain ⟨m1, s1⟩ := make_strs (Step.refl hok) (n := us.length) (by omega)
  have g1 := get_push_self (k := .cells (List.replicate us.length (.str ⟨#[]⟩)) 1 true none) hok.1
  refine W_seq (W_seqR (by simp only [runSeq_cons, runSeq_nil, evalArgs_nil, evalArgs_tmp, val1, putT, Tr.get_set_self, Tr.get_set_ne, hd _, ne_eq, Nat.reduceEqDiff, not_false_eq_true, decide_true, Nat.reduceLT, opI_move, h0, lv, m1]; rfl) ?_)
  have gr1 := s1.grow
  have lv1 := (hv.grow gr1).len
  refine W_seq (W_seq (W_seqR (by simp only [runSeq_cons, runSeq_nil, evalArgs_nil, evalArgs_tmp, evalArgs_const, val1, putT, Tr.get_set_self, Tr.get_set_ne, hd _, ne_eq, Nat.reduceEqDiff, not_false_eq_true, decide_true, Nat.reduceLT, opI_move, h0, lv1]; rfl) (W_block (W_loop (fun k t M' => ∃ (i : Nat) (cs : List AV), k + i = us.length ∧ Step M0 M' ∧ M'.get M0.n = some (.cells cs 1 true none) ∧ cs.length = us.length ∧ (∀ j, j < i → cs[j]? = some (strU (us.getD j 0))) ∧ Dom t 27 ∧ t.get 3 = some (.slice (some (M0.n, 0)) us.length us.length false) ∧ t.get 12 = some v ∧ t.get 13 = some (.int .i64 us.length) ∧ t.get 14 = some (.int .i64 i)) (k := us.length) (by omega) ?_ ?_))))
  · exact ⟨0, _, rfl, s1, g1, by simp, fun j hj => by omega, by ((repeat (with_reducible apply Dom.set)); exact hd), by simp only [Tr.get_set_self, Tr.get_set_ne, hd _, ne_eq, Nat.reduceEqDiff, not_false_eq_true, decide_true, Nat.reduceLT], by simp only [Tr.get_set_self, Tr.get_set_ne, hd _, ne_eq, Nat.reduceEqDiff, not_false_eq_true, decide_true, Nat.reduceLT], by simp only [Tr.get_set_self, Tr.get_set_ne, hd _, ne_eq, Nat.reduceEqDiff, not_false_eq_true, decide_true, Nat.reduceLT], by simp only [Tr.get_set_self, Tr.get_set_ne, hd _, ne_eq, Nat.reduceEqDiff, not_false_eq_true, decide_true, Nat.reduceLT]; rfl⟩
  clear h0 hd
  intro k t M ⟨i, cs, hk, sM, hg, hcl, hcs, hd, h3, h12, h13, h14⟩
  refine W_seq (W_seqR (by simp only [runSeq_cons, runSeq_nil, evalArgs_nil, evalArgs_tmp, val1, putT, opI_lss, h13, h14]; rfl) (W_seq ?_))
  refine W_cond (by simp only [PArg.eval, Tr.get_set_self, hd _, decide_true, Nat.reduceLT]; rfl) (fun hb => W_skip ?_) (fun hb => W_exit ?_)
  · have hi : i < us.length := by simpa using hb
    obtain ⟨p, pp, p1, p2⟩ := (hv.grow sM.grow).at_ hi
    have hui := hu us[i] (List.getElem_mem hi)
    obtain ⟨n, hn⟩ : ∃ n : Nat, us[i] = n := ⟨us[i].toNat, by omega⟩
    rw [hn] at p2
    have pc := print_call d M n (by omega)
    obtain ⟨e5, s5, g5, k5⟩ := store1 (o := i) (x := .str (SB (decDigits n))) sM (Nat.le_refl _) hg ⟨rfl, rfl⟩ (by omega)
    have ix : opI (.indexAddrS 1) [.slice (some (M0.n, 0)) us.length us.length false, .int .i64 i] M = some (.val (.ptr (some (M0.n, i))) M) := by
      simp only [opI]
      rw [if_pos ⟨by omega, by omega⟩]
      simp
    show W _ _
    refine W_seq (W_block (W_seq (W_seqR (by simp only [runSeq_cons, runSeq_nil, evalArgs_nil, evalArgs_tmp, val1, putT, Tr.get_set_self, Tr.get_set_ne, hd _, ne_eq, Nat.reduceEqDiff, not_false_eq_true, decide_true, Nat.reduceLT, opI_move, h12, h14, p1, p2]; rfl) ?_)))
    refine W_seqR (by simp only [runSeq_cons, runSeq_nil, evalArgs_nil, evalArgs_tmp, val1, putT, Tr.get_set_self, Tr.get_set_ne, hd _, ne_eq, Nat.reduceEqDiff, not_false_eq_true, decide_true, Nat.reduceLT, opI_move, opI_callF, h3, pc, ix, e5]; rfl) ?_
    show W _ _
    refine W_seqR (by simp only [runSeq_cons, runSeq_nil, evalArgs_nil, evalArgs_tmp, evalArgs_const, val1, putT, Tr.get_set_self, Tr.get_set_ne, hd _, ne_eq, Nat.reduceEqDiff, not_false_eq_true, decide_true, Nat.reduceLT, opI_move, opI_add, h14]; rfl) ?_
    refine ⟨k - 1, by omega, i + 1, _, by omega, s5, g5, by rw [List.length_set]; exact hcl, fun j hj => ?_, by ((repeat (with_reducible apply Dom.set)); exact hd), by simp only [Tr.get_set_ne, ne_eq, Nat.reduceEqDiff, not_false_eq_true, h3], by simp only [Tr.get_set_ne, ne_eq, Nat.reduceEqDiff, not_false_eq_true, h12], by simp only [Tr.get_set_ne, ne_eq, Nat.reduceEqDiff, not_false_eq_true, h13], ?_⟩
    · by_cases hji : j = i
      · subst hji
        rw [List.getElem?_set_self (by omega)]
        have : us.getD j 0 = us[j] := by rw [List.getD_eq_getElem?_getD, List.getElem?_eq_getElem hi]; rfl
        rw [this, hn]; rfl
      · rw [List.getElem?_set_ne (by omega)]
        exact hcs j (by omega)
    simp only [Tr.get_set_self, Tr.get_set_ne, hd _, ne_eq, Nat.reduceEqDiff, not_false_eq_true, decide_true, Nat.reduceLT]
    rw [wrapF_small (by omega) (by omega)]; rfl
  show W _ _
  have hie : i = us.length := by
    have : ¬ i < us.length := by simpa using hb
    omega
  have hfull : cs = us.map strU := by
    apply List.ext_getElem?
    intro j
    by_cases hj : j < us.length
    · rw [hcs j (by omega), List.getElem?_map, List.getElem?_eq_getElem hj, List.getD_eq_getElem?_getD, List.getElem?_eq_getElem hj]; rfl
    · rw [List.getElem?_eq_none (by omega), List.getElem?_eq_none (by rw [List.length_map]; omega)]
  rw [hfull] at hg
  have jc := join_call d M (gr := false) (c := us.length) hg (Nat.le_refl _) hl hu
  refine W_seq (W_seqR (by simp only [runSeq_cons, runSeq_nil, evalArgs_nil, evalArgs_tmp, evalArgs_const, val1, putT, Tr.get_set_self, Tr.get_set_ne, hd _, ne_eq, Nat.reduceEqDiff, not_false_eq_true, decide_true, Nat.reduceLT, opI_move, opI_callF, h3, jc]; rfl) (W_ret ?_))
  refine ⟨_, fin_tmp (by simp only [Tr.get_set_self, Tr.get_set_ne, hd _, ne_eq, Nat.reduceEqDiff, not_false_eq_true, decide_true, Nat.reduceLT]; try rfl), ?_, sM⟩
  unfold listL; rw [if_neg hne]; rfl
theorem read_long : readL [49, 56, 52, 52, 54, 55, 52, 52, 48, 55, 51, 55, 48, 57, 53, 53, 49, 54, 49, 54] = (0, 14) := by decide
theorem list_ex : listL [1, 20] = [49, 44, 50, 48] := by
  unfold listL
  rw [if_neg (by simp)]
  show joinS [44] [decDigits 1, decDigits 20] = _
  rw [decDigits_one (by omega), decDigits_two (by omega) (by omega)]
  rfl
set_option maxHeartbeats 4000000 in
theorem awake_ok (d : Nat) (M0 : AMem) (hok : Okg M0) : Ans (callF tbl code 100000 (d + 3)) 5 [] M0 fun r M' => r = .bool true ∧ Step M0 M' := by
  refine Ans_of (tbl_none (by decide) _) (show code 5 = some c5 from by kernel_rfl) (by simp) fun t hd ha => ?_
  clear ha
  have rc := read_call (d + 1) M0 [49, 56, 52, 52, 54, 55, 52, 52, 48, 55, 51, 55, 48, 57, 53, 53, 49, 54, 49, 54] (by simp)
  rw [read_long] at rc
  have rc' : callF tbl code 100000 (d + 2) 6 [.str ⟨#[49, 56, 52, 52, 54, 55, 52, 52, 48, 55, 51, 55, 48, 57, 53, 53, 49, 54, 49, 54]⟩] M0 = some (.tuple [.int .u64 0, .int .i64 14], M0) := rc
  have z1 : ((14 : Int) == 14) = true := rfl
  have e1 : opI (.sliceLit 2 [.int .u64 0, .int .u64 0] [(0, 1), (1, 1)]) [.int .u64 1, .int .u64 20] M0 = some (.val (.slice (some (M0.n, 0)) 2 2 false) (M0.push (.cells [.int .u64 1, .int .u64 20] 0 true none))) := rfl
  have s1 := (Step.refl hok).push (k := .cells [.int .u64 1, .int .u64 20] 0 true none) (fun _ _ _ _ he => by cases he)
  have g1 := get_push_self (k := .cells [.int .u64 1, .int .u64 20] 0 true none) hok.1
  have r1 : IRow (M0.push (.cells [.int .u64 1, .int .u64 20] 0 true none)) .u64 (.slice (some (M0.n, 0)) 2 2 false) [1, 20] :=
    ⟨els_one, .inr (.inr ⟨M0.n, 0, 2, false, _, 0, true, none, rfl, g1, by rw [push_n]; omega, by simp, by simp⟩)⟩
  obtain ⟨_, M2, c2, rfl, s2⟩ := list_ok d _ s1.ok r1 (by simp) (fun u hu => by simp at hu; rcases hu with rfl | rfl <;> omega)
  rw [list_ex] at c2
  have e2 : opI (.bin .eql) [.str (SB [49, 44, 50, 48]), .str ⟨#[49, 44, 50, 48]⟩] M2 = some (.val (.bool true) M2) := opI_eqStr (a := [49, 44, 50, 48]) (b := [49, 44, 50, 48])
  refine W_seq (W_seqR (by simp only [runSeq_cons, runSeq_nil, evalArgs_nil, evalArgs_const, val1, putT, opI_move]; rfl) ?_)
  refine W_seq (W_seqR (by simp only [runSeq_cons, runSeq_nil, evalArgs_nil, evalArgs_tmp, evalArgs_const, val1, putT, Tr.get_set_self, Tr.get_set_ne, hd _, ne_eq, Nat.reduceEqDiff, not_false_eq_true, decide_true, Nat.reduceLT, opI_move, opI_extract, opI_callF, rc', List.getElem?_cons_zero, List.getElem?_cons_succ]; rfl) ?_)
  refine W_seq (W_seqR (by simp only [runSeq_cons, runSeq_nil, evalArgs_nil, evalArgs_tmp, evalArgs_const, val1, putT, Tr.get_set_self, Tr.get_set_ne, Tr.isSome_set, hd _, ne_eq, Nat.reduceEqDiff, not_false_eq_true, decide_true, Nat.reduceLT, opI_move, opI_eql, opI_callF, opI_pick, runSeq_guard (b := true), beq_self_eq_true, e1, c2, e2]; rfl) (W_ret ?_))
  exact ⟨_, fin_tmp (by simp only [Tr.get_set_self, Tr.get_set_ne, Option.isSome_some, hd _, ne_eq, Nat.reduceEqDiff, not_false_eq_true, decide_true, Nat.reduceLT]; try rfl), rfl, s1.trans s2⟩
end Go.Proofs.YtphdlmmllahgkaaDoor.num
