/- The walks of the document's Load, of May and of big. -/
import Derived.Test.YtoddncakdnmloaaLdLoad
namespace Go.Proofs.Ytoddncakdnmloaa.diary
open Go Go.Vx

theorem loadD_succ {es : List Ev} {sps : List Sp} {i : Nat} : loadD es sps (i + 1) = loadD es sps i ++ [((sps.countP (openAt es (stp es 0 + (i : Int))) : Nat) : Int)] := by
  unfold loadD
  rw [List.range_succ, List.map_append]
  rfl
theorem loadD_len {es : List Ev} {sps : List Sp} {i : Nat} : (loadD es sps i).length = i := by simp [loadD]
theorem count_take {α : Type} {p : α → Bool} {l : List α} {j : Nat} (hj : j < l.length) : (l.take (j + 1)).countP p = (l.take j).countP p + if p l[j] then 1 else 0 := by
  rw [List.take_add_one, List.countP_append, List.getElem?_eq_getElem hj]
  congr 1
  rw [Option.toList_some, List.countP_singleton]
theorem count_le {α : Type} {p : α → Bool} {l : List α} {j : Nat} (hj : j ≤ l.length) : (l.take j).countP p ≤ j := by
  have := List.countP_le_length (p := p) (l := l.take j)
  rw [List.length_take] at this
  omega

set_option maxRecDepth 20000 in
set_option maxHeartbeats 8000000 in
theorem refload_ok {v : AV} {es : List Ev} (d : Nat) (M0 : AMem) (hok : Okg M0) (hv : InEvs M0.g v es) (hn : es.length ≤ 1000) (hl : 0 < es.length) (hR : RightP es) (hlast : (ev es (es.length - 1)).step ≤ 2147483647) (hlong : lenS es ≤ 3000) :
    Ans (callF tbl code 100000 (d + 2)) 14 [v] M0 fun r M' => Step M0 M' ∧ IRow M' .i64 r (loadD es (refSp es es.length) (lenS es).toNat) := by
  refine Ans_of (tbl_none (by decide) _) (show code 14 = some c14 from by kernel_rfl) (by simp) fun t hd ha => ?_
  have h0 := ha 0 _ rfl
  clear ha
  refine W_seq (W_seqR (by simp only [runSeq_cons, runSeq_nil, evalArgs_nil, evalArgs_const, val1, putT, opI_move]; rfl) ?_)
  obtain ⟨sv, M1, c1, s1, rS⟩ := refspans_ok d M0 hok hv hn
  have hS := sorted_of hR.1
  have hin : ∀ s ∈ refSp es es.length, SpIn es s := refSp_in _ (Nat.le_refl _)
  have hcnt : (refSp es es.length).length ≤ es.length := refSp_len
  generalize refSp es es.length = sps at *
  have hfirst := (hR.1 0 (by omega)).1
  have hlen0 := place_lt hS (i := 0) (by omega)
  obtain ⟨N, hN⟩ : ∃ N : Nat, lenS es = N := ⟨(lenS es).toNat, by omega⟩
  have g1 : M1.g = M0.g := s1.grow.g
  refine W_seq (W_seqR (by simp only [runSeq_cons, runSeq_nil, evalArgs_nil, evalArgs_tmp, val1, putT, Tr.get_set_self, Tr.get_set_ne, hd _, ne_eq, Nat.reduceEqDiff, not_false_eq_true, decide_true, Nat.reduceLT, opI_move, opI_callF, h0, c1]; rfl) ?_)
  have e2 : opI (.sliceLit 0 [] []) [] M1 = some (.val (.slice (some (M1.n, 0)) 0 0 false) (M1.push (.cells [] 0 true none))) := rfl
  have s2 := (Step.refl s1.ok).push (k := .cells [] 0 true none) (fun _ _ _ _ he => by cases he)
  have g2 := get_push_self (k := .cells [] 0 true none) s1.ok.1
  refine W_seq (W_seqR (by simp only [runSeq_cons, runSeq_nil, evalArgs_nil, evalArgs_tmp, val1, putT, Tr.get_set_self, Tr.get_set_ne, hd _, ne_eq, Nat.reduceEqDiff, not_false_eq_true, decide_true, Nat.reduceLT, opI_move, e2]; rfl) ?_)
  obtain ⟨p, pp, p1, _, p2⟩ := hv.at_ (i := 0) (by omega) (M1.push (.cells [] 0 true none)) g1
  have P0 := p2 0 _ rfl
  have p1' : opI (.indexAddrS 10) [v, .int .i64 0] (M1.push (.cells [] 0 true none)) = some (.val (padd p 0) (M1.push (.cells [] 0 true none))) := p1
  have wl : wrapF .i64 ((es.length : Int) - 1) = ((es.length - 1 : Nat) : Int) := by rw [wrapF_small (by omega) (by omega)]; omega
  refine W_seq (W_seq (W_seqR (by simp only [runSeq_cons, runSeq_nil, evalArgs_nil, evalArgs_tmp, evalArgs_const, val1, putT, Tr.get_set_self, Tr.get_set_ne, hd _, ne_eq, Nat.reduceEqDiff, not_false_eq_true, decide_true, Nat.reduceLT, opI_move, Nat.add_zero, h0, p1', opI_fieldQ pp, P0]; rfl) (W_block (W_loop (fun k t M' => ∃ (i : Nat) (s : AV), k + i = N ∧ Step M1 M' ∧ OwnE M1 M' 1 s ((loadD es sps i).map fun x => [.int .i64 x]) ∧ Dom t 71 ∧ t.get 0 = some v ∧ t.get 3 = some sv ∧ t.get 4 = some s ∧ t.get 5 = some (.int .i64 ((ev es 0).step + i))) (k := N) (by omega) ?_ ?_))))
  · refine ⟨0, _, rfl, s2, ⟨M1.n, false, 0, none, rfl, Nat.le_refl _, g2, (fun he => by cases he), (fun g' he => by cases he), (fun e he => by simp [loadD] at he), rfl⟩, by ((repeat (with_reducible apply Dom.set)); exact hd), by simp only [Tr.get_set_ne, ne_eq, Nat.reduceEqDiff, not_false_eq_true, h0], by simp only [Tr.get_set_self, Tr.get_set_ne, hd _, ne_eq, Nat.reduceEqDiff, not_false_eq_true, decide_true, Nat.reduceLT], by simp only [Tr.get_set_self, Tr.get_set_ne, hd _, ne_eq, Nat.reduceEqDiff, not_false_eq_true, decide_true, Nat.reduceLT]; rfl, ?_⟩
    simp only [Tr.get_set_self, Tr.get_set_ne, hd _, ne_eq, Nat.reduceEqDiff, not_false_eq_true, decide_true, Nat.reduceLT]
    rw [show ((0 : Nat) : Int) = 0 from rfl, Int.add_zero]
  clear h0 hd p1 p1' P0 p2 c1 e2 s2 g2
  intro k t M ⟨i, s, hk, st, ho, hd, h0, h3, h4, h5⟩
  have lv := hv.len M (st.grow.g.trans g1)
  obtain ⟨q, qq, q1, _, q2⟩ := hv.at_ (i := es.length - 1) (by omega) M (st.grow.g.trans g1)
  have Q0 := q2 0 _ rfl
  refine W_seq (W_seq (W_seqR (by simp only [runSeq_cons, runSeq_nil, evalArgs_nil, evalArgs_tmp, evalArgs_const, val1, putT, Tr.get_set_self, Tr.get_set_ne, hd _, ne_eq, Nat.reduceEqDiff, not_false_eq_true, decide_true, Nat.reduceLT, opI_move, opI_lss, opI_sub, Nat.add_zero, h0, h5, lv, wl, q1, opI_fieldQ qq, Q0]; rfl) ?_))
  refine W_cond (by simp only [PArg.eval, Tr.get_set_self, Tr.get_set_ne, hd _, ne_eq, Nat.reduceEqDiff, not_false_eq_true, decide_true, Nat.reduceLT]; rfl) (fun hb => W_skip ?_) (fun hb => ?_)
  rotate_left
  · refine W_exit ?_
    have hb' : ¬ (ev es 0).step + (i : Int) < (ev es (es.length - 1)).step := by simpa using hb
    have hin : i = N := by unfold lenS at hN; omega
    subst hin
    show W _ _
    refine W_seq (W_seqR (by simp only [runSeq_cons, runSeq_nil, evalArgs_nil, evalArgs_tmp, val1, putT, Tr.get_set_self, Tr.get_set_ne, hd _, ne_eq, Nat.reduceEqDiff, not_false_eq_true, decide_true, Nat.reduceLT, opI_move, h4]; rfl) (W_ret ?_))
    refine ⟨_, fin_tmp (by simp only [Tr.get_set_self, Tr.get_set_ne, hd _, ne_eq, Nat.reduceEqDiff, not_false_eq_true, decide_true, Nat.reduceLT]; try rfl), s1.trans st, ?_⟩
    rw [hN, Int.toNat_natCast]
    exact ho.row st.ok.1
  have hb' : (ev es 0).step + (i : Int) < (ev es (es.length - 1)).step := by simpa using hb
  have hiN : i < N := by unfold lenS at hN; omega
  have hat : stp es 0 + (i : Int) = (ev es 0).step + i := rfl
  have rM := rS.grow st.grow
  have lS := rM.len
  clear hb q1 Q0 q2 lv
  show W _ _
  refine W_seq (W_block (W_seq (W_seqR (by simp only [runSeq_cons, runSeq_nil, evalArgs_nil, evalArgs_const, val1, putT, opI_move]; rfl) ?_)))
  refine W_seq (W_seq (W_seqR (by simp only [runSeq_cons, runSeq_nil, evalArgs_nil, evalArgs_const, val1, putT, opI_move]; rfl) (W_block (W_loop (fun kk t M' => ∃ (j : Nat), kk + j = sps.length ∧ M' = M ∧ Dom t 71 ∧ t.get 0 = some v ∧ t.get 3 = some sv ∧ t.get 4 = some s ∧ t.get 5 = some (.int .i64 ((ev es 0).step + i)) ∧ t.get 6 = some (.int .i64 ((sps.take j).countP (openAt es ((ev es 0).step + i)) : Nat)) ∧ t.get 7 = some (.int .i64 j)) (k := sps.length) (by omega) ?_ ?_))))
  · exact ⟨0, rfl, rfl, by ((repeat (with_reducible apply Dom.set)); exact hd), by simp only [Tr.get_set_ne, ne_eq, Nat.reduceEqDiff, not_false_eq_true, h0], by simp only [Tr.get_set_ne, ne_eq, Nat.reduceEqDiff, not_false_eq_true, h3], by simp only [Tr.get_set_ne, ne_eq, Nat.reduceEqDiff, not_false_eq_true, h4], by simp only [Tr.get_set_ne, ne_eq, Nat.reduceEqDiff, not_false_eq_true, h5], by simp only [Tr.get_set_self, Tr.get_set_ne, hd _, ne_eq, Nat.reduceEqDiff, not_false_eq_true, decide_true, Nat.reduceLT]; rfl, by simp only [Tr.get_set_self, Tr.get_set_ne, hd _, ne_eq, Nat.reduceEqDiff, not_false_eq_true, decide_true, Nat.reduceLT]; rfl⟩
  clear h0 h3 h4 h5 hd
  intro kk t M' ⟨j, hkk, hM, hd, h0, h3, h4, h5, h6, h7⟩
  subst hM
  refine W_seq (W_seq (W_seqR (by simp only [runSeq_cons, runSeq_nil, evalArgs_nil, evalArgs_tmp, val1, putT, Tr.get_set_self, Tr.get_set_ne, hd _, ne_eq, Nat.reduceEqDiff, not_false_eq_true, decide_true, Nat.reduceLT, opI_move, opI_lss, h3, h7, lS]; rfl) ?_))
  refine W_cond (by simp only [PArg.eval, Tr.get_set_self, Tr.get_set_ne, hd _, ne_eq, Nat.reduceEqDiff, not_false_eq_true, decide_true, Nat.reduceLT]; rfl) (fun hb => W_skip ?_) (fun hb => ?_)
  rotate_left
  · refine W_exit ?_
    have hj : j = sps.length := by simp at hb; omega
    rw [hj, List.take_of_length_le (Nat.le_refl _)] at h6
    show W _ _
    have hc := List.countP_le_length (p := openAt es ((ev es 0).step + i)) (l := sps)
    obtain ⟨M2, g, f1, f2, s2, o2, _, n2, _⟩ := push_el (bytes := 8) (z := [.int .i64 0]) (x := .int .i64 ((sps.countP (openAt es ((ev es 0).step + i)) : Nat) : Int)) st (.inl ho) rfl rfl (by omega) rfl (by simp [loadD_len]; omega) (by simp [loadD_len]; omega)
    refine W_seqR (by simp only [runSeq_cons, runSeq_nil, evalArgs_nil, evalArgs_tmp, val1, putT, Tr.get_set_self, Tr.get_set_ne, hd _, ne_eq, Nat.reduceEqDiff, not_false_eq_true, decide_true, Nat.reduceLT, opI_move, h4, h6, f1, f2]; rfl) ?_
    show W _ _
    refine W_seqR (by simp only [runSeq_cons, runSeq_nil, evalArgs_nil, evalArgs_tmp, evalArgs_const, val1, putT, Tr.get_set_self, Tr.get_set_ne, hd _, ne_eq, Nat.reduceEqDiff, not_false_eq_true, decide_true, Nat.reduceLT, opI_move, opI_add, h5]; rfl) ?_
    refine ⟨k - 1, by omega, i + 1, _, by omega, s2, ?_, by ((repeat (with_reducible apply Dom.set)); exact hd), by simp only [Tr.get_set_ne, ne_eq, Nat.reduceEqDiff, not_false_eq_true, h0], by simp only [Tr.get_set_ne, ne_eq, Nat.reduceEqDiff, not_false_eq_true, h3], by simp only [Tr.get_set_self, Tr.get_set_ne, hd _, ne_eq, Nat.reduceEqDiff, not_false_eq_true, decide_true, Nat.reduceLT]; rfl, ?_⟩
    · rw [loadD_succ, hat]
      simpa [AV.cells] using o2
    · simp only [Tr.get_set_self, Tr.get_set_ne, hd _, ne_eq, Nat.reduceEqDiff, not_false_eq_true, decide_true, Nat.reduceLT]
      rw [wrapF_small (by omega) (by omega), Int.add_assoc]; rfl
  have hj : j < sps.length := by simpa using hb
  clear hb
  have hct := count_take (p := openAt es ((ev es 0).step + i)) hj
  have hcl := count_le (p := openAt es ((ev es 0).step + i)) (l := sps) (j := j) (by omega)
  obtain ⟨p, va, la, pp, p1, _, _, _, _, P2, P3, _, _⟩ := rM.at_ hj
  obtain ⟨a, hal, hf, ht⟩ := hin _ (List.getElem_mem hj)
  generalize sps[j] = S at *
  rw [hf] at P2
  obtain ⟨q, qq, q1, _, q2⟩ := hv.at_ hal M' (st.grow.g.trans g1)
  have Q0 := q2 0 _ rfl
  have hA : stp es S.from_ = (ev es a).step := by rw [hf, stp_nat]
  have no : openAt es ((ev es 0).step + i) S = false → W (exec (callF tbl code 100000 (d + 1)) 100000 .skip t M') fun _ _ _ => True := fun _ => ⟨_, _, _, rfl, trivial⟩
  clear no
  by_cases ca : (ev es a).step ≤ (ev es 0).step + i
  rotate_left
  · have ea : decide ((ev es a).step ≤ (ev es 0).step + i) = false := decide_eq_false ca
    have eo : openAt es ((ev es 0).step + i) S = false := by unfold openAt; rw [hA, ea]; rfl
    rw [eo, if_neg (by simp), Nat.add_zero] at hct
    refine W_seq (W_block (W_seq (W_seqR (by simp only [runSeq_cons, runSeq_nil, evalArgs_nil, evalArgs_tmp, evalArgs_const, val1, putT, Tr.get_set_self, Tr.get_set_ne, Tr.isSome_set, hd _, ne_eq, Nat.reduceEqDiff, not_false_eq_true, decide_true, Nat.reduceLT, opI_move, opI_leq, opI_pick, Nat.zero_add, Nat.add_zero, runSeq_guard (b := false), Bool.false_beq, Bool.not_true, runSeq_skip, h0, h3, h5, h7, p1, opI_fieldQ pp, P2, q1, opI_fieldQ qq, Q0, ea]; rfl) ?_)))
    refine W_cond (b := false) (by simp only [PArg.eval, Tr.get_set_self, Tr.get_set_ne, hd _, ne_eq, Nat.reduceEqDiff, not_false_eq_true, decide_true, Nat.reduceLT]; try rfl) (fun hb => by cases hb) (fun _ => W_skip ?_)
    show W _ _
    refine W_seqR (by simp only [runSeq_cons, runSeq_nil, evalArgs_nil, evalArgs_tmp, evalArgs_const, val1, putT, Tr.get_set_self, Tr.get_set_ne, hd _, ne_eq, Nat.reduceEqDiff, not_false_eq_true, decide_true, Nat.reduceLT, opI_move, opI_add, h7]; rfl) ?_
    refine ⟨kk - 1, by omega, j + 1, by omega, rfl, by ((repeat (with_reducible apply Dom.set)); exact hd), by simp only [Tr.get_set_ne, ne_eq, Nat.reduceEqDiff, not_false_eq_true, h0], by simp only [Tr.get_set_ne, ne_eq, Nat.reduceEqDiff, not_false_eq_true, h3], by simp only [Tr.get_set_ne, ne_eq, Nat.reduceEqDiff, not_false_eq_true, h4], by simp only [Tr.get_set_ne, ne_eq, Nat.reduceEqDiff, not_false_eq_true, h5], by simp only [Tr.get_set_ne, ne_eq, Nat.reduceEqDiff, not_false_eq_true, h6]; rw [hct]; rfl, ?_⟩
    simp only [Tr.get_set_self, Tr.get_set_ne, hd _, ne_eq, Nat.reduceEqDiff, not_false_eq_true, decide_true, Nat.reduceLT]
    rw [wrapF_small (by omega) (by omega)]; rfl
  have ea : decide ((ev es a).step ≤ (ev es 0).step + i) = true := decide_eq_true ca
  have yes : openAt es ((ev es 0).step + i) S = true → wrapF .i64 (((sps.take j).countP (openAt es ((ev es 0).step + i)) : Nat) + 1) = ((sps.take (j + 1)).countP (openAt es ((ev es 0).step + i)) : Nat) := fun he => by
    rw [he, if_pos rfl] at hct
    rw [wrapF_small (by omega) (by omega), hct]; rfl
  rcases ht with ht | ⟨b, hab, hbl, ht⟩
  · have et : decide (S.to < 0) = true := decide_eq_true (by omega)
    have eo : openAt es ((ev es 0).step + i) S = true := by unfold openAt; rw [hA, ea, et]; rfl
    have wc := yes eo
    refine W_seq (W_block (W_seq (W_seqR (by simp only [runSeq_cons, runSeq_nil, evalArgs_nil, evalArgs_tmp, evalArgs_const, val1, putT, Tr.get_set_self, Tr.get_set_ne, Tr.isSome_set, hd _, ne_eq, Nat.reduceEqDiff, not_false_eq_true, decide_true, Nat.reduceLT, opI_move, opI_lss, opI_leq, opI_pick, Nat.zero_add, Nat.add_zero, runSeq_guard (b := true), beq_self_eq_true, Bool.true_beq, h0, h3, h5, h7, p1, opI_fieldQ pp, P2, P3, q1, opI_fieldQ qq, Q0, ea, et]; rfl) ?_)))
    refine W_cond (b := true) (by simp only [PArg.eval, Tr.get_set_self, Tr.get_set_ne, hd _, ne_eq, Nat.reduceEqDiff, not_false_eq_true, decide_true, Nat.reduceLT]; try rfl) (fun _ => ?_) (fun hb => by cases hb)
    refine W_seqR (by simp only [runSeq_cons, runSeq_nil, evalArgs_nil, evalArgs_tmp, evalArgs_const, val1, putT, Tr.get_set_self, Tr.get_set_ne, hd _, ne_eq, Nat.reduceEqDiff, not_false_eq_true, decide_true, Nat.reduceLT, opI_move, opI_add, h6, wc]; rfl) ?_
    show W _ _
    refine W_seqR (by simp only [runSeq_cons, runSeq_nil, evalArgs_nil, evalArgs_tmp, evalArgs_const, val1, putT, Tr.get_set_self, Tr.get_set_ne, hd _, ne_eq, Nat.reduceEqDiff, not_false_eq_true, decide_true, Nat.reduceLT, opI_move, opI_add, h7]; rfl) ?_
    refine ⟨kk - 1, by omega, j + 1, by omega, rfl, by ((repeat (with_reducible apply Dom.set)); exact hd), by simp only [Tr.get_set_ne, ne_eq, Nat.reduceEqDiff, not_false_eq_true, h0], by simp only [Tr.get_set_ne, ne_eq, Nat.reduceEqDiff, not_false_eq_true, h3], by simp only [Tr.get_set_ne, ne_eq, Nat.reduceEqDiff, not_false_eq_true, h4], by simp only [Tr.get_set_ne, ne_eq, Nat.reduceEqDiff, not_false_eq_true, h5], by simp only [Tr.get_set_self, Tr.get_set_ne, hd _, ne_eq, Nat.reduceEqDiff, not_false_eq_true, decide_true, Nat.reduceLT], ?_⟩
    simp only [Tr.get_set_self, Tr.get_set_ne, hd _, ne_eq, Nat.reduceEqDiff, not_false_eq_true, decide_true, Nat.reduceLT]
    rw [wrapF_small (by omega) (by omega)]; rfl
  · have et : decide (S.to < 0) = false := decide_eq_false (by omega)
    have hB : stp es S.to = (ev es b).step := by rw [ht, stp_nat]
    rw [ht] at et
    rw [ht] at P3
    obtain ⟨q', qq', q1', _, q2'⟩ := hv.at_ hbl M' (st.grow.g.trans g1)
    have Q0' := q2' 0 _ rfl
    by_cases cb : (ev es b).step > (ev es 0).step + i
    · have eb : decide ((ev es b).step > (ev es 0).step + i) = true := decide_eq_true cb
      have eo : openAt es ((ev es 0).step + i) S = true := by unfold openAt; rw [hA, ea, hB, eb, Bool.or_true]; rfl
      have wc := yes eo
      refine W_seq (W_block (W_seq (W_seqR (by simp only [runSeq_cons, runSeq_nil, evalArgs_nil, evalArgs_tmp, evalArgs_const, val1, putT, Tr.get_set_self, Tr.get_set_ne, Tr.isSome_set, hd _, ne_eq, Nat.reduceEqDiff, not_false_eq_true, decide_true, Nat.reduceLT, opI_move, opI_lss, opI_leq, opI_gtr, opI_pick, Nat.zero_add, Nat.add_zero, runSeq_guard (b := true), runSeq_guard (b := false), beq_self_eq_true, h0, h3, h5, h7, p1, opI_fieldQ pp, P2, P3, q1, opI_fieldQ qq, Q0, ea, et, q1', opI_fieldQ qq', Q0', eb]; rfl) ?_)))
      refine W_cond (b := true) (by simp only [PArg.eval, Tr.get_set_self, Tr.get_set_ne, hd _, ne_eq, Nat.reduceEqDiff, not_false_eq_true, decide_true, Nat.reduceLT]; try rfl) (fun _ => ?_) (fun hb => by cases hb)
      refine W_seqR (by simp only [runSeq_cons, runSeq_nil, evalArgs_nil, evalArgs_tmp, evalArgs_const, val1, putT, Tr.get_set_self, Tr.get_set_ne, hd _, ne_eq, Nat.reduceEqDiff, not_false_eq_true, decide_true, Nat.reduceLT, opI_move, opI_add, h6, wc]; rfl) ?_
      show W _ _
      refine W_seqR (by simp only [runSeq_cons, runSeq_nil, evalArgs_nil, evalArgs_tmp, evalArgs_const, val1, putT, Tr.get_set_self, Tr.get_set_ne, hd _, ne_eq, Nat.reduceEqDiff, not_false_eq_true, decide_true, Nat.reduceLT, opI_move, opI_add, h7]; rfl) ?_
      refine ⟨kk - 1, by omega, j + 1, by omega, rfl, by ((repeat (with_reducible apply Dom.set)); exact hd), by simp only [Tr.get_set_ne, ne_eq, Nat.reduceEqDiff, not_false_eq_true, h0], by simp only [Tr.get_set_ne, ne_eq, Nat.reduceEqDiff, not_false_eq_true, h3], by simp only [Tr.get_set_ne, ne_eq, Nat.reduceEqDiff, not_false_eq_true, h4], by simp only [Tr.get_set_ne, ne_eq, Nat.reduceEqDiff, not_false_eq_true, h5], by simp only [Tr.get_set_self, Tr.get_set_ne, hd _, ne_eq, Nat.reduceEqDiff, not_false_eq_true, decide_true, Nat.reduceLT], ?_⟩
      simp only [Tr.get_set_self, Tr.get_set_ne, hd _, ne_eq, Nat.reduceEqDiff, not_false_eq_true, decide_true, Nat.reduceLT]
      rw [wrapF_small (by omega) (by omega)]; rfl
    · have eb : decide ((ev es b).step > (ev es 0).step + i) = false := decide_eq_false cb
      have eo : openAt es ((ev es 0).step + i) S = false := by unfold openAt; rw [hA, ea, hB, eb, ht, et]; rfl
      rw [eo, if_neg (by simp), Nat.add_zero] at hct
      refine W_seq (W_block (W_seq (W_seqR (by simp only [runSeq_cons, runSeq_nil, evalArgs_nil, evalArgs_tmp, evalArgs_const, val1, putT, Tr.get_set_self, Tr.get_set_ne, Tr.isSome_set, hd _, ne_eq, Nat.reduceEqDiff, not_false_eq_true, decide_true, Nat.reduceLT, opI_move, opI_lss, opI_leq, opI_gtr, opI_pick, Nat.zero_add, Nat.add_zero, runSeq_guard (b := true), runSeq_guard (b := false), beq_self_eq_true, h0, h3, h5, h7, p1, opI_fieldQ pp, P2, P3, q1, opI_fieldQ qq, Q0, ea, et, q1', opI_fieldQ qq', Q0', eb]; rfl) ?_)))
      refine W_cond (b := false) (by simp only [PArg.eval, Tr.get_set_self, Tr.get_set_ne, hd _, ne_eq, Nat.reduceEqDiff, not_false_eq_true, decide_true, Nat.reduceLT]; try rfl) (fun hb => by cases hb) (fun _ => W_skip ?_)
      show W _ _
      refine W_seqR (by simp only [runSeq_cons, runSeq_nil, evalArgs_nil, evalArgs_tmp, evalArgs_const, val1, putT, Tr.get_set_self, Tr.get_set_ne, hd _, ne_eq, Nat.reduceEqDiff, not_false_eq_true, decide_true, Nat.reduceLT, opI_move, opI_add, h7]; rfl) ?_
      refine ⟨kk - 1, by omega, j + 1, by omega, rfl, by ((repeat (with_reducible apply Dom.set)); exact hd), by simp only [Tr.get_set_ne, ne_eq, Nat.reduceEqDiff, not_false_eq_true, h0], by simp only [Tr.get_set_ne, ne_eq, Nat.reduceEqDiff, not_false_eq_true, h3], by simp only [Tr.get_set_ne, ne_eq, Nat.reduceEqDiff, not_false_eq_true, h4], by simp only [Tr.get_set_ne, ne_eq, Nat.reduceEqDiff, not_false_eq_true, h5], by simp only [Tr.get_set_ne, ne_eq, Nat.reduceEqDiff, not_false_eq_true, h6]; rw [hct]; rfl, ?_⟩
      simp only [Tr.get_set_self, Tr.get_set_ne, hd _, ne_eq, Nat.reduceEqDiff, not_false_eq_true, decide_true, Nat.reduceLT]
      rw [wrapF_small (by omega) (by omega)]; rfl

set_option maxRecDepth 20000 in
set_option maxHeartbeats 4000000 in
theorem may_ok {v : AV} {es : List Ev} (d : Nat) (M0 : AMem) (hok : Okg M0) (hv : InEvs M0.g v es) (hn : es.length ≤ 1000) :
    Ans (callF tbl code 100000 (d + 4)) 12 [v] M0 fun r M' => Step M0 M' ∧ ∃ b, r = .bool b ∧ (b = true ↔ (∀ i, i < es.length → (ev es i).step ≤ 2147483647) ∧ RightP es) := by
  refine Ans_of (tbl_none (by decide) _) (show code 12 = some c12 from by kernel_rfl) (by simp) fun t hd ha => ?_
  have h0 := ha 0 _ rfl
  clear ha
  refine W_seq (W_seqR (by simp only [runSeq_cons, runSeq_nil, evalArgs_nil, evalArgs_const, val1, putT, opI_move]; rfl) ?_)
  refine W_seq (W_seq (W_seqR (by simp only [runSeq_cons, runSeq_nil, evalArgs_nil, evalArgs_const, val1, putT, opI_move]; rfl) (W_block (W_loop (fun k t M' => ∃ (i : Nat), k + i = es.length ∧ M' = M0 ∧ (∀ j, j < i → (ev es j).step ≤ 2147483647) ∧ Dom t 18 ∧ t.get 0 = some v ∧ t.get 3 = some (.int .i64 i)) (k := es.length) (by omega) ?_ ?_))))
  · exact ⟨0, rfl, rfl, fun j hj => by omega, by ((repeat (with_reducible apply Dom.set)); exact hd), by simp only [Tr.get_set_ne, ne_eq, Nat.reduceEqDiff, not_false_eq_true, h0], by simp only [Tr.get_set_self, Tr.get_set_ne, hd _, ne_eq, Nat.reduceEqDiff, not_false_eq_true, decide_true, Nat.reduceLT]; rfl⟩
  clear h0 hd
  intro k t M ⟨i, hk, hM, hst, hd, h0, h3⟩
  subst hM
  have lv := hv.len M rfl
  refine W_seq (W_seq (W_seqR (by simp only [runSeq_cons, runSeq_nil, evalArgs_nil, evalArgs_tmp, val1, putT, Tr.get_set_self, Tr.get_set_ne, hd _, ne_eq, Nat.reduceEqDiff, not_false_eq_true, decide_true, Nat.reduceLT, opI_move, opI_lss, h0, h3, lv]; rfl) ?_))
  refine W_cond (by simp only [PArg.eval, Tr.get_set_self, Tr.get_set_ne, hd _, ne_eq, Nat.reduceEqDiff, not_false_eq_true, decide_true, Nat.reduceLT]; rfl) (fun hb => W_skip ?_) (fun hb => ?_)
  rotate_left
  · refine W_exit ?_
    have hi : i = es.length := by simp at hb; omega
    subst hi
    show W _ _
    obtain ⟨_, M2, c2, s2, b, rfl, hb2⟩ := refright_ok d M hok hv hn
    refine W_seq (W_seqR (by simp only [runSeq_cons, runSeq_nil, evalArgs_nil, evalArgs_tmp, val1, putT, Tr.get_set_self, Tr.get_set_ne, hd _, ne_eq, Nat.reduceEqDiff, not_false_eq_true, decide_true, Nat.reduceLT, opI_move, opI_callF, h0, c2]; rfl) (W_ret ?_))
    exact ⟨_, fin_tmp (by simp only [Tr.get_set_self, Tr.get_set_ne, hd _, ne_eq, Nat.reduceEqDiff, not_false_eq_true, decide_true, Nat.reduceLT]; try rfl), s2, b, rfl, hb2.trans ⟨fun h => ⟨hst, h⟩, fun h => h.2⟩⟩
  have hi : i < es.length := by simpa using hb
  obtain ⟨p, pp, p1, _, p2⟩ := hv.at_ hi M rfl
  have P0 := p2 0 _ rfl
  by_cases c : (ev es i).step > 2147483647
  · have ec : decide ((ev es i).step > 2147483647) = true := decide_eq_true c
    refine W_seq (W_block (W_seq (W_seqR (by simp only [runSeq_cons, runSeq_nil, evalArgs_nil, evalArgs_tmp, evalArgs_const, val1, putT, Tr.get_set_self, Tr.get_set_ne, hd _, ne_eq, Nat.reduceEqDiff, not_false_eq_true, decide_true, Nat.reduceLT, opI_move, opI_gtr, Nat.add_zero, h0, h3, p1, opI_fieldQ pp, P0]; rfl) ?_)))
    refine W_cond (b := true) (by simp only [PArg.eval, Tr.get_set_self, Tr.get_set_ne, hd _, ne_eq, Nat.reduceEqDiff, not_false_eq_true, decide_true, Nat.reduceLT, ec]) (fun _ => ?_) (fun hb => by cases hb)
    refine W_seq (W_seqR (by simp only [runSeq_cons, runSeq_nil, evalArgs_nil, evalArgs_const, val1, putT, opI_move]; rfl) (W_ret ?_))
    exact ⟨_, fin_tmp (by simp only [Tr.get_set_self, Tr.get_set_ne, hd _, ne_eq, Nat.reduceEqDiff, not_false_eq_true, decide_true, Nat.reduceLT]; try rfl), Step.refl hok, false, rfl, by simp, fun h => by have := h.1 i hi; omega⟩
  · have ec : decide ((ev es i).step > 2147483647) = false := decide_eq_false c
    refine W_seq (W_block (W_seq (W_seqR (by simp only [runSeq_cons, runSeq_nil, evalArgs_nil, evalArgs_tmp, evalArgs_const, val1, putT, Tr.get_set_self, Tr.get_set_ne, hd _, ne_eq, Nat.reduceEqDiff, not_false_eq_true, decide_true, Nat.reduceLT, opI_move, opI_gtr, Nat.add_zero, h0, h3, p1, opI_fieldQ pp, P0]; rfl) ?_)))
    refine W_cond (b := false) (by simp only [PArg.eval, Tr.get_set_self, Tr.get_set_ne, hd _, ne_eq, Nat.reduceEqDiff, not_false_eq_true, decide_true, Nat.reduceLT, ec]) (fun hb => by cases hb) (fun _ => W_skip ?_)
    show W _ _
    refine W_seqR (by simp only [runSeq_cons, runSeq_nil, evalArgs_nil, evalArgs_tmp, evalArgs_const, val1, putT, Tr.get_set_self, Tr.get_set_ne, hd _, ne_eq, Nat.reduceEqDiff, not_false_eq_true, decide_true, Nat.reduceLT, opI_move, opI_add, h3]; rfl) ?_
    refine ⟨k - 1, by omega, i + 1, by omega, rfl, fun j hj => ?_, by ((repeat (with_reducible apply Dom.set)); exact hd), by simp only [Tr.get_set_ne, ne_eq, Nat.reduceEqDiff, not_false_eq_true, h0], ?_⟩
    · rcases Nat.lt_or_ge j i with h | h
      · exact hst j h
      · rw [show j = i by omega]; omega
    · simp only [Tr.get_set_self, Tr.get_set_ne, hd _, ne_eq, Nat.reduceEqDiff, not_false_eq_true, decide_true, Nat.reduceLT]
      rw [wrapF_small (by omega) (by omega)]; rfl

/-- events that came in, of any sizes -/
def Evs (G : Addr → Option AV) (v : AV) (es : List Ev) : Prop := (∀ M : AMem, M.g = G → RowE M 10 v (es.map Ev.cells)) ∧ ∀ e ∈ es, InRow G .i64 e.va e.vs ∧ InRow G .u64 e.la e.ls
theorem Evs.at_ {G : Addr → Option AV} {v : AV} {es : List Ev} (hv : Evs G v es) {i : Nat} (hi : i < es.length) (M : AMem) (hM : M.g = G) :
    ∃ p, IsP p ∧ opI (.indexAddrS 10) [v, .int .i64 i] M = some (.val (padd p 0) M) ∧ ∀ o x, (ev es i).cells[o]? = some x → opI (.load false 1) [padd p o] M = some (.val x M) := by
  obtain ⟨p, h1, h2, _, h3⟩ := (hv.1 M hM).at_ (i := i) (by rw [List.length_map]; exact hi) (by omega)
  rw [List.getElem_map, ev_at hi] at h3
  exact ⟨p, h1, h2, h3⟩
theorem Evs.len {G : Addr → Option AV} {v : AV} {es : List Ev} (hv : Evs G v es) (M : AMem) (hM : M.g = G) : opI .lenS [v] M = some (.val (.int .i64 es.length) M) := by
  have := (hv.1 M hM).len
  rwa [List.length_map] at this
theorem Evs.ev {G : Addr → Option AV} {v : AV} {es : List Ev} (hv : Evs G v es) {i : Nat} (hi : i < es.length) : InRow G .i64 (ev es i).va (ev es i).vs ∧ InRow G .u64 (ev es i).la (ev es i).ls := by
  rw [← ev_at hi]; exact hv.2 _ (List.getElem_mem hi)
set_option maxRecDepth 20000 in
set_option maxHeartbeats 4000000 in
theorem big_ok {v : AV} {es : List Ev} (d : Nat) (M0 : AMem) (hv : Evs M0.g v es) :
    Ans (callF tbl code 100000 (d + 1)) 10 [v] M0 fun r M' => M' = M0 ∧ ∃ b, r = .bool b ∧ (b = false → es.length ≤ 100 ∧ InEvs M0.g v es) := by
  refine Ans_of (tbl_none (by decide) _) (show code 10 = some c10 from by kernel_rfl) (by simp) fun t hd ha => ?_
  have h0 := ha 0 _ rfl
  clear ha
  have lv := hv.len M0 rfl
  refine W_seq (W_seqR (by simp only [runSeq_cons, runSeq_nil, evalArgs_nil, evalArgs_const, val1, putT, opI_move]; rfl) ?_)
  refine W_seq (W_seq (W_seqR (by simp only [runSeq_cons, runSeq_nil, evalArgs_nil, evalArgs_tmp, evalArgs_const, val1, putT, Tr.get_set_self, Tr.get_set_ne, hd _, ne_eq, Nat.reduceEqDiff, not_false_eq_true, decide_true, Nat.reduceLT, opI_move, opI_gtr, h0, lv]; rfl) ?_))
  refine W_cond (by simp only [PArg.eval, Tr.get_set_self, Tr.get_set_ne, hd _, ne_eq, Nat.reduceEqDiff, not_false_eq_true, decide_true, Nat.reduceLT]; rfl) (fun _ => ?_) (fun hb => W_skip ?_)
  · refine W_seq (W_seqR (by simp only [runSeq_cons, runSeq_nil, evalArgs_nil, evalArgs_const, val1, putT, opI_move]; rfl) (W_ret ?_))
    exact ⟨_, fin_tmp (by simp only [Tr.get_set_self, Tr.get_set_ne, Option.isSome_some, hd _, ne_eq, Nat.reduceEqDiff, not_false_eq_true, decide_true, Nat.reduceLT]; try rfl), rfl, true, rfl, fun h => by cases h⟩
  have hn : es.length ≤ 100 := by simp at hb; omega
  clear hb
  show W _ _
  refine W_seq (W_seq (W_seqR (by simp only [runSeq_cons, runSeq_nil, evalArgs_nil, evalArgs_const, val1, putT, opI_move]; rfl) (W_block (W_loop (fun k t M' => ∃ (i : Nat), k + i = es.length ∧ M' = M0 ∧ (∀ j, j < i → (ev es j).vs.length ≤ 100 ∧ (ev es j).ls.length ≤ 100) ∧ Dom t 31 ∧ t.get 0 = some v ∧ t.get 3 = some (.int .i64 i)) (k := es.length) (by omega) ?_ ?_))))
  · exact ⟨0, rfl, rfl, fun j hj => by omega, by ((repeat (with_reducible apply Dom.set)); exact hd), by simp only [Tr.get_set_ne, ne_eq, Nat.reduceEqDiff, not_false_eq_true, h0], by simp only [Tr.get_set_self, Tr.get_set_ne, hd _, ne_eq, Nat.reduceEqDiff, not_false_eq_true, decide_true, Nat.reduceLT]; rfl⟩
  clear h0 hd lv
  intro k t M ⟨i, hk, hM, hbd, hd, h0, h3⟩
  subst hM
  have lv := hv.len M rfl
  refine W_seq (W_seq (W_seqR (by simp only [runSeq_cons, runSeq_nil, evalArgs_nil, evalArgs_tmp, val1, putT, Tr.get_set_self, Tr.get_set_ne, hd _, ne_eq, Nat.reduceEqDiff, not_false_eq_true, decide_true, Nat.reduceLT, opI_move, opI_lss, h0, h3, lv]; rfl) ?_))
  refine W_cond (by simp only [PArg.eval, Tr.get_set_self, Tr.get_set_ne, hd _, ne_eq, Nat.reduceEqDiff, not_false_eq_true, decide_true, Nat.reduceLT]; rfl) (fun hb => W_skip ?_) (fun hb => ?_)
  · have hin : i < es.length := by simpa using hb
    obtain ⟨p, pp, p1, p2⟩ := hv.at_ hin M rfl
    have P6 := p2 6 _ rfl
    have P9 := p2 9 _ rfl
    have l6 := ((hv.ev hin).1 M rfl).len
    have l9 := ((hv.ev hin).2 M rfl).len
    by_cases c1 : ((ev es i).vs.length : Int) > 100
    · have e1 : decide (((ev es i).vs.length : Int) > 100) = true := decide_eq_true c1
      refine W_seq (W_block (W_seq (W_seqR (by simp only [runSeq_cons, runSeq_nil, evalArgs_nil, evalArgs_tmp, evalArgs_const, val1, putT, Tr.get_set_self, Tr.get_set_ne, Tr.isSome_set, hd _, ne_eq, Nat.reduceEqDiff, not_false_eq_true, decide_true, Nat.reduceLT, opI_move, opI_gtr, opI_pick, Nat.zero_add, Nat.reduceAdd, runSeq_guard (b := true), Bool.true_beq, h0, h3, p1, opI_fieldQ pp, P6, l6, e1]; rfl) ?_)))
      refine W_cond (b := true) (by simp only [PArg.eval, Tr.get_set_self, Tr.get_set_ne, hd _, ne_eq, Nat.reduceEqDiff, not_false_eq_true, decide_true, Nat.reduceLT]; try rfl) (fun _ => ?_) (fun hb => by cases hb)
      refine W_seq (W_seqR (by simp only [runSeq_cons, runSeq_nil, evalArgs_nil, evalArgs_const, val1, putT, opI_move]; rfl) (W_ret ?_))
      exact ⟨_, fin_tmp (by simp only [Tr.get_set_self, Tr.get_set_ne, hd _, ne_eq, Nat.reduceEqDiff, not_false_eq_true, decide_true, Nat.reduceLT]; try rfl), rfl, true, rfl, fun h => by cases h⟩
    have e1 : decide (((ev es i).vs.length : Int) > 100) = false := decide_eq_false c1
    by_cases c2 : ((ev es i).ls.length : Int) > 100
    · have e2 : decide (((ev es i).ls.length : Int) > 100) = true := decide_eq_true c2
      refine W_seq (W_block (W_seq (W_seqR (by simp only [runSeq_cons, runSeq_nil, evalArgs_nil, evalArgs_tmp, evalArgs_const, val1, putT, Tr.get_set_self, Tr.get_set_ne, Tr.isSome_set, hd _, ne_eq, Nat.reduceEqDiff, not_false_eq_true, decide_true, Nat.reduceLT, opI_move, opI_gtr, opI_pick, Nat.zero_add, Nat.reduceAdd, runSeq_guard (b := false), beq_self_eq_true, h0, h3, p1, opI_fieldQ pp, P6, P9, l6, l9, e1, e2]; rfl) ?_)))
      refine W_cond (b := true) (by simp only [PArg.eval, Tr.get_set_self, Tr.get_set_ne, hd _, ne_eq, Nat.reduceEqDiff, not_false_eq_true, decide_true, Nat.reduceLT]; try rfl) (fun _ => ?_) (fun hb => by cases hb)
      refine W_seq (W_seqR (by simp only [runSeq_cons, runSeq_nil, evalArgs_nil, evalArgs_const, val1, putT, opI_move]; rfl) (W_ret ?_))
      exact ⟨_, fin_tmp (by simp only [Tr.get_set_self, Tr.get_set_ne, hd _, ne_eq, Nat.reduceEqDiff, not_false_eq_true, decide_true, Nat.reduceLT]; try rfl), rfl, true, rfl, fun h => by cases h⟩
    have e2 : decide (((ev es i).ls.length : Int) > 100) = false := decide_eq_false c2
    refine W_seq (W_block (W_seq (W_seqR (by simp only [runSeq_cons, runSeq_nil, evalArgs_nil, evalArgs_tmp, evalArgs_const, val1, putT, Tr.get_set_self, Tr.get_set_ne, Tr.isSome_set, hd _, ne_eq, Nat.reduceEqDiff, not_false_eq_true, decide_true, Nat.reduceLT, opI_move, opI_gtr, opI_pick, Nat.zero_add, Nat.reduceAdd, runSeq_guard (b := false), beq_self_eq_true, h0, h3, p1, opI_fieldQ pp, P6, P9, l6, l9, e1, e2]; rfl) ?_)))
    refine W_cond (b := false) (by simp only [PArg.eval, Tr.get_set_self, Tr.get_set_ne, hd _, ne_eq, Nat.reduceEqDiff, not_false_eq_true, decide_true, Nat.reduceLT]; try rfl) (fun hb => by cases hb) (fun _ => W_skip ?_)
    show W _ _
    refine W_seqR (by simp only [runSeq_cons, runSeq_nil, evalArgs_nil, evalArgs_tmp, evalArgs_const, val1, putT, Tr.get_set_self, Tr.get_set_ne, hd _, ne_eq, Nat.reduceEqDiff, not_false_eq_true, decide_true, Nat.reduceLT, opI_move, opI_add, h3]; rfl) ?_
    refine ⟨k - 1, by omega, i + 1, by omega, rfl, fun j hj => ?_, by ((repeat (with_reducible apply Dom.set)); exact hd), by simp only [Tr.get_set_ne, ne_eq, Nat.reduceEqDiff, not_false_eq_true, h0], ?_⟩
    · rcases Nat.lt_or_ge j i with h | h
      · exact hbd j h
      · rw [show j = i by omega]; exact ⟨by omega, by omega⟩
    · simp only [Tr.get_set_self, Tr.get_set_ne, hd _, ne_eq, Nat.reduceEqDiff, not_false_eq_true, decide_true, Nat.reduceLT]
      rw [wrapF_small (by omega) (by omega)]; rfl
  have hi : i = es.length := by simp at hb; omega
  subst hi
  refine W_exit ?_
  show W _ _
  have hbd' : ∀ e ∈ es, e.vs.length ≤ 100 ∧ e.ls.length ≤ 100 := fun e he => by
    obtain ⟨j, hj, rfl⟩ := List.mem_iff_getElem.1 he
    rw [ev_at hj]; exact hbd j hj
  have hi : InEvs M.g v es := ⟨hv.1, fun e he => ⟨(hv.2 e he).1, (hv.2 e he).2, (hbd' e he).1, (hbd' e he).2⟩⟩
  refine W_seq (W_seqR (by simp only [runSeq_cons, runSeq_nil, evalArgs_nil, evalArgs_const, val1, putT, opI_move]; rfl) (W_ret ?_))
  exact ⟨_, fin_tmp (by simp only [Tr.get_set_self, Tr.get_set_ne, hd _, ne_eq, Nat.reduceEqDiff, not_false_eq_true, decide_true, Nat.reduceLT]; try rfl), rfl, false, rfl, fun _ => ⟨hn, hi⟩⟩
end Go.Proofs.Ytoddncakdnmloaa.diary
