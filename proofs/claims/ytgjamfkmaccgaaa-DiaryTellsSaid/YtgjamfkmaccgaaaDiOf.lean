/- The walks of Of, of the document's Big and Most. -/
import Derived.Test.YtgjamfkmaccgaaaDiHas
namespace Go.Proofs.Ytgjamfkmaccgaaa.diary
open Go Go.Vx

/-- A span is laid behind others of our own. -/
theorem SpRow.push {M0 M : AMem} {sv : AV} {sps : List Sp} {xc : List AV} {s : Sp} (h : Step M0 M) (hr : SpRow M0 M sv sps) (hx : IsSp M0 M xc s) (hn : sps.length < 90000) :
    ∃ sv' M1, opI (.sliceLit 1 [.int .i64 0, .int .i64 0, .int .i64 0, .int .i64 0, .int .i64 0, .int .u64 0, .slice none 0 0 false, .int .i64 0, .int .u64 0, .slice none 0 0 false] [(0, 10)]) [.agg xc] M = some (.val (.slice (some (M.n, 0)) 1 1 false) (M.push (.cells xc 0 true none))) ∧
      opI (.append 10 112) [sv, .slice (some (M.n, 0)) 1 1 false] (M.push (.cells xc 0 true none)) = some (.val sv' M1) ∧ Step M0 M1 ∧ SpRow M0 M1 sv' (sps ++ [s]) := by
  obtain ⟨els, hrow, hblk, hlen, hsp⟩ := hr
  obtain ⟨va, la, rfl, hv, hl⟩ := hx
  have hl10 : (AV.cells (.agg (spC s.who s.nth s.from_ s.to s.kind s.task va s.code s.v la))).length = 10 := rfl
  obtain ⟨M1, g, e1, e2, s1, o1, k1, n1, b1⟩ := push_el (bytes := 112) (z := [.int .i64 0, .int .i64 0, .int .i64 0, .int .i64 0, .int .i64 0, .int .u64 0, .slice none 0 0 false, .int .i64 0, .int .u64 0, .slice none 0 0 false]) h hrow rfl hl10 (by omega) (spC_one hv.one.1 hl.one.1) (by omega) (by omega)
  rw [cells_agg] at e1 e2 o1 b1
  have hsolo : ∀ b cs sz, sbOf sv = some b → M.get b = some (.cells cs sz true none) → cs ≠ [] ∧ sz ≠ 1 := fun b cs sz hb hc => by
    obtain ⟨cs', g, k1, k2⟩ := hblk b hb
    rw [k1] at hc; cases hc
    exact ⟨k2, by decide⟩
  refine ⟨_, M1, e1, e2, s1, els ++ [spC s.who s.nth s.from_ s.to s.kind s.task va s.code s.v la], .inl ?_, fun b hb => ?_, by simp [hlen], fun i y hi => ?_⟩
  · exact o1
  · cases hb
    exact ⟨_, g, b1, by simp [spC]⟩
  · rcases Nat.lt_or_ge i sps.length with hlt | hge
    · rw [List.getElem?_append_left hlt] at hi
      obtain ⟨e, q1, q2⟩ := hsp i y hi
      exact ⟨e, by rw [List.getElem?_append_left (by omega)]; exact q1, q2.keep k1 hsolo⟩
    · have : i = sps.length := by
        have := (List.getElem?_eq_some_iff.1 hi).1
        simp at this; omega
      subst this
      simp only [List.getElem?_append_right (Nat.le_refl _), Nat.sub_self, List.getElem?_cons_zero, Option.some.injEq] at hi
      subst hi
      refine ⟨_, ?_, IsSp.keep ⟨va, la, rfl, hv, hl⟩ k1 hsolo⟩
      rw [List.getElem?_append_right (by omega), hlen, Nat.sub_self]; rfl
/-- those of a worker -/
def ofL (l : List Sp) (w : Int) : List Sp := l.filter fun s => decide (s.who = w)
theorem ofL_succ {l : List Sp} {w : Int} {i : Nat} (h : i < l.length) : ofL (l.take (i + 1)) w = ofL (l.take i) w ++ if l[i].who = w then [l[i]] else [] := by
  unfold ofL
  rw [List.take_succ_eq_append_getElem h, List.filter_append]
  congr 1
  by_cases c : l[i].who = w <;> simp [List.filter, c]
theorem ofL_len {l : List Sp} {w : Int} {i : Nat} : (ofL (l.take i) w).length ≤ i := by
  have := List.length_filter_le (fun s : Sp => decide (s.who = w)) (l.take i)
  rw [List.length_take] at this
  unfold ofL; omega
set_option maxHeartbeats 2000000 in
theorem of_ok {v : AV} {sps : List Sp} {w : Int} (d : Nat) (M0 : AMem) (hok : Okg M0) (hv : InSps M0.g v sps) (hn : sps.length ≤ 1000) (hbb : ∀ s ∈ sps, s.vs.length ≤ 100 ∧ s.ls.length ≤ 100) :
    Ans (callF tbl code 100000 (d + 3)) 11 [v, .int .i64 w] M0 fun r M' => Step M0 M' ∧ RdRow M' r (ofL sps w) := by
  refine Ans_of (tbl_none (by decide) _) (show code 11 = some c11 from by kernel_rfl) (by simp) fun t hd ha => ?_
  have h0 := ha 0 _ rfl
  have h1 := ha 1 _ rfl
  clear ha
  have lv := hv.len M0 rfl
  refine W_seq (W_seqR (by simp only [runSeq_cons, runSeq_nil, evalArgs_nil, evalArgs_const, val1, putT, opI_move]; rfl) (W_seq (W_seqR (by simp only [runSeq_cons, runSeq_nil, evalArgs_nil, evalArgs_const, val1, putT, opI_move]; rfl) ?_)))
  refine W_seq (W_seq (W_seqR (by simp only [runSeq_cons, runSeq_nil, evalArgs_nil, evalArgs_tmp, evalArgs_const, val1, putT, Tr.get_set_self, Tr.get_set_ne, hd _, ne_eq, Nat.reduceEqDiff, not_false_eq_true, decide_true, Nat.reduceLT, opI_move, h0, lv]; rfl) (W_block (W_loop (fun k t M' => ∃ (i : Nat) (sv : AV), k + i = sps.length ∧ Step M0 M' ∧ SpRow M0 M' sv (ofL (sps.take i) w) ∧ Dom t 25 ∧ t.get 1 = some (.int .i64 w) ∧ t.get 5 = some sv ∧ t.get 8 = some v ∧ t.get 9 = some (.int .i64 sps.length) ∧ t.get 10 = some (.int .i64 i)) (k := sps.length) (by omega) ?_ ?_))))
  · exact ⟨0, _, rfl, Step.refl hok, ⟨[], .inr ⟨rfl, rfl⟩, fun b hb => (by cases hb), by simp [ofL], fun i s hs => by simp [ofL] at hs⟩, by ((repeat (with_reducible apply Dom.set)); exact hd), by simp only [Tr.get_set_ne, ne_eq, Nat.reduceEqDiff, not_false_eq_true, h1], by simp only [Tr.get_set_self, Tr.get_set_ne, hd _, ne_eq, Nat.reduceEqDiff, not_false_eq_true, decide_true, Nat.reduceLT]; try rfl, by simp only [Tr.get_set_self, Tr.get_set_ne, hd _, ne_eq, Nat.reduceEqDiff, not_false_eq_true, decide_true, Nat.reduceLT]; try rfl, by simp only [Tr.get_set_self, Tr.get_set_ne, hd _, ne_eq, Nat.reduceEqDiff, not_false_eq_true, decide_true, Nat.reduceLT]; try rfl, by simp only [Tr.get_set_self, Tr.get_set_ne, hd _, ne_eq, Nat.reduceEqDiff, not_false_eq_true, decide_true, Nat.reduceLT]; try rfl⟩
  clear h0 h1 hd lv
  intro k t M ⟨i, sv, hk, st, hr, hd, h1, h5, h8, h9, h10⟩
  refine W_seq (W_seqR (by simp only [runSeq_cons, runSeq_nil, evalArgs_nil, evalArgs_tmp, val1, putT, opI_lss, h9, h10]; rfl) (W_seq ?_))
  refine W_cond (by simp only [PArg.eval, Tr.get_set_self, hd _, decide_true, Nat.reduceLT]; rfl) (fun hb => W_skip ?_) (fun hb => ?_)
  rotate_left
  · refine W_exit ?_
    have hi : i = sps.length := by simp at hb; omega
    subst hi
    rw [List.take_length] at hr
    show W _ _
    refine W_seq (W_seqR (by simp only [runSeq_cons, runSeq_nil, evalArgs_nil, evalArgs_tmp, val1, putT, Tr.get_set_self, Tr.get_set_ne, hd _, ne_eq, Nat.reduceEqDiff, not_false_eq_true, decide_true, Nat.reduceLT, opI_move, h5]; rfl) (W_ret ?_))
    exact ⟨_, fin_tmp (by simp only [Tr.get_set_self, Tr.get_set_ne, hd _, ne_eq, Nat.reduceEqDiff, not_false_eq_true, decide_true, Nat.reduceLT]; try rfl), st, hr.rd st.ok.1⟩
  have hin : i < sps.length := by simpa using hb
  have hos := ofL_succ (w := w) hin
  have hol := ofL_len (l := sps) (w := w) (i := i)
  have hbi := hbb sps[i] (List.getElem_mem hin)
  obtain ⟨p, va, la, pp, hva, hla, hM⟩ := hv.at_ hin
  obtain ⟨p1, p2, _⟩ := hM M st.grow.g
  replace p2 := p2 0 10 (by omega)
  simp only [List.drop_zero, List.take_succ_cons, List.take_zero] at p2
  generalize sps[i] = X at *
  have s2 := st.push (k := .cells (spC 0 0 0 0 0 0 (.slice none 0 0 false) 0 0 (.slice none 0 0 false)) 0 true none) (fun _ _ _ _ he => by cases he)
  have g2 := get_push_self (k := .cells (spC 0 0 0 0 0 0 (.slice none 0 0 false) 0 0 (.slice none 0 0 false)) 0 true none) st.ok.1
  obtain ⟨e3, s3, c3, k3⟩ := store_all (n := 10) (new := spL X va la) s2 st.grow.n g2 rfl rfl (spC_one hva.one hla.one)
  have hg3 : Grow M _ := ⟨Nat.le_succ _, fun b hb => (k3 b (by omega)).trans (get_push_old st.ok.1 hb), rfl, fun _ => s3.ok.1⟩
  have hr3 := hr.grow st.ok.1 hg3
  have F0 := load_own (o := 0) c3 rfl
  have F10 := loads_own (o := 0) (n := 10) c3 (by simp)
  simp only [List.drop_zero, List.take_succ_cons, List.take_zero] at F10
  refine W_seq (W_block (W_seq (W_seqR (by simp only [runSeq_cons, runSeq_nil, evalArgs_nil, evalArgs_tmp, val1, putT, Tr.get_set_self, Tr.get_set_ne, hd _, ne_eq, Nat.reduceEqDiff, not_false_eq_true, decide_true, Nat.reduceLT, opI_new, h8, h10, p1, p2, e3]; rfl) (W_seq (W_seqR (by simp only [runSeq_cons, runSeq_nil, evalArgs_nil, evalArgs_tmp, val1, putT, Tr.get_set_self, Tr.get_set_ne, hd _, ne_eq, Nat.reduceEqDiff, not_false_eq_true, decide_true, Nat.reduceLT, opI_move, opI_eql, opI_fieldP, Nat.add_zero, h1, F0]; rfl) ?_)))))
  by_cases c1 : X.who = w
  · have c1' : (X.who == w) = true := by simpa using c1
    refine W_cond (b := true) (by simp only [PArg.eval, Tr.get_set_self, Tr.get_set_ne, hd _, ne_eq, Nat.reduceEqDiff, not_false_eq_true, decide_true, Nat.reduceLT, c1']; try rfl) (fun _ => ?_) (fun hb => by cases hb)
    obtain ⟨_, M4, c4, s4, va', la', rfl, ov, ol⟩ := own_ok (a := X.who) (b := X.nth) (c := X.from_) (e := X.to) (f := X.kind) (g := X.task) (h := X.code) (i := X.v) d _ (hva _ s3.grow.g) (hla _ s3.grow.g) s3.ok (by omega) (by omega)
    have t4 := s3.trans s4
    obtain ⟨sv', M5, f1, f2, s5, hr5⟩ := SpRow.push (s := X) t4 (hr3.grow s3.ok.1 s4.grow) ⟨va', la', rfl, ov.mono s3.grow.n, ol.mono s3.grow.n⟩ (by omega)
    refine W_seqR (by simp only [runSeq_cons, runSeq_nil, evalArgs_nil, evalArgs_tmp, val1, putT, Tr.get_set_self, Tr.get_set_ne, hd _, ne_eq, Nat.reduceEqDiff, not_false_eq_true, decide_true, Nat.reduceLT, opI_move, opI_callF, h5, F10, c4, f1, f2]; rfl) ?_
    show W _ _
    refine W_seqR (by simp only [runSeq_cons, runSeq_nil, evalArgs_nil, evalArgs_tmp, evalArgs_const, val1, putT, Tr.get_set_self, Tr.get_set_ne, hd _, ne_eq, Nat.reduceEqDiff, not_false_eq_true, decide_true, Nat.reduceLT, opI_move, opI_add, h10]; rfl) ?_
    refine ⟨k - 1, by omega, i + 1, sv', by omega, s5, by rw [hos, if_pos c1]; exact hr5, by ((repeat (with_reducible apply Dom.set)); exact hd), by simp only [Tr.get_set_ne, ne_eq, Nat.reduceEqDiff, not_false_eq_true, h1], by simp only [Tr.get_set_self, Tr.get_set_ne, hd _, ne_eq, Nat.reduceEqDiff, not_false_eq_true, decide_true, Nat.reduceLT], by simp only [Tr.get_set_ne, ne_eq, Nat.reduceEqDiff, not_false_eq_true, h8], by simp only [Tr.get_set_ne, ne_eq, Nat.reduceEqDiff, not_false_eq_true, h9], ?_⟩
    simp only [Tr.get_set_self, Tr.get_set_ne, hd _, ne_eq, Nat.reduceEqDiff, not_false_eq_true, decide_true, Nat.reduceLT]
    rw [wrapF_small (by omega) (by omega)]; rfl
  · have c1' : (X.who == w) = false := by simpa using c1
    refine W_cond (b := false) (by simp only [PArg.eval, Tr.get_set_self, Tr.get_set_ne, hd _, ne_eq, Nat.reduceEqDiff, not_false_eq_true, decide_true, Nat.reduceLT, c1']; try rfl) (fun hb => by cases hb) (fun _ => W_skip ?_)
    show W _ _
    refine W_seqR (by simp only [runSeq_cons, runSeq_nil, evalArgs_nil, evalArgs_tmp, evalArgs_const, val1, putT, Tr.get_set_self, Tr.get_set_ne, hd _, ne_eq, Nat.reduceEqDiff, not_false_eq_true, decide_true, Nat.reduceLT, opI_move, opI_add, h10]; rfl) ?_
    refine ⟨k - 1, by omega, i + 1, sv, by omega, s3, by rw [hos, if_neg c1, List.append_nil]; exact hr3, by ((repeat (with_reducible apply Dom.set)); exact hd), by simp only [Tr.get_set_ne, ne_eq, Nat.reduceEqDiff, not_false_eq_true, h1], by simp only [Tr.get_set_ne, ne_eq, Nat.reduceEqDiff, not_false_eq_true, h5], by simp only [Tr.get_set_ne, ne_eq, Nat.reduceEqDiff, not_false_eq_true, h8], by simp only [Tr.get_set_ne, ne_eq, Nat.reduceEqDiff, not_false_eq_true, h9], ?_⟩
    simp only [Tr.get_set_self, Tr.get_set_ne, hd _, ne_eq, Nat.reduceEqDiff, not_false_eq_true, decide_true, Nat.reduceLT]
    rw [wrapF_small (by omega) (by omega)]; rfl

set_option maxHeartbeats 2000000 in
theorem big_ok {v : AV} {sps : List Sp} (d : Nat) (M0 : AMem) (hv : InSps M0.g v sps) :
    Ans (callF tbl code 100000 (d + 1)) 5 [v, .int .i64 100] M0 fun r M' => M' = M0 ∧ ∃ b, r = .bool b ∧ (b = false → sps.length ≤ 100 ∧ ∀ s ∈ sps, s.vs.length ≤ 100 ∧ s.ls.length ≤ 100) := by
  refine Ans_of (tbl_none (by decide) _) (show code 5 = some c5 from by kernel_rfl) (by simp) fun t hd ha => ?_
  have h0 := ha 0 _ rfl
  have h1 := ha 1 _ rfl
  clear ha
  have lv := hv.len M0 rfl
  refine W_seq (W_seqR (by simp only [runSeq_cons, runSeq_nil, evalArgs_nil, evalArgs_const, val1, putT, opI_move]; rfl) ?_)
  refine W_seq (W_seq (W_seqR (by simp only [runSeq_cons, runSeq_nil, evalArgs_nil, evalArgs_tmp, val1, putT, Tr.get_set_self, Tr.get_set_ne, hd _, ne_eq, Nat.reduceEqDiff, not_false_eq_true, decide_true, Nat.reduceLT, opI_move, opI_gtr, h0, h1, lv]; rfl) ?_))
  refine W_cond (by simp only [PArg.eval, Tr.get_set_self, Tr.get_set_ne, hd _, ne_eq, Nat.reduceEqDiff, not_false_eq_true, decide_true, Nat.reduceLT]; rfl) (fun _ => ?_) (fun hb => W_skip ?_)
  · refine W_seq (W_seqR (by simp only [runSeq_cons, runSeq_nil, evalArgs_nil, evalArgs_const, val1, putT, opI_move]; rfl) (W_ret ?_))
    exact ⟨_, fin_tmp (by simp only [Tr.get_set_self, Tr.get_set_ne, Option.isSome_some, hd _, ne_eq, Nat.reduceEqDiff, not_false_eq_true, decide_true, Nat.reduceLT]; try rfl), rfl, true, rfl, fun h => by cases h⟩
  have hn : sps.length ≤ 100 := by simp at hb; omega
  clear hb
  show W _ _
  refine W_seq (W_seq (W_seqR (by simp only [runSeq_cons, runSeq_nil, evalArgs_nil, evalArgs_const, val1, putT, opI_move]; rfl) (W_block (W_loop (fun k t M' => ∃ (i : Nat), k + i = sps.length ∧ M' = M0 ∧ (∀ j, (hj : j < sps.length) → j < i → sps[j].vs.length ≤ 100 ∧ sps[j].ls.length ≤ 100) ∧ Dom t 34 ∧ t.get 0 = some v ∧ t.get 5 = some (.int .i64 i)) (k := sps.length) (by omega) ?_ ?_))))
  · exact ⟨0, rfl, rfl, fun j _ hj => by omega, by ((repeat (with_reducible apply Dom.set)); exact hd), by simp only [Tr.get_set_ne, ne_eq, Nat.reduceEqDiff, not_false_eq_true, h0], by simp only [Tr.get_set_self, Tr.get_set_ne, hd _, ne_eq, Nat.reduceEqDiff, not_false_eq_true, decide_true, Nat.reduceLT]; rfl⟩
  clear h0 h1 hd lv
  intro k t M ⟨i, hk, hM, hbd, hd, h0, h5⟩
  subst hM
  have lv := hv.len M rfl
  refine W_seq (W_seq (W_seqR (by simp only [runSeq_cons, runSeq_nil, evalArgs_nil, evalArgs_tmp, val1, putT, Tr.get_set_self, Tr.get_set_ne, hd _, ne_eq, Nat.reduceEqDiff, not_false_eq_true, decide_true, Nat.reduceLT, opI_move, opI_lss, h0, h5, lv]; rfl) ?_))
  refine W_cond (by simp only [PArg.eval, Tr.get_set_self, Tr.get_set_ne, hd _, ne_eq, Nat.reduceEqDiff, not_false_eq_true, decide_true, Nat.reduceLT]; rfl) (fun hb => W_skip ?_) (fun hb => ?_)
  · have hin : i < sps.length := by simpa using hb
    obtain ⟨p, va, la, pp, hva, hla, hM⟩ := hv.at_ hin
    obtain ⟨p1, _, p2⟩ := hM M rfl
    have P6 := p2 6 _ rfl
    have P9 := p2 9 _ rfl
    have l6 := (hva M rfl).len
    have l9 := (hla M rfl).len
    by_cases c1 : (sps[i].vs.length : Int) > 100
    · refine W_seq (W_block (W_seq (W_seqR (by simp only [runSeq_cons, runSeq_nil, evalArgs_nil, evalArgs_tmp, evalArgs_const, val1, putT, Tr.get_set_self, Tr.get_set_ne, Tr.isSome_set, hd _, ne_eq, Nat.reduceEqDiff, not_false_eq_true, decide_true, Nat.reduceLT, opI_move, opI_gtr, opI_pick, Nat.zero_add, Nat.reduceAdd, runSeq_guard (b := true), Bool.true_beq, h0, h5, p1, opI_fieldQ pp, P6, l6, c1]; rfl) ?_)))
      refine W_cond (b := true) (by simp only [PArg.eval, Tr.get_set_self, Tr.get_set_ne, hd _, ne_eq, Nat.reduceEqDiff, not_false_eq_true, decide_true, Nat.reduceLT]; try rfl) (fun _ => ?_) (fun hb => by cases hb)
      refine W_seq (W_seqR (by simp only [runSeq_cons, runSeq_nil, evalArgs_nil, evalArgs_const, val1, putT, opI_move]; rfl) (W_ret ?_))
      exact ⟨_, fin_tmp (by simp only [Tr.get_set_self, Tr.get_set_ne, hd _, ne_eq, Nat.reduceEqDiff, not_false_eq_true, decide_true, Nat.reduceLT]; try rfl), rfl, true, rfl, fun h => by cases h⟩
    by_cases c2 : (sps[i].ls.length : Int) > 100
    · refine W_seq (W_block (W_seq (W_seqR (by simp only [runSeq_cons, runSeq_nil, evalArgs_nil, evalArgs_tmp, evalArgs_const, val1, putT, Tr.get_set_self, Tr.get_set_ne, Tr.isSome_set, hd _, ne_eq, Nat.reduceEqDiff, not_false_eq_true, decide_true, Nat.reduceLT, opI_move, opI_gtr, opI_pick, Nat.zero_add, Nat.reduceAdd, runSeq_guard (b := false), beq_self_eq_true, h0, h5, p1, opI_fieldQ pp, P6, P9, l6, l9, c1, c2, decide_false]; rfl) ?_)))
      refine W_cond (b := true) (by simp only [PArg.eval, Tr.get_set_self, Tr.get_set_ne, hd _, ne_eq, Nat.reduceEqDiff, not_false_eq_true, decide_true, Nat.reduceLT]; try rfl) (fun _ => ?_) (fun hb => by cases hb)
      refine W_seq (W_seqR (by simp only [runSeq_cons, runSeq_nil, evalArgs_nil, evalArgs_const, val1, putT, opI_move]; rfl) (W_ret ?_))
      exact ⟨_, fin_tmp (by simp only [Tr.get_set_self, Tr.get_set_ne, hd _, ne_eq, Nat.reduceEqDiff, not_false_eq_true, decide_true, Nat.reduceLT]; try rfl), rfl, true, rfl, fun h => by cases h⟩
    refine W_seq (W_block (W_seq (W_seqR (by simp only [runSeq_cons, runSeq_nil, evalArgs_nil, evalArgs_tmp, evalArgs_const, val1, putT, Tr.get_set_self, Tr.get_set_ne, Tr.isSome_set, hd _, ne_eq, Nat.reduceEqDiff, not_false_eq_true, decide_true, Nat.reduceLT, opI_move, opI_gtr, opI_pick, Nat.zero_add, Nat.reduceAdd, runSeq_guard (b := false), beq_self_eq_true, h0, h5, p1, opI_fieldQ pp, P6, P9, l6, l9, c1, c2, decide_false]; rfl) ?_)))
    refine W_cond (b := false) (by simp only [PArg.eval, Tr.get_set_self, Tr.get_set_ne, hd _, ne_eq, Nat.reduceEqDiff, not_false_eq_true, decide_true, Nat.reduceLT]; try rfl) (fun hb => by cases hb) (fun _ => W_skip ?_)
    show W _ _
    refine W_seqR (by simp only [runSeq_cons, runSeq_nil, evalArgs_nil, evalArgs_tmp, evalArgs_const, val1, putT, Tr.get_set_self, Tr.get_set_ne, hd _, ne_eq, Nat.reduceEqDiff, not_false_eq_true, decide_true, Nat.reduceLT, opI_move, opI_add, h5]; rfl) ?_
    refine ⟨k - 1, by omega, i + 1, by omega, rfl, fun j hjl hj => ?_, by ((repeat (with_reducible apply Dom.set)); exact hd), by simp only [Tr.get_set_ne, ne_eq, Nat.reduceEqDiff, not_false_eq_true, h0], ?_⟩
    · rcases Nat.lt_or_ge j i with h | h
      · exact hbd j hjl h
      · obtain rfl : j = i := by omega
        exact ⟨by omega, by omega⟩
    · simp only [Tr.get_set_self, Tr.get_set_ne, hd _, ne_eq, Nat.reduceEqDiff, not_false_eq_true, decide_true, Nat.reduceLT]
      rw [wrapF_small (by omega) (by omega)]; rfl
  refine W_exit ?_
  have hi : i = sps.length := by simp at hb; omega
  subst hi
  show W _ _
  refine W_seq (W_seqR (by simp only [runSeq_cons, runSeq_nil, evalArgs_nil, evalArgs_const, val1, putT, opI_move]; rfl) (W_ret ?_))
  refine ⟨_, fin_tmp (by simp only [Tr.get_set_self, Tr.get_set_ne, hd _, ne_eq, Nat.reduceEqDiff, not_false_eq_true, decide_true, Nat.reduceLT]; try rfl), rfl, false, rfl, fun _ => ⟨hn, fun s hs => ?_⟩⟩
  obtain ⟨j, hj, rfl⟩ := List.mem_iff_getElem.1 hs
  exact hbd j hj hj

/-- how many spans have a place -/
def hcN (l : List Sp) (p : Int) : Nat := l.countP fun s => hasB s p
theorem hcN_succ {l : List Sp} {p : Int} {i : Nat} (h : i < l.length) : hcN (l.take (i + 1)) p = hcN (l.take i) p + if hasB l[i] p then 1 else 0 := by
  unfold hcN
  rw [List.take_succ_eq_append_getElem h, List.countP_append, List.countP_singleton]
theorem hcN_le (l : List Sp) (p : Int) : hcN l p ≤ l.length := List.countP_le_length
/-- as many as there are where a span begins -/
def hcAt (l : List Sp) (s : Sp) : Nat := if hasB s s.from_ then hcN l s.from_ else 0
def refM (l : List Sp) : List Sp → Int
  | [] => 0
  | s :: r => max (refM l r) (hcAt l s)
def refMT (l : List Sp) (i : Nat) : Int := refM l (l.take i).reverse
theorem refMT_succ {l : List Sp} {i : Nat} (h : i < l.length) : refMT l (i + 1) = max (refMT l i) (hcAt l l[i]) := by
  unfold refMT
  rw [List.take_succ_eq_append_getElem h, List.reverse_append]; rfl
theorem refMT_bd (l : List Sp) (i : Nat) : 0 ≤ refMT l i ∧ refMT l i ≤ l.length := by
  unfold refMT
  generalize (l.take i).reverse = r
  induction r with
  | nil => exact ⟨Int.le_refl _, by simp [refM]⟩
  | cons s r ih =>
    have h1 := hcN_le l s.from_
    unfold refM hcAt
    split <;> omega
set_option maxRecDepth 20000 in
set_option maxHeartbeats 4000000 in
theorem refmost_ok {v : AV} {sps : List Sp} (d : Nat) (M0 : AMem) (hok : Okg M0) (hv : InSps M0.g v sps) (hn : sps.length ≤ 1000) :
    Ans (callF tbl code 100000 (d + 2)) 9 [v] M0 fun r M' => Step M0 M' ∧ r = .int .i64 (refMT sps sps.length) := by
  refine Ans_of (tbl_none (by decide) _) (show code 9 = some c9 from by kernel_rfl) (by simp) fun t hd ha => ?_
  have h0 := ha 0 _ rfl
  clear ha
  refine W_seq (W_seqR (by simp only [runSeq_cons, runSeq_nil, evalArgs_nil, evalArgs_const, val1, putT, opI_move]; rfl) (W_seq (W_seqR (by simp only [runSeq_cons, runSeq_nil, evalArgs_nil, evalArgs_const, val1, putT, opI_move]; rfl) ?_)))
  refine W_seq (W_seq (W_seqR (by simp only [runSeq_cons, runSeq_nil, evalArgs_nil, evalArgs_const, val1, putT, opI_move]; rfl) (W_block (W_loop (fun k t M' => ∃ (i : Nat), k + i = sps.length ∧ Step M0 M' ∧ Dom t 48 ∧ t.get 0 = some v ∧ t.get 3 = some (.int .i64 (refMT sps i)) ∧ t.get 4 = some (.int .i64 i)) (k := sps.length) (by omega) ?_ ?_))))
  · exact ⟨0, rfl, Step.refl hok, by ((repeat (with_reducible apply Dom.set)); exact hd), by simp only [Tr.get_set_ne, ne_eq, Nat.reduceEqDiff, not_false_eq_true, h0], by simp only [Tr.get_set_self, Tr.get_set_ne, hd _, ne_eq, Nat.reduceEqDiff, not_false_eq_true, decide_true, Nat.reduceLT]; rfl, by simp only [Tr.get_set_self, Tr.get_set_ne, hd _, ne_eq, Nat.reduceEqDiff, not_false_eq_true, decide_true, Nat.reduceLT]; rfl⟩
  clear h0 hd
  intro k t M ⟨i, hk, st, hd, h0, h3, h4⟩
  have lv := hv.len M st.grow.g
  have hrb := refMT_bd sps i
  refine W_seq (W_seq (W_seqR (by simp only [runSeq_cons, runSeq_nil, evalArgs_nil, evalArgs_tmp, val1, putT, Tr.get_set_self, Tr.get_set_ne, hd _, ne_eq, Nat.reduceEqDiff, not_false_eq_true, decide_true, Nat.reduceLT, opI_move, opI_lss, h0, h4, lv]; rfl) ?_))
  refine W_cond (by simp only [PArg.eval, Tr.get_set_self, Tr.get_set_ne, hd _, ne_eq, Nat.reduceEqDiff, not_false_eq_true, decide_true, Nat.reduceLT]; rfl) (fun hb => W_skip ?_) (fun hb => ?_)
  rotate_left
  · refine W_exit ?_
    have hi : i = sps.length := by simp at hb; omega
    subst hi
    show W _ _
    refine W_seq (W_seqR (by simp only [runSeq_cons, runSeq_nil, evalArgs_nil, evalArgs_tmp, val1, putT, Tr.get_set_self, Tr.get_set_ne, hd _, ne_eq, Nat.reduceEqDiff, not_false_eq_true, decide_true, Nat.reduceLT, opI_move, h3]; rfl) (W_ret ?_))
    exact ⟨_, fin_tmp (by simp only [Tr.get_set_self, Tr.get_set_ne, hd _, ne_eq, Nat.reduceEqDiff, not_false_eq_true, decide_true, Nat.reduceLT]; try rfl), st, rfl⟩
  have hin : i < sps.length := by simpa using hb
  have hrs := refMT_succ hin
  obtain ⟨p, va, la, pp, hva, hla, hM⟩ := hv.at_ hin
  have done : ∀ (n : Nat) (t' : Tr AV) (M' : AMem), n = hcAt sps sps[i] → Step M0 M' → Dom t' 48 → t'.get 0 = some v → t'.get 3 = some (.int .i64 (refMT sps i)) → t'.get 4 = some (.int .i64 i) → t'.get 5 = some (.int .i64 n) →
      W (exec (callF tbl code 100000 (d + 1)) 100000 (.seq (.seqR [⟨.move, [.tmp 5], some 43, none⟩, ⟨.move, [.tmp 3], some 44, none⟩, ⟨.bin .gtr, [.tmp 43, .tmp 44], some 45, none⟩]) (.cond (.tmp 45) (.seqR [⟨.move, [.tmp 5], some 46, none⟩, ⟨.move, [.tmp 46], some 3, none⟩]) .skip)) t' M')
        fun x t2 M2 => x = .normal ∧ M2 = M' ∧ Dom t2 48 ∧ t2.get 0 = some v ∧ t2.get 3 = some (.int .i64 (refMT sps (i + 1))) ∧ t2.get 4 = some (.int .i64 i) := by
    intro n t' M' hnn _ hd h0 h3 h4 h5
    refine W_seq (W_seqR (by simp only [runSeq_cons, runSeq_nil, evalArgs_nil, evalArgs_tmp, val1, putT, Tr.get_set_self, Tr.get_set_ne, hd _, ne_eq, Nat.reduceEqDiff, not_false_eq_true, decide_true, Nat.reduceLT, opI_move, opI_gtr, h3, h5]; rfl) ?_)
    by_cases c : (n : Int) > refMT sps i
    · refine W_cond (b := true) (by simp only [PArg.eval, Tr.get_set_self, Tr.get_set_ne, hd _, ne_eq, Nat.reduceEqDiff, not_false_eq_true, decide_true, Nat.reduceLT, c]; try rfl) (fun _ => ?_) (fun hb => by cases hb)
      refine W_seqR (by simp only [runSeq_cons, runSeq_nil, evalArgs_nil, evalArgs_tmp, val1, putT, Tr.get_set_self, Tr.get_set_ne, hd _, ne_eq, Nat.reduceEqDiff, not_false_eq_true, decide_true, Nat.reduceLT, opI_move, h5]; rfl) ⟨rfl, rfl, by ((repeat (with_reducible apply Dom.set)); exact hd), by simp only [Tr.get_set_ne, ne_eq, Nat.reduceEqDiff, not_false_eq_true, h0], ?_, by simp only [Tr.get_set_ne, ne_eq, Nat.reduceEqDiff, not_false_eq_true, h4]⟩
      simp only [Tr.get_set_self, Tr.get_set_ne, hd _, ne_eq, Nat.reduceEqDiff, not_false_eq_true, decide_true, Nat.reduceLT]
      rw [hrs, ← hnn, Int.max_eq_right (by omega)]
    · refine W_cond (b := false) (by simp only [PArg.eval, Tr.get_set_self, Tr.get_set_ne, hd _, ne_eq, Nat.reduceEqDiff, not_false_eq_true, decide_true, Nat.reduceLT, c, decide_false]; try rfl) (fun hb => by cases hb) (fun _ => W_skip ?_)
      refine ⟨rfl, rfl, by ((repeat (with_reducible apply Dom.set)); exact hd), by simp only [Tr.get_set_ne, ne_eq, Nat.reduceEqDiff, not_false_eq_true, h0], ?_, by simp only [Tr.get_set_ne, ne_eq, Nat.reduceEqDiff, not_false_eq_true, h4]⟩
      simp only [Tr.get_set_ne, ne_eq, Nat.reduceEqDiff, not_false_eq_true, h3]
      rw [hrs, ← hnn, Int.max_eq_left (by omega)]
  have next : ∀ (t2 : Tr AV) (M2 : AMem), Step M0 M2 → Dom t2 48 → t2.get 0 = some v → t2.get 3 = some (.int .i64 (refMT sps (i + 1))) → t2.get 4 = some (.int .i64 i) → t2.get 4 = some (.int .i64 i) := fun _ _ _ _ _ _ h => h
  refine W_seq (W_block (W_seq (W_seqR (by simp only [runSeq_cons, runSeq_nil, evalArgs_nil, evalArgs_const, val1, putT, opI_move]; rfl) (W_seq (W_seq (W_seqR (by simp only [runSeq_cons, runSeq_nil, evalArgs_nil, evalArgs_const, val1, putT, opI_move]; rfl) (W_block (W_loop (fun kk t M' => ∃ (j : Nat), kk + j = sps.length ∧ Step M0 M' ∧ (0 < j → hasB sps[i] sps[i].from_ = true) ∧ Dom t 48 ∧ t.get 0 = some v ∧ t.get 3 = some (.int .i64 (refMT sps i)) ∧ t.get 4 = some (.int .i64 i) ∧ t.get 5 = some (.int .i64 (hcN (sps.take j) sps[i].from_ : Nat)) ∧ t.get 6 = some (.int .i64 j)) (k := sps.length) (by omega) ?_ ?_))))))))
  · exact ⟨0, rfl, st, fun h => absurd h (by omega), by ((repeat (with_reducible apply Dom.set)); exact hd), by simp only [Tr.get_set_ne, ne_eq, Nat.reduceEqDiff, not_false_eq_true, h0], by simp only [Tr.get_set_ne, ne_eq, Nat.reduceEqDiff, not_false_eq_true, h3], by simp only [Tr.get_set_ne, ne_eq, Nat.reduceEqDiff, not_false_eq_true, h4], by simp only [Tr.get_set_self, Tr.get_set_ne, hd _, ne_eq, Nat.reduceEqDiff, not_false_eq_true, decide_true, Nat.reduceLT]; rfl, by simp only [Tr.get_set_self, Tr.get_set_ne, hd _, ne_eq, Nat.reduceEqDiff, not_false_eq_true, decide_true, Nat.reduceLT]; rfl⟩
  clear h0 h3 h4 hd lv st t M
  intro kk t M ⟨j, hkk, st, hjj, hd, h0, h3, h4, h5, h6⟩
  have lv := hv.len M st.grow.g
  have hcl := hcN_le (sps.take j) sps[i].from_
  rw [List.length_take] at hcl
  obtain ⟨p1, pl, ps⟩ := hM M st.grow.g
  have P10 := pl 0 10 (by omega)
  simp only [List.drop_zero, List.take_succ_cons, List.take_zero] at P10
  have P2 := ps 2 _ rfl
  have hh := held_none st.ok.1
  have leave : ∀ (t' : Tr AV) (M' : AMem), Step M0 M' → hcN (sps.take j) sps[i].from_ = hcAt sps sps[i] → Dom t' 48 → t'.get 0 = some v → t'.get 3 = some (.int .i64 (refMT sps i)) → t'.get 4 = some (.int .i64 i) → t'.get 5 = some (.int .i64 (hcN (sps.take j) sps[i].from_ : Nat)) → True := fun _ _ _ _ _ _ _ _ _ => trivial
  by_cases c1 : (j : Int) < sps.length
  · obtain ⟨_, M2, c2, s2, rfl⟩ := has_ok (s := sps[i]) (va := va) (la := la) (p := sps[i].from_) d M st.ok
    have t2 := st.trans s2
    cases hown : hasB sps[i] sps[i].from_ with
    | false =>
      rw [hown] at c2
      have hj0 : j = 0 := by
        rcases Nat.eq_zero_or_pos j with h | h
        · exact h
        · have := hjj h; rw [hown] at this; cases this
      refine W_seq (W_seq (W_mix rfl (by simp only [sameN_self, evalArgs_nil, evalArgs_tmp, evalArgs_const, val1, putT, Tr.get_set_self, Tr.get_set_ne, Tr.isSome_set, hd _, ne_eq, Nat.reduceEqDiff, not_false_eq_true, decide_true, Nat.reduceLT, opI_move, opI_lss, opI_callF, opI_pick, Nat.zero_add, runMix_nil, runMix_read, runMix_eff, runMix_guard (b := true), beq_self_eq_true, h0, h4, h6, lv, p1, opI_fieldQ pp, P10, P2, c1, c2, hh]; rfl) ?_))
      refine W_cond (b := false) (by simp only [PArg.eval, Tr.get_set_self, Tr.get_set_ne, hd _, ne_eq, Nat.reduceEqDiff, not_false_eq_true, decide_true, Nat.reduceLT]; try rfl) (fun hb => by cases hb) (fun _ => W_exit ?_)
      show W _ _
      refine (done (hcN (sps.take j) sps[i].from_) _ M2 (by subst hj0; simp [hcN, hcAt, hown]) t2 (by ((repeat (with_reducible apply Dom.set)); exact hd)) (by simp only [Tr.get_set_ne, ne_eq, Nat.reduceEqDiff, not_false_eq_true, h0]) (by simp only [Tr.get_set_ne, ne_eq, Nat.reduceEqDiff, not_false_eq_true, h3]) (by simp only [Tr.get_set_ne, ne_eq, Nat.reduceEqDiff, not_false_eq_true, h4]) (by simp only [Tr.get_set_ne, ne_eq, Nat.reduceEqDiff, not_false_eq_true, h5])).mono ?_
      rintro x t3 M3 ⟨rfl, rfl, hd3, g0, g3, g4⟩
      show W _ _
      refine W_seqR (by
        have hd := hd3
        simp only [runSeq_cons, runSeq_nil, evalArgs_nil, evalArgs_tmp, evalArgs_const, val1, putT, Tr.get_set_self, Tr.get_set_ne, hd _, ne_eq, Nat.reduceEqDiff, not_false_eq_true, decide_true, Nat.reduceLT, opI_move, opI_add, g4]; rfl) ?_
      have hd := hd3
      refine ⟨k - 1, by omega, i + 1, by omega, t2, by ((repeat (with_reducible apply Dom.set)); exact hd), by simp only [Tr.get_set_ne, ne_eq, Nat.reduceEqDiff, not_false_eq_true, g0], by simp only [Tr.get_set_ne, ne_eq, Nat.reduceEqDiff, not_false_eq_true, g3], ?_⟩
      simp only [Tr.get_set_self, Tr.get_set_ne, hd _, ne_eq, Nat.reduceEqDiff, not_false_eq_true, decide_true, Nat.reduceLT]
      rw [wrapF_small (by omega) (by omega)]; rfl
    | true =>
      rw [hown] at c2
      have hjl : j < sps.length := by omega
      obtain ⟨q, vb, lb, qq, hvb, hlb, hN⟩ := hv.at_ hjl
      obtain ⟨q1, ql, _⟩ := hN M2 t2.grow.g
      have Q10 := ql 0 10 (by omega)
      simp only [List.drop_zero, List.take_succ_cons, List.take_zero] at Q10
      obtain ⟨p1', pl', ps'⟩ := hM M2 t2.grow.g
      have P2' := ps' 2 _ rfl
      obtain ⟨_, M3, c3, s3, rfl⟩ := has_ok (s := sps[j]) (va := vb) (la := lb) (p := sps[i].from_) d M2 t2.ok
      have t3 := t2.trans s3
      have hh2 := held_none t2.ok.1
      have hcs := hcN_succ (p := sps[i].from_) hjl
      refine W_seq (W_seq (W_mix rfl (by simp only [sameN_self, evalArgs_nil, evalArgs_tmp, evalArgs_const, val1, putT, Tr.get_set_self, Tr.get_set_ne, Tr.isSome_set, hd _, ne_eq, Nat.reduceEqDiff, not_false_eq_true, decide_true, Nat.reduceLT, opI_move, opI_lss, opI_callF, opI_pick, Nat.zero_add, runMix_nil, runMix_read, runMix_eff, runMix_guard (b := true), beq_self_eq_true, h0, h4, h6, lv, p1, opI_fieldQ pp, P10, P2, c1, c2, hh]; rfl) ?_))
      refine W_cond (b := true) (by simp only [PArg.eval, Tr.get_set_self, Tr.get_set_ne, hd _, ne_eq, Nat.reduceEqDiff, not_false_eq_true, decide_true, Nat.reduceLT]; try rfl) (fun _ => W_skip ?_) (fun hb => by cases hb)
      cases hj2 : hasB sps[j] sps[i].from_ with
      | true =>
        rw [hj2] at c3 hcs
        refine W_seq (W_block (W_seq (W_mix rfl (by simp only [sameN_self, evalArgs_nil, evalArgs_tmp, val1, putT, Tr.get_set_self, Tr.get_set_ne, hd _, ne_eq, Nat.reduceEqDiff, not_false_eq_true, decide_true, Nat.reduceLT, opI_move, opI_callF, Nat.zero_add, runMix_nil, runMix_read, runMix_eff, h0, h4, h6, q1, p1', opI_fieldQ pp, Q10, P2', c3, hh2]; rfl) ?_)))
        refine W_cond (b := true) (by simp only [PArg.eval, Tr.get_set_self, Tr.get_set_ne, hd _, ne_eq, Nat.reduceEqDiff, not_false_eq_true, decide_true, Nat.reduceLT]; try rfl) (fun _ => ?_) (fun hb => by cases hb)
        refine W_seqR (by simp only [runSeq_cons, runSeq_nil, evalArgs_nil, evalArgs_tmp, evalArgs_const, val1, putT, Tr.get_set_self, Tr.get_set_ne, hd _, ne_eq, Nat.reduceEqDiff, not_false_eq_true, decide_true, Nat.reduceLT, opI_move, opI_add, h5]; rfl) ?_
        show W _ _
        refine W_seqR (by simp only [runSeq_cons, runSeq_nil, evalArgs_nil, evalArgs_tmp, evalArgs_const, val1, putT, Tr.get_set_self, Tr.get_set_ne, hd _, ne_eq, Nat.reduceEqDiff, not_false_eq_true, decide_true, Nat.reduceLT, opI_move, opI_add, h6]; rfl) ?_
        refine ⟨kk - 1, by omega, j + 1, by omega, t3, fun _ => (by first | exact hown | rfl), by ((repeat (with_reducible apply Dom.set)); exact hd), by simp only [Tr.get_set_ne, ne_eq, Nat.reduceEqDiff, not_false_eq_true, h0], by simp only [Tr.get_set_ne, ne_eq, Nat.reduceEqDiff, not_false_eq_true, h3], by simp only [Tr.get_set_ne, ne_eq, Nat.reduceEqDiff, not_false_eq_true, h4], ?_, ?_⟩
        · simp only [Tr.get_set_self, Tr.get_set_ne, hd _, ne_eq, Nat.reduceEqDiff, not_false_eq_true, decide_true, Nat.reduceLT]
          rw [hcs, if_pos rfl, wrapF_small (by omega) (by omega)]; rfl
        · simp only [Tr.get_set_self, Tr.get_set_ne, hd _, ne_eq, Nat.reduceEqDiff, not_false_eq_true, decide_true, Nat.reduceLT]
          rw [wrapF_small (by omega) (by omega)]; rfl
      | false =>
        rw [hj2] at c3 hcs
        refine W_seq (W_block (W_seq (W_mix rfl (by simp only [sameN_self, evalArgs_nil, evalArgs_tmp, val1, putT, Tr.get_set_self, Tr.get_set_ne, hd _, ne_eq, Nat.reduceEqDiff, not_false_eq_true, decide_true, Nat.reduceLT, opI_move, opI_callF, Nat.zero_add, runMix_nil, runMix_read, runMix_eff, h0, h4, h6, q1, p1', opI_fieldQ pp, Q10, P2', c3, hh2]; rfl) ?_)))
        refine W_cond (b := false) (by simp only [PArg.eval, Tr.get_set_self, Tr.get_set_ne, hd _, ne_eq, Nat.reduceEqDiff, not_false_eq_true, decide_true, Nat.reduceLT]; try rfl) (fun hb => by cases hb) (fun _ => W_skip ?_)
        show W _ _
        refine W_seqR (by simp only [runSeq_cons, runSeq_nil, evalArgs_nil, evalArgs_tmp, evalArgs_const, val1, putT, Tr.get_set_self, Tr.get_set_ne, hd _, ne_eq, Nat.reduceEqDiff, not_false_eq_true, decide_true, Nat.reduceLT, opI_move, opI_add, h6]; rfl) ?_
        refine ⟨kk - 1, by omega, j + 1, by omega, t3, fun _ => (by first | exact hown | rfl), by ((repeat (with_reducible apply Dom.set)); exact hd), by simp only [Tr.get_set_ne, ne_eq, Nat.reduceEqDiff, not_false_eq_true, h0], by simp only [Tr.get_set_ne, ne_eq, Nat.reduceEqDiff, not_false_eq_true, h3], by simp only [Tr.get_set_ne, ne_eq, Nat.reduceEqDiff, not_false_eq_true, h4], ?_, ?_⟩
        · simp only [Tr.get_set_ne, ne_eq, Nat.reduceEqDiff, not_false_eq_true, h5]
          rw [hcs]; simp
        · simp only [Tr.get_set_self, Tr.get_set_ne, hd _, ne_eq, Nat.reduceEqDiff, not_false_eq_true, decide_true, Nat.reduceLT]
          rw [wrapF_small (by omega) (by omega)]; rfl
  · have hjl : j = sps.length := by omega
    subst hjl
    rw [List.take_length] at h5
    refine W_seq (W_seq (W_mix rfl (by simp only [sameN_self, evalArgs_nil, evalArgs_tmp, evalArgs_const, putT, Tr.get_set_self, Tr.get_set_ne, Tr.isSome_set, hd _, ne_eq, Nat.reduceEqDiff, not_false_eq_true, decide_true, Nat.reduceLT, opI_move, opI_lss, opI_pick, runMix_nil, runMix_read, runMix_guard (b := false), Bool.false_beq, Bool.not_true, h0, h6, lv, c1, decide_false]; rfl) ?_))
    refine W_cond (b := false) (by simp only [PArg.eval, Tr.get_set_self, Tr.get_set_ne, hd _, ne_eq, Nat.reduceEqDiff, not_false_eq_true, decide_true, Nat.reduceLT]; try rfl) (fun hb => by cases hb) (fun _ => W_exit ?_)
    show W _ _
    refine (done (hcN sps sps[i].from_) _ M (by unfold hcAt; rw [if_pos (hjj (by omega))]) st (by ((repeat (with_reducible apply Dom.set)); exact hd)) (by simp only [Tr.get_set_ne, ne_eq, Nat.reduceEqDiff, not_false_eq_true, h0]) (by simp only [Tr.get_set_ne, ne_eq, Nat.reduceEqDiff, not_false_eq_true, h3]) (by simp only [Tr.get_set_ne, ne_eq, Nat.reduceEqDiff, not_false_eq_true, h4]) (by simp only [Tr.get_set_ne, ne_eq, Nat.reduceEqDiff, not_false_eq_true, h5])).mono ?_
    rintro x t3 M3 ⟨rfl, rfl, hd3, g0, g3, g4⟩
    show W _ _
    refine W_seqR (by
      have hd := hd3
      simp only [runSeq_cons, runSeq_nil, evalArgs_nil, evalArgs_tmp, evalArgs_const, val1, putT, Tr.get_set_self, Tr.get_set_ne, hd _, ne_eq, Nat.reduceEqDiff, not_false_eq_true, decide_true, Nat.reduceLT, opI_move, opI_add, g4]; rfl) ?_
    have hd := hd3
    refine ⟨k - 1, by omega, i + 1, by omega, st, by ((repeat (with_reducible apply Dom.set)); exact hd), by simp only [Tr.get_set_ne, ne_eq, Nat.reduceEqDiff, not_false_eq_true, g0], by simp only [Tr.get_set_ne, ne_eq, Nat.reduceEqDiff, not_false_eq_true, g3], ?_⟩
    simp only [Tr.get_set_self, Tr.get_set_ne, hd _, ne_eq, Nat.reduceEqDiff, not_false_eq_true, decide_true, Nat.reduceLT]
    rw [wrapF_small (by omega) (by omega)]; rfl
end Go.Proofs.Ytgjamfkmaccgaaa.diary
