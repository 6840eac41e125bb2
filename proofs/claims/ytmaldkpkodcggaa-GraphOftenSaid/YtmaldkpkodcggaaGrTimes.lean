/- The walk of the document's times, by the places in the order. -/
import Derived.Test.YtmaldkpkodcggaaGrWork
namespace Go.Proofs.Ytmaldkpkodcggaa.grf
open Go Go.Vx

/-- what is known so far -/
def Good (js : List Jb) (T ks : List Int) : Prop := ks.length = js.length ∧ ∀ m, m < js.length → ks.getD m 0 = -1 ∨ ks.getD m 0 = T.getD m 0
set_option maxRecDepth 20000 in
set_option maxHeartbeats 8000000 in
theorem times_ok {v tv vk : AV} {js : List Jb} {ts out T : List Int} {M0 : AMem} {γ : Nat} (hv : JobsOk M0.g v js) (ht : InRow M0.g .u64 tv ts) (hts : ts.length ≤ 1000) (hR : RightP js) (hD : Done js out) (hl : out.length = js.length) (hIs : IsOft js ts T) :
    ∀ (p : Nat), p < out.length → ∀ (d : Nat), p ≤ d → ∀ (i : Nat), out.getD p 0 = i → ∀ (M : AMem) (ks : List Int), Step M0 M → RowI M0 M 1 γ vk (ks.map eI) → Good js T ks →
    Ans (callF tbl code 100000 (d + 1)) 18 [v, tv, vk, .int .i64 i] M fun r M' => r = .int .i64 (T.getD i 0) ∧ Step M0 M' ∧ ∃ ks', RowI M0 M' 1 γ vk (ks'.map eI) ∧ Good js T ks' ∧ ks'.getD i 0 = T.getD i 0 ∧ ∀ m, m < js.length → ks.getD m 0 ≠ -1 → ks'.getD m 0 = ks.getD m 0 := by
  intro p
  induction p using Nat.strongRecOn with
  | ind p IH =>
  intro hp d hpd i hi M ks s rr hg
  refine Ans_of (tbl_none (by decide) _) (show code 18 = some c18 from by kernel_rfl) (by simp) fun t hd ha => ?_
  have h0 := ha 0 _ rfl
  have h1 := ha 1 _ rfl
  have h2 := ha 2 _ rfl
  have h3 := ha 3 _ rfl
  clear ha
  have hrg := hD.rng _ (getD_mem hp)
  rw [hi] at hrg
  have hin : i < js.length := by omega
  have hlen := hR.1
  have hcap := cap_eq
  obtain ⟨hgl, hgk⟩ := hg
  obtain ⟨a1, a2⟩ := row1_at rr s.ok.1 (i := i) (by omega)
  have hTi := hIs.bd i
  refine W_seq (W_seqR (by simp only [runSeq_cons, runSeq_nil, evalArgs_nil, evalArgs_const, val1, putT, opI_move]; rfl) ?_)
  refine W_seq (W_seq (W_seqR (by simp only [runSeq_cons, runSeq_nil, evalArgs_nil, evalArgs_tmp, evalArgs_const, val1, putT, Tr.get_set_self, Tr.get_set_ne, hd _, ne_eq, Nat.reduceEqDiff, not_false_eq_true, decide_true, Nat.reduceLT, opI_move, opI_geq, h2, h3, a1, a2]; rfl) ?_))
  by_cases hknown : ks.getD i 0 ≥ 0
  · have ek : decide (ks.getD i 0 ≥ 0) = true := decide_eq_true hknown
    have hkT : ks.getD i 0 = T.getD i 0 := by
      rcases hgk i hin with h | h
      · omega
      · exact h
    refine W_cond (b := true) (by simp only [PArg.eval, Tr.get_set_self, Tr.get_set_ne, hd _, ne_eq, Nat.reduceEqDiff, not_false_eq_true, decide_true, Nat.reduceLT, ek]) (fun _ => ?_) (fun hb => by cases hb)
    refine W_seq (W_seqR (by simp only [runSeq_cons, runSeq_nil, evalArgs_nil, evalArgs_tmp, val1, putT, Tr.get_set_self, Tr.get_set_ne, hd _, ne_eq, Nat.reduceEqDiff, not_false_eq_true, decide_true, Nat.reduceLT, opI_move, h2, h3, a1, a2]; rfl) (W_ret ?_))
    refine ⟨_, fin_tmp (by simp only [Tr.get_set_self, Tr.get_set_ne, Option.isSome_some, hd _, ne_eq, Nat.reduceEqDiff, not_false_eq_true, decide_true, Nat.reduceLT]; try rfl), ?_, s, ks, rr, ⟨hgl, hgk⟩, hkT, fun _ _ _ => rfl⟩
    show AV.int .i64 (ks.getD i 0) = _
    rw [hkT]
  have ek : decide (ks.getD i 0 ≥ 0) = false := decide_eq_false hknown
  refine W_cond (b := false) (by simp only [PArg.eval, Tr.get_set_self, Tr.get_set_ne, hd _, ne_eq, Nat.reduceEqDiff, not_false_eq_true, decide_true, Nat.reduceLT, ek]) (fun hb => by cases hb) (fun _ => W_skip ?_)
  show W _ _
  refine W_seq (W_seqR (by simp only [runSeq_cons, runSeq_nil, evalArgs_nil, evalArgs_const, val1, putT, opI_move]; rfl) ?_)
  have ltv := (ht M s.grow.g).len
  obtain ⟨pj, pp, p1, _, p2, _⟩ := hv.jin.at_ hin M s.grow.g
  refine W_seq (W_seq (W_seqR (by simp only [runSeq_cons, runSeq_nil, evalArgs_nil, evalArgs_const, val1, putT, opI_move]; rfl) (W_block (W_loop (fun k t M' => ∃ (q : Nat), k + q = ts.length ∧ M' = M ∧ Dom t 80 ∧ t.get 0 = some v ∧ t.get 1 = some tv ∧ t.get 2 = some vk ∧ t.get 3 = some (.int .i64 i) ∧ t.get 9 = some (.int .i64 ((ts.take q).count (jb js i).task : Nat)) ∧ t.get 10 = some (.int .i64 q)) (k := ts.length) (by omega) ?_ ?_))))
  · exact ⟨0, rfl, rfl, by ((repeat (with_reducible apply Dom.set)); exact hd), by simp only [Tr.get_set_ne, ne_eq, Nat.reduceEqDiff, not_false_eq_true, h0], by simp only [Tr.get_set_ne, ne_eq, Nat.reduceEqDiff, not_false_eq_true, h1], by simp only [Tr.get_set_ne, ne_eq, Nat.reduceEqDiff, not_false_eq_true, h2], by simp only [Tr.get_set_ne, ne_eq, Nat.reduceEqDiff, not_false_eq_true, h3], by simp only [Tr.get_set_self, Tr.get_set_ne, hd _, ne_eq, Nat.reduceEqDiff, not_false_eq_true, decide_true, Nat.reduceLT]; rfl, by simp only [Tr.get_set_self, Tr.get_set_ne, hd _, ne_eq, Nat.reduceEqDiff, not_false_eq_true, decide_true, Nat.reduceLT]; rfl⟩
  clear h0 h1 h2 h3 hd
  intro k t M' ⟨q, hk, hM, hd, h0, h1, h2, h3, h9, h10⟩
  subst hM
  refine W_seq (W_seq (W_seqR (by simp only [runSeq_cons, runSeq_nil, evalArgs_nil, evalArgs_tmp, val1, putT, Tr.get_set_self, Tr.get_set_ne, hd _, ne_eq, Nat.reduceEqDiff, not_false_eq_true, decide_true, Nat.reduceLT, opI_move, opI_lss, h1, h10, ltv]; rfl) ?_))
  refine W_cond (by simp only [PArg.eval, Tr.get_set_self, Tr.get_set_ne, hd _, ne_eq, Nat.reduceEqDiff, not_false_eq_true, decide_true, Nat.reduceLT]; rfl) (fun hb => W_skip ?_) (fun hb => ?_)
  · have hql : q < ts.length := by simpa using hb
    obtain ⟨qa, q1, q2⟩ := row_get (ht M' s.grow.g) hql
    have hcs := count_take_succ hql (k := (jb js i).task)
    have hcl := List.count_le_length (a := (jb js i).task) (l := ts.take q)
    rw [List.length_take] at hcl
    have h10n : wrapF .i64 ((q : Int) + 1) = ((q + 1 : Nat) : Int) := by rw [wrapF_small (by omega) (by omega)]; rfl
    show W _ _
    by_cases ce : ts.getD q 0 = (jb js i).task
    · have et : (ts.getD q 0 == (jb js i).task) = true := by simpa using ce
      rw [if_pos ce] at hcs
      have wS : wrapF .i64 (((ts.take q).count (jb js i).task : Nat) + 1) = (((ts.take (q + 1)).count (jb js i).task : Nat) : Int) := by rw [hcs, wrapF_small (by omega) (by omega)]; rfl
      refine W_seq (W_block (W_seq (W_quiet rfl (by simp only [runPure_cons, runPure_nil, ofD_cons, ofD_nil, sameN_self, evalArgs_nil, evalArgs_tmp, putT, Tr.get_set_self, Tr.get_set_ne, hd _, ne_eq, Nat.reduceEqDiff, not_false_eq_true, decide_true, Nat.reduceLT, opI_move, opI_eql, Nat.add_zero, h0, h1, h3, h10, q1, q2, p1, opI_fieldQ pp, p2, et]; rfl) ?_)))
      refine W_cond (b := true) (by simp only [PArg.eval, Tr.get_set_self, Tr.get_set_ne, hd _, ne_eq, Nat.reduceEqDiff, not_false_eq_true, decide_true, Nat.reduceLT]; try rfl) (fun _ => ?_) (fun hb => by cases hb)
      refine W_seqR (by simp only [runSeq_cons, runSeq_nil, evalArgs_nil, evalArgs_tmp, evalArgs_const, val1, putT, Tr.get_set_self, Tr.get_set_ne, hd _, ne_eq, Nat.reduceEqDiff, not_false_eq_true, decide_true, Nat.reduceLT, opI_move, opI_add, h9, wS]; rfl) ?_
      show W _ _
      refine W_seqR (by simp only [runSeq_cons, runSeq_nil, evalArgs_nil, evalArgs_tmp, evalArgs_const, val1, putT, Tr.get_set_self, Tr.get_set_ne, hd _, ne_eq, Nat.reduceEqDiff, not_false_eq_true, decide_true, Nat.reduceLT, opI_move, opI_add, h10, h10n]; rfl) ?_
      exact ⟨k - 1, by omega, q + 1, by omega, rfl, by ((repeat (with_reducible apply Dom.set)); exact hd), by simp only [Tr.get_set_ne, ne_eq, Nat.reduceEqDiff, not_false_eq_true, h0], by simp only [Tr.get_set_ne, ne_eq, Nat.reduceEqDiff, not_false_eq_true, h1], by simp only [Tr.get_set_ne, ne_eq, Nat.reduceEqDiff, not_false_eq_true, h2], by simp only [Tr.get_set_ne, ne_eq, Nat.reduceEqDiff, not_false_eq_true, h3], by simp only [Tr.get_set_self, Tr.get_set_ne, hd _, ne_eq, Nat.reduceEqDiff, not_false_eq_true, decide_true, Nat.reduceLT], by simp only [Tr.get_set_self, Tr.get_set_ne, hd _, ne_eq, Nat.reduceEqDiff, not_false_eq_true, decide_true, Nat.reduceLT]⟩
    · have et : (ts.getD q 0 == (jb js i).task) = false := by simpa using ce
      rw [if_neg ce, Nat.add_zero] at hcs
      refine W_seq (W_block (W_seq (W_quiet rfl (by simp only [runPure_cons, runPure_nil, ofD_cons, ofD_nil, sameN_self, evalArgs_nil, evalArgs_tmp, putT, Tr.get_set_self, Tr.get_set_ne, hd _, ne_eq, Nat.reduceEqDiff, not_false_eq_true, decide_true, Nat.reduceLT, opI_move, opI_eql, Nat.add_zero, h0, h1, h3, h10, q1, q2, p1, opI_fieldQ pp, p2, et]; rfl) ?_)))
      refine W_cond (b := false) (by simp only [PArg.eval, Tr.get_set_self, Tr.get_set_ne, hd _, ne_eq, Nat.reduceEqDiff, not_false_eq_true, decide_true, Nat.reduceLT]; try rfl) (fun hb => by cases hb) (fun _ => W_skip ?_)
      show W _ _
      refine W_seqR (by simp only [runSeq_cons, runSeq_nil, evalArgs_nil, evalArgs_tmp, evalArgs_const, val1, putT, Tr.get_set_self, Tr.get_set_ne, hd _, ne_eq, Nat.reduceEqDiff, not_false_eq_true, decide_true, Nat.reduceLT, opI_move, opI_add, h10, h10n]; rfl) ?_
      exact ⟨k - 1, by omega, q + 1, by omega, rfl, by ((repeat (with_reducible apply Dom.set)); exact hd), by simp only [Tr.get_set_ne, ne_eq, Nat.reduceEqDiff, not_false_eq_true, h0], by simp only [Tr.get_set_ne, ne_eq, Nat.reduceEqDiff, not_false_eq_true, h1], by simp only [Tr.get_set_ne, ne_eq, Nat.reduceEqDiff, not_false_eq_true, h2], by simp only [Tr.get_set_ne, ne_eq, Nat.reduceEqDiff, not_false_eq_true, h3], by simp only [Tr.get_set_ne, ne_eq, Nat.reduceEqDiff, not_false_eq_true, h9]; rw [hcs]; rfl, by simp only [Tr.get_set_self, Tr.get_set_ne, hd _, ne_eq, Nat.reduceEqDiff, not_false_eq_true, decide_true, Nat.reduceLT]⟩
  refine W_exit ?_
  have hq : q = ts.length := by simp at hb; omega
  subst hq
  rw [List.take_of_length_le (Nat.le_refl _)] at h9
  have hown : ((ts.count (jb js i).task : Nat) : Int) = own js ts i := rfl
  rw [hown] at h9
  have hob := own_bd (js := js) hts (i := i)
  clear h10 hb hk ltv p1 p2 a1 a2
  show W _ _
  refine W_seq (W_seq (W_seqR (by simp only [runSeq_cons, runSeq_nil, evalArgs_nil, evalArgs_const, val1, putT, opI_move]; rfl) (W_block (W_loop (fun k t M' => ∃ (m : Nat) (ks' : List Int), k + m = js.length ∧ Step M0 M' ∧ RowI M0 M' 1 γ vk (ks'.map eI) ∧ Good js T ks' ∧ (∀ m, m < js.length → ks.getD m 0 ≠ -1 → ks'.getD m 0 = ks.getD m 0) ∧ Dom t 80 ∧ t.get 0 = some v ∧ t.get 1 = some tv ∧ t.get 2 = some vk ∧ t.get 3 = some (.int .i64 i) ∧ t.get 9 = some (.int .i64 (min (own js ts i + Fn js T m i) cap)) ∧ t.get 11 = some (.int .i64 m)) (k := js.length) (by omega) ?_ ?_))))
  · refine ⟨0, ks, rfl, s, rr, ⟨hgl, hgk⟩, fun _ _ _ => rfl, by ((repeat (with_reducible apply Dom.set)); exact hd), by simp only [Tr.get_set_ne, ne_eq, Nat.reduceEqDiff, not_false_eq_true, h0], by simp only [Tr.get_set_ne, ne_eq, Nat.reduceEqDiff, not_false_eq_true, h1], by simp only [Tr.get_set_ne, ne_eq, Nat.reduceEqDiff, not_false_eq_true, h2], by simp only [Tr.get_set_ne, ne_eq, Nat.reduceEqDiff, not_false_eq_true, h3], ?_, by simp only [Tr.get_set_self, Tr.get_set_ne, hd _, ne_eq, Nat.reduceEqDiff, not_false_eq_true, decide_true, Nat.reduceLT]; rfl⟩
    simp only [Tr.get_set_ne, ne_eq, Nat.reduceEqDiff, not_false_eq_true, h9]
    have : min (own js ts i + Fn js T 0 i) cap = own js ts i := by show min (own js ts i + 0) cap = _; omega
    rw [this]
  clear h0 h1 h2 h3 h9 hd s rr
  intro k t M ⟨m, ks', hk, s, rr, hg, hold, hd, h0, h1, h2, h3, h9, h11⟩
  have lv := hv.jin.lenS M s.grow.g
  refine W_seq (W_seq (W_seqR (by simp only [runSeq_cons, runSeq_nil, evalArgs_nil, evalArgs_tmp, val1, putT, Tr.get_set_self, Tr.get_set_ne, hd _, ne_eq, Nat.reduceEqDiff, not_false_eq_true, decide_true, Nat.reduceLT, opI_move, opI_lss, h0, h11, lv]; rfl) ?_))
  refine W_cond (by simp only [PArg.eval, Tr.get_set_self, Tr.get_set_ne, hd _, ne_eq, Nat.reduceEqDiff, not_false_eq_true, decide_true, Nat.reduceLT]; rfl) (fun hb => W_skip ?_) (fun hb => ?_)
  rotate_left
  · refine W_exit ?_
    have hm : m = js.length := by simp at hb; omega
    subst hm
    rw [← hIs.eq i hin] at h9
    obtain ⟨b1, b2⟩ := row1_at rr s.ok.1 (i := i) (by rw [hg.1]; omega)
    obtain ⟨M3, e3, s3, r3, f3, n3⟩ := row1_put s rr (i := i) (by rw [hg.1]; omega) (T.getD i 0)
    show W _ _
    refine W_seq (W_seqR (by simp only [runSeq_cons, runSeq_nil, evalArgs_nil, evalArgs_tmp, val1, putT, Tr.get_set_self, Tr.get_set_ne, hd _, ne_eq, Nat.reduceEqDiff, not_false_eq_true, decide_true, Nat.reduceLT, opI_move, h2, h3, h9, b1, e3]; rfl) ?_)
    refine W_seq (W_seqR (by simp only [runSeq_cons, runSeq_nil, evalArgs_nil, evalArgs_tmp, val1, putT, Tr.get_set_self, Tr.get_set_ne, hd _, ne_eq, Nat.reduceEqDiff, not_false_eq_true, decide_true, Nat.reduceLT, opI_move, h9]; rfl) (W_ret ?_))
    have hgd : ∀ j, (ks'.set i (T.getD i 0)).getD j 0 = if i = j then T.getD i 0 else ks'.getD j 0 := fun j => getD_set' (by rw [hg.1]; exact hin)
    refine ⟨_, fin_tmp (by simp only [Tr.get_set_self, Tr.get_set_ne, hd _, ne_eq, Nat.reduceEqDiff, not_false_eq_true, decide_true, Nat.reduceLT]; try rfl), rfl, s3, _, r3, ⟨by rw [List.length_set]; exact hg.1, fun j hj => ?_⟩, by rw [hgd, if_pos rfl], fun j hj hne => ?_⟩
    · rw [hgd]
      split
      · rename_i h; subst h; exact .inr rfl
      · exact hg.2 j hj
    · rw [hgd]
      split
      · rename_i h
        subst h
        rcases hgk i hin with h | h
        · exact absurd h hne
        · exact h.symm
      · exact hold j hj hne
  have hml : m < js.length := by simpa using hb
  have hkid := hv.kids m hml
  have hTm := hIs.bd m
  clear hb lv
  have hFn := Fn_nn (js := js) (T := T) (fun j => (hIs.bd j).1) (k := (i : Int)) (m := m)
  show W _ _
  refine W_seq (W_block (W_seq (W_seqR (by simp only [runSeq_cons, runSeq_nil, evalArgs_nil, evalArgs_const, val1, putT, opI_move]; rfl) ?_)))
  refine W_block (W_loop (fun kk t M' => ∃ (q : Nat) (ks' : List Int), kk + q = (jb js m).kids.length ∧ Step M0 M' ∧ RowI M0 M' 1 γ vk (ks'.map eI) ∧ Good js T ks' ∧ (∀ m, m < js.length → ks.getD m 0 ≠ -1 → ks'.getD m 0 = ks.getD m 0) ∧ Dom t 80 ∧ t.get 0 = some v ∧ t.get 1 = some tv ∧ t.get 2 = some vk ∧ t.get 3 = some (.int .i64 i) ∧ t.get 9 = some (.int .i64 (min (own js ts i + Fn js T m i + (((jb js m).kids.take q).count (i : Int) : Nat) * T.getD m 0) cap)) ∧ t.get 11 = some (.int .i64 m) ∧ t.get 12 = some (.int .i64 q)) (k := (jb js m).kids.length) (by omega) ?_ ?_)
  · refine ⟨0, ks', rfl, s, rr, hg, hold, by ((repeat (with_reducible apply Dom.set)); exact hd), by simp only [Tr.get_set_ne, ne_eq, Nat.reduceEqDiff, not_false_eq_true, h0], by simp only [Tr.get_set_ne, ne_eq, Nat.reduceEqDiff, not_false_eq_true, h1], by simp only [Tr.get_set_ne, ne_eq, Nat.reduceEqDiff, not_false_eq_true, h2], by simp only [Tr.get_set_ne, ne_eq, Nat.reduceEqDiff, not_false_eq_true, h3], ?_, by simp only [Tr.get_set_ne, ne_eq, Nat.reduceEqDiff, not_false_eq_true, h11], by simp only [Tr.get_set_self, Tr.get_set_ne, hd _, ne_eq, Nat.reduceEqDiff, not_false_eq_true, decide_true, Nat.reduceLT]; rfl⟩
    simp only [Tr.get_set_ne, ne_eq, Nat.reduceEqDiff, not_false_eq_true, h9]
    rw [List.take_zero, List.count_nil, show ((0 : Nat) : Int) = 0 from rfl, Int.zero_mul, Int.add_zero]
  clear h0 h1 h2 h3 h9 h11 hd s rr hg hold ks'
  intro kk t M' ⟨q, ks', hkk, s, rr, hg, hold, hd, h0, h1, h2, h3, h9, h11, h12⟩
  obtain ⟨pj, pp, p1, _, _, p2⟩ := hv.jin.at_ hml M' s.grow.g
  have lk := hv.jin.kidLen hml M' s.grow.g
  refine W_seq (W_seq (W_seqR (by simp only [runSeq_cons, runSeq_nil, evalArgs_nil, evalArgs_tmp, val1, putT, Tr.get_set_self, Tr.get_set_ne, hd _, ne_eq, Nat.reduceEqDiff, not_false_eq_true, decide_true, Nat.reduceLT, opI_move, opI_lss, Nat.zero_add, h0, h11, h12, p1, opI_fieldQ pp, p2, lk]; rfl) ?_))
  refine W_cond (by simp only [PArg.eval, Tr.get_set_self, Tr.get_set_ne, hd _, ne_eq, Nat.reduceEqDiff, not_false_eq_true, decide_true, Nat.reduceLT]; rfl) (fun hb => W_skip ?_) (fun hb => ?_)
  rotate_left
  · refine W_exit ?_
    have hqq : q = (jb js m).kids.length := by simp at hb; omega
    subst hqq
    rw [List.take_of_length_le (Nat.le_refl _), Int.add_assoc] at h9
    show W _ _
    refine W_seqR (by simp only [runSeq_cons, runSeq_nil, evalArgs_nil, evalArgs_tmp, evalArgs_const, val1, putT, Tr.get_set_self, Tr.get_set_ne, hd _, ne_eq, Nat.reduceEqDiff, not_false_eq_true, decide_true, Nat.reduceLT, opI_move, opI_add, h11]; rfl) ?_
    refine ⟨k - 1, by omega, m + 1, ks', by omega, s, rr, hg, hold, by ((repeat (with_reducible apply Dom.set)); exact hd), by simp only [Tr.get_set_ne, ne_eq, Nat.reduceEqDiff, not_false_eq_true, h0], by simp only [Tr.get_set_ne, ne_eq, Nat.reduceEqDiff, not_false_eq_true, h1], by simp only [Tr.get_set_ne, ne_eq, Nat.reduceEqDiff, not_false_eq_true, h2], by simp only [Tr.get_set_ne, ne_eq, Nat.reduceEqDiff, not_false_eq_true, h3], by simp only [Tr.get_set_ne, ne_eq, Nat.reduceEqDiff, not_false_eq_true, h9]; rfl, ?_⟩
    simp only [Tr.get_set_self, Tr.get_set_ne, hd _, ne_eq, Nat.reduceEqDiff, not_false_eq_true, decide_true, Nat.reduceLT]
    rw [wrapF_small (by omega) (by omega)]; rfl
  have hql : q < (jb js m).kids.length := by simpa using hb
  clear hb
  obtain ⟨r, rr', r1, r2⟩ := hv.jin.kidAt hml hql M' s.grow.g
  have hcs := count_take_succ hql (k := (i : Int))
  have h12n : wrapF .i64 ((q : Int) + 1) = ((q + 1 : Nat) : Int) := by rw [wrapF_small (by omega) (by omega)]; rfl
  have hcn := mul_nn (c := ((jb js m).kids.take q).count (i : Int)) hTm.1
  show W _ _
  by_cases ce : kid js m q = (i : Int)
  · have et : (kid js m q == (i : Int)) = true := by simpa using ce
    have ce' : (jb js m).kids.getD q 0 = (i : Int) := ce
    rw [if_pos ce'] at hcs
    have hmem : (i : Int) ∈ (jb js m).kids := by
      rw [← ce', List.getD_eq_getElem?_getD, List.getElem?_eq_getElem hql]; exact List.getElem_mem hql
    obtain ⟨p', hp', hpe⟩ := all_out hD hl hml
    have hlt : p' < p := kid_behind hD hp' hp (by rw [hpe, hi, Int.toNat_natCast]; exact hmem)
    obtain ⟨d', rfl⟩ : ∃ d', d = d' + 1 := ⟨d - 1, by omega⟩
    obtain ⟨_, M3, c3, rfl, s3, ks3, r3, hg3, _, hold3⟩ := IH p' hlt hp' d' (by omega) m hpe M' ks' s rr hg
    have wS : wrapF .i64 (min (own js ts i + Fn js T m i + (((jb js m).kids.take q).count (i : Int) : Nat) * T.getD m 0) cap + T.getD m 0) = min (own js ts i + Fn js T m i + (((jb js m).kids.take q).count (i : Int) : Nat) * T.getD m 0) cap + T.getD m 0 := wrapF_any (by omega) (by omega)
    have hadd : ((((jb js m).kids.take (q + 1)).count (i : Int) : Nat) : Int) * T.getD m 0 = (((jb js m).kids.take q).count (i : Int) : Nat) * T.getD m 0 + T.getD m 0 := by
      rw [hcs, Int.natCast_add, Int.add_mul]; simp
    refine W_seq (W_block (W_seq (W_seq (W_seqR (by simp only [runSeq_cons, runSeq_nil, evalArgs_nil, evalArgs_tmp, val1, putT, Tr.get_set_self, Tr.get_set_ne, hd _, ne_eq, Nat.reduceEqDiff, not_false_eq_true, decide_true, Nat.reduceLT, opI_move, opI_eql, Nat.zero_add, h0, h3, h11, h12, p1, opI_fieldQ pp, p2, r1, r2, et]; rfl) ?_))))
    refine W_cond (b := true) (by simp only [PArg.eval, Tr.get_set_self, Tr.get_set_ne, hd _, ne_eq, Nat.reduceEqDiff, not_false_eq_true, decide_true, Nat.reduceLT]; try rfl) (fun _ => ?_) (fun hb => by cases hb)
    refine W_seqR (by simp only [runSeq_cons, runSeq_nil, evalArgs_nil, evalArgs_tmp, val1, putT, Tr.get_set_self, Tr.get_set_ne, hd _, ne_eq, Nat.reduceEqDiff, not_false_eq_true, decide_true, Nat.reduceLT, opI_move, opI_add, opI_callF, h0, h1, h2, h9, h11, c3, wS]; rfl) ?_
    show W _ _
    have hold' : ∀ m, m < js.length → ks.getD m 0 ≠ -1 → ks3.getD m 0 = ks.getD m 0 := fun j hj hne => by
      have h1 := hold j hj hne
      rw [hold3 j hj (by rw [h1]; exact hne), h1]
    by_cases hbig : min (own js ts i + Fn js T m i + (((jb js m).kids.take q).count (i : Int) : Nat) * T.getD m 0) cap + T.getD m 0 > 1099511627777
    · have eb : decide (min (own js ts i + Fn js T m i + (((jb js m).kids.take q).count (i : Int) : Nat) * T.getD m 0) cap + T.getD m 0 > 1099511627777) = true := decide_eq_true hbig
      have hval : (1099511627777 : Int) = min (own js ts i + Fn js T m i + (((jb js m).kids.take (q + 1)).count (i : Int) : Nat) * T.getD m 0) cap := by rw [hadd]; omega
      refine W_seq (W_seqR (by simp only [runSeq_cons, runSeq_nil, evalArgs_nil, evalArgs_tmp, evalArgs_const, val1, putT, Tr.get_set_self, Tr.get_set_ne, hd _, ne_eq, Nat.reduceEqDiff, not_false_eq_true, decide_true, Nat.reduceLT, opI_move, opI_gtr, eb]; rfl) ?_)
      refine W_cond (b := true) (by simp only [PArg.eval, Tr.get_set_self, Tr.get_set_ne, hd _, ne_eq, Nat.reduceEqDiff, not_false_eq_true, decide_true, Nat.reduceLT]; try rfl) (fun _ => ?_) (fun hb => by cases hb)
      refine W_seqR (by simp only [runSeq_cons, runSeq_nil, evalArgs_nil, evalArgs_const, val1, putT, opI_move]; rfl) ?_
      show W _ _
      refine W_seqR (by simp only [runSeq_cons, runSeq_nil, evalArgs_nil, evalArgs_tmp, evalArgs_const, val1, putT, Tr.get_set_self, Tr.get_set_ne, hd _, ne_eq, Nat.reduceEqDiff, not_false_eq_true, decide_true, Nat.reduceLT, opI_move, opI_add, h12, h12n]; rfl) ?_
      exact ⟨kk - 1, by omega, q + 1, ks3, by omega, s3, r3, hg3, hold', by ((repeat (with_reducible apply Dom.set)); exact hd), by simp only [Tr.get_set_ne, ne_eq, Nat.reduceEqDiff, not_false_eq_true, h0], by simp only [Tr.get_set_ne, ne_eq, Nat.reduceEqDiff, not_false_eq_true, h1], by simp only [Tr.get_set_ne, ne_eq, Nat.reduceEqDiff, not_false_eq_true, h2], by simp only [Tr.get_set_ne, ne_eq, Nat.reduceEqDiff, not_false_eq_true, h3], by simp only [Tr.get_set_self, Tr.get_set_ne, Tr.isSome_set, Option.isSome_some, hd _, ne_eq, Nat.reduceEqDiff, not_false_eq_true, decide_true, Nat.reduceLT]; rw [← hval], by simp only [Tr.get_set_ne, ne_eq, Nat.reduceEqDiff, not_false_eq_true, h11], by simp only [Tr.get_set_self, Tr.get_set_ne, hd _, ne_eq, Nat.reduceEqDiff, not_false_eq_true, decide_true, Nat.reduceLT]⟩
    · have eb : decide (min (own js ts i + Fn js T m i + (((jb js m).kids.take q).count (i : Int) : Nat) * T.getD m 0) cap + T.getD m 0 > 1099511627777) = false := decide_eq_false hbig
      have hval : min (own js ts i + Fn js T m i + (((jb js m).kids.take q).count (i : Int) : Nat) * T.getD m 0) cap + T.getD m 0 = min (own js ts i + Fn js T m i + (((jb js m).kids.take (q + 1)).count (i : Int) : Nat) * T.getD m 0) cap := by rw [hadd]; omega
      refine W_seq (W_seqR (by simp only [runSeq_cons, runSeq_nil, evalArgs_nil, evalArgs_tmp, evalArgs_const, val1, putT, Tr.get_set_self, Tr.get_set_ne, hd _, ne_eq, Nat.reduceEqDiff, not_false_eq_true, decide_true, Nat.reduceLT, opI_move, opI_gtr, eb]; rfl) ?_)
      refine W_cond (b := false) (by simp only [PArg.eval, Tr.get_set_self, Tr.get_set_ne, hd _, ne_eq, Nat.reduceEqDiff, not_false_eq_true, decide_true, Nat.reduceLT]; try rfl) (fun hb => by cases hb) (fun _ => W_skip ?_)
      show W _ _
      refine W_seqR (by simp only [runSeq_cons, runSeq_nil, evalArgs_nil, evalArgs_tmp, evalArgs_const, val1, putT, Tr.get_set_self, Tr.get_set_ne, hd _, ne_eq, Nat.reduceEqDiff, not_false_eq_true, decide_true, Nat.reduceLT, opI_move, opI_add, h12, h12n]; rfl) ?_
      exact ⟨kk - 1, by omega, q + 1, ks3, by omega, s3, r3, hg3, hold', by ((repeat (with_reducible apply Dom.set)); exact hd), by simp only [Tr.get_set_ne, ne_eq, Nat.reduceEqDiff, not_false_eq_true, h0], by simp only [Tr.get_set_ne, ne_eq, Nat.reduceEqDiff, not_false_eq_true, h1], by simp only [Tr.get_set_ne, ne_eq, Nat.reduceEqDiff, not_false_eq_true, h2], by simp only [Tr.get_set_ne, ne_eq, Nat.reduceEqDiff, not_false_eq_true, h3], by simp only [Tr.get_set_self, Tr.get_set_ne, hd _, ne_eq, Nat.reduceEqDiff, not_false_eq_true, decide_true, Nat.reduceLT]; rw [hval], by simp only [Tr.get_set_ne, ne_eq, Nat.reduceEqDiff, not_false_eq_true, h11], by simp only [Tr.get_set_self, Tr.get_set_ne, hd _, ne_eq, Nat.reduceEqDiff, not_false_eq_true, decide_true, Nat.reduceLT]⟩
  · have et : (kid js m q == (i : Int)) = false := by simpa using ce
    have ce' : ¬ (jb js m).kids.getD q 0 = (i : Int) := ce
    rw [if_neg ce', Nat.add_zero] at hcs
    have eb : decide (min (own js ts i + Fn js T m i + (((jb js m).kids.take q).count (i : Int) : Nat) * T.getD m 0) cap > 1099511627777) = false := decide_eq_false (by omega)
    refine W_seq (W_block (W_seq (W_seq (W_seqR (by simp only [runSeq_cons, runSeq_nil, evalArgs_nil, evalArgs_tmp, val1, putT, Tr.get_set_self, Tr.get_set_ne, hd _, ne_eq, Nat.reduceEqDiff, not_false_eq_true, decide_true, Nat.reduceLT, opI_move, opI_eql, Nat.zero_add, h0, h3, h11, h12, p1, opI_fieldQ pp, p2, r1, r2, et]; rfl) ?_))))
    refine W_cond (b := false) (by simp only [PArg.eval, Tr.get_set_self, Tr.get_set_ne, hd _, ne_eq, Nat.reduceEqDiff, not_false_eq_true, decide_true, Nat.reduceLT]; try rfl) (fun hb => by cases hb) (fun _ => W_skip ?_)
    show W _ _
    refine W_seq (W_seqR (by simp only [runSeq_cons, runSeq_nil, evalArgs_nil, evalArgs_tmp, evalArgs_const, val1, putT, Tr.get_set_self, Tr.get_set_ne, hd _, ne_eq, Nat.reduceEqDiff, not_false_eq_true, decide_true, Nat.reduceLT, opI_move, opI_gtr, h9, eb]; rfl) ?_)
    refine W_cond (b := false) (by simp only [PArg.eval, Tr.get_set_self, Tr.get_set_ne, hd _, ne_eq, Nat.reduceEqDiff, not_false_eq_true, decide_true, Nat.reduceLT]; try rfl) (fun hb => by cases hb) (fun _ => W_skip ?_)
    show W _ _
    refine W_seqR (by simp only [runSeq_cons, runSeq_nil, evalArgs_nil, evalArgs_tmp, evalArgs_const, val1, putT, Tr.get_set_self, Tr.get_set_ne, hd _, ne_eq, Nat.reduceEqDiff, not_false_eq_true, decide_true, Nat.reduceLT, opI_move, opI_add, h12, h12n]; rfl) ?_
    exact ⟨kk - 1, by omega, q + 1, ks', by omega, s, rr, hg, hold, by ((repeat (with_reducible apply Dom.set)); exact hd), by simp only [Tr.get_set_ne, ne_eq, Nat.reduceEqDiff, not_false_eq_true, h0], by simp only [Tr.get_set_ne, ne_eq, Nat.reduceEqDiff, not_false_eq_true, h1], by simp only [Tr.get_set_ne, ne_eq, Nat.reduceEqDiff, not_false_eq_true, h2], by simp only [Tr.get_set_ne, ne_eq, Nat.reduceEqDiff, not_false_eq_true, h3], by simp only [Tr.get_set_ne, ne_eq, Nat.reduceEqDiff, not_false_eq_true, h9]; rw [hcs]; rfl, by simp only [Tr.get_set_ne, ne_eq, Nat.reduceEqDiff, not_false_eq_true, h11], by simp only [Tr.get_set_self, Tr.get_set_ne, hd _, ne_eq, Nat.reduceEqDiff, not_false_eq_true, decide_true, Nat.reduceLT]⟩
end Go.Proofs.Ytmaldkpkodcggaa.grf
