/- The walks of the document's Often and Work. -/
import Derived.Test.YtmaldkpkodcggaaGrTimes
namespace Go.Proofs.Ytmaldkpkodcggaa.grf
open Go Go.Vx

theorem Fn_congr {js : List Jb} {T T' : List Int} {k : Int} : ∀ {m : Nat}, (∀ j, j < m → k ∈ (jb js j).kids → T.getD j 0 = T'.getD j 0) → Fn js T m k = Fn js T' m k
  | 0, _ => rfl
  | m + 1, h => by
    unfold Fn
    rw [Fn_congr (fun j hj => h j (by omega))]
    by_cases hm : k ∈ (jb js m).kids
    · rw [h m (by omega) hm]
    · rw [List.count_eq_zero.2 hm, show ((0 : Nat) : Int) = 0 from rfl, Int.zero_mul, Int.zero_mul]
theorem oft_uniq {js : List Jb} {ts out T T' : List Int} (hD : Done js out) (hl : out.length = js.length) (h : IsOft js ts T) (h' : IsOft js ts T') : T = T' := by
  have key : ∀ p, p < out.length → T.getD (out.getD p 0).toNat 0 = T'.getD (out.getD p 0).toNat 0 := by
    intro p
    induction p using Nat.strongRecOn with
    | ind p ih =>
      intro hp
      have hrg := hD.rng _ (getD_mem hp)
      rw [h.eq _ (by omega), h'.eq _ (by omega), Int.toNat_of_nonneg hrg.1]
      rw [Fn_congr fun j hj hm => ?_]
      obtain ⟨p', hp', he⟩ := all_out hD hl hj
      have hlt : p' < p := kid_behind hD hp' hp (by rw [he, Int.toNat_natCast]; exact hm)
      have := ih p' hlt hp'
      rwa [he, Int.toNat_natCast] at this
  apply List.ext_getElem
  · rw [h.len, h'.len]
  · intro i h1 h2
    obtain ⟨p, hp, he⟩ := all_out hD hl (k := i) (by rw [← h.len]; exact h1)
    have a := key p hp
    rw [he, Int.toNat_natCast] at a
    simp only [List.getD_eq_getElem?_getD, List.getElem?_eq_getElem h1, List.getElem?_eq_getElem h2, Option.getD_some] at a
    exact a
set_option maxRecDepth 20000 in
set_option maxHeartbeats 4000000 in
theorem refoften_ok {v tv : AV} {js : List Jb} {ts out T : List Int} (d : Nat) (M0 : AMem) (hok : Okg M0) (hv : JobsOk M0.g v js) (ht : InRow M0.g .u64 tv ts) (hts : ts.length ≤ 1000) (hR : RightP js) (hD : Done js out) (hl : out.length = js.length) (hIs : IsOft js ts T) :
    Ans (callF tbl code 100000 (d + 202)) 10 [v, tv] M0 fun r M' => Step M0 M' ∧ ∃ vk b, r = .tuple [vk, .bool b] ∧ IRow M' .i64 vk T ∧ (b = true ↔ ∀ i, i < js.length → T.getD i 0 ≤ 1099511627776) := by
  refine Ans_of (tbl_none (by decide) _) (show code 10 = some c10 from by kernel_rfl) (by simp) fun t hd ha => ?_
  have h0 := ha 0 _ rfl
  have h1 := ha 1 _ rfl
  clear ha
  have hlen := hR.1
  have e1 : opI (.sliceLit 0 [] []) [] M0 = some (.val (.slice (some (M0.n, 0)) 0 0 false) (M0.push (.cells [] 0 true none))) := rfl
  have s1 := (Step.refl hok).push (k := .cells [] 0 true none) (fun _ _ _ _ he => by cases he)
  have g1 := get_push_self (k := .cells [] 0 true none) hok.1
  have r1 : RowI M0 (M0.push (.cells [] 0 true none)) 1 M0.n (.slice (some (M0.n, 0)) 0 0 false) (([] : List Int).map eI) := .inr ⟨M0.n, 0, false, [], 0, none, rfl, Nat.le_refl _, Nat.le_refl _, Nat.le_refl _, g1, rfl, rfl, (fun he => by cases he), rfl, fun e he => by simp at he, rfl⟩
  refine W_seq (W_seqR (by simp only [runSeq_cons, runSeq_nil, evalArgs_nil, evalArgs_const, val1, putT, opI_move]; rfl) (W_seq (W_seqR (by simp only [runSeq_cons, runSeq_nil, evalArgs_nil, evalArgs_tmp, val1, putT, Tr.get_set_self, Tr.get_set_ne, hd _, ne_eq, Nat.reduceEqDiff, not_false_eq_true, decide_true, Nat.reduceLT, opI_move, e1]; rfl) ?_)))
  refine W_seq (W_seq (W_seqR (by simp only [runSeq_cons, runSeq_nil, evalArgs_nil, evalArgs_const, val1, putT, opI_move]; rfl) (W_block (W_loop (fun k t M' => ∃ (i γ : Nat) (s : AV), k + i = js.length ∧ Step M0 M' ∧ RowI M0 M' 1 γ s ((List.replicate i (-1 : Int)).map eI) ∧ Dom t 34 ∧ t.get 0 = some v ∧ t.get 1 = some tv ∧ t.get 6 = some s ∧ t.get 7 = some (.int .i64 i)) (k := js.length) (by omega) ?_ ?_))))
  · exact ⟨0, _, _, rfl, s1, r1, by ((repeat (with_reducible apply Dom.set)); exact hd), by simp only [Tr.get_set_ne, ne_eq, Nat.reduceEqDiff, not_false_eq_true, h0], by simp only [Tr.get_set_ne, ne_eq, Nat.reduceEqDiff, not_false_eq_true, h1], by simp only [Tr.get_set_self, Tr.get_set_ne, hd _, ne_eq, Nat.reduceEqDiff, not_false_eq_true, decide_true, Nat.reduceLT]; try rfl, by simp only [Tr.get_set_self, Tr.get_set_ne, hd _, ne_eq, Nat.reduceEqDiff, not_false_eq_true, decide_true, Nat.reduceLT]; try rfl⟩
  clear h0 h1 hd e1 s1 g1 r1
  intro k t M ⟨i, γ, s, hk, st, rr, hd, h0, h1, h6, h7⟩
  have lv := hv.jin.lenS M st.grow.g
  refine W_seq (W_seq (W_seqR (by simp only [runSeq_cons, runSeq_nil, evalArgs_nil, evalArgs_tmp, val1, putT, Tr.get_set_self, Tr.get_set_ne, hd _, ne_eq, Nat.reduceEqDiff, not_false_eq_true, decide_true, Nat.reduceLT, opI_move, opI_lss, h0, h7, lv]; rfl) ?_))
  refine W_cond (by simp only [PArg.eval, Tr.get_set_self, Tr.get_set_ne, hd _, ne_eq, Nat.reduceEqDiff, not_false_eq_true, decide_true, Nat.reduceLT]; rfl) (fun hb => W_skip ?_) (fun hb => ?_)
  · have hin : i < js.length := by simpa using hb
    obtain ⟨M', s', γ', a1, a2, s2, r2, f2, g2, n2⟩ := rr.push (bytes := 8) (z := [.int .i64 0]) (x := .int .i64 (-1)) st rfl rfl (by omega) rfl (by simp; omega) (by simp; omega)
    simp only [AV.cells] at a1 a2
    show W _ _
    refine W_seq (W_block (W_seqR (by simp only [runSeq_cons, runSeq_nil, evalArgs_nil, evalArgs_tmp, evalArgs_const, val1, putT, Tr.get_set_self, Tr.get_set_ne, hd _, ne_eq, Nat.reduceEqDiff, not_false_eq_true, decide_true, Nat.reduceLT, opI_move, h6, a1, a2]; rfl) ?_))
    show W _ _
    refine W_seqR (by simp only [runSeq_cons, runSeq_nil, evalArgs_nil, evalArgs_tmp, evalArgs_const, val1, putT, Tr.get_set_self, Tr.get_set_ne, hd _, ne_eq, Nat.reduceEqDiff, not_false_eq_true, decide_true, Nat.reduceLT, opI_move, opI_add, h7]; rfl) ?_
    refine ⟨k - 1, by omega, i + 1, γ', s', by omega, s2, ?_, by ((repeat (with_reducible apply Dom.set)); exact hd), by simp only [Tr.get_set_ne, ne_eq, Nat.reduceEqDiff, not_false_eq_true, h0], by simp only [Tr.get_set_ne, ne_eq, Nat.reduceEqDiff, not_false_eq_true, h1], by simp only [Tr.get_set_self, Tr.get_set_ne, hd _, ne_eq, Nat.reduceEqDiff, not_false_eq_true, decide_true, Nat.reduceLT], ?_⟩
    · rw [List.replicate_succ', List.map_append]; exact r2
    · simp only [Tr.get_set_self, Tr.get_set_ne, hd _, ne_eq, Nat.reduceEqDiff, not_false_eq_true, decide_true, Nat.reduceLT]
      rw [wrapF_small (by omega) (by omega)]; rfl
  refine W_exit ?_
  have hi : i = js.length := by simp at hb; omega
  subst hi
  clear h7 hb hk lv
  have hg0 : Good js T (List.replicate js.length (-1)) := ⟨by simp, fun m hm => .inl (by rw [List.getD_eq_getElem?_getD, List.getElem?_replicate, if_pos hm]; rfl)⟩
  show W _ _
  refine W_seq (W_seqR (by simp only [runSeq_cons, runSeq_nil, evalArgs_nil, evalArgs_const, val1, putT, opI_move]; rfl) ?_)
  refine W_seq (W_seq (W_seqR (by simp only [runSeq_cons, runSeq_nil, evalArgs_nil, evalArgs_const, val1, putT, opI_move]; rfl) (W_block (W_loop (fun k t M' => ∃ (i : Nat) (ks : List Int) (b : Bool), k + i = js.length ∧ Step M0 M' ∧ RowI M0 M' 1 γ s (ks.map eI) ∧ Good js T ks ∧ (∀ j, j < i → ks.getD j 0 = T.getD j 0) ∧ (b = true ↔ ∀ j, j < i → T.getD j 0 ≤ 1099511627776) ∧ Dom t 34 ∧ t.get 0 = some v ∧ t.get 1 = some tv ∧ t.get 6 = some s ∧ t.get 8 = some (.bool b) ∧ t.get 9 = some (.int .i64 i)) (k := js.length) (by omega) ?_ ?_))))
  · exact ⟨0, _, true, rfl, st, rr, hg0, fun j hj => by omega, ⟨fun _ j hj => by omega, fun _ => rfl⟩, by ((repeat (with_reducible apply Dom.set)); exact hd), by simp only [Tr.get_set_ne, ne_eq, Nat.reduceEqDiff, not_false_eq_true, h0], by simp only [Tr.get_set_ne, ne_eq, Nat.reduceEqDiff, not_false_eq_true, h1], by simp only [Tr.get_set_ne, ne_eq, Nat.reduceEqDiff, not_false_eq_true, h6], by simp only [Tr.get_set_self, Tr.get_set_ne, hd _, ne_eq, Nat.reduceEqDiff, not_false_eq_true, decide_true, Nat.reduceLT], by simp only [Tr.get_set_self, Tr.get_set_ne, hd _, ne_eq, Nat.reduceEqDiff, not_false_eq_true, decide_true, Nat.reduceLT]; rfl⟩
  clear h0 h1 h6 hd st rr hg0 M
  intro k t M ⟨i, ks, b, hk, st, rr, hg, hkn, hbi, hd, h0, h1, h6, h8, h9⟩
  have lv := hv.jin.lenS M st.grow.g
  refine W_seq (W_seq (W_seqR (by simp only [runSeq_cons, runSeq_nil, evalArgs_nil, evalArgs_tmp, val1, putT, Tr.get_set_self, Tr.get_set_ne, hd _, ne_eq, Nat.reduceEqDiff, not_false_eq_true, decide_true, Nat.reduceLT, opI_move, opI_lss, h0, h9, lv]; rfl) ?_))
  refine W_cond (by simp only [PArg.eval, Tr.get_set_self, Tr.get_set_ne, hd _, ne_eq, Nat.reduceEqDiff, not_false_eq_true, decide_true, Nat.reduceLT]; rfl) (fun hb => W_skip ?_) (fun hb => ?_)
  · have hin : i < js.length := by simpa using hb
    obtain ⟨p, hp, hpe⟩ := all_out hD hl hin
    obtain ⟨_, M3, c3, rfl, s3, ks3, r3, hg3, hki, hold3⟩ := times_ok hv ht hts hR hD hl hIs p hp (d + 200) (by omega) i hpe M ks st rr hg
    have hkn3 : ∀ j, j < i + 1 → ks3.getD j 0 = T.getD j 0 := fun j hj => by
      rcases Nat.lt_or_ge j i with h | h
      · rw [hold3 j (by omega) (by rw [hkn j h]; have := (hIs.bd j).1; omega), hkn j h]
      · rw [show j = i by omega]; exact hki
    have h9n : wrapF .i64 ((i : Int) + 1) = ((i + 1 : Nat) : Int) := by rw [wrapF_small (by omega) (by omega)]; rfl
    show W _ _
    by_cases hbig : T.getD i 0 > 1099511627776
    · have eb : decide (T.getD i 0 > 1099511627776) = true := decide_eq_true hbig
      refine W_seq (W_block (W_seq (W_seqR (by simp only [runSeq_cons, runSeq_nil, evalArgs_nil, evalArgs_tmp, evalArgs_const, val1, putT, Tr.get_set_self, Tr.get_set_ne, hd _, ne_eq, Nat.reduceEqDiff, not_false_eq_true, decide_true, Nat.reduceLT, opI_move, opI_gtr, opI_callF, h0, h1, h6, h9, c3, eb]; rfl) ?_)))
      refine W_cond (b := true) (by simp only [PArg.eval, Tr.get_set_self, Tr.get_set_ne, hd _, ne_eq, Nat.reduceEqDiff, not_false_eq_true, decide_true, Nat.reduceLT]; try rfl) (fun _ => ?_) (fun hb => by cases hb)
      refine W_seqR (by simp only [runSeq_cons, runSeq_nil, evalArgs_nil, evalArgs_const, val1, putT, opI_move]; rfl) ?_
      show W _ _
      refine W_seqR (by simp only [runSeq_cons, runSeq_nil, evalArgs_nil, evalArgs_tmp, evalArgs_const, val1, putT, Tr.get_set_self, Tr.get_set_ne, hd _, ne_eq, Nat.reduceEqDiff, not_false_eq_true, decide_true, Nat.reduceLT, opI_move, opI_add, h9, h9n]; rfl) ?_
      exact ⟨k - 1, by omega, i + 1, ks3, false, by omega, s3, r3, hg3, hkn3, ⟨fun h => (by cases h), fun h => (by have := h i (by omega); omega)⟩, by ((repeat (with_reducible apply Dom.set)); exact hd), by simp only [Tr.get_set_ne, ne_eq, Nat.reduceEqDiff, not_false_eq_true, h0], by simp only [Tr.get_set_ne, ne_eq, Nat.reduceEqDiff, not_false_eq_true, h1], by simp only [Tr.get_set_ne, ne_eq, Nat.reduceEqDiff, not_false_eq_true, h6], by simp only [Tr.get_set_self, Tr.get_set_ne, hd _, ne_eq, Nat.reduceEqDiff, not_false_eq_true, decide_true, Nat.reduceLT], by simp only [Tr.get_set_self, Tr.get_set_ne, hd _, ne_eq, Nat.reduceEqDiff, not_false_eq_true, decide_true, Nat.reduceLT]⟩
    · have eb : decide (T.getD i 0 > 1099511627776) = false := decide_eq_false hbig
      refine W_seq (W_block (W_seq (W_seqR (by simp only [runSeq_cons, runSeq_nil, evalArgs_nil, evalArgs_tmp, evalArgs_const, val1, putT, Tr.get_set_self, Tr.get_set_ne, hd _, ne_eq, Nat.reduceEqDiff, not_false_eq_true, decide_true, Nat.reduceLT, opI_move, opI_gtr, opI_callF, h0, h1, h6, h9, c3, eb]; rfl) ?_)))
      refine W_cond (b := false) (by simp only [PArg.eval, Tr.get_set_self, Tr.get_set_ne, hd _, ne_eq, Nat.reduceEqDiff, not_false_eq_true, decide_true, Nat.reduceLT]; try rfl) (fun hb => by cases hb) (fun _ => W_skip ?_)
      show W _ _
      refine W_seqR (by simp only [runSeq_cons, runSeq_nil, evalArgs_nil, evalArgs_tmp, evalArgs_const, val1, putT, Tr.get_set_self, Tr.get_set_ne, hd _, ne_eq, Nat.reduceEqDiff, not_false_eq_true, decide_true, Nat.reduceLT, opI_move, opI_add, h9, h9n]; rfl) ?_
      refine ⟨k - 1, by omega, i + 1, ks3, b, by omega, s3, r3, hg3, hkn3, hbi.trans ⟨fun h j hj => ?_, fun h j hj => h j (by omega)⟩, by ((repeat (with_reducible apply Dom.set)); exact hd), by simp only [Tr.get_set_ne, ne_eq, Nat.reduceEqDiff, not_false_eq_true, h0], by simp only [Tr.get_set_ne, ne_eq, Nat.reduceEqDiff, not_false_eq_true, h1], by simp only [Tr.get_set_ne, ne_eq, Nat.reduceEqDiff, not_false_eq_true, h6], by simp only [Tr.get_set_ne, ne_eq, Nat.reduceEqDiff, not_false_eq_true, h8], by simp only [Tr.get_set_self, Tr.get_set_ne, hd _, ne_eq, Nat.reduceEqDiff, not_false_eq_true, decide_true, Nat.reduceLT]⟩
      rcases Nat.lt_or_ge j i with h' | h'
      · exact h j h'
      · rw [show j = i by omega]; omega
  refine W_exit ?_
  have hi : i = js.length := by simp at hb; omega
  subst hi
  have hT : ks = T := by
    apply List.ext_getElem
    · rw [hg.1, hIs.len]
    · intro j a1 a2
      have := hkn j (by rw [← hg.1]; exact a1)
      simp only [List.getD_eq_getElem?_getD, List.getElem?_eq_getElem a1, List.getElem?_eq_getElem a2, Option.getD_some] at this
      exact this
  subst hT
  show W _ _
  refine W_seq (W_seqR (by simp only [runSeq_cons, runSeq_nil, evalArgs_nil, evalArgs_tmp, val1, putT, Tr.get_set_self, Tr.get_set_ne, hd _, ne_eq, Nat.reduceEqDiff, not_false_eq_true, decide_true, Nat.reduceLT, opI_move, h6, h8]; rfl) (W_ret ?_))
  exact ⟨_, fin_tmp2 (by simp only [Tr.get_set_self, Tr.get_set_ne, hd _, ne_eq, Nat.reduceEqDiff, not_false_eq_true, decide_true, Nat.reduceLT]; try rfl) (by simp only [Tr.get_set_self, Tr.get_set_ne, hd _, ne_eq, Nat.reduceEqDiff, not_false_eq_true, decide_true, Nat.reduceLT]; try rfl), st, s, b, rfl, rr.row st.ok.1, hbi⟩

theorem any_succ {f : Nat → Bool} {k : Nat} : (List.range (k + 1)).any f = ((List.range k).any f || f k) := by
  rw [List.range_succ, List.any_append]; simp
set_option maxRecDepth 20000 in
set_option maxHeartbeats 4000000 in
theorem refwork_ok {v tv : AV} {js : List Jb} {ts out T : List Int} (d : Nat) (M0 : AMem) (hok : Okg M0) (hv : JobsOk M0.g v js) (ht : InRow M0.g .u64 tv ts) (hts : ts.length ≤ 1000) (hR : RightP js) (hD : Done js out) (hl : out.length = js.length) (hIs : IsOft js ts T) :
    Ans (callF tbl code 100000 (d + 203)) 11 [v, tv] M0 fun r M' => Step M0 M' ∧ ∃ b, r = .tuple [.int .i64 (workS js ts T), .bool b] ∧ (b = true ↔ (∀ i, i < js.length → T.getD i 0 ≤ 1099511627776) ∧ workS js ts T ≤ 1099511627776) := by
  refine Ans_of (tbl_none (by decide) _) (show code 11 = some c11 from by kernel_rfl) (by simp) fun t hd ha => ?_
  have h0 := ha 0 _ rfl
  have h1 := ha 1 _ rfl
  clear ha
  have hlen := hR.1
  have hTl := hIs.len
  have hcap := cap_eq
  obtain ⟨_, M1, c1, s1, vk, b, rfl, hrow, hbI⟩ := refoften_ok d M0 hok hv ht hts hR hD hl hIs
  refine W_seq (W_seqR (by simp only [runSeq_cons, runSeq_nil, evalArgs_nil, evalArgs_const, val1, putT, opI_move]; rfl) ?_)
  refine W_seq (W_seqR (by simp only [runSeq_cons, runSeq_nil, evalArgs_nil, evalArgs_tmp, val1, putT, Tr.get_set_self, Tr.get_set_ne, hd _, ne_eq, Nat.reduceEqDiff, not_false_eq_true, decide_true, Nat.reduceLT, opI_move, opI_extract, opI_callF, h0, h1, c1, List.getElem?_cons_zero, List.getElem?_cons_succ]; rfl) ?_)
  have lr := hrow.len
  rw [hTl] at lr
  refine W_seq (W_seqR (by simp only [runSeq_cons, runSeq_nil, evalArgs_nil, evalArgs_const, val1, putT, opI_move]; rfl) ?_)
  refine W_seq (W_seq (W_seqR (by simp only [runSeq_cons, runSeq_nil, evalArgs_nil, evalArgs_const, val1, putT, opI_move]; rfl) (W_block (W_loop (fun k t M' => ∃ (i : Nat), k + i = js.length ∧ M' = M1 ∧ Dom t 66 ∧ t.get 0 = some v ∧ t.get 1 = some tv ∧ t.get 6 = some vk ∧ t.get 7 = some (.bool b) ∧ t.get 8 = some (.int .i64 (T.take i).sum) ∧ t.get 9 = some (.int .i64 i)) (k := js.length) (by omega) ?_ ?_))))
  · exact ⟨0, rfl, rfl, by ((repeat (with_reducible apply Dom.set)); exact hd), by simp only [Tr.get_set_ne, ne_eq, Nat.reduceEqDiff, not_false_eq_true, h0], by simp only [Tr.get_set_ne, ne_eq, Nat.reduceEqDiff, not_false_eq_true, h1], by simp only [Tr.get_set_self, Tr.get_set_ne, hd _, ne_eq, Nat.reduceEqDiff, not_false_eq_true, decide_true, Nat.reduceLT], by simp only [Tr.get_set_self, Tr.get_set_ne, hd _, ne_eq, Nat.reduceEqDiff, not_false_eq_true, decide_true, Nat.reduceLT], by simp only [Tr.get_set_self, Tr.get_set_ne, hd _, ne_eq, Nat.reduceEqDiff, not_false_eq_true, decide_true, Nat.reduceLT]; rfl, by simp only [Tr.get_set_self, Tr.get_set_ne, hd _, ne_eq, Nat.reduceEqDiff, not_false_eq_true, decide_true, Nat.reduceLT]; rfl⟩
  clear h0 h1 hd c1
  intro k t M ⟨i, hk, hM, hd, h0, h1, h6, h7, h8, h9⟩
  subst hM
  refine W_seq (W_seq (W_seqR (by simp only [runSeq_cons, runSeq_nil, evalArgs_nil, evalArgs_tmp, val1, putT, Tr.get_set_self, Tr.get_set_ne, hd _, ne_eq, Nat.reduceEqDiff, not_false_eq_true, decide_true, Nat.reduceLT, opI_move, opI_lss, h6, h9, lr]; rfl) ?_))
  refine W_cond (by simp only [PArg.eval, Tr.get_set_self, Tr.get_set_ne, hd _, ne_eq, Nat.reduceEqDiff, not_false_eq_true, decide_true, Nat.reduceLT]; rfl) (fun hb => W_skip ?_) (fun hb => ?_)
  · have hin : i < js.length := by simpa using hb
    obtain ⟨qa, q1, q2⟩ := row_get hrow (i := i) (by omega)
    have hsb := sum_bd hIs.bd (i := i) (by omega)
    have hib := hIs.bd i
    have hmul : (i : Int) * cap ≤ 200 * cap := Int.mul_le_mul_of_nonneg_right (by omega) (by omega)
    have wS : wrapF .i64 ((T.take i).sum + T.getD i 0) = (T.take (i + 1)).sum := by rw [sum_succ (by omega)]; exact wrapF_small (by omega) (by omega)
    show W _ _
    refine W_seq (W_block (W_seqR (by simp only [runSeq_cons, runSeq_nil, evalArgs_nil, evalArgs_tmp, val1, putT, Tr.get_set_self, Tr.get_set_ne, hd _, ne_eq, Nat.reduceEqDiff, not_false_eq_true, decide_true, Nat.reduceLT, opI_move, opI_add, h6, h8, h9, q1, q2, wS]; rfl) ?_))
    show W _ _
    refine W_seqR (by simp only [runSeq_cons, runSeq_nil, evalArgs_nil, evalArgs_tmp, evalArgs_const, val1, putT, Tr.get_set_self, Tr.get_set_ne, hd _, ne_eq, Nat.reduceEqDiff, not_false_eq_true, decide_true, Nat.reduceLT, opI_move, opI_add, h9]; rfl) ?_
    refine ⟨k - 1, by omega, i + 1, by omega, rfl, by ((repeat (with_reducible apply Dom.set)); exact hd), by simp only [Tr.get_set_ne, ne_eq, Nat.reduceEqDiff, not_false_eq_true, h0], by simp only [Tr.get_set_ne, ne_eq, Nat.reduceEqDiff, not_false_eq_true, h1], by simp only [Tr.get_set_ne, ne_eq, Nat.reduceEqDiff, not_false_eq_true, h6], by simp only [Tr.get_set_ne, ne_eq, Nat.reduceEqDiff, not_false_eq_true, h7], by simp only [Tr.get_set_self, Tr.get_set_ne, hd _, ne_eq, Nat.reduceEqDiff, not_false_eq_true, decide_true, Nat.reduceLT], ?_⟩
    simp only [Tr.get_set_self, Tr.get_set_ne, hd _, ne_eq, Nat.reduceEqDiff, not_false_eq_true, decide_true, Nat.reduceLT]
    rw [wrapF_small (by omega) (by omega)]; rfl
  refine W_exit ?_
  have hi : i = js.length := by simp at hb; omega
  subst hi
  rw [List.take_of_length_le (by omega)] at h8
  have hsb := sum_bd hIs.bd (i := js.length) (by omega)
  rw [List.take_of_length_le (by omega)] at hsb
  have hmul : (js.length : Int) * cap ≤ 200 * cap := Int.mul_le_mul_of_nonneg_right (by omega) (by omega)
  have ltv := (ht M s1.grow.g).len
  have lv := hv.jin.lenS M s1.grow.g
  clear h6 h9 hk lr
  show W _ _
  refine W_seq (W_seq (W_seqR (by simp only [runSeq_cons, runSeq_nil, evalArgs_nil, evalArgs_const, val1, putT, opI_move]; rfl) (W_block (W_loop (fun k t M' => ∃ (q : Nat), k + q = ts.length ∧ M' = M ∧ Dom t 66 ∧ t.get 0 = some v ∧ t.get 1 = some tv ∧ t.get 7 = some (.bool b) ∧ t.get 8 = some (.int .i64 (T.sum + (unkn js (ts.take q) : Nat))) ∧ t.get 10 = some (.int .i64 q)) (k := ts.length) (by omega) ?_ ?_))))
  · refine ⟨0, rfl, rfl, by ((repeat (with_reducible apply Dom.set)); exact hd), by simp only [Tr.get_set_ne, ne_eq, Nat.reduceEqDiff, not_false_eq_true, h0], by simp only [Tr.get_set_ne, ne_eq, Nat.reduceEqDiff, not_false_eq_true, h1], by simp only [Tr.get_set_ne, ne_eq, Nat.reduceEqDiff, not_false_eq_true, h7], ?_, by simp only [Tr.get_set_self, Tr.get_set_ne, hd _, ne_eq, Nat.reduceEqDiff, not_false_eq_true, decide_true, Nat.reduceLT]; rfl⟩
    simp only [Tr.get_set_ne, ne_eq, Nat.reduceEqDiff, not_false_eq_true, h8]
    rw [List.take_zero, show ((unkn js [] : Nat) : Int) = 0 from rfl, Int.add_zero]
  clear h0 h1 h7 h8 hd
  intro k t M' ⟨q, hk, hM, hd, h0, h1, h7, h8, h10⟩
  subst hM
  refine W_seq (W_seq (W_seqR (by simp only [runSeq_cons, runSeq_nil, evalArgs_nil, evalArgs_tmp, val1, putT, Tr.get_set_self, Tr.get_set_ne, hd _, ne_eq, Nat.reduceEqDiff, not_false_eq_true, decide_true, Nat.reduceLT, opI_move, opI_lss, h1, h10, ltv]; rfl) ?_))
  refine W_cond (by simp only [PArg.eval, Tr.get_set_self, Tr.get_set_ne, hd _, ne_eq, Nat.reduceEqDiff, not_false_eq_true, decide_true, Nat.reduceLT]; rfl) (fun hb => W_skip ?_) (fun hb => ?_)
  rotate_left
  · refine W_exit ?_
    have hq : q = ts.length := by simp at hb; omega
    subst hq
    rw [List.take_of_length_le (Nat.le_refl _)] at h8
    have hwk : T.sum + ((unkn js ts : Nat) : Int) = workS js ts T := rfl
    rw [hwk] at h8
    show W _ _
    cases b with
    | false =>
      refine W_seq (W_seqR (by simp only [runSeq_cons, runSeq_nil, evalArgs_nil, evalArgs_tmp, evalArgs_const, val1, putT, Tr.get_set_self, Tr.get_set_ne, Tr.isSome_set, hd _, ne_eq, Nat.reduceEqDiff, not_false_eq_true, decide_true, Nat.reduceLT, opI_move, opI_pick, runSeq_guard (b := false), Bool.false_beq, Bool.not_true, h7, h8]; rfl) (W_ret ?_))
      refine ⟨_, fin_tmp2 (by simp only [Tr.get_set_self, Tr.get_set_ne, hd _, ne_eq, Nat.reduceEqDiff, not_false_eq_true, decide_true, Nat.reduceLT]; try rfl) (by simp only [Tr.get_set_self, Tr.get_set_ne, hd _, ne_eq, Nat.reduceEqDiff, not_false_eq_true, decide_true, Nat.reduceLT]; try rfl), s1, false, rfl, fun h => (by cases h), fun h => ?_⟩
      have := hbI.2 h.1
      cases this
    | true =>
      have hall := hbI.1 rfl
      refine W_seq (W_seqR (by simp only [runSeq_cons, runSeq_nil, evalArgs_nil, evalArgs_tmp, evalArgs_const, val1, putT, Tr.get_set_self, Tr.get_set_ne, Tr.isSome_set, hd _, ne_eq, Nat.reduceEqDiff, not_false_eq_true, decide_true, Nat.reduceLT, opI_move, opI_leq, opI_pick, runSeq_guard (b := true), beq_self_eq_true, h7, h8]; rfl) (W_ret ?_))
      refine ⟨_, fin_tmp2 (by simp only [Tr.get_set_self, Tr.get_set_ne, hd _, ne_eq, Nat.reduceEqDiff, not_false_eq_true, decide_true, Nat.reduceLT]; try rfl) (by simp only [Tr.get_set_self, Tr.get_set_ne, hd _, ne_eq, Nat.reduceEqDiff, not_false_eq_true, decide_true, Nat.reduceLT]; try rfl), s1, _, rfl, ?_⟩
      rw [decide_eq_true_iff]
      exact ⟨fun h => ⟨hall, h⟩, fun h => h.2⟩
  have hql : q < ts.length := by simpa using hb
  clear hb
  obtain ⟨qa, q1, q2⟩ := row_get (ht M' s1.grow.g) hql
  have hus := unkn_succ (js := js) hql
  have hul := unkn_le (js := js) (ts := ts) (q := q) (by omega)
  have h10n : wrapF .i64 ((q : Int) + 1) = ((q + 1 : Nat) : Int) := by rw [wrapF_small (by omega) (by omega)]; rfl
  show W _ _
  refine W_seq (W_block (W_seq (W_seqR (by simp only [runSeq_cons, runSeq_nil, evalArgs_nil, evalArgs_const, val1, putT, opI_move]; rfl) ?_)))
  refine W_seq (W_seq (W_seqR (by simp only [runSeq_cons, runSeq_nil, evalArgs_nil, evalArgs_const, val1, putT, opI_move]; rfl) (W_block (W_loop (fun kk t M'' => ∃ (m : Nat), kk + m = js.length ∧ M'' = M' ∧ Dom t 66 ∧ t.get 0 = some v ∧ t.get 1 = some tv ∧ t.get 7 = some (.bool b) ∧ t.get 8 = some (.int .i64 (T.sum + (unkn js (ts.take q) : Nat))) ∧ t.get 10 = some (.int .i64 q) ∧ t.get 11 = some (.bool ((List.range m).any fun i => (jb js i).task == ts.getD q 0)) ∧ t.get 12 = some (.int .i64 m)) (k := js.length) (by omega) ?_ ?_))))
  · exact ⟨0, rfl, rfl, by ((repeat (with_reducible apply Dom.set)); exact hd), by simp only [Tr.get_set_ne, ne_eq, Nat.reduceEqDiff, not_false_eq_true, h0], by simp only [Tr.get_set_ne, ne_eq, Nat.reduceEqDiff, not_false_eq_true, h1], by simp only [Tr.get_set_ne, ne_eq, Nat.reduceEqDiff, not_false_eq_true, h7], by simp only [Tr.get_set_ne, ne_eq, Nat.reduceEqDiff, not_false_eq_true, h8], by simp only [Tr.get_set_ne, ne_eq, Nat.reduceEqDiff, not_false_eq_true, h10], by simp only [Tr.get_set_self, Tr.get_set_ne, hd _, ne_eq, Nat.reduceEqDiff, not_false_eq_true, decide_true, Nat.reduceLT]; rfl, by simp only [Tr.get_set_self, Tr.get_set_ne, hd _, ne_eq, Nat.reduceEqDiff, not_false_eq_true, decide_true, Nat.reduceLT]; rfl⟩
  clear h0 h1 h7 h8 h10 hd
  intro kk t M'' ⟨m, hkk, hM, hd, h0, h1, h7, h8, h10, h11, h12⟩
  subst hM
  refine W_seq (W_seq (W_seqR (by simp only [runSeq_cons, runSeq_nil, evalArgs_nil, evalArgs_tmp, val1, putT, Tr.get_set_self, Tr.get_set_ne, hd _, ne_eq, Nat.reduceEqDiff, not_false_eq_true, decide_true, Nat.reduceLT, opI_move, opI_lss, h0, h12, lv]; rfl) ?_))
  refine W_cond (by simp only [PArg.eval, Tr.get_set_self, Tr.get_set_ne, hd _, ne_eq, Nat.reduceEqDiff, not_false_eq_true, decide_true, Nat.reduceLT]; rfl) (fun hb => W_skip ?_) (fun hb => ?_)
  rotate_left
  · refine W_exit ?_
    have hm : m = js.length := by simp at hb; omega
    subst hm
    have hKK : ((List.range js.length).any fun i => (jb js i).task == ts.getD q 0) = isK js (ts.getD q 0) := rfl
    rw [hKK] at h11
    show W _ _
    cases hkk' : isK js (ts.getD q 0) with
    | true =>
      rw [hkk'] at h11
      rw [hkk', if_pos rfl, Nat.add_zero] at hus
      refine W_seq (W_seqR (by simp only [runSeq_cons, runSeq_nil, evalArgs_nil, evalArgs_tmp, val1, putT, Tr.get_set_self, Tr.get_set_ne, hd _, ne_eq, Nat.reduceEqDiff, not_false_eq_true, decide_true, Nat.reduceLT, opI_move, opI_not, h11]; rfl) ?_)
      refine W_cond (b := false) (by simp only [PArg.eval, Tr.get_set_self, Tr.get_set_ne, hd _, ne_eq, Nat.reduceEqDiff, not_false_eq_true, decide_true, Nat.reduceLT]; try rfl) (fun hb => by cases hb) (fun _ => W_skip ?_)
      show W _ _
      refine W_seqR (by simp only [runSeq_cons, runSeq_nil, evalArgs_nil, evalArgs_tmp, evalArgs_const, val1, putT, Tr.get_set_self, Tr.get_set_ne, hd _, ne_eq, Nat.reduceEqDiff, not_false_eq_true, decide_true, Nat.reduceLT, opI_move, opI_add, h10, h10n]; rfl) ?_
      exact ⟨k - 1, by omega, q + 1, by omega, rfl, by ((repeat (with_reducible apply Dom.set)); exact hd), by simp only [Tr.get_set_ne, ne_eq, Nat.reduceEqDiff, not_false_eq_true, h0], by simp only [Tr.get_set_ne, ne_eq, Nat.reduceEqDiff, not_false_eq_true, h1], by simp only [Tr.get_set_ne, ne_eq, Nat.reduceEqDiff, not_false_eq_true, h7], by simp only [Tr.get_set_ne, ne_eq, Nat.reduceEqDiff, not_false_eq_true, h8]; rw [hus]; rfl, by simp only [Tr.get_set_self, Tr.get_set_ne, hd _, ne_eq, Nat.reduceEqDiff, not_false_eq_true, decide_true, Nat.reduceLT]⟩
    | false =>
      rw [hkk'] at h11
      rw [hkk', if_neg (by simp)] at hus
      have wS : wrapF .i64 (T.sum + (unkn js (ts.take q) : Nat) + 1) = T.sum + (unkn js (ts.take (q + 1)) : Nat) := by rw [hus, wrapF_small (by omega) (by omega)]; omega
      refine W_seq (W_seqR (by simp only [runSeq_cons, runSeq_nil, evalArgs_nil, evalArgs_tmp, val1, putT, Tr.get_set_self, Tr.get_set_ne, hd _, ne_eq, Nat.reduceEqDiff, not_false_eq_true, decide_true, Nat.reduceLT, opI_move, opI_not, h11]; rfl) ?_)
      refine W_cond (b := true) (by simp only [PArg.eval, Tr.get_set_self, Tr.get_set_ne, hd _, ne_eq, Nat.reduceEqDiff, not_false_eq_true, decide_true, Nat.reduceLT]; try rfl) (fun _ => ?_) (fun hb => by cases hb)
      refine W_seqR (by simp only [runSeq_cons, runSeq_nil, evalArgs_nil, evalArgs_tmp, evalArgs_const, val1, putT, Tr.get_set_self, Tr.get_set_ne, hd _, ne_eq, Nat.reduceEqDiff, not_false_eq_true, decide_true, Nat.reduceLT, opI_move, opI_add, h8, wS]; rfl) ?_
      show W _ _
      refine W_seqR (by simp only [runSeq_cons, runSeq_nil, evalArgs_nil, evalArgs_tmp, evalArgs_const, val1, putT, Tr.get_set_self, Tr.get_set_ne, hd _, ne_eq, Nat.reduceEqDiff, not_false_eq_true, decide_true, Nat.reduceLT, opI_move, opI_add, h10, h10n]; rfl) ?_
      exact ⟨k - 1, by omega, q + 1, by omega, rfl, by ((repeat (with_reducible apply Dom.set)); exact hd), by simp only [Tr.get_set_ne, ne_eq, Nat.reduceEqDiff, not_false_eq_true, h0], by simp only [Tr.get_set_ne, ne_eq, Nat.reduceEqDiff, not_false_eq_true, h1], by simp only [Tr.get_set_ne, ne_eq, Nat.reduceEqDiff, not_false_eq_true, h7], by simp only [Tr.get_set_self, Tr.get_set_ne, hd _, ne_eq, Nat.reduceEqDiff, not_false_eq_true, decide_true, Nat.reduceLT], by simp only [Tr.get_set_self, Tr.get_set_ne, hd _, ne_eq, Nat.reduceEqDiff, not_false_eq_true, decide_true, Nat.reduceLT]⟩
  have hml : m < js.length := by simpa using hb
  obtain ⟨pj, pp, p1, _, p2, _⟩ := hv.jin.at_ hml M'' s1.grow.g
  have has := any_succ (f := fun i => (jb js i).task == ts.getD q 0) (k := m)
  have h12n : wrapF .i64 ((m : Int) + 1) = ((m + 1 : Nat) : Int) := by rw [wrapF_small (by omega) (by omega)]; rfl
  show W _ _
  cases hany : (List.range m).any fun i => (jb js i).task == ts.getD q 0 with
  | true =>
    rw [hany] at h11 has
    rw [Bool.true_or] at has
    refine W_seq (W_block (W_quiet rfl (by simp only [runPure_cons, runPure_nil, ofD_cons, ofD_nil, sameN_self, evalArgs_nil, evalArgs_tmp, evalArgs_const, putT, Tr.get_set_self, Tr.get_set_ne, Tr.isSome_set, hd _, ne_eq, Nat.reduceEqDiff, not_false_eq_true, decide_true, Nat.reduceLT, opI_move, opI_pick, runPure_guard (b := true), Bool.true_beq, h11]; rfl) ?_))
    show W _ _
    refine W_seqR (by simp only [runSeq_cons, runSeq_nil, evalArgs_nil, evalArgs_tmp, evalArgs_const, val1, putT, Tr.get_set_self, Tr.get_set_ne, hd _, ne_eq, Nat.reduceEqDiff, not_false_eq_true, decide_true, Nat.reduceLT, opI_move, opI_add, h12, h12n]; rfl) ?_
    exact ⟨kk - 1, by omega, m + 1, by omega, rfl, by ((repeat (with_reducible apply Dom.set)); exact hd), by simp only [Tr.get_set_ne, ne_eq, Nat.reduceEqDiff, not_false_eq_true, h0], by simp only [Tr.get_set_ne, ne_eq, Nat.reduceEqDiff, not_false_eq_true, h1], by simp only [Tr.get_set_ne, ne_eq, Nat.reduceEqDiff, not_false_eq_true, h7], by simp only [Tr.get_set_ne, ne_eq, Nat.reduceEqDiff, not_false_eq_true, h8], by simp only [Tr.get_set_ne, ne_eq, Nat.reduceEqDiff, not_false_eq_true, h10], by simp only [Tr.get_set_self, Tr.get_set_ne, hd _, ne_eq, Nat.reduceEqDiff, not_false_eq_true, decide_true, Nat.reduceLT]; rw [has], by simp only [Tr.get_set_self, Tr.get_set_ne, hd _, ne_eq, Nat.reduceEqDiff, not_false_eq_true, decide_true, Nat.reduceLT]⟩
  | false =>
    rw [hany] at h11 has
    rw [Bool.false_or] at has
    refine W_seq (W_block (W_quiet rfl (by simp only [runPure_cons, runPure_nil, ofD_cons, ofD_nil, sameN_self, evalArgs_nil, evalArgs_tmp, evalArgs_const, putT, Tr.get_set_self, Tr.get_set_ne, Tr.isSome_set, hd _, ne_eq, Nat.reduceEqDiff, not_false_eq_true, decide_true, Nat.reduceLT, opI_move, opI_eql, opI_pick, Nat.add_zero, runPure_guard (b := false), beq_self_eq_true, h0, h1, h10, h11, h12, p1, opI_fieldQ pp, p2, q1, q2]; rfl) ?_))
    show W _ _
    refine W_seqR (by simp only [runSeq_cons, runSeq_nil, evalArgs_nil, evalArgs_tmp, evalArgs_const, val1, putT, Tr.get_set_self, Tr.get_set_ne, hd _, ne_eq, Nat.reduceEqDiff, not_false_eq_true, decide_true, Nat.reduceLT, opI_move, opI_add, h12, h12n]; rfl) ?_
    exact ⟨kk - 1, by omega, m + 1, by omega, rfl, by ((repeat (with_reducible apply Dom.set)); exact hd), by simp only [Tr.get_set_ne, ne_eq, Nat.reduceEqDiff, not_false_eq_true, h0], by simp only [Tr.get_set_ne, ne_eq, Nat.reduceEqDiff, not_false_eq_true, h1], by simp only [Tr.get_set_ne, ne_eq, Nat.reduceEqDiff, not_false_eq_true, h7], by simp only [Tr.get_set_ne, ne_eq, Nat.reduceEqDiff, not_false_eq_true, h8], by simp only [Tr.get_set_ne, ne_eq, Nat.reduceEqDiff, not_false_eq_true, h10], by simp only [Tr.get_set_self, Tr.get_set_ne, hd _, ne_eq, Nat.reduceEqDiff, not_false_eq_true, decide_true, Nat.reduceLT]; rw [has], by simp only [Tr.get_set_self, Tr.get_set_ne, hd _, ne_eq, Nat.reduceEqDiff, not_false_eq_true, decide_true, Nat.reduceLT]⟩
end Go.Proofs.Ytmaldkpkodcggaa.grf
