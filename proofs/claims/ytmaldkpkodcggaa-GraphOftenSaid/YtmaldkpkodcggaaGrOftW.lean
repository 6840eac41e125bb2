/- The walk of Often. -/
import Derived.Test.YtmaldkpkodcggaaGrOft
namespace Go.Proofs.Ytmaldkpkodcggaa.grf
open Go Go.Vx

theorem opI_min {x y : Int} {M : AMem} : opI (.minmax false) [.int .i64 x, .int .i64 y] M = some (.val (.int .i64 (min x y)) M) := by
  simp only [opI, Bool.false_eq_true, if_false]
  congr 3
  by_cases h : y < x
  · rw [if_pos h]; omega
  · rw [if_neg h]; omega
theorem make_rowF {M0 M : AMem} (h : Step M0 M) {n : Nat} (hn : n ≤ 100000) :
    ∃ M', opI (.makeSlice 1 8 [.int .i64 0]) [.int .i64 n, .int .i64 n] M = some (.val (.slice (some (M.n, 0)) n n false) M') ∧ Step M0 M' ∧ M'.n = M.n + 1 ∧ RowI M0 M' 1 M.n (.slice (some (M.n, 0)) n n false) ((List.replicate n 0).map eI) ∧ ∀ ids, Fr M M' ids := by
  obtain ⟨M', e, s, n1, r⟩ := make_row h hn
  refine ⟨M', e, s, n1, r, fun ids => ?_⟩
  have : M' = M.push (.cells ((List.range (((n : Nat) : Int).toNat * 1)).map fun i => [AV.int .i64 0].getD (i % 1) (.tuple [])) 1 true none) := by
    simp only [opI] at e
    rw [if_pos ⟨by omega, by omega, by omega, by omega⟩] at e
    simp only [Option.some.injEq, SR.val.injEq] at e
    exact e.2.symm
  rw [this]
  exact Fr.push h.ok.1 _
theorem row_get {M : AMem} {k : IntKind} {v : AV} {xs : List Int} (h : IRow M k v xs) {i : Nat} (hi : i < xs.length) : ∃ q, opI (.indexAddrS 1) [v, .int .i64 i] M = some (.val q M) ∧ opI (.load false 1) [q] M = some (.val (.int k (xs.getD i 0)) M) := by
  obtain ⟨q, qq, q1, q2⟩ := h.at_ hi
  refine ⟨padd q 0, q1, ?_⟩
  rw [q2, List.getD_eq_getElem?_getD, List.getElem?_eq_getElem hi]; rfl
/-- what Often answers -/
def OftR (js : List Jb) (ts : List Int) (r : AV) (M' : AMem) : Prop :=
  (r = .tuple [.slice none 0 0 false, .int .i64 13] ∧ (RightP js → ranksD js = none)) ∨
  (RightP js ∧ (ranksD js).isSome = true ∧ ∃ out T, Done js out ∧ out.length = js.length ∧ IsOft js ts T ∧
    ((r = .tuple [.slice none 0 0 false, .int .i64 14] ∧ ∃ i, i < js.length ∧ T.getD i 0 > 1099511627776) ∨ ∃ vr, r = .tuple [vr, .int .i64 0] ∧ IRow M' .i64 vr T ∧ ∀ i, i < js.length → T.getD i 0 ≤ 1099511627776))

set_option maxRecDepth 20000 in
set_option maxHeartbeats 8000000 in
theorem often_ok {v tv : AV} {js : List Jb} {ts : List Int} (d : Nat) (M0 : AMem) (hok : Okg M0) (hv : JobsOk M0.g v js) (ht : InRow M0.g .u64 tv ts) (hts : ts.length ≤ 1000) :
    Ans (callF tbl code 100000 (d + 5)) 7 [v, tv] M0 fun r M' => Step M0 M' ∧ OftR js ts r M' := by
  refine Ans_of (tbl_none (by decide) _) (show code 7 = some c7 from by kernel_rfl) (by simp) fun t hd ha => ?_
  have h0 := ha 0 _ rfl
  have h1 := ha 1 _ rfl
  clear ha
  obtain ⟨r, M1, c1, s1, hor⟩ := order_ok d M0 hok hv
  refine W_seq (W_seqR (by simp only [runSeq_cons, runSeq_nil, evalArgs_nil, evalArgs_const, val1, putT, opI_move]; rfl) ?_)
  rcases hor with ⟨hn, rfl⟩ | ⟨hR, vo, out, rfl, hrow, hD⟩
  · refine W_seq (W_seqR (by simp only [runSeq_cons, runSeq_nil, evalArgs_nil, evalArgs_tmp, val1, putT, Tr.get_set_self, Tr.get_set_ne, hd _, ne_eq, Nat.reduceEqDiff, not_false_eq_true, decide_true, Nat.reduceLT, opI_move, opI_extract, opI_callF, h0, c1, List.getElem?_cons_zero, List.getElem?_cons_succ]; rfl) ?_)
    refine W_seq (W_seq (W_seqR (by simp only [runSeq_cons, runSeq_nil, evalArgs_nil, evalArgs_tmp, val1, putT, Tr.get_set_self, Tr.get_set_ne, hd _, ne_eq, Nat.reduceEqDiff, not_false_eq_true, decide_true, Nat.reduceLT, opI_move, opI_not]; rfl) ?_))
    refine W_cond (b := true) (by simp only [PArg.eval, Tr.get_set_self, Tr.get_set_ne, hd _, ne_eq, Nat.reduceEqDiff, not_false_eq_true, decide_true, Nat.reduceLT]; try rfl) (fun _ => ?_) (fun hb => by cases hb)
    refine W_seq (W_seqR (by simp only [runSeq_cons, runSeq_nil, evalArgs_nil, evalArgs_const, val1, putT, opI_move]; rfl) (W_ret ?_))
    exact ⟨_, fin_tmp2 (by simp only [Tr.get_set_self, Tr.get_set_ne, Option.isSome_some, hd _, ne_eq, Nat.reduceEqDiff, not_false_eq_true, decide_true, Nat.reduceLT]; try rfl) (by simp only [Tr.get_set_self, Tr.get_set_ne, Tr.isSome_set, Option.isSome_some, hd _, ne_eq, Nat.reduceEqDiff, not_false_eq_true, decide_true, Nat.reduceLT]; try rfl), s1, .inl ⟨rfl, fun h => absurd h hn⟩⟩
  rcases ranksD_done hR hD with ⟨hl, he⟩ | ⟨hl, he⟩
  rotate_left
  · have eb : ((out.length : Int) == (js.length : Int)) = false := by rw [beq_eq_false_iff_ne]; omega
    rw [eb] at c1
    refine W_seq (W_seqR (by simp only [runSeq_cons, runSeq_nil, evalArgs_nil, evalArgs_tmp, val1, putT, Tr.get_set_self, Tr.get_set_ne, hd _, ne_eq, Nat.reduceEqDiff, not_false_eq_true, decide_true, Nat.reduceLT, opI_move, opI_extract, opI_callF, h0, c1, List.getElem?_cons_zero, List.getElem?_cons_succ]; rfl) ?_)
    refine W_seq (W_seq (W_seqR (by simp only [runSeq_cons, runSeq_nil, evalArgs_nil, evalArgs_tmp, val1, putT, Tr.get_set_self, Tr.get_set_ne, hd _, ne_eq, Nat.reduceEqDiff, not_false_eq_true, decide_true, Nat.reduceLT, opI_move, opI_not]; rfl) ?_))
    refine W_cond (b := true) (by simp only [PArg.eval, Tr.get_set_self, Tr.get_set_ne, hd _, ne_eq, Nat.reduceEqDiff, not_false_eq_true, decide_true, Nat.reduceLT]; try rfl) (fun _ => ?_) (fun hb => by cases hb)
    refine W_seq (W_seqR (by simp only [runSeq_cons, runSeq_nil, evalArgs_nil, evalArgs_const, val1, putT, opI_move]; rfl) (W_ret ?_))
    exact ⟨_, fin_tmp2 (by simp only [Tr.get_set_self, Tr.get_set_ne, Option.isSome_some, hd _, ne_eq, Nat.reduceEqDiff, not_false_eq_true, decide_true, Nat.reduceLT]; try rfl) (by simp only [Tr.get_set_self, Tr.get_set_ne, Tr.isSome_set, Option.isSome_some, hd _, ne_eq, Nat.reduceEqDiff, not_false_eq_true, decide_true, Nat.reduceLT]; try rfl), s1, .inl ⟨rfl, fun _ => he⟩⟩
  have eb : ((out.length : Int) == (js.length : Int)) = true := by rw [hl]; simp
  rw [eb] at c1
  refine W_seq (W_seqR (by simp only [runSeq_cons, runSeq_nil, evalArgs_nil, evalArgs_tmp, val1, putT, Tr.get_set_self, Tr.get_set_ne, hd _, ne_eq, Nat.reduceEqDiff, not_false_eq_true, decide_true, Nat.reduceLT, opI_move, opI_extract, opI_callF, h0, c1, List.getElem?_cons_zero, List.getElem?_cons_succ]; rfl) ?_)
  refine W_seq (W_seq (W_seqR (by simp only [runSeq_cons, runSeq_nil, evalArgs_nil, evalArgs_tmp, val1, putT, Tr.get_set_self, Tr.get_set_ne, hd _, ne_eq, Nat.reduceEqDiff, not_false_eq_true, decide_true, Nat.reduceLT, opI_move, opI_not]; rfl) ?_))
  refine W_cond (b := false) (by simp only [PArg.eval, Tr.get_set_self, Tr.get_set_ne, hd _, ne_eq, Nat.reduceEqDiff, not_false_eq_true, decide_true, Nat.reduceLT]; try rfl) (fun hb => by cases hb) (fun _ => W_skip ?_)
  show W _ _
  have g1 : M1.g = M0.g := s1.grow.g
  have hlen := hR.1
  have hIs := oft_is hR hD hl hts
  obtain ⟨m1, m2, m3⟩ := makeMap_own (Step.refl s1.ok)
  have m3' : (M1.push (.map (ents .i64 []))).get M1.n = some (.map (ents .u64 [])) := m3
  have lv1 := hv.jin.lenS (M1.push (.map (ents .i64 []))) g1
  refine W_seq (W_seqR (by simp only [runSeq_cons, runSeq_nil, evalArgs_nil, evalArgs_tmp, val1, putT, Tr.get_set_self, Tr.get_set_ne, hd _, ne_eq, Nat.reduceEqDiff, not_false_eq_true, decide_true, Nat.reduceLT, opI_move, m1]; rfl) ?_)
  refine W_seq (W_seq (W_seqR (by simp only [runSeq_cons, runSeq_nil, evalArgs_nil, evalArgs_tmp, evalArgs_const, val1, putT, Tr.get_set_self, Tr.get_set_ne, hd _, ne_eq, Nat.reduceEqDiff, not_false_eq_true, decide_true, Nat.reduceLT, opI_move, h0, lv1]; rfl) (W_block (W_loop (fun k t M' => ∃ (i : Nat) (es : List (Int × AV)), k + i = js.length ∧ Step M1 M' ∧ M'.get M1.n = some (.map (ents .u64 es)) ∧ (∀ y, (asg y es = none ∧ ∀ j, j < i → (jb js j).task ≠ y) ∨ ∃ j : Nat, j < i ∧ asg y es = some (.int .i64 j) ∧ (jb js j).task = y) ∧ Dom t 100 ∧ t.get 0 = some v ∧ t.get 1 = some tv ∧ t.get 6 = some vo ∧ t.get 8 = some (.map (some M1.n)) ∧ t.get 28 = some v ∧ t.get 29 = some (.int .i64 js.length) ∧ t.get 30 = some (.int .i64 i)) (k := js.length) (by omega) ?_ ?_))))
  · exact ⟨0, [], rfl, m2, m3', fun y => .inl ⟨rfl, fun j hj => by omega⟩, by ((repeat (with_reducible apply Dom.set)); exact hd), by simp only [Tr.get_set_ne, ne_eq, Nat.reduceEqDiff, not_false_eq_true, h0], by simp only [Tr.get_set_ne, ne_eq, Nat.reduceEqDiff, not_false_eq_true, h1], by simp only [Tr.get_set_self, Tr.get_set_ne, hd _, ne_eq, Nat.reduceEqDiff, not_false_eq_true, decide_true, Nat.reduceLT], by simp only [Tr.get_set_self, Tr.get_set_ne, hd _, ne_eq, Nat.reduceEqDiff, not_false_eq_true, decide_true, Nat.reduceLT], by simp only [Tr.get_set_self, Tr.get_set_ne, hd _, ne_eq, Nat.reduceEqDiff, not_false_eq_true, decide_true, Nat.reduceLT], by simp only [Tr.get_set_self, Tr.get_set_ne, hd _, ne_eq, Nat.reduceEqDiff, not_false_eq_true, decide_true, Nat.reduceLT], by simp only [Tr.get_set_self, Tr.get_set_ne, hd _, ne_eq, Nat.reduceEqDiff, not_false_eq_true, decide_true, Nat.reduceLT]; rfl⟩
  clear h0 h1 hd m1 m2 m3 m3' lv1 c1
  intro k t M ⟨i, es, hk, st, hm, hes, hd, h0, h1, h6, h8, h28, h29, h30⟩
  refine W_seq (W_seqR (by simp only [runSeq_cons, runSeq_nil, evalArgs_nil, evalArgs_tmp, val1, putT, opI_lss, h29, h30]; rfl) (W_seq ?_))
  refine W_cond (by simp only [PArg.eval, Tr.get_set_self, hd _, decide_true, Nat.reduceLT]; rfl) (fun hb => ?_) (fun hb => ?_)
  · have hin : i < js.length := by simpa using hb
    obtain ⟨p, pp, p1, p2, _, _⟩ := hv.jin.at_ hin M (st.grow.g.trans g1)
    have h1row := ((hv.jin.row hin) M (st.grow.g.trans g1)).one2
    have s2 := st.push (k := .cells [.int .u64 0, .slice none 0 0 false] 0 true none) (fun _ _ _ _ he => by cases he)
    have g2 := get_push_self (k := .cells [.int .u64 0, .slice none 0 0 false] 0 true none) st.ok.1
    obtain ⟨e3, s3, g3, k3⟩ := store_all (n := 2) (new := [.int .u64 (jb js i).task, (jb js i).kv]) s2 st.grow.n g2 rfl rfl (by simp [one_int, h1row.1])
    have hmlt := get_lt st.ok.1 hm
    have hm3 := (k3 M1.n (by omega)).trans ((get_push_old (k := .cells [.int .u64 0, .slice none 0 0 false] 0 true none) st.ok.1 hmlt).trans hm)
    refine W_skip (W_seq (W_block (W_seq (W_seqR (by simp only [runSeq_cons, runSeq_nil, evalArgs_nil, evalArgs_tmp, val1, putT, Tr.get_set_self, Tr.get_set_ne, hd _, ne_eq, Nat.reduceEqDiff, not_false_eq_true, decide_true, Nat.reduceLT, opI_move, opI_new, h28, h30, p1, p2, e3]; rfl) ?_))))
    clear p1 p2 e3 s2 g2 k3
    generalize (M.push (.cells [.int .u64 0, .slice none 0 0 false] 0 true none)).set M.n (.cells [.int .u64 (jb js i).task, (jb js i).kv] 0 true none) = MB at *
    have L0 := load_own (o := 0) g3 rfl
    obtain ⟨es', u1, u2, u3, u4, u5⟩ := update_own (x := (jb js i).task) (v := .int .i64 i) s3 (Nat.le_refl _) hm3
    show W _ _
    refine W_seqR (by simp only [runSeq_cons, runSeq_nil, evalArgs_nil, evalArgs_tmp, val1, putT, Tr.get_set_self, Tr.get_set_ne, hd _, ne_eq, Nat.reduceEqDiff, not_false_eq_true, decide_true, Nat.reduceLT, opI_move, opI_fieldP, Nat.add_zero, h8, L0, u1]; rfl) ?_
    show W _ _
    refine W_seqR (by simp only [runSeq_cons, runSeq_nil, evalArgs_nil, evalArgs_tmp, evalArgs_const, val1, putT, Tr.get_set_self, Tr.get_set_ne, hd _, ne_eq, Nat.reduceEqDiff, not_false_eq_true, decide_true, Nat.reduceLT, opI_move, opI_add, h30]; rfl) ?_
    refine ⟨k - 1, by omega, i + 1, es', by omega, u3, u4, fun y => ?_, by ((repeat (with_reducible apply Dom.set)); exact hd), by simp only [Tr.get_set_ne, ne_eq, Nat.reduceEqDiff, not_false_eq_true, h0], by simp only [Tr.get_set_ne, ne_eq, Nat.reduceEqDiff, not_false_eq_true, h1], by simp only [Tr.get_set_ne, ne_eq, Nat.reduceEqDiff, not_false_eq_true, h6], by simp only [Tr.get_set_ne, ne_eq, Nat.reduceEqDiff, not_false_eq_true, h8], by simp only [Tr.get_set_ne, ne_eq, Nat.reduceEqDiff, not_false_eq_true, h28], by simp only [Tr.get_set_ne, ne_eq, Nat.reduceEqDiff, not_false_eq_true, h29], ?_⟩
    · rw [u2 y]
      by_cases hy : y = (jb js i).task
      · right
        rw [if_pos hy]
        exact ⟨i, by omega, rfl, hy.symm⟩
      · rw [if_neg hy]
        rcases hes y with ⟨b1, b2⟩ | ⟨j, b1, b2, b3⟩
        · left
          refine ⟨b1, fun j hj => ?_⟩
          rcases Nat.lt_or_ge j i with h | h
          · exact b2 j h
          · rw [show j = i by omega]; exact fun h => hy h.symm
        · exact .inr ⟨j, by omega, b2, b3⟩
    · simp only [Tr.get_set_self, Tr.get_set_ne, hd _, ne_eq, Nat.reduceEqDiff, not_false_eq_true, decide_true, Nat.reduceLT]
      rw [wrapF_small (by omega) (by omega)]; rfl
  refine W_exit ?_
  have hi : i = js.length := by simp at hb; omega
  subst hi
  clear h28 h29 h30 hb hk
  show W _ _
  obtain ⟨M2, e2, s2, n2, r2, f2⟩ := make_rowF st (n := js.length) (by omega)
  have lv2 := hv.jin.lenS M (st.grow.g.trans g1)
  have hmlt := get_lt st.ok.1 hm
  refine W_seq (W_seqR (by simp only [runSeq_cons, runSeq_nil, evalArgs_nil, evalArgs_tmp, val1, putT, Tr.get_set_self, Tr.get_set_ne, hd _, ne_eq, Nat.reduceEqDiff, not_false_eq_true, decide_true, Nat.reduceLT, opI_move, h0, lv2, e2]; rfl) ?_)
  have hm2 := f2 (fun _ => False) M1.n _ hm (fun h => h)
  have hwm : M.n ≠ M1.n := by omega
  have hwb : M1.n ≤ M.n := st.grow.n
  have lt2 := (ht M2 (s2.grow.g.trans g1)).len
  generalize AV.slice (some (M.n, 0)) js.length js.length false = vr at *
  generalize M.n = wb at *
  clear e2 f2 lv2 hm hmlt n2
  refine W_seq (W_seq (W_seqR (by simp only [runSeq_cons, runSeq_nil, evalArgs_nil, evalArgs_tmp, evalArgs_const, val1, putT, Tr.get_set_self, Tr.get_set_ne, hd _, ne_eq, Nat.reduceEqDiff, not_false_eq_true, decide_true, Nat.reduceLT, opI_move, h1, lt2]; rfl) (W_block (W_loop (fun k t M' => ∃ (q : Nat) (w : List Int), k + q = ts.length ∧ Step M1 M' ∧ M'.get M1.n = some (.map (ents .u64 es)) ∧ RowI M1 M' 1 wb vr (w.map eI) ∧ w.length = js.length ∧ (∀ i, i < js.length → w.getD i 0 = ((ts.take q).count (jb js i).task : Nat)) ∧ Dom t 100 ∧ t.get 0 = some v ∧ t.get 6 = some vo ∧ t.get 8 = some (.map (some M1.n)) ∧ t.get 11 = some vr ∧ t.get 43 = some tv ∧ t.get 44 = some (.int .i64 ts.length) ∧ t.get 45 = some (.int .i64 q)) (k := ts.length) (by omega) ?_ ?_))))
  · refine ⟨0, _, rfl, s2, hm2, r2, by simp, fun i hi => ?_, by ((repeat (with_reducible apply Dom.set)); exact hd), by simp only [Tr.get_set_ne, ne_eq, Nat.reduceEqDiff, not_false_eq_true, h0], by simp only [Tr.get_set_ne, ne_eq, Nat.reduceEqDiff, not_false_eq_true, h6], by simp only [Tr.get_set_ne, ne_eq, Nat.reduceEqDiff, not_false_eq_true, h8], by simp only [Tr.get_set_self, Tr.get_set_ne, hd _, ne_eq, Nat.reduceEqDiff, not_false_eq_true, decide_true, Nat.reduceLT], by simp only [Tr.get_set_self, Tr.get_set_ne, hd _, ne_eq, Nat.reduceEqDiff, not_false_eq_true, decide_true, Nat.reduceLT], by simp only [Tr.get_set_self, Tr.get_set_ne, hd _, ne_eq, Nat.reduceEqDiff, not_false_eq_true, decide_true, Nat.reduceLT], by simp only [Tr.get_set_self, Tr.get_set_ne, hd _, ne_eq, Nat.reduceEqDiff, not_false_eq_true, decide_true, Nat.reduceLT]; rfl⟩
    rw [List.getD_eq_getElem?_getD, List.getElem?_replicate, if_pos hi]; simp
  clear h0 h1 h6 h8 hd s2 hm2 r2 lt2 st
  intro k t M ⟨q, w, hk, st, hm, rr, hwl, hw, hd, h0, h6, h8, h11, h43, h44, h45⟩
  refine W_seq (W_seqR (by simp only [runSeq_cons, runSeq_nil, evalArgs_nil, evalArgs_tmp, val1, putT, opI_lss, h44, h45]; rfl) (W_seq ?_))
  refine W_cond (by simp only [PArg.eval, Tr.get_set_self, hd _, decide_true, Nat.reduceLT]; rfl) (fun hb => ?_) (fun hb => ?_)
  · have hql : q < ts.length := by simpa using hb
    obtain ⟨qa, q1, q2⟩ := row_get (ht M (st.grow.g.trans g1)) hql
    have hlk := lookup_own (ok := true) (z := .int .i64 0) (x := ts.getD q 0) hm
    refine W_skip (W_seq (W_block (W_seq (W_seqR (by simp only [runSeq_cons, runSeq_nil, evalArgs_nil, evalArgs_tmp, val1, putT, Tr.get_set_self, Tr.get_set_ne, hd _, ne_eq, Nat.reduceEqDiff, not_false_eq_true, decide_true, Nat.reduceLT, opI_move, h43, h45, q1, q2]; rfl) ?_))))
    show W _ _
    have h45n : wrapF .i64 ((q : Int) + 1) = ((q + 1 : Nat) : Int) := by rw [wrapF_small (by omega) (by omega)]; rfl
    rcases hes (ts.getD q 0) with ⟨b1, b2⟩ | ⟨j, b1, b2, b3⟩
    · rw [b1] at hlk
      refine W_seq (W_seqR (by simp only [runSeq_cons, runSeq_nil, evalArgs_nil, evalArgs_tmp, val1, putT, Tr.get_set_self, Tr.get_set_ne, hd _, ne_eq, Nat.reduceEqDiff, not_false_eq_true, decide_true, Nat.reduceLT, opI_move, opI_extract, h8, hlk, resL, if_true, List.getElem?_cons_zero, List.getElem?_cons_succ]; rfl) ?_)
      refine W_seq (W_seqR (by simp only [runSeq_cons, runSeq_nil, evalArgs_nil, evalArgs_tmp, val1, putT, Tr.get_set_self, Tr.get_set_ne, hd _, ne_eq, Nat.reduceEqDiff, not_false_eq_true, decide_true, Nat.reduceLT, opI_move]; rfl) ?_)
      refine W_cond (b := false) (by simp only [PArg.eval, Tr.get_set_self, Tr.get_set_ne, hd _, ne_eq, Nat.reduceEqDiff, not_false_eq_true, decide_true, Nat.reduceLT]; try rfl) (fun hb => by cases hb) (fun _ => W_skip ?_)
      show W _ _
      refine W_seqR (by simp only [runSeq_cons, runSeq_nil, evalArgs_nil, evalArgs_tmp, evalArgs_const, val1, putT, Tr.get_set_self, Tr.get_set_ne, hd _, ne_eq, Nat.reduceEqDiff, not_false_eq_true, decide_true, Nat.reduceLT, opI_move, opI_add, h45, h45n]; rfl) ?_
      refine ⟨k - 1, by omega, q + 1, w, by omega, st, hm, rr, hwl, fun i hi => ?_, by ((repeat (with_reducible apply Dom.set)); exact hd), by simp only [Tr.get_set_ne, ne_eq, Nat.reduceEqDiff, not_false_eq_true, h0], by simp only [Tr.get_set_ne, ne_eq, Nat.reduceEqDiff, not_false_eq_true, h6], by simp only [Tr.get_set_ne, ne_eq, Nat.reduceEqDiff, not_false_eq_true, h8], by simp only [Tr.get_set_ne, ne_eq, Nat.reduceEqDiff, not_false_eq_true, h11], by simp only [Tr.get_set_ne, ne_eq, Nat.reduceEqDiff, not_false_eq_true, h43], by simp only [Tr.get_set_ne, ne_eq, Nat.reduceEqDiff, not_false_eq_true, h44], by simp only [Tr.get_set_self, Tr.get_set_ne, hd _, ne_eq, Nat.reduceEqDiff, not_false_eq_true, decide_true, Nat.reduceLT]⟩
      rw [hw i hi, count_take_succ hql, if_neg (fun h => b2 i hi h.symm)]; rfl
    · rw [b2] at hlk
      obtain ⟨a1, a2⟩ := row1_at rr st.ok.1 (i := j) (by omega)
      obtain ⟨M3, e3, s3, r3, f3, n3⟩ := row1_put st rr (i := j) (by omega) (w.getD j 0 + 1)
      have hwj := hw j b1
      have hc := List.count_le_length (a := (jb js j).task) (l := ts.take q)
      rw [List.length_take] at hc
      have wX : wrapF .i64 (w.getD j 0 + 1) = w.getD j 0 + 1 := wrapF_any (by omega) (by omega)
      refine W_seq (W_seqR (by simp only [runSeq_cons, runSeq_nil, evalArgs_nil, evalArgs_tmp, val1, putT, Tr.get_set_self, Tr.get_set_ne, hd _, ne_eq, Nat.reduceEqDiff, not_false_eq_true, decide_true, Nat.reduceLT, opI_move, opI_extract, h8, hlk, resL, if_true, List.getElem?_cons_zero, List.getElem?_cons_succ]; rfl) ?_)
      refine W_seq (W_seqR (by simp only [runSeq_cons, runSeq_nil, evalArgs_nil, evalArgs_tmp, val1, putT, Tr.get_set_self, Tr.get_set_ne, hd _, ne_eq, Nat.reduceEqDiff, not_false_eq_true, decide_true, Nat.reduceLT, opI_move]; rfl) ?_)
      refine W_cond (b := true) (by simp only [PArg.eval, Tr.get_set_self, Tr.get_set_ne, hd _, ne_eq, Nat.reduceEqDiff, not_false_eq_true, decide_true, Nat.reduceLT]; try rfl) (fun _ => ?_) (fun hb => by cases hb)
      refine W_seqR (by simp only [runSeq_cons, runSeq_nil, evalArgs_nil, evalArgs_tmp, evalArgs_const, val1, putT, Tr.get_set_self, Tr.get_set_ne, hd _, ne_eq, Nat.reduceEqDiff, not_false_eq_true, decide_true, Nat.reduceLT, opI_move, opI_add, h11, a1, a2, wX, e3]; rfl) ?_
      show W _ _
      refine W_seqR (by simp only [runSeq_cons, runSeq_nil, evalArgs_nil, evalArgs_tmp, evalArgs_const, val1, putT, Tr.get_set_self, Tr.get_set_ne, hd _, ne_eq, Nat.reduceEqDiff, not_false_eq_true, decide_true, Nat.reduceLT, opI_move, opI_add, h45, h45n]; rfl) ?_
      refine ⟨k - 1, by omega, q + 1, _, by omega, s3, f3 _ _ hm (fun h => hwm h.symm), r3, by rw [List.length_set]; exact hwl, fun i hi => ?_, by ((repeat (with_reducible apply Dom.set)); exact hd), by simp only [Tr.get_set_ne, ne_eq, Nat.reduceEqDiff, not_false_eq_true, h0], by simp only [Tr.get_set_ne, ne_eq, Nat.reduceEqDiff, not_false_eq_true, h6], by simp only [Tr.get_set_ne, ne_eq, Nat.reduceEqDiff, not_false_eq_true, h8], by simp only [Tr.get_set_ne, ne_eq, Nat.reduceEqDiff, not_false_eq_true, h11], by simp only [Tr.get_set_ne, ne_eq, Nat.reduceEqDiff, not_false_eq_true, h43], by simp only [Tr.get_set_ne, ne_eq, Nat.reduceEqDiff, not_false_eq_true, h44], by simp only [Tr.get_set_self, Tr.get_set_ne, hd _, ne_eq, Nat.reduceEqDiff, not_false_eq_true, decide_true, Nat.reduceLT]⟩
      rw [getD_set' (by omega), count_take_succ hql]
      by_cases hji : j = i
      · subst hji; rw [if_pos rfl, if_pos b3.symm, hwj]; rfl
      · rw [if_neg hji, if_neg, hw i hi]
        · rfl
        · intro h
          rw [← b3] at h
          rcases Nat.lt_or_gt_of_ne hji with hlt | hlt
          · exact (hR.2 i hi).1 j hlt h
          · exact (hR.2 j b1).1 i hlt h.symm
  refine W_exit ?_
  have hq : q = ts.length := by simp at hb; omega
  subst hq
  clear h43 h44 h45 h8 hb hk
  rw [List.take_of_length_le (Nat.le_refl _)] at hw
  have hwe : w = oftS js ts out 0 := by
    apply List.ext_getElem
    · rw [hwl, oftS_len]
    · intro i a1 a2
      have e1 := hw i (by omega)
      have e2 : (oftS js ts out 0).getD i 0 = own js ts i := owns_get (by omega)
      rw [List.getD_eq_getElem?_getD, List.getElem?_eq_getElem a1] at e1
      rw [List.getD_eq_getElem?_getD, List.getElem?_eq_getElem a2] at e2
      simp only [Option.getD_some] at e1 e2
      rw [e1, e2]; rfl
  subst hwe
  clear hw hwl
  show W _ _
  have lo := (hrow.grow st.grow).len
  refine W_seq (W_seq (W_seqR (by simp only [runSeq_cons, runSeq_nil, evalArgs_nil, evalArgs_tmp, evalArgs_const, val1, putT, Tr.get_set_self, Tr.get_set_ne, hd _, ne_eq, Nat.reduceEqDiff, not_false_eq_true, decide_true, Nat.reduceLT, opI_move, h6, lo]; rfl) (W_block (W_loop (fun k t M' => ∃ (p : Nat), k + p = out.length ∧ Step M1 M' ∧ RowI M1 M' 1 wb vr ((oftS js ts out p).map eI) ∧ (∀ m, m < p → (oftS js ts out out.length).getD (out.getD m 0).toNat 0 ≤ 1099511627776) ∧ Dom t 100 ∧ t.get 0 = some v ∧ t.get 11 = some vr ∧ t.get 63 = some vo ∧ t.get 64 = some (.int .i64 out.length) ∧ t.get 65 = some (.int .i64 p)) (k := out.length) (by omega) ?_ ?_))))
  · exact ⟨0, rfl, st, rr, fun m hm => by omega, by ((repeat (with_reducible apply Dom.set)); exact hd), by simp only [Tr.get_set_ne, ne_eq, Nat.reduceEqDiff, not_false_eq_true, h0], by simp only [Tr.get_set_ne, ne_eq, Nat.reduceEqDiff, not_false_eq_true, h11], by simp only [Tr.get_set_self, Tr.get_set_ne, hd _, ne_eq, Nat.reduceEqDiff, not_false_eq_true, decide_true, Nat.reduceLT], by simp only [Tr.get_set_self, Tr.get_set_ne, hd _, ne_eq, Nat.reduceEqDiff, not_false_eq_true, decide_true, Nat.reduceLT], by simp only [Tr.get_set_self, Tr.get_set_ne, hd _, ne_eq, Nat.reduceEqDiff, not_false_eq_true, decide_true, Nat.reduceLT]; rfl⟩
  clear h0 h6 h11 hd st rr lo hm hes M
  intro k t M ⟨p, hk, st, rr, hsm, hd, h0, h11, h63, h64, h65⟩
  refine W_seq (W_seqR (by simp only [runSeq_cons, runSeq_nil, evalArgs_nil, evalArgs_tmp, val1, putT, opI_lss, h64, h65]; rfl) (W_seq ?_))
  refine W_cond (by simp only [PArg.eval, Tr.get_set_self, hd _, decide_true, Nat.reduceLT]; rfl) (fun hb => ?_) (fun hb => ?_)
  rotate_left
  · refine W_exit ?_
    have hp : p = out.length := by simp at hb; omega
    subst hp
    show W _ _
    refine W_seq (W_seqR (by simp only [runSeq_cons, runSeq_nil, evalArgs_nil, evalArgs_tmp, evalArgs_const, val1, putT, Tr.get_set_self, Tr.get_set_ne, hd _, ne_eq, Nat.reduceEqDiff, not_false_eq_true, decide_true, Nat.reduceLT, opI_move, h11]; rfl) (W_ret ?_))
    refine ⟨_, fin_tmp2 (by simp only [Tr.get_set_self, Tr.get_set_ne, hd _, ne_eq, Nat.reduceEqDiff, not_false_eq_true, decide_true, Nat.reduceLT]; try rfl) (by simp only [Tr.get_set_self, Tr.get_set_ne, hd _, ne_eq, Nat.reduceEqDiff, not_false_eq_true, decide_true, Nat.reduceLT]; try rfl), s1.trans st, .inr ⟨hR, by rw [he]; rfl, out, _, hD, hl, hIs, .inr ⟨vr, rfl, rr.row st.ok.1, fun i hi => ?_⟩⟩⟩
    obtain ⟨m, hm, hme⟩ := all_out hD hl hi
    have := hsm m hm
    rwa [hme, Int.toNat_natCast] at this
  have hpl : p < out.length := by simpa using hb
  clear hb
  have hrg := hD.rng _ (getD_mem hpl)
  obtain ⟨i, hi⟩ : ∃ i : Nat, out.getD p 0 = i := ⟨(out.getD p 0).toNat, by omega⟩
  rw [hi] at hrg
  have hin : i < js.length := by omega
  have hstay := oftS_stay hR hD hl hts hpl (q := out.length) (by omega) (Nat.le_refl _)
  have hks := kids_ok hR hD hl hpl
  have hS : oftS js ts out (p + 1) = (jb js i).kids.foldl (satK i) (oftS js ts out p) := by
    conv => lhs; unfold oftS
    rw [hi, Int.toNat_natCast]
  have hbd := oftS_bd hR hD hl hts (p := p) (by omega)
  rw [hi, Int.toNat_natCast] at hstay hks
  have hwl : (oftS js ts out p).length = js.length := oftS_len
  obtain ⟨qa, q1, q2⟩ := row_get (hrow.grow st.grow) hpl
  rw [hi] at q2
  obtain ⟨a1, a2⟩ := row1_at rr st.ok.1 (i := i) (by omega)
  refine W_skip (W_seq (W_block (W_seq (W_seqR (by simp only [runSeq_cons, runSeq_nil, evalArgs_nil, evalArgs_tmp, val1, putT, Tr.get_set_self, Tr.get_set_ne, hd _, ne_eq, Nat.reduceEqDiff, not_false_eq_true, decide_true, Nat.reduceLT, opI_move, h63, h65, q1, q2]; rfl) ?_))))
  show W _ _
  by_cases hbig : (oftS js ts out p).getD i 0 > 1099511627776
  · have ebig : decide ((oftS js ts out p).getD i 0 > 1099511627776) = true := decide_eq_true hbig
    refine W_seq (W_seq (W_seqR (by simp only [runSeq_cons, runSeq_nil, evalArgs_nil, evalArgs_tmp, evalArgs_const, val1, putT, Tr.get_set_self, Tr.get_set_ne, hd _, ne_eq, Nat.reduceEqDiff, not_false_eq_true, decide_true, Nat.reduceLT, opI_move, opI_gtr, h11, a1, a2, ebig]; rfl) ?_))
    refine W_cond (b := true) (by simp only [PArg.eval, Tr.get_set_self, Tr.get_set_ne, hd _, ne_eq, Nat.reduceEqDiff, not_false_eq_true, decide_true, Nat.reduceLT]; try rfl) (fun _ => ?_) (fun hb => by cases hb)
    refine W_seq (W_seqR (by simp only [runSeq_cons, runSeq_nil, evalArgs_nil, evalArgs_const, val1, putT, opI_move]; rfl) (W_ret ?_))
    exact ⟨_, fin_tmp2 (by simp only [Tr.get_set_self, Tr.get_set_ne, hd _, ne_eq, Nat.reduceEqDiff, not_false_eq_true, decide_true, Nat.reduceLT]; try rfl) (by simp only [Tr.get_set_self, Tr.get_set_ne, hd _, ne_eq, Nat.reduceEqDiff, not_false_eq_true, decide_true, Nat.reduceLT]; try rfl), s1.trans st, .inr ⟨hR, by rw [he]; rfl, out, _, hD, hl, hIs, .inl ⟨rfl, i, hin, by rw [hstay]; exact hbig⟩⟩⟩
  have ebig : decide ((oftS js ts out p).getD i 0 > 1099511627776) = false := decide_eq_false hbig
  refine W_seq (W_seq (W_seqR (by simp only [runSeq_cons, runSeq_nil, evalArgs_nil, evalArgs_tmp, evalArgs_const, val1, putT, Tr.get_set_self, Tr.get_set_ne, hd _, ne_eq, Nat.reduceEqDiff, not_false_eq_true, decide_true, Nat.reduceLT, opI_move, opI_gtr, h11, a1, a2, ebig]; rfl) ?_))
  refine W_cond (b := false) (by simp only [PArg.eval, Tr.get_set_self, Tr.get_set_ne, hd _, ne_eq, Nat.reduceEqDiff, not_false_eq_true, decide_true, Nat.reduceLT]; try rfl) (fun hb => by cases hb) (fun _ => W_skip ?_)
  show W _ _
  obtain ⟨pj, pp, p1, _, _, p2⟩ := hv.jin.at_ hin M (st.grow.g.trans g1)
  have lk := hv.jin.kidLen hin M (st.grow.g.trans g1)
  have hkid := hv.kids i hin
  refine W_seq (W_seqR (by simp only [runSeq_cons, runSeq_nil, evalArgs_nil, evalArgs_tmp, evalArgs_const, val1, putT, Tr.get_set_self, Tr.get_set_ne, hd _, ne_eq, Nat.reduceEqDiff, not_false_eq_true, decide_true, Nat.reduceLT, opI_move, Nat.zero_add, h0, p1, opI_fieldQ pp, p2, lk]; rfl) ?_)
  refine W_block (W_loop (fun kk t M' => ∃ (q : Nat) (w : List Int), kk + q = (jb js i).kids.length ∧ w = ((jb js i).kids.take q).foldl (satK i) (oftS js ts out p) ∧ Step M1 M' ∧ RowI M1 M' 1 wb vr (w.map eI) ∧ (∀ m, 0 ≤ w.getD m 0 ∧ w.getD m 0 ≤ cap) ∧ Dom t 100 ∧ t.get 0 = some v ∧ t.get 11 = some vr ∧ t.get 17 = some (.int .i64 i) ∧ t.get 63 = some vo ∧ t.get 64 = some (.int .i64 out.length) ∧ t.get 65 = some (.int .i64 p) ∧ t.get 78 = some (jb js i).kv ∧ t.get 79 = some (.int .i64 (jb js i).kids.length) ∧ t.get 80 = some (.int .i64 q)) (k := (jb js i).kids.length) (by omega) ?_ ?_)
  · exact ⟨0, _, rfl, rfl, st, rr, hbd, by ((repeat (with_reducible apply Dom.set)); exact hd), by simp only [Tr.get_set_ne, ne_eq, Nat.reduceEqDiff, not_false_eq_true, h0], by simp only [Tr.get_set_ne, ne_eq, Nat.reduceEqDiff, not_false_eq_true, h11], by simp only [Tr.get_set_self, Tr.get_set_ne, hd _, ne_eq, Nat.reduceEqDiff, not_false_eq_true, decide_true, Nat.reduceLT], by simp only [Tr.get_set_ne, ne_eq, Nat.reduceEqDiff, not_false_eq_true, h63], by simp only [Tr.get_set_ne, ne_eq, Nat.reduceEqDiff, not_false_eq_true, h64], by simp only [Tr.get_set_ne, ne_eq, Nat.reduceEqDiff, not_false_eq_true, h65], by simp only [Tr.get_set_self, Tr.get_set_ne, hd _, ne_eq, Nat.reduceEqDiff, not_false_eq_true, decide_true, Nat.reduceLT], by simp only [Tr.get_set_self, Tr.get_set_ne, hd _, ne_eq, Nat.reduceEqDiff, not_false_eq_true, decide_true, Nat.reduceLT], by simp only [Tr.get_set_self, Tr.get_set_ne, hd _, ne_eq, Nat.reduceEqDiff, not_false_eq_true, decide_true, Nat.reduceLT]; rfl⟩
  clear h0 h11 h63 h64 h65 hd q1 q2 a1 a2 p1 p2 lk rr st
  intro kk t M' ⟨q, w, hkk, hwe, st, rr, hbw, hd, h0, h11, h17, h63, h64, h65, h78, h79, h80⟩
  have hwl' : w.length = js.length := by rw [hwe, sat_len, oftS_len]
  refine W_seq (W_seqR (by simp only [runSeq_cons, runSeq_nil, evalArgs_nil, evalArgs_tmp, val1, putT, opI_lss, h79, h80]; rfl) (W_seq ?_))
  refine W_cond (by simp only [PArg.eval, Tr.get_set_self, hd _, decide_true, Nat.reduceLT]; rfl) (fun hb => ?_) (fun hb => ?_)
  rotate_left
  · refine W_exit ?_
    have hqq : q = (jb js i).kids.length := by simp at hb; omega
    subst hqq
    rw [List.take_of_length_le (Nat.le_refl _), ← hS] at hwe
    subst hwe
    show W _ _
    refine W_seqR (by simp only [runSeq_cons, runSeq_nil, evalArgs_nil, evalArgs_tmp, evalArgs_const, val1, putT, Tr.get_set_self, Tr.get_set_ne, hd _, ne_eq, Nat.reduceEqDiff, not_false_eq_true, decide_true, Nat.reduceLT, opI_move, opI_add, h65]; rfl) ?_
    refine ⟨k - 1, by omega, p + 1, by omega, st, rr, fun m hm => ?_, by ((repeat (with_reducible apply Dom.set)); exact hd), by simp only [Tr.get_set_ne, ne_eq, Nat.reduceEqDiff, not_false_eq_true, h0], by simp only [Tr.get_set_ne, ne_eq, Nat.reduceEqDiff, not_false_eq_true, h11], by simp only [Tr.get_set_ne, ne_eq, Nat.reduceEqDiff, not_false_eq_true, h63], by simp only [Tr.get_set_ne, ne_eq, Nat.reduceEqDiff, not_false_eq_true, h64], ?_⟩
    · rcases Nat.lt_or_ge m p with h | h
      · exact hsm m h
      · rw [show m = p by omega, hi, Int.toNat_natCast, hstay]; omega
    · simp only [Tr.get_set_self, Tr.get_set_ne, hd _, ne_eq, Nat.reduceEqDiff, not_false_eq_true, decide_true, Nat.reduceLT]
      rw [wrapF_small (by omega) (by omega)]; rfl
  have hql : q < (jb js i).kids.length := by simpa using hb
  obtain ⟨r, rr', r1, r2⟩ := hv.jin.kidAt hin hql M' (st.grow.g.trans g1)
  have hkr := (hR.2 i hin).2 q hql
  obtain ⟨kd, hkd⟩ : ∃ kd : Nat, kid js i q = kd := ⟨(kid js i q).toNat, by omega⟩
  rw [hkd] at r2 hkr
  have hkq : (jb js i).kids[q] = (kd : Int) := by
    rw [← hkd]; unfold kid; rw [List.getD_eq_getElem?_getD, List.getElem?_eq_getElem hql]; rfl
  obtain ⟨a1, a2⟩ := row1_at rr st.ok.1 (i := i) (by omega)
  obtain ⟨b1, b2⟩ := row1_at rr st.ok.1 (i := kd) (by omega)
  have x1 := hbw i
  have x2 := hbw kd
  have hcap := cap_eq
  obtain ⟨M3, e3, s3, r3, f3, n3⟩ := row1_put st rr (i := kd) (by omega) (min (w.getD kd 0 + w.getD i 0) 1099511627777)
  have wX : wrapF .i64 (w.getD kd 0 + w.getD i 0) = w.getD kd 0 + w.getD i 0 := wrapF_any (by omega) (by omega)
  have hh := held_none st.ok.1
  refine W_skip (W_seq (W_block (W_seq (W_seqR (by simp only [runSeq_cons, runSeq_nil, evalArgs_nil, evalArgs_tmp, val1, putT, Tr.get_set_self, Tr.get_set_ne, hd _, ne_eq, Nat.reduceEqDiff, not_false_eq_true, decide_true, Nat.reduceLT, opI_move, h78, h80, r1, r2]; rfl) ?_))))
  show W _ _
  refine W_mix rfl (by simp only [sameN_self, evalArgs_nil, evalArgs_tmp, evalArgs_const, val1, putT, Tr.get_set_self, Tr.get_set_ne, hd _, ne_eq, Nat.reduceEqDiff, not_false_eq_true, decide_true, Nat.reduceLT, opI_move, opI_add, runMix_nil, runMix_read, runMix_eff, h11, h17, a1, a2, b1, b2, wX, opI_min, e3, hh]; rfl) ?_
  show W _ _
  refine W_seqR (by simp only [runSeq_cons, runSeq_nil, evalArgs_nil, evalArgs_tmp, evalArgs_const, val1, putT, Tr.get_set_self, Tr.get_set_ne, hd _, ne_eq, Nat.reduceEqDiff, not_false_eq_true, decide_true, Nat.reduceLT, opI_move, opI_add, h80]; rfl) ?_
  refine ⟨kk - 1, by omega, q + 1, _, by omega, ?_, s3, r3, fun m => ?_, by ((repeat (with_reducible apply Dom.set)); exact hd), by simp only [Tr.get_set_ne, ne_eq, Nat.reduceEqDiff, not_false_eq_true, h0], by simp only [Tr.get_set_ne, ne_eq, Nat.reduceEqDiff, not_false_eq_true, h11], by simp only [Tr.get_set_ne, ne_eq, Nat.reduceEqDiff, not_false_eq_true, h17], by simp only [Tr.get_set_ne, ne_eq, Nat.reduceEqDiff, not_false_eq_true, h63], by simp only [Tr.get_set_ne, ne_eq, Nat.reduceEqDiff, not_false_eq_true, h64], by simp only [Tr.get_set_ne, ne_eq, Nat.reduceEqDiff, not_false_eq_true, h65], by simp only [Tr.get_set_ne, ne_eq, Nat.reduceEqDiff, not_false_eq_true, h78], by simp only [Tr.get_set_ne, ne_eq, Nat.reduceEqDiff, not_false_eq_true, h79], ?_⟩
  · rw [take_foldl hql, ← hwe, hkq]
    unfold satK
    rw [Int.toNat_natCast, cap_eq]
  · rw [getD_set' (by omega)]
    have := hbw m
    split <;> omega
  · simp only [Tr.get_set_self, Tr.get_set_ne, hd _, ne_eq, Nat.reduceEqDiff, not_false_eq_true, decide_true, Nat.reduceLT]
    rw [wrapF_small (by omega) (by omega)]; rfl
end Go.Proofs.Ytmaldkpkodcggaa.grf
