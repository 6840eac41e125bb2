/- The walk of Work. -/
import Derived.Test.YtmaldkpkodcggaaGrOftW
namespace Go.Proofs.Ytmaldkpkodcggaa.grf
open Go Go.Vx

/-- is a task a job's? -/
def isK (js : List Jb) (y : Int) : Bool := (List.range js.length).any fun i => (jb js i).task == y
theorem isK_iff {js : List Jb} {y : Int} : isK js y = true ↔ ∃ j, j < js.length ∧ (jb js j).task = y := by
  unfold isK
  rw [List.any_eq_true]
  constructor
  · rintro ⟨i, hi, h⟩; exact ⟨i, List.mem_range.1 hi, by simpa using h⟩
  · rintro ⟨i, hi, h⟩; exact ⟨i, List.mem_range.2 hi, by simpa using h⟩
def unkn (js : List Jb) (ts : List Int) : Nat := ts.countP fun y => !isK js y
theorem unkn_succ {js : List Jb} {ts : List Int} {q : Nat} (hq : q < ts.length) : unkn js (ts.take (q + 1)) = unkn js (ts.take q) + if isK js (ts.getD q 0) then 0 else 1 := by
  unfold unkn
  rw [List.take_add_one, List.countP_append, List.getElem?_eq_getElem hq, Option.toList_some, List.countP_singleton, List.getD_eq_getElem?_getD, List.getElem?_eq_getElem hq, Option.getD_some]
  congr 1
  cases isK js ts[q] <;> simp
theorem unkn_le {js : List Jb} {ts : List Int} {q : Nat} (hq : q ≤ ts.length) : unkn js (ts.take q) ≤ q := by
  have := List.countP_le_length (p := fun y => !isK js y) (l := ts.take q)
  rw [List.length_take] at this
  unfold unkn
  omega
theorem sum_succ {m : List Int} {i : Nat} (hi : i < m.length) : (m.take (i + 1)).sum = (m.take i).sum + m.getD i 0 := by
  rw [List.take_add_one, List.sum_append, List.getD_eq_getElem?_getD, List.getElem?_eq_getElem hi]
  simp
theorem sum_bd {T : List Int} {B : Int} (h : ∀ i, 0 ≤ T.getD i 0 ∧ T.getD i 0 ≤ B) : ∀ {i : Nat}, i ≤ T.length → 0 ≤ (T.take i).sum ∧ (T.take i).sum ≤ i * B
  | 0, _ => by simp
  | i + 1, hi => by
    rw [sum_succ (by omega)]
    have h1 := sum_bd h (i := i) (by omega)
    have h2 := h i
    have : ((i + 1 : Nat) : Int) * B = i * B + B := by rw [Int.natCast_add, Int.add_mul]; simp
    omega
/-- all the work -/
def workS (js : List Jb) (ts T : List Int) : Int := T.sum + (unkn js ts : Nat)
def WorkR (js : List Jb) (ts : List Int) (r : AV) : Prop :=
  (r = .tuple [.int .i64 0, .int .i64 13] ∧ (RightP js → ranksD js = none)) ∨
  (RightP js ∧ (ranksD js).isSome = true ∧ ∃ out T, Done js out ∧ out.length = js.length ∧ IsOft js ts T ∧
    ((r = .tuple [.int .i64 0, .int .i64 14] ∧ ((∃ i, i < js.length ∧ T.getD i 0 > 1099511627776) ∨ workS js ts T > 1099511627776)) ∨ (r = .tuple [.int .i64 (workS js ts T), .int .i64 0] ∧ (∀ i, i < js.length → T.getD i 0 ≤ 1099511627776) ∧ workS js ts T ≤ 1099511627776)))

set_option maxRecDepth 20000 in
set_option maxHeartbeats 8000000 in
theorem work_ok {v tv : AV} {js : List Jb} {ts : List Int} (d : Nat) (M0 : AMem) (hok : Okg M0) (hv : JobsOk M0.g v js) (ht : InRow M0.g .u64 tv ts) (hts : ts.length ≤ 1000) :
    Ans (callF tbl code 100000 (d + 6)) 8 [v, tv] M0 fun r M' => Step M0 M' ∧ WorkR js ts r := by
  refine Ans_of (tbl_none (by decide) _) (show code 8 = some c8 from by kernel_rfl) (by simp) fun t hd ha => ?_
  have h0 := ha 0 _ rfl
  have h1 := ha 1 _ rfl
  clear ha
  obtain ⟨r, M1, c1, s1, hor⟩ := often_ok d M0 hok hv ht hts
  have z13 : ((13 : Int) != 0) = true := rfl
  have z14 : ((14 : Int) != 0) = true := rfl
  have z0 : ((0 : Int) != 0) = false := rfl
  refine W_seq (W_seqR (by simp only [runSeq_cons, runSeq_nil, evalArgs_nil, evalArgs_const, val1, putT, opI_move]; rfl) ?_)
  rcases hor with ⟨rfl, hn⟩ | ⟨hR, hsome, out, T, hD, hl, hIs, ⟨rfl, hbig⟩ | ⟨vr, rfl, hrow, hsm⟩⟩
  · refine W_seq (W_seqR (by simp only [runSeq_cons, runSeq_nil, evalArgs_nil, evalArgs_tmp, val1, putT, Tr.get_set_self, Tr.get_set_ne, hd _, ne_eq, Nat.reduceEqDiff, not_false_eq_true, decide_true, Nat.reduceLT, opI_move, opI_extract, opI_callF, h0, h1, c1, List.getElem?_cons_zero, List.getElem?_cons_succ]; rfl) ?_)
    refine W_seq (W_seq (W_seqR (by simp only [runSeq_cons, runSeq_nil, evalArgs_nil, evalArgs_tmp, evalArgs_const, val1, putT, Tr.get_set_self, Tr.get_set_ne, hd _, ne_eq, Nat.reduceEqDiff, not_false_eq_true, decide_true, Nat.reduceLT, opI_move, opI_neq, z13]; rfl) ?_))
    refine W_cond (b := true) (by simp only [PArg.eval, Tr.get_set_self, Tr.get_set_ne, hd _, ne_eq, Nat.reduceEqDiff, not_false_eq_true, decide_true, Nat.reduceLT]; try rfl) (fun _ => ?_) (fun hb => by cases hb)
    refine W_seq (W_seqR (by simp only [runSeq_cons, runSeq_nil, evalArgs_nil, evalArgs_tmp, evalArgs_const, val1, putT, Tr.get_set_self, Tr.get_set_ne, hd _, ne_eq, Nat.reduceEqDiff, not_false_eq_true, decide_true, Nat.reduceLT, opI_move]; rfl) (W_ret ?_))
    exact ⟨_, fin_tmp2 (by simp only [Tr.get_set_self, Tr.get_set_ne, Option.isSome_some, hd _, ne_eq, Nat.reduceEqDiff, not_false_eq_true, decide_true, Nat.reduceLT]; try rfl) (by simp only [Tr.get_set_self, Tr.get_set_ne, Tr.isSome_set, Option.isSome_some, hd _, ne_eq, Nat.reduceEqDiff, not_false_eq_true, decide_true, Nat.reduceLT]; try rfl), s1, .inl ⟨rfl, hn⟩⟩
  · refine W_seq (W_seqR (by simp only [runSeq_cons, runSeq_nil, evalArgs_nil, evalArgs_tmp, val1, putT, Tr.get_set_self, Tr.get_set_ne, hd _, ne_eq, Nat.reduceEqDiff, not_false_eq_true, decide_true, Nat.reduceLT, opI_move, opI_extract, opI_callF, h0, h1, c1, List.getElem?_cons_zero, List.getElem?_cons_succ]; rfl) ?_)
    refine W_seq (W_seq (W_seqR (by simp only [runSeq_cons, runSeq_nil, evalArgs_nil, evalArgs_tmp, evalArgs_const, val1, putT, Tr.get_set_self, Tr.get_set_ne, hd _, ne_eq, Nat.reduceEqDiff, not_false_eq_true, decide_true, Nat.reduceLT, opI_move, opI_neq, z14]; rfl) ?_))
    refine W_cond (b := true) (by simp only [PArg.eval, Tr.get_set_self, Tr.get_set_ne, hd _, ne_eq, Nat.reduceEqDiff, not_false_eq_true, decide_true, Nat.reduceLT]; try rfl) (fun _ => ?_) (fun hb => by cases hb)
    refine W_seq (W_seqR (by simp only [runSeq_cons, runSeq_nil, evalArgs_nil, evalArgs_tmp, evalArgs_const, val1, putT, Tr.get_set_self, Tr.get_set_ne, hd _, ne_eq, Nat.reduceEqDiff, not_false_eq_true, decide_true, Nat.reduceLT, opI_move]; rfl) (W_ret ?_))
    exact ⟨_, fin_tmp2 (by simp only [Tr.get_set_self, Tr.get_set_ne, Option.isSome_some, hd _, ne_eq, Nat.reduceEqDiff, not_false_eq_true, decide_true, Nat.reduceLT]; try rfl) (by simp only [Tr.get_set_self, Tr.get_set_ne, Tr.isSome_set, Option.isSome_some, hd _, ne_eq, Nat.reduceEqDiff, not_false_eq_true, decide_true, Nat.reduceLT]; try rfl), s1, .inr ⟨hR, hsome, out, T, hD, hl, hIs, .inl ⟨rfl, .inl hbig⟩⟩⟩
  refine W_seq (W_seqR (by simp only [runSeq_cons, runSeq_nil, evalArgs_nil, evalArgs_tmp, val1, putT, Tr.get_set_self, Tr.get_set_ne, hd _, ne_eq, Nat.reduceEqDiff, not_false_eq_true, decide_true, Nat.reduceLT, opI_move, opI_extract, opI_callF, h0, h1, c1, List.getElem?_cons_zero, List.getElem?_cons_succ]; rfl) ?_)
  refine W_seq (W_seq (W_seqR (by simp only [runSeq_cons, runSeq_nil, evalArgs_nil, evalArgs_tmp, evalArgs_const, val1, putT, Tr.get_set_self, Tr.get_set_ne, hd _, ne_eq, Nat.reduceEqDiff, not_false_eq_true, decide_true, Nat.reduceLT, opI_move, opI_neq, z0]; rfl) ?_))
  refine W_cond (b := false) (by simp only [PArg.eval, Tr.get_set_self, Tr.get_set_ne, hd _, ne_eq, Nat.reduceEqDiff, not_false_eq_true, decide_true, Nat.reduceLT]; try rfl) (fun hb => by cases hb) (fun _ => W_skip ?_)
  show W _ _
  have g1 : M1.g = M0.g := s1.grow.g
  have hlen := hR.1
  have hTl := hIs.len
  obtain ⟨m1, m2, m3⟩ := makeMap_own (Step.refl s1.ok)
  have m3' : (M1.push (.map (ents .i64 []))).get M1.n = some (.map (ents .u64 [])) := m3
  have lr := (hrow.grow m2.grow).len
  rw [hTl] at lr
  refine W_seq (W_seqR (by simp only [runSeq_cons, runSeq_nil, evalArgs_nil, evalArgs_tmp, val1, putT, Tr.get_set_self, Tr.get_set_ne, hd _, ne_eq, Nat.reduceEqDiff, not_false_eq_true, decide_true, Nat.reduceLT, opI_move, m1]; rfl) (W_seq (W_seqR (by simp only [runSeq_cons, runSeq_nil, evalArgs_nil, evalArgs_const, val1, putT, opI_move]; rfl) ?_)))
  refine W_seq (W_seq (W_seqR (by simp only [runSeq_cons, runSeq_nil, evalArgs_nil, evalArgs_tmp, evalArgs_const, val1, putT, Tr.get_set_self, Tr.get_set_ne, hd _, ne_eq, Nat.reduceEqDiff, not_false_eq_true, decide_true, Nat.reduceLT, opI_move, lr]; rfl) (W_block (W_loop (fun k t M' => ∃ (i : Nat) (es : List (Int × AV)), k + i = js.length ∧ Step M1 M' ∧ M'.get M1.n = some (.map (ents .u64 es)) ∧ (∀ y, (asg y es = none ∧ ∀ j, j < i → (jb js j).task ≠ y) ∨ (asg y es = some (.bool true) ∧ ∃ j, j < i ∧ (jb js j).task = y)) ∧ Dom t 57 ∧ t.get 0 = some v ∧ t.get 1 = some tv ∧ t.get 8 = some (.map (some M1.n)) ∧ t.get 9 = some (.int .i64 (T.take i).sum) ∧ t.get 24 = some vr ∧ t.get 25 = some (.int .i64 js.length) ∧ t.get 26 = some (.int .i64 i)) (k := js.length) (by omega) ?_ ?_))))
  · exact ⟨0, [], rfl, m2, m3', fun y => .inl ⟨rfl, fun j hj => by omega⟩, by ((repeat (with_reducible apply Dom.set)); exact hd), by simp only [Tr.get_set_ne, ne_eq, Nat.reduceEqDiff, not_false_eq_true, h0], by simp only [Tr.get_set_ne, ne_eq, Nat.reduceEqDiff, not_false_eq_true, h1], by simp only [Tr.get_set_self, Tr.get_set_ne, hd _, ne_eq, Nat.reduceEqDiff, not_false_eq_true, decide_true, Nat.reduceLT], by simp only [Tr.get_set_self, Tr.get_set_ne, hd _, ne_eq, Nat.reduceEqDiff, not_false_eq_true, decide_true, Nat.reduceLT]; rfl, by simp only [Tr.get_set_self, Tr.get_set_ne, hd _, ne_eq, Nat.reduceEqDiff, not_false_eq_true, decide_true, Nat.reduceLT], by simp only [Tr.get_set_self, Tr.get_set_ne, hd _, ne_eq, Nat.reduceEqDiff, not_false_eq_true, decide_true, Nat.reduceLT], by simp only [Tr.get_set_self, Tr.get_set_ne, hd _, ne_eq, Nat.reduceEqDiff, not_false_eq_true, decide_true, Nat.reduceLT]; rfl⟩
  clear h0 h1 hd m1 m2 m3 m3' lr c1
  intro k t M ⟨i, es, hk, st, hm, hes, hd, h0, h1, h8, h9, h24, h25, h26⟩
  refine W_seq (W_seqR (by simp only [runSeq_cons, runSeq_nil, evalArgs_nil, evalArgs_tmp, val1, putT, opI_lss, h25, h26]; rfl) (W_seq ?_))
  refine W_cond (by simp only [PArg.eval, Tr.get_set_self, hd _, decide_true, Nat.reduceLT]; rfl) (fun hb => ?_) (fun hb => ?_)
  · have hin : i < js.length := by simpa using hb
    obtain ⟨qa, q1, q2⟩ := row_get (hrow.grow st.grow) (i := i) (by omega)
    obtain ⟨p, pp, p1, _, p2, _⟩ := hv.jin.at_ hin M (st.grow.g.trans g1)
    obtain ⟨es', u1, u2, u3, u4, u5⟩ := update_own (x := (jb js i).task) (v := .bool true) st (Nat.le_refl _) hm
    have hsb := sum_bd hIs.bd (i := i) (by omega)
    have hib := hIs.bd i
    have hcap := cap_eq
    have hmul : (i : Int) * cap ≤ 200 * cap := Int.mul_le_mul_of_nonneg_right (by omega) (by omega)
    have wS : wrapF .i64 ((T.take i).sum + T.getD i 0) = (T.take (i + 1)).sum := by rw [sum_succ (by omega)]; exact wrapF_small (by omega) (by omega)
    refine W_skip (W_seq (W_block (W_seq (W_seqR (by simp only [runSeq_cons, runSeq_nil, evalArgs_nil, evalArgs_tmp, val1, putT, Tr.get_set_self, Tr.get_set_ne, hd _, ne_eq, Nat.reduceEqDiff, not_false_eq_true, decide_true, Nat.reduceLT, opI_move, h24, h26, q1, q2]; rfl) ?_))))
    show W _ _
    refine W_seq (W_seqR (by simp only [runSeq_cons, runSeq_nil, evalArgs_nil, evalArgs_tmp, evalArgs_const, val1, putT, Tr.get_set_self, Tr.get_set_ne, hd _, ne_eq, Nat.reduceEqDiff, not_false_eq_true, decide_true, Nat.reduceLT, opI_move, Nat.add_zero, h0, h8, p1, opI_fieldQ pp, p2, u1]; rfl) ?_)
    refine W_seqR (by simp only [runSeq_cons, runSeq_nil, evalArgs_nil, evalArgs_tmp, val1, putT, Tr.get_set_self, Tr.get_set_ne, hd _, ne_eq, Nat.reduceEqDiff, not_false_eq_true, decide_true, Nat.reduceLT, opI_move, opI_add, h9, wS]; rfl) ?_
    show W _ _
    refine W_seqR (by simp only [runSeq_cons, runSeq_nil, evalArgs_nil, evalArgs_tmp, evalArgs_const, val1, putT, Tr.get_set_self, Tr.get_set_ne, hd _, ne_eq, Nat.reduceEqDiff, not_false_eq_true, decide_true, Nat.reduceLT, opI_move, opI_add, h26]; rfl) ?_
    refine ⟨k - 1, by omega, i + 1, es', by omega, u3, u4, fun y => ?_, by ((repeat (with_reducible apply Dom.set)); exact hd), by simp only [Tr.get_set_ne, ne_eq, Nat.reduceEqDiff, not_false_eq_true, h0], by simp only [Tr.get_set_ne, ne_eq, Nat.reduceEqDiff, not_false_eq_true, h1], by simp only [Tr.get_set_ne, ne_eq, Nat.reduceEqDiff, not_false_eq_true, h8], by simp only [Tr.get_set_self, Tr.get_set_ne, hd _, ne_eq, Nat.reduceEqDiff, not_false_eq_true, decide_true, Nat.reduceLT], by simp only [Tr.get_set_ne, ne_eq, Nat.reduceEqDiff, not_false_eq_true, h24], by simp only [Tr.get_set_ne, ne_eq, Nat.reduceEqDiff, not_false_eq_true, h25], ?_⟩
    · rw [u2 y]
      by_cases hy : y = (jb js i).task
      · right
        rw [if_pos hy]
        exact ⟨rfl, i, by omega, hy.symm⟩
      · rw [if_neg hy]
        rcases hes y with ⟨b1, b2⟩ | ⟨b1, j, b2, b3⟩
        · left
          refine ⟨b1, fun j hj => ?_⟩
          rcases Nat.lt_or_ge j i with h | h
          · exact b2 j h
          · rw [show j = i by omega]; exact fun h => hy h.symm
        · exact .inr ⟨b1, j, by omega, b3⟩
    · simp only [Tr.get_set_self, Tr.get_set_ne, hd _, ne_eq, Nat.reduceEqDiff, not_false_eq_true, decide_true, Nat.reduceLT]
      rw [wrapF_small (by omega) (by omega)]; rfl
  refine W_exit ?_
  have hi : i = js.length := by simp at hb; omega
  subst hi
  rw [List.take_of_length_le (by omega)] at h9
  have hsb := sum_bd hIs.bd (i := js.length) (by omega)
  rw [List.take_of_length_le (by omega)] at hsb
  have hcap := cap_eq
  have hmul : (js.length : Int) * cap ≤ 200 * cap := Int.mul_le_mul_of_nonneg_right (by omega) (by omega)
  clear h24 h25 h26 hb hk
  have lt2 := (ht M (st.grow.g.trans g1)).len
  show W _ _
  refine W_seq (W_seq (W_seqR (by simp only [runSeq_cons, runSeq_nil, evalArgs_nil, evalArgs_tmp, evalArgs_const, val1, putT, Tr.get_set_self, Tr.get_set_ne, hd _, ne_eq, Nat.reduceEqDiff, not_false_eq_true, decide_true, Nat.reduceLT, opI_move, h1, lt2]; rfl) (W_block (W_loop (fun k t M' => ∃ (q : Nat), k + q = ts.length ∧ M' = M ∧ Dom t 57 ∧ t.get 8 = some (.map (some M1.n)) ∧ t.get 9 = some (.int .i64 (T.sum + (unkn js (ts.take q) : Nat))) ∧ t.get 41 = some tv ∧ t.get 42 = some (.int .i64 ts.length) ∧ t.get 43 = some (.int .i64 q)) (k := ts.length) (by omega) ?_ ?_))))
  · refine ⟨0, rfl, rfl, by ((repeat (with_reducible apply Dom.set)); exact hd), by simp only [Tr.get_set_ne, ne_eq, Nat.reduceEqDiff, not_false_eq_true, h8], ?_, by simp only [Tr.get_set_self, Tr.get_set_ne, hd _, ne_eq, Nat.reduceEqDiff, not_false_eq_true, decide_true, Nat.reduceLT], by simp only [Tr.get_set_self, Tr.get_set_ne, hd _, ne_eq, Nat.reduceEqDiff, not_false_eq_true, decide_true, Nat.reduceLT], by simp only [Tr.get_set_self, Tr.get_set_ne, hd _, ne_eq, Nat.reduceEqDiff, not_false_eq_true, decide_true, Nat.reduceLT]; rfl⟩
    simp only [Tr.get_set_ne, ne_eq, Nat.reduceEqDiff, not_false_eq_true, h9]
    rw [List.take_zero, show ((unkn js [] : Nat) : Int) = 0 from rfl, Int.add_zero]
  clear h0 h1 h8 h9 hd
  intro k t M' ⟨q, hk, hM, hd, h8, h9, h41, h42, h43⟩
  subst hM
  refine W_seq (W_seqR (by simp only [runSeq_cons, runSeq_nil, evalArgs_nil, evalArgs_tmp, val1, putT, opI_lss, h42, h43]; rfl) (W_seq ?_))
  refine W_cond (by simp only [PArg.eval, Tr.get_set_self, hd _, decide_true, Nat.reduceLT]; rfl) (fun hb => ?_) (fun hb => ?_)
  · have hql : q < ts.length := by simpa using hb
    obtain ⟨qa, q1, q2⟩ := row_get (ht M' (st.grow.g.trans g1)) hql
    have hlk := lookup_own (ok := false) (z := .bool false) (x := ts.getD q 0) hm
    have hus := unkn_succ (js := js) hql
    have hul := unkn_le (js := js) (ts := ts) (q := q) (by omega)
    have h43n : wrapF .i64 ((q : Int) + 1) = ((q + 1 : Nat) : Int) := by rw [wrapF_small (by omega) (by omega)]; rfl
    refine W_skip (W_seq (W_block (W_seq (W_seqR (by simp only [runSeq_cons, runSeq_nil, evalArgs_nil, evalArgs_tmp, val1, putT, Tr.get_set_self, Tr.get_set_ne, hd _, ne_eq, Nat.reduceEqDiff, not_false_eq_true, decide_true, Nat.reduceLT, opI_move, h41, h43, q1, q2]; rfl) ?_))))
    show W _ _
    rcases hes (ts.getD q 0) with ⟨b1, b2⟩ | ⟨b1, j, b2, b3⟩
    · rw [b1] at hlk
      have hk' : isK js (ts.getD q 0) = false := by
        cases hkk : isK js (ts.getD q 0) with
        | false => rfl
        | true =>
          obtain ⟨j, hj, hje⟩ := isK_iff.1 hkk
          exact absurd hje (b2 j hj)
      rw [hk', if_neg (by simp)] at hus
      have wS : wrapF .i64 (T.sum + (unkn js (ts.take q) : Nat) + 1) = T.sum + (unkn js (ts.take (q + 1)) : Nat) := by rw [hus, wrapF_small (by omega) (by omega)]; omega
      refine W_seq (W_seqR (by simp only [runSeq_cons, runSeq_nil, evalArgs_nil, evalArgs_tmp, val1, putT, Tr.get_set_self, Tr.get_set_ne, hd _, ne_eq, Nat.reduceEqDiff, not_false_eq_true, decide_true, Nat.reduceLT, opI_move, opI_not, h8, hlk, resL, Bool.false_eq_true, if_false]; rfl) ?_)
      refine W_cond (b := true) (by simp only [PArg.eval, Tr.get_set_self, Tr.get_set_ne, hd _, ne_eq, Nat.reduceEqDiff, not_false_eq_true, decide_true, Nat.reduceLT]; try rfl) (fun _ => ?_) (fun hb => by cases hb)
      refine W_seqR (by simp only [runSeq_cons, runSeq_nil, evalArgs_nil, evalArgs_tmp, evalArgs_const, val1, putT, Tr.get_set_self, Tr.get_set_ne, hd _, ne_eq, Nat.reduceEqDiff, not_false_eq_true, decide_true, Nat.reduceLT, opI_move, opI_add, h9, wS]; rfl) ?_
      show W _ _
      refine W_seqR (by simp only [runSeq_cons, runSeq_nil, evalArgs_nil, evalArgs_tmp, evalArgs_const, val1, putT, Tr.get_set_self, Tr.get_set_ne, hd _, ne_eq, Nat.reduceEqDiff, not_false_eq_true, decide_true, Nat.reduceLT, opI_move, opI_add, h43, h43n]; rfl) ?_
      exact ⟨k - 1, by omega, q + 1, by omega, rfl, by ((repeat (with_reducible apply Dom.set)); exact hd), by simp only [Tr.get_set_ne, ne_eq, Nat.reduceEqDiff, not_false_eq_true, h8], by simp only [Tr.get_set_self, Tr.get_set_ne, hd _, ne_eq, Nat.reduceEqDiff, not_false_eq_true, decide_true, Nat.reduceLT], by simp only [Tr.get_set_ne, ne_eq, Nat.reduceEqDiff, not_false_eq_true, h41], by simp only [Tr.get_set_ne, ne_eq, Nat.reduceEqDiff, not_false_eq_true, h42], by simp only [Tr.get_set_self, Tr.get_set_ne, hd _, ne_eq, Nat.reduceEqDiff, not_false_eq_true, decide_true, Nat.reduceLT]⟩
    · rw [b1] at hlk
      rw [isK_iff.2 ⟨j, b2, b3⟩, if_pos rfl, Nat.add_zero] at hus
      refine W_seq (W_seqR (by simp only [runSeq_cons, runSeq_nil, evalArgs_nil, evalArgs_tmp, val1, putT, Tr.get_set_self, Tr.get_set_ne, hd _, ne_eq, Nat.reduceEqDiff, not_false_eq_true, decide_true, Nat.reduceLT, opI_move, opI_not, h8, hlk, resL, Bool.false_eq_true, if_false]; rfl) ?_)
      refine W_cond (b := false) (by simp only [PArg.eval, Tr.get_set_self, Tr.get_set_ne, hd _, ne_eq, Nat.reduceEqDiff, not_false_eq_true, decide_true, Nat.reduceLT]; try rfl) (fun hb => by cases hb) (fun _ => W_skip ?_)
      show W _ _
      refine W_seqR (by simp only [runSeq_cons, runSeq_nil, evalArgs_nil, evalArgs_tmp, evalArgs_const, val1, putT, Tr.get_set_self, Tr.get_set_ne, hd _, ne_eq, Nat.reduceEqDiff, not_false_eq_true, decide_true, Nat.reduceLT, opI_move, opI_add, h43, h43n]; rfl) ?_
      exact ⟨k - 1, by omega, q + 1, by omega, rfl, by ((repeat (with_reducible apply Dom.set)); exact hd), by simp only [Tr.get_set_ne, ne_eq, Nat.reduceEqDiff, not_false_eq_true, h8], by simp only [Tr.get_set_ne, ne_eq, Nat.reduceEqDiff, not_false_eq_true, h9]; rw [hus]; rfl, by simp only [Tr.get_set_ne, ne_eq, Nat.reduceEqDiff, not_false_eq_true, h41], by simp only [Tr.get_set_ne, ne_eq, Nat.reduceEqDiff, not_false_eq_true, h42], by simp only [Tr.get_set_self, Tr.get_set_ne, hd _, ne_eq, Nat.reduceEqDiff, not_false_eq_true, decide_true, Nat.reduceLT]⟩
  refine W_exit ?_
  have hq : q = ts.length := by simp at hb; omega
  subst hq
  rw [List.take_of_length_le (Nat.le_refl _)] at h9
  have hwk : T.sum + ((unkn js ts : Nat) : Int) = workS js ts T := rfl
  rw [hwk] at h9
  show W _ _
  by_cases hbig : workS js ts T > 1099511627776
  · have eb : decide (workS js ts T > 1099511627776) = true := decide_eq_true hbig
    refine W_seq (W_seq (W_seqR (by simp only [runSeq_cons, runSeq_nil, evalArgs_nil, evalArgs_tmp, evalArgs_const, val1, putT, Tr.get_set_self, Tr.get_set_ne, hd _, ne_eq, Nat.reduceEqDiff, not_false_eq_true, decide_true, Nat.reduceLT, opI_move, opI_gtr, h9, eb]; rfl) ?_))
    refine W_cond (b := true) (by simp only [PArg.eval, Tr.get_set_self, Tr.get_set_ne, hd _, ne_eq, Nat.reduceEqDiff, not_false_eq_true, decide_true, Nat.reduceLT]; try rfl) (fun _ => ?_) (fun hb => by cases hb)
    refine W_seq (W_seqR (by simp only [runSeq_cons, runSeq_nil, evalArgs_nil, evalArgs_const, val1, putT, opI_move]; rfl) (W_ret ?_))
    exact ⟨_, fin_tmp2 (by simp only [Tr.get_set_self, Tr.get_set_ne, hd _, ne_eq, Nat.reduceEqDiff, not_false_eq_true, decide_true, Nat.reduceLT]; try rfl) (by simp only [Tr.get_set_self, Tr.get_set_ne, hd _, ne_eq, Nat.reduceEqDiff, not_false_eq_true, decide_true, Nat.reduceLT]; try rfl), s1.trans st, .inr ⟨hR, hsome, out, T, hD, hl, hIs, .inl ⟨rfl, .inr hbig⟩⟩⟩
  · have eb : decide (workS js ts T > 1099511627776) = false := decide_eq_false hbig
    refine W_seq (W_seq (W_seqR (by simp only [runSeq_cons, runSeq_nil, evalArgs_nil, evalArgs_tmp, evalArgs_const, val1, putT, Tr.get_set_self, Tr.get_set_ne, hd _, ne_eq, Nat.reduceEqDiff, not_false_eq_true, decide_true, Nat.reduceLT, opI_move, opI_gtr, h9, eb]; rfl) ?_))
    refine W_cond (b := false) (by simp only [PArg.eval, Tr.get_set_self, Tr.get_set_ne, hd _, ne_eq, Nat.reduceEqDiff, not_false_eq_true, decide_true, Nat.reduceLT]; try rfl) (fun hb => by cases hb) (fun _ => W_skip ?_)
    show W _ _
    refine W_seq (W_seqR (by simp only [runSeq_cons, runSeq_nil, evalArgs_nil, evalArgs_tmp, evalArgs_const, val1, putT, Tr.get_set_self, Tr.get_set_ne, hd _, ne_eq, Nat.reduceEqDiff, not_false_eq_true, decide_true, Nat.reduceLT, opI_move, h9]; rfl) (W_ret ?_))
    exact ⟨_, fin_tmp2 (by simp only [Tr.get_set_self, Tr.get_set_ne, hd _, ne_eq, Nat.reduceEqDiff, not_false_eq_true, decide_true, Nat.reduceLT]; try rfl) (by simp only [Tr.get_set_self, Tr.get_set_ne, hd _, ne_eq, Nat.reduceEqDiff, not_false_eq_true, decide_true, Nat.reduceLT]; try rfl), s1.trans st, .inr ⟨hR, hsome, out, T, hD, hl, hIs, .inr ⟨rfl, hsm, by omega⟩⟩⟩
end Go.Proofs.Ytmaldkpkodcggaa.grf
