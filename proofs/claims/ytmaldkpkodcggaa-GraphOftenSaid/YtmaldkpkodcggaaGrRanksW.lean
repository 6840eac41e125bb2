/- The walks of Ranks, of Even, and of the document's Ranks. -/
import Derived.Test.YtmaldkpkodcggaaGrRank
namespace Go.Proofs.Ytmaldkpkodcggaa.grf
open Go Go.Vx

/-- even: the rounds end -/
def ranksD (js : List Jb) : Option (List Int) := ranksP js (js.length + 1) (List.replicate js.length 0)
theorem ranksD_done {js : List Jb} {out : List Int} (hR : RightP js) (h : Done js out) : (out.length = js.length ∧ ranksD js = some (rankS js out js.length)) ∨ (out.length ≠ js.length ∧ ranksD js = none) := by
  by_cases hl : out.length = js.length
  · exact .inl ⟨hl, even_law hR h hl⟩
  · exact .inr ⟨hl, odd_law h hl⟩
theorem opI_max {x y : Int} {M : AMem} : opI (.minmax true) [.int .i64 x, .int .i64 y] M = some (.val (.int .i64 (max x y)) M) := by
  simp only [opI, if_true]
  congr 3
  by_cases h : y > x
  · rw [if_pos h]; omega
  · rw [if_neg h]; omega
def Bnd (B : Int) (xs : List Int) : Prop := ∀ m, 0 ≤ xs.getD m 0 ∧ xs.getD m 0 ≤ B
theorem Bnd.zeros {n : Nat} : Bnd 0 (List.replicate n 0) := fun m => by
  rw [List.getD_eq_getElem?_getD, List.getElem?_replicate]; split <;> simp
theorem Bnd.set {B : Int} {xs : List Int} (h : Bnd B xs) {i : Nat} {x : Int} (hi : i < xs.length) (hx : 0 ≤ x ∧ x ≤ B + 1) : Bnd (B + 1) (xs.set i x) := fun m => by
  rw [getD_set' hi]
  have := h m
  split <;> omega
theorem take_foldl {α β : Type} {f : β → α → β} {b : β} {l : List α} {q : Nat} (hq : q < l.length) : (l.take (q + 1)).foldl f b = f ((l.take q).foldl f b) l[q] := by
  rw [List.take_add_one, List.foldl_append, List.getElem?_eq_getElem hq]; rfl
theorem range_foldl {β : Type} {f : β → Nat → β} {b : β} {i : Nat} : (List.range (i + 1)).foldl f b = f ((List.range i).foldl f b) i := by
  rw [List.range_succ, List.foldl_append]; rfl

theorem even_ok {v : AV} {js : List Jb} (d : Nat) (M0 : AMem) (hok : Okg M0) (hv : JobsOk M0.g v js) :
    Ans (callF tbl code 100000 (d + 5)) 15 [v] M0 fun r M' => Step M0 M' ∧ ∃ b, r = .bool b ∧ (b = true ↔ RightP js ∧ (ranksD js).isSome = true) := by
  refine Ans_of (tbl_none (by decide) _) (show code 15 = some c15 from by kernel_rfl) (by simp) fun t hd ha => ?_
  have h0 := ha 0 _ rfl
  clear ha
  obtain ⟨r, M1, c1, s1, hor⟩ := order_ok d M0 hok hv
  refine W_seq (W_seqR (by simp only [runSeq_cons, runSeq_nil, evalArgs_nil, evalArgs_const, val1, putT, opI_move]; rfl) ?_)
  rcases hor with ⟨hn, rfl⟩ | ⟨hR, vo, out, rfl, _, hD⟩
  · refine W_seq (W_seqR (by simp only [runSeq_cons, runSeq_nil, evalArgs_nil, evalArgs_tmp, val1, putT, Tr.get_set_self, Tr.get_set_ne, hd _, ne_eq, Nat.reduceEqDiff, not_false_eq_true, decide_true, Nat.reduceLT, opI_move, opI_extract, opI_callF, h0, c1, List.getElem?_cons_zero, List.getElem?_cons_succ]; rfl) ?_)
    refine W_seq (W_seqR (by simp only [runSeq_cons, runSeq_nil, evalArgs_nil, evalArgs_tmp, val1, putT, Tr.get_set_self, Tr.get_set_ne, hd _, ne_eq, Nat.reduceEqDiff, not_false_eq_true, decide_true, Nat.reduceLT, opI_move]; rfl) (W_ret ?_))
    exact ⟨_, fin_tmp (by simp only [Tr.get_set_self, Tr.get_set_ne, Option.isSome_some, hd _, ne_eq, Nat.reduceEqDiff, not_false_eq_true, decide_true, Nat.reduceLT]; try rfl), s1, false, rfl, by simp, fun h => absurd h.1 hn⟩
  · refine W_seq (W_seqR (by simp only [runSeq_cons, runSeq_nil, evalArgs_nil, evalArgs_tmp, val1, putT, Tr.get_set_self, Tr.get_set_ne, hd _, ne_eq, Nat.reduceEqDiff, not_false_eq_true, decide_true, Nat.reduceLT, opI_move, opI_extract, opI_callF, h0, c1, List.getElem?_cons_zero, List.getElem?_cons_succ]; rfl) ?_)
    refine W_seq (W_seqR (by simp only [runSeq_cons, runSeq_nil, evalArgs_nil, evalArgs_tmp, val1, putT, Tr.get_set_self, Tr.get_set_ne, hd _, ne_eq, Nat.reduceEqDiff, not_false_eq_true, decide_true, Nat.reduceLT, opI_move]; rfl) (W_ret ?_))
    refine ⟨_, fin_tmp (by simp only [Tr.get_set_self, Tr.get_set_ne, Option.isSome_some, hd _, ne_eq, Nat.reduceEqDiff, not_false_eq_true, decide_true, Nat.reduceLT]; try rfl), s1, _, rfl, ?_⟩
    rcases ranksD_done hR hD with ⟨hl, he⟩ | ⟨hl, he⟩
    · have : ((out.length : Int) == (js.length : Int)) = true := by rw [hl]; simp
      rw [this, he]
      exact ⟨fun _ => ⟨hR, rfl⟩, fun _ => rfl⟩
    · have : ((out.length : Int) == (js.length : Int)) = false := by rw [beq_eq_false_iff_ne]; omega
      rw [this, he]
      exact ⟨fun h => (by cases h), fun h => (by have := h.2; cases this)⟩

set_option maxRecDepth 20000 in
set_option maxHeartbeats 4000000 in
theorem ranks_ok {v : AV} {js : List Jb} (d : Nat) (M0 : AMem) (hok : Okg M0) (hv : JobsOk M0.g v js) :
    Ans (callF tbl code 100000 (d + 5)) 12 [v] M0 fun r M' => Step M0 M' ∧ ((r = .tuple [.slice none 0 0 false, .int .i64 13] ∧ (RightP js → ranksD js = none)) ∨ (RightP js ∧ ∃ xs vr, ranksD js = some xs ∧ r = .tuple [vr, .int .i64 0] ∧ IRow M' .i64 vr xs)) := by
  refine Ans_of (tbl_none (by decide) _) (show code 12 = some c12 from by kernel_rfl) (by simp) fun t hd ha => ?_
  have h0 := ha 0 _ rfl
  clear ha
  obtain ⟨r, M1, c1, s1, hor⟩ := order_ok d M0 hok hv
  refine W_seq (W_seqR (by simp only [runSeq_cons, runSeq_nil, evalArgs_nil, evalArgs_const, val1, putT, opI_move]; rfl) ?_)
  rcases hor with ⟨hn, rfl⟩ | ⟨hR, vo, out, rfl, hrow, hD⟩
  · refine W_seq (W_seqR (by simp only [runSeq_cons, runSeq_nil, evalArgs_nil, evalArgs_tmp, val1, putT, Tr.get_set_self, Tr.get_set_ne, hd _, ne_eq, Nat.reduceEqDiff, not_false_eq_true, decide_true, Nat.reduceLT, opI_move, opI_extract, opI_callF, h0, c1, List.getElem?_cons_zero, List.getElem?_cons_succ]; rfl) ?_)
    refine W_seq (W_seq (W_seqR (by simp only [runSeq_cons, runSeq_nil, evalArgs_nil, evalArgs_tmp, val1, putT, Tr.get_set_self, Tr.get_set_ne, hd _, ne_eq, Nat.reduceEqDiff, not_false_eq_true, decide_true, Nat.reduceLT, opI_move, opI_not]; rfl) ?_))
    refine W_cond (b := true) (by simp only [PArg.eval, Tr.get_set_self, Tr.get_set_ne, hd _, ne_eq, Nat.reduceEqDiff, not_false_eq_true, decide_true, Nat.reduceLT]; try rfl) (fun _ => ?_) (fun hb => by cases hb)
    refine W_seq (W_seqR (by simp only [runSeq_cons, runSeq_nil, evalArgs_nil, evalArgs_const, val1, putT, opI_move]; rfl) (W_ret ?_))
    exact ⟨_, fin_tmp2 (by simp only [Tr.get_set_self, Tr.get_set_ne, Option.isSome_some, hd _, ne_eq, Nat.reduceEqDiff, not_false_eq_true, decide_true, Nat.reduceLT]; try rfl) (by simp only [Tr.get_set_self, Tr.get_set_ne, Tr.isSome_set, Option.isSome_some, hd _, ne_eq, Nat.reduceEqDiff, not_false_eq_true, decide_true, Nat.reduceLT]; try rfl), s1, .inl ⟨rfl, fun h => absurd h hn⟩⟩
  rcases ranksD_done hR hD with ⟨hl, he⟩ | ⟨hl, he⟩
  rotate_left
  · have eb : ((out.length : Int) == (js.length : Int)) = false := by rw [beq_eq_false_iff_ne]; omega
    rw [eb] at c1
    refine W_seq (W_seqR (by simp only [runSeq_cons, runSeq_nil, evalArgs_nil, evalArgs_tmp, val1, putT, Tr.get_set_self, Tr.get_set_ne, hd _, ne_eq, Nat.reduceEqDiff, not_false_eq_true, decide_true, Nat.reduceLT, opI_move, opI_extract, opI_callF, h0, c1, List.getElem?_cons_zero, List.getElem?_cons_succ]; rfl) ?_)
    refine W_seq (W_seq (W_seqR (by simp only [runSeq_cons, runSeq_nil, evalArgs_nil, evalArgs_tmp, val1, putT, Tr.get_set_self, Tr.get_set_ne, hd _, ne_eq, Nat.reduceEqDiff, not_false_eq_true, decide_true, Nat.reduceLT, opI_move, opI_not]; rfl) ?_))
    refine W_cond (b := true) (by simp only [PArg.eval, Tr.get_set_self, Tr.get_set_ne, hd _, ne_eq, Nat.reduceEqDiff, not_false_eq_true, decide_true, Nat.reduceLT]; try rfl) (fun _ => ?_) (fun hb => by cases hb)
    refine W_seq (W_seqR (by simp only [runSeq_cons, runSeq_nil, evalArgs_nil, evalArgs_const, val1, putT, opI_move]; rfl) (W_ret ?_))
    exact ⟨_, fin_tmp2 (by simp only [Tr.get_set_self, Tr.get_set_ne, Option.isSome_some, hd _, ne_eq, Nat.reduceEqDiff, not_false_eq_true, decide_true, Nat.reduceLT]; try rfl) (by simp only [Tr.get_set_self, Tr.get_set_ne, Tr.isSome_set, Option.isSome_some, hd _, ne_eq, Nat.reduceEqDiff, not_false_eq_true, decide_true, Nat.reduceLT]; try rfl), s1, .inl ⟨rfl, fun _ => he⟩⟩
  have eb : ((out.length : Int) == (js.length : Int)) = true := by rw [hl]; simp
  rw [eb] at c1
  refine W_seq (W_seqR (by simp only [runSeq_cons, runSeq_nil, evalArgs_nil, evalArgs_tmp, val1, putT, Tr.get_set_self, Tr.get_set_ne, hd _, ne_eq, Nat.reduceEqDiff, not_false_eq_true, decide_true, Nat.reduceLT, opI_move, opI_extract, opI_callF, h0, c1, List.getElem?_cons_zero, List.getElem?_cons_succ]; rfl) ?_)
  refine W_seq (W_seq (W_seqR (by simp only [runSeq_cons, runSeq_nil, evalArgs_nil, evalArgs_tmp, val1, putT, Tr.get_set_self, Tr.get_set_ne, hd _, ne_eq, Nat.reduceEqDiff, not_false_eq_true, decide_true, Nat.reduceLT, opI_move, opI_not]; rfl) ?_))
  refine W_cond (b := false) (by simp only [PArg.eval, Tr.get_set_self, Tr.get_set_ne, hd _, ne_eq, Nat.reduceEqDiff, not_false_eq_true, decide_true, Nat.reduceLT]; try rfl) (fun hb => by cases hb) (fun _ => W_skip ?_)
  show W _ _
  have g1 : M1.g = M0.g := s1.grow.g
  have hlen := hR.1
  have lv := hv.jin.lenS M1 g1
  obtain ⟨M2, e2, s2, n2, r2⟩ := make_row (Step.refl s1.ok) (n := js.length) (by omega)
  refine W_seq (W_seqR (by simp only [runSeq_cons, runSeq_nil, evalArgs_nil, evalArgs_tmp, val1, putT, Tr.get_set_self, Tr.get_set_ne, hd _, ne_eq, Nat.reduceEqDiff, not_false_eq_true, decide_true, Nat.reduceLT, opI_move, h0, lv, e2]; rfl) ?_)
  have lo := (hrow.grow s2.grow).len
  rw [hl] at lo
  have w0 : wrapF .i64 ((js.length : Int) - 1) = (js.length : Int) - 1 := wrapF_any (by omega) (by omega)
  generalize AV.slice (some (M1.n, 0)) js.length js.length false = vr at *
  generalize M1.n = wb at *
  refine W_seq (W_seq (W_seqR (by simp only [runSeq_cons, runSeq_nil, evalArgs_nil, evalArgs_tmp, evalArgs_const, val1, putT, Tr.get_set_self, Tr.get_set_ne, hd _, ne_eq, Nat.reduceEqDiff, not_false_eq_true, decide_true, Nat.reduceLT, opI_move, opI_sub, lo, w0]; rfl) (W_block (W_loop (fun k t M' => ∃ (j : Nat), k + j = js.length ∧ Step M1 M' ∧ RowI M1 M' 1 wb vr ((rankS js out j).map eI) ∧ Bnd (20 * j) (rankS js out j) ∧ Dom t 61 ∧ t.get 0 = some v ∧ t.get 4 = some vo ∧ t.get 6 = some vr ∧ t.get 7 = some (.int .i64 ((js.length : Int) - 1 - j))) (k := js.length) (by omega) ?_ ?_))))
  · refine ⟨0, rfl, s2, r2, Bnd.zeros, by ((repeat (with_reducible apply Dom.set)); exact hd), by simp only [Tr.get_set_ne, ne_eq, Nat.reduceEqDiff, not_false_eq_true, h0], by simp only [Tr.get_set_self, Tr.get_set_ne, hd _, ne_eq, Nat.reduceEqDiff, not_false_eq_true, decide_true, Nat.reduceLT], by simp only [Tr.get_set_self, Tr.get_set_ne, hd _, ne_eq, Nat.reduceEqDiff, not_false_eq_true, decide_true, Nat.reduceLT], ?_⟩
    simp only [Tr.get_set_self, Tr.get_set_ne, hd _, ne_eq, Nat.reduceEqDiff, not_false_eq_true, decide_true, Nat.reduceLT]
    rw [show ((0 : Nat) : Int) = 0 from rfl, Int.sub_zero]
  clear h0 hd e2 s2 r2 lv lo c1 n2 M2 w0
  intro k t M ⟨j, hk, s, rr, hbd, hd, h0, h4, h6, h7⟩
  refine W_seq (W_seq (W_seqR (by simp only [runSeq_cons, runSeq_nil, evalArgs_nil, evalArgs_tmp, evalArgs_const, val1, putT, Tr.get_set_self, hd _, decide_true, Nat.reduceLT, opI_move, opI_geq, h7]; rfl) ?_))
  refine W_cond (by simp only [PArg.eval, Tr.get_set_self, Tr.get_set_ne, hd _, ne_eq, Nat.reduceEqDiff, not_false_eq_true, decide_true, Nat.reduceLT]; rfl) (fun hb => W_skip ?_) (fun hb => ?_)
  rotate_left
  · refine W_exit ?_
    have hj : j = js.length := by
      have : ¬ ((js.length : Int) - 1 - j ≥ 0) := by simpa using hb
      omega
    subst hj
    show W _ _
    refine W_seq (W_seqR (by simp only [runSeq_cons, runSeq_nil, evalArgs_nil, evalArgs_tmp, evalArgs_const, val1, putT, Tr.get_set_self, Tr.get_set_ne, hd _, ne_eq, Nat.reduceEqDiff, not_false_eq_true, decide_true, Nat.reduceLT, opI_move, h6]; rfl) (W_ret ?_))
    exact ⟨_, fin_tmp2 (by simp only [Tr.get_set_self, Tr.get_set_ne, hd _, ne_eq, Nat.reduceEqDiff, not_false_eq_true, decide_true, Nat.reduceLT]; try rfl) (by simp only [Tr.get_set_self, Tr.get_set_ne, hd _, ne_eq, Nat.reduceEqDiff, not_false_eq_true, decide_true, Nat.reduceLT]; try rfl), s1.trans s, .inr ⟨hR, _, vr, he, rfl, rr.row s.ok.1⟩⟩
  have hjl : j < js.length := by
    have : ((js.length : Int) - 1 - j ≥ 0) := by simpa using hb
    omega
  clear hb
  obtain ⟨p, hp⟩ : ∃ p : Nat, p = js.length - 1 - j := ⟨_, rfl⟩
  have h7' : (js.length : Int) - 1 - j = (p : Int) := by omega
  rw [h7'] at h7
  have hpl : p < out.length := by omega
  have hrg := hD.rng _ (getD_mem hpl)
  obtain ⟨i, hi⟩ : ∃ i : Nat, out.getD p 0 = i := ⟨(out.getD p 0).toNat, by omega⟩
  rw [hi] at hrg
  have hin : i < js.length := by omega
  have oat : ∀ M', Grow M1 M' → ∃ q, opI (.indexAddrS 1) [vo, .int .i64 p] M' = some (.val q M') ∧ opI (.load false 1) [q] M' = some (.val (.int .i64 i) M') := fun M' hg => by
    obtain ⟨q, qq, q1, q2⟩ := (hrow.grow hg).at_ hpl
    refine ⟨padd q 0, q1, ?_⟩
    rw [q2, ← hi, List.getD_eq_getElem?_getD, List.getElem?_eq_getElem hpl]; rfl
  have hS : rankS js out (j + 1) = (jb js i).kids.foldl (relax i) (rankS js out j) := by
    conv => lhs; unfold rankS
    rw [hl, ← hp, hi, Int.toNat_natCast]
  obtain ⟨qo, q1, q2⟩ := oat M s.grow
  obtain ⟨pj, pp, p1, _, _, p2⟩ := hv.jin.at_ hin M (s.grow.g.trans g1)
  have lk := hv.jin.kidLen hin M (s.grow.g.trans g1)
  have hkid := hv.kids i hin
  have hrl : (rankS js out j).length = js.length := rankS_len
  show W _ _
  refine W_seq (W_block (W_seq (W_seqR (by simp only [runSeq_cons, runSeq_nil, evalArgs_nil, evalArgs_tmp, evalArgs_const, val1, putT, Tr.get_set_self, Tr.get_set_ne, hd _, ne_eq, Nat.reduceEqDiff, not_false_eq_true, decide_true, Nat.reduceLT, opI_move, Nat.zero_add, h0, h4, h7, q1, q2, p1, opI_fieldQ pp, p2, lk]; rfl) ?_)))
  refine W_block (W_loop (fun kk t M' => ∃ (q : Nat) (xs : List Int), kk + q = (jb js i).kids.length ∧ xs = ((jb js i).kids.take q).foldl (relax i) (rankS js out j) ∧ Step M1 M' ∧ RowI M1 M' 1 wb vr (xs.map eI) ∧ Bnd (20 * j + q) xs ∧ Dom t 61 ∧ t.get 0 = some v ∧ t.get 4 = some vo ∧ t.get 6 = some vr ∧ t.get 7 = some (.int .i64 p) ∧ t.get 34 = some (jb js i).kv ∧ t.get 35 = some (.int .i64 (jb js i).kids.length) ∧ t.get 36 = some (.int .i64 q)) (k := (jb js i).kids.length) (by omega) ?_ ?_)
  · exact ⟨0, _, rfl, rfl, s, rr, by simpa using hbd, by ((repeat (with_reducible apply Dom.set)); exact hd), by simp only [Tr.get_set_ne, ne_eq, Nat.reduceEqDiff, not_false_eq_true, h0], by simp only [Tr.get_set_ne, ne_eq, Nat.reduceEqDiff, not_false_eq_true, h4], by simp only [Tr.get_set_ne, ne_eq, Nat.reduceEqDiff, not_false_eq_true, h6], by simp only [Tr.get_set_ne, ne_eq, Nat.reduceEqDiff, not_false_eq_true, h7], by simp only [Tr.get_set_self, Tr.get_set_ne, hd _, ne_eq, Nat.reduceEqDiff, not_false_eq_true, decide_true, Nat.reduceLT], by simp only [Tr.get_set_self, Tr.get_set_ne, hd _, ne_eq, Nat.reduceEqDiff, not_false_eq_true, decide_true, Nat.reduceLT], by simp only [Tr.get_set_self, Tr.get_set_ne, hd _, ne_eq, Nat.reduceEqDiff, not_false_eq_true, decide_true, Nat.reduceLT]; rfl⟩
  clear h0 h4 h6 h7 hd q1 q2 p1 p2 lk rr s hbd
  intro kk t M ⟨q, xs, hkk, hxs, s, rr, hbd, hd, h0, h4, h6, h7, h34, h35, h36⟩
  have hxl : xs.length = js.length := by rw [hxs, relax_len, rankS_len]
  refine W_seq (W_seqR (by simp only [runSeq_cons, runSeq_nil, evalArgs_nil, evalArgs_tmp, val1, putT, opI_lss, h35, h36]; rfl) (W_seq ?_))
  refine W_cond (by simp only [PArg.eval, Tr.get_set_self, hd _, decide_true, Nat.reduceLT]; rfl) (fun hb => ?_) (fun hb => ?_)
  rotate_left
  · refine W_exit ?_
    have hqq : q = (jb js i).kids.length := by simp at hb; omega
    subst hqq
    rw [List.take_of_length_le (Nat.le_refl _), ← hS] at hxs
    subst hxs
    have w0 : wrapF .i64 ((p : Int) - 1) = (js.length : Int) - 1 - (j + 1 : Nat) := by rw [wrapF_any (by omega) (by omega)]; omega
    show W _ _
    refine W_seqR (by simp only [runSeq_cons, runSeq_nil, evalArgs_nil, evalArgs_tmp, evalArgs_const, val1, putT, Tr.get_set_self, Tr.get_set_ne, hd _, ne_eq, Nat.reduceEqDiff, not_false_eq_true, decide_true, Nat.reduceLT, opI_move, opI_sub, h7, w0]; rfl) ?_
    exact ⟨k - 1, by omega, j + 1, by omega, s, rr, fun m => by have := hbd m; omega, by ((repeat (with_reducible apply Dom.set)); exact hd), by simp only [Tr.get_set_ne, ne_eq, Nat.reduceEqDiff, not_false_eq_true, h0], by simp only [Tr.get_set_ne, ne_eq, Nat.reduceEqDiff, not_false_eq_true, h4], by simp only [Tr.get_set_ne, ne_eq, Nat.reduceEqDiff, not_false_eq_true, h6], by simp only [Tr.get_set_self, Tr.get_set_ne, hd _, ne_eq, Nat.reduceEqDiff, not_false_eq_true, decide_true, Nat.reduceLT]⟩
  have hql : q < (jb js i).kids.length := by simpa using hb
  obtain ⟨r, rr', r1, r2⟩ := hv.jin.kidAt hin hql M (s.grow.g.trans g1)
  have hkr := (hR.2 i hin).2 q hql
  obtain ⟨kd, hkd⟩ : ∃ kd : Nat, kid js i q = kd := ⟨(kid js i q).toNat, by omega⟩
  rw [hkd] at r2 hkr
  have hkq : (jb js i).kids[q] = (kd : Int) := by
    rw [← hkd]; unfold kid; rw [List.getD_eq_getElem?_getD, List.getElem?_eq_getElem hql]; rfl
  obtain ⟨qo, q1, q2⟩ := oat M s.grow
  obtain ⟨a1, a2⟩ := row1_at rr s.ok.1 (i := i) (by omega)
  obtain ⟨b1, b2⟩ := row1_at rr s.ok.1 (i := kd) (by omega)
  obtain ⟨M3, e3, s3, r3, f3, n3⟩ := row1_put s rr (i := i) (by omega) (max (xs.getD i 0) (xs.getD kd 0 + 1))
  have d1 := hbd i
  have d2 := hbd kd
  have wX : wrapF .i64 (xs.getD kd 0 + 1) = xs.getD kd 0 + 1 := wrapF_any (by omega) (by omega)
  have hh := held_none s.ok.1
  refine W_skip (W_seq (W_block (W_seq (W_seqR (by simp only [runSeq_cons, runSeq_nil, evalArgs_nil, evalArgs_tmp, val1, putT, Tr.get_set_self, Tr.get_set_ne, hd _, ne_eq, Nat.reduceEqDiff, not_false_eq_true, decide_true, Nat.reduceLT, opI_move, h34, h36, r1, r2]; rfl) ?_))))
  show W _ _
  refine W_mix rfl (by simp only [sameN_self, evalArgs_nil, evalArgs_tmp, evalArgs_const, val1, putT, Tr.get_set_self, Tr.get_set_ne, hd _, ne_eq, Nat.reduceEqDiff, not_false_eq_true, decide_true, Nat.reduceLT, opI_move, opI_add, runMix_nil, runMix_read, runMix_eff, h4, h6, h7, q1, q2, a1, a2, b1, b2, wX, opI_max, e3, hh]; rfl) ?_
  show W _ _
  refine W_seqR (by simp only [runSeq_cons, runSeq_nil, evalArgs_nil, evalArgs_tmp, evalArgs_const, val1, putT, Tr.get_set_self, Tr.get_set_ne, hd _, ne_eq, Nat.reduceEqDiff, not_false_eq_true, decide_true, Nat.reduceLT, opI_move, opI_add, h36]; rfl) ?_
  refine ⟨kk - 1, by omega, q + 1, _, by omega, ?_, s3, r3, ?_, by ((repeat (with_reducible apply Dom.set)); exact hd), by simp only [Tr.get_set_ne, ne_eq, Nat.reduceEqDiff, not_false_eq_true, h0], by simp only [Tr.get_set_ne, ne_eq, Nat.reduceEqDiff, not_false_eq_true, h4], by simp only [Tr.get_set_ne, ne_eq, Nat.reduceEqDiff, not_false_eq_true, h6], by simp only [Tr.get_set_ne, ne_eq, Nat.reduceEqDiff, not_false_eq_true, h7], by simp only [Tr.get_set_ne, ne_eq, Nat.reduceEqDiff, not_false_eq_true, h34], by simp only [Tr.get_set_ne, ne_eq, Nat.reduceEqDiff, not_false_eq_true, h35], ?_⟩
  · rw [take_foldl hql, ← hxs, hkq]
    unfold relax
    rw [Int.toNat_natCast]
  · have := Bnd.set (x := max (xs.getD i 0) (xs.getD kd 0 + 1)) hbd (i := i) (by omega) (by omega)
    exact fun m => by have := this m; omega
  · simp only [Tr.get_set_self, Tr.get_set_ne, hd _, ne_eq, Nat.reduceEqDiff, not_false_eq_true, decide_true, Nat.reduceLT]
    rw [wrapF_small (by omega) (by omega)]; rfl

set_option maxRecDepth 20000 in
set_option maxHeartbeats 8000000 in
theorem refranks_ok {v : AV} {js : List Jb} (d : Nat) (M0 : AMem) (hok : Okg M0) (hv : JobsOk M0.g v js) :
    Ans (callF tbl code 100000 (d + 2)) 9 [v] M0 fun r M' => Step M0 M' ∧ ((r = .tuple [.slice none 0 0 false, .bool false] ∧ (RightP js → ranksD js = none)) ∨ (RightP js ∧ ∃ xs vr, ranksD js = some xs ∧ r = .tuple [vr, .bool true] ∧ IRow M' .i64 vr xs)) := by
  refine Ans_of (tbl_none (by decide) _) (show code 9 = some c9 from by kernel_rfl) (by simp) fun t hd ha => ?_
  have h0 := ha 0 _ rfl
  clear ha
  obtain ⟨_, _, c1, rfl, b, rfl, hb⟩ := refright_ok d M0 hv
  rename_i M0
  refine W_seq (W_seqR (by simp only [runSeq_cons, runSeq_nil, evalArgs_nil, evalArgs_const, val1, putT, opI_move]; rfl) ?_)
  refine W_seq (W_seq (W_seqR (by simp only [runSeq_cons, runSeq_nil, evalArgs_nil, evalArgs_tmp, val1, putT, Tr.get_set_self, Tr.get_set_ne, hd _, ne_eq, Nat.reduceEqDiff, not_false_eq_true, decide_true, Nat.reduceLT, opI_move, opI_not, opI_callF, h0, c1]; rfl) ?_))
  cases b with
  | false =>
    refine W_cond (b := true) (by simp only [PArg.eval, Tr.get_set_self, Tr.get_set_ne, hd _, ne_eq, Nat.reduceEqDiff, not_false_eq_true, decide_true, Nat.reduceLT]; try rfl) (fun _ => ?_) (fun hb => by cases hb)
    refine W_seq (W_seqR (by simp only [runSeq_cons, runSeq_nil, evalArgs_nil, evalArgs_const, val1, putT, opI_move]; rfl) (W_ret ?_))
    exact ⟨_, fin_tmp2 (by simp only [Tr.get_set_self, Tr.get_set_ne, Option.isSome_some, hd _, ne_eq, Nat.reduceEqDiff, not_false_eq_true, decide_true, Nat.reduceLT]; try rfl) (by simp only [Tr.get_set_self, Tr.get_set_ne, Tr.isSome_set, Option.isSome_some, hd _, ne_eq, Nat.reduceEqDiff, not_false_eq_true, decide_true, Nat.reduceLT]; try rfl), Step.refl hok, .inl ⟨rfl, fun h => (by have := hb.2 h; cases this)⟩⟩
  | true =>
  have hR := hb.1 rfl
  clear hb
  refine W_cond (b := false) (by simp only [PArg.eval, Tr.get_set_self, Tr.get_set_ne, hd _, ne_eq, Nat.reduceEqDiff, not_false_eq_true, decide_true, Nat.reduceLT]; try rfl) (fun hb => by cases hb) (fun _ => W_skip ?_)
  show W _ _
  have hlen := hR.1
  have lv := hv.jin.lenS M0 rfl
  obtain ⟨M2, e2, s2, n2, r2⟩ := make_row (Step.refl hok) (n := js.length) (by omega)
  refine W_seq (W_seqR (by simp only [runSeq_cons, runSeq_nil, evalArgs_nil, evalArgs_tmp, val1, putT, Tr.get_set_self, Tr.get_set_ne, hd _, ne_eq, Nat.reduceEqDiff, not_false_eq_true, decide_true, Nat.reduceLT, opI_move, h0, lv, e2]; rfl) ?_)
  generalize AV.slice (some (M0.n, 0)) js.length js.length false = vr at *
  generalize M0.n = wb at *
  refine W_seq (W_seq (W_seqR (by simp only [runSeq_cons, runSeq_nil, evalArgs_nil, evalArgs_const, val1, putT, opI_move]; rfl) (W_block (W_loop (fun k t M' => ∃ (rd : Nat) (xs : List Int), k + rd = js.length + 1 ∧ Step M0 M' ∧ RowI M0 M' 1 wb vr (xs.map eI) ∧ xs.length = js.length ∧ ranksD js = ranksP js (js.length + 1 - rd) xs ∧ Bnd (4000 * rd) xs ∧ Dom t 63 ∧ t.get 0 = some v ∧ t.get 4 = some vr ∧ t.get 5 = some (.int .i64 rd)) (k := js.length + 1) (by omega) ?_ ?_))))
  · exact ⟨0, _, rfl, s2, r2, by simp, rfl, Bnd.zeros, by ((repeat (with_reducible apply Dom.set)); exact hd), by simp only [Tr.get_set_ne, ne_eq, Nat.reduceEqDiff, not_false_eq_true, h0], by simp only [Tr.get_set_self, Tr.get_set_ne, hd _, ne_eq, Nat.reduceEqDiff, not_false_eq_true, decide_true, Nat.reduceLT], by simp only [Tr.get_set_self, Tr.get_set_ne, hd _, ne_eq, Nat.reduceEqDiff, not_false_eq_true, decide_true, Nat.reduceLT]; rfl⟩
  clear h0 hd e2 s2 r2 lv c1 n2 M2
  intro k t M ⟨rd, xs, hk, s, rr, hxl, hrk, hbd, hd, h0, h4, h5⟩
  have lv := hv.jin.lenS M s.grow.g
  refine W_seq (W_seq (W_seqR (by simp only [runSeq_cons, runSeq_nil, evalArgs_nil, evalArgs_tmp, val1, putT, Tr.get_set_self, Tr.get_set_ne, hd _, ne_eq, Nat.reduceEqDiff, not_false_eq_true, decide_true, Nat.reduceLT, opI_move, opI_leq, h0, h5, lv]; rfl) ?_))
  refine W_cond (by simp only [PArg.eval, Tr.get_set_self, Tr.get_set_ne, hd _, ne_eq, Nat.reduceEqDiff, not_false_eq_true, decide_true, Nat.reduceLT]; rfl) (fun hb => W_skip ?_) (fun hb => ?_)
  rotate_left
  · refine W_exit ?_
    have hrd : rd = js.length + 1 := by
      have : ¬ ((rd : Int) ≤ js.length) := by simpa using hb
      omega
    subst hrd
    rw [Nat.sub_self] at hrk
    show W _ _
    refine W_seq (W_seqR (by simp only [runSeq_cons, runSeq_nil, evalArgs_nil, evalArgs_const, val1, putT, opI_move]; rfl) (W_ret ?_))
    exact ⟨_, fin_tmp2 (by simp only [Tr.get_set_self, Tr.get_set_ne, hd _, ne_eq, Nat.reduceEqDiff, not_false_eq_true, decide_true, Nat.reduceLT]; try rfl) (by simp only [Tr.get_set_self, Tr.get_set_ne, hd _, ne_eq, Nat.reduceEqDiff, not_false_eq_true, decide_true, Nat.reduceLT]; try rfl), s, .inl ⟨rfl, fun _ => hrk⟩⟩
  have hrd : rd ≤ js.length := by
    have : ((rd : Int) ≤ js.length) := by simpa using hb
    omega
  clear hb lv
  show W _ _
  refine W_seq (W_block (W_seq (W_seqR (by simp only [runSeq_cons, runSeq_nil, evalArgs_nil, evalArgs_const, val1, putT, opI_move]; rfl) ?_)))
  refine W_seq (W_seq (W_seqR (by simp only [runSeq_cons, runSeq_nil, evalArgs_nil, evalArgs_const, val1, putT, opI_move]; rfl) (W_block (W_loop (fun kk t M' => ∃ (i : Nat) (st : List Int × Bool), kk + i = js.length ∧ st = (List.range i).foldl (stepI js) (xs, false) ∧ Step M0 M' ∧ RowI M0 M' 1 wb vr (st.1.map eI) ∧ Bnd (4000 * rd + 20 * i) st.1 ∧ Dom t 63 ∧ t.get 0 = some v ∧ t.get 4 = some vr ∧ t.get 5 = some (.int .i64 rd) ∧ t.get 6 = some (.bool st.2) ∧ t.get 7 = some (.int .i64 i)) (k := js.length) (by omega) ?_ ?_))))
  · exact ⟨0, (xs, false), rfl, rfl, s, rr, by simpa using hbd, by ((repeat (with_reducible apply Dom.set)); exact hd), by simp only [Tr.get_set_ne, ne_eq, Nat.reduceEqDiff, not_false_eq_true, h0], by simp only [Tr.get_set_ne, ne_eq, Nat.reduceEqDiff, not_false_eq_true, h4], by simp only [Tr.get_set_ne, ne_eq, Nat.reduceEqDiff, not_false_eq_true, h5], by simp only [Tr.get_set_self, Tr.get_set_ne, hd _, ne_eq, Nat.reduceEqDiff, not_false_eq_true, decide_true, Nat.reduceLT], by simp only [Tr.get_set_self, Tr.get_set_ne, hd _, ne_eq, Nat.reduceEqDiff, not_false_eq_true, decide_true, Nat.reduceLT]; rfl⟩
  clear h0 h4 h5 hd rr s hbd
  intro kk t M ⟨i, st, hkk, hst, s, rr, hbd, hd, h0, h4, h5, h6, h7⟩
  have hsl : st.1.length = js.length := by rw [hst, fold2_len, hxl]
  have lv := hv.jin.lenS M s.grow.g
  refine W_seq (W_seq (W_seqR (by simp only [runSeq_cons, runSeq_nil, evalArgs_nil, evalArgs_tmp, val1, putT, Tr.get_set_self, Tr.get_set_ne, hd _, ne_eq, Nat.reduceEqDiff, not_false_eq_true, decide_true, Nat.reduceLT, opI_move, opI_lss, h0, h7, lv]; rfl) ?_))
  refine W_cond (by simp only [PArg.eval, Tr.get_set_self, Tr.get_set_ne, hd _, ne_eq, Nat.reduceEqDiff, not_false_eq_true, decide_true, Nat.reduceLT]; rfl) (fun hb => W_skip ?_) (fun hb => ?_)
  rotate_left
  · refine W_exit ?_
    have hi : i = js.length := by simp at hb; omega
    subst hi
    have hst' : st = roundP js xs := hst
    have hf : js.length + 1 - rd = (js.length - rd) + 1 := by omega
    rw [hf] at hrk
    unfold ranksP at hrk
    rw [← hst'] at hrk
    show W _ _
    cases hq : st.2 with
    | false =>
      rw [hq] at h6
      rw [hq, if_neg (by simp)] at hrk
      refine W_seq (W_seqR (by simp only [runSeq_cons, runSeq_nil, evalArgs_nil, evalArgs_tmp, val1, putT, Tr.get_set_self, Tr.get_set_ne, hd _, ne_eq, Nat.reduceEqDiff, not_false_eq_true, decide_true, Nat.reduceLT, opI_move, opI_not, h6]; rfl) ?_)
      refine W_cond (b := true) (by simp only [PArg.eval, Tr.get_set_self, Tr.get_set_ne, hd _, ne_eq, Nat.reduceEqDiff, not_false_eq_true, decide_true, Nat.reduceLT]; try rfl) (fun _ => ?_) (fun hb => by cases hb)
      refine W_seq (W_seqR (by simp only [runSeq_cons, runSeq_nil, evalArgs_nil, evalArgs_tmp, evalArgs_const, val1, putT, Tr.get_set_self, Tr.get_set_ne, hd _, ne_eq, Nat.reduceEqDiff, not_false_eq_true, decide_true, Nat.reduceLT, opI_move, h4]; rfl) (W_ret ?_))
      exact ⟨_, fin_tmp2 (by simp only [Tr.get_set_self, Tr.get_set_ne, hd _, ne_eq, Nat.reduceEqDiff, not_false_eq_true, decide_true, Nat.reduceLT]; try rfl) (by simp only [Tr.get_set_self, Tr.get_set_ne, hd _, ne_eq, Nat.reduceEqDiff, not_false_eq_true, decide_true, Nat.reduceLT]; try rfl), s, .inr ⟨hR, _, vr, hrk, rfl, rr.row s.ok.1⟩⟩
    | true =>
      rw [hq] at h6
      rw [hq, if_pos rfl] at hrk
      refine W_seq (W_seqR (by simp only [runSeq_cons, runSeq_nil, evalArgs_nil, evalArgs_tmp, val1, putT, Tr.get_set_self, Tr.get_set_ne, hd _, ne_eq, Nat.reduceEqDiff, not_false_eq_true, decide_true, Nat.reduceLT, opI_move, opI_not, h6]; rfl) ?_)
      refine W_cond (b := false) (by simp only [PArg.eval, Tr.get_set_self, Tr.get_set_ne, hd _, ne_eq, Nat.reduceEqDiff, not_false_eq_true, decide_true, Nat.reduceLT]; try rfl) (fun hb => by cases hb) (fun _ => W_skip ?_)
      show W _ _
      refine W_seqR (by simp only [runSeq_cons, runSeq_nil, evalArgs_nil, evalArgs_tmp, evalArgs_const, val1, putT, Tr.get_set_self, Tr.get_set_ne, hd _, ne_eq, Nat.reduceEqDiff, not_false_eq_true, decide_true, Nat.reduceLT, opI_move, opI_add, h5]; rfl) ?_
      refine ⟨k - 1, by omega, rd + 1, st.1, by omega, s, rr, hsl, by rw [hrk]; congr 1; omega, fun m => by have := hbd m; omega, by ((repeat (with_reducible apply Dom.set)); exact hd), by simp only [Tr.get_set_ne, ne_eq, Nat.reduceEqDiff, not_false_eq_true, h0], by simp only [Tr.get_set_ne, ne_eq, Nat.reduceEqDiff, not_false_eq_true, h4], ?_⟩
      simp only [Tr.get_set_self, Tr.get_set_ne, hd _, ne_eq, Nat.reduceEqDiff, not_false_eq_true, decide_true, Nat.reduceLT]
      rw [wrapF_small (by omega) (by omega)]; rfl
  have hin : i < js.length := by simpa using hb
  have hkid := hv.kids i hin
  clear hb lv
  show W _ _
  refine W_seq (W_block (W_seq (W_seqR (by simp only [runSeq_cons, runSeq_nil, evalArgs_nil, evalArgs_const, val1, putT, opI_move]; rfl) ?_)))
  refine W_block (W_loop (fun k3 t M' => ∃ (q : Nat) (su : List Int × Bool), k3 + q = (jb js i).kids.length ∧ su = ((jb js i).kids.take q).foldl (stepK i) st ∧ Step M0 M' ∧ RowI M0 M' 1 wb vr (su.1.map eI) ∧ Bnd (4000 * rd + 20 * i + q) su.1 ∧ Dom t 63 ∧ t.get 0 = some v ∧ t.get 4 = some vr ∧ t.get 5 = some (.int .i64 rd) ∧ t.get 6 = some (.bool su.2) ∧ t.get 7 = some (.int .i64 i) ∧ t.get 8 = some (.int .i64 q)) (k := (jb js i).kids.length) (by omega) ?_ ?_)
  · exact ⟨0, st, rfl, by simp, s, rr, by simpa using hbd, by ((repeat (with_reducible apply Dom.set)); exact hd), by simp only [Tr.get_set_ne, ne_eq, Nat.reduceEqDiff, not_false_eq_true, h0], by simp only [Tr.get_set_ne, ne_eq, Nat.reduceEqDiff, not_false_eq_true, h4], by simp only [Tr.get_set_ne, ne_eq, Nat.reduceEqDiff, not_false_eq_true, h5], by simp only [Tr.get_set_ne, ne_eq, Nat.reduceEqDiff, not_false_eq_true, h6], by simp only [Tr.get_set_ne, ne_eq, Nat.reduceEqDiff, not_false_eq_true, h7], by simp only [Tr.get_set_self, Tr.get_set_ne, hd _, ne_eq, Nat.reduceEqDiff, not_false_eq_true, decide_true, Nat.reduceLT]; rfl⟩
  clear h0 h4 h5 h6 h7 hd rr s hbd
  intro k3 t M ⟨q, su, hk3, hsu, s, rr, hbd, hd, h0, h4, h5, h6, h7, h8⟩
  have hul : su.1.length = js.length := by rw [hsu, fold_len, hsl]
  obtain ⟨pj, pp, p1, _, _, p2⟩ := hv.jin.at_ hin M s.grow.g
  have lk := hv.jin.kidLen hin M s.grow.g
  refine W_seq (W_seq (W_seqR (by simp only [runSeq_cons, runSeq_nil, evalArgs_nil, evalArgs_tmp, val1, putT, Tr.get_set_self, Tr.get_set_ne, hd _, ne_eq, Nat.reduceEqDiff, not_false_eq_true, decide_true, Nat.reduceLT, opI_move, opI_lss, Nat.zero_add, h0, h7, h8, p1, opI_fieldQ pp, p2, lk]; rfl) ?_))
  refine W_cond (by simp only [PArg.eval, Tr.get_set_self, Tr.get_set_ne, hd _, ne_eq, Nat.reduceEqDiff, not_false_eq_true, decide_true, Nat.reduceLT]; rfl) (fun hb => W_skip ?_) (fun hb => ?_)
  rotate_left
  · refine W_exit ?_
    have hqq : q = (jb js i).kids.length := by simp at hb; omega
    subst hqq
    rw [List.take_of_length_le (Nat.le_refl _)] at hsu
    show W _ _
    refine W_seqR (by simp only [runSeq_cons, runSeq_nil, evalArgs_nil, evalArgs_tmp, evalArgs_const, val1, putT, Tr.get_set_self, Tr.get_set_ne, hd _, ne_eq, Nat.reduceEqDiff, not_false_eq_true, decide_true, Nat.reduceLT, opI_move, opI_add, h7]; rfl) ?_
    refine ⟨kk - 1, by omega, i + 1, su, by omega, by rw [range_foldl, ← hst]; exact hsu, s, rr, fun m => by have := hbd m; omega, by ((repeat (with_reducible apply Dom.set)); exact hd), by simp only [Tr.get_set_ne, ne_eq, Nat.reduceEqDiff, not_false_eq_true, h0], by simp only [Tr.get_set_ne, ne_eq, Nat.reduceEqDiff, not_false_eq_true, h4], by simp only [Tr.get_set_ne, ne_eq, Nat.reduceEqDiff, not_false_eq_true, h5], by simp only [Tr.get_set_ne, ne_eq, Nat.reduceEqDiff, not_false_eq_true, h6], ?_⟩
    simp only [Tr.get_set_self, Tr.get_set_ne, hd _, ne_eq, Nat.reduceEqDiff, not_false_eq_true, decide_true, Nat.reduceLT]
    rw [wrapF_small (by omega) (by omega)]; rfl
  have hql : q < (jb js i).kids.length := by simpa using hb
  clear hb
  obtain ⟨r, rr', r1, r2⟩ := hv.jin.kidAt hin hql M s.grow.g
  have hkr := (hR.2 i hin).2 q hql
  obtain ⟨kd, hkd⟩ : ∃ kd : Nat, kid js i q = kd := ⟨(kid js i q).toNat, by omega⟩
  rw [hkd] at r2 hkr
  have hkq : (jb js i).kids[q] = (kd : Int) := by
    rw [← hkd]; unfold kid; rw [List.getD_eq_getElem?_getD, List.getElem?_eq_getElem hql]; rfl
  obtain ⟨a1, a2⟩ := row1_at rr s.ok.1 (i := i) (by omega)
  obtain ⟨b1, b2⟩ := row1_at rr s.ok.1 (i := kd) (by omega)
  have d1 := hbd i
  have d2 := hbd kd
  have wX : wrapF .i64 (su.1.getD kd 0 + 1) = su.1.getD kd 0 + 1 := wrapF_any (by omega) (by omega)
  have hstep : ((jb js i).kids.take (q + 1)).foldl (stepK i) st = stepK i su (kd : Int) := by rw [take_foldl hql, ← hsu, hkq]
  have h8n : wrapF .i64 ((q : Int) + 1) = ((q + 1 : Nat) : Int) := by rw [wrapF_small (by omega) (by omega)]; rfl
  show W _ _
  refine W_seq (W_block (W_seq (W_seqR (by simp only [runSeq_cons, runSeq_nil, evalArgs_nil, evalArgs_tmp, evalArgs_const, val1, putT, Tr.get_set_self, Tr.get_set_ne, hd _, ne_eq, Nat.reduceEqDiff, not_false_eq_true, decide_true, Nat.reduceLT, opI_move, opI_add, Nat.zero_add, h0, h4, h7, h8, p1, opI_fieldQ pp, p2, r1, r2, b1, b2, wX]; rfl) ?_)))
  by_cases hgt : su.1.getD kd 0 + 1 > su.1.getD i 0
  · have eg : decide (su.1.getD kd 0 + 1 > su.1.getD i 0) = true := decide_eq_true hgt
    obtain ⟨M3, e3, s3, r3, f3, n3⟩ := row1_put s rr (i := i) (by omega) (su.1.getD kd 0 + 1)
    refine W_seq (W_seqR (by simp only [runSeq_cons, runSeq_nil, evalArgs_nil, evalArgs_tmp, val1, putT, Tr.get_set_self, Tr.get_set_ne, hd _, ne_eq, Nat.reduceEqDiff, not_false_eq_true, decide_true, Nat.reduceLT, opI_move, opI_gtr, h4, h7, a1, a2, eg]; rfl) ?_)
    refine W_cond (b := true) (by simp only [PArg.eval, Tr.get_set_self, Tr.get_set_ne, hd _, ne_eq, Nat.reduceEqDiff, not_false_eq_true, decide_true, Nat.reduceLT]; try rfl) (fun _ => ?_) (fun hb => by cases hb)
    refine W_seq (W_seqR (by simp only [runSeq_cons, runSeq_nil, evalArgs_nil, evalArgs_tmp, val1, putT, Tr.get_set_self, Tr.get_set_ne, hd _, ne_eq, Nat.reduceEqDiff, not_false_eq_true, decide_true, Nat.reduceLT, opI_move, h4, h7, a1, e3]; rfl) ?_)
    refine W_seqR (by simp only [runSeq_cons, runSeq_nil, evalArgs_nil, evalArgs_const, val1, putT, opI_move]; rfl) ?_
    show W _ _
    refine W_seqR (by simp only [runSeq_cons, runSeq_nil, evalArgs_nil, evalArgs_tmp, evalArgs_const, val1, putT, Tr.get_set_self, Tr.get_set_ne, hd _, ne_eq, Nat.reduceEqDiff, not_false_eq_true, decide_true, Nat.reduceLT, opI_move, opI_add, h8, h8n]; rfl) ?_
    refine ⟨k3 - 1, by omega, q + 1, (su.1.set i (su.1.getD kd 0 + 1), true), by omega, ?_, s3, r3, ?_, by ((repeat (with_reducible apply Dom.set)); exact hd), by simp only [Tr.get_set_ne, ne_eq, Nat.reduceEqDiff, not_false_eq_true, h0], by simp only [Tr.get_set_ne, ne_eq, Nat.reduceEqDiff, not_false_eq_true, h4], by simp only [Tr.get_set_ne, ne_eq, Nat.reduceEqDiff, not_false_eq_true, h5], by simp only [Tr.get_set_self, Tr.get_set_ne, hd _, ne_eq, Nat.reduceEqDiff, not_false_eq_true, decide_true, Nat.reduceLT], by simp only [Tr.get_set_ne, ne_eq, Nat.reduceEqDiff, not_false_eq_true, h7], by simp only [Tr.get_set_self, Tr.get_set_ne, hd _, ne_eq, Nat.reduceEqDiff, not_false_eq_true, decide_true, Nat.reduceLT]⟩
    · rw [hstep]; unfold stepK; rw [Int.toNat_natCast, if_pos hgt]
    · have := Bnd.set (x := su.1.getD kd 0 + 1) hbd (i := i) (by omega) (by omega)
      intro m
      have := this m
      dsimp only
      omega
  · have eg : decide (su.1.getD kd 0 + 1 > su.1.getD i 0) = false := decide_eq_false hgt
    refine W_seq (W_seqR (by simp only [runSeq_cons, runSeq_nil, evalArgs_nil, evalArgs_tmp, val1, putT, Tr.get_set_self, Tr.get_set_ne, hd _, ne_eq, Nat.reduceEqDiff, not_false_eq_true, decide_true, Nat.reduceLT, opI_move, opI_gtr, h4, h7, a1, a2, eg]; rfl) ?_)
    refine W_cond (b := false) (by simp only [PArg.eval, Tr.get_set_self, Tr.get_set_ne, hd _, ne_eq, Nat.reduceEqDiff, not_false_eq_true, decide_true, Nat.reduceLT]; try rfl) (fun hb => by cases hb) (fun _ => W_skip ?_)
    show W _ _
    refine W_seqR (by simp only [runSeq_cons, runSeq_nil, evalArgs_nil, evalArgs_tmp, evalArgs_const, val1, putT, Tr.get_set_self, Tr.get_set_ne, hd _, ne_eq, Nat.reduceEqDiff, not_false_eq_true, decide_true, Nat.reduceLT, opI_move, opI_add, h8, h8n]; rfl) ?_
    refine ⟨k3 - 1, by omega, q + 1, su, by omega, ?_, s, rr, fun m => by have := hbd m; omega, by ((repeat (with_reducible apply Dom.set)); exact hd), by simp only [Tr.get_set_ne, ne_eq, Nat.reduceEqDiff, not_false_eq_true, h0], by simp only [Tr.get_set_ne, ne_eq, Nat.reduceEqDiff, not_false_eq_true, h4], by simp only [Tr.get_set_ne, ne_eq, Nat.reduceEqDiff, not_false_eq_true, h5], by simp only [Tr.get_set_ne, ne_eq, Nat.reduceEqDiff, not_false_eq_true, h6], by simp only [Tr.get_set_ne, ne_eq, Nat.reduceEqDiff, not_false_eq_true, h7], by simp only [Tr.get_set_self, Tr.get_set_ne, hd _, ne_eq, Nat.reduceEqDiff, not_false_eq_true, decide_true, Nat.reduceLT]⟩
    rw [hstep]; unfold stepK; rw [Int.toNat_natCast, if_neg hgt]
end Go.Proofs.Ytmaldkpkodcggaa.grf
