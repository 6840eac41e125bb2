/- The walks of the functions that take a number out of a row. -/
import Derived.Test.YtefcnhmbpkdlmaaMoOwn
namespace Go.Proofs.Ytefcnhmbpkdlmaa.model
open Go Go.Vx

/-- a row without the number of a place, if it is that one -/
def wo (xs : List Int) (at_ x : Int) : Option (List Int) := if 0 ≤ at_ ∧ xs[at_.toNat]? = some x then some (xs.eraseIdx at_.toNat) else none
theorem wo_at {xs : List Int} {i : Nat} {x : Int} (hi : i < xs.length) (h : xs[i] = x) : wo xs i x = some (xs.eraseIdx i) := by
  unfold wo
  rw [if_pos ⟨by omega, by simp [hi, h]⟩]
  simp
theorem wo_ne {xs : List Int} {i : Nat} {x : Int} (hi : i < xs.length) (h : xs[i] ≠ x) : wo xs i x = none := by
  unfold wo
  rw [if_neg fun hh => h (by have := hh.2; simp [hi] at this; exact this)]
theorem wo_out {xs : List Int} {a x : Int} (h : a < 0 ∨ a ≥ xs.length) : wo xs a x = none := by
  unfold wo
  rw [if_neg fun hh => ?_]
  rcases h with h | h
  · omega
  · have : xs[a.toNat]? = none := List.getElem?_eq_none (by omega)
    rw [this] at hh; simp at hh
/-- a row of our own, or none -/
def Free (M0 M : AMem) (v : AV) (xs : List Int) : Prop := Mine M0 M v xs ∨ (v = .slice none 0 0 false ∧ xs = [])
theorem Free.row {M0 M : AMem} {v : AV} {xs : List Int} (h : Free M0 M v xs) (hok : Ok M) : Row M v xs := by
  rcases h with h | ⟨rfl, rfl⟩
  · exact h.row hok
  · exact .inr (.inl ⟨rfl, rfl⟩)
theorem Free.mono {A B M : AMem} {v : AV} {xs : List Int} (h : Free B M v xs) (hn : A.n ≤ B.n) : Free A M v xs := h.imp (fun h => h.mono hn) id
theorem Free.grow {M0 M M' : AMem} {v : AV} {xs : List Int} (h : Free M0 M v xs) (hok : Ok M) (hg : Grow M M') : Free M0 M' v xs := h.imp (fun h => h.grow hok hg) id
theorem Free.of {M0 M : AMem} {v : AV} {xs : List Int} (h : Fresh M0 M v xs) : Free M0 M v xs := h.imp (fun h => h.mine) id
/-- what a deed makes of a row: it may not be done -/
def Out2 (M : AMem) (o : Option (List Int)) (r : AV) (M' : AMem) : Prop := ∃ r0, r = .tuple [r0, .bool o.isSome] ∧ Step M M' ∧ ∀ ys, o = some ys → Free M M' r0 ys

set_option maxHeartbeats 1000000 in
theorem without_ok {v : AV} {xs : List Int} {a x : Int} (d : Nat) (M : AMem) (hv : Row M v xs) (hok : Okg M) (hn : xs.length ≤ 90000) :
    Ans (callF tbl code 100000 (d + 2)) 34 [v, .int .i64 a, .int .u64 x] M (Out2 M (wo xs a x)) := by
  refine Ans_of (tbl_none (by decide) _) (show code 34 = some c34 from by kernel_rfl) (by simp) fun t hd ha => ?_
  have h0 := ha 0 v rfl
  have h1 := ha 1 _ rfl
  have h2 := ha 2 _ rfl
  have lv := hv.len
  clear ha
  refine W_seq (W_seqR (by simp only [runSeq_cons, runSeq_nil, evalArgs_nil, evalArgs_const, val1, putT, opI_move]; rfl) ?_)
  by_cases hneg : a < 0
  · have hneg' : decide (a < 0) = true := by simpa using hneg
    refine W_seq (W_seq (W_seqR (by simp only [runSeq_cons, runSeq_nil, evalArgs_nil, evalArgs_tmp, evalArgs_const, val1, putT, Tr.get_set_self, Tr.get_set_ne, Tr.isSome_set, hd _, ne_eq, Nat.reduceEqDiff, not_false_eq_true, decide_true, Nat.reduceLT, opI_move, opI_lss, opI_pick, runSeq_guard (b := true), Bool.true_beq, h1, hneg']; rfl) ?_))
    refine W_cond (by simp only [PArg.eval, Tr.get_set_self, Tr.get_set_ne, hd _, ne_eq, Nat.reduceEqDiff, not_false_eq_true, decide_true, Nat.reduceLT]; rfl) (fun _ => ?_) (fun hb => by simp at hb)
    refine W_seq (W_seqR (by simp only [runSeq_cons, runSeq_nil, evalArgs_nil, evalArgs_const, val1, putT, opI_move]; rfl) (W_ret ?_))
    rw [wo_out (.inl hneg)]
    exact ⟨_, fin_tmp2 (by simp only [Tr.get_set_self, Tr.get_set_ne, Option.isSome_some, hd _, ne_eq, Nat.reduceEqDiff, not_false_eq_true, decide_true, Nat.reduceLT]; try rfl) (by simp only [Tr.get_set_self, Tr.get_set_ne, Tr.isSome_set, Option.isSome_some, hd _, ne_eq, Nat.reduceEqDiff, not_false_eq_true, decide_true, Nat.reduceLT]; try rfl), _, rfl, Step.refl hok, fun ys h => by cases h⟩
  have hneg' : decide (a < 0) = false := by simpa using hneg
  by_cases hge : a ≥ xs.length
  · have hge' : decide (a ≥ (xs.length : Int)) = true := by simpa using hge
    refine W_seq (W_seq (W_seqR (by simp only [runSeq_cons, runSeq_nil, evalArgs_nil, evalArgs_tmp, evalArgs_const, val1, putT, Tr.get_set_self, Tr.get_set_ne, Tr.isSome_set, hd _, ne_eq, Nat.reduceEqDiff, not_false_eq_true, decide_true, Nat.reduceLT, opI_move, opI_lss, opI_geq, opI_pick, runSeq_guard (b := true), runSeq_guard (b := false), beq_self_eq_true, Bool.true_beq, h0, h1, lv, hneg', hge']; rfl) ?_))
    refine W_cond (by simp only [PArg.eval, Tr.get_set_self, Tr.get_set_ne, hd _, ne_eq, Nat.reduceEqDiff, not_false_eq_true, decide_true, Nat.reduceLT]; rfl) (fun _ => ?_) (fun hb => by simp at hb)
    refine W_seq (W_seqR (by simp only [runSeq_cons, runSeq_nil, evalArgs_nil, evalArgs_const, val1, putT, opI_move]; rfl) (W_ret ?_))
    rw [wo_out (.inr hge)]
    exact ⟨_, fin_tmp2 (by simp only [Tr.get_set_self, Tr.get_set_ne, Option.isSome_some, hd _, ne_eq, Nat.reduceEqDiff, not_false_eq_true, decide_true, Nat.reduceLT]; try rfl) (by simp only [Tr.get_set_self, Tr.get_set_ne, Tr.isSome_set, Option.isSome_some, hd _, ne_eq, Nat.reduceEqDiff, not_false_eq_true, decide_true, Nat.reduceLT]; try rfl), _, rfl, Step.refl hok, fun ys h => by cases h⟩
  have hge' : decide (a ≥ (xs.length : Int)) = false := by simpa using hge
  obtain ⟨i, rfl⟩ : ∃ i : Nat, a = i := ⟨a.toNat, by omega⟩
  have hi : i < xs.length := by omega
  obtain ⟨p, e1, e2⟩ := hv.at_ hi
  by_cases hx : xs[i] = x
  · have hx' : (xs[i] != x) = false := by simpa using hx
    refine W_seq (W_seq (W_seqR (by simp only [runSeq_cons, runSeq_nil, evalArgs_nil, evalArgs_tmp, evalArgs_const, val1, putT, Tr.get_set_self, Tr.get_set_ne, Tr.isSome_set, hd _, ne_eq, Nat.reduceEqDiff, not_false_eq_true, decide_true, Nat.reduceLT, opI_move, opI_lss, opI_geq, opI_neq, opI_pick, runSeq_guard (b := false), beq_self_eq_true, h0, h1, h2, lv, hneg', hge', e1, e2, hx']; rfl) ?_))
    refine W_cond (by simp only [PArg.eval, Tr.get_set_self, Tr.get_set_ne, hd _, ne_eq, Nat.reduceEqDiff, not_false_eq_true, decide_true, Nat.reduceLT]; rfl) (fun hb => by simp at hb) (fun _ => W_skip ?_)
    obtain ⟨r, M2, hc, s1, f1, hs⟩ := clone_ok d M hv hok hn
    obtain ⟨b, rfl⟩ := hs (by intro he; rw [he] at hi; simp at hi)
    have hwr : wrapF .i64 ((i : Int) + 1) = ((i + 1 : Nat) : Int) := by rw [wrapF_small (by omega) (by omega)]; rfl
    rcases f1 with ⟨b', gr, sz, g, he, hb, hg, hsz, hgg⟩ | ⟨he, _⟩
    · cases he
      have hsz := hsz rfl
      subst hsz
      obtain ⟨r3, M3, hdel, s3, m3⟩ := delete_ok (d) M M2 s1 hb hg hgg hi hn
      have e3 : callF tbl code 100000 (d + 1) 36 [.slice (some (b, 0)) xs.length xs.length true, .int .i64 i, .int .i64 (wrapF .i64 ((i : Int) + 1))] M2 = some (r3, M3) := by rw [hwr]; exact hdel
      show W _ _
      refine W_seq (W_seqR (by simp only [runSeq_cons, runSeq_nil, evalArgs_nil, evalArgs_tmp, evalArgs_const, val1, putT, Tr.get_set_self, Tr.get_set_ne, hd _, ne_eq, Nat.reduceEqDiff, not_false_eq_true, decide_true, Nat.reduceLT, opI_move, opI_add, opI_callF, h0, h1, hc, e3]; rfl) (W_ret ?_))
      rw [wo_at hi hx]
      exact ⟨_, fin_tmp2 (by simp only [Tr.get_set_self, Tr.get_set_ne, Option.isSome_some, hd _, ne_eq, Nat.reduceEqDiff, not_false_eq_true, decide_true, Nat.reduceLT]; try rfl) (by simp only [Tr.get_set_self, Tr.get_set_ne, Tr.isSome_set, Option.isSome_some, hd _, ne_eq, Nat.reduceEqDiff, not_false_eq_true, decide_true, Nat.reduceLT]; try rfl), _, rfl, s3, fun ys h => by cases h; exact .inl m3⟩
    · cases he
  · have hx' : (xs[i] != x) = true := by simpa using hx
    refine W_seq (W_seq (W_seqR (by simp only [runSeq_cons, runSeq_nil, evalArgs_nil, evalArgs_tmp, evalArgs_const, val1, putT, Tr.get_set_self, Tr.get_set_ne, Tr.isSome_set, hd _, ne_eq, Nat.reduceEqDiff, not_false_eq_true, decide_true, Nat.reduceLT, opI_move, opI_lss, opI_geq, opI_neq, opI_pick, runSeq_guard (b := false), beq_self_eq_true, h0, h1, h2, lv, hneg', hge', e1, e2, hx']; rfl) ?_))
    refine W_cond (by simp only [PArg.eval, Tr.get_set_self, Tr.get_set_ne, hd _, ne_eq, Nat.reduceEqDiff, not_false_eq_true, decide_true, Nat.reduceLT]; rfl) (fun _ => ?_) (fun hb => by simp at hb)
    refine W_seq (W_seqR (by simp only [runSeq_cons, runSeq_nil, evalArgs_nil, evalArgs_const, val1, putT, opI_move]; rfl) (W_ret ?_))
    rw [wo_ne hi hx]
    exact ⟨_, fin_tmp2 (by simp only [Tr.get_set_self, Tr.get_set_ne, Option.isSome_some, hd _, ne_eq, Nat.reduceEqDiff, not_false_eq_true, decide_true, Nat.reduceLT]; try rfl) (by simp only [Tr.get_set_self, Tr.get_set_ne, Tr.isSome_set, Option.isSome_some, hd _, ne_eq, Nat.reduceEqDiff, not_false_eq_true, decide_true, Nat.reduceLT]; try rfl), _, rfl, Step.refl hok, fun ys h => by cases h⟩

theorem Out2.after {A M M' : AMem} {o : Option (List Int)} {r : AV} (h : Out2 M o r M') (s : Step A M) : Out2 A o r M' := by
  obtain ⟨r0, he, hs, hm⟩ := h
  exact ⟨r0, he, s.trans hs, fun ys h => (hm ys h).mono s.grow.n⟩

set_option maxHeartbeats 1000000 in
theorem bagtake_ok {v : AV} {xs : List Int} {x : Int} (d : Nat) (M : AMem) (hv : Row M v xs) (hok : Okg M) (hn : xs.length < 90000) :
    Ans (callF tbl code 100000 (d + 3)) 33 [.agg [], v, .int .u64 x] M (Out2 M (wo xs (indexOf x xs) x)) := by
  refine Ans_of (tbl_none (by decide) _) (show code 33 = some c33 from by kernel_rfl) (by simp) fun t hd ha => ?_
  have h0 := ha 0 _ rfl
  have h1 := ha 1 v rfl
  have h2 := ha 2 _ rfl
  clear ha
  refine W_seq (W_seqR (by simp only [runSeq_cons, runSeq_nil, evalArgs_nil, evalArgs_tmp, evalArgs_const, val1, putT, opI_move, opI_box, cells_agg, h0]; rfl) ?_)
  have s0 := (Step.refl hok).push (k := .cells [] 0 true none) (fun _ _ _ _ he => by cases he)
  have hv' := hv.grow s0.grow
  have hi := index_ok (x := x) (d + 1) _ hv' hn
  obtain ⟨r, M2, hc, r0, he, hs, hm⟩ := without_ok (a := indexOf x xs) (x := x) d _ hv' s0.ok (by omega)
  subst he
  show W _ _
  refine W_seq (W_seqR (by simp only [runSeq_cons, runSeq_nil, evalArgs_nil, evalArgs_tmp, val1, putT, Tr.get_set_self, Tr.get_set_ne, hd _, ne_eq, Nat.reduceEqDiff, not_false_eq_true, decide_true, Nat.reduceLT, opI_move, opI_extract, opI_callF, h1, h2, hi, hc]; rfl) (W_ret ?_))
  exact ⟨_, fin_tmp2 (by simp only [Tr.get_set_self, Tr.get_set_ne, Tr.isSome_set, Option.isSome_some, hd _, ne_eq, Nat.reduceEqDiff, not_false_eq_true, decide_true, Nat.reduceLT]; try rfl) (by simp only [Tr.get_set_self, Tr.get_set_ne, Tr.isSome_set, Option.isSome_some, hd _, ne_eq, Nat.reduceEqDiff, not_false_eq_true, decide_true, Nat.reduceLT]; try rfl), Out2.after ⟨_, rfl, hs, hm⟩ s0⟩

set_option maxHeartbeats 1000000 in
theorem fifotake_ok {v : AV} {xs : List Int} {x : Int} (d : Nat) (M : AMem) (hv : Row M v xs) (hok : Okg M) (hn : xs.length < 90000) :
    Ans (callF tbl code 100000 (d + 3)) 37 [.agg [], v, .int .u64 x] M (Out2 M (wo xs 0 x)) := by
  refine Ans_of (tbl_none (by decide) _) (show code 37 = some c37 from by kernel_rfl) (by simp) fun t hd ha => ?_
  have h0 := ha 0 _ rfl
  have h1 := ha 1 v rfl
  have h2 := ha 2 _ rfl
  clear ha
  refine W_seq (W_seqR (by simp only [runSeq_cons, runSeq_nil, evalArgs_nil, evalArgs_tmp, evalArgs_const, val1, putT, opI_move, opI_box, cells_agg, h0]; rfl) ?_)
  have s0 := (Step.refl hok).push (k := .cells [] 0 true none) (fun _ _ _ _ he => by cases he)
  have hv' := hv.grow s0.grow
  obtain ⟨r, M2, hc, r0, he, hs, hm⟩ := without_ok (a := 0) (x := x) d _ hv' s0.ok (by omega)
  subst he
  show W _ _
  refine W_seq (W_seqR (by simp only [runSeq_cons, runSeq_nil, evalArgs_nil, evalArgs_tmp, evalArgs_const, val1, putT, Tr.get_set_self, Tr.get_set_ne, hd _, ne_eq, Nat.reduceEqDiff, not_false_eq_true, decide_true, Nat.reduceLT, opI_move, opI_extract, opI_callF, h1, h2, hc]; rfl) (W_ret ?_))
  exact ⟨_, fin_tmp2 (by simp only [Tr.get_set_self, Tr.get_set_ne, Tr.isSome_set, Option.isSome_some, hd _, ne_eq, Nat.reduceEqDiff, not_false_eq_true, decide_true, Nat.reduceLT]; try rfl) (by simp only [Tr.get_set_self, Tr.get_set_ne, Tr.isSome_set, Option.isSome_some, hd _, ne_eq, Nat.reduceEqDiff, not_false_eq_true, decide_true, Nat.reduceLT]; try rfl), Out2.after ⟨_, rfl, hs, hm⟩ s0⟩

set_option maxHeartbeats 1000000 in
theorem lifotake_ok {v : AV} {xs : List Int} {x : Int} (d : Nat) (M : AMem) (hv : Row M v xs) (hok : Okg M) (hn : xs.length < 90000) :
    Ans (callF tbl code 100000 (d + 3)) 38 [.agg [], v, .int .u64 x] M (Out2 M (wo xs (wrapF .i64 (xs.length - 1)) x)) := by
  refine Ans_of (tbl_none (by decide) _) (show code 38 = some c38 from by kernel_rfl) (by simp) fun t hd ha => ?_
  have h0 := ha 0 _ rfl
  have h1 := ha 1 v rfl
  have h2 := ha 2 _ rfl
  clear ha
  refine W_seq (W_seqR (by simp only [runSeq_cons, runSeq_nil, evalArgs_nil, evalArgs_tmp, evalArgs_const, val1, putT, opI_move, opI_box, cells_agg, h0]; rfl) ?_)
  have s0 := (Step.refl hok).push (k := .cells [] 0 true none) (fun _ _ _ _ he => by cases he)
  have hv' := hv.grow s0.grow
  have lv := hv'.len
  obtain ⟨r, M2, hc, r0, he, hs, hm⟩ := without_ok (a := wrapF .i64 (xs.length - 1)) (x := x) d _ hv' s0.ok (by omega)
  subst he
  show W _ _
  refine W_seq (W_seqR (by simp only [runSeq_cons, runSeq_nil, evalArgs_nil, evalArgs_tmp, evalArgs_const, val1, putT, Tr.get_set_self, Tr.get_set_ne, hd _, ne_eq, Nat.reduceEqDiff, not_false_eq_true, decide_true, Nat.reduceLT, opI_move, opI_sub, opI_extract, opI_callF, h1, h2, lv, hc]; rfl) (W_ret ?_))
  exact ⟨_, fin_tmp2 (by simp only [Tr.get_set_self, Tr.get_set_ne, Tr.isSome_set, Option.isSome_some, hd _, ne_eq, Nat.reduceEqDiff, not_false_eq_true, decide_true, Nat.reduceLT]; try rfl) (by simp only [Tr.get_set_self, Tr.get_set_ne, Tr.isSome_set, Option.isSome_some, hd _, ne_eq, Nat.reduceEqDiff, not_false_eq_true, decide_true, Nat.reduceLT]; try rfl), Out2.after ⟨_, rfl, hs, hm⟩ s0⟩
end Go.Proofs.Ytefcnhmbpkdlmaa.model
