/- The walks of the functions that make rows of numbers. -/
import Derived.Test.YtefcnhmbpkdlmaaMoRead
namespace Go.Proofs.Ytefcnhmbpkdlmaa.model
open Go Go.Vx

set_option maxHeartbeats 1000000 in
theorem clone_ok {v : AV} {xs : List Int} (d : Nat) (M : AMem) (hv : Row M v xs) (hok : Okg M) (hn : xs.length ≤ 90000) :
    Ans (callF tbl code 100000 (d + 1)) 11 [v] M fun r M' => Step M M' ∧ Fresh M M' r xs ∧ (xs ≠ [] → ∃ b, r = .slice (some (b, 0)) xs.length xs.length true) := by
  refine Ans_of (tbl_none (by decide) _) (show code 11 = some c11 from by kernel_rfl) (by simp) fun t hd ha => ?_
  have h0 := ha 0 v rfl
  clear ha
  refine W_seq (W_seqR (by simp only [runSeq_cons, runSeq_nil, evalArgs_nil, evalArgs_const, val1, putT, opI_move]; rfl) ?_)
  rcases hv.isNil with ⟨hnil, hx⟩ | hnil
  · refine W_seq (W_seq (W_seqR (by simp only [runSeq_cons, runSeq_nil, evalArgs_nil, evalArgs_tmp, evalArgs_const, val1, putT, Tr.get_set_self, Tr.get_set_ne, hd _, ne_eq, Nat.reduceEqDiff, not_false_eq_true, decide_true, Nat.reduceLT, opI_move, h0, hnil]; rfl) ?_))
    refine W_cond (by simp only [PArg.eval, Tr.get_set_self, Tr.get_set_ne, hd _, ne_eq, Nat.reduceEqDiff, not_false_eq_true, decide_true, Nat.reduceLT]; rfl) (fun _ => ?_) (fun hb => by simp at hb)
    refine W_seq (W_seqR (by simp only [runSeq_cons, runSeq_nil, evalArgs_nil, evalArgs_const, val1, putT, opI_move]; rfl) (W_ret ?_))
    exact ⟨_, fin_tmp (by simp only [Tr.get_set_self, Tr.get_set_ne, Option.isSome_some, hd _, ne_eq, Nat.reduceEqDiff, not_false_eq_true, decide_true, Nat.reduceLT]; try rfl), Step.refl hok, .inr ⟨rfl, hx⟩, fun hne => absurd hx hne⟩
  · refine W_seq (W_seq (W_seqR (by simp only [runSeq_cons, runSeq_nil, evalArgs_nil, evalArgs_tmp, evalArgs_const, val1, putT, Tr.get_set_self, Tr.get_set_ne, hd _, ne_eq, Nat.reduceEqDiff, not_false_eq_true, decide_true, Nat.reduceLT, opI_move, h0, hnil]; rfl) ?_))
    refine W_cond (by simp only [PArg.eval, Tr.get_set_self, Tr.get_set_ne, hd _, ne_eq, Nat.reduceEqDiff, not_false_eq_true, decide_true, Nat.reduceLT]; rfl) (fun hb => by simp at hb) (fun _ => W_skip ?_)
    obtain ⟨b0, M1, r, M', e1, e2, s1, s2, o2, hb⟩ := copy_ok (Step.refl hok) hv (by omega)
    show W _ _
    refine W_seq (W_seqR (by simp only [runSeq_cons, runSeq_nil, evalArgs_nil, evalArgs_tmp, val1, putT, Tr.get_set_self, Tr.get_set_ne, hd _, ne_eq, Nat.reduceEqDiff, not_false_eq_true, decide_true, Nat.reduceLT, opI_move, h0, e1, e2]; rfl) (W_ret ?_))
    exact ⟨_, fin_tmp (by simp only [Tr.get_set_self, Tr.get_set_ne, Option.isSome_some, hd _, ne_eq, Nat.reduceEqDiff, not_false_eq_true, decide_true, Nat.reduceLT]; try rfl), s2, .inl o2, hb⟩

set_option maxHeartbeats 1000000 in
theorem rowput_ok {v : AV} {xs : List Int} {x : Int} (d : Nat) (M : AMem) (hv : Row M v xs) (hok : Okg M) (hn : xs.length ≤ 90000) :
    Ans (callF tbl code 100000 (d + 2)) 31 [.agg [], v, .int .u64 x] M fun r M' => Step M M' ∧ Own M M' r (xs ++ [x]) := by
  refine Ans_of (tbl_none (by decide) _) (show code 31 = some c31 from by kernel_rfl) (by simp) fun t hd ha => ?_
  have h0 := ha 0 _ rfl
  have h1 := ha 1 v rfl
  have h2 := ha 2 _ rfl
  clear ha
  refine W_seq (W_seqR (by simp only [runSeq_cons, runSeq_nil, evalArgs_nil, evalArgs_tmp, evalArgs_const, val1, putT, opI_move, opI_box, cells_agg, h0]; rfl) ?_)
  have s0 := (Step.refl hok).push (k := .cells [] 0 true none) (fun _ _ _ _ he => by cases he)
  obtain ⟨r, M2, hc, s1, o1, _⟩ := clone_ok d _ (hv.grow s0.grow) s0.ok hn
  obtain ⟨M3, e3, s3, o3, hn3⟩ := lit_one (s0.trans s1) x
  have g3 : Grow M2 M3 := by
    have : M3 = M2.push (.cells [.int .u64 x] 0 true none) := by
      have : opI (.sliceLit 1 [.int .u64 0] [(0, 1)]) [.int .u64 x] M2 = some (.val (.slice (some (M2.n, 0)) 1 1 false) (M2.push (.cells [.int .u64 x] 0 true none))) := rfl
      rw [this] at e3; cases e3; rfl
    rw [this]; exact Grow.push s1.ok.1 _
  have f2 := (o1.mono (A := M) s0.grow.n).grow s1.ok.1 g3
  obtain ⟨r4, M4, e4, s4, o4⟩ := append_fresh s3 f2 (o3.row s3.ok.1) (by simp; omega) (by simp)
  show W _ _
  refine W_seq (W_seqR (by simp only [runSeq_cons, runSeq_nil, evalArgs_nil, evalArgs_tmp, val1, putT, Tr.get_set_self, Tr.get_set_ne, hd _, ne_eq, Nat.reduceEqDiff, not_false_eq_true, decide_true, Nat.reduceLT, opI_move, opI_callF, h1, h2, hc, e3, e4]; rfl) (W_ret ?_))
  exact ⟨_, fin_tmp (by simp only [Tr.get_set_self, Tr.get_set_ne, Tr.isSome_set, Option.isSome_some, hd _, ne_eq, Nat.reduceEqDiff, not_false_eq_true, decide_true, Nat.reduceLT]; try rfl), s4, o4⟩

set_option maxHeartbeats 1000000 in
theorem countput_ok {v : AV} {xs : List Int} {x : Int} (d : Nat) (M : AMem) (hv : Row M v xs) (hok : Okg M) (hn : xs.length < 90000) :
    Ans (callF tbl code 100000 (d + 2)) 41 [.agg [], v, .int .u64 x] M fun r M' => Step M M' ∧ Own M M' r [wrapF .u64 (sum64 xs + x)] := by
  refine Ans_of (tbl_none (by decide) _) (show code 41 = some c41 from by kernel_rfl) (by simp) fun t hd ha => ?_
  have h0 := ha 0 _ rfl
  have h1 := ha 1 v rfl
  have h2 := ha 2 _ rfl
  clear ha
  refine W_seq (W_seqR (by simp only [runSeq_cons, runSeq_nil, evalArgs_nil, evalArgs_tmp, evalArgs_const, val1, putT, opI_move, opI_box, cells_agg, h0]; rfl) ?_)
  have s0 := (Step.refl hok).push (k := .cells [] 0 true none) (fun _ _ _ _ he => by cases he)
  have hs := msum_ok d _ (hv.grow s0.grow) hn
  obtain ⟨M3, e3, s3, o3, hn3⟩ := lit_one s0 (wrapF .u64 (sum64 xs + x))
  show W _ _
  refine W_seq (W_seqR (by simp only [runSeq_cons, runSeq_nil, evalArgs_nil, evalArgs_tmp, val1, putT, Tr.get_set_self, Tr.get_set_ne, hd _, ne_eq, Nat.reduceEqDiff, not_false_eq_true, decide_true, Nat.reduceLT, opI_move, opI_add, opI_callF, push_n, h1, h2, hs, e3]; rfl) (W_ret ?_))
  exact ⟨_, fin_tmp (by simp only [Tr.get_set_self, Tr.get_set_ne, Tr.isSome_set, Option.isSome_some, hd _, ne_eq, Nat.reduceEqDiff, not_false_eq_true, decide_true, Nat.reduceLT, push_n]; try rfl), s3, o3⟩

set_option maxHeartbeats 1000000 in
theorem counttake_ok {v : AV} {xs : List Int} {x : Int} (d : Nat) (M : AMem) (hv : Row M v xs) (hok : Okg M) (hn : xs.length < 90000) :
    Ans (callF tbl code 100000 (d + 2)) 42 [.agg [], v, .int .u64 x] M fun r M' => ∃ r0, r = .tuple [r0, .bool (sum64 xs == x)] ∧ Step M M' ∧ Fresh M M' r0 xs := by
  refine Ans_of (tbl_none (by decide) _) (show code 42 = some c42 from by kernel_rfl) (by simp) fun t hd ha => ?_
  have h0 := ha 0 _ rfl
  have h1 := ha 1 v rfl
  have h2 := ha 2 _ rfl
  clear ha
  refine W_seq (W_seqR (by simp only [runSeq_cons, runSeq_nil, evalArgs_nil, evalArgs_tmp, evalArgs_const, val1, putT, opI_move, opI_box, cells_agg, h0]; rfl) ?_)
  have s0 := (Step.refl hok).push (k := .cells [] 0 true none) (fun _ _ _ _ he => by cases he)
  obtain ⟨r, M2, hc, s1, o1, _⟩ := clone_ok d _ (hv.grow s0.grow) s0.ok (by omega)
  have hs := msum_ok d M2 (hv.grow (s0.grow.trans s1.grow)) hn
  show W _ _
  refine W_seq (W_seqR (by simp only [runSeq_cons, runSeq_nil, evalArgs_nil, evalArgs_tmp, val1, putT, Tr.get_set_self, Tr.get_set_ne, hd _, ne_eq, Nat.reduceEqDiff, not_false_eq_true, decide_true, Nat.reduceLT, opI_move, opI_eql, opI_callF, h1, h2, hc, hs]; rfl) (W_ret ?_))
  exact ⟨_, fin_tmp2 (by simp only [Tr.get_set_self, Tr.get_set_ne, Tr.isSome_set, Option.isSome_some, hd _, ne_eq, Nat.reduceEqDiff, not_false_eq_true, decide_true, Nat.reduceLT]; try rfl) (by simp only [Tr.get_set_self, Tr.get_set_ne, Tr.isSome_set, Option.isSome_some, hd _, ne_eq, Nat.reduceEqDiff, not_false_eq_true, decide_true, Nat.reduceLT]; try rfl), _, rfl, s0.trans s1, o1.mono s0.grow.n⟩

set_option maxHeartbeats 1000000 in
theorem rowempty_ok {v : AV} {xs : List Int} (d : Nat) (M : AMem) (hv : Row M v xs) (hok : Okg M) :
    Ans (callF tbl code 100000 (d + 1)) 29 [.agg [], v] M fun r M' => Step M M' ∧ r = .bool ((xs.length : Int) == 0) := by
  refine Ans_of (tbl_none (by decide) _) (show code 29 = some c29 from by kernel_rfl) (by simp) fun t hd ha => ?_
  have h0 := ha 0 _ rfl
  have h1 := ha 1 v rfl
  clear ha
  refine W_seq (W_seqR (by simp only [runSeq_cons, runSeq_nil, evalArgs_nil, evalArgs_tmp, evalArgs_const, val1, putT, opI_move, opI_box, cells_agg, h0]; rfl) ?_)
  have s0 := (Step.refl hok).push (k := .cells [] 0 true none) (fun _ _ _ _ he => by cases he)
  have lu := (hv.grow s0.grow).len
  show W _ _
  refine W_seq (W_seqR (by simp only [runSeq_cons, runSeq_nil, evalArgs_nil, evalArgs_tmp, evalArgs_const, val1, putT, Tr.get_set_self, Tr.get_set_ne, hd _, ne_eq, Nat.reduceEqDiff, not_false_eq_true, decide_true, Nat.reduceLT, opI_move, opI_eql, h1, lu]; rfl) (W_ret ?_))
  exact ⟨_, fin_tmp (by simp only [Tr.get_set_self, Tr.get_set_ne, Tr.isSome_set, Option.isSome_some, hd _, ne_eq, Nat.reduceEqDiff, not_false_eq_true, decide_true, Nat.reduceLT]; try rfl), s0, rfl⟩

set_option maxHeartbeats 1000000 in
theorem countempty_ok {v : AV} (d : Nat) (M : AMem) (hok : Okg M) :
    Ans (callF tbl code 100000 (d + 1)) 39 [.agg [], v] M fun r M' => Step M M' ∧ r = .bool false := by
  refine Ans_of (tbl_none (by decide) _) (show code 39 = some c39 from by kernel_rfl) (by simp) fun t hd ha => ?_
  have h0 := ha 0 _ rfl
  clear ha
  refine W_seq (W_seqR (by simp only [runSeq_cons, runSeq_nil, evalArgs_nil, evalArgs_tmp, evalArgs_const, val1, putT, opI_move, opI_box, cells_agg, h0]; rfl) ?_)
  have s0 := (Step.refl hok).push (k := .cells [] 0 true none) (fun _ _ _ _ he => by cases he)
  show W _ _
  refine W_seq (W_seqR (by simp only [runSeq_cons, runSeq_nil, evalArgs_nil, evalArgs_const, val1, putT, opI_move]; rfl) (W_ret ?_))
  exact ⟨_, fin_tmp (by simp only [Tr.get_set_self, Tr.isSome_set, Option.isSome_some, hd _, decide_true, Nat.reduceLT]; try rfl), s0, rfl⟩

/-- the place of the first one such; -1: there is none -/
def indexOf (x : Int) (xs : List Int) : Int := if x ∈ xs then (xs.idxOf x : Int) else -1
theorem idxOf_at {x : Int} {xs : List Int} {i : Nat} (hi : i < xs.length) (h : xs[i] = x) (hj : ∀ j, (hj : j < i) → xs[j]'(by omega) ≠ x) : indexOf x xs = i := by
  have hm : x ∈ xs := h ▸ List.getElem_mem hi
  unfold indexOf
  rw [if_pos hm]
  have h1 : xs.idxOf x ≤ i := by
    rcases Nat.lt_or_ge i (xs.idxOf x) with hl | hl
    · have := List.not_of_lt_findIdx (p := (· == x)) (xs := xs) (i := i) hl
      simp [h] at this
    · exact hl
  rcases Nat.lt_or_ge (xs.idxOf x) i with hl | hl
  · have := hj _ hl
    exact absurd (List.getElem_idxOf (by omega)) this
  · omega
set_option maxHeartbeats 1000000 in
theorem index_ok {u : AV} {xs : List Int} {x : Int} (d : Nat) (M : AMem) (hu : Row M u xs) (hn : xs.length < 90000) :
    callF tbl code 100000 (d + 1) 35 [u, .int .u64 x] M = some (.int .i64 (indexOf x xs), M) := by
  refine Ans.eq ?_
  refine Ans_of (tbl_none (by decide) _) (show code 35 = some c35 from by kernel_rfl) (by simp) fun t hd ha => ?_
  have h0 := ha 0 u rfl
  have h1 := ha 1 _ rfl
  have lu := hu.len
  clear ha
  refine W_seq (W_seqR (by simp only [runSeq_cons, runSeq_nil, evalArgs_nil, evalArgs_const, val1, putT, opI_move]; rfl) ?_)
  refine W_seq (W_seq (W_seqR (by simp only [runSeq_cons, runSeq_nil, evalArgs_nil, evalArgs_tmp, evalArgs_const, val1, putT, Tr.get_set_self, Tr.get_set_ne, hd _, ne_eq, Nat.reduceEqDiff, not_false_eq_true, decide_true, Nat.reduceLT, opI_move, h0, lu]; rfl) (W_block (W_loop (fun k t M' => ∃ i : Nat, k + i = xs.length ∧ M' = M ∧ Dom t 19 ∧ t.get 0 = some u ∧ t.get 1 = some (.int .u64 x) ∧ t.get 7 = some (.int .i64 xs.length) ∧ t.get 8 = some (.int .i64 i) ∧ ∀ j, (hj : j < i) → (hl : j < xs.length) → xs[j] ≠ x) (k := xs.length) (by omega) ?_ ?_))))
  · exact ⟨0, rfl, rfl, by ((repeat (with_reducible apply Dom.set)); exact hd), by simp only [Tr.get_set_ne, ne_eq, Nat.reduceEqDiff, not_false_eq_true, h0], by simp only [Tr.get_set_ne, ne_eq, Nat.reduceEqDiff, not_false_eq_true, h1], by simp only [Tr.get_set_self, Tr.get_set_ne, hd _, ne_eq, Nat.reduceEqDiff, not_false_eq_true, decide_true, Nat.reduceLT], by simp only [Tr.get_set_self, Tr.get_set_ne, hd _, ne_eq, Nat.reduceEqDiff, not_false_eq_true, decide_true, Nat.reduceLT]; rfl, fun j hj => by omega⟩
  clear h0 h1 hd
  intro k t' M' ⟨i, hk, hM, hd, h0, h1, h7, h8, hj⟩
  subst hM
  refine W_seq (W_seqR (by simp only [runSeq_cons, runSeq_nil, evalArgs_nil, evalArgs_tmp, val1, putT, opI_lss, h7, h8]; rfl) (W_seq ?_))
  refine W_cond (by simp only [PArg.eval, Tr.get_set_self, hd _, decide_true, Nat.reduceLT]; rfl) (fun hb => ?_) (fun hb => ?_)
  rotate_left
  · refine W_exit ?_
    have hin : i = xs.length := by simp at hb; omega
    show W _ _
    refine W_seq (W_seqR (by simp only [runSeq_cons, runSeq_nil, evalArgs_nil, evalArgs_const, val1, putT, opI_move]; rfl) (W_ret ?_))
    refine ⟨_, fin_tmp (by simp only [Tr.get_set_self, Tr.get_set_ne, hd _, ne_eq, Nat.reduceEqDiff, not_false_eq_true, decide_true, Nat.reduceLT]; try rfl), rfl, ?_⟩
    have : x ∉ xs := fun hm => by
      obtain ⟨j, hl, he⟩ := List.mem_iff_getElem.1 hm
      exact hj j (by omega) hl he
    simp [resV, indexOf, this]
  have hin : i < xs.length := by simpa using hb
  obtain ⟨p, e1, e2⟩ := hu.at_ hin
  refine W_skip (W_seq (W_block (W_seq (W_seqR (by simp only [runSeq_cons, runSeq_nil, evalArgs_nil, evalArgs_tmp, val1, putT, Tr.get_set_self, Tr.get_set_ne, hd _, ne_eq, Nat.reduceEqDiff, not_false_eq_true, decide_true, Nat.reduceLT, opI_move, h8]; rfl) (W_seq (W_seqR (by simp only [runSeq_cons, runSeq_nil, evalArgs_nil, evalArgs_tmp, val1, putT, Tr.get_set_self, Tr.get_set_ne, hd _, ne_eq, Nat.reduceEqDiff, not_false_eq_true, decide_true, Nat.reduceLT, opI_move, opI_eql, h0, h1, e1, e2]; rfl) ?_))))))
  refine W_cond (by simp only [PArg.eval, Tr.get_set_self, Tr.get_set_ne, hd _, ne_eq, Nat.reduceEqDiff, not_false_eq_true, decide_true, Nat.reduceLT]; rfl) (fun hb => ?_) (fun hb => ?_)
  · refine W_seq (W_seqR (by simp only [runSeq_cons, runSeq_nil, evalArgs_nil, evalArgs_tmp, val1, putT, Tr.get_set_self, Tr.get_set_ne, hd _, ne_eq, Nat.reduceEqDiff, not_false_eq_true, decide_true, Nat.reduceLT, opI_move]; rfl) (W_ret ?_))
    refine ⟨_, fin_tmp (by simp only [Tr.get_set_self, Tr.get_set_ne, hd _, ne_eq, Nat.reduceEqDiff, not_false_eq_true, decide_true, Nat.reduceLT]; try rfl), rfl, ?_⟩
    have h : x = xs[i] := by simpa using hb
    rw [idxOf_at hin h.symm (fun j hjl => hj j hjl (by omega))]; rfl
  have hne : x ≠ xs[i] := by simpa using hb
  refine W_skip (W_seqR (by simp only [runSeq_cons, runSeq_nil, evalArgs_nil, evalArgs_tmp, evalArgs_const, val1, putT, Tr.get_set_self, Tr.get_set_ne, hd _, ne_eq, Nat.reduceEqDiff, not_false_eq_true, decide_true, Nat.reduceLT, opI_move, opI_add, h8]; rfl) ?_)
  refine ⟨k - 1, by omega, i + 1, by omega, rfl, by ((repeat (with_reducible apply Dom.set)); exact hd), by simp only [Tr.get_set_ne, ne_eq, Nat.reduceEqDiff, not_false_eq_true, h0], by simp only [Tr.get_set_ne, ne_eq, Nat.reduceEqDiff, not_false_eq_true, h1], by simp only [Tr.get_set_ne, ne_eq, Nat.reduceEqDiff, not_false_eq_true, h7], ?_, fun j hj' hl => ?_⟩
  · simp only [Tr.get_set_self, Tr.get_set_ne, hd _, ne_eq, Nat.reduceEqDiff, not_false_eq_true, decide_true, Nat.reduceLT]
    rw [wrapF_small (by omega) (by omega)]; rfl
  · rcases Nat.lt_or_ge j i with h | h
    · exact hj j h hl
    · have : j = i := by omega
      subst this; exact fun he => hne he.symm

set_option maxHeartbeats 1000000 in
theorem delete_ok {b i : Nat} {xs : List Int} {g : Option Nat} (d : Nat) (M0 M : AMem) (h : Step M0 M) (hb : M0.n ≤ b) (hg : M.get b = some (.cells (U xs) 1 true g)) (hgg : ∀ g', g = some g' → M0.n ≤ g') (hi : i < xs.length) (hn : xs.length ≤ 90000) :
    Ans (callF tbl code 100000 (d + 1)) 36 [.slice (some (b, 0)) xs.length xs.length true, .int .i64 i, .int .i64 (i + 1 : Nat)] M fun r M' => Step M0 M' ∧ Mine M0 M' r (xs.eraseIdx i) := by
  obtain ⟨w, src, M1, M2, e1, e2, e3, e4, e5, e6, s2, m2⟩ := del_ok h hb hg hgg hi hn
  refine Ans_of (tbl_none (by decide) _) (show code 36 = some c36 from by kernel_rfl) (by simp) fun t hd ha => ?_
  have h0 := ha 0 _ rfl
  have h1 := ha 1 _ rfl
  have h2 := ha 2 _ rfl
  clear ha
  have hh := held_none h.ok.1
  refine W_seq (W_seqR (by simp only [runSeq_cons, runSeq_nil, evalArgs_nil, evalArgs_const, val1, putT, opI_move]; rfl) ?_)
  refine W_seq (W_seqR (by simp only [runSeq_cons, runSeq_nil, evalArgs_nil, evalArgs_tmp, val1, putT, Tr.get_set_self, Tr.get_set_ne, hd _, ne_eq, Nat.reduceEqDiff, not_false_eq_true, decide_true, Nat.reduceLT, opI_move, opI_lenO, h0, h1, h2, e1]; rfl) ?_)
  have hne : ((i : Int) == ((i + 1 : Nat) : Int)) = false := by simp; omega
  refine W_seq (W_seq (W_seqR (by simp only [runSeq_cons, runSeq_nil, evalArgs_nil, evalArgs_tmp, val1, putT, Tr.get_set_self, Tr.get_set_ne, hd _, ne_eq, Nat.reduceEqDiff, not_false_eq_true, decide_true, Nat.reduceLT, opI_move, opI_eql, h1, h2, hne]; rfl) ?_))
  refine W_cond (by simp only [PArg.eval, Tr.get_set_self, Tr.get_set_ne, hd _, ne_eq, Nat.reduceEqDiff, not_false_eq_true, decide_true, Nat.reduceLT]; rfl) (fun hb => by simp at hb) (fun _ => W_skip ?_)
  refine W_seq (W_seqR (by simp only [runSeq_cons, runSeq_nil, evalArgs_nil, evalArgs_tmp, val1, putT, Tr.get_set_self, Tr.get_set_ne, hd _, ne_eq, Nat.reduceEqDiff, not_false_eq_true, decide_true, Nat.reduceLT, opI_move, opI_lenO, h0]; rfl) ?_)
  refine W_seq (W_mix rfl (by simp only [sameN_self, evalArgs_nil, evalArgs_tmp, val1, putT, Tr.get_set_self, Tr.get_set_ne, hd _, ne_eq, Nat.reduceEqDiff, not_false_eq_true, decide_true, Nat.reduceLT, opI_move, runMix_nil, runMix_read, runMix_eff, h0, h1, h2, e2, e3, e4, hh]; rfl) ?_)
  refine W_seq (W_seqR (by simp only [runSeq_cons, runSeq_nil, evalArgs_nil, evalArgs_tmp, val1, putT, Tr.get_set_self, Tr.get_set_ne, hd _, ne_eq, Nat.reduceEqDiff, not_false_eq_true, decide_true, Nat.reduceLT, opI_move, opI_lenO, e5, e6]; rfl) ?_)
  refine W_seq (W_seqR (by simp only [runSeq_cons, runSeq_nil, evalArgs_nil, evalArgs_tmp, val1, putT, Tr.get_set_self, Tr.get_set_ne, hd _, ne_eq, Nat.reduceEqDiff, not_false_eq_true, decide_true, Nat.reduceLT, opI_move]; rfl) (W_ret ?_))
  exact ⟨_, fin_tmp (by simp only [Tr.get_set_self, Tr.get_set_ne, Option.isSome_some, hd _, ne_eq, Nat.reduceEqDiff, not_false_eq_true, decide_true, Nat.reduceLT]; try rfl), s2, m2⟩
end Go.Proofs.Ytefcnhmbpkdlmaa.model
