/- ExploreSame, the walks of the functions that it calls, at whatever comes in. -/
import Derived.Test.YtefcnhmbpkdlmabGreatDoorT
import Derived.Test.YtefcnhmbpkdlmabGreatDoorVx19
namespace Go.Proofs.YtefcnhmbpkdlmabGreatDoor.exploreSame
open Go Go.Vx

def tbl (f : FuncId) (args : List AV) : Option AV := if f = 4 then match args with
  | [] => some (.bool true)
  | _ => none else none
theorem tbl_none {f : FuncId} (h : f ≠ 4) (a : List AV) : tbl f a = none := by unfold tbl; rw [if_neg h]

set_option maxHeartbeats 1000000 in
theorem same_ok {G : Addr → Option AV} {k : IntKind} {u v : AV} {n m : Nat} {f g : Nat → Int} (hu : RdI G k u n f) (hv : RdI G k v m g) (hn : n < 90000) (d : Nat) (M : AMem) (hG : M.g = G) :
    callF tbl code 100000 (d + 1) 5 [u, v] M = some (.bool (eqB n m f g), M) := by
  refine Ans.eq ?_
  unfold eqB
  refine Ans_of (tbl_none (by decide) _) (show code 5 = some c5 from by kernel_rfl) (by simp) fun t hd ha => ?_
  have h0 := ha 0 u rfl
  have h1 := ha 1 v rfl
  have lu := hu.len M
  have lv := hv.len M
  clear ha
  refine W_seq (W_seqR (by simp only [runSeq_cons, runSeq_nil, evalArgs_nil, evalArgs_const, val1, putT, opI_move]; rfl) ?_)
  refine W_seq (W_seq (W_seqR (by simp only [runSeq_cons, runSeq_nil, evalArgs_nil, evalArgs_tmp, val1, putT, Tr.get_set_self, Tr.get_set_ne, hd _, ne_eq, Nat.reduceEqDiff, not_false_eq_true, decide_true, Nat.reduceLT, opI_move, opI_neq, h0, h1, lu, lv]; rfl) ?_))
  refine W_cond (by simp only [PArg.eval, Tr.get_set_self, Tr.get_set_ne, hd _, ne_eq, Nat.reduceEqDiff, not_false_eq_true, decide_true, Nat.reduceLT]; rfl) (fun hb => ?_) (fun hb => ?_)
  · refine W_seq (W_seqR (by simp only [runSeq_cons, runSeq_nil, evalArgs_nil, evalArgs_const, val1, putT, opI_move]; rfl) (W_ret ?_))
    refine ⟨_, fin_tmp (by simp only [Tr.get_set_self, Tr.get_set_ne, Option.isSome_some, hd _, ne_eq, Nat.reduceEqDiff, not_false_eq_true, decide_true, Nat.reduceLT]; rfl), rfl, ?_⟩
    have : n ≠ m := by simp at hb; omega
    simp [resV, this]
  have hnm : n = m := by simp at hb; omega
  subst hnm
  clear hb
  refine W_skip (W_seq (W_seq (W_seqR (by simp only [runSeq_cons, runSeq_nil, evalArgs_nil, evalArgs_const, val1, putT, opI_move]; rfl) (W_block (W_loop (fun k t M' => ∃ i : Nat, k + i = n ∧ M' = M ∧ Dom t 26 ∧ t.get 0 = some u ∧ t.get 1 = some v ∧ t.get 5 = some (.int .i64 i) ∧ ∀ j, j < i → f j = g j) (k := n) (by omega) ?_ ?_)))))
  · exact ⟨0, rfl, rfl, by (repeat (first | exact hd | apply Dom.set)), by simp only [Tr.get_set_ne, ne_eq, Nat.reduceEqDiff, not_false_eq_true, h0], by simp only [Tr.get_set_ne, ne_eq, Nat.reduceEqDiff, not_false_eq_true, h1], by simp only [Tr.get_set_self, Tr.get_set_ne, hd _, ne_eq, Nat.reduceEqDiff, not_false_eq_true, decide_true, Nat.reduceLT]; rfl, fun j hj => by omega⟩
  clear h0 h1 hd
  intro k t' M' ⟨i, hk, hM, hd, h0, h1, h5, hj⟩
  subst hM
  refine W_seq (W_seq (W_seqR (by simp only [runSeq_cons, runSeq_nil, evalArgs_nil, evalArgs_tmp, val1, putT, Tr.get_set_self, Tr.get_set_ne, hd _, ne_eq, Nat.reduceEqDiff, not_false_eq_true, decide_true, Nat.reduceLT, opI_move, opI_lss, h0, h5, lu]; rfl) ?_))
  refine W_cond (by simp only [PArg.eval, Tr.get_set_self, Tr.get_set_ne, hd _, ne_eq, Nat.reduceEqDiff, not_false_eq_true, decide_true, Nat.reduceLT]; rfl) (fun hb => ?_) (fun hb => ?_)
  rotate_left
  · refine W_exit ?_
    have hin : i = n := by simp at hb; omega
    subst hin
    show W _ _
    refine W_seq (W_seqR (by simp only [runSeq_cons, runSeq_nil, evalArgs_nil, evalArgs_const, val1, putT, opI_move]; rfl) (W_ret ?_))
    refine ⟨_, fin_tmp (by simp only [Tr.get_set_self, Tr.get_set_ne, hd _, ne_eq, Nat.reduceEqDiff, not_false_eq_true, decide_true, Nat.reduceLT]; rfl), rfl, ?_⟩
    simp [resV]; exact hj
  have hin : i < n := by simpa using hb
  obtain ⟨p, e1, e2⟩ := hu.at_ hin
  obtain ⟨q, e3, e4⟩ := hv.at_ hin
  have e2 := e2 M' hG
  have e4 := e4 M' hG
  refine W_skip (W_seq (W_block (W_seq (W_quiet rfl (by simp only [runPure_cons, runPure_nil, ofD_cons, ofD_nil, sameN_self, evalArgs_nil, evalArgs_tmp, putT, Tr.get_set_self, Tr.get_set_ne, hd _, ne_eq, Nat.reduceEqDiff, not_false_eq_true, decide_true, Nat.reduceLT, opI_move, opI_neq, h0, h1, h5, e1, e2, e3, e4]; rfl) ?_))))
  refine W_cond (by simp only [PArg.eval, Tr.get_set_self, Tr.get_set_ne, hd _, ne_eq, Nat.reduceEqDiff, not_false_eq_true, decide_true, Nat.reduceLT]; rfl) (fun hb => ?_) (fun hb => ?_)
  · refine W_seq (W_seqR (by simp only [runSeq_cons, runSeq_nil, evalArgs_nil, evalArgs_const, val1, putT, opI_move]; rfl) (W_ret ?_))
    refine ⟨_, fin_tmp (by simp only [Tr.get_set_self, Tr.get_set_ne, hd _, ne_eq, Nat.reduceEqDiff, not_false_eq_true, decide_true, Nat.reduceLT]; rfl), rfl, ?_⟩
    have : f i ≠ g i := by simpa using hb
    simp [resV]; exact ⟨i, hin, this⟩
  have hfg : f i = g i := by simpa using hb
  refine W_skip (W_seqR (by simp only [runSeq_cons, runSeq_nil, evalArgs_nil, evalArgs_tmp, evalArgs_const, val1, putT, Tr.get_set_self, Tr.get_set_ne, hd _, ne_eq, Nat.reduceEqDiff, not_false_eq_true, decide_true, Nat.reduceLT, opI_move, opI_add, h5]; rfl) ?_)
  refine ⟨k - 1, by omega, i + 1, by omega, rfl, by (repeat (first | exact hd | apply Dom.set)), by simp only [Tr.get_set_ne, ne_eq, Nat.reduceEqDiff, not_false_eq_true, h0], by simp only [Tr.get_set_ne, ne_eq, Nat.reduceEqDiff, not_false_eq_true, h1], ?_, fun j hj' => ?_⟩
  · simp only [Tr.get_set_self, Tr.get_set_ne, hd _, ne_eq, Nat.reduceEqDiff, not_false_eq_true, decide_true, Nat.reduceLT]
    rw [wrapF_small (by omega) (by omega)]; rfl
  · rcases Nat.lt_or_ge j i with h | h
    · exact hj j h
    · rw [show j = i by omega]; exact hfg

set_option maxHeartbeats 1000000 in
theorem equal_ok {G : Addr → Option AV} {k : IntKind} {u v : AV} {n m : Nat} {f g : Nat → Int} (hu : RdI G k u n f) (hv : RdI G k v m g) (hn : n < 90000) (d : Nat) (M : AMem) (hG : M.g = G) :
    callF tbl code 100000 (d + 1) 11 [u, v] M = some (.bool (eqB n m f g), M) := by
  refine Ans.eq ?_
  unfold eqB
  refine Ans_of (tbl_none (by decide) _) (show code 11 = some c11 from by kernel_rfl) (by simp) fun t hd ha => ?_
  have h0 := ha 0 u rfl
  have h1 := ha 1 v rfl
  have lu := hu.len M
  have lv := hv.len M
  clear ha
  refine W_seq (W_seqR (by simp only [runSeq_cons, runSeq_nil, evalArgs_nil, evalArgs_const, val1, putT, opI_move]; rfl) ?_)
  refine W_seq (W_seq (W_seqR (by simp only [runSeq_cons, runSeq_nil, evalArgs_nil, evalArgs_tmp, val1, putT, Tr.get_set_self, Tr.get_set_ne, hd _, ne_eq, Nat.reduceEqDiff, not_false_eq_true, decide_true, Nat.reduceLT, opI_move, opI_neq, h0, h1, lu, lv]; rfl) ?_))
  refine W_cond (by simp only [PArg.eval, Tr.get_set_self, Tr.get_set_ne, hd _, ne_eq, Nat.reduceEqDiff, not_false_eq_true, decide_true, Nat.reduceLT]; rfl) (fun hb => ?_) (fun hb => ?_)
  · refine W_seq (W_seqR (by simp only [runSeq_cons, runSeq_nil, evalArgs_nil, evalArgs_const, val1, putT, opI_move]; rfl) (W_ret ?_))
    refine ⟨_, fin_tmp (by simp only [Tr.get_set_self, Tr.get_set_ne, Option.isSome_some, hd _, ne_eq, Nat.reduceEqDiff, not_false_eq_true, decide_true, Nat.reduceLT]; rfl), rfl, ?_⟩
    have : n ≠ m := by simp at hb; omega
    simp [resV, this]
  have hnm : n = m := by simp at hb; omega
  subst hnm
  clear hb
  refine W_skip (W_seq (W_seq (W_seqR (by simp only [runSeq_cons, runSeq_nil, evalArgs_nil, evalArgs_tmp, evalArgs_const, val1, putT, Tr.get_set_self, Tr.get_set_ne, hd _, ne_eq, Nat.reduceEqDiff, not_false_eq_true, decide_true, Nat.reduceLT, opI_move, h0, lu]; rfl) (W_block (W_loop (fun k t M' => ∃ i : Nat, k + i = n ∧ M' = M ∧ Dom t 26 ∧ t.get 0 = some u ∧ t.get 1 = some v ∧ t.get 12 = some (.int .i64 n) ∧ t.get 13 = some (.int .i64 i) ∧ ∀ j, j < i → f j = g j) (k := n) (by omega) ?_ ?_)))))
  · exact ⟨0, rfl, rfl, by (repeat (first | exact hd | apply Dom.set)), by simp only [Tr.get_set_ne, ne_eq, Nat.reduceEqDiff, not_false_eq_true, h0], by simp only [Tr.get_set_ne, ne_eq, Nat.reduceEqDiff, not_false_eq_true, h1], by simp only [Tr.get_set_self, Tr.get_set_ne, hd _, ne_eq, Nat.reduceEqDiff, not_false_eq_true, decide_true, Nat.reduceLT], by simp only [Tr.get_set_self, Tr.get_set_ne, hd _, ne_eq, Nat.reduceEqDiff, not_false_eq_true, decide_true, Nat.reduceLT]; rfl, fun j hj => by omega⟩
  clear h0 h1 hd
  intro k t' M' ⟨i, hk, hM, hd, h0, h1, h12, h13, hj⟩
  subst hM
  refine W_seq (W_seqR (by simp only [runSeq_cons, runSeq_nil, evalArgs_nil, evalArgs_tmp, val1, putT, opI_lss, h12, h13]; rfl) (W_seq ?_))
  refine W_cond (by simp only [PArg.eval, Tr.get_set_self, hd _, decide_true, Nat.reduceLT]; rfl) (fun hb => ?_) (fun hb => ?_)
  rotate_left
  · refine W_exit ?_
    have hin : i = n := by simp at hb; omega
    subst hin
    show W _ _
    refine W_seq (W_seqR (by simp only [runSeq_cons, runSeq_nil, evalArgs_nil, evalArgs_const, val1, putT, opI_move]; rfl) (W_ret ?_))
    refine ⟨_, fin_tmp (by simp only [Tr.get_set_self, Tr.get_set_ne, hd _, ne_eq, Nat.reduceEqDiff, not_false_eq_true, decide_true, Nat.reduceLT]; rfl), rfl, ?_⟩
    simp [resV]; exact hj
  have hin : i < n := by simpa using hb
  obtain ⟨p, e1, e2⟩ := hu.at_ hin
  obtain ⟨q, e3, e4⟩ := hv.at_ hin
  have e2 := e2 M' hG
  have e4 := e4 M' hG
  refine W_skip (W_seq (W_block (W_seq (W_seqR (by simp only [runSeq_cons, runSeq_nil, evalArgs_nil, evalArgs_tmp, val1, putT, Tr.get_set_self, Tr.get_set_ne, hd _, ne_eq, Nat.reduceEqDiff, not_false_eq_true, decide_true, Nat.reduceLT, opI_move, h13]; rfl) (W_seq (W_quiet rfl (by simp only [runPure_cons, runPure_nil, ofD_cons, ofD_nil, sameN_self, evalArgs_nil, evalArgs_tmp, putT, Tr.get_set_self, Tr.get_set_ne, hd _, ne_eq, Nat.reduceEqDiff, not_false_eq_true, decide_true, Nat.reduceLT, opI_move, opI_neq, h0, h1, e1, e2, e3, e4]; rfl) ?_))))))
  refine W_cond (by simp only [PArg.eval, Tr.get_set_self, Tr.get_set_ne, hd _, ne_eq, Nat.reduceEqDiff, not_false_eq_true, decide_true, Nat.reduceLT]; rfl) (fun hb => ?_) (fun hb => ?_)
  · refine W_seq (W_seqR (by simp only [runSeq_cons, runSeq_nil, evalArgs_nil, evalArgs_const, val1, putT, opI_move]; rfl) (W_ret ?_))
    refine ⟨_, fin_tmp (by simp only [Tr.get_set_self, Tr.get_set_ne, hd _, ne_eq, Nat.reduceEqDiff, not_false_eq_true, decide_true, Nat.reduceLT]; rfl), rfl, ?_⟩
    have : f i ≠ g i := by simpa using hb
    simp [resV]; exact ⟨i, hin, this⟩
  have hfg : f i = g i := by simpa using hb
  refine W_skip (W_seqR (by simp only [runSeq_cons, runSeq_nil, evalArgs_nil, evalArgs_tmp, evalArgs_const, val1, putT, Tr.get_set_self, Tr.get_set_ne, hd _, ne_eq, Nat.reduceEqDiff, not_false_eq_true, decide_true, Nat.reduceLT, opI_move, opI_add, h13]; rfl) ?_)
  refine ⟨k - 1, by omega, i + 1, by omega, rfl, by (repeat (first | exact hd | apply Dom.set)), by simp only [Tr.get_set_ne, ne_eq, Nat.reduceEqDiff, not_false_eq_true, h0], by simp only [Tr.get_set_ne, ne_eq, Nat.reduceEqDiff, not_false_eq_true, h1], by simp only [Tr.get_set_ne, ne_eq, Nat.reduceEqDiff, not_false_eq_true, h12], ?_, fun j hj' => ?_⟩
  · simp only [Tr.get_set_self, Tr.get_set_ne, hd _, ne_eq, Nat.reduceEqDiff, not_false_eq_true, decide_true, Nat.reduceLT]
    rw [wrapF_small (by omega) (by omega)]; rfl
  · rcases Nat.lt_or_ge j i with h | h
    · exact hj j h
    · rw [show j = i by omega]; exact hfg

/-- two results: the same? -/
def resB (c1 c2 v1 v2 : Int) (n m : Nat) (f g : Nat → Int) : Bool := (c1 == c2) && ((v1 == v2) && eqB n m f g)
set_option maxHeartbeats 1000000 in
theorem res6_ok {G : Addr → Option AV} {c1 c2 v1 v2 : Int} {u v : AV} {n m : Nat} {f g : Nat → Int} (hu : RdI G .u64 u n f) (hv : RdI G .u64 v m g) (hn : n < 90000) (d : Nat) (M : AMem) (hG : M.g = G) (hok : Ok M) :
    Ans (callF tbl code 100000 (d + 2)) 6 [.agg [.int .i64 c1, .int .u64 v1, u], .agg [.int .i64 c2, .int .u64 v2, v]] M fun r M' => Grow M M' ∧ r = .bool (resB c1 c2 v1 v2 n m f g) := by
  refine Ans_of (tbl_none (by decide) _) (show code 6 = some c6 from by kernel_rfl) (by simp) fun t hd ha => ?_
  have h0 := ha 0 _ rfl
  have h1 := ha 1 _ rfl
  clear ha
  refine W_seq (W_seqR (by simp only [runSeq_cons, runSeq_nil, evalArgs_nil, evalArgs_tmp, evalArgs_const, val1, putT, Tr.get_set_ne, ne_eq, Nat.reduceEqDiff, not_false_eq_true, opI_move, opI_box, cells_agg, push_n, h0, h1]; rfl) ?_)
  have hok1 := hok.push (.cells [.int .i64 c1, .int .u64 v1, u] 0 true none)
  have hok2 := hok1.push (.cells [.int .i64 c2, .int .u64 v2, v] 0 true none)
  have ga := (get_push_old (k := .cells [.int .i64 c2, .int .u64 v2, v] 0 true none) hok1 (show M.n < M.n + 1 by omega)).trans (get_push_self (k := .cells [.int .i64 c1, .int .u64 v1, u] 0 true none) hok)
  have gb := get_push_self (k := .cells [.int .i64 c2, .int .u64 v2, v] 0 true none) hok1
  simp only [push_n] at gb
  have a0 := load_own (o := 0) ga rfl
  have a1 := load_own (o := 1) ga rfl
  have a2 := load_own (o := 2) ga rfl
  have b0 := load_own (o := 0) gb rfl
  have b1 := load_own (o := 1) gb rfl
  have b2 := load_own (o := 2) gb rfl
  have hg := (Grow.push hok (.cells [.int .i64 c1, .int .u64 v1, u] 0 true none)).trans (Grow.push hok1 (.cells [.int .i64 c2, .int .u64 v2, v] 0 true none))
  have he := same_ok hu hv hn d _ (hg.g.trans hG)
  unfold resB
  cases hk : (c1 == c2) <;> cases htt : (v1 == v2)
  all_goals
    refine W_seq (W_seqR (by simp only [runSeq_cons, runSeq_nil, evalArgs_nil, evalArgs_tmp, evalArgs_const, val1, putT, Tr.get_set_self, Tr.get_set_ne, Tr.isSome_set, hd _, ne_eq, Nat.reduceEqDiff, not_false_eq_true, decide_true, Nat.reduceLT, opI_move, opI_eql, opI_callF, opI_fieldP, opI_pick, Nat.zero_add, Nat.add_zero, runSeq_guard (b := true), runSeq_guard (b := false), beq_self_eq_true, Bool.false_beq, Bool.not_true, a0, a1, a2, b0, b1, b2, hk, htt, he]; rfl) (W_ret ?_))
    refine ⟨_, fin_tmp (by simp only [Tr.get_set_self, Tr.get_set_ne, Tr.isSome_set, Option.isSome_some, hd _, ne_eq, Nat.reduceEqDiff, not_false_eq_true, decide_true, Nat.reduceLT]; rfl), hg, ?_⟩
    simp [resV]

set_option maxHeartbeats 1000000 in
theorem res10_ok {G : Addr → Option AV} {c1 c2 v1 v2 : Int} {u v : AV} {n m : Nat} {f g : Nat → Int} (hu : RdI G .u64 u n f) (hv : RdI G .u64 v m g) (hn : n < 90000) (d : Nat) (M : AMem) (hG : M.g = G) (hok : Ok M) :
    Ans (callF tbl code 100000 (d + 2)) 10 [.agg [.int .i64 c1, .int .u64 v1, u], .agg [.int .i64 c2, .int .u64 v2, v]] M fun r M' => Grow M M' ∧ r = .bool (resB c1 c2 v1 v2 n m f g) := by
  refine Ans_of (tbl_none (by decide) _) (show code 10 = some c10 from by kernel_rfl) (by simp) fun t hd ha => ?_
  have h0 := ha 0 _ rfl
  have h1 := ha 1 _ rfl
  clear ha
  refine W_seq (W_seqR (by simp only [runSeq_cons, runSeq_nil, evalArgs_nil, evalArgs_tmp, evalArgs_const, val1, putT, Tr.get_set_ne, ne_eq, Nat.reduceEqDiff, not_false_eq_true, opI_move, opI_box, cells_agg, push_n, h0, h1]; rfl) ?_)
  have hok1 := hok.push (.cells [.int .i64 c1, .int .u64 v1, u] 0 true none)
  have hok2 := hok1.push (.cells [.int .i64 c2, .int .u64 v2, v] 0 true none)
  have ga := (get_push_old (k := .cells [.int .i64 c2, .int .u64 v2, v] 0 true none) hok1 (show M.n < M.n + 1 by omega)).trans (get_push_self (k := .cells [.int .i64 c1, .int .u64 v1, u] 0 true none) hok)
  have gb := get_push_self (k := .cells [.int .i64 c2, .int .u64 v2, v] 0 true none) hok1
  simp only [push_n] at gb
  have a0 := load_own (o := 0) ga rfl
  have a1 := load_own (o := 1) ga rfl
  have a2 := load_own (o := 2) ga rfl
  have b0 := load_own (o := 0) gb rfl
  have b1 := load_own (o := 1) gb rfl
  have b2 := load_own (o := 2) gb rfl
  have hg := (Grow.push hok (.cells [.int .i64 c1, .int .u64 v1, u] 0 true none)).trans (Grow.push hok1 (.cells [.int .i64 c2, .int .u64 v2, v] 0 true none))
  have he := equal_ok hu hv hn d _ (hg.g.trans hG)
  unfold resB
  cases hk : (c1 == c2) <;> cases htt : (v1 == v2)
  all_goals
    refine W_seq (W_seqR (by simp only [runSeq_cons, runSeq_nil, evalArgs_nil, evalArgs_tmp, evalArgs_const, val1, putT, Tr.get_set_self, Tr.get_set_ne, Tr.isSome_set, hd _, ne_eq, Nat.reduceEqDiff, not_false_eq_true, decide_true, Nat.reduceLT, opI_move, opI_eql, opI_callF, opI_fieldP, opI_pick, Nat.zero_add, Nat.add_zero, runSeq_guard (b := true), runSeq_guard (b := false), beq_self_eq_true, Bool.false_beq, Bool.not_true, a0, a1, a2, b0, b1, b2, hk, htt, he]; rfl) (W_ret ?_))
    refine ⟨_, fin_tmp (by simp only [Tr.get_set_self, Tr.get_set_ne, Tr.isSome_set, Option.isSome_some, hd _, ne_eq, Nat.reduceEqDiff, not_false_eq_true, decide_true, Nat.reduceLT]; rfl), hg, ?_⟩
    simp [resV]


/-- row by row -/
def resAt (c1 c2 v1 v2 : Nat → Int) (n1 n2 : Nat → Nat) (f1 f2 : Nat → Nat → Int) (i : Nat) : Bool := resB (c1 i) (c2 i) (v1 i) (v2 i) (n1 i) (n2 i) (f1 i) (f2 i)
theorem rdR_at {G : Addr → Option AV} {v : AV} {n : Nat} {cd vl : Nat → Int} {l : Nat → AV} {ln : Nat → Nat} {lf : Nat → Nat → Int} (h : RdR G v n cd vl l ln lf) {i : Nat} (hi : i < n) :
    ∃ p : Addr, (∀ M, opI (.indexAddrS 3) [v, .int .i64 i] M = some (.val (.rptr (some p)) M)) ∧ (∀ M : AMem, M.g = G → opI (.load true 3) [.rptr (some p)] M = some (.val (.agg [.int .i64 (cd i), .int .u64 (vl i), l i]) M)) ∧
      (∀ M : AMem, M.g = G → opI (.load false 1) [.rptr (some (p.add 2))] M = some (.val (l i) M)) ∧ RdI G .u64 (l i) (ln i) (lf i) := by
  obtain ⟨a, c, rfl, hg⟩ := h
  obtain ⟨p, rfl, h0, h1, h2, h3⟩ := hg i hi
  refine ⟨p.add (i * 3), fun M => index_in hi, fun M hM => ?_, fun M hM => load_in (by rw [hM]; exact h2), h3⟩
  exact loads_in3 (by rw [hM]; exact h0) (by rw [hM]; exact h1) (by rw [hM]; exact h2)
theorem rdR_len {G : Addr → Option AV} {v : AV} {n : Nat} {cd vl : Nat → Int} {l : Nat → AV} {ln : Nat → Nat} {lf : Nat → Nat → Int} (h : RdR G v n cd vl l ln lf) (M : AMem) : opI .lenS [v] M = some (.val (.int .i64 n) M) := by
  obtain ⟨a, c, rfl, _⟩ := h; rfl

abbrev K0 : ABlk := .cells [.int .i64 0, .int .u64 0, .slice none 0 0 false] 0 true none
abbrev KR (c v : Int) (l : AV) : ABlk := .cells [.int .i64 c, .int .u64 v, l] 0 true none
set_option maxHeartbeats 2000000 in
theorem eqfunc_ok {G : Addr → Option AV} {a b : AV} {n m : Nat} {c1 v1 c2 v2 : Nat → Int} {l1 l2 : Nat → AV} {n1 n2 : Nat → Nat} {f1 f2 : Nat → Nat → Int} (hA : RdR G a n c1 v1 l1 n1 f1) (hB : RdR G b m c2 v2 l2 n2 f2) (hn : n < 90000)
    (hl : n = m → ∀ i, i < n → n1 i < 90000) (d : Nat) (M : AMem) (hG : M.g = G) (hok : Ok M) :
    Ans (callF tbl code 100000 (d + 3)) 9 [a, b, .func (.func 10) [] []] M fun r M' => Grow M M' ∧ r = .bool (decide (n = m ∧ ∀ i, i < n → resAt c1 c2 v1 v2 n1 n2 f1 f2 i = true)) := by
  refine Ans_of (tbl_none (by decide) _) (show code 9 = some c9 from by kernel_rfl) (by simp) fun t hd ha => ?_
  have h0 := ha 0 a rfl
  have h1 := ha 1 b rfl
  have h2 := ha 2 _ rfl
  have lu := rdR_len hA M
  have lv := rdR_len hB M
  clear ha
  refine W_seq (W_seqR (by simp only [runSeq_cons, runSeq_nil, evalArgs_nil, evalArgs_const, val1, putT, opI_move]; rfl) ?_)
  refine W_seq (W_seq (W_seqR (by simp only [runSeq_cons, runSeq_nil, evalArgs_nil, evalArgs_tmp, val1, putT, Tr.get_set_self, Tr.get_set_ne, hd _, ne_eq, Nat.reduceEqDiff, not_false_eq_true, decide_true, Nat.reduceLT, opI_move, opI_neq, h0, h1, lu, lv]; rfl) ?_))
  refine W_cond (by simp only [PArg.eval, Tr.get_set_self, Tr.get_set_ne, hd _, ne_eq, Nat.reduceEqDiff, not_false_eq_true, decide_true, Nat.reduceLT]; rfl) (fun hb => ?_) (fun hb => ?_)
  · refine W_seq (W_seqR (by simp only [runSeq_cons, runSeq_nil, evalArgs_nil, evalArgs_const, val1, putT, opI_move]; rfl) (W_ret ?_))
    refine ⟨_, fin_tmp (by simp only [Tr.get_set_self, Tr.get_set_ne, Option.isSome_some, hd _, ne_eq, Nat.reduceEqDiff, not_false_eq_true, decide_true, Nat.reduceLT]; rfl), Grow.refl _, ?_⟩
    have : n ≠ m := by simp at hb; omega
    simp [resV, this]
  have hnm : n = m := by simp at hb; omega
  subst hnm
  clear hb
  have hl := hl rfl
  refine W_skip (W_seq (W_seq (W_seqR (by simp only [runSeq_cons, runSeq_nil, evalArgs_nil, evalArgs_tmp, evalArgs_const, val1, putT, Tr.get_set_self, Tr.get_set_ne, hd _, ne_eq, Nat.reduceEqDiff, not_false_eq_true, decide_true, Nat.reduceLT, opI_move, h0, lu]; rfl) (W_block (W_loop (fun k t M' => ∃ i : Nat, k + i = n ∧ Grow M M' ∧ Dom t 32 ∧ t.get 0 = some a ∧ t.get 1 = some b ∧ t.get 2 = some (.func (.func 10) [] []) ∧ t.get 15 = some a ∧ t.get 16 = some (.int .i64 n) ∧ t.get 17 = some (.int .i64 i) ∧ ∀ j, j < i → resAt c1 c2 v1 v2 n1 n2 f1 f2 j = true) (k := n) (by omega) ?_ ?_)))))
  · exact ⟨0, rfl, Grow.refl _, by (repeat (first | exact hd | apply Dom.set)), by simp only [Tr.get_set_ne, ne_eq, Nat.reduceEqDiff, not_false_eq_true, h0], by simp only [Tr.get_set_ne, ne_eq, Nat.reduceEqDiff, not_false_eq_true, h1], by simp only [Tr.get_set_ne, ne_eq, Nat.reduceEqDiff, not_false_eq_true, h2], by simp only [Tr.get_set_self, Tr.get_set_ne, hd _, ne_eq, Nat.reduceEqDiff, not_false_eq_true, decide_true, Nat.reduceLT], by simp only [Tr.get_set_self, Tr.get_set_ne, hd _, ne_eq, Nat.reduceEqDiff, not_false_eq_true, decide_true, Nat.reduceLT], by simp only [Tr.get_set_self, Tr.get_set_ne, hd _, ne_eq, Nat.reduceEqDiff, not_false_eq_true, decide_true, Nat.reduceLT]; rfl, fun j hj => by omega⟩
  clear h0 h1 h2 hd lu lv
  intro k t' M' ⟨i, hk, hgr, hd, h0, h1, h2, h15, h16, h17, hj⟩
  refine W_seq (W_seqR (by simp only [runSeq_cons, runSeq_nil, evalArgs_nil, evalArgs_tmp, val1, putT, opI_lss, h16, h17]; rfl) (W_seq ?_))
  refine W_cond (by simp only [PArg.eval, Tr.get_set_self, hd _, decide_true, Nat.reduceLT]; rfl) (fun hb => ?_) (fun hb => ?_)
  rotate_left
  · refine W_exit ?_
    have hin : i = n := by simp at hb; omega
    subst hin
    show W _ _
    refine W_seq (W_seqR (by simp only [runSeq_cons, runSeq_nil, evalArgs_nil, evalArgs_const, val1, putT, opI_move]; rfl) (W_ret ?_))
    refine ⟨_, fin_tmp (by simp only [Tr.get_set_self, Tr.get_set_ne, hd _, ne_eq, Nat.reduceEqDiff, not_false_eq_true, decide_true, Nat.reduceLT]; rfl), hgr, ?_⟩
    simp [resV]; exact hj
  have hin : i < n := by simpa using hb
  have ok0 := hgr.ok hok
  have hG0 := hgr.g.trans hG
  obtain ⟨p, e1, e2, _, e3⟩ := rdR_at hA hin
  obtain ⟨q, e4, e5, _, e6⟩ := rdR_at hB hin
  have e2 := e2 M' hG0
  have g1 := get_push_self (k := K0) ok0
  have s1 := store_own3 (x := .int .i64 (c1 i)) (y := .int .u64 (v1 i)) (z := l1 i) g1 rfl rfl e3.one
  have G1 := (Grow.push ok0 K0).set (Nat.le_refl _) g1 (KR (c1 i) (v1 i) (l1 i))
  have ok1 := G1.ok ok0
  have e5 := e5 _ (G1.g.trans hG0)
  have g2 := get_push_self (k := K0) ok1
  have s2 := store_own3 (x := .int .i64 (c2 i)) (y := .int .u64 (v2 i)) (z := l2 i) g2 rfl rfl e6.one
  have G2 := (Grow.push ok1 K0).set (Nat.le_refl _) g2 (KR (c2 i) (v2 i) (l2 i))
  have ok2 := G2.ok ok1
  have r1 : _ = some (KR (c1 i) (v1 i) (l1 i)) := (G2.get M'.n (by show M'.n < M'.n + 1; omega)).trans ((get_set_mem (k := KR (c1 i) (v1 i) (l1 i)) g1).trans (if_pos rfl))
  have r2 : _ = some (KR (c2 i) (v2 i) (l2 i)) := (get_set_mem (k := KR (c2 i) (v2 i) (l2 i)) g2).trans (if_pos rfl)
  simp only [set_n, push_n] at s2 r1 r2
  have x1 := loads_own3 r1
  have x2 := loads_own3 r2
  obtain ⟨r, M5, hcall, G3, hr⟩ := res10_ok (c1 := c1 i) (c2 := c2 i) (v1 := v1 i) (v2 := v2 i) e3 e6 (hl i hin) d _ ((G1.trans G2).g.trans hG0) ok2
  subst hr
  simp only [set_n, push_n] at hcall
  refine W_skip (W_seq (W_block (W_seq (W_seqR (by simp only [runSeq_cons, runSeq_nil, evalArgs_nil, evalArgs_tmp, val1, putT, Tr.get_set_self, Tr.get_set_ne, hd _, ne_eq, Nat.reduceEqDiff, not_false_eq_true, decide_true, Nat.reduceLT, opI_move, opI_new, h15, h17, e1, e2, s1]; rfl) (W_seq (W_seqR (by simp only [runSeq_cons, runSeq_nil, evalArgs_nil, evalArgs_tmp, val1, putT, Tr.get_set_self, Tr.get_set_ne, hd _, ne_eq, Nat.reduceEqDiff, not_false_eq_true, decide_true, Nat.reduceLT, opI_move, opI_new, push_n, set_n, h1, e4, e5, s2]; rfl) (W_seq (W_seqR (by simp only [runSeq_cons, runSeq_nil, evalArgs_nil, evalArgs_tmp, val1, putT, Tr.get_set_self, Tr.get_set_ne, hd _, ne_eq, Nat.reduceEqDiff, not_false_eq_true, decide_true, Nat.reduceLT, opI_move, opI_not, opI_callV, List.nil_append, List.append_nil, h2, x1, x2, hcall]; rfl) ?_))))))))
  refine W_cond (by simp only [PArg.eval, Tr.get_set_self, Tr.get_set_ne, hd _, ne_eq, Nat.reduceEqDiff, not_false_eq_true, decide_true, Nat.reduceLT]; rfl) (fun hb => ?_) (fun hb => ?_)
  · refine W_seq (W_seqR (by simp only [runSeq_cons, runSeq_nil, evalArgs_nil, evalArgs_const, val1, putT, opI_move]; rfl) (W_ret ?_))
    refine ⟨_, fin_tmp (by simp only [Tr.get_set_self, Tr.get_set_ne, hd _, ne_eq, Nat.reduceEqDiff, not_false_eq_true, decide_true, Nat.reduceLT]; rfl), hgr.trans ((G1.trans G2).trans G3), ?_⟩
    have : resAt c1 c2 v1 v2 n1 n2 f1 f2 i = false := by unfold resAt; simpa using hb
    simp [resV]; exact ⟨i, hin, this⟩
  have hfg : resAt c1 c2 v1 v2 n1 n2 f1 f2 i = true := by unfold resAt; simpa using hb
  refine W_skip (W_seqR (by simp only [runSeq_cons, runSeq_nil, evalArgs_nil, evalArgs_tmp, evalArgs_const, val1, putT, Tr.get_set_self, Tr.get_set_ne, hd _, ne_eq, Nat.reduceEqDiff, not_false_eq_true, decide_true, Nat.reduceLT, opI_move, opI_add, h17]; rfl) ?_)
  refine ⟨k - 1, by omega, i + 1, by omega, hgr.trans ((G1.trans G2).trans G3), by (repeat (first | exact hd | apply Dom.set)), by simp only [Tr.get_set_ne, ne_eq, Nat.reduceEqDiff, not_false_eq_true, h0], by simp only [Tr.get_set_ne, ne_eq, Nat.reduceEqDiff, not_false_eq_true, h1], by simp only [Tr.get_set_ne, ne_eq, Nat.reduceEqDiff, not_false_eq_true, h2], by simp only [Tr.get_set_ne, ne_eq, Nat.reduceEqDiff, not_false_eq_true, h15], by simp only [Tr.get_set_ne, ne_eq, Nat.reduceEqDiff, not_false_eq_true, h16], ?_, fun j hj' => ?_⟩
  · simp only [Tr.get_set_self, Tr.get_set_ne, hd _, ne_eq, Nat.reduceEqDiff, not_false_eq_true, decide_true, Nat.reduceLT]
    rw [wrapF_small (by omega) (by omega)]; rfl
  · rcases Nat.lt_or_ge j i with h | h
    · exact hj j h
    · rw [show j = i by omega]; exact hfg

/-- outcomes: the same? -/
def outB (n m : Nat) (c1 c2 v1 v2 : Nat → Int) (n1 n2 : Nat → Nat) (f1 f2 : Nat → Nat → Int) (x y : Nat) (fx fy : Nat → Int) : Bool := decide (n = m ∧ ∀ i, i < n → resAt c1 c2 v1 v2 n1 n2 f1 f2 i = true) && eqB x y fx fy
abbrev K2 (a x : AV) : ABlk := .cells [a, x] 0 true none
set_option maxHeartbeats 2000000 in
theorem outs_ok {G : Addr → Option AV} {a b x y : AV} {n m nx ny : Nat} {c1 v1 c2 v2 : Nat → Int} {l1 l2 : Nat → AV} {n1 n2 : Nat → Nat} {f1 f2 : Nat → Nat → Int} {fx fy : Nat → Int} (hA : RdR G a n c1 v1 l1 n1 f1) (hB : RdR G b m c2 v2 l2 n2 f2)
    (hX : RdI G .u64 x nx fx) (hY : RdI G .u64 y ny fy) (hn : n < 90000) (hnx : nx < 90000) (hl : n = m → ∀ i, i < n → n1 i < 90000) (d : Nat) (M : AMem) (hG : M.g = G) (hok : Ok M) :
    Ans (callF tbl code 100000 (d + 4)) 7 [.agg [a, x], .agg [b, y]] M fun r M' => Grow M M' ∧ r = .bool (outB n m c1 c2 v1 v2 n1 n2 f1 f2 nx ny fx fy) := by
  refine Ans_of (tbl_none (by decide) _) (show code 7 = some c7 from by kernel_rfl) (by simp) fun t hd ha => ?_
  have h0 := ha 0 _ rfl
  have h1 := ha 1 _ rfl
  clear ha
  refine W_seq (W_seqR (by simp only [runSeq_cons, runSeq_nil, evalArgs_nil, evalArgs_tmp, evalArgs_const, val1, putT, Tr.get_set_ne, ne_eq, Nat.reduceEqDiff, not_false_eq_true, opI_move, opI_box, cells_agg, push_n, h0, h1]; rfl) ?_)
  have hok1 := hok.push (K2 a x)
  have hg := (Grow.push hok (K2 a x)).trans (Grow.push hok1 (K2 b y))
  have hok2 := hok1.push (K2 b y)
  have ga := (get_push_old (k := K2 b y) hok1 (show M.n < M.n + 1 by omega)).trans (get_push_self (k := K2 a x) hok)
  have gb := get_push_self (k := K2 b y) hok1
  simp only [push_n] at gb
  have a0 := load_own (o := 0) ga rfl
  have b0 := load_own (o := 0) gb rfl
  obtain ⟨r, M3, hcall, G3, hr⟩ := eqfunc_ok hA hB hn hl d _ (hg.g.trans hG) hok2
  subst hr
  have ga3 := (G3.get M.n (by show M.n < M.n + 1 + 1; omega)).trans ga
  have gb3 := (G3.get (M.n + 1) (by show M.n + 1 < M.n + 1 + 1; omega)).trans gb
  have a1 := load_own (o := 1) ga3 rfl
  have b1 := load_own (o := 1) gb3 rfl
  have he := equal_ok hX hY hnx (d + 2) M3 ((hg.trans G3).g.trans hG)
  cases hk : decide (n = m ∧ ∀ i, i < n → resAt c1 c2 v1 v2 n1 n2 f1 f2 i = true)
  all_goals
    rw [hk] at hcall
    refine W_seq (W_seqR (by simp only [runSeq_cons, runSeq_nil, evalArgs_nil, evalArgs_tmp, evalArgs_const, val1, putT, Tr.get_set_self, Tr.get_set_ne, Tr.isSome_set, hd _, ne_eq, Nat.reduceEqDiff, not_false_eq_true, decide_true, Nat.reduceLT, opI_move, opI_callF, opI_fieldP, opI_pick, Nat.zero_add, Nat.add_zero, runSeq_guard (b := true), runSeq_guard (b := false), beq_self_eq_true, Bool.false_beq, Bool.not_true, a0, a1, b0, b1, hcall, he]; rfl) (W_ret ?_))
    refine ⟨_, fin_tmp (by simp only [Tr.get_set_self, Tr.get_set_ne, Tr.isSome_set, Option.isSome_some, hd _, ne_eq, Nat.reduceEqDiff, not_false_eq_true, decide_true, Nat.reduceLT]; rfl), hg.trans G3, ?_⟩
    simp only [outB, hk]; simp [resV]
end Go.Proofs.YtefcnhmbpkdlmabGreatDoor.exploreSame
