/- New cells, and how a stack begins in them. -/
import Derived.Test.YtldijnabgabehaaSoPick2
import Derived.Test.YtldijnabgabehaaSoR
namespace Go.Proofs.Ytldijnabgabehaa.so
open Go Go.Vx
theorem mk_slice {b : Nat} {z : AV} {k : Nat} {M : AMem} (h : k * b ≤ 4294967296) (h2 : k ≤ 4294967296) : opI (.makeSlice 1 b [z]) [.int .i64 k, .int .i64 k] M = some (.val (.slice (some (M.n, 0)) k k false) (M.push (.cells (List.replicate k z) 1 true none))) := by
  simp only [opI]
  have e : (List.range ((k : Int).toNat * 1)).map (fun i => [z].getD (i % 1) (.tuple [])) = List.replicate k z := by
    rw [show (k : Int).toNat * 1 = k by omega]
    apply List.ext_getElem?
    intro j
    rw [List.getElem?_map, List.getElem?_replicate]
    by_cases hj : j < k
    · rw [List.getElem?_range hj, if_pos hj, Option.map_some, Nat.mod_one]; rfl
    · rw [if_neg hj, List.getElem?_eq_none (by rw [List.length_range]; omega)]; rfl
  have hb : (k : Int) * (b : Nat) ≤ 4294967296 := by rw [← Int.natCast_mul]; omega
  rw [if_pos ⟨by omega, by omega, hb, by omega⟩, e]
  rfl
set_option maxRecDepth 20000 in
set_option maxHeartbeats 8000000 in
theorem new_ok (d : Nat) {k : Nat} (h1 : 1 ≤ k) (h2 : k ≤ 65536) {M : AMem} (hok : Okg M) (hh : NH M) :
    Ans (callF tblS code 100000 (d + 1)) 5 [.int .i64 k] M fun r M' => ∃ bm bc, r = .tuple [.ptr (some (bm, 0)), .int .i64 0] ∧ M.n ≤ bm ∧ M.n ≤ bc ∧ bm < M'.n ∧ bc < M'.n ∧ EvA M M' (fun _ => False) ∧ CM M' bm bc (List.replicate k 0) := by
  refine Ans_of (tblS_none ⟨by decide, by decide⟩ _) (show code 5 = some c5 from by kernel_rfl) (by simp) fun t hd ha => ?_
  have h0 := ha 0 _ rfl
  clear ha
  have q1 : decide ((k : Int) < 1) = false := decide_eq_false (by omega)
  have q2 : decide ((k : Int) > 65536) = false := decide_eq_false (by omega)
  have ms := mk_slice (b := 8) (z := .int .u64 0) (k := k) (M := M) (by omega) (by omega)
  have bl : ∀ M' : AMem, opI (.build [.slice none 0 0 false] [(0, 1)]) [.slice (some (M.n, 0)) k k false] M' = some (.val (.agg [.slice (some (M.n, 0)) k k false]) M') := fun _ => rfl
  refine W_seq (W_seqR (by simp only [runSeq_cons, runSeq_nil, evalArgs_nil, evalArgs_const, val1, putT, opI_move]; rfl) ?_)
  refine W_seq (W_seq (W_seqR (by simp only [runSeq_cons, runSeq_nil, evalArgs_nil, evalArgs_tmp, evalArgs_const, val1, putT, Tr.get_set_self, Tr.get_set_ne, Tr.isSome_set, hd _, ne_eq, Nat.reduceEqDiff, not_false_eq_true, decide_true, Nat.reduceLT, opI_move, opI_lss, opI_gtr, opI_pick, runSeq_guard (b := false), beq_self_eq_true, h0, q1, q2]; rfl) ?_))
  refine W_cond (b := false) (by simp only [PArg.eval, Tr.get_set_self, Tr.get_set_ne, hd _, ne_eq, Nat.reduceEqDiff, not_false_eq_true, decide_true, Nat.reduceLT]; try rfl) (fun hb => by cases hb) (fun _ => W_skip ?_)
  show W _ _
  have s1 : Step M (M.push (.cells (List.replicate k (.int .u64 0)) 1 true none)) := (Step.refl hok).push (fun _ _ _ _ he => by cases he)
  have e1 := EvA.of_step s1 hh (fun _ => False)
  have g1 := get_push_self (k := .cells (List.replicate k (.int .u64 0)) 1 true none) hok.1
  have n1 : (M.push (.cells (List.replicate k (.int .u64 0)) 1 true none)).n = M.n + 1 := push_n
  generalize hM1 : M.push (.cells (List.replicate k (.int .u64 0)) 1 true none) = M1 at *
  refine W_seq (W_seqR (by simp only [runSeq_cons, runSeq_nil, evalArgs_nil, evalArgs_tmp, evalArgs_const, val1, putT, Tr.get_set_self, Tr.get_set_ne, hd _, ne_eq, Nat.reduceEqDiff, not_false_eq_true, decide_true, Nat.reduceLT, opI_move, opI_box, cells_agg, h0, ms, bl]; rfl) (W_ret ?_))
  have s2 : Step M1 (M1.push (.cells [.slice (some (M.n, 0)) k k false] 0 true none)) := (Step.refl e1.ok).push (fun _ _ _ _ he => by cases he)
  have e2 := EvA.of_step s2 e1.nh (fun _ => False)
  have g2 := get_push_self (k := .cells [.slice (some (M.n, 0)) k k false] 0 true none) e1.ok.1
  refine ⟨_, fin_tmp2 (by simp only [Tr.get_set_self, Tr.get_set_ne, Option.isSome_some, hd _, ne_eq, Nat.reduceEqDiff, not_false_eq_true, decide_true, Nat.reduceLT]; try rfl) (by simp only [Tr.get_set_self, Tr.get_set_ne, Tr.isSome_set, Option.isSome_some, hd _, ne_eq, Nat.reduceEqDiff, not_false_eq_true, decide_true, Nat.reduceLT]; try rfl), M.n + 1, M.n, by rw [← n1]; rfl, by omega, by omega, by rw [push_n]; omega, by rw [push_n]; omega, e1.trans e2 (fun _ h => h) (fun _ _ h => h), ?_, ?_⟩
  · rw [← n1, g2, List.length_replicate]
  · rw [e2.same _ (by omega) (fun h => h), g1, Ux, List.map_replicate]; rfl
theorem cm_len (d : Nat) {M : AMem} {bm bc : Nat} {L : List Nat} (hc : CM M bm bc L) : callF tblS code 100000 (d + 1) 42 [.ptr (some (bm, 0))] M = some (.int .i64 L.length, M) := by
  refine Ans.eq (Ans_of (tblS_none ⟨by decide, by decide⟩ _) (show code 42 = some c42 from by kernel_rfl) (by simp) fun t hd ha => ?_)
  have h0 := ha 0 _ rfl
  clear ha
  have lm : opI (.load false 1) [.ptr (some (bm, 0))] M = some (.val (.slice (some (bc, 0)) L.length L.length false) M) := load_own hc.mem rfl
  refine W_seq (W_seqR (by simp only [runSeq_cons, runSeq_nil, evalArgs_nil, evalArgs_const, val1, putT, opI_move]; rfl) ?_)
  refine W_seq (W_seq (W_seqR (by simp only [runSeq_cons, runSeq_nil, evalArgs_nil, evalArgs_tmp, evalArgs_const, val1, putT, Tr.get_set_self, Tr.get_set_ne, hd _, ne_eq, Nat.reduceEqDiff, not_false_eq_true, decide_true, Nat.reduceLT, opI_move, h0, op_np]; rfl) ?_))
  refine W_cond (b := false) (by simp only [PArg.eval, Tr.get_set_self, Tr.get_set_ne, hd _, ne_eq, Nat.reduceEqDiff, not_false_eq_true, decide_true, Nat.reduceLT]; try rfl) (fun hb => by cases hb) (fun _ => W_skip ?_)
  show W _ _
  refine W_seq (W_seqR (by simp only [runSeq_cons, runSeq_nil, evalArgs_nil, evalArgs_tmp, val1, putT, Tr.get_set_self, Tr.get_set_ne, hd _, ne_eq, Nat.reduceEqDiff, not_false_eq_true, decide_true, Nat.reduceLT, opI_move, opI_lenO, opI_fieldP, Nat.add_zero, h0, opI_nilP, lm]; rfl) (W_ret ?_))
  exact ⟨_, fin_tmp (by simp only [Tr.get_set_self, Tr.get_set_ne, Option.isSome_some, hd _, ne_eq, Nat.reduceEqDiff, not_false_eq_true, decide_true, Nat.reduceLT]; try rfl), rfl, rfl⟩
/-- a struct that a function keeps for itself -/
theorem boxed {M : AMem} (hok : Okg M) (hh : NH M) (cs : List AV) : ∃ M', M.push (.cells cs 0 true none) = M' ∧ EvA M M' (fun _ => False) ∧ M'.get M.n = some (.cells cs 0 true none) ∧ M'.n = M.n + 1 :=
  ⟨_, rfl, EvA.of_step ((Step.refl hok).push (fun _ _ _ _ he => by cases he)) hh _, get_push_self hok.1, push_n⟩
set_option maxRecDepth 20000 in
set_option maxHeartbeats 8000000 in
theorem pcheck_ok (d : Nat) {n : Nat} (hn1 : 1 ≤ n) (hn : n ≤ 4096) {M : AMem} (hok : Okg M) (hh : NH M) {bm bc : Nat} {L : List Nat} (hc : CM M bm bc L) (hl : L.length = 3 * n + 2) :
    Ans (callF tblS code 100000 (d + 2)) 17 [ArgP n, .ptr (some (bm, 0))] M fun r M' => r = .int .i64 0 ∧ EvA M M' (fun _ => False) := by
  refine Ans_of (tblS_none ⟨by decide, by decide⟩ _) (show code 17 = some c17 from by kernel_rfl) (by simp) fun t hd ha => ?_
  have h0 := ha 0 _ rfl
  have h1 := ha 1 _ rfl
  clear ha
  obtain ⟨A, hA, e0, g0, n0⟩ := boxed hok hh [.int .i64 0, .int .i64 n]
  refine W_seq (W_seqR (by simp only [runSeq_cons, runSeq_nil, evalArgs_nil, evalArgs_tmp, evalArgs_const, val1, putT, opI_move, opI_box, cells_agg, h0, hA]; rfl) ?_)
  have hcA := hc.ev hok.1 e0
  obtain ⟨M1, c1, e1⟩ := right_ok hn1 hn A e0.ok e0.nh d
  have hc1 := hcA.ev e0.ok.1 e1
  have LA := load_agg (n := 2) g0 rfl
  have g1 : M1.get M.n = _ := (e1.same M.n (by omega) (fun h => h)).trans g0
  refine W_seq (W_block (W_seq (W_seqR (by simp only [runSeq_cons, runSeq_nil, evalArgs_nil, evalArgs_tmp, evalArgs_const, val1, putT, Tr.get_set_self, Tr.get_set_ne, hd _, ne_eq, Nat.reduceEqDiff, not_false_eq_true, decide_true, Nat.reduceLT, opI_move, h1, op_np]; rfl) ?_)))
  refine W_cond (b := false) (by simp only [PArg.eval, Tr.get_set_self, Tr.get_set_ne, hd _, ne_eq, Nat.reduceEqDiff, not_false_eq_true, decide_true, Nat.reduceLT]; try rfl) (fun hb => by cases hb) (fun _ => ?_)
  refine W_seq (W_seqR (by simp only [runSeq_cons, runSeq_nil, evalArgs_nil, evalArgs_tmp, val1, putT, Tr.get_set_self, Tr.get_set_ne, hd _, ne_eq, Nat.reduceEqDiff, not_false_eq_true, decide_true, Nat.reduceLT, opI_move, opI_not, opI_callF, LA, c1]; rfl) ?_)
  refine W_cond (b := false) (by simp only [PArg.eval, Tr.get_set_self, Tr.get_set_ne, hd _, ne_eq, Nat.reduceEqDiff, not_false_eq_true, decide_true, Nat.reduceLT]; try rfl) (fun hb => by cases hb) (fun _ => ?_)
  have la : opI (.load false 1) [.ptr (some (M.n, 0))] M1 = some (.val (.int .i64 0) M1) := load_own g1 rfl
  have lb : opI (.load false 1) [.ptr (some (M.n, 1))] M1 = some (.val (.int .i64 n) M1) := load_own g1 rfl
  have cl := cm_len d hc1
  have hh1 := held_none e1.ok.1
  have w1 : wrapF .i64 (3 * (n : Int)) = 3 * n := wi (by omega) (by omega)
  have w2 : wrapF .i64 (0 + 3 * (n : Int)) = 3 * n := by rw [wi (by omega) (by omega)]; omega
  have w3 : wrapF .i64 (3 * (n : Int) + 1) = 3 * n + 1 := wi (by omega) (by omega)
  have q1 : decide ((L.length : Int) ≤ 3 * n + 1) = false := decide_eq_false (by omega)
  refine W_seq (W_trace (M' := M1) rfl (by simp only [sameN_self, evalArgs_nil, evalArgs_tmp, evalArgs_const, val1, putT, Tr.get_set_self, Tr.get_set_ne, hd _, ne_eq, Nat.reduceEqDiff, not_false_eq_true, decide_true, Nat.reduceLT, opI_move, opI_leq, opI_add, opI_callF, opI_fieldP, Nat.zero_add, Nat.add_zero, trace_nil, trace_read, trace_eff, addR_some, addE_some, Bool.and_true, Bool.not_true, Bool.not_false, h1, cl, la, lb, hh1, opI_mul, w1, w2, w3, q1]; rfl) (by simp [checkRec, isLoad, sameAt, la, lb, AV.beq]) rfl ?_)
  refine W_cond (b := false) (by simp only [PArg.eval, Tr.get_set_self, Tr.get_set_ne, hd _, ne_eq, Nat.reduceEqDiff, not_false_eq_true, decide_true, Nat.reduceLT]; try rfl) (fun hb => by cases hb) (fun _ => W_skip ?_)
  show W _ _
  refine W_seq (W_seqR (by simp only [runSeq_cons, runSeq_nil, evalArgs_nil, evalArgs_const, val1, putT, opI_move]; rfl) (W_ret ?_))
  exact ⟨_, fin_tmp (by simp only [Tr.get_set_self, Tr.get_set_ne, Tr.isSome_set, Option.isSome_some, hd _, ne_eq, Nat.reduceEqDiff, not_false_eq_true, decide_true, Nat.reduceLT]; try rfl), rfl, e0.trans e1 (fun _ h => h) (fun _ _ h => h)⟩
set_option maxRecDepth 20000 in
set_option maxHeartbeats 8000000 in
theorem acheck_ok (d : Nat) {n : Nat} (hn1 : 1 ≤ n) (hn : n ≤ 4096) {M : AMem} (hok : Okg M) (hh : NH M) {bm bc : Nat} {L : List Nat} (hc : CM M bm bc L) (hl : L.length = 3 * n + 2) :
    Ans (callF tblS code 100000 (d + 2)) 27 [.agg [.int .i64 1, .int .i64 n], .ptr (some (bm, 0))] M fun r M' => r = .int .i64 0 ∧ EvA M M' (fun _ => False) := by
  refine Ans_of (tblS_none ⟨by decide, by decide⟩ _) (show code 27 = some c27 from by kernel_rfl) (by simp) fun t hd ha => ?_
  have h0 := ha 0 _ rfl
  have h1 := ha 1 _ rfl
  clear ha
  obtain ⟨A, hA, e0, g0, n0⟩ := boxed hok hh [.int .i64 1, .int .i64 n]
  refine W_seq (W_seqR (by simp only [runSeq_cons, runSeq_nil, evalArgs_nil, evalArgs_tmp, evalArgs_const, val1, putT, opI_move, opI_box, cells_agg, h0, hA]; rfl) ?_)
  have hcA := hc.ev hok.1 e0
  obtain ⟨M1, c1, e1⟩ := aright_ok hn1 hn A e0.ok e0.nh d
  have hc1 := hcA.ev e0.ok.1 e1
  have LA := load_agg (n := 2) g0 rfl
  have g1 : M1.get M.n = _ := (e1.same M.n (by omega) (fun h => h)).trans g0
  refine W_seq (W_block (W_seq (W_seqR (by simp only [runSeq_cons, runSeq_nil, evalArgs_nil, evalArgs_tmp, evalArgs_const, val1, putT, Tr.get_set_self, Tr.get_set_ne, hd _, ne_eq, Nat.reduceEqDiff, not_false_eq_true, decide_true, Nat.reduceLT, opI_move, h1, op_np]; rfl) ?_)))
  refine W_cond (b := false) (by simp only [PArg.eval, Tr.get_set_self, Tr.get_set_ne, hd _, ne_eq, Nat.reduceEqDiff, not_false_eq_true, decide_true, Nat.reduceLT]; try rfl) (fun hb => by cases hb) (fun _ => ?_)
  refine W_seq (W_seqR (by simp only [runSeq_cons, runSeq_nil, evalArgs_nil, evalArgs_tmp, val1, putT, Tr.get_set_self, Tr.get_set_ne, hd _, ne_eq, Nat.reduceEqDiff, not_false_eq_true, decide_true, Nat.reduceLT, opI_move, opI_not, opI_callF, LA, c1]; rfl) ?_)
  refine W_cond (b := false) (by simp only [PArg.eval, Tr.get_set_self, Tr.get_set_ne, hd _, ne_eq, Nat.reduceEqDiff, not_false_eq_true, decide_true, Nat.reduceLT]; try rfl) (fun hb => by cases hb) (fun _ => ?_)
  have la : opI (.load false 1) [.ptr (some (M.n, 0))] M1 = some (.val (.int .i64 1) M1) := load_own g1 rfl
  have lb : opI (.load false 1) [.ptr (some (M.n, 1))] M1 = some (.val (.int .i64 n) M1) := load_own g1 rfl
  have cl := cm_len d hc1
  have hh1 := held_none e1.ok.1
  have w2 : wrapF .i64 (1 + (n : Int)) = 1 + n := wi (by omega) (by omega)
  have q1 : decide ((L.length : Int) ≤ 1 + n) = false := decide_eq_false (by omega)
  refine W_seq (W_trace (M' := M1) rfl (by simp only [sameN_self, evalArgs_nil, evalArgs_tmp, val1, putT, Tr.get_set_self, Tr.get_set_ne, hd _, ne_eq, Nat.reduceEqDiff, not_false_eq_true, decide_true, Nat.reduceLT, opI_move, opI_leq, opI_add, opI_callF, opI_fieldP, Nat.zero_add, Nat.add_zero, trace_nil, trace_read, trace_eff, addR_some, addE_some, Bool.and_true, Bool.not_true, Bool.not_false, h1, cl, la, lb, hh1, w2, q1]; rfl) (by simp [checkRec, isLoad, sameAt, la, lb, AV.beq]) rfl ?_)
  refine W_cond (b := false) (by simp only [PArg.eval, Tr.get_set_self, Tr.get_set_ne, hd _, ne_eq, Nat.reduceEqDiff, not_false_eq_true, decide_true, Nat.reduceLT]; try rfl) (fun hb => by cases hb) (fun _ => W_skip ?_)
  show W _ _
  refine W_seq (W_seqR (by simp only [runSeq_cons, runSeq_nil, evalArgs_nil, evalArgs_const, val1, putT, opI_move]; rfl) (W_ret ?_))
  exact ⟨_, fin_tmp (by simp only [Tr.get_set_self, Tr.get_set_ne, Tr.isSome_set, Option.isSome_some, hd _, ne_eq, Nat.reduceEqDiff, not_false_eq_true, decide_true, Nat.reduceLT]; try rfl), rfl, e0.trans e1 (fun _ h => h) (fun _ _ h => h)⟩
end Go.Proofs.Ytldijnabgabehaa.so
