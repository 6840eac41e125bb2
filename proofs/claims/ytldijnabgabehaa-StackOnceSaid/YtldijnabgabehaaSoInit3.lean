/- How a stack begins, and a loom: the calls. -/
import Derived.Test.YtldijnabgabehaaSoInit2
namespace Go.Proofs.Ytldijnabgabehaa.so
open Go Go.Vx
set_option maxRecDepth 20000 in
set_option maxHeartbeats 8000000 in
theorem pinit_ok (d : Nat) {n : Nat} (hn1 : 1 ≤ n) (hn : n ≤ 4096) {M : AMem} (hok : Okg M) (hh : NH M) {bm bc : Nat} (hc : CM M bm bc (List.replicate (3 * n + 2) 0)) :
    Ans (callF tblS code 100000 (d + 4)) 6 [ArgP n, .ptr (some (bm, 0))] M fun r M' => r = .int .i64 0 ∧ EvA M M' (· = bc) ∧ CM M' bm bc (cellsOf n (mem0 n)) := by
  refine Ans_of (tblS_none ⟨by decide, by decide⟩ _) (show code 6 = some c6 from by kernel_rfl) (by simp) fun t hd ha => ?_
  have h0 := ha 0 _ rfl
  have h1 := ha 1 _ rfl
  clear ha
  obtain ⟨A, hA, e0, g0, n0⟩ := boxed hok hh [.int .i64 0, .int .i64 n]
  refine W_seq (W_seqR (by simp only [runSeq_cons, runSeq_nil, evalArgs_nil, evalArgs_tmp, evalArgs_const, val1, putT, opI_move, opI_box, cells_agg, h0, hA]; rfl) ?_)
  have hcA := hc.ev hok.1 e0
  have LA := load_agg (n := 2) g0 rfl
  obtain ⟨r1, M1, c1, rfl, e1⟩ := pcheck_ok (d + 1) hn1 hn e0.ok e0.nh hcA (by simp)
  have hc1 := hcA.ev e0.ok.1 e1
  have g1 : M1.get M.n = _ := (e1.same M.n (by omega) (fun h => h)).trans g0
  have l1 := get_lt e1.ok.1 g1
  refine W_seq (W_seq (W_seqR (by simp only [runSeq_cons, runSeq_nil, evalArgs_nil, evalArgs_tmp, val1, putT, Tr.get_set_self, Tr.get_set_ne, hd _, ne_eq, Nat.reduceEqDiff, not_false_eq_true, decide_true, Nat.reduceLT, opI_move, opI_callF, h1, LA, c1]; rfl) ?_))
  refine W_seq (W_seqR (by simp only [runSeq_cons, runSeq_nil, evalArgs_nil, evalArgs_tmp, evalArgs_const, val1, putT, Tr.get_set_self, Tr.get_set_ne, hd _, ne_eq, Nat.reduceEqDiff, not_false_eq_true, decide_true, Nat.reduceLT, opI_move, opI_neq, b00]; rfl) ?_)
  refine W_cond (b := false) (by simp only [PArg.eval, Tr.get_set_self, Tr.get_set_ne, hd _, ne_eq, Nat.reduceEqDiff, not_false_eq_true, decide_true, Nat.reduceLT]; try rfl) (fun hb => by cases hb) (fun _ => W_skip ?_)
  show W _ _
  have ln1 : opI (.load false 1) [.ptr (some (M.n, 1))] M1 = some (.val (.int .i64 n) M1) := load_own g1 rfl
  have w1 : wrapF .i64 (3 * (n : Int)) = 3 * n := wi (by omega) (by omega)
  have w2 : wrapF .i64 (3 * (n : Int) + 2) = 3 * n + 2 := wi (by omega) (by omega)
  have nb : M.n ≠ bc := fun h => by have := get_lt hok.1 hc.cel; omega
  have a1 : EvA M M1 (· = bc) := e0.trans e1 (fun _ h => h.elim) (fun _ _ h => h.elim)
  refine W_seq (W_seq (W_seqR (by simp only [runSeq_cons, runSeq_nil, evalArgs_nil, evalArgs_tmp, evalArgs_const, val1, putT, Tr.get_set_self, Tr.get_set_ne, hd _, ne_eq, Nat.reduceEqDiff, not_false_eq_true, decide_true, Nat.reduceLT, opI_move, opI_add, opI_fieldP, Nat.zero_add, ln1, opI_mul, w1, w2]; rfl) (W_block (W_loop (fun k t M' => ∃ i : Nat, k + i = 3 * n + 2 ∧ Dom t 32 ∧ t.get 1 = some (.ptr (some (bm, 0))) ∧ t.get 2 = some (.ptr (some (M.n, 0))) ∧ t.get 16 = some (.int .i64 (3 * n + 2)) ∧ t.get 17 = some (.int .i64 i) ∧ EvA M M' (· = bc) ∧ CM M' bm bc (List.replicate (3 * n + 2) 0) ∧ M'.get M.n = some (.cells [.int .i64 0, .int .i64 n] 0 true none))
    (k := 3 * n + 2) (by omega) ?_ ?_))))
  · exact ⟨0, by omega, by ((repeat (with_reducible apply Dom.set)); exact hd), by simp only [Tr.get_set_ne, ne_eq, Nat.reduceEqDiff, not_false_eq_true, h1], by simp only [Tr.get_set_self, Tr.get_set_ne, hd _, ne_eq, Nat.reduceEqDiff, not_false_eq_true, decide_true, Nat.reduceLT]; try rfl, by simp only [Tr.get_set_self, Tr.get_set_ne, hd _, ne_eq, Nat.reduceEqDiff, not_false_eq_true, decide_true, Nat.reduceLT]; try rfl, by simp only [Tr.get_set_self, Tr.get_set_ne, hd _, ne_eq, Nat.reduceEqDiff, not_false_eq_true, decide_true, Nat.reduceLT]; rfl, a1, hc1, g1⟩
  clear h0 h1 hd
  rintro k t K ⟨i, hk, hd, h1, h2, h16, h17, ea, hcK, gK⟩
  have laK : opI (.load false 1) [.ptr (some (M.n, 0))] K = some (.val (.int .i64 0) K) := load_own gK rfl
  refine W_seq (W_seqR (by simp only [runSeq_cons, runSeq_nil, evalArgs_nil, evalArgs_tmp, val1, putT, opI_lss, h16, h17]; rfl) ?_)
  refine W_seq (W_cond (by simp only [PArg.eval, Tr.get_set_self, hd _, decide_true, Nat.reduceLT]; rfl) (fun hb => W_skip ?_) (fun hb => W_exit ?_))
  · have hi : i < 3 * n + 2 := by
      have := of_decide_eq_true hb
      omega
    show W _ _
    have w3 : wrapF .i64 (0 + (i : Int)) = i := by rw [wi (by omega) (by omega)]; omega
    have bld : ∀ M : AMem, opI (.build [.int .i64 0, .int .i64 0, .int .u64 0, .int .u64 0] [(0, 1), (1, 1)]) [.int .i64 2, .int .i64 i] M = some (.val (.agg [.int .i64 2, .int .i64 i, .int .u64 0, .int .u64 0]) M) := fun _ => rfl
    obtain ⟨r4, M4, c4, rfl, e4, hc4⟩ := do_ok (d + 1) ea.ok ea.nh hcK (k := 2) (c := i) 0 0 (.inr (.inl rfl)) (by simpa using hi)
    rw [now2, set_z] at hc4
    simp only [Int.cast_ofNat_Int] at c4
    have g4 : M4.get M.n = _ := (e4.same M.n (get_lt ea.ok.1 gK) nb).trans gK
    refine W_seq (W_block (W_seq (W_seqR (by simp only [runSeq_cons, runSeq_nil, evalArgs_nil, evalArgs_tmp, val1, putT, Tr.get_set_self, Tr.get_set_ne, hd _, ne_eq, Nat.reduceEqDiff, not_false_eq_true, decide_true, Nat.reduceLT, opI_move, h17]; rfl) ?_)))
    show W _ _
    refine W_seqR (by simp only [runSeq_cons, runSeq_nil, evalArgs_nil, evalArgs_tmp, evalArgs_const, val1, putT, Tr.get_set_self, Tr.get_set_ne, hd _, ne_eq, Nat.reduceEqDiff, not_false_eq_true, decide_true, Nat.reduceLT, opI_move, opI_add, opI_callF, opI_fieldP, Nat.add_zero, h1, h2, laK, w3, bld, c4]; rfl) ?_
    show W _ _
    refine W_seqR (by simp only [runSeq_cons, runSeq_nil, evalArgs_nil, evalArgs_tmp, evalArgs_const, val1, putT, Tr.get_set_self, Tr.get_set_ne, hd _, ne_eq, Nat.reduceEqDiff, not_false_eq_true, decide_true, Nat.reduceLT, opI_move, opI_add, h17]; rfl) ?_
    exact ⟨k - 1, by omega, i + 1, by omega, by ((repeat (with_reducible apply Dom.set)); exact hd), by simp only [Tr.get_set_ne, ne_eq, Nat.reduceEqDiff, not_false_eq_true, h1], by simp only [Tr.get_set_ne, ne_eq, Nat.reduceEqDiff, not_false_eq_true, h2], by simp only [Tr.get_set_ne, ne_eq, Nat.reduceEqDiff, not_false_eq_true, h16], by simp only [Tr.get_set_self, Tr.get_set_ne, hd _, ne_eq, Nat.reduceEqDiff, not_false_eq_true, decide_true, Nat.reduceLT]; rw [wi (by omega) (by omega)]; rfl, ea.trans e4 (fun _ h => h) (fun _ _ h => h), hc4, g4⟩
  · show W _ _
    have LK := load_agg (n := 2) gK rfl
    obtain ⟨M5, c5, e5⟩ := arena_ok n K ea.ok ea.nh (d + 2)
    have hc5 := hcK.ev ea.ok.1 e5
    obtain ⟨r6, M6, c6, rfl, e6, hc6⟩ := ainit_ok d hn1 hn e5.ok e5.nh hc5
    refine W_seq (W_seqR (by simp only [runSeq_cons, runSeq_nil, evalArgs_nil, evalArgs_tmp, evalArgs_const, val1, putT, Tr.get_set_self, Tr.get_set_ne, hd _, ne_eq, Nat.reduceEqDiff, not_false_eq_true, decide_true, Nat.reduceLT, opI_move, opI_callF, h1, h2, LK, c5, c6]; rfl) (W_ret ?_))
    exact ⟨_, fin_tmp (by simp only [Tr.get_set_self, Tr.get_set_ne, hd _, ne_eq, Nat.reduceEqDiff, not_false_eq_true, decide_true, Nat.reduceLT]; try rfl), rfl, (ea.trans e5 (fun _ h => h) (fun _ _ h => h.elim)).trans e6 (fun _ h => h) (fun _ _ h => h), hc6⟩
set_option maxRecDepth 20000 in
set_option maxHeartbeats 8000000 in
theorem loom_ok (d : Nat) {n workers : Nat} (hw1 : 1 ≤ workers) (hw : workers ≤ 16) {M : AMem} (hok : Okg M) (hh : NH M) {bm bc : Nat} {L : List Nat} (hc : CM M bm bc L) :
    Ans (callF tblS code 100000 (d + 1)) 11 [.ptr (some (bm, 0)), .int .i64 workers] M fun r M' => ∃ bl bw, r = .tuple [.ptr (some (bl, 0)), .int .i64 0] ∧ M.n ≤ bl ∧ M.n ≤ bw ∧ EvA M M' (fun _ => False) ∧ LM n (fun c => c < M'.n) M' bm bc bl bw L (List.replicate workers none) := by
  refine Ans_of (tblS_none ⟨by decide, by decide⟩ _) (show code 11 = some c11 from by kernel_rfl) (by simp) fun t hd ha => ?_
  have h0 := ha 0 _ rfl
  have h1 := ha 1 _ rfl
  clear ha
  have q1 : decide ((workers : Int) < 1) = false := decide_eq_false (by omega)
  have q2 : decide ((workers : Int) > 16) = false := decide_eq_false (by omega)
  have ms := mk_slice (b := 8) (z := .ptr none) (k := workers) (M := M) (by omega) (by omega)
  have bl : ∀ M' : AMem, opI (.build [.ptr none, .slice none 0 0 false, .int .i64 0] [(0, 1), (1, 1)]) [.ptr (some (bm, 0)), .slice (some (M.n, 0)) workers workers false] M' = some (.val (.agg [.ptr (some (bm, 0)), .slice (some (M.n, 0)) workers workers false, .int .i64 0]) M') := fun _ => rfl
  refine W_seq (W_seqR (by simp only [runSeq_cons, runSeq_nil, evalArgs_nil, evalArgs_const, val1, putT, opI_move]; rfl) ?_)
  refine W_seq (W_block (W_seq (W_seqR (by simp only [runSeq_cons, runSeq_nil, evalArgs_nil, evalArgs_tmp, evalArgs_const, val1, putT, Tr.get_set_self, Tr.get_set_ne, hd _, ne_eq, Nat.reduceEqDiff, not_false_eq_true, decide_true, Nat.reduceLT, opI_move, h0, op_np]; rfl) ?_)))
  refine W_cond (b := false) (by simp only [PArg.eval, Tr.get_set_self, Tr.get_set_ne, hd _, ne_eq, Nat.reduceEqDiff, not_false_eq_true, decide_true, Nat.reduceLT]; try rfl) (fun hb => by cases hb) (fun _ => ?_)
  refine W_seq (W_seqR (by simp only [runSeq_cons, runSeq_nil, evalArgs_nil, evalArgs_tmp, evalArgs_const, val1, putT, Tr.get_set_self, Tr.get_set_ne, Tr.isSome_set, hd _, ne_eq, Nat.reduceEqDiff, not_false_eq_true, decide_true, Nat.reduceLT, opI_move, opI_lss, opI_gtr, opI_pick, runSeq_guard (b := false), beq_self_eq_true, h1, q1, q2]; rfl) ?_)
  refine W_cond (b := false) (by simp only [PArg.eval, Tr.get_set_self, Tr.get_set_ne, hd _, ne_eq, Nat.reduceEqDiff, not_false_eq_true, decide_true, Nat.reduceLT]; try rfl) (fun hb => by cases hb) (fun _ => W_skip ?_)
  show W _ _
  have s1 : Step M (M.push (.cells (List.replicate workers (.ptr none)) 1 true none)) := (Step.refl hok).push (fun _ _ _ _ he => by cases he)
  have e1 := EvA.of_step s1 hh (fun _ => False)
  have g1 := get_push_self (k := .cells (List.replicate workers (.ptr none)) 1 true none) hok.1
  have n1 : (M.push (.cells (List.replicate workers (.ptr none)) 1 true none)).n = M.n + 1 := push_n
  generalize hM1 : M.push (.cells (List.replicate workers (.ptr none)) 1 true none) = M1 at *
  refine W_seq (W_seqR (by simp only [runSeq_cons, runSeq_nil, evalArgs_nil, evalArgs_tmp, evalArgs_const, val1, putT, Tr.get_set_self, Tr.get_set_ne, hd _, ne_eq, Nat.reduceEqDiff, not_false_eq_true, decide_true, Nat.reduceLT, opI_move, opI_box, cells_agg, h0, h1, ms, bl]; rfl) (W_ret ?_))
  have s2 : Step M1 (M1.push (.cells [.ptr (some (bm, 0)), .slice (some (M.n, 0)) workers workers false, .int .i64 0] 0 true none)) := (Step.refl e1.ok).push (fun _ _ _ _ he => by cases he)
  have e2 := EvA.of_step s2 e1.nh (fun _ => False)
  have g2 := get_push_self (k := .cells [.ptr (some (bm, 0)), .slice (some (M.n, 0)) workers workers false, .int .i64 0] 0 true none) e1.ok.1
  have e12 := e1.trans e2 (fun _ h => h) (fun _ _ h => h)
  have lbm := get_lt hok.1 hc.mem
  have lbc := get_lt hok.1 hc.cel
  refine ⟨_, fin_tmp2 (by simp only [Tr.get_set_self, Tr.get_set_ne, Option.isSome_some, hd _, ne_eq, Nat.reduceEqDiff, not_false_eq_true, decide_true, Nat.reduceLT]; try rfl) (by simp only [Tr.get_set_self, Tr.get_set_ne, Tr.isSome_set, Option.isSome_some, hd _, ne_eq, Nat.reduceEqDiff, not_false_eq_true, decide_true, Nat.reduceLT]; try rfl), M.n + 1, M.n, by rw [← n1]; rfl, by omega, by omega, e12, hc.ev hok.1 e12, ⟨0, ?_⟩, ⟨?_, ?_, ?_, ?_⟩, ⟨by omega, by omega, by omega, by omega, by omega⟩, ⟨List.replicate workers none, ?_, by simp, fun j w hv => ?_, fun j hv => ?_, fun j b ρ hj => ?_, fun j j' b b' ρ ρ' hj => ?_⟩, fun c hc => hc⟩
  · rw [← n1, g2, List.length_replicate]
  · rw [push_n]; omega
  · rw [push_n]; omega
  · rw [push_n]; omega
  · rw [push_n]; omega
  · rw [e2.same _ (by omega) (fun h => h), g1, List.map_replicate]; rfl
  · have := (List.mem_replicate.1 (List.mem_of_getElem? hv)).2; cases this
  · rw [List.getElem?_replicate] at hv ⊢
    split at hv
    · rename_i h; rw [if_pos h]
    · cases hv
  · have := (List.mem_replicate.1 (List.mem_of_getElem? hj)).2; cases this
  · have := (List.mem_replicate.1 (List.mem_of_getElem? hj)).2; cases this
end Go.Proofs.Ytldijnabgabehaa.so
