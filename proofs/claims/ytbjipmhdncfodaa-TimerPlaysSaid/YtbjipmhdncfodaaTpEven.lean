/- The parts TpSame, TpEven of the walk. -/
import Derived.Test.YtbjipmhdncfodaaTpAll
/- The walk of the comparison of two lists of numbers. -/
namespace Go.Proofs.Ytbjipmhdncfodaa.grf
open Go Go.Vx

set_option maxHeartbeats 1000000 in
theorem sameU_ok {k : IntKind} {u v : AV} {xs ys : List Int} (d : Nat) (M : AMem) (hu : IRow M k u xs) (hv : IRow M k v ys) (hn : xs.length < 90000) :
    callF tbl code 100000 (d + 1) 15 [u, v] M = some (.bool (decide (xs = ys)), M) := by
  refine Ans.eq ?_
  refine Ans_of (tbl_none (by decide) _) (show code 15 = some c15 from by kernel_rfl) (by simp) fun t hd ha => ?_
  have h0 := ha 0 u rfl
  have h1 := ha 1 v rfl
  have lu := hu.len
  have lv := hv.len
  clear ha
  refine W_seq (W_seqR (by simp only [runSeq_cons, runSeq_nil, evalArgs_nil, evalArgs_const, val1, putT, opI_move]; rfl) ?_)
  refine W_seq (W_seq (W_seqR (by simp only [runSeq_cons, runSeq_nil, evalArgs_nil, evalArgs_tmp, val1, putT, Tr.get_set_self, Tr.get_set_ne, hd _, ne_eq, Nat.reduceEqDiff, not_false_eq_true, decide_true, Nat.reduceLT, opI_move, opI_neq, h0, h1, lu, lv]; rfl) ?_))
  refine W_cond (by simp only [PArg.eval, Tr.get_set_self, Tr.get_set_ne, hd _, ne_eq, Nat.reduceEqDiff, not_false_eq_true, decide_true, Nat.reduceLT]; rfl) (fun hb => ?_) (fun hb => ?_)
  · refine W_seq (W_seqR (by simp only [runSeq_cons, runSeq_nil, evalArgs_nil, evalArgs_const, val1, putT, opI_move]; rfl) (W_ret ?_))
    refine ⟨_, fin_tmp (by simp only [Tr.get_set_self, Tr.get_set_ne, Option.isSome_some, hd _, ne_eq, Nat.reduceEqDiff, not_false_eq_true, decide_true, Nat.reduceLT]; rfl), rfl, ?_⟩
    have : xs ≠ ys := fun h => by subst h; simp at hb
    simp [resV, this]
  have hnm : xs.length = ys.length := by simp at hb; omega
  clear hb
  refine W_skip (W_seq (W_seq (W_seqR (by simp only [runSeq_cons, runSeq_nil, evalArgs_nil, evalArgs_const, val1, putT, opI_move]; rfl) (W_block (W_loop (fun k' t M' => ∃ i : Nat, k' + i = xs.length ∧ M' = M ∧ Dom t 26 ∧ t.get 0 = some u ∧ t.get 1 = some v ∧ t.get 5 = some (.int .i64 i) ∧ xs.take i = ys.take i) (k := xs.length) (by omega) ?_ ?_)))))
  · exact ⟨0, rfl, rfl, by ((repeat (with_reducible apply Dom.set)); exact hd), by simp only [Tr.get_set_ne, ne_eq, Nat.reduceEqDiff, not_false_eq_true, h0], by simp only [Tr.get_set_ne, ne_eq, Nat.reduceEqDiff, not_false_eq_true, h1], by simp only [Tr.get_set_self, Tr.get_set_ne, hd _, ne_eq, Nat.reduceEqDiff, not_false_eq_true, decide_true, Nat.reduceLT]; rfl, rfl⟩
  clear h0 h1 hd
  intro k' t' M' ⟨i, hk, hM, hd, h0, h1, h5, hj⟩
  subst hM
  refine W_seq (W_seq (W_seqR (by simp only [runSeq_cons, runSeq_nil, evalArgs_nil, evalArgs_tmp, val1, putT, Tr.get_set_self, Tr.get_set_ne, hd _, ne_eq, Nat.reduceEqDiff, not_false_eq_true, decide_true, Nat.reduceLT, opI_move, opI_lss, h0, h5, lu]; rfl) ?_))
  refine W_cond (by simp only [PArg.eval, Tr.get_set_self, Tr.get_set_ne, hd _, ne_eq, Nat.reduceEqDiff, not_false_eq_true, decide_true, Nat.reduceLT]; rfl) (fun hb => ?_) (fun hb => ?_)
  rotate_left
  · refine W_exit ?_
    have hin : i = xs.length := by simp at hb; omega
    show W _ _
    refine W_seq (W_seqR (by simp only [runSeq_cons, runSeq_nil, evalArgs_nil, evalArgs_const, val1, putT, opI_move]; rfl) (W_ret ?_))
    refine ⟨_, fin_tmp (by simp only [Tr.get_set_self, Tr.get_set_ne, hd _, ne_eq, Nat.reduceEqDiff, not_false_eq_true, decide_true, Nat.reduceLT]; rfl), rfl, ?_⟩
    have : xs = ys := by
      rw [hin, List.take_length, hnm, List.take_length] at hj; exact hj
    simp [resV, this]
  have hin : i < xs.length := by simpa using hb
  obtain ⟨p, _, e1, e2⟩ := hu.at_ hin
  obtain ⟨q, _, e3, e4⟩ := hv.at_ (i := i) (by omega)
  refine W_skip (W_seq (W_block (W_seq (W_quiet rfl (by simp only [runPure_cons, runPure_nil, ofD_cons, ofD_nil, sameN_self, evalArgs_nil, evalArgs_tmp, putT, Tr.get_set_self, Tr.get_set_ne, hd _, ne_eq, Nat.reduceEqDiff, not_false_eq_true, decide_true, Nat.reduceLT, opI_move, opI_neq, h0, h1, h5, e1, e2, e3, e4]; rfl) ?_))))
  refine W_cond (by simp only [PArg.eval, Tr.get_set_self, Tr.get_set_ne, hd _, ne_eq, Nat.reduceEqDiff, not_false_eq_true, decide_true, Nat.reduceLT]; rfl) (fun hb => ?_) (fun hb => ?_)
  · refine W_seq (W_seqR (by simp only [runSeq_cons, runSeq_nil, evalArgs_nil, evalArgs_const, val1, putT, opI_move]; rfl) (W_ret ?_))
    refine ⟨_, fin_tmp (by simp only [Tr.get_set_self, Tr.get_set_ne, hd _, ne_eq, Nat.reduceEqDiff, not_false_eq_true, decide_true, Nat.reduceLT]; rfl), rfl, ?_⟩
    have h : xs[i] ≠ ys[i] := by simpa using hb
    have : xs ≠ ys := fun he => h (by subst he; rfl)
    simp [resV, this]
  have hfg : xs[i] = ys[i] := by simpa using hb
  refine W_skip (W_seqR (by simp only [runSeq_cons, runSeq_nil, evalArgs_nil, evalArgs_tmp, evalArgs_const, val1, putT, Tr.get_set_self, Tr.get_set_ne, hd _, ne_eq, Nat.reduceEqDiff, not_false_eq_true, decide_true, Nat.reduceLT, opI_move, opI_add, h5]; rfl) ?_)
  refine ⟨k' - 1, by omega, i + 1, by omega, rfl, by ((repeat (with_reducible apply Dom.set)); exact hd), by simp only [Tr.get_set_ne, ne_eq, Nat.reduceEqDiff, not_false_eq_true, h0], by simp only [Tr.get_set_ne, ne_eq, Nat.reduceEqDiff, not_false_eq_true, h1], ?_, ?_⟩
  · simp only [Tr.get_set_self, Tr.get_set_ne, hd _, ne_eq, Nat.reduceEqDiff, not_false_eq_true, decide_true, Nat.reduceLT]
    rw [wrapF_small (by omega) (by omega)]; rfl
  · rw [List.take_succ_eq_append_getElem hin, List.take_succ_eq_append_getElem (by omega), hj, hfg]

end Go.Proofs.Ytbjipmhdncfodaa.grf
/- A timer and the document's are alike: the walk of even. -/
namespace Go.Proofs.Ytbjipmhdncfodaa.grf
open Go Go.Vx
/-- The document's list is the entries, in order. -/
structure Like (l D : List En) : Prop where
  perm : l.Perm D
  ord : D.Pairwise (fun a b => ltE b a = false)
  ns : (l.map (·.n)).Nodup
theorem ltE_anti {x y : En} (h : ltE x y = false) (k : ltE y x = false) : x.n = y.n := by
  simp only [ltE, decide_eq_false_iff_not] at h k
  omega
theorem sorted_eq : ∀ {a b : List En}, a.Perm b → (a.map (·.n)).Nodup → a.Pairwise (fun a b => ltE b a = false) → b.Pairwise (fun a b => ltE b a = false) → a = b
  | [], b, hp, _, _, _ => hp.nil_eq
  | x :: a, [], hp, _, _, _ => absurd hp.length_eq (by simp)
  | x :: a, y :: b, hp, hn, ha, hb => by
    have hxy : x = y := by
      have h1 : x ∈ y :: b := hp.mem_iff.1 List.mem_cons_self
      have h2 : y ∈ x :: a := hp.mem_iff.2 List.mem_cons_self
      refine ns_inj hn List.mem_cons_self h2 ?_
      rw [List.pairwise_cons] at ha hb
      rcases List.mem_cons.1 h1 with h | h
      · rw [h]
      · rcases List.mem_cons.1 h2 with k | k
        · rw [k]
        · exact ltE_anti (hb.1 x h) (ha.1 y k)
    subst hxy
    rw [List.map_cons, List.nodup_cons] at hn
    rw [List.pairwise_cons] at ha hb
    rw [sorted_eq (List.Perm.cons_inv hp) hn.2 ha.2 hb.2]
theorem Like.srt {l D : List En} (h : Like l D) : srtE l = D :=
  sorted_eq ((srtE_perm l).symm.trans h.perm) (((srtE_perm l).map _).nodup_iff.1 h.ns) (srtE_sorted l) h.ord
theorem Like.first {l D : List En} (h : Like l D) (hh : HeapN ltE dEn l l.length) (hl : 0 < l.length) : l.getD 0 dEn = D.getD 0 dEn := by
  have hlD := h.perm.length_eq
  have h0 : l.getD 0 dEn ∈ l := getD_mem hl
  have hD0 : D.getD 0 dEn ∈ l := h.perm.mem_iff.2 (by rw [getD_get (by omega)]; exact List.getElem_mem _)
  refine ns_inj h.ns h0 hD0 ?_
  have h1 : ltE (D.getD 0 dEn) (l.getD 0 dEn) = false := by
    obtain ⟨c, hc, he⟩ := List.mem_iff_getElem.1 hD0
    have := heap_min woE hh c hc
    rwa [getD_get hc, he] at this
  have h2 : ltE (l.getD 0 dEn) (D.getD 0 dEn) = false := by
    obtain ⟨c, hc, he⟩ := List.mem_iff_getElem.1 (h.perm.mem_iff.1 h0)
    rw [← he, getD_get (show 0 < D.length by omega)]
    rcases Nat.eq_zero_or_pos c with rfl | hpos
    · simp [ltE]
    · exact List.pairwise_iff_getElem.1 h.ord 0 c (by omega) hc hpos
  exact ltE_anti h2 h1
section
variable {M0 M : AMem} {J : Nat → Prop} {tb mb δ : Nat} {l D : List En} {nn now : Int} {w : AV}
theorem eqP (x : En) (M : AMem) : opI (.eqStruct [(0, 0), (1, 0)] true) [.agg (eP x), .agg (eP x)] M = some (.val (.bool false) M) := by
  simp [opI, eqParts, eqScalar, xorB]
set_option maxRecDepth 20000 in
set_option maxHeartbeats 8000000 in
theorem even_ok (h : TSh M0 M J tb mb l nn now) (hw : RowN M 3 δ w (D.map eD)) (hL : Like l D) (d : Nat) :
    Ans (callF tbl code 100000 (d + 4)) 16 [.ptr (some (tb, 0)), .agg (tA w nn now)] M fun r M' => Step M M' ∧ r = .bool true := by
  refine Ans_of (tbl_none (by decide) _) (show code 16 = some c16 from by kernel_rfl) (by simp) fun t hd ha => ?_
  have h0 := ha 0 _ rfl
  have h1 := ha 1 _ rfl
  clear ha
  have hok := h.step.ok
  have hlD := hL.perm.length_eq
  have hll := h.len
  have s1 := (Step.refl hok).push (k := .cells (tA w nn now) 0 true none) (fun _ _ _ _ he => by cases he)
  have g3 := get_push_self (k := .cells (tA w nn now) 0 true none) hok.1
  refine W_seq (W_seqR (by simp only [runSeq_cons, runSeq_nil, evalArgs_nil, evalArgs_tmp, evalArgs_const, val1, putT, opI_move, opI_box, cells_agg, h1]; rfl) ?_)
  generalize hM1 : M.push (.cells (tA w nn now) 0 true none) = M1 at *
  have n1 : M1.n = M.n + 1 := by rw [← hM1]; rfl
  have hT1 := h.frame (ids := fun _ => False) (h.step.trans s1) (by omega) (Fr.grow hok.1 s1.grow) (fun _ _ _ hh => hh)
  have c1 := first_ok hT1 (d + 1)
  obtain ⟨r2, M2, c2, s2, hr2⟩ := all_ok hT1 d
  rw [hL.srt] at hr2
  have t2 := s1.trans s2
  have hT2 := h.frame (ids := fun _ => False) (h.step.trans t2) t2.grow.n (Fr.grow hok.1 t2.grow) (fun _ _ _ hh => hh)
  have hw2 := hw.grow hok.1 t2.grow
  have g3' := (s2.grow.get _ (by omega)).trans g3
  have L0 := load_own (o := 0) g3' rfl
  have L2 := load_own (o := 2) g3' rfl
  have lD := rowD_len hw2
  have hrow := hr2.row t2.ok.1
  have hrow' := hr2.row s2.ok.1
  have lr := hrow'.len
  rw [List.length_map, ← hlD] at lr
  rw [← hlD] at lD
  have ln := len_ok hT2 (d + 2)
  have nw := now_ok hT2 (d + 2)
  have z1 : ((l.length : Int) != (l.length : Int)) = false := by simp
  have z2 : (now != now) = false := by simp
  have q0 := held_none t2.ok.1
  have x1 : xorB true true = false := rfl
  have hwb := hw.beq1
  by_cases hl : l.length = 0
  · rw [if_pos hl] at c1
    have z3 : decide ((l.length : Int) > 0) = false := decide_eq_false (by omega)
    have z4 : ((0 : Int) != 0) = false := rfl
    refine W_seq (W_seqR (by simp only [runSeq_cons, runSeq_nil, evalArgs_nil, evalArgs_tmp, val1, putT, Tr.get_set_self, Tr.get_set_ne, hd _, ne_eq, Nat.reduceEqDiff, not_false_eq_true, decide_true, Nat.reduceLT, opI_move, opI_extract, opI_callF, h0, c1, List.getElem?_cons_zero, List.getElem?_cons_succ]; rfl) ?_)
    refine W_seq (W_seqR (by simp only [runSeq_cons, runSeq_nil, evalArgs_nil, evalArgs_tmp, val1, putT, Tr.get_set_self, Tr.get_set_ne, hd _, ne_eq, Nat.reduceEqDiff, not_false_eq_true, decide_true, Nat.reduceLT, opI_move, opI_callF, h0, c2]; rfl) ?_)
    refine W_seq (W_seq (W_trace (M' := M2) rfl (by simp only [sameN_self, evalArgs_nil, evalArgs_tmp, evalArgs_const, val1, putT, Tr.get_set_self, Tr.get_set_ne, Tr.isSome_set, hd _, ne_eq, Nat.reduceEqDiff, not_false_eq_true, decide_true, Nat.reduceLT, opI_move, opI_not, opI_gtr, opI_neq, opI_eqBool, opI_callF, opI_fieldP, opI_pick, Nat.zero_add, Nat.add_zero, trace_nil, trace_read, trace_eff, addR_some, addE_some, Bool.and_true, Bool.not_false, trace_gread (b := true), trace_gread (b := false), trace_geff (b := false), beq_self_eq_true, h0, ln, nw, L0, L2, lD, lr, z1, z2, z3, z4, x1, q0]; rfl) (by simp [checkRec, isLoad, sameAt, L0, L2, AV.beq, hwb]) rfl ?_))
    refine W_cond (b := false) (by simp only [PArg.eval, Tr.get_set_self, Tr.get_set_ne, hd _, ne_eq, Nat.reduceEqDiff, not_false_eq_true, decide_true, Nat.reduceLT]; try rfl) (fun hb => by cases hb) (fun _ => W_skip ?_)
    show W _ _
    refine W_seq (W_seq (W_seqR (by simp only [runSeq_cons, runSeq_nil, evalArgs_nil, evalArgs_const, val1, putT, opI_move]; rfl) (W_block (W_loop (fun k t M' => M' = M2 ∧ Dom t 82 ∧ t.get 6 = some (.bool false) ∧ t.get 7 = some r2 ∧ t.get 8 = some (.int .i64 0)) (k := 0) (by omega) ?_ ?_))))
    · exact ⟨rfl, by ((repeat (with_reducible apply Dom.set)); exact hd), by simp only [Tr.get_set_self, Tr.get_set_ne, hd _, ne_eq, Nat.reduceEqDiff, not_false_eq_true, decide_true, Nat.reduceLT], by simp only [Tr.get_set_self, Tr.get_set_ne, hd _, ne_eq, Nat.reduceEqDiff, not_false_eq_true, decide_true, Nat.reduceLT], by simp only [Tr.get_set_self, Tr.get_set_ne, hd _, ne_eq, Nat.reduceEqDiff, not_false_eq_true, decide_true, Nat.reduceLT]⟩
    clear h0 h1 hd
    intro k t M' ⟨hM, hd, h6, h7, h8⟩
    subst hM
    have z5 : decide ((0 : Int) < l.length) = false := decide_eq_false (by omega)
    refine W_seq (W_seq (W_seqR (by simp only [runSeq_cons, runSeq_nil, evalArgs_nil, evalArgs_tmp, val1, putT, Tr.get_set_self, Tr.get_set_ne, hd _, ne_eq, Nat.reduceEqDiff, not_false_eq_true, decide_true, Nat.reduceLT, opI_move, opI_lss, h7, h8, lr, z5]; rfl) ?_))
    refine W_cond (b := false) (by simp only [PArg.eval, Tr.get_set_self, Tr.get_set_ne, hd _, ne_eq, Nat.reduceEqDiff, not_false_eq_true, decide_true, Nat.reduceLT]; try rfl) (fun hb => by cases hb) (fun _ => W_exit ?_)
    show W _ _
    refine W_seq (W_seqR (by simp only [runSeq_cons, runSeq_nil, evalArgs_nil, evalArgs_tmp, evalArgs_const, val1, putT, Tr.get_set_self, Tr.get_set_ne, Tr.isSome_set, hd _, ne_eq, Nat.reduceEqDiff, not_false_eq_true, decide_true, Nat.reduceLT, opI_move, opI_not, opI_pick, runSeq_guard (b := true), Bool.true_beq, Bool.not_false, h6]; rfl) (W_ret ?_))
    exact ⟨_, fin_tmp (by simp only [Tr.get_set_self, Tr.get_set_ne, hd _, ne_eq, Nat.reduceEqDiff, not_false_eq_true, decide_true, Nat.reduceLT]; try rfl), t2, rfl⟩
  · rw [if_neg hl] at c1
    have z3 : decide ((l.length : Int) > 0) = true := decide_eq_true (by omega)
    refine W_seq (W_seqR (by simp only [runSeq_cons, runSeq_nil, evalArgs_nil, evalArgs_tmp, val1, putT, Tr.get_set_self, Tr.get_set_ne, hd _, ne_eq, Nat.reduceEqDiff, not_false_eq_true, decide_true, Nat.reduceLT, opI_move, opI_extract, opI_callF, h0, c1, List.getElem?_cons_zero, List.getElem?_cons_succ]; rfl) ?_)
    refine W_seq (W_seqR (by simp only [runSeq_cons, runSeq_nil, evalArgs_nil, evalArgs_tmp, val1, putT, Tr.get_set_self, Tr.get_set_ne, hd _, ne_eq, Nat.reduceEqDiff, not_false_eq_true, decide_true, Nat.reduceLT, opI_move, opI_callF, h0, c2]; rfl) ?_)
    refine W_seq (W_seq (W_trace (M' := M2) rfl (by simp only [sameN_self, evalArgs_nil, evalArgs_tmp, evalArgs_const, val1, putT, Tr.get_set_self, Tr.get_set_ne, Tr.isSome_set, hd _, ne_eq, Nat.reduceEqDiff, not_false_eq_true, decide_true, Nat.reduceLT, opI_move, opI_not, opI_gtr, opI_neq, opI_eqBool, opI_callF, opI_fieldP, opI_pick, Nat.zero_add, Nat.add_zero, trace_nil, trace_read, trace_eff, addR_some, addE_some, Bool.and_true, Bool.not_true, Bool.not_false, trace_gread (b := false), trace_geff (b := false), beq_self_eq_true, Bool.false_beq, h0, ln, nw, L0, L2, lD, lr, z1, z2, z3, x1, q0]; rfl) (by simp [checkRec, isLoad, sameAt, L0, L2, AV.beq, hwb]) rfl ?_))
    refine W_cond (b := false) (by simp only [PArg.eval, Tr.get_set_self, Tr.get_set_ne, hd _, ne_eq, Nat.reduceEqDiff, not_false_eq_true, decide_true, Nat.reduceLT]; try rfl) (fun hb => by cases hb) (fun _ => W_skip ?_)
    show W _ _
    refine W_seq (W_seq (W_seqR (by simp only [runSeq_cons, runSeq_nil, evalArgs_nil, evalArgs_const, val1, putT, opI_move]; rfl) (W_block (W_loop (fun k t M' => ∃ i : Nat, k + i = l.length ∧ M' = M2 ∧ Dom t 82 ∧ t.get 3 = some (.ptr (some (M.n, 0))) ∧ t.get 5 = some (.int .i64 (l.getD 0 dEn).at_) ∧ t.get 6 = some (.bool true) ∧ t.get 7 = some r2 ∧ t.get 8 = some (.int .i64 i)) (k := l.length) (by omega) ?_ ?_))))
    · exact ⟨0, rfl, rfl, by ((repeat (with_reducible apply Dom.set)); exact hd), by simp only [Tr.get_set_self, Tr.get_set_ne, hd _, ne_eq, Nat.reduceEqDiff, not_false_eq_true, decide_true, Nat.reduceLT], by simp only [Tr.get_set_self, Tr.get_set_ne, hd _, ne_eq, Nat.reduceEqDiff, not_false_eq_true, decide_true, Nat.reduceLT], by simp only [Tr.get_set_self, Tr.get_set_ne, hd _, ne_eq, Nat.reduceEqDiff, not_false_eq_true, decide_true, Nat.reduceLT], by simp only [Tr.get_set_self, Tr.get_set_ne, hd _, ne_eq, Nat.reduceEqDiff, not_false_eq_true, decide_true, Nat.reduceLT], by simp only [Tr.get_set_self, Tr.get_set_ne, hd _, ne_eq, Nat.reduceEqDiff, not_false_eq_true, decide_true, Nat.reduceLT]; rfl⟩
    clear h0 h1 hd
    intro k t M' ⟨i, hk, hM, hd, h3, h5, h6, h7, h8⟩
    subst hM
    refine W_seq (W_seq (W_seqR (by simp only [runSeq_cons, runSeq_nil, evalArgs_nil, evalArgs_tmp, val1, putT, Tr.get_set_self, Tr.get_set_ne, hd _, ne_eq, Nat.reduceEqDiff, not_false_eq_true, decide_true, Nat.reduceLT, opI_move, opI_lss, h7, h8, lr]; rfl) ?_))
    refine W_cond (by simp only [PArg.eval, Tr.get_set_self, Tr.get_set_ne, hd _, ne_eq, Nat.reduceEqDiff, not_false_eq_true, decide_true, Nat.reduceLT]; rfl) (fun hb => W_skip ?_) (fun hb => W_exit ?_)
    · have hi : i < l.length := by simpa using hb
      obtain ⟨p, pp, p1, p2, _⟩ := hrow'.at_ (i := i) (by rw [List.length_map]; omega) (by omega)
      have hget : (D.map eP)[i]'(by rw [List.length_map]; omega) = eP (D.getD i dEn) := by rw [List.getElem_map, getD_get (by omega)]
      rw [hget] at p2
      have p2' : opI (.load true 2) [padd p 0] M' = some (.val (.agg (eP (D.getD i dEn))) M') := p2 0 2 (by omega)
      obtain ⟨q, qq, q1, _, _, _, q2⟩ := rowD_at hw2 (i := i) (by omega)
      have q3 := opI_fieldQ (M := M') (a := 0) (o := 0) qq
      have es := eqP (D.getD i dEn) M'
      show W _ _
      refine W_seq (W_block (W_seq (W_quiet rfl (by simp only [runPure_cons, runPure_nil, ofD_cons, ofD_nil, sameN_self, evalArgs_nil, evalArgs_tmp, putT, Tr.get_set_self, Tr.get_set_ne, hd _, ne_eq, Nat.reduceEqDiff, not_false_eq_true, decide_true, Nat.reduceLT, opI_move, opI_fieldP, Nat.add_zero, h3, h7, h8, p1, p2', L0, q1, q2, q3, es]; rfl) ?_)))
      refine W_cond (b := false) (by simp only [PArg.eval, Tr.get_set_self, Tr.get_set_ne, hd _, ne_eq, Nat.reduceEqDiff, not_false_eq_true, decide_true, Nat.reduceLT]; try rfl) (fun hb => by cases hb) (fun _ => W_skip ?_)
      show W _ _
      refine W_seqR (by simp only [runSeq_cons, runSeq_nil, evalArgs_nil, evalArgs_tmp, evalArgs_const, val1, putT, Tr.get_set_self, Tr.get_set_ne, hd _, ne_eq, Nat.reduceEqDiff, not_false_eq_true, decide_true, Nat.reduceLT, opI_move, opI_add, h8]; rfl) ?_
      refine ⟨k - 1, by omega, i + 1, by omega, rfl, by ((repeat (with_reducible apply Dom.set)); exact hd), by simp only [Tr.get_set_ne, ne_eq, Nat.reduceEqDiff, not_false_eq_true, h3], by simp only [Tr.get_set_ne, ne_eq, Nat.reduceEqDiff, not_false_eq_true, h5], by simp only [Tr.get_set_ne, ne_eq, Nat.reduceEqDiff, not_false_eq_true, h6], by simp only [Tr.get_set_ne, ne_eq, Nat.reduceEqDiff, not_false_eq_true, h7], ?_⟩
      simp only [Tr.get_set_self, Tr.get_set_ne, hd _, ne_eq, Nat.reduceEqDiff, not_false_eq_true, decide_true, Nat.reduceLT]
      rw [wrapF_small (by omega) (by omega)]; rfl
    show W _ _
    obtain ⟨q, qq, q1, q2, _⟩ := rowD_at hw2 (i := 0) (by omega)
    have q1' : opI (.indexAddrS 3) [w, .int .i64 0] M' = some (.val (padd q 0) M') := q1
    have q3 := opI_fieldQ (M := M') (a := 0) (o := 0) qq
    rw [hL.first h.heap (by omega)] at h5
    have z6 : ((D.getD 0 dEn).at_ == (D.getD 0 dEn).at_) = true := by simp
    refine W_seq (W_seqR (by simp only [runSeq_cons, runSeq_nil, evalArgs_nil, evalArgs_tmp, evalArgs_const, val1, putT, Tr.get_set_self, Tr.get_set_ne, Tr.isSome_set, hd _, ne_eq, Nat.reduceEqDiff, not_false_eq_true, decide_true, Nat.reduceLT, opI_move, opI_not, opI_eql, opI_fieldP, opI_pick, Nat.add_zero, runSeq_guard (b := false), beq_self_eq_true, Bool.not_true, h3, h5, h6, L0, q1', q2, q3]; rfl) (W_ret ?_))
    exact ⟨_, fin_tmp (by simp only [Tr.get_set_self, Tr.get_set_ne, hd _, ne_eq, Nat.reduceEqDiff, not_false_eq_true, decide_true, Nat.reduceLT]; try rfl), t2, rfl⟩
end
end Go.Proofs.Ytbjipmhdncfodaa.grf
