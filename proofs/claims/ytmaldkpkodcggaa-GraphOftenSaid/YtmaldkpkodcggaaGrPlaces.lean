/- The methods of a heap of numbers. -/
import Derived.Test.YtmaldkpkodcggaaHpWalk
namespace Go.Proofs.Ytmaldkpkodcggaa.grf
open Go Go.Vx

abbrev eI (x : Int) : List AV := [.int .i64 x]
abbrev ltI (a b : Int) : Bool := decide (a < b)
theorem woI : WO ltI := ⟨fun a b h => by simp only [decide_eq_true_eq, decide_eq_false_iff_not] at *; omega, fun a b c h k => by simp only [decide_eq_false_iff_not] at *; omega⟩
abbrev hvP (pb : Nat) : AV := .iface 51 (.ptr (some (pb, 0)))
/-- Numbers in a heap: the block of its slice, the name of its array; since 'A' nothing else was turned. -/
def PRep (M0 A : AMem) (pb γ : Nat) (M : AMem) (l : List Int) : Prop := Step M0 M ∧ A.n ≤ M.n ∧ Fr A M (fun i => i = pb ∨ i = γ) ∧ M0.n ≤ pb ∧ pb ≠ γ ∧ l.length ≤ 90000 ∧ ∃ v, M.get pb = some (.cells [v] 0 true none) ∧ RowI M0 M 1 γ v (l.map eI)
section
variable {M0 A M : AMem} {pb γ : Nat} {l : List Int} {v : AV}
theorem via1 {f : FuncId} {us : List AV} {tl : TypeId} (h : M.get pb = some (.cells [v] 0 true none)) (hne : tl ≠ 51) : opI (.invoke [(tl, f)] [(51, f, false, 1)]) (hvP pb :: us) M = some (.call f (v :: us)) := by
  have h1 : List.lookup 51 [(tl, f)] = none := by
    simp only [List.lookup_cons, List.lookup_nil]
    have : ((51 : Nat) == tl) = false := by simpa using fun h => hne h.symm
    rw [this]
  have h2 : List.lookup 51 [((51 : TypeId), (f, false, 1))] = some (f, false, 1) := by simp [List.lookup]
  simp only [opI, invokeI, h1, h2, viaI, Bool.false_eq_true, if_false, AMem.loadCells, h]
  simp
theorem row1_len (hv : RowI M0 M 1 γ v (l.map eI)) (hok : Ok M) : opI .lenS [v] M = some (.val (.int .i64 l.length) M) := by
  have := (hv.row hok).len
  rwa [List.length_map] at this
theorem row1_at (hv : RowI M0 M 1 γ v (l.map eI)) (hok : Ok M) {i : Nat} (hi : i < l.length) : (∀ M', opI (.indexAddrS 1) [v, .int .i64 i] M' = some (.val (rowp v 1 i) M')) ∧ opI (.load false 1) [rowp v 1 i] M = some (.val (.int .i64 (l.getD i 0)) M) := by
  have hi' : i < (l.map eI).length := by rw [List.length_map]; exact hi
  refine ⟨hv.idx hi', ?_⟩
  have := (hv.ld hok (by omega) hi').2 0 (.int .i64 (l.getD i 0)) (by rw [List.getElem_map, List.getD_eq_getElem?_getD, List.getElem?_eq_getElem hi]; rfl)
  rwa [padd_z (hv.isP hi')] at this
theorem row1_put (h : Step M0 M) (hv : RowI M0 M 1 γ v (l.map eI)) {i : Nat} (hi : i < l.length) (x : Int) : ∃ M', opI (.store 1) [rowp v 1 i, .int .i64 x] M = some (.val (.tuple []) M') ∧ Step M0 M' ∧ RowI M0 M' 1 γ v ((l.set i x).map eI) ∧ Fr M M' (· = γ) ∧ M'.n = M.n := by
  obtain ⟨M', h1, h2, h3, h4, h5⟩ := hv.put h (i := i) (by rw [List.length_map]; exact hi) (x := .int .i64 x) rfl rfl
  exact ⟨M', h1, h2, by rw [List.map_set]; exact h3, h4, h5⟩
set_option maxHeartbeats 1000000 in
theorem less_ok (d : Nat) (hok : Ok M) (hv : RowI M0 M 1 γ v (l.map eI)) {i j : Nat} (hi : i < l.length) (hj : j < l.length) :
    callF tbl code 100000 (d + 1) 40 [v, .int .i64 i, .int .i64 j] M = some (.bool (ltI (l.getD i 0) (l.getD j 0)), M) := by
  refine Ans.eq ?_
  refine Ans_of (tbl_none (by decide) _) (show code 40 = some c40 from by kernel_rfl) (by simp) fun t hd ha => ?_
  have h0 := ha 0 _ rfl
  have h1 := ha 1 _ rfl
  have h2 := ha 2 _ rfl
  clear ha
  obtain ⟨a1, a2⟩ := row1_at hv hok hi
  obtain ⟨b1, b2⟩ := row1_at hv hok hj
  refine W_seq (W_seqR (by simp only [runSeq_cons, runSeq_nil, evalArgs_nil, evalArgs_const, val1, putT, opI_move]; rfl) ?_)
  refine W_seq (W_quiet rfl (by simp only [runPure_cons, runPure_nil, ofD_cons, ofD_nil, sameN_self, evalArgs_nil, evalArgs_tmp, putT, Tr.get_set_self, Tr.get_set_ne, hd _, ne_eq, Nat.reduceEqDiff, not_false_eq_true, decide_true, Nat.reduceLT, opI_move, opI_lss, h0, h1, h2, a1, a2, b1, b2]; rfl) (W_ret ?_))
  exact ⟨_, fin_tmp (by simp only [Tr.get_set_self, Tr.get_set_ne, Option.isSome_some, hd _, ne_eq, Nat.reduceEqDiff, not_false_eq_true, decide_true, Nat.reduceLT]; try rfl), rfl, rfl⟩
set_option maxHeartbeats 1000000 in
theorem swap_ok (d : Nat) (h : Step M0 M) (hv : RowI M0 M 1 γ v (l.map eI)) {i j : Nat} (hi : i < l.length) (hj : j < l.length) :
    Ans (callF tbl code 100000 (d + 1)) 43 [v, .int .i64 i, .int .i64 j] M fun _ M' => Step M0 M' ∧ RowI M0 M' 1 γ v ((swapL 0 l i j).map eI) ∧ Fr M M' (· = γ) ∧ M'.n = M.n := by
  refine Ans_of (tbl_none (by decide) _) (show code 43 = some c43 from by kernel_rfl) (by simp) fun t hd ha => ?_
  have h0 := ha 0 _ rfl
  have h1 := ha 1 _ rfl
  have h2 := ha 2 _ rfl
  clear ha
  obtain ⟨a1, a2⟩ := row1_at hv h.ok.1 hi
  obtain ⟨b1, b2⟩ := row1_at hv h.ok.1 hj
  obtain ⟨M1, e1, s1, r1, f1, n1⟩ := row1_put h hv hi (l.getD j 0)
  obtain ⟨M2, e2, s2, r2, f2, n2⟩ := row1_put s1 r1 (i := j) (by rw [List.length_set]; exact hj) (l.getD i 0)
  have q0 := held_none h.ok.1
  have q1 := s1.nh M.n h.grow.n
  refine W_trace (M' := M2) rfl (by simp only [sameN_self, evalArgs_nil, evalArgs_tmp, val1, putT, Tr.get_set_self, Tr.get_set_ne, hd _, ne_eq, Nat.reduceEqDiff, not_false_eq_true, decide_true, Nat.reduceLT, opI_move, trace_nil, trace_read, trace_eff, addR_some, addE_some, Bool.false_and, Bool.and_true, Bool.not_false, h0, h1, h2, a1, a2, b1, b2, e1, e2, q0, q1]; rfl) (by simp [checkRec, isLoad]) rfl ?_
  exact ⟨[], rfl, s2, r2, f1.trans f2, by omega⟩
set_option maxHeartbeats 1000000 in
theorem plen_ok (d : Nat) (hok : Ok M) (hv : RowI M0 M 1 γ v (l.map eI)) : callF tbl code 100000 (d + 1) 20 [v] M = some (.int .i64 l.length, M) := by
  refine Ans.eq ?_
  refine Ans_of (tbl_none (by decide) _) (show code 20 = some c20 from by kernel_rfl) (by simp) fun t hd ha => ?_
  have h0 := ha 0 _ rfl
  clear ha
  have lv := row1_len hv hok
  refine W_seq (W_seqR (by simp only [runSeq_cons, runSeq_nil, evalArgs_nil, evalArgs_const, val1, putT, opI_move]; rfl) ?_)
  refine W_seq (W_seqR (by simp only [runSeq_cons, runSeq_nil, evalArgs_nil, evalArgs_tmp, val1, putT, Tr.get_set_self, Tr.get_set_ne, hd _, ne_eq, Nat.reduceEqDiff, not_false_eq_true, decide_true, Nat.reduceLT, opI_move, h0, lv]; rfl) (W_ret ?_))
  exact ⟨_, fin_tmp (by simp only [Tr.get_set_self, Tr.get_set_ne, Option.isSome_some, hd _, ne_eq, Nat.reduceEqDiff, not_false_eq_true, decide_true, Nat.reduceLT]; try rfl), rfl, rfl⟩
set_option maxHeartbeats 1000000 in
theorem ppop_ok (d : Nat) (h : Step M0 M) (hp : M0.n ≤ pb) (hpg : pb ≠ γ) (hc : M.get pb = some (.cells [v] 0 true none)) (hv : RowI M0 M 1 γ v (l.map eI)) (hl : 0 < l.length) (hn : l.length ≤ 90000) :
    Ans (callF tbl code 100000 (d + 1)) 41 [.ptr (some (pb, 0))] M fun r M' => r = .iface 3 (.int .i64 (l.getD (l.length - 1) 0)) ∧ Step M0 M' ∧ (∃ v', M'.get pb = some (.cells [v'] 0 true none) ∧ RowI M0 M' 1 γ v' ((l.take (l.length - 1)).map eI)) ∧ Fr M M' (· = pb) ∧ M'.n = M.n := by
  refine Ans_of (tbl_none (by decide) _) (show code 41 = some c41 from by kernel_rfl) (by simp) fun t hd ha => ?_
  have h0 := ha 0 _ rfl
  clear ha
  have lv := row1_len hv h.ok.1
  have L := load_own (o := 0) hc rfl
  have w1 : wrapF .i64 ((l.length : Int) - 1) = ((l.length - 1 : Nat) : Int) := by rw [wrapF_small (by omega) (by omega)]; omega
  obtain ⟨a1, a2⟩ := row1_at hv h.ok.1 (i := l.length - 1) (by omega)
  obtain ⟨v', p1, p2⟩ := hv.pop (by rw [List.length_map]; exact hl)
  rw [List.length_map] at p1 p2
  rw [← List.map_take] at p2
  obtain ⟨e1, s1, g1, k1⟩ := store1 (o := 0) (x := v') h hp hc p2.one (by simp)
  simp only [List.set_cons_zero] at e1 s1 g1 k1
  refine W_seq (W_seqR (by simp only [runSeq_cons, runSeq_nil, evalArgs_nil, evalArgs_const, val1, putT, opI_move]; rfl) ?_)
  refine W_seq (W_quiet rfl (by simp only [runPure_cons, runPure_nil, ofD_cons, ofD_nil, sameN_self, evalArgs_nil, evalArgs_tmp, evalArgs_const, putT, Tr.get_set_self, Tr.get_set_ne, hd _, ne_eq, Nat.reduceEqDiff, not_false_eq_true, decide_true, Nat.reduceLT, opI_move, opI_sub, h0, opI_nilP, L, lv, w1, a1, a2]; rfl) ?_)
  have hh := held_none h.ok.1
  refine W_seq (W_mix rfl (by simp only [sameN_self, evalArgs_nil, evalArgs_tmp, evalArgs_const, val1, putT, Tr.get_set_self, Tr.get_set_ne, hd _, ne_eq, Nat.reduceEqDiff, not_false_eq_true, decide_true, Nat.reduceLT, opI_move, opI_sub, runMix_nil, runMix_read, runMix_eff, h0, opI_nilP, L, lv, w1, p1, e1, hh]; rfl) ?_)
  refine W_seq (W_seqR (by simp only [runSeq_cons, runSeq_nil, evalArgs_nil, evalArgs_tmp, val1, putT, Tr.get_set_self, Tr.get_set_ne, hd _, ne_eq, Nat.reduceEqDiff, not_false_eq_true, decide_true, Nat.reduceLT, opI_move, opI_mkIface]; rfl) (W_ret ?_))
  have fr : Fr M (M.set pb (.cells [v'] 0 true none)) (· = pb) := Fr.set hc
  exact ⟨_, fin_tmp (by simp only [Tr.get_set_self, Tr.get_set_ne, Option.isSome_some, hd _, ne_eq, Nat.reduceEqDiff, not_false_eq_true, decide_true, Nat.reduceLT]; try rfl), rfl, s1, ⟨v', g1, p2.frame fr (fun h => hpg h.symm)⟩, fr, rfl⟩
set_option maxHeartbeats 1000000 in
theorem ppush_ok (d : Nat) (h : Step M0 M) (hp : M0.n ≤ pb) (hpg : pb ≠ γ) (hc : M.get pb = some (.cells [v] 0 true none)) (hv : RowI M0 M 1 γ v (l.map eI)) (hn : l.length ≤ 90000) (x : Int) :
    Ans (callF tbl code 100000 (d + 1)) 42 [.ptr (some (pb, 0)), .iface 3 (.int .i64 x)] M fun _ M' => Step M0 M' ∧ ∃ γ', (γ' = γ ∨ M.n ≤ γ') ∧ (∃ v', M'.get pb = some (.cells [v'] 0 true none) ∧ RowI M0 M' 1 γ' v' ((l ++ [x]).map eI)) ∧ Fr M M' (fun i => i = pb ∨ i = γ) ∧ M.n ≤ M'.n := by
  refine Ans_of (tbl_none (by decide) _) (show code 42 = some c42 from by kernel_rfl) (by simp) fun t hd ha => ?_
  have h0 := ha 0 _ rfl
  have h1 := ha 1 _ rfl
  clear ha
  have L := load_own (o := 0) hc rfl
  have hlt := get_lt h.ok.1 hc
  have hc1 : (M.push (.cells [.int .i64 x] 0 true none)).get pb = some (.cells [v] 0 true none) := by rw [get_push_old h.ok.1 hlt, hc]
  have L1 := load_own (o := 0) hc1 rfl
  obtain ⟨M2, v', γ', e1, e2, s2, r2, f2, g2, n2⟩ := hv.push (bytes := 8) (z := [.int .i64 0]) (x := .int .i64 x) h rfl rfl (by omega) rfl (by simp; omega) (by simp; omega)
  have hpk : ¬ gid pb (.cells [v] 0 true none) = γ := hpg
  have hc2 := f2 pb _ hc hpk
  obtain ⟨e3, s3, g3, k3⟩ := store1 (o := 0) (x := v') s2 hp hc2 r2.one (by simp)
  simp only [List.set_cons_zero] at e3 s3 g3 k3
  have as1 : ∀ M : AMem, opI (.assertC 3 false (.int .i64 0)) [.iface 3 (.int .i64 x)] M = some (.val (.int .i64 x) M) := fun _ => rfl
  have q0 := held_none h.ok.1
  have q1 : isHeld ((M.push (.cells [.int .i64 x] 0 true none)).get M.n) = false := by rw [get_push_self h.ok.1]; rfl
  have q2 := s2.nh M.n h.grow.n
  have hvb : AV.beq v v = true := RowE.beq1 (hv.row h.ok.1)
  simp only [AV.cells] at e1 e2
  refine W_trace (M' := M2.set pb (.cells [v'] 0 true none)) rfl (by simp only [sameN_self, evalArgs_nil, evalArgs_tmp, val1, putT, Tr.get_set_self, Tr.get_set_ne, hd _, ne_eq, Nat.reduceEqDiff, not_false_eq_true, decide_true, Nat.reduceLT, opI_move, trace_nil, trace_read, trace_eff, addR_some, addE_some, Bool.false_and, Bool.and_true, Bool.not_false, h0, h1, opI_nilP, L, as1, e1, e2, e3, q0, q1, q2]; rfl) (by simp [checkRec, isLoad, sameAt, L, L1, hvb]) rfl ?_
  have fr : Fr M2 (M2.set pb (.cells [v'] 0 true none)) (· = pb) := Fr.set hc2
  have hne : pb ≠ γ' := by
    rcases g2 with rfl | hge
    · exact hpg
    · omega
  refine ⟨[], rfl, s3, γ', g2, ⟨v', g3, ?_⟩, (f2.mono (fun i hi => .inr hi)).trans (fr.mono (fun i hi => .inl hi)), n2⟩
  have r3 := r2.frame fr (fun h => hne h.symm)
  rw [List.map_append]
  exact r3
/-- The methods, as the heap calls them. -/
theorem heapP : HM 1 (hvP pb) (PRep M0 A pb γ) 0 (fun x => .iface 3 (.int .i64 x)) ltI := fun d => by
  refine ⟨?_, ?_, ?_, ?_⟩
  · rintro M l i j ⟨h1, h2, h3, h4, h5, hL, v, h6, h7⟩ hi hj
    exact ⟨_, _, _, via1 h6 (by decide), less_ok d h1.ok.1 h7 hi hj, h1, h2, h3, h4, h5, hL, v, h6, h7⟩
  · rintro M l i j ⟨h1, h2, h3, h4, h5, hL, v, h6, h7⟩ hi hj
    obtain ⟨r, M', k1, k2, k3, k4, k5⟩ := swap_ok d h1 h7 hi hj
    exact ⟨_, _, r, M', via1 h6 (by decide), k1, k2, by omega, h3.trans (k4.mono (fun i hi => .inr hi)), h4, h5, by rw [swapL_len]; exact hL, v, k4 pb _ h6 h5, k3⟩
  · rintro M l ⟨h1, h2, h3, h4, h5, hL, v, h6, h7⟩
    exact ⟨_, _, _, via1 h6 (by decide), plen_ok d h1.ok.1 h7, h1, h2, h3, h4, h5, hL, v, h6, h7⟩
  · rintro M l ⟨h1, h2, h3, h4, h5, hL, v, h6, h7⟩ hl
    obtain ⟨r, M', k1, rfl, k2, ⟨v', k3, k4⟩, k5, k6⟩ := ppop_ok d h1 h4 h5 h6 h7 hl hL
    exact ⟨41, [.ptr (some (pb, 0))], M', by simp [opI, invokeI, List.lookup], k1, k2, by omega, h3.trans (k5.mono (fun i hi => .inl hi)), h4, h5, by rw [List.length_take]; omega, v', k3, k4⟩
end
end Go.Proofs.Ytmaldkpkodcggaa.grf
