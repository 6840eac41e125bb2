/- ModelRuns, walked. -/
import Derived.Test.YtefcnhmbpkdlmaaMoLaw
namespace Go.Proofs.Ytefcnhmbpkdlmaa.model
open Go Go.Vx

theorem loads_in5 {M : AMem} {p : Addr} {u v w x y : AV} (h0 : M.g p = some u) (h1 : M.g (p.add 1) = some v) (h2 : M.g (p.add 2) = some w) (h3 : M.g (p.add 3) = some x) (h4 : M.g (p.add 4) = some y) : opI (.load true 5) [.rptr (some p)] M = some (.val (.agg [u, v, w, x, y]) M) := by
  simp only [opI, AMem.loadG, if_true]
  have : mapO (fun j => M.g (p.add j)) (List.range 5) = some [u, v, w, x, y] := by
    show mapO (fun j => M.g (p.add j)) [0, 1, 2, 3, 4] = _
    simp [mapO, addr_add0, h0, h1, h2, h3, h4]
  rw [this]
theorem store_own5 {M : AMem} {b : Nat} {a1 a2 a3 a4 a5 x y z u w : AV} (h : M.get b = some (.cells [a1, a2, a3, a4, a5] 0 true none)) (hx : x.one = true) (hy : y.one = true) (hz : z.one = true) (hu : u.one = true) (hw : w.one = true) :
    opI (.store 5) [.ptr (some (b, 0)), .agg [x, y, z, u, w]] M = some (.val (.tuple []) (M.set b (.cells [x, y, z, u, w] 0 true none))) := by
  simp [opI, AV.cells, AMem.storeCells, h, hx, hy, hz, hu, hw, splice]
/-- Deeds that came in, in a row. -/
def RdD (G : Addr → Option AV) (v : AV) (n : Nat) (fa fb : Nat → Int) (fp : Nat → Bool) (fx fc : Nat → Int) : Prop :=
  ∃ a c, v = .rslice a n c ∧ ∀ i, i < n → ∃ p, a = some p ∧ G (p.add (i * 5)) = some (.int .i64 (fa i)) ∧ G ((p.add (i * 5)).add 1) = some (.int .i64 (fb i)) ∧ G ((p.add (i * 5)).add 2) = some (.bool (fp i)) ∧ G ((p.add (i * 5)).add 3) = some (.int .u64 (fx i)) ∧ G ((p.add (i * 5)).add 4) = some (.int .i64 (fc i))
theorem RdD.len {G : Addr → Option AV} {v : AV} {n : Nat} {fa fb : Nat → Int} {fp : Nat → Bool} {fx fc : Nat → Int} (h : RdD G v n fa fb fp fx fc) (M : AMem) : opI .lenS [v] M = some (.val (.int .i64 n) M) := by
  obtain ⟨a, c, rfl, _⟩ := h; rfl
theorem RdD.at_ {G : Addr → Option AV} {v : AV} {n : Nat} {fa fb : Nat → Int} {fp : Nat → Bool} {fx fc : Nat → Int} (h : RdD G v n fa fb fp fx fc) {i : Nat} (hi : i < n) :
    ∃ q, (∀ M, opI (.indexAddrS 5) [v, .int .i64 i] M = some (.val q M)) ∧ ∀ M : AMem, M.g = G → opI (.load true 5) [q] M = some (.val (.agg [.int .i64 (fa i), .int .i64 (fb i), .bool (fp i), .int .u64 (fx i), .int .i64 (fc i)]) M) := by
  obtain ⟨a, c, rfl, h⟩ := h
  obtain ⟨p, rfl, h0, h1, h2, h3, h4⟩ := h i hi
  refine ⟨.rptr (some (p.add (i * 5))), fun M => index_in hi, fun M hg => ?_⟩
  subst hg
  exact loads_in5 h0 h1 h2 h3 h4

/-- deeds, done as long as they can be -/
def runs (k : Int) (fp : Nat → Bool) (fx fc : Nat → Int) : Nat → Nat → List Int → List Int × Nat
  | 0, i, xs => (xs, i)
  | m + 1, i, xs => match ap k xs (fp i) (fx i) (fc i) with
    | none => (xs, i)
    | some ys => runs k fp fx fc m (i + 1) ys
theorem runs_succ {k : Int} {fp : Nat → Bool} {fx fc : Nat → Int} {m i : Nat} {xs : List Int} : runs k fp fx fc (m + 1) i xs = match ap k xs (fp i) (fx i) (fc i) with
    | none => (xs, i)
    | some ys => runs k fp fx fc m (i + 1) ys := rfl
theorem runs_len {k : Int} {fp : Nat → Bool} {fx fc : Nat → Int} : ∀ {m i : Nat} {xs : List Int}, (runs k fp fx fc m i xs).1.length ≤ xs.length + m ∧ (runs k fp fx fc m i xs).2 ≤ i + m
  | 0, i, xs => ⟨Nat.le_refl _, Nat.le_refl _⟩
  | m + 1, i, xs => by
    rw [runs_succ]
    cases h : ap k xs (fp i) (fx i) (fc i) with
    | none => exact ⟨by simp only; omega, by simp only; omega⟩
    | some ys =>
      have := runs_len (k := k) (fp := fp) (fx := fx) (fc := fc) (m := m) (i := i + 1) (xs := ys)
      have hl := ap_len h
      simp only
      omega

set_option maxHeartbeats 2000000 in
theorem run_ok {k : Int} {v : AV} {n : Nat} {fa fb : Nat → Int} {fp : Nat → Bool} {fx fc : Nat → Int} {G : Addr → Option AV} (d : Nat) (M : AMem) (hv : RdD G v n fa fb fp fx fc) (hG : M.g = G) (hok : Okg M) (hn : n ≤ 100) :
    Ans (callF tbl code 100000 (d + 5)) 9 [.int .i64 k, v] M fun r M' => ∃ r0, r = .tuple [r0, .int .i64 (runs k fp fx fc n 0 []).2] ∧ Step M M' ∧ Free M M' r0 (runs k fp fx fc n 0 []).1 := by
  refine Ans_of (tbl_none (by decide) _) (show code 9 = some c9 from by kernel_rfl) (by simp) fun t hd ha => ?_
  have h0 := ha 0 _ rfl
  have h1 := ha 1 v rfl
  have lv := hv.len M
  clear ha
  refine W_seq (W_seqR (by simp only [runSeq_cons, runSeq_nil, evalArgs_nil, evalArgs_const, val1, putT, opI_move]; rfl) ?_)
  refine W_seq (W_seqR (by simp only [runSeq_cons, runSeq_nil, evalArgs_nil, evalArgs_const, val1, putT, opI_move]; rfl) ?_)
  refine W_seq (W_seq (W_seqR (by simp only [runSeq_cons, runSeq_nil, evalArgs_nil, evalArgs_tmp, evalArgs_const, val1, putT, Tr.get_set_self, Tr.get_set_ne, hd _, ne_eq, Nat.reduceEqDiff, not_false_eq_true, decide_true, Nat.reduceLT, opI_move, h1, lv]; rfl) (W_block (W_loop (fun m t M' => ∃ (i : Nat) (xs : List Int) (r : AV), m + i = n ∧ runs k fp fx fc m i xs = runs k fp fx fc n 0 [] ∧ xs.length ≤ i ∧ Step M M' ∧ Free M M' r xs ∧ Dom t 34 ∧ t.get 0 = some (.int .i64 k) ∧ t.get 1 = some v ∧ t.get 6 = some r ∧ t.get 11 = some v ∧ t.get 12 = some (.int .i64 n) ∧ t.get 13 = some (.int .i64 i)) (k := n) (by omega) ?_ ?_))))
  · exact ⟨0, [], .slice none 0 0 false, rfl, rfl, Nat.le_refl _, Step.refl hok, .inr ⟨rfl, rfl⟩, by ((repeat (with_reducible apply Dom.set)); exact hd), by simp only [Tr.get_set_ne, ne_eq, Nat.reduceEqDiff, not_false_eq_true, h0], by simp only [Tr.get_set_ne, ne_eq, Nat.reduceEqDiff, not_false_eq_true, h1], by simp only [Tr.get_set_self, Tr.get_set_ne, hd _, ne_eq, Nat.reduceEqDiff, not_false_eq_true, decide_true, Nat.reduceLT], by simp only [Tr.get_set_self, Tr.get_set_ne, hd _, ne_eq, Nat.reduceEqDiff, not_false_eq_true, decide_true, Nat.reduceLT], by simp only [Tr.get_set_self, Tr.get_set_ne, hd _, ne_eq, Nat.reduceEqDiff, not_false_eq_true, decide_true, Nat.reduceLT], by simp only [Tr.get_set_self, Tr.get_set_ne, hd _, ne_eq, Nat.reduceEqDiff, not_false_eq_true, decide_true, Nat.reduceLT]; rfl⟩
  clear h0 h1 hd
  intro m t' M' ⟨i, xs, r, hm, hr, hl, s, hf, hd, h0, h1, h6, h11, h12, h13⟩
  refine W_seq (W_seqR (by simp only [runSeq_cons, runSeq_nil, evalArgs_nil, evalArgs_tmp, val1, putT, opI_lss, h12, h13]; rfl) (W_seq ?_))
  refine W_cond (by simp only [PArg.eval, Tr.get_set_self, hd _, decide_true, Nat.reduceLT]; rfl) (fun hb => W_skip ?_) (fun hb => ?_)
  rotate_left
  · refine W_exit ?_
    have hin : m = 0 := by simp at hb; omega
    subst hin
    have hi : i = n := by omega
    show W _ _
    have lv' := hv.len M'
    refine W_seq (W_seqR (by simp only [runSeq_cons, runSeq_nil, evalArgs_nil, evalArgs_tmp, val1, putT, Tr.get_set_self, Tr.get_set_ne, hd _, ne_eq, Nat.reduceEqDiff, not_false_eq_true, decide_true, Nat.reduceLT, opI_move, h6, h1, lv']; rfl) (W_ret ?_))
    rw [← hr]
    refine ⟨_, fin_tmp2 (by simp only [Tr.get_set_self, Tr.get_set_ne, hd _, ne_eq, Nat.reduceEqDiff, not_false_eq_true, decide_true, Nat.reduceLT]; try rfl) (by simp only [Tr.get_set_self, Tr.get_set_ne, hd _, ne_eq, Nat.reduceEqDiff, not_false_eq_true, decide_true, Nat.reduceLT]; try rfl), _, by rw [← hi]; rfl, s, hf⟩
  have hin : i < n := by simpa using hb
  obtain ⟨m, rfl⟩ : ∃ m', m = m' + 1 := ⟨m - 1, by omega⟩
  obtain ⟨q, q1, q2⟩ := hv.at_ hin
  have q1 := q1 M'
  have q2 := q2 M' (s.grow.g.trans hG)
  have s1 := s.push (k := .cells [.int .i64 0, .int .i64 0, .bool false, .int .u64 0, .int .i64 0] 0 true none) (fun _ _ _ _ he => by cases he)
  have g1 : (M'.push (.cells [.int .i64 0, .int .i64 0, .bool false, .int .u64 0, .int .i64 0] 0 true none)).get M'.n = some (.cells [.int .i64 0, .int .i64 0, .bool false, .int .u64 0, .int .i64 0] 0 true none) := get_push_self s.ok.1
  have st := store_own5 (x := .int .i64 (fa i)) (y := .int .i64 (fb i)) (z := .bool (fp i)) (u := .int .u64 (fx i)) (w := .int .i64 (fc i)) g1 rfl rfl rfl rfl rfl
  have gr1 : Grow M' (M'.push (.cells [.int .i64 0, .int .i64 0, .bool false, .int .u64 0, .int .i64 0] 0 true none)) := Grow.push s.ok.1 _
  have gr2 := gr1.set (Nat.le_refl _) g1 (.cells [.int .i64 (fa i), .int .i64 (fb i), .bool (fp i), .int .u64 (fx i), .int .i64 (fc i)] 0 true none)
  have s2 := s1.set (k := .cells [.int .i64 (fa i), .int .i64 (fb i), .bool (fp i), .int .u64 (fx i), .int .i64 (fc i)] 0 true none) s.grow.n g1 (fun _ _ _ _ he => by cases he)
  have g2 : ((M'.push (.cells [.int .i64 0, .int .i64 0, .bool false, .int .u64 0, .int .i64 0] 0 true none)).set M'.n (.cells [.int .i64 (fa i), .int .i64 (fb i), .bool (fp i), .int .u64 (fx i), .int .i64 (fc i)] 0 true none)).get M'.n = some (.cells [.int .i64 (fa i), .int .i64 (fb i), .bool (fp i), .int .u64 (fx i), .int .i64 (fc i)] 0 true none) := by rw [get_set_mem g1, if_pos rfl]
  have hf2 := hf.grow s.ok.1 gr2
  have hld := loads_own5 g2
  generalize hM2 : (M'.push (.cells [.int .i64 0, .int .i64 0, .bool false, .int .u64 0, .int .i64 0] 0 true none)).set M'.n (.cells [.int .i64 (fa i), .int .i64 (fb i), .bool (fp i), .int .u64 (fx i), .int .i64 (fc i)] 0 true none) = M2 at *
  obtain ⟨ra, M3, ea, out, hra, s3, hnone, hsome⟩ := apply_ok (k := k) (c0 := .int .i64 (fa i)) (c1 := .int .i64 (fb i)) (x := fx i) (cd := fc i) (put := fp i) d M2 (hf2.row s2.ok.1) s2.ok (by omega)
  subst hra
  rw [runs_succ] at hr
  show W _ _
  refine W_seq (W_block (W_seq (W_seqR (by simp only [runSeq_cons, runSeq_nil, evalArgs_nil, evalArgs_tmp, val1, putT, Tr.get_set_self, Tr.get_set_ne, hd _, ne_eq, Nat.reduceEqDiff, not_false_eq_true, decide_true, Nat.reduceLT, opI_move, opI_new, h11, h13, q1, q2, st]; rfl) ?_)))
  refine W_seq (W_seqR (by simp only [runSeq_cons, runSeq_nil, evalArgs_nil, evalArgs_tmp, val1, putT, Tr.get_set_self, Tr.get_set_ne, hd _, ne_eq, Nat.reduceEqDiff, not_false_eq_true, decide_true, Nat.reduceLT, opI_move, opI_extract, opI_callF, h0, h6, hld, ea]; rfl) ?_)
  cases ho : ap k xs (fp i) (fx i) (fc i) with
  | none =>
    rw [ho] at hr
    refine W_seq (W_seq (W_seqR (by simp only [runSeq_cons, runSeq_nil, evalArgs_nil, evalArgs_tmp, val1, putT, Tr.get_set_self, Tr.get_set_ne, hd _, ne_eq, Nat.reduceEqDiff, not_false_eq_true, decide_true, Nat.reduceLT, opI_move, opI_not, Option.isSome_none, Bool.not_false]; rfl) ?_))
    refine W_cond (by simp only [PArg.eval, Tr.get_set_self, Tr.get_set_ne, hd _, ne_eq, Nat.reduceEqDiff, not_false_eq_true, decide_true, Nat.reduceLT]; rfl) (fun _ => ?_) (fun hb => by simp at hb)
    refine W_seq (W_seqR (by simp only [runSeq_cons, runSeq_nil, evalArgs_nil, evalArgs_tmp, val1, putT, Tr.get_set_self, Tr.get_set_ne, hd _, ne_eq, Nat.reduceEqDiff, not_false_eq_true, decide_true, Nat.reduceLT, opI_move, h6]; rfl) (W_ret ?_))
    rw [← hr]
    exact ⟨_, fin_tmp2 (by simp only [Tr.get_set_self, Tr.get_set_ne, hd _, ne_eq, Nat.reduceEqDiff, not_false_eq_true, decide_true, Nat.reduceLT]; try rfl) (by simp only [Tr.get_set_self, Tr.get_set_ne, hd _, ne_eq, Nat.reduceEqDiff, not_false_eq_true, decide_true, Nat.reduceLT]; try rfl), _, rfl, s2.trans s3, hf2.grow s2.ok.1 s3.grow⟩
  | some ys =>
    rw [ho] at hr
    refine W_seq (W_seq (W_seqR (by simp only [runSeq_cons, runSeq_nil, evalArgs_nil, evalArgs_tmp, val1, putT, Tr.get_set_self, Tr.get_set_ne, Option.isSome_some, hd _, ne_eq, Nat.reduceEqDiff, not_false_eq_true, decide_true, Nat.reduceLT, opI_move, opI_not]; rfl) ?_))
    refine W_cond (by simp only [PArg.eval, Tr.get_set_self, Tr.get_set_ne, hd _, ne_eq, Nat.reduceEqDiff, not_false_eq_true, decide_true, Nat.reduceLT]; rfl) (fun hb => by simp at hb) (fun _ => W_skip ?_)
    show W _ _
    refine W_seqR (by simp only [runSeq_cons, runSeq_nil, evalArgs_nil, evalArgs_tmp, val1, putT, Tr.get_set_self, Tr.get_set_ne, hd _, ne_eq, Nat.reduceEqDiff, not_false_eq_true, decide_true, Nat.reduceLT, opI_move]; rfl) ?_
    show W _ _
    refine W_seqR (by simp only [runSeq_cons, runSeq_nil, evalArgs_nil, evalArgs_tmp, evalArgs_const, val1, putT, Tr.get_set_self, Tr.get_set_ne, hd _, ne_eq, Nat.reduceEqDiff, not_false_eq_true, decide_true, Nat.reduceLT, opI_move, opI_add, h13]; rfl) ?_
    have hl2 := ap_len ho
    refine ⟨m, by omega, i + 1, ys, out, by omega, hr, by omega, s2.trans s3, (hsome ys ho).mono s2.grow.n, by ((repeat (with_reducible apply Dom.set)); exact hd), by simp only [Tr.get_set_ne, ne_eq, Nat.reduceEqDiff, not_false_eq_true, h0], by simp only [Tr.get_set_ne, ne_eq, Nat.reduceEqDiff, not_false_eq_true, h1], by simp only [Tr.get_set_self, Tr.get_set_ne, hd _, ne_eq, Nat.reduceEqDiff, not_false_eq_true, decide_true, Nat.reduceLT], by simp only [Tr.get_set_ne, ne_eq, Nat.reduceEqDiff, not_false_eq_true, h11], by simp only [Tr.get_set_ne, ne_eq, Nat.reduceEqDiff, not_false_eq_true, h12], ?_⟩
    simp only [Tr.get_set_self, Tr.get_set_ne, hd _, ne_eq, Nat.reduceEqDiff, not_false_eq_true, decide_true, Nat.reduceLT]
    rw [wrapF_small (by omega) (by omega)]; rfl

set_option maxHeartbeats 2000000 in
theorem lawruns_ok {k : Int} {v : AV} {n : Nat} {fa fb : Nat → Int} {fp : Nat → Bool} {fx fc : Nat → Int} {G : Addr → Option AV} (d : Nat) (M : AMem) (hv : RdD G v n fa fb fp fx fc) (hG : M.g = G) (hok : Okg M) :
    Ans (callF tbl code 100000 (d + 6)) 4 [.int .i64 k, v] M fun r _ => r = .bool true := by
  refine Ans_of (tbl_none (by decide) _) (show code 4 = some c4 from by kernel_rfl) (by simp) fun t hd ha => ?_
  have h0 := ha 0 _ rfl
  have h1 := ha 1 v rfl
  have lv := hv.len M
  clear ha
  have haw : callF tbl code 100000 (d + 5) 5 [] M = some (.bool true, M) := rfl
  refine W_seq (W_seqR (by simp only [runSeq_cons, runSeq_nil, evalArgs_nil, evalArgs_const, val1, putT, opI_move]; rfl) ?_)
  refine W_seq (W_seq (W_seqR (by simp only [runSeq_cons, runSeq_nil, evalArgs_nil, evalArgs_tmp, val1, putT, Tr.get_set_self, Tr.get_set_ne, hd _, ne_eq, Nat.reduceEqDiff, not_false_eq_true, decide_true, Nat.reduceLT, opI_not, opI_callF, haw]; rfl) ?_))
  refine W_cond (by simp only [PArg.eval, Tr.get_set_self, Tr.get_set_ne, hd _, ne_eq, Nat.reduceEqDiff, not_false_eq_true, decide_true, Nat.reduceLT]; rfl) (fun hb => by simp at hb) (fun _ => W_skip ?_)
  show W _ _
  refine W_seq (W_seq (W_seqR (by simp only [runSeq_cons, runSeq_nil, evalArgs_nil, evalArgs_tmp, evalArgs_const, val1, putT, Tr.get_set_self, Tr.get_set_ne, hd _, ne_eq, Nat.reduceEqDiff, not_false_eq_true, decide_true, Nat.reduceLT, opI_move, opI_gtr, h1, lv]; rfl) ?_))
  refine W_cond (by simp only [PArg.eval, Tr.get_set_self, Tr.get_set_ne, hd _, ne_eq, Nat.reduceEqDiff, not_false_eq_true, decide_true, Nat.reduceLT]; rfl) (fun _ => ?_) (fun hb => W_skip ?_)
  · refine W_seq (W_seqR (by simp only [runSeq_cons, runSeq_nil, evalArgs_nil, evalArgs_const, val1, putT, opI_move]; rfl) (W_ret ?_))
    exact ⟨_, fin_tmp (by simp only [Tr.get_set_self, Tr.get_set_ne, Option.isSome_some, hd _, ne_eq, Nat.reduceEqDiff, not_false_eq_true, decide_true, Nat.reduceLT]; try rfl), rfl⟩
  have hn : n ≤ 100 := by simp at hb; omega
  show W _ _
  obtain ⟨ra, M1, ea, r0, hra, s1, f1⟩ := run_ok (k := k) d M hv hG hok hn
  subst hra
  have hR : (runs k fp fx fc n 0 []).1.length ≤ n ∧ (runs k fp fx fc n 0 []).2 ≤ n := by
    have := runs_len (k := k) (fp := fp) (fx := fx) (fc := fc) (m := n) (i := 0) (xs := [])
    simpa using this
  generalize hRR : runs k fp fx fc n 0 [] = R at *
  obtain ⟨M2, e2, s2, o2, _⟩ := lit_empty s1
  have g12 : Grow M1 M2 := by
    have : M2 = M1.push (.cells [] 0 true none) := by
      have : opI (.sliceLit 0 [] []) [] M1 = some (.val (.slice (some (M1.n, 0)) 0 0 false) (M1.push (.cells [] 0 true none))) := rfl
      rw [this] at e2; cases e2; rfl
    rw [this]; exact Grow.push s1.ok.1 _
  have f2 := f1.grow s1.ok.1 g12
  refine W_seq (W_seqR (by simp only [runSeq_cons, runSeq_nil, evalArgs_nil, evalArgs_tmp, val1, putT, Tr.get_set_self, Tr.get_set_ne, hd _, ne_eq, Nat.reduceEqDiff, not_false_eq_true, decide_true, Nat.reduceLT, opI_move, opI_extract, opI_callF, h0, h1, ea]; rfl) ?_)
  refine W_seq (W_seqR (by simp only [runSeq_cons, runSeq_nil, evalArgs_nil, evalArgs_tmp, val1, putT, Tr.get_set_self, Tr.get_set_ne, hd _, ne_eq, Nat.reduceEqDiff, not_false_eq_true, decide_true, Nat.reduceLT, opI_move, e2]; rfl) ?_)
  refine W_seq (W_seqR (by simp only [runSeq_cons, runSeq_nil, evalArgs_nil, evalArgs_const, val1, putT, opI_move]; rfl) ?_)
  refine W_seq (W.mono (Q := fun y t' M' => y = .normal ∧ ∃ w, Step M2 M' ∧ Own M M' w R.1 ∧ Dom t' 50 ∧ t'.get 5 = some r0 ∧ t'.get 6 = some (.int .i64 R.2) ∧ t'.get 7 = some w ∧ t'.get 8 = some (.int .i64 R.2)) (W_block (W_loop (fun m t M' => ∃ (i : Nat) (xs : List Int) (w : AV), m + i = n ∧ runs k fp fx fc m i xs = R ∧ xs.length ≤ i ∧ Step M2 M' ∧ Own M M' w xs ∧ Dom t 50 ∧ t.get 0 = some (.int .i64 k) ∧ t.get 1 = some v ∧ t.get 5 = some r0 ∧ t.get 6 = some (.int .i64 R.2) ∧ t.get 7 = some w ∧ t.get 8 = some (.int .i64 i)) (k := n) (by omega) ?_ ?_)) ?_)
  · exact ⟨0, [], _, rfl, hRR, Nat.le_refl _, Step.refl s2.ok, o2, by ((repeat (with_reducible apply Dom.set)); exact hd), by simp only [Tr.get_set_ne, ne_eq, Nat.reduceEqDiff, not_false_eq_true, h0], by simp only [Tr.get_set_ne, ne_eq, Nat.reduceEqDiff, not_false_eq_true, h1], by simp only [Tr.get_set_self, Tr.get_set_ne, hd _, ne_eq, Nat.reduceEqDiff, not_false_eq_true, decide_true, Nat.reduceLT], by simp only [Tr.get_set_self, Tr.get_set_ne, hd _, ne_eq, Nat.reduceEqDiff, not_false_eq_true, decide_true, Nat.reduceLT], by simp only [Tr.get_set_self, Tr.get_set_ne, hd _, ne_eq, Nat.reduceEqDiff, not_false_eq_true, decide_true, Nat.reduceLT]; try rfl, by simp only [Tr.get_set_self, Tr.get_set_ne, hd _, ne_eq, Nat.reduceEqDiff, not_false_eq_true, decide_true, Nat.reduceLT]; try rfl⟩
  · clear h0 h1 hd
    intro m t' M' ⟨i, xs, w, hm, hr, hl, s, ow, hd, h0, h1, h5, h6, h7, h8⟩
    have lv' := hv.len M'
    refine W_seq (W_seq (W_seqR (by simp only [runSeq_cons, runSeq_nil, evalArgs_nil, evalArgs_tmp, val1, putT, Tr.get_set_self, Tr.get_set_ne, hd _, ne_eq, Nat.reduceEqDiff, not_false_eq_true, decide_true, Nat.reduceLT, opI_move, opI_lss, h1, h8, lv']; rfl) ?_))
    refine W_cond (by simp only [PArg.eval, Tr.get_set_self, Tr.get_set_ne, hd _, ne_eq, Nat.reduceEqDiff, not_false_eq_true, decide_true, Nat.reduceLT]; rfl) (fun hb => W_skip ?_) (fun hb => ?_)
    rotate_left
    · refine W_exit ?_
      have hin : m = 0 := by simp at hb; omega
      subst hin
      have hr : (xs, i) = R := hr
      subst hr
      exact ⟨rfl, w, s, ow, by ((repeat (with_reducible apply Dom.set)); exact hd), by simp only [Tr.get_set_ne, ne_eq, Nat.reduceEqDiff, not_false_eq_true, h5], by simp only [Tr.get_set_ne, ne_eq, Nat.reduceEqDiff, not_false_eq_true, h6], by simp only [Tr.get_set_ne, ne_eq, Nat.reduceEqDiff, not_false_eq_true, h7], by simp only [Tr.get_set_ne, ne_eq, Nat.reduceEqDiff, not_false_eq_true, h8]⟩
    have hin : i < n := by simpa using hb
    obtain ⟨m, rfl⟩ : ∃ m', m = m' + 1 := ⟨m - 1, by omega⟩
    have s02 := s2.trans s
    obtain ⟨q, q1, q2⟩ := hv.at_ hin
    have q1 := q1 M'
    have q2 := q2 M' (s02.grow.g.trans hG)
    obtain ⟨rb, M3, eb, nx, hrb, s3, hsome⟩ := refapply_ok (k := k) (c0 := .int .i64 (fa i)) (c1 := .int .i64 (fb i)) (x := fx i) (cd := fc i) (put := fp i) (d + 3) M' (ow.row s02.ok.1) ow.wide s02.ok (by omega)
    subst hrb
    rw [runs_succ] at hr
    show W _ _
    refine W_block (W_seq (W_seqR (by simp only [runSeq_cons, runSeq_nil, evalArgs_nil, evalArgs_tmp, val1, putT, Tr.get_set_self, Tr.get_set_ne, hd _, ne_eq, Nat.reduceEqDiff, not_false_eq_true, decide_true, Nat.reduceLT, opI_move, opI_extract, opI_callF, h0, h1, h7, h8, q1, q2, eb]; rfl) ?_))
    cases ho : ap k xs (fp i) (fx i) (fc i) with
    | none =>
      rw [ho] at hr
      have hr : (xs, i) = R := hr
      subst hr
      refine W_seq (W_seq (W_seqR (by simp only [runSeq_cons, runSeq_nil, evalArgs_nil, evalArgs_tmp, val1, putT, Tr.get_set_self, Tr.get_set_ne, hd _, ne_eq, Nat.reduceEqDiff, not_false_eq_true, decide_true, Nat.reduceLT, opI_move, opI_not, Option.isSome_none, Bool.not_false]; rfl) ?_))
      refine W_cond (by simp only [PArg.eval, Tr.get_set_self, Tr.get_set_ne, hd _, ne_eq, Nat.reduceEqDiff, not_false_eq_true, decide_true, Nat.reduceLT]; rfl) (fun _ => W_exit ?_) (fun hb => by simp at hb)
      exact ⟨rfl, w, s.trans s3, ow.grow s02.ok.1 s3.grow, by ((repeat (with_reducible apply Dom.set)); exact hd), by simp only [Tr.get_set_ne, ne_eq, Nat.reduceEqDiff, not_false_eq_true, h5], by simp only [Tr.get_set_ne, ne_eq, Nat.reduceEqDiff, not_false_eq_true, h6], by simp only [Tr.get_set_ne, ne_eq, Nat.reduceEqDiff, not_false_eq_true, h7], by simp only [Tr.get_set_ne, ne_eq, Nat.reduceEqDiff, not_false_eq_true, h8]⟩
    | some ys =>
      rw [ho] at hr
      refine W_seq (W_seq (W_seqR (by simp only [runSeq_cons, runSeq_nil, evalArgs_nil, evalArgs_tmp, val1, putT, Tr.get_set_self, Tr.get_set_ne, Option.isSome_some, hd _, ne_eq, Nat.reduceEqDiff, not_false_eq_true, decide_true, Nat.reduceLT, opI_move, opI_not]; rfl) ?_))
      refine W_cond (by simp only [PArg.eval, Tr.get_set_self, Tr.get_set_ne, hd _, ne_eq, Nat.reduceEqDiff, not_false_eq_true, decide_true, Nat.reduceLT]; rfl) (fun hb => by simp at hb) (fun _ => W_skip ?_)
      show W _ _
      refine W_seq (W_seqR (by simp only [runSeq_cons, runSeq_nil, evalArgs_nil, evalArgs_tmp, val1, putT, Tr.get_set_self, Tr.get_set_ne, hd _, ne_eq, Nat.reduceEqDiff, not_false_eq_true, decide_true, Nat.reduceLT, opI_move]; rfl) ?_)
      refine W_seqR (by simp only [runSeq_cons, runSeq_nil, evalArgs_nil, evalArgs_tmp, evalArgs_const, val1, putT, Tr.get_set_self, Tr.get_set_ne, hd _, ne_eq, Nat.reduceEqDiff, not_false_eq_true, decide_true, Nat.reduceLT, opI_move, opI_add, h8]; rfl) ?_
      have hl2 := ap_len ho
      refine ⟨m, by omega, i + 1, ys, nx, by omega, hr, by omega, s.trans s3, (hsome ys ho).mono s02.grow.n, by ((repeat (with_reducible apply Dom.set)); exact hd), by simp only [Tr.get_set_ne, ne_eq, Nat.reduceEqDiff, not_false_eq_true, h0], by simp only [Tr.get_set_ne, ne_eq, Nat.reduceEqDiff, not_false_eq_true, h1], by simp only [Tr.get_set_ne, ne_eq, Nat.reduceEqDiff, not_false_eq_true, h5], by simp only [Tr.get_set_ne, ne_eq, Nat.reduceEqDiff, not_false_eq_true, h6], by simp only [Tr.get_set_self, Tr.get_set_ne, hd _, ne_eq, Nat.reduceEqDiff, not_false_eq_true, decide_true, Nat.reduceLT], ?_⟩
      simp only [Tr.get_set_self, Tr.get_set_ne, hd _, ne_eq, Nat.reduceEqDiff, not_false_eq_true, decide_true, Nat.reduceLT]
      rw [wrapF_small (by omega) (by omega)]; rfl
  clear h0 h1 hd
  rintro y t' M' ⟨rfl, w, s, ow, hd, h5, h6, h7, h8⟩
  have s02 := s2.trans s
  have hs := same_ok (d + 4) M' ((f2.grow s2.ok.1 s.grow).row s02.ok.1) (ow.row s02.ok.1) (by omega)
  rw [show decide (R.1 = R.1) = true from by simp] at hs
  show W _ _
  refine W_seq (W_seqR (by simp only [runSeq_cons, runSeq_nil, evalArgs_nil, evalArgs_tmp, evalArgs_const, val1, putT, Tr.get_set_self, Tr.get_set_ne, Tr.isSome_set, hd _, ne_eq, Nat.reduceEqDiff, not_false_eq_true, decide_true, Nat.reduceLT, opI_move, opI_eql, opI_callF, opI_pick, runSeq_guard (b := true), beq_self_eq_true, h5, h6, h7, h8, hs]; rfl) (W_ret ?_))
  exact ⟨_, fin_tmp (by simp only [Tr.get_set_self, Tr.get_set_ne, hd _, ne_eq, Nat.reduceEqDiff, not_false_eq_true, decide_true, Nat.reduceLT]; try rfl), rfl⟩
end Go.Proofs.Ytefcnhmbpkdlmaa.model
