/- Which nodes are free, read off the cells: walked. -/
import Derived.Test.YtldijnabgabehaaSoAll
namespace Go.Proofs.Ytldijnabgabehaa.so
open Go Go.Vx
theorem op_idxo {b o n c : Nat} {g : Bool} {k : IntKind} {i : Nat} {M : AMem} (h : i < n) : opI (.indexAddrS 1) [.slice (some (b, o)) n c g, .int k i] M = some (.val (.ptr (some (b, o + i))) M) := by
  simp only [opI]
  rw [if_pos (by omega)]
  simp
theorem op_cut {b len n : Nat} {gr : Bool} {M : AMem} (h : n + 2 ≤ len) : opI (.slice 1 true true false) [.slice (some (b, 0)) len len gr, .int .i64 1, .int .i64 ((n : Int) + 2)] M = some (.val (.slice (some (b, 1)) (n + 1) (len - 1) gr) M) := by
  have e1 : bnd (.int .i64 ((n : Int) + 2)) len = some (n + 2) := by
    simp only [bnd]; rw [if_pos (by omega)]; congr 1
  have e2 : bnd (.int .i64 1) (n + 2) = some 1 := by
    simp only [bnd]; rw [if_pos (by omega)]; rfl
  have e3 : boundsI len len (some (.int .i64 1)) (some (.int .i64 ((n : Int) + 2))) none = some (1, n + 2, len) := by
    simp only [boundsI, e1, e2]
  have e4 : take3 true true false [AV.int .i64 1, AV.int .i64 ((n : Int) + 2)] = some (some (.int .i64 1), some (.int .i64 ((n : Int) + 2)), none) := rfl
  have h1 : ¬ len = 1 := by omega
  have h2 : 1 < len := by omega
  simp only [opI, e4, sliceI, Nat.le_refl, if_true, e3]
  cases gr <;> simp [h1, h2]
def flags (n : Nat) (done : List Nat) : List AV := (List.range (n + 1)).map fun j => .bool (decide (j ∈ done))
theorem flags_get {n j : Nat} {done : List Nat} (h : j ≤ n) : (flags n done)[j]? = some (.bool (decide (j ∈ done))) := by
  unfold flags
  rw [List.getElem?_map, List.getElem?_range (by omega)]; rfl
theorem flags_len {n : Nat} {done : List Nat} : (flags n done).length = n + 1 := by simp [flags]
theorem flags_set {n x : Nat} {done : List Nat} (hx : x ≤ n) : (flags n done).set x (.bool true) = flags n (done ++ [x]) := by
  apply List.ext_getElem?
  intro j
  by_cases hj : j ≤ n
  · rw [List.getElem?_set, flags_get hj, flags_get hj, flags_len]
    by_cases e : x = j
    · subst e; simp; omega
    · rw [if_neg e]
      have : (j ∈ done ++ [x]) ↔ j ∈ done := by simp; intro h; exact absurd h.symm e
      simp only [this]
  · rw [List.getElem?_eq_none (by rw [List.length_set, flags_len]; omega), List.getElem?_eq_none (by rw [flags_len]; omega)]
theorem flags_nil {n : Nat} : List.replicate (n + 1) (AV.bool false) = flags n [] := by
  apply List.ext_getElem?
  intro j
  rw [List.getElem?_replicate]
  by_cases hj : j ≤ n
  · rw [flags_get hj, if_pos (by omega)]; rfl
  · rw [if_neg (by omega), List.getElem?_eq_none (by rw [flags_len]; omega)]
set_option maxRecDepth 20000 in
set_option maxHeartbeats 16000000 in
theorem free_ok (d : Nat) {n V T : Nat} (hn1 : 1 ≤ n) (hn : n ≤ 4096) {M : AMem} (hok : Okg M) (hh : NH M) {bm bc : Nat} {m : Mem} (hc : CM M bm bc (cellsOf n m)) (hm : Bd n V T m) {F : List Nat} (hF : Chain m.link m.hi F) (hnd : F.Nodup) (hin : ∀ x ∈ F, 1 ≤ x ∧ x ≤ n) :
    Ans (callF tblS code 100000 (d + 3)) 10 [.agg [.int .i64 1, .int .i64 n], .ptr (some (bm, 0))] M fun r M' => ∃ v, r = .tuple [v, .int .i64 0] ∧ EvA M M' (fun _ => False) ∧ FreshE M M' 1 v (els1 .i64 F) := by
  have hFn : F.length ≤ n := by
    have := List.Nodup.length_le_of_subset (l₁ := F) (l₂ := List.range' 1 n) hnd (fun x hx => by rw [List.mem_range'_1]; have := hin x hx; omega)
    simpa using this
  refine Ans_of (tblS_none ⟨by decide, by decide⟩ _) (show code 10 = some c10 from by kernel_rfl) (by simp) fun t hd ha => ?_
  have h0 := ha 0 _ rfl
  have h1 := ha 1 _ rfl
  clear ha
  obtain ⟨A, hA, e0, g0, n0⟩ := boxed hok hh [.int .i64 1, .int .i64 n]
  refine W_seq (W_seqR (by simp only [runSeq_cons, runSeq_nil, evalArgs_nil, evalArgs_tmp, evalArgs_const, val1, putT, opI_move, opI_box, cells_agg, h0, hA]; rfl) ?_)
  have hcA := hc.ev hok.1 e0
  have LA := load_agg (n := 2) g0 rfl
  obtain ⟨r1, M1, c1, rfl, e1⟩ := acheck_ok (d + 0) hn1 hn e0.ok e0.nh hcA cells_len
  have hc1 := hcA.ev e0.ok.1 e1
  have g1 : M1.get M.n = _ := (e1.same M.n (by omega) (fun h => h)).trans g0
  have s1 : Step M M1 := ((Step.refl hok).eva e0 (fun _ h => h.elim)).eva e1 (fun _ h => h.elim)
  refine W_seq (W_seq (W_seqR (by simp only [runSeq_cons, runSeq_nil, evalArgs_nil, evalArgs_tmp, val1, putT, Tr.get_set_self, Tr.get_set_ne, hd _, ne_eq, Nat.reduceEqDiff, not_false_eq_true, decide_true, Nat.reduceLT, opI_move, opI_callF, h1, LA, c1]; rfl) ?_))
  refine W_seq (W_seqR (by simp only [runSeq_cons, runSeq_nil, evalArgs_nil, evalArgs_tmp, evalArgs_const, val1, putT, Tr.get_set_self, Tr.get_set_ne, hd _, ne_eq, Nat.reduceEqDiff, not_false_eq_true, decide_true, Nat.reduceLT, opI_move, opI_neq, b00]; rfl) ?_)
  refine W_cond (b := false) (by simp only [PArg.eval, Tr.get_set_self, Tr.get_set_ne, hd _, ne_eq, Nat.reduceEqDiff, not_false_eq_true, decide_true, Nat.reduceLT]; try rfl) (fun hb => by cases hb) (fun _ => W_skip ?_)
  show W _ _
  obtain ⟨lv, M2, c2, s2, o2⟩ := memall_ok (d + 0) e1.ok hc1 (by rw [cells_len]; omega)
  have e2 := EvA.of_step s2 e1.nh (fun _ => False)
  have g2 : M2.get M.n = _ := (e2.same M.n (get_lt e1.ok.1 g1) (fun h => h)).trans g1
  obtain ⟨lb, hlb, hL⟩ := solo_LR o2 (by intro h; have := cells_len (n := n) (m := m); rw [h] at this; simp at this)
  have s12 : Step M M2 := s1.eva e2 (fun _ h => h.elim)
  obtain ⟨gr, sz, hlv, gL⟩ := hL
  rw [cells_len] at hlv
  subst hlv
  have la1 : opI (.load false 1) [.ptr (some (M.n, 0))] M1 = some (.val (.int .i64 1) M1) := load_own g1 rfl
  have ln1 : opI (.load false 1) [.ptr (some (M.n, 1))] M1 = some (.val (.int .i64 n) M1) := load_own g1 rfl
  have la2 : opI (.load false 1) [.ptr (some (M.n, 0))] M2 = some (.val (.int .i64 1) M2) := load_own g2 rfl
  have ln2 : opI (.load false 1) [.ptr (some (M.n, 1))] M2 = some (.val (.int .i64 n) M2) := load_own g2 rfl
  have hh1 := held_none e1.ok.1
  have w1 : wrapF .i64 (1 + (n : Int)) = 1 + n := wi (by omega) (by omega)
  have w2 : wrapF .i64 (1 + (n : Int) + 1) = n + 2 := by rw [wi (by omega) (by omega)]; omega
  have w3 : wrapF .i64 ((n : Int) + 1) = ((n + 1 : Nat) : Int) := by rw [wi (by omega) (by omega)]; omega
  have ct := op_cut (b := lb) (len := 3 * n + 2) (n := n) (gr := gr) (M := M2) (by omega)
  refine W_seq (W_trace (M' := M2) rfl (by simp only [sameN_self, evalArgs_nil, evalArgs_tmp, evalArgs_const, val1, putT, Tr.get_set_self, Tr.get_set_ne, hd _, ne_eq, Nat.reduceEqDiff, not_false_eq_true, decide_true, Nat.reduceLT, opI_move, opI_add, opI_callF, opI_fieldP, Nat.zero_add, Nat.add_zero, trace_nil, trace_read, trace_eff, addR_some, addE_some, Bool.false_and, h1, c2, la2, ln2, hh1, w1, w2, ct]; rfl) (by simp [checkRec, isLoad, sameAt, la1, ln1, la2, ln2, AV.beq]) rfl ?_)
  refine W_seq (W_seqR (by simp only [runSeq_cons, runSeq_nil, evalArgs_nil, evalArgs_const, val1, putT, opI_move]; rfl) ?_)
  have ms := mk_slice (b := 1) (z := .bool false) (k := n + 1) (M := M2) (by omega) (by omega)
  have s3 : Step M2 (M2.push (.cells (List.replicate (n + 1) (.bool false)) 1 true none)) := (Step.refl e2.ok).push (fun _ _ _ _ he => by cases he)
  have e3 := EvA.of_step s3 e2.nh (fun _ => False)
  have g3m := get_push_self (k := .cells (List.replicate (n + 1) (.bool false)) 1 true none) e2.ok.1
  have n3 : (M2.push (.cells (List.replicate (n + 1) (.bool false)) 1 true none)).n = M2.n + 1 := push_n
  generalize hM3 : M2.push (.cells (List.replicate (n + 1) (.bool false)) 1 true none) = M3 at *
  rw [flags_nil] at g3m
  refine W_seq (W_seqR (by simp only [runSeq_cons, runSeq_nil, evalArgs_nil, evalArgs_tmp, evalArgs_const, val1, putT, Tr.get_set_self, Tr.get_set_ne, hd _, ne_eq, Nat.reduceEqDiff, not_false_eq_true, decide_true, Nat.reduceLT, opI_move, opI_add, opI_fieldP, Nat.zero_add, ln2, w3, ms]; rfl) ?_)
  have gL3 := (e3.same lb (get_lt e2.ok.1 gL) (fun h => h)).trans gL
  have g3 : M3.get M.n = _ := (e3.same M.n (get_lt e2.ok.1 g2) (fun h => h)).trans g2
  have s13 : Step M M3 := s12.eva e3 (fun _ h => h.elim)
  have hlen := cells_len (n := n) (m := m)
  have rd : ∀ {K : AMem} {j : Nat}, K.get lb = some (.cells ((cellsOf n m).map fun (x : Nat) => AV.int .u64 (x : Int)) sz true none) → j < 3 * n + 2 → opI (.load false 1) [.ptr (some (lb, j))] K = some (.val (.int .u64 ((cellsOf n m).getD j 0 : Nat)) K) := fun {K j} hK hj => load_own hK (by
    rw [List.getElem?_map, List.getElem?_eq_getElem (by omega), List.getD_eq_getElem?_getD, List.getElem?_eq_getElem (by omega)]; rfl)
  have ix0 : ∀ K : AMem, opI (.indexAddrS 1) [.slice (some (lb, 1)) (n + 1) (3 * n + 2 - 1) gr, .int .i64 0] K = some (.val (.ptr (some (lb, 1))) K) := fun K => by
    have := op_idxo (b := lb) (o := 1) (n := n + 1) (c := 3 * n + 2 - 1) (g := gr) (k := .i64) (i := 0) (M := K) (by omega)
    simpa using this
  have ld0 := rd gL3 (j := 1) (by omega)
  have cg0 : (cellsOf n m).getD 1 0 = pr m.ht m.hi := by rw [cells_get (by omega), if_neg (by omega), if_pos rfl]
  rw [cg0] at ld0
  have hhi := hm.hi
  obtain ⟨M4, c4, e4⟩ := low_ok m.ht (i := m.hi) (by omega) M3 e3.ok e3.nh (d + 1)
  have lM := get_lt e3.ok.1 g3
  have llb := get_lt e2.ok.1 gL
  have n01 : M.n < M1.n := get_lt e1.ok.1 g1
  refine W_seq (W_seq (W_seqR (by simp only [runSeq_cons, runSeq_nil, evalArgs_nil, evalArgs_tmp, evalArgs_const, val1, putT, Tr.get_set_self, Tr.get_set_ne, hd _, ne_eq, Nat.reduceEqDiff, not_false_eq_true, decide_true, Nat.reduceLT, opI_move, opI_callF, ix0, ld0, c4]; rfl) (W_block (W_loop (fun k t K => ∃ (done rest : List Nat) (cur : Nat) (ov : AV), F = done ++ rest ∧ k = rest.length ∧ Chain m.link cur rest ∧ Dom t 63 ∧ t.get 2 = some (.ptr (some (M.n, 0))) ∧ t.get 7 = some (.slice (some (lb, 1)) (n + 1) (3 * n + 2 - 1) gr) ∧ t.get 8 = some ov ∧ t.get 9 = some (.slice (some (M2.n, 0)) (n + 1) (n + 1) false) ∧ t.get 10 = some (.int .u32 cur) ∧
      Step M K ∧ K.get M.n = some (.cells [.int .i64 1, .int .i64 n] 0 true none) ∧ K.get lb = some (.cells ((cellsOf n m).map fun (x : Nat) => AV.int .u64 (x : Int)) sz true none) ∧ K.get M2.n = some (.cells (flags n done) 1 true none) ∧ FreshE M K 1 ov (els1 .i64 done) ∧ (∀ c, sbOf ov = some c → M2.n < c))
    (k := F.length) (by omega) ?_ ?_))))
  · refine ⟨[], F, m.hi, .slice none 0 0 false, rfl, rfl, hF, by ((repeat (with_reducible apply Dom.set)); exact hd), by simp only [Tr.get_set_self, Tr.get_set_ne, hd _, ne_eq, Nat.reduceEqDiff, not_false_eq_true, decide_true, Nat.reduceLT]; try rfl, by simp only [Tr.get_set_self, Tr.get_set_ne, hd _, ne_eq, Nat.reduceEqDiff, not_false_eq_true, decide_true, Nat.reduceLT]; try rfl, by simp only [Tr.get_set_self, Tr.get_set_ne, hd _, ne_eq, Nat.reduceEqDiff, not_false_eq_true, decide_true, Nat.reduceLT]; try rfl, by simp only [Tr.get_set_self, Tr.get_set_ne, hd _, ne_eq, Nat.reduceEqDiff, not_false_eq_true, decide_true, Nat.reduceLT]; try rfl, by simp only [Tr.get_set_self, Tr.get_set_ne, hd _, ne_eq, Nat.reduceEqDiff, not_false_eq_true, decide_true, Nat.reduceLT]; try rfl, s13.eva e4 (fun _ h => h.elim), (e4.same _ lM (fun h => h)).trans g3, (e4.same _ (by omega) (fun h => h)).trans gL3, (e4.same _ (by omega) (fun h => h)).trans g3m, .inr ⟨rfl, rfl⟩, fun c hc => by cases hc⟩
  clear h0 h1 hd
  rintro k t K ⟨done, rest, cur, ov, hSe, hk, hch, hd, h2, h7, h8, h9, h10, sK, gK, LK, mK, oK, sbK⟩
  refine W_seq (W_seq (W_seqR (by simp only [runSeq_cons, runSeq_nil, evalArgs_nil, evalArgs_tmp, evalArgs_const, val1, putT, Tr.get_set_self, hd _, decide_true, Nat.reduceLT, opI_move, opI_neq, h10]; rfl) ?_))
  refine W_cond (by simp only [PArg.eval, Tr.get_set_self, Tr.get_set_ne, hd _, ne_eq, Nat.reduceEqDiff, not_false_eq_true, decide_true, Nat.reduceLT]; rfl) (fun hb => W_skip ?_) (fun hb => W_exit ?_)
  · have hcur : cur ≠ 0 := by
      intro h; subst h; simp at hb
    cases rest with
    | nil => exact absurd hch hcur
    | cons x rest =>
    obtain ⟨rfl, hx0, hch'⟩ := hch
    have hxS : cur ∈ F := by rw [hSe]; simp
    obtain ⟨hx1, hxn⟩ := hin cur hxS
    have hxd : cur ∉ done := fun h => by
      rw [hSe] at hnd
      exact (List.nodup_append.1 hnd).2.2 cur h cur (by simp) rfl
    have hhK : NH K := sK.nhAll hh
    have hdl : done.length < n := by rw [hSe] at hFn; simp at hFn; omega
    have lnK : opI (.load false 1) [.ptr (some (M.n, 1))] K = some (.val (.int .i64 n) K) := load_own gK rfl
    have ixs : ∀ K : AMem, opI (.indexAddrS 1) [.slice (some (M2.n, 0)) (n + 1) (n + 1) false, .int .u32 cur] K = some (.val (.ptr (some (M2.n, cur))) K) := fun K => by
      have := op_idxo (b := M2.n) (o := 0) (n := n + 1) (c := n + 1) (g := false) (k := .u32) (i := cur) (M := K) (by omega)
      simpa using this
    have lds : opI (.load false 1) [.ptr (some (M2.n, cur))] K = some (.val (.bool false) K) := load_own mK (by rw [flags_get hxn]; simp [hxd])
    have cv : ∀ (M : AMem), opI (.conv .i64) [.int .u32 cur] M = some (.val (.int .i64 cur) M) := fun M => by
      show some (SR.val (.int .i64 (wrapF .i64 cur)) M) = _
      rw [wi (by omega) (by omega)]
    have q1 : decide ((cur : Int) > n) = false := decide_eq_false (by omega)
    show W _ _
    refine W_seq (W_block (W_seq (W_seq (W_seqR (by simp only [runSeq_cons, runSeq_nil, evalArgs_nil, evalArgs_tmp, evalArgs_const, val1, putT, Tr.get_set_self, Tr.get_set_ne, Tr.isSome_set, hd _, ne_eq, Nat.reduceEqDiff, not_false_eq_true, decide_true, Nat.reduceLT, opI_move, opI_gtr, opI_fieldP, opI_pick, Nat.zero_add, runSeq_guard (b := false), beq_self_eq_true, h2, h9, h10, lnK, cv, q1, ixs, lds]; rfl) ?_))))
    refine W_cond (b := false) (by simp only [PArg.eval, Tr.get_set_self, Tr.get_set_ne, hd _, ne_eq, Nat.reduceEqDiff, not_false_eq_true, decide_true, Nat.reduceLT]; try rfl) (fun hb => by cases hb) (fun _ => W_skip ?_)
    show W _ _
    obtain ⟨u1, u2, u3, u4⟩ := store1 (step0 sK.ok hhK) (Nat.zero_le _) mK (x := .bool true) ⟨rfl, rfl⟩ (o := cur) (by rw [flags_len]; omega)
    have f2 : EvA K (K.set M2.n (.cells ((flags n done).set cur (.bool true)) 1 true none)) (· = M2.n) := ⟨Nat.le_of_eq set_n.symm, set_g, fun x _ hx => u4 x hx, u2.ok, step_nh u2 rfl⟩
    refine W_seq (W_seqR (by simp only [runSeq_cons, runSeq_nil, evalArgs_nil, evalArgs_tmp, evalArgs_const, val1, putT, Tr.get_set_self, Tr.get_set_ne, hd _, ne_eq, Nat.reduceEqDiff, not_false_eq_true, decide_true, Nat.reduceLT, opI_move, h9, h10, ixs, u1]; rfl) ?_)
    rw [flags_set hxn] at u3 f2
    rw [flags_set hxn]
    have n2 : (K.set M2.n (.cells (flags n (done ++ [cur])) 1 true none)).n = K.n := set_n
    generalize hK2 : K.set M2.n (.cells (flags n (done ++ [cur])) 1 true none) = K2 at *
    have gK2 : K2.get M.n = _ := (f2.same _ (get_lt sK.ok.1 gK) (by have := get_lt s12.ok.1 g2; omega)).trans gK
    have LK2 : K2.get lb = _ := (f2.same _ (get_lt sK.ok.1 LK) (by omega)).trans LK
    have oK2 : FreshE M K2 1 ov (els1 .i64 done) := oK.eva sK.ok.1 f2 (fun c hc h => by have := sbK c hc; omega)
    have sK2 : Step M K2 := sK.eva f2 (fun b hb => by have := s12.grow.n; omega)
    have hel : (els1 .i64 done).length = done.length := by simp [els1]
    obtain ⟨K4, g4, p1, p2, p3, p4, p5, p6, _⟩ := push_el (bytes := 8) (x := .int .i64 cur) (z := [.int .i64 0]) sK2 oK2 rfl rfl (by omega) rfl (by omega) (by omega)
    have hcl : AV.cells (.int .i64 cur) = [.int .i64 cur] := rfl
    rw [hcl] at p1 p2 p4
    show W _ _
    refine W_seqR (by simp only [runSeq_cons, runSeq_nil, evalArgs_nil, evalArgs_tmp, val1, putT, Tr.get_set_self, Tr.get_set_ne, hd _, ne_eq, Nat.reduceEqDiff, not_false_eq_true, decide_true, Nat.reduceLT, opI_move, h8, h10, cv, p1, p2]; rfl) ?_
    show W _ _
    have hhK4 : NH K4 := p3.nhAll hh
    have ev4 : Ev K2 K4 (fun c => sbOf ov = some c) := ⟨by omega, by rw [p3.grow.g, sK2.grow.g], fun b k hb hg hx => p5 b k hb hg hx, p3.ok, hhK4⟩
    have gK4 : K4.get M.n = _ := ev4.same _ _ gK2 rfl (fun h => by have := sbK _ h; omega)
    have mK4 : K4.get M2.n = _ := ev4.same _ _ u3 rfl (fun h => by have := sbK _ h; omega)
    have LR4 : K4.get lb = _ := ev4.same _ _ LK2 rfl (fun h => by have := sbK _ h; omega)
    have ixb : ∀ K : AMem, opI (.indexAddrS 1) [.slice (some (lb, 1)) (n + 1) (3 * n + 2 - 1) gr, .int .u32 cur] K = some (.val (.ptr (some (lb, 1 + cur))) K) := fun K => op_idxo (by omega)
    have ldb := rd LR4 (j := 1 + cur) (by omega)
    have cgb : (cellsOf n m).getD (1 + cur) 0 = pr 0 (m.link cur) := by
      rw [cells_get (by omega), if_neg (by omega), if_neg (by omega), if_pos (by omega), pr0]; congr 1; omega
    rw [cgb] at ldb
    have hbl := hm.link cur
    obtain ⟨K6, k6, f6⟩ := low_ok 0 (i := m.link cur) (by omega) K4 p3.ok hhK4 (d + 1)
    refine W_seqR (by simp only [runSeq_cons, runSeq_nil, evalArgs_nil, evalArgs_tmp, val1, putT, Tr.get_set_self, Tr.get_set_ne, hd _, ne_eq, Nat.reduceEqDiff, not_false_eq_true, decide_true, Nat.reduceLT, opI_move, opI_callF, h7, h10, ixb, ldb, k6]; rfl) ?_
    refine ⟨k - 1, by rw [hk]; simp, done ++ [cur], rest, m.link cur, _, by rw [hSe]; simp, by rw [hk]; simp, hch', by ((repeat (with_reducible apply Dom.set)); exact hd), by simp only [Tr.get_set_ne, ne_eq, Nat.reduceEqDiff, not_false_eq_true, h2], by simp only [Tr.get_set_ne, ne_eq, Nat.reduceEqDiff, not_false_eq_true, h7], by simp only [Tr.get_set_self, Tr.get_set_ne, hd _, ne_eq, Nat.reduceEqDiff, not_false_eq_true, decide_true, Nat.reduceLT]; try rfl, by simp only [Tr.get_set_ne, ne_eq, Nat.reduceEqDiff, not_false_eq_true, h9], by simp only [Tr.get_set_self, Tr.get_set_ne, hd _, ne_eq, Nat.reduceEqDiff, not_false_eq_true, decide_true, Nat.reduceLT]; try rfl, p3.eva f6 (fun _ h => h.elim), (f6.same _ (get_lt p3.ok.1 gK4) (fun h => h)).trans gK4, (f6.same _ (get_lt p3.ok.1 LR4) (fun h => h)).trans LR4, (f6.same _ (get_lt p3.ok.1 mK4) (fun h => h)).trans mK4, ?_, ?_⟩
    · refine FreshE.eva (.inl ?_) p3.ok.1 f6 (fun _ _ h => h)
      have e : els1 .i64 (done ++ [cur]) = els1 .i64 done ++ [[.int .i64 cur]] := by simp [els1]
      rw [e]
      exact p4
    · intro c hc
      simp only [sbOf, Option.some.injEq] at hc
      have := get_lt sK2.ok.1 u3
      omega
  · have hcur : cur = 0 := by
      simp at hb
      omega
    show W _ _
    have hr : rest = [] := by
      cases rest with
      | nil => rfl
      | cons x r => exact absurd (hch.1.symm.trans hcur) hch.2.1
    subst hr
    rw [List.append_nil] at hSe
    subst hSe
    refine W_seq (W_seqR (by simp only [runSeq_cons, runSeq_nil, evalArgs_nil, evalArgs_tmp, evalArgs_const, val1, putT, Tr.get_set_self, Tr.get_set_ne, hd _, ne_eq, Nat.reduceEqDiff, not_false_eq_true, decide_true, Nat.reduceLT, opI_move, h8]; rfl) (W_ret ?_))
    exact ⟨_, fin_tmp2 (by simp only [Tr.get_set_self, Tr.get_set_ne, hd _, ne_eq, Nat.reduceEqDiff, not_false_eq_true, decide_true, Nat.reduceLT]; try rfl) (by simp only [Tr.get_set_self, Tr.get_set_ne, hd _, ne_eq, Nat.reduceEqDiff, not_false_eq_true, decide_true, Nat.reduceLT]; try rfl), ov, rfl, EvA.of_step sK hh _, oK⟩
end Go.Proofs.Ytldijnabgabehaa.so
