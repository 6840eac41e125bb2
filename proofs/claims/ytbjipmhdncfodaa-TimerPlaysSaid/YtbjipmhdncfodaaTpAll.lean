/- The walks of a timer's First and All. -/
import Derived.Test.YtbjipmhdncfodaaTpRef
namespace Go.Proofs.Ytbjipmhdncfodaa.grf
open Go Go.Vx
def keyE (x : En) : Int × Int := (x.at_, x.n)
theorem ltK_key (x y : En) : ltK (keyE x) (keyE y) = ltE x y := rfl
/-- the entries in order, as the library's sort lays them -/
def srtE (l : List En) : List En := (srtI (l.map keyE)).map fun i => l.getD i dEn
theorem srtE_perm (l : List En) : l.Perm (srtE l) := by
  have h := (srtI_spec (l.map keyE)).1.map fun i => l.getD i dEn
  rw [List.length_map] at h
  have e : (List.range l.length).map (fun i => l.getD i dEn) = l := by
    apply List.ext_getElem
    · simp
    · intro i h1 h2
      simp [h2]
  rw [e] at h
  exact h.symm
theorem srtE_sorted (l : List En) : (srtE l).Pairwise (fun a b => ltE b a = false) := by
  rw [List.pairwise_iff_getElem]
  intro i j hi hj hij
  have hl := srtI_len (l.map keyE)
  rw [List.length_map] at hl
  have hi' : i < (srtI (l.map keyE)).length := by rw [srtE, List.length_map] at hi; exact hi
  have hj' : j < (srtI (l.map keyE)).length := by rw [srtE, List.length_map] at hj; exact hj
  have h := (srtI_spec (l.map keyE)).2 i j hij (by rw [List.length_map]; omega)
  have g : ∀ m (hm : m < (srtI (l.map keyE)).length), (l.map keyE).getD ((srtI (l.map keyE)).getD m 0) (0, 0) = keyE (l.getD (srtI (l.map keyE))[m] dEn) := fun m hm => by
    have hlt := srtI_lt (l.map keyE) (List.getElem_mem hm)
    rw [List.length_map] at hlt
    have e : (srtI (l.map keyE)).getD m 0 = (srtI (l.map keyE))[m] := by rw [List.getD_eq_getElem?_getD, List.getElem?_eq_getElem hm]; rfl
    rw [e, List.getD_eq_getElem?_getD, List.getElem?_map, List.getElem?_eq_getElem hlt, getD_get hlt]; rfl
  rw [g i hi', g j hj', ltK_key] at h
  simp only [srtE, List.getElem_map]
  exact h
theorem callF_tbl {d : Nat} {f : FuncId} {args : List AV} {M : AMem} {r : AV × AMem} (h : tbl f args M = some r) : callF tbl code 100000 (d + 1) f args M = some r := by
  simp only [callF, h]
section
variable {M0 M : AMem} {J : Nat → Prop} {tb mb γ : Nat} {l : List En} {nn now : Int} {v : AV}
theorem flatR (l : List En) : (l.map eR).flatten = l.map pP := by
  induction l with
  | nil => rfl
  | cons x l ih => rw [List.map_cons, List.flatten_cons, ih]; rfl
theorem rdPtrs_row (hv : RowI M0 M 1 γ v (l.map eR)) : rdPtrs M v = some (l.map pP) := by
  rcases hv with ⟨rfl, he⟩ | ⟨b, c, gr, cs, sz', g, rfl, h1, h2, h3, h4, h5, h6, h7, h8, h9, h10⟩
  · obtain rfl : l = [] := by simpa using he
    rfl
  · have h : M.loadCells b 0 (l.map eR).length = some (l.map pP) := by
      unfold AMem.loadCells
      rw [h4]
      simp only
      rw [Nat.mul_one, flatR] at h6
      rw [if_pos (by omega), List.drop_zero, h6]
    show (match M.loadCells b 0 (l.map eR).length with
      | some l => if l.all isPtr then some l else none
      | none => none) = _
    rw [h]
    have : (l.map pP).all isPtr = true := by
      rw [List.all_eq_true]
      intro x hx
      obtain ⟨y, _, rfl⟩ := List.mem_map.1 hx
      rfl
    simp only [this, if_true]
theorem rdKeys_row {M' : AMem} : ∀ {l : List En}, (∀ x ∈ l, ∃ p, M'.get x.b = some (.cells (eC x p) 0 true none)) → mapO (rdKey M') (l.map pP) = some (l.map keyE)
  | [], _ => rfl
  | x :: l, h => by
    obtain ⟨p, hp⟩ := h x List.mem_cons_self
    have h1 : rdKey M' (pP x) = some (keyE x) := by
      unfold rdKey pP
      simp only [hp, eC, keyE]
    rw [List.map_cons, List.map_cons]
    simp only [mapO, h1, rdKeys_row (fun y hy => h y (List.mem_cons_of_mem _ hy))]
theorem srt_cells (l : List En) : (srtI (l.map keyE)).map (fun i => (l.map pP).getD i undefA) = (srtE l).map pP := by
  unfold srtE
  rw [List.map_map]
  refine List.map_congr_left fun i hi => ?_
  have hlt := srtI_lt (l.map keyE) hi
  rw [List.length_map] at hlt
  show (l.map pP).getD i undefA = pP (l.getD i dEn)
  rw [List.getD_eq_getElem?_getD, List.getElem?_map, List.getElem?_eq_getElem hlt, getD_get hlt]; rfl
set_option maxHeartbeats 1000000 in
theorem values_ok (d : Nat) (_hok : Okg M) (v : AV) : callF tbl code 100000 (d + 1) 27 [v] M = some (.func (.func 31) [] [.ptr (some (M.n, 0))], M.push (.cells v.cells 0 true none)) := by
  refine Ans.eq ?_
  refine Ans_of (tbl_none (by decide) _) (show code 27 = some c27 from by kernel_rfl) (by simp) fun t hd ha => ?_
  have h0 := ha 0 _ rfl
  clear ha
  refine W_seq (W_seqR (by simp only [runSeq_cons, runSeq_nil, evalArgs_nil, evalArgs_tmp, evalArgs_const, val1, putT, opI_move, opI_box, h0]; rfl) ?_)
  refine W_seq (W_seqR (by simp only [runSeq_cons, runSeq_nil, evalArgs_nil, evalArgs_tmp, val1, putT, Tr.get_set_self, Tr.get_set_ne, hd _, ne_eq, Nat.reduceEqDiff, not_false_eq_true, decide_true, Nat.reduceLT, opI_move, opI_mkFunc]; rfl) (W_ret ?_))
  exact ⟨_, fin_tmp (by simp only [Tr.get_set_self, Tr.get_set_ne, Tr.isSome_set, Option.isSome_some, hd _, ne_eq, Nat.reduceEqDiff, not_false_eq_true, decide_true, Nat.reduceLT]; try rfl), rfl, rfl⟩
set_option maxHeartbeats 4000000 in
theorem sortedf_ok (d : Nat) (hok : Okg M) {b : Nat} (hb : M.get b = some (.cells [v] 0 true none)) (hv : RowI M0 M 1 γ v (l.map eR)) (hl : l.length ≤ 1000) (he : ∀ x ∈ l, ∃ p, M.get x.b = some (.cells (eC x p) 0 true none)) :
    Ans (callF tbl code 100000 (d + 2)) 26 [.func (.func 31) [] [.ptr (some (b, 0))], .func (.func 28) [] []] M fun r M' => Step M M' ∧ FreshE M M' 1 r ((srtE l).map eR) := by
  refine Ans_of (tbl_none (by decide) _) (show code 26 = some c26 from by kernel_rfl) (by simp) fun t hd ha => ?_
  have h0 := ha 0 _ rfl
  have h1 := ha 1 _ rfl
  clear ha
  have hld : M.loadCells b 0 1 = some [v] := by
    unfold AMem.loadCells; rw [hb]; rfl
  have hrd := rdPtrs_row hv
  by_cases hne : l = []
  · subst hne
    have c1 : tbl 29 [.func (.func 31) [] [.ptr (some (b, 0))]] M = some (.slice none 0 0 false, M) := by
      show (match colX _ _ M with | some q => some q | none => _) = _
      have : colX 29 [.func (.func 31) [] [.ptr (some (b, 0))]] M = some (.slice none 0 0 false, M) := by
        unfold colX collectX
        simp only [if_true, hld, hrd, List.map_nil]
      rw [this]
    have c1' := callF_tbl (d := d) c1
    have c2 : tbl 30 [.slice none 0 0 false, .func (.func 28) [] []] M = some (.tuple [], M) := rfl
    have c2' := callF_tbl (d := d) c2
    refine W_seq (W_seqR (by simp only [runSeq_cons, runSeq_nil, evalArgs_nil, evalArgs_const, val1, putT, opI_move]; rfl) ?_)
    refine W_seq (W_seqR (by simp only [runSeq_cons, runSeq_nil, evalArgs_nil, evalArgs_tmp, val1, putT, Tr.get_set_self, Tr.get_set_ne, hd _, ne_eq, Nat.reduceEqDiff, not_false_eq_true, decide_true, Nat.reduceLT, opI_move, opI_callF, h0, c1']; rfl) ?_)
    refine W_seq (W_seqR (by simp only [runSeq_cons, runSeq_nil, evalArgs_nil, evalArgs_tmp, val1, putT, Tr.get_set_self, Tr.get_set_ne, hd _, ne_eq, Nat.reduceEqDiff, not_false_eq_true, decide_true, Nat.reduceLT, opI_move, opI_callF, h1, c2']; rfl) ?_)
    refine W_seq (W_seqR (by simp only [runSeq_cons, runSeq_nil, evalArgs_nil, evalArgs_tmp, val1, putT, Tr.get_set_self, Tr.get_set_ne, hd _, ne_eq, Nat.reduceEqDiff, not_false_eq_true, decide_true, Nat.reduceLT, opI_move]; rfl) (W_ret ?_))
    exact ⟨_, fin_tmp (by simp only [Tr.get_set_self, Tr.get_set_ne, Option.isSome_some, hd _, ne_eq, Nat.reduceEqDiff, not_false_eq_true, decide_true, Nat.reduceLT]; try rfl), Step.refl hok, .inr ⟨rfl, rfl⟩⟩
  · obtain ⟨x, l', hxl⟩ : ∃ x l', l = x :: l' := by
      cases l with
      | nil => exact absurd rfl hne
      | cons x l' => exact ⟨x, l', rfl⟩
    have hlen : l.length = l'.length + 1 := by rw [hxl]; rfl
    have s1 := (Step.refl hok).push (k := .cells (l.map pP) 1 true none) (fun _ _ _ _ he => by cases he)
    have g1 := get_push_self (k := .cells (l.map pP) 1 true none) hok.1
    have c1 : tbl 29 [.func (.func 31) [] [.ptr (some (b, 0))]] M = some (.slice (some (M.n, 0)) l.length l.length true, M.push (.cells (l.map pP) 1 true none)) := by
      show (match colX _ _ M with | some q => some q | none => _) = _
      have : colX 29 [.func (.func 31) [] [.ptr (some (b, 0))]] M = some (.slice (some (M.n, 0)) l.length l.length true, M.push (.cells (l.map pP) 1 true none)) := by
        have hrd' : rdPtrs M v = some (pP x :: l'.map pP) := by rw [hrd, hxl]; rfl
        have hm : l.map pP = pP x :: l'.map pP := by rw [hxl]; rfl
        unfold colX collectX
        simp only [if_true, hld, hrd']
        rw [if_pos (by rw [List.length_map]; omega), List.length_map, hlen, hm]
      rw [this]
    have c1' := callF_tbl (d := d) c1
    have e1 : ∀ y ∈ l, ∃ p, (M.push (.cells (l.map pP) 1 true none)).get y.b = some (.cells (eC y p) 0 true none) := fun y hy => by
      obtain ⟨p, hp⟩ := he y hy
      exact ⟨p, (get_push_old hok.1 (get_lt hok.1 hp)).trans hp⟩
    have hks := rdKeys_row e1
    generalize M.push (.cells (l.map pP) 1 true none) = M1 at *
    have hsl : ((srtE l).map pP).length = l.length := by rw [List.length_map, (srtE_perm l).length_eq]
    have hone : ((srtE l).map pP).all AV.one = true := by
      rw [List.all_eq_true]
      intro z hz
      obtain ⟨y, _, rfl⟩ := List.mem_map.1 hz
      rfl
    have hst : M1.storeCells M.n 0 ((srtE l).map pP) = some (M1.set M.n (.cells ((srtE l).map pP) 1 true none)) := by
      unfold AMem.storeCells
      rw [g1]
      simp only
      rw [if_pos ⟨by rw [hsl, List.length_map]; omega, hone⟩]
      have : splice (l.map pP) 0 ((srtE l).map pP) = (srtE l).map pP := by
        unfold splice
        rw [List.take_zero, List.nil_append, Nat.zero_add, List.drop_of_length_le (by rw [hsl, List.length_map]; omega), List.append_nil]
      rw [this]
    have c2 : tbl 30 [.slice (some (M.n, 0)) l.length l.length true, .func (.func 28) [] []] M1 = some (.tuple [], M1.set M.n (.cells ((srtE l).map pP) 1 true none)) := by
      have hcol : colX 30 [.slice (some (M.n, 0)) l.length l.length true, .func (.func 28) [] []] M1 = none := by
        unfold colX collectX
        rw [if_neg (by decide)]
      show (match colX 30 [.slice (some (M.n, 0)) l.length l.length true, .func (.func 28) [] []] M1 with | some q => some q | none => srtX 30 [.slice (some (M.n, 0)) l.length l.length true, .func (.func 28) [] []] M1) = _
      rw [hcol]
      show srtX 30 [.slice (some (M.n, 0)) l.length l.length true, .func (.func 28) [] []] M1 = _
      unfold srtX sortP
      simp only [if_true, g1, hks]
      rw [if_pos ⟨by rw [List.length_map]; omega, List.length_map _, by rw [List.length_map]; omega⟩, srt_cells, hst]
    have c2' := callF_tbl (d := d) c2
    refine W_seq (W_seqR (by simp only [runSeq_cons, runSeq_nil, evalArgs_nil, evalArgs_const, val1, putT, opI_move]; rfl) ?_)
    refine W_seq (W_seqR (by simp only [runSeq_cons, runSeq_nil, evalArgs_nil, evalArgs_tmp, val1, putT, Tr.get_set_self, Tr.get_set_ne, hd _, ne_eq, Nat.reduceEqDiff, not_false_eq_true, decide_true, Nat.reduceLT, opI_move, opI_callF, h0, c1']; rfl) ?_)
    refine W_seq (W_seqR (by simp only [runSeq_cons, runSeq_nil, evalArgs_nil, evalArgs_tmp, val1, putT, Tr.get_set_self, Tr.get_set_ne, hd _, ne_eq, Nat.reduceEqDiff, not_false_eq_true, decide_true, Nat.reduceLT, opI_move, opI_callF, h1, c2']; rfl) ?_)
    refine W_seq (W_seqR (by simp only [runSeq_cons, runSeq_nil, evalArgs_nil, evalArgs_tmp, val1, putT, Tr.get_set_self, Tr.get_set_ne, hd _, ne_eq, Nat.reduceEqDiff, not_false_eq_true, decide_true, Nat.reduceLT, opI_move]; rfl) (W_ret ?_))
    refine ⟨_, fin_tmp (by simp only [Tr.get_set_self, Tr.get_set_ne, Option.isSome_some, hd _, ne_eq, Nat.reduceEqDiff, not_false_eq_true, decide_true, Nat.reduceLT]; try rfl), s1.set (Nat.le_refl _) g1 (fun _ _ _ _ he => by cases he), .inl ⟨M.n, true, 1, none, ?_, Nat.le_refl _, ?_, fun _ => rfl, (fun g' he => by cases he), fun e he => ?_, ?_⟩⟩
    · show AV.slice _ _ _ _ = _
      rw [List.length_map, ← (srtE_perm l).length_eq]
    · rw [get_set_mem g1, if_pos rfl, flatR]
    · obtain ⟨y, _, rfl⟩ := List.mem_map.1 he; rfl
    · rw [flatR]; exact hone
abbrev eP (x : En) : List AV := [.int .i64 x.at_, .int .u64 x.task]
set_option maxHeartbeats 1000000 in
theorem first_ok (h : TSh M0 M J tb mb l nn now) (d : Nat) : callF tbl code 100000 (d + 2) 22 [.ptr (some (tb, 0))] M = some (if l.length = 0 then .tuple [.int .i64 0, .bool false] else .tuple [.int .i64 (l.getD 0 dEn).at_, .bool true], M) := by
  refine Ans.eq ?_
  refine Ans_of (tbl_none (by decide) _) (show code 22 = some c22 from by kernel_rfl) (by simp) fun t hd ha => ?_
  have h0 := ha 0 _ rfl
  clear ha
  have ln := len_ok h d
  by_cases hl : l.length = 0
  · have e1 : ((l.length : Int) == 0) = true := by simpa using hl
    refine W_seq (W_seqR (by simp only [runSeq_cons, runSeq_nil, evalArgs_nil, evalArgs_const, val1, putT, opI_move]; rfl) ?_)
    refine W_seq (W_seq (W_seqR (by simp only [runSeq_cons, runSeq_nil, evalArgs_nil, evalArgs_tmp, evalArgs_const, val1, putT, Tr.get_set_self, Tr.get_set_ne, hd _, ne_eq, Nat.reduceEqDiff, not_false_eq_true, decide_true, Nat.reduceLT, opI_move, opI_eql, opI_callF, h0, ln, e1]; rfl) ?_))
    refine W_cond (b := true) (by simp only [PArg.eval, Tr.get_set_self, Tr.get_set_ne, hd _, ne_eq, Nat.reduceEqDiff, not_false_eq_true, decide_true, Nat.reduceLT]; try rfl) (fun _ => ?_) (fun hb => by cases hb)
    refine W_seq (W_seqR (by simp only [runSeq_cons, runSeq_nil, evalArgs_nil, evalArgs_const, val1, putT, opI_move]; rfl) (W_ret ?_))
    refine ⟨_, fin_tmp2 (by simp only [Tr.get_set_self, Tr.get_set_ne, Option.isSome_some, hd _, ne_eq, Nat.reduceEqDiff, not_false_eq_true, decide_true, Nat.reduceLT]; try rfl) (by simp only [Tr.get_set_self, Tr.get_set_ne, Tr.isSome_set, Option.isSome_some, hd _, ne_eq, Nat.reduceEqDiff, not_false_eq_true, decide_true, Nat.reduceLT]; try rfl), rfl, ?_⟩
    rw [if_pos hl]; rfl
  · have e1 : ((l.length : Int) == 0) = false := by simpa using hl
    refine W_seq (W_seqR (by simp only [runSeq_cons, runSeq_nil, evalArgs_nil, evalArgs_const, val1, putT, opI_move]; rfl) ?_)
    refine W_seq (W_seq (W_seqR (by simp only [runSeq_cons, runSeq_nil, evalArgs_nil, evalArgs_tmp, evalArgs_const, val1, putT, Tr.get_set_self, Tr.get_set_ne, hd _, ne_eq, Nat.reduceEqDiff, not_false_eq_true, decide_true, Nat.reduceLT, opI_move, opI_eql, opI_callF, h0, ln, e1]; rfl) ?_))
    refine W_cond (b := false) (by simp only [PArg.eval, Tr.get_set_self, Tr.get_set_ne, hd _, ne_eq, Nat.reduceEqDiff, not_false_eq_true, decide_true, Nat.reduceLT]; try rfl) (fun hb => by cases hb) (fun _ => W_skip ?_)
    show W _ _
    obtain ⟨v, p1, p2, p3⟩ := h.hlen
    obtain ⟨a1, a2⟩ := p3 0 (by omega)
    have a1' : ∀ M', opI (.indexAddrS 1) [v, .int .i64 0] M' = some (.val (rowp v 1 0) M') := a1
    have A0 := load_own (o := 0) (h.ents 0 (by omega)) rfl
    refine W_seq (W_seqR (by simp only [runSeq_cons, runSeq_nil, evalArgs_nil, evalArgs_tmp, evalArgs_const, val1, putT, Tr.get_set_self, Tr.get_set_ne, hd _, ne_eq, Nat.reduceEqDiff, not_false_eq_true, decide_true, Nat.reduceLT, opI_move, opI_fieldP, Nat.add_zero, h0, opI_nilP, p1, a1', a2, A0]; rfl) (W_ret ?_))
    refine ⟨_, fin_tmp2 (by simp only [Tr.get_set_self, Tr.get_set_ne, Option.isSome_some, hd _, ne_eq, Nat.reduceEqDiff, not_false_eq_true, decide_true, Nat.reduceLT]; try rfl) (by simp only [Tr.get_set_self, Tr.get_set_ne, Tr.isSome_set, Option.isSome_some, hd _, ne_eq, Nat.reduceEqDiff, not_false_eq_true, decide_true, Nat.reduceLT]; try rfl), rfl, ?_⟩
    rw [if_neg hl]; rfl
set_option maxRecDepth 20000 in
set_option maxHeartbeats 4000000 in
theorem all_ok (h : TSh M0 M J tb mb l nn now) (d : Nat) : Ans (callF tbl code 100000 (d + 3)) 23 [.ptr (some (tb, 0))] M fun r M' => Step M M' ∧ FreshE M M' 2 r ((srtE l).map eP) := by
  refine Ans_of (tbl_none (by decide) _) (show code 23 = some c23 from by kernel_rfl) (by simp) fun t hd ha => ?_
  have h0 := ha 0 _ rfl
  clear ha
  have hok := h.step.ok
  obtain ⟨v, γ, g1, hv, _⟩ := h.row
  have hl := h.len
  refine W_seq (W_seqR (by simp only [runSeq_cons, runSeq_nil, evalArgs_nil, evalArgs_const, val1, putT, opI_move]; rfl) ?_)
  refine W_seq (W_seq (W_seqR (by simp only [runSeq_cons, runSeq_nil, evalArgs_nil, evalArgs_tmp, evalArgs_const, val1, putT, Tr.get_set_self, Tr.get_set_ne, hd _, ne_eq, Nat.reduceEqDiff, not_false_eq_true, decide_true, Nat.reduceLT, opI_move, h0]; rfl) ?_))
  refine W_cond (b := false) (by simp only [PArg.eval, Tr.get_set_self, Tr.get_set_ne, hd _, ne_eq, Nat.reduceEqDiff, not_false_eq_true, decide_true, Nat.reduceLT]; try rfl) (fun hb => by cases hb) (fun _ => W_skip ?_)
  show W _ _
  refine W_seq (W_seqR (by simp only [runSeq_cons, runSeq_nil, evalArgs_nil, evalArgs_const, val1, putT, opI_move]; rfl) ?_)
  have L0 := load_own (o := 0) g1 rfl
  have c1 := values_ok (d + 1) hok v
  rw [hv.one.2] at c1
  have s1 := (Step.refl hok).push (k := .cells [v] 0 true none) (fun _ _ _ _ he => by cases he)
  have gb := get_push_self (k := .cells [v] 0 true none) hok.1
  have f1 : Fr M (M.push (.cells [v] 0 true none)) (fun _ => False) := Fr.push hok.1 _
  have hent : ∀ x ∈ l, ∃ p, M.get x.b = some (.cells (eC x p) 0 true none) := fun x hx => by
    obtain ⟨i, hi, rfl⟩ := List.mem_iff_getElem.1 hx
    have := h.ents i hi
    rw [getD_get hi] at this
    exact ⟨_, this⟩
  generalize M.push (.cells [v] 0 true none) = M1 at *
  have hv1 := hv.frame f1 (fun hh => hh)
  have he1 : ∀ x ∈ l, ∃ p, M1.get x.b = some (.cells (eC x p) 0 true none) := fun x hx => by
    obtain ⟨p, hp⟩ := hent x hx
    exact ⟨p, f1 _ _ hp (fun hh => hh)⟩
  obtain ⟨r2, M2, c2, s2, hr2⟩ := sortedf_ok d s1.ok gb hv1 hl he1
  have hrow := hr2.row s2.ok.1
  have lr := hrow.len
  have hlen : ((srtE l).map eR).length = l.length := by rw [List.length_map, (srtE_perm l).length_eq]
  rw [hlen] at lr
  have hDl : (srtE l).length = l.length := (srtE_perm l).length_eq.symm
  refine W_seq (W_seq (W_seqR (by simp only [runSeq_cons, runSeq_nil, evalArgs_nil, evalArgs_tmp, evalArgs_const, val1, putT, Tr.get_set_self, Tr.get_set_ne, hd _, ne_eq, Nat.reduceEqDiff, not_false_eq_true, decide_true, Nat.reduceLT, opI_move, opI_callF, opI_fieldP, Nat.add_zero, h0, opI_nilP, L0, c1, c2, lr]; rfl) (W_block (W_loop (fun k t M' => ∃ (i : Nat) (s : AV), k + i = l.length ∧ Step M2 M' ∧ FreshE M2 M' 2 s (((srtE l).take i).map eP) ∧ Dom t 28 ∧ t.get 3 = some s ∧ t.get 13 = some r2 ∧ t.get 14 = some (.int .i64 l.length) ∧ t.get 15 = some (.int .i64 i)) (k := l.length) (by omega) ?_ ?_))))
  · exact ⟨0, _, rfl, Step.refl s2.ok, .inr ⟨rfl, rfl⟩, by ((repeat (with_reducible apply Dom.set)); exact hd), by simp only [Tr.get_set_self, Tr.get_set_ne, hd _, ne_eq, Nat.reduceEqDiff, not_false_eq_true, decide_true, Nat.reduceLT], by simp only [Tr.get_set_self, Tr.get_set_ne, hd _, ne_eq, Nat.reduceEqDiff, not_false_eq_true, decide_true, Nat.reduceLT], by simp only [Tr.get_set_self, Tr.get_set_ne, hd _, ne_eq, Nat.reduceEqDiff, not_false_eq_true, decide_true, Nat.reduceLT], by simp only [Tr.get_set_self, Tr.get_set_ne, hd _, ne_eq, Nat.reduceEqDiff, not_false_eq_true, decide_true, Nat.reduceLT]; rfl⟩
  clear h0 hd c1 c2 L0
  intro k t M' ⟨i, s, hk, sM, ho, hd, h3, h13, h14, h15⟩
  refine W_seq (W_seqR (by simp only [runSeq_cons, runSeq_nil, evalArgs_nil, evalArgs_tmp, val1, putT, opI_lss, h14, h15]; rfl) (W_seq ?_))
  refine W_cond (by simp only [PArg.eval, Tr.get_set_self, hd _, decide_true, Nat.reduceLT]; rfl) (fun hb => W_skip ?_) (fun hb => W_exit ?_)
  · have hi : i < l.length := by simpa using hb
    obtain ⟨p, pp, p1, _, p2⟩ := (hrow.grow sM.grow).at_ (i := i) (by omega) (by omega)
    have hget : ((srtE l).map eR)[i]'(by omega) = eR ((srtE l).getD i dEn) := by rw [List.getElem_map, getD_get (by omega)]
    have p2' := p2 0 (pP ((srtE l).getD i dEn)) (by rw [hget]; rfl)
    have hmem : (srtE l).getD i dEn ∈ l := (srtE_perm l).mem_iff.2 (by rw [getD_get (by omega)]; exact List.getElem_mem _)
    obtain ⟨pl, hpl⟩ := he1 _ hmem
    have hpl' := (sM.grow.get _ (by have := get_lt s1.ok.1 hpl; have := s2.grow.n; omega)).trans ((s2.grow.get _ (get_lt s1.ok.1 hpl)).trans hpl)
    have LA := loads_own (o := 0) (n := 2) hpl' (by simp [eC])
    have LA' : opI (.load true 2) [.ptr (some (((srtE l).getD i dEn).b, 0))] M' = some (.val (.agg (eP ((srtE l).getD i dEn))) M') := LA
    have hxl : (((srtE l).take i).map eP).length = i := by rw [List.length_map, List.length_take]; omega
    obtain ⟨M6, _, e6, e7, s6, o6, _, n6, _⟩ := push_el (bytes := 16) (z := [.int .i64 0, .int .u64 0]) (x := .agg (eP ((srtE l).getD i dEn))) sM ho rfl rfl (by omega) rfl (by omega) (by omega)
    simp only [cells_agg] at e6 e7 o6
    show W _ _
    refine W_seq (W_block (W_seq (W_seqR (by simp only [runSeq_cons, runSeq_nil, evalArgs_nil, evalArgs_tmp, val1, putT, Tr.get_set_self, Tr.get_set_ne, hd _, ne_eq, Nat.reduceEqDiff, not_false_eq_true, decide_true, Nat.reduceLT, opI_move, h13, h15, p1, p2']; rfl) ?_)))
    refine W_seqR (by simp only [runSeq_cons, runSeq_nil, evalArgs_nil, evalArgs_tmp, val1, putT, Tr.get_set_self, Tr.get_set_ne, hd _, ne_eq, Nat.reduceEqDiff, not_false_eq_true, decide_true, Nat.reduceLT, opI_move, opI_fieldP, Nat.add_zero, h3, opI_nilP, LA', e6, e7]; rfl) ?_
    show W _ _
    refine W_seqR (by simp only [runSeq_cons, runSeq_nil, evalArgs_nil, evalArgs_tmp, evalArgs_const, val1, putT, Tr.get_set_self, Tr.get_set_ne, hd _, ne_eq, Nat.reduceEqDiff, not_false_eq_true, decide_true, Nat.reduceLT, opI_move, opI_add, h15]; rfl) ?_
    refine ⟨k - 1, by omega, i + 1, _, by omega, s6, .inl ?_, by ((repeat (with_reducible apply Dom.set)); exact hd), by simp only [Tr.get_set_self, Tr.get_set_ne, hd _, ne_eq, Nat.reduceEqDiff, not_false_eq_true, decide_true, Nat.reduceLT]; rfl, by simp only [Tr.get_set_ne, ne_eq, Nat.reduceEqDiff, not_false_eq_true, h13], by simp only [Tr.get_set_ne, ne_eq, Nat.reduceEqDiff, not_false_eq_true, h14], ?_⟩
    · have e : (srtE l).take (i + 1) = (srtE l).take i ++ [(srtE l).getD i dEn] := by rw [List.take_add_one, List.getElem?_eq_getElem (by omega), getD_get (by omega)]; rfl
      rw [e, List.map_append]
      exact o6
    simp only [Tr.get_set_self, Tr.get_set_ne, hd _, ne_eq, Nat.reduceEqDiff, not_false_eq_true, decide_true, Nat.reduceLT]
    rw [wrapF_small (by omega) (by omega)]; rfl
  show W _ _
  have hie : ¬ i < l.length := by simpa using hb
  refine W_seq (W_seqR (by simp only [runSeq_cons, runSeq_nil, evalArgs_nil, evalArgs_tmp, val1, putT, Tr.get_set_self, Tr.get_set_ne, hd _, ne_eq, Nat.reduceEqDiff, not_false_eq_true, decide_true, Nat.reduceLT, opI_move, h3]; rfl) (W_ret ?_))
  refine ⟨_, fin_tmp (by simp only [Tr.get_set_self, Tr.get_set_ne, hd _, ne_eq, Nat.reduceEqDiff, not_false_eq_true, decide_true, Nat.reduceLT]; try rfl), (s1.trans s2).trans sM, ?_⟩
  rw [List.take_of_length_le (by omega)] at ho
  exact ho.mono (s1.trans s2).grow.n
end
end Go.Proofs.Ytbjipmhdncfodaa.grf
