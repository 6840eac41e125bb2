/- The walks of the document's timer: May, Add, Drop, Due. -/
import Derived.Test.YtbjipmhdncfodaaTpRow
namespace Go.Proofs.Ytbjipmhdncfodaa.grf
open Go Go.Vx
abbrev eD (x : En) : List AV := [.int .i64 x.at_, .int .u64 x.task, .int .i64 x.n]
abbrev tA (v : AV) (nn now : Int) : List AV := [v, .int .i64 nn, .int .i64 now]
theorem elsD (D : List En) : Els 3 (D.map eD) := fun e he => by
  obtain ⟨x, _, rfl⟩ := List.mem_map.1 he; rfl
set_option maxHeartbeats 1000000 in
theorem refmay_ok (d : Nat) (M0 : AMem) (hok : Okg M0) (v : AV) (nn now x : Int) : Ans (callF tbl code 100000 (d + 1)) 21 [.agg (tA v nn now), .int .i64 x] M0 fun r M' => r = .int .i64 (chk x now) ∧ Step M0 M' := by
  refine Ans_of (tbl_none (by decide) _) (show code 21 = some c21 from by kernel_rfl) (by simp) fun t hd ha => ?_
  have h0 := ha 0 _ rfl
  have h1 := ha 1 _ rfl
  clear ha
  have s1 := (Step.refl hok).push (k := .cells (tA v nn now) 0 true none) (fun _ _ _ _ he => by cases he)
  have g1 := get_push_self (k := .cells (tA v nn now) 0 true none) hok.1
  refine W_seq (W_seqR (by simp only [runSeq_cons, runSeq_nil, evalArgs_nil, evalArgs_tmp, evalArgs_const, val1, putT, opI_move, opI_box, cells_agg, h0]; rfl) ?_)
  have L2 := load_own (o := 2) g1 rfl
  generalize M0.push (.cells (tA v nn now) 0 true none) = M at *
  by_cases c1 : x < 0
  · have e1 : decide (x < 0) = true := decide_eq_true c1
    refine W_seq (W_seq (W_seqR (by simp only [runSeq_cons, runSeq_nil, evalArgs_nil, evalArgs_tmp, evalArgs_const, val1, putT, Tr.get_set_self, Tr.get_set_ne, Tr.isSome_set, hd _, ne_eq, Nat.reduceEqDiff, not_false_eq_true, decide_true, Nat.reduceLT, opI_move, opI_lss, opI_pick, runSeq_guard (b := true), Bool.true_beq, h1, e1]; rfl) ?_))
    refine W_cond (b := true) (by simp only [PArg.eval, Tr.get_set_self, Tr.get_set_ne, hd _, ne_eq, Nat.reduceEqDiff, not_false_eq_true, decide_true, Nat.reduceLT]; try rfl) (fun _ => ?_) (fun hb => by cases hb)
    refine W_seq (W_seqR (by simp only [runSeq_cons, runSeq_nil, evalArgs_nil, evalArgs_const, val1, putT, opI_move]; rfl) (W_ret ?_))
    exact ⟨_, fin_tmp (by simp only [Tr.get_set_self, Tr.get_set_ne, Tr.isSome_set, Option.isSome_some, hd _, ne_eq, Nat.reduceEqDiff, not_false_eq_true, decide_true, Nat.reduceLT]; try rfl), by unfold chk; rw [if_pos (.inl c1)]; rfl, s1⟩
  have e1 : decide (x < 0) = false := decide_eq_false c1
  by_cases c2 : x > 1099511627776
  · have e2 : decide (x > 1099511627776) = true := decide_eq_true c2
    refine W_seq (W_seq (W_seqR (by simp only [runSeq_cons, runSeq_nil, evalArgs_nil, evalArgs_tmp, evalArgs_const, val1, putT, Tr.get_set_self, Tr.get_set_ne, Tr.isSome_set, hd _, ne_eq, Nat.reduceEqDiff, not_false_eq_true, decide_true, Nat.reduceLT, opI_move, opI_lss, opI_gtr, opI_pick, runSeq_guard (b := false), beq_self_eq_true, h1, e1, e2]; rfl) ?_))
    refine W_cond (b := true) (by simp only [PArg.eval, Tr.get_set_self, Tr.get_set_ne, hd _, ne_eq, Nat.reduceEqDiff, not_false_eq_true, decide_true, Nat.reduceLT]; try rfl) (fun _ => ?_) (fun hb => by cases hb)
    refine W_seq (W_seqR (by simp only [runSeq_cons, runSeq_nil, evalArgs_nil, evalArgs_const, val1, putT, opI_move]; rfl) (W_ret ?_))
    exact ⟨_, fin_tmp (by simp only [Tr.get_set_self, Tr.get_set_ne, Tr.isSome_set, Option.isSome_some, hd _, ne_eq, Nat.reduceEqDiff, not_false_eq_true, decide_true, Nat.reduceLT]; try rfl), by unfold chk; rw [if_pos (.inr c2)]; rfl, s1⟩
  have e2 : decide (x > 1099511627776) = false := decide_eq_false c2
  have hno : ¬ (x < 0 ∨ x > 1099511627776) := by omega
  refine W_seq (W_seq (W_seqR (by simp only [runSeq_cons, runSeq_nil, evalArgs_nil, evalArgs_tmp, evalArgs_const, val1, putT, Tr.get_set_self, Tr.get_set_ne, Tr.isSome_set, hd _, ne_eq, Nat.reduceEqDiff, not_false_eq_true, decide_true, Nat.reduceLT, opI_move, opI_lss, opI_gtr, opI_pick, runSeq_guard (b := false), beq_self_eq_true, h1, e1, e2]; rfl) ?_))
  refine W_cond (b := false) (by simp only [PArg.eval, Tr.get_set_self, Tr.get_set_ne, hd _, ne_eq, Nat.reduceEqDiff, not_false_eq_true, decide_true, Nat.reduceLT]; try rfl) (fun hb => by cases hb) (fun _ => W_skip ?_)
  show W _ _
  by_cases c3 : x < now
  · have e3 : decide (x < now) = true := decide_eq_true c3
    refine W_seq (W_seq (W_seqR (by simp only [runSeq_cons, runSeq_nil, evalArgs_nil, evalArgs_tmp, val1, putT, Tr.get_set_self, Tr.get_set_ne, hd _, ne_eq, Nat.reduceEqDiff, not_false_eq_true, decide_true, Nat.reduceLT, opI_move, opI_lss, opI_fieldP, Nat.zero_add, h1, L2, e3]; rfl) ?_))
    refine W_cond (b := true) (by simp only [PArg.eval, Tr.get_set_self, Tr.get_set_ne, hd _, ne_eq, Nat.reduceEqDiff, not_false_eq_true, decide_true, Nat.reduceLT]; try rfl) (fun _ => ?_) (fun hb => by cases hb)
    refine W_seq (W_seqR (by simp only [runSeq_cons, runSeq_nil, evalArgs_nil, evalArgs_const, val1, putT, opI_move]; rfl) (W_ret ?_))
    exact ⟨_, fin_tmp (by simp only [Tr.get_set_self, Tr.get_set_ne, Tr.isSome_set, Option.isSome_some, hd _, ne_eq, Nat.reduceEqDiff, not_false_eq_true, decide_true, Nat.reduceLT]; try rfl), by unfold chk; rw [if_neg hno, if_pos c3]; rfl, s1⟩
  have e3 : decide (x < now) = false := decide_eq_false c3
  refine W_seq (W_seq (W_seqR (by simp only [runSeq_cons, runSeq_nil, evalArgs_nil, evalArgs_tmp, val1, putT, Tr.get_set_self, Tr.get_set_ne, hd _, ne_eq, Nat.reduceEqDiff, not_false_eq_true, decide_true, Nat.reduceLT, opI_move, opI_lss, opI_fieldP, Nat.zero_add, h1, L2, e3]; rfl) ?_))
  refine W_cond (b := false) (by simp only [PArg.eval, Tr.get_set_self, Tr.get_set_ne, hd _, ne_eq, Nat.reduceEqDiff, not_false_eq_true, decide_true, Nat.reduceLT]; try rfl) (fun hb => by cases hb) (fun _ => W_skip ?_)
  show W _ _
  refine W_seq (W_seqR (by simp only [runSeq_cons, runSeq_nil, evalArgs_nil, evalArgs_const, val1, putT, opI_move]; rfl) (W_ret ?_))
  exact ⟨_, fin_tmp (by simp only [Tr.get_set_self, Tr.get_set_ne, Tr.isSome_set, Option.isSome_some, hd _, ne_eq, Nat.reduceEqDiff, not_false_eq_true, decide_true, Nat.reduceLT]; try rfl), by unfold chk; rw [if_neg hno, if_neg c3]; rfl, s1⟩
/-- how many at the head are no later -/
def lead (z : Int) : List En → Nat
  | [] => 0
  | x :: r => if x.at_ ≤ z then lead z r + 1 else 0
theorem lead_le (z : Int) : ∀ D : List En, lead z D ≤ D.length
  | [] => Nat.le_refl _
  | x :: r => by
    unfold lead
    split
    · have := lead_le z r; simp only [List.length_cons]; omega
    · omega
theorem lead_get (z : Int) : ∀ (D : List En) (k : Nat), k < lead z D → ∃ h : k < D.length, D[k].at_ ≤ z
  | [], k, h => by simp [lead] at h
  | x :: r, k, h => by
    unfold lead at h
    split at h
    · rename_i hx
      cases k with
      | zero => exact ⟨by simp, hx⟩
      | succ k =>
        obtain ⟨h1, h2⟩ := lead_get z r k (by omega)
        exact ⟨by simp only [List.length_cons]; omega, h2⟩
    · omega
theorem lead_stop (z : Int) : ∀ (D : List En) (h : lead z D < D.length), z < D[lead z D].at_
  | [], h => by simp [lead] at h
  | x :: r, h => by
    by_cases hx : x.at_ ≤ z
    · have e : lead z (x :: r) = lead z r + 1 := by rw [lead, if_pos hx]
      simp only [e, List.length_cons] at h ⊢
      exact lead_stop z r (by omega)
    · have e : lead z (x :: r) = 0 := by rw [lead, if_neg hx]
      simp only [e, List.getElem_cons_zero]
      omega
theorem getD_get {D : List En} {i : Nat} (h : i < D.length) : D.getD i dEn = D[i] := by rw [List.getD_eq_getElem?_getD, List.getElem?_eq_getElem h]; rfl
section
variable {M0 M : AMem} {δ : Nat} {v : AV} {D : List En}
theorem rowD_len (hv : RowN M 3 δ v (D.map eD)) : opI .lenS [v] M = some (.val (.int .i64 D.length) M) := by
  have := hv.len M
  rwa [List.length_map] at this
theorem rowD_at (hv : RowN M 3 δ v (D.map eD)) {i : Nat} (hi : i < D.length) : ∃ p, IsP p ∧ opI (.indexAddrS 3) [v, .int .i64 i] M = some (.val (padd p 0) M) ∧ opI (.load false 1) [padd p 0] M = some (.val (.int .i64 (D.getD i dEn).at_) M) ∧ opI (.load false 1) [padd p 1] M = some (.val (.int .u64 (D.getD i dEn).task) M) ∧ opI (.load false 1) [padd p 2] M = some (.val (.int .i64 (D.getD i dEn).n) M) ∧
    opI (.load true 2) [padd p 0] M = some (.val (.agg [.int .i64 (D.getD i dEn).at_, .int .u64 (D.getD i dEn).task]) M) := by
  have hi' : i < (D.map eD).length := by rw [List.length_map]; exact hi
  obtain ⟨p, h1, h2, h3, h4⟩ := hv.at_ (by omega) hi'
  have e : (D.map eD)[i] = eD (D.getD i dEn) := by rw [List.getElem_map, getD_get hi]
  rw [e] at h3 h4
  exact ⟨p, h1, h2, h4 0 _ rfl, h4 1 _ rfl, h4 2 _ rfl, h3 0 2 (by omega)⟩
theorem fin_cell3 {t : Tr AV} {M : AMem} {i j k b : Nat} {cs : List AV} {x y : AV} (h : t.get i = some (.ptr (some (b, 0)))) (hg : M.get b = some (.cells cs 0 true none)) (hl : cs.length = 3) (hj : t.get j = some x) (hk : t.get k = some y) : resIs t M [.cell i true 3, .tmp j, .tmp k] = some [.agg cs, x, y] := by
  simp only [resIs, resI, h, if_true, AMem.loadCells, hg, hj, hk]
  rw [if_pos (by omega)]
  simp [List.take_of_length_le (Nat.le_of_eq hl)]
theorem fin_cell2 {t : Tr AV} {M : AMem} {i j b : Nat} {cs : List AV} {x : AV} (h : t.get i = some (.ptr (some (b, 0)))) (hg : M.get b = some (.cells cs 0 true none)) (hl : cs.length = 3) (hj : t.get j = some x) : resIs t M [.cell i true 3, .tmp j] = some [.agg cs, x] := by
  simp only [resIs, resI, h, if_true, AMem.loadCells, hg, hj]
  rw [if_pos (by omega)]
  simp [List.take_of_length_le (Nat.le_of_eq hl)]
theorem mapT {α β : Type} (f : α → β) (l : List α) (i : Nat) : (l.map f).take i = (l.take i).map f := List.map_take.symm
theorem mapDr {α β : Type} (f : α → β) (l : List α) (i : Nat) : (l.map f).drop i = (l.drop i).map f := List.map_drop.symm
/-- the two blocks that such a call begins with -/
theorem start2 (hok : Okg M0) (v : AV) (nn now : Int) : ∃ M1, (M0.push (.cells (tA v nn now) 0 true none)).push (.cells [.slice none 0 0 false, .int .i64 0, .int .i64 0] 0 true none) = M1 ∧ Step M0 M1 ∧ M1.n = M0.n + 2 ∧ M1.get M0.n = some (.cells (tA v nn now) 0 true none) ∧ M1.get (M0.n + 1) = some (.cells [.slice none 0 0 false, .int .i64 0, .int .i64 0] 0 true none) := by
  have s1 := (Step.refl hok).push (k := .cells (tA v nn now) 0 true none) (fun _ _ _ _ he => by cases he)
  have s2 := s1.push (k := .cells [.slice none 0 0 false, .int .i64 0, .int .i64 0] 0 true none) (fun _ _ _ _ he => by cases he)
  exact ⟨_, rfl, s2, rfl, (get_push_old s1.ok.1 (show M0.n < M0.n + 1 by omega)).trans (get_push_self hok.1), get_push_self s1.ok.1⟩
/-- how such a call ends: what it tells is laid into its block -/
theorem end2 {M1 : AMem} (s1 : Step M0 M1) (hn : M1.n = M0.n + 2) (s : Step M1 M) (g6 : M1.get (M0.n + 1) = some (.cells [.slice none 0 0 false, .int .i64 0, .int .i64 0] 0 true none)) {v : AV} (hv : v.one = true) (nn now : Int) :
    ∃ M', opI (.store 3) [.ptr (some (M0.n + 1, 0)), .agg (tA v nn now)] M = some (.val (.tuple []) M') ∧ Step M0 M' ∧ M'.get (M0.n + 1) = some (.cells (tA v nn now) 0 true none) ∧ ∀ c, c ≠ M0.n + 1 → M'.get c = M.get c := by
  have g6' := (s.grow.get _ (by omega)).trans g6
  obtain ⟨e, s', g', k'⟩ := store_all (n := 3) (new := tA v nn now) (s1.trans s) (by omega) g6' rfl rfl (by simp only [List.all_cons, hv]; rfl)
  exact ⟨_, e, s', g', k'⟩
theorem OwnE.keep {A B M' : AMem} {sz : Nat} {v : AV} {els : List (List AV)} {b : Nat} (h : OwnE A B sz v els) (hb : b < A.n) (hk : ∀ c, c ≠ b → M'.get c = B.get c) : OwnE A M' sz v els := by
  obtain ⟨c, gr, sz', g, rfl, h1, h2, h3⟩ := h
  exact ⟨c, gr, sz', g, rfl, h1, (hk c (by omega)).trans h2, h3⟩
theorem RowN.keep {B M' : AMem} {sz δ : Nat} {v : AV} {els : List (List AV)} {b : Nat} (h : RowN B sz δ v els) (hn : M'.n = B.n) (hb : ∀ k, B.get b = some k → gid b k ≠ δ) (hk : ∀ c, c ≠ b → M'.get c = B.get c) : RowN M' sz δ v els := by
  refine h.frame (ids := fun i => ∃ k, B.get b = some k ∧ gid b k = i) (fun c k hc hi => ?_) (fun ⟨k, h1, h2⟩ => hb k h1 h2) (by omega)
  by_cases hcb : c = b
  · subst hcb; exact absurd ⟨k, hc, rfl⟩ hi
  · rw [hk c hcb, hc]
theorem lit3 {M1 M : AMem} {sz : Nat} (h : Step M1 M) : opI (.sliceLit 0 [] []) [] M = some (.val (.slice (some (M.n, 0)) 0 0 false) (M.push (.cells [] 0 true none))) ∧ Step M1 (M.push (.cells [] 0 true none)) ∧ OwnE M1 (M.push (.cells [] 0 true none)) sz (.slice (some (M.n, 0)) 0 0 false) [] :=
  ⟨rfl, h.push (fun _ _ _ _ he => by cases he), M.n, false, 0, none, rfl, h.grow.n, get_push_self h.ok.1, (fun he => by cases he), (fun g' he => by cases he), (fun e he => by simp at he), rfl⟩
theorem build3 {M : AMem} {v : AV} {a b : Int} (h : v.cells = [v]) : opI (.build [.slice none 0 0 false, .int .i64 0, .int .i64 0] [(0, 1), (1, 1), (2, 1)]) [v, .int .i64 a, .int .i64 b] M = some (.val (.agg (tA v a b)) M) := by
  simp only [opI, fillA, h]
  rfl
set_option maxRecDepth 20000 in
set_option maxHeartbeats 8000000 in
theorem refadd_ok (d : Nat) (hok : Okg M0) (hv : RowN M0 3 δ v (D.map eD)) (nn now at_ task : Int) (hl : D.length < 1000) (hnn : 0 ≤ nn ∧ nn ≤ 100000) : Ans (callF tbl code 100000 (d + 2)) 12 [.agg (tA v nn now), .int .i64 at_, .int .u64 task] M0 fun r M' => Step M0 M' ∧
    ((chk at_ now = 0 ∧ ∃ v', r = .tuple [.agg (tA v' (nn + 1) now), .int .i64 nn, .int .i64 0] ∧ OwnE M0 M' 3 v' ((D.take (lead at_ D) ++ [En.mk at_ task nn 0] ++ D.drop (lead at_ D)).map eD)) ∨ (chk at_ now ≠ 0 ∧ r = .tuple [.agg (tA v nn now), .int .i64 0, .int .i64 (chk at_ now)])) := by
  refine Ans_of (tbl_none (by decide) _) (show code 12 = some c12 from by kernel_rfl) (by simp) fun t hd ha => ?_
  have h0 := ha 0 _ rfl
  have h1 := ha 1 _ rfl
  have h2 := ha 2 _ rfl
  clear ha
  obtain ⟨M1, e1, s1, n1, g3, g6⟩ := start2 hok v nn now
  have hvo := hv.one
  refine W_seq (W_seqR (by simp only [runSeq_cons, runSeq_nil, evalArgs_nil, evalArgs_tmp, evalArgs_const, val1, putT, opI_move, opI_new, opI_box, cells_agg, push_n, h0, e1]; rfl) ?_)
  have hv1 := hv.grow hok.1 s1.grow
  have L3 := loads_own (o := 0) (n := 3) g3 (by simp)
  rw [List.drop_zero, List.take_of_length_le (by simp)] at L3
  obtain ⟨_, M2, c1, rfl, s2⟩ := refmay_ok d M1 s1.ok v nn now at_
  refine W_seq (W_seq (W_seqR (by simp only [runSeq_cons, runSeq_nil, evalArgs_nil, evalArgs_tmp, val1, putT, Tr.get_set_self, Tr.get_set_ne, hd _, ne_eq, Nat.reduceEqDiff, not_false_eq_true, decide_true, Nat.reduceLT, opI_move, opI_callF, h1, L3, c1]; rfl) ?_))
  by_cases c0 : chk at_ now = 0
  rotate_left
  · have ec : (chk at_ now != 0) = true := by simpa using c0
    refine W_seq (W_seqR (by simp only [runSeq_cons, runSeq_nil, evalArgs_nil, evalArgs_tmp, evalArgs_const, val1, putT, Tr.get_set_self, Tr.get_set_ne, hd _, ne_eq, Nat.reduceEqDiff, not_false_eq_true, decide_true, Nat.reduceLT, opI_move, opI_neq, ec]; rfl) ?_)
    refine W_cond (b := true) (by simp only [PArg.eval, Tr.get_set_self, Tr.get_set_ne, hd _, ne_eq, Nat.reduceEqDiff, not_false_eq_true, decide_true, Nat.reduceLT]; try rfl) (fun _ => ?_) (fun hb => by cases hb)
    have g3' := (s2.grow.get _ (by omega)).trans g3
    have L3' := loads_own (o := 0) (n := 3) g3' (by simp)
    rw [List.drop_zero, List.take_of_length_le (by simp)] at L3'
    obtain ⟨M3, e3, s3, g6', _⟩ := end2 s1 n1 s2 g6 hvo.1 nn now
    refine W_seq (W_seqR (by simp only [runSeq_cons, runSeq_nil, evalArgs_nil, evalArgs_tmp, evalArgs_const, val1, putT, Tr.get_set_self, Tr.get_set_ne, hd _, ne_eq, Nat.reduceEqDiff, not_false_eq_true, decide_true, Nat.reduceLT, opI_move, L3', e3]; rfl) (W_ret ?_))
    exact ⟨_, fin_cell3 (by simp only [Tr.get_set_self, Tr.get_set_ne, hd _, ne_eq, Nat.reduceEqDiff, not_false_eq_true, decide_true, Nat.reduceLT]; try rfl) g6' rfl (by simp only [Tr.get_set_self, Tr.get_set_ne, Tr.isSome_set, Option.isSome_some, hd _, ne_eq, Nat.reduceEqDiff, not_false_eq_true, decide_true, Nat.reduceLT]; try rfl) (by simp only [Tr.get_set_self, Tr.get_set_ne, Tr.isSome_set, Option.isSome_some, hd _, ne_eq, Nat.reduceEqDiff, not_false_eq_true, decide_true, Nat.reduceLT]; try rfl), s3, .inr ⟨c0, rfl⟩⟩
  have ec : (chk at_ now != 0) = false := by simpa using c0
  refine W_seq (W_seqR (by simp only [runSeq_cons, runSeq_nil, evalArgs_nil, evalArgs_tmp, evalArgs_const, val1, putT, Tr.get_set_self, Tr.get_set_ne, hd _, ne_eq, Nat.reduceEqDiff, not_false_eq_true, decide_true, Nat.reduceLT, opI_move, opI_neq, ec]; rfl) ?_)
  refine W_cond (b := false) (by simp only [PArg.eval, Tr.get_set_self, Tr.get_set_ne, hd _, ne_eq, Nat.reduceEqDiff, not_false_eq_true, decide_true, Nat.reduceLT]; try rfl) (fun hb => by cases hb) (fun _ => W_skip ?_)
  show W _ _
  have g3' := (s2.grow.get _ (by omega)).trans g3
  have hv2 := hv1.grow s1.ok.1 s2.grow
  have L0 := load_own (o := 0) g3' rfl
  have lD := rowD_len hv2
  refine W_seq (W_seqR (by simp only [runSeq_cons, runSeq_nil, evalArgs_nil, evalArgs_const, val1, putT, opI_move]; rfl) ?_)
  refine W_seq (W_block (W_loop (fun k t M' => ∃ (i : Nat), k + i = D.length ∧ i ≤ lead at_ D ∧ M' = M2 ∧ Dom t 67 ∧ t.get 1 = some (.int .i64 at_) ∧ t.get 2 = some (.int .u64 task) ∧ t.get 3 = some (.ptr (some (M0.n, 0))) ∧ t.get 6 = some (.ptr (some (M0.n + 1, 0))) ∧ t.get 10 = some (.int .i64 i)) (k := D.length) (by omega) ?_ ?_))
  · exact ⟨0, rfl, Nat.zero_le _, rfl, by ((repeat (with_reducible apply Dom.set)); exact hd), by simp only [Tr.get_set_ne, ne_eq, Nat.reduceEqDiff, not_false_eq_true, h1], by simp only [Tr.get_set_ne, ne_eq, Nat.reduceEqDiff, not_false_eq_true, h2], by simp only [Tr.get_set_self, Tr.get_set_ne, hd _, ne_eq, Nat.reduceEqDiff, not_false_eq_true, decide_true, Nat.reduceLT], by simp only [Tr.get_set_self, Tr.get_set_ne, hd _, ne_eq, Nat.reduceEqDiff, not_false_eq_true, decide_true, Nat.reduceLT], by simp only [Tr.get_set_self, Tr.get_set_ne, hd _, ne_eq, Nat.reduceEqDiff, not_false_eq_true, decide_true, Nat.reduceLT]; rfl⟩
  clear h0 h1 h2 hd
  intro k t M' ⟨i, hk, hi, hM, hd, h1, h2, h3, h6, h10⟩
  subst hM
  have hll := lead_le at_ D
  refine W_seq (W_seq (W_seqX (fun t' M'' => M'' = M' ∧ Dom t' 67 ∧ t'.get 1 = some (.int .i64 at_) ∧ t'.get 2 = some (.int .u64 task) ∧ t'.get 3 = some (.ptr (some (M0.n, 0))) ∧ t'.get 6 = some (.ptr (some (M0.n + 1, 0))) ∧ t'.get 10 = some (.int .i64 i) ∧ t'.get 34 = some (.bool (decide (i < lead at_ D)))) ?_ ?_))
  · by_cases hi1 : i < D.length
    · have g1 : decide ((i : Int) < D.length) = true := decide_eq_true (by omega)
      obtain ⟨p, pp, p1, p2, _⟩ := rowD_at hv2 hi1
      have q1 := opI_fieldQ (M := M') (a := 0) (o := 0) pp
      by_cases hlt : i < lead at_ D
      · have g2 : decide ((D.getD i dEn).at_ ≤ at_) = true := by
          obtain ⟨h, h'⟩ := lead_get at_ D i hlt
          rw [getD_get h]; exact decide_eq_true h'
        have g3 : decide (i < lead at_ D) = true := decide_eq_true hlt
        rw [g3]
        exact ⟨_, _, (by simp only [runSeq_cons, runSeq_nil, evalArgs_nil, evalArgs_tmp, evalArgs_const, val1, putT, Tr.get_set_self, Tr.get_set_ne, Tr.isSome_set, hd _, ne_eq, Nat.reduceEqDiff, not_false_eq_true, decide_true, Nat.reduceLT, opI_move, opI_lss, opI_leq, opI_fieldP, opI_pick, Nat.add_zero, runSeq_guard (b := true), beq_self_eq_true, h1, h3, h10, L0, lD, g1, p1, p2, q1, g2]; rfl), rfl, by ((repeat (with_reducible apply Dom.set)); exact hd), by simp only [Tr.get_set_ne, ne_eq, Nat.reduceEqDiff, not_false_eq_true, h1], by simp only [Tr.get_set_ne, ne_eq, Nat.reduceEqDiff, not_false_eq_true, h2], by simp only [Tr.get_set_ne, ne_eq, Nat.reduceEqDiff, not_false_eq_true, h3], by simp only [Tr.get_set_ne, ne_eq, Nat.reduceEqDiff, not_false_eq_true, h6], by simp only [Tr.get_set_ne, ne_eq, Nat.reduceEqDiff, not_false_eq_true, h10], by simp only [Tr.get_set_self, Tr.get_set_ne, hd _, ne_eq, Nat.reduceEqDiff, not_false_eq_true, decide_true, Nat.reduceLT]⟩
      · have hie : i = lead at_ D := by omega
        have g2 : decide ((D.getD i dEn).at_ ≤ at_) = false := by
          have h' := lead_stop at_ D (by omega)
          rw [getD_get hi1]
          refine decide_eq_false ?_
          subst hie; omega
        have g3 : decide (i < lead at_ D) = false := decide_eq_false hlt
        rw [g3]
        exact ⟨_, _, (by simp only [runSeq_cons, runSeq_nil, evalArgs_nil, evalArgs_tmp, evalArgs_const, val1, putT, Tr.get_set_self, Tr.get_set_ne, Tr.isSome_set, hd _, ne_eq, Nat.reduceEqDiff, not_false_eq_true, decide_true, Nat.reduceLT, opI_move, opI_lss, opI_leq, opI_fieldP, opI_pick, Nat.add_zero, runSeq_guard (b := true), beq_self_eq_true, h1, h3, h10, L0, lD, g1, p1, p2, q1, g2]; rfl), rfl, by ((repeat (with_reducible apply Dom.set)); exact hd), by simp only [Tr.get_set_ne, ne_eq, Nat.reduceEqDiff, not_false_eq_true, h1], by simp only [Tr.get_set_ne, ne_eq, Nat.reduceEqDiff, not_false_eq_true, h2], by simp only [Tr.get_set_ne, ne_eq, Nat.reduceEqDiff, not_false_eq_true, h3], by simp only [Tr.get_set_ne, ne_eq, Nat.reduceEqDiff, not_false_eq_true, h6], by simp only [Tr.get_set_ne, ne_eq, Nat.reduceEqDiff, not_false_eq_true, h10], by simp only [Tr.get_set_self, Tr.get_set_ne, hd _, ne_eq, Nat.reduceEqDiff, not_false_eq_true, decide_true, Nat.reduceLT]⟩
    · have g1 : decide ((i : Int) < D.length) = false := decide_eq_false (by omega)
      have g3 : decide (i < lead at_ D) = false := decide_eq_false (by omega)
      rw [g3]
      exact ⟨_, _, (by simp only [runSeq_cons, runSeq_nil, evalArgs_nil, evalArgs_tmp, evalArgs_const, val1, putT, Tr.get_set_self, Tr.get_set_ne, Tr.isSome_set, hd _, ne_eq, Nat.reduceEqDiff, not_false_eq_true, decide_true, Nat.reduceLT, opI_move, opI_lss, opI_fieldP, opI_pick, Nat.add_zero, runSeq_guard (b := false), Bool.false_beq, Bool.not_true, h3, h10, L0, lD, g1]; rfl), rfl, by ((repeat (with_reducible apply Dom.set)); exact hd), by simp only [Tr.get_set_ne, ne_eq, Nat.reduceEqDiff, not_false_eq_true, h1], by simp only [Tr.get_set_ne, ne_eq, Nat.reduceEqDiff, not_false_eq_true, h2], by simp only [Tr.get_set_ne, ne_eq, Nat.reduceEqDiff, not_false_eq_true, h3], by simp only [Tr.get_set_ne, ne_eq, Nat.reduceEqDiff, not_false_eq_true, h6], by simp only [Tr.get_set_ne, ne_eq, Nat.reduceEqDiff, not_false_eq_true, h10], by simp only [Tr.get_set_self, Tr.get_set_ne, hd _, ne_eq, Nat.reduceEqDiff, not_false_eq_true, decide_true, Nat.reduceLT]⟩
  clear hd h1 h2 h3 h6 h10 t
  rintro t _ ⟨rfl, hd, h1, h2, h3, h6, h10, h34⟩
  rename_i M'
  refine W_cond (b := decide (i < lead at_ D)) h34 (fun hb => W_skip ?_) (fun hb => W_exit ?_)
  · have hlt : i < lead at_ D := by simpa using hb
    show W _ _
    refine W_block ?_
    refine W_seqR (by simp only [runSeq_cons, runSeq_nil, evalArgs_nil, evalArgs_tmp, evalArgs_const, val1, putT, Tr.get_set_self, Tr.get_set_ne, hd _, ne_eq, Nat.reduceEqDiff, not_false_eq_true, decide_true, Nat.reduceLT, opI_move, opI_add, h10]; rfl) ?_
    refine ⟨k - 1, by omega, i + 1, by omega, by omega, rfl, by ((repeat (with_reducible apply Dom.set)); exact hd), by simp only [Tr.get_set_ne, ne_eq, Nat.reduceEqDiff, not_false_eq_true, h1], by simp only [Tr.get_set_ne, ne_eq, Nat.reduceEqDiff, not_false_eq_true, h2], by simp only [Tr.get_set_ne, ne_eq, Nat.reduceEqDiff, not_false_eq_true, h3], by simp only [Tr.get_set_ne, ne_eq, Nat.reduceEqDiff, not_false_eq_true, h6], ?_⟩
    simp only [Tr.get_set_self, Tr.get_set_ne, hd _, ne_eq, Nat.reduceEqDiff, not_false_eq_true, decide_true, Nat.reduceLT]
    rw [wrapF_small (by omega) (by omega)]; rfl
  have hie : i = lead at_ D := by
    have : ¬ i < lead at_ D := by simpa using hb
    omega
  show W _ _
  obtain ⟨e4, s4, o4⟩ := lit3 (sz := 3) s2
  have gr4 : Grow M' (M'.push (.cells [] 0 true none)) := Grow.push s2.ok.1 _
  have hv4 := hv2.grow s2.ok.1 gr4
  have L4 := load_own (o := 0) ((s4.grow.get _ (by omega)).trans g3) rfl
  obtain ⟨w5, t5, hw5⟩ := hv4.take (k := i) (by rw [List.length_map]; omega)
  generalize M'.push (.cells [] 0 true none) = M4 at *
  generalize AV.slice (some (M'.n, 0)) 0 0 false = r4 at *
  obtain ⟨r5, M5, e5, s5, o5, n5⟩ := append_anyE (bytes := 24) s4 o4 hw5 (by omega) (by simp; omega) (by simp; omega)
  refine W_seq (W_seqR (by simp only [runSeq_cons, runSeq_nil, evalArgs_nil, evalArgs_tmp, val1, putT, Tr.get_set_self, Tr.get_set_ne, hd _, ne_eq, Nat.reduceEqDiff, not_false_eq_true, decide_true, Nat.reduceLT, opI_move, opI_fieldP, Nat.add_zero, h3, h10, e4, L4, t5, e5]; rfl) ?_)
  rw [List.nil_append, mapT] at o5
  have g3_5 := (s5.grow.get _ (by omega)).trans g3
  have L5 := load_own (o := 1) g3_5 rfl
  have b1 : opI (.build [.int .i64 0, .int .u64 0] [(0, 1), (1, 1)]) [.int .i64 at_, .int .u64 task] M5 = some (.val (.agg [.int .i64 at_, .int .u64 task]) M5) := rfl
  have b2 : opI (.build [.int .i64 0, .int .u64 0, .int .i64 0] [(0, 2), (2, 1)]) [.agg [.int .i64 at_, .int .u64 task], .int .i64 nn] M5 = some (.val (.agg (eD ⟨at_, task, nn, 0⟩)) M5) := rfl
  have hl5 : ((D.take i).map eD).length ≤ 1000 := by rw [List.length_map, List.length_take]; omega
  obtain ⟨M6, _, e6, e7, s6, o6, _, n6, _⟩ := push_el (bytes := 24) (z := [.int .i64 0, .int .u64 0, .int .i64 0]) (x := .agg (eD ⟨at_, task, nn, 0⟩)) s5 (.inl o5) rfl rfl (by omega) rfl (by omega) (by omega)
  simp only [cells_agg] at e6 e7 o6
  refine W_seq (W_seqR (by simp only [runSeq_cons, runSeq_nil, evalArgs_nil, evalArgs_tmp, val1, putT, Tr.get_set_self, Tr.get_set_ne, hd _, ne_eq, Nat.reduceEqDiff, not_false_eq_true, decide_true, Nat.reduceLT, opI_move, opI_fieldP, Nat.zero_add, h1, h2, h3, L5, b1, b2, e6, e7]; rfl) ?_)
  generalize AV.slice (some (M5.n + 1, 0)) _ _ true = r6 at *
  have g3_6 := (s6.grow.get _ (by omega)).trans g3
  have L6 := load_own (o := 0) g3_6 rfl
  have hv6 := (hv.grow hok.1 (s1.trans s6).grow)
  obtain ⟨w7, t7, hw7⟩ := hv6.drop (k := i) (by rw [List.length_map]; omega)
  have hl6 : (((D.take i).map eD) ++ [eD ⟨at_, task, nn, 0⟩]).length ≤ 2000 := by rw [List.length_append, List.length_singleton]; omega
  obtain ⟨r8, M8, e8, s8, o8, n8⟩ := append_anyE (bytes := 24) s6 o6 hw7 (by omega) (by rw [List.length_drop, List.length_map]; omega) (by rw [List.length_drop, List.length_map]; omega)
  refine W_seq (W_seqR (by simp only [runSeq_cons, runSeq_nil, evalArgs_nil, evalArgs_tmp, val1, putT, Tr.get_set_self, Tr.get_set_ne, Tr.isSome_set, Option.isSome_some, hd _, ne_eq, Nat.reduceEqDiff, not_false_eq_true, decide_true, Nat.reduceLT, opI_move, opI_fieldP, Nat.add_zero, h3, h10, L6, t7, e8]; rfl) ?_)
  have g3_8 := (s8.grow.get _ (by omega)).trans g3
  have La := load_own (o := 1) g3_8 rfl
  have Lb := load_own (o := 2) g3_8 rfl
  have wn : wrapF .i64 (nn + 1) = nn + 1 := wrapF_any (by omega) (by omega)
  have hr8 : r8.one = true := by
    obtain ⟨_, _, _, _, rfl, _⟩ := o8; rfl
  have hr8c : r8.cells = [r8] := by
    obtain ⟨_, _, _, _, rfl, _⟩ := o8; rfl
  have b9 : opI (.build [.slice none 0 0 false, .int .i64 0, .int .i64 0] [(0, 1), (1, 1), (2, 1)]) [r8, .int .i64 (nn + 1), .int .i64 now] M8 = some (.val (.agg (tA r8 (nn + 1) now)) M8) := build3 hr8c
  obtain ⟨M9, e9, s9, g9, k9⟩ := end2 s1 n1 s8 g6 hr8 (nn + 1) now
  have q0 := held_none s8.ok.1
  have La9 := load_own (o := 1) ((k9 M0.n (by omega)).trans g3_8) rfl
  refine W_seq (W_trace (M' := M9) rfl (by simp only [sameN_self, evalArgs_nil, evalArgs_tmp, evalArgs_const, val1, putT, Tr.get_set_self, Tr.get_set_ne, Tr.isSome_set, Option.isSome_some, hd _, ne_eq, Nat.reduceEqDiff, not_false_eq_true, decide_true, Nat.reduceLT, opI_move, opI_add, opI_fieldP, Nat.zero_add, trace_nil, trace_read, trace_eff, addR_some, addE_some, Bool.false_and, h3, h6, La, Lb, wn, b9, e9, q0]; rfl) (by simp [checkRec, isLoad, sameAt, La, La9, AV.beq]) rfl (W_ret ?_))
  refine ⟨_, fin_cell3 (by simp only [Tr.get_set_ne, ne_eq, Nat.reduceEqDiff, not_false_eq_true, h6]) g9 rfl (by simp only [Tr.get_set_self, Tr.get_set_ne, hd _, ne_eq, Nat.reduceEqDiff, not_false_eq_true, decide_true, Nat.reduceLT]; try rfl) (by simp only [Tr.get_set_self, Tr.get_set_ne, hd _, ne_eq, Nat.reduceEqDiff, not_false_eq_true, decide_true, Nat.reduceLT]; try rfl), s9, .inl ⟨c0, r8, rfl, ?_⟩⟩
  have := (OwnE.keep o8 (b := M0.n + 1) (by omega) k9).mono (A := M0) (by omega)
  rw [← hie, List.map_append, List.map_append, ← mapDr]
  exact this
set_option maxRecDepth 20000 in
set_option maxHeartbeats 8000000 in
theorem refdrop_ok (d : Nat) (hok : Okg M0) (hv : RowN M0 3 δ v (D.map eD)) (nn now n : Int) (hl : D.length < 1000) : Ans (callF tbl code 100000 (d + 1)) 13 [.agg (tA v nn now), .int .i64 n] M0 fun r M' => Step M0 M' ∧
    ((∃ i v', i < D.length ∧ (D.getD i dEn).n = n ∧ r = .tuple [.agg (tA v' nn now), .int .i64 0] ∧ OwnE M0 M' 3 v' ((D.take i ++ D.drop (i + 1)).map eD)) ∨ ((∀ i, i < D.length → (D.getD i dEn).n ≠ n) ∧ r = .tuple [.agg (tA v nn now), .int .i64 15])) := by
  refine Ans_of (tbl_none (by decide) _) (show code 13 = some c13 from by kernel_rfl) (by simp) fun t hd ha => ?_
  have h0 := ha 0 _ rfl
  have h1 := ha 1 _ rfl
  clear ha
  obtain ⟨M1, e1, s1, n1, g3, g6⟩ := start2 hok v nn now
  have hvo := hv.one
  refine W_seq (W_seqR (by simp only [runSeq_cons, runSeq_nil, evalArgs_nil, evalArgs_tmp, evalArgs_const, val1, putT, opI_move, opI_new, opI_box, cells_agg, push_n, h0, e1]; rfl) ?_)
  have hv1 := hv.grow hok.1 s1.grow
  have L0 := load_own (o := 0) g3 rfl
  have lD := rowD_len hv1
  refine W_seq (W_seq (W_seqR (by simp only [runSeq_cons, runSeq_nil, evalArgs_nil, evalArgs_const, val1, putT, opI_move]; rfl) (W_block (W_loop (fun k t M' => ∃ (i : Nat), k + i = D.length ∧ (∀ j, j < i → (D.getD j dEn).n ≠ n) ∧ M' = M1 ∧ Dom t 42 ∧ t.get 1 = some (.int .i64 n) ∧ t.get 2 = some (.ptr (some (M0.n, 0))) ∧ t.get 4 = some (.ptr (some (M0.n + 1, 0))) ∧ t.get 6 = some (.int .i64 i)) (k := D.length) (by omega) ?_ ?_))))
  · exact ⟨0, rfl, fun j hj => by omega, rfl, by ((repeat (with_reducible apply Dom.set)); exact hd), by simp only [Tr.get_set_ne, ne_eq, Nat.reduceEqDiff, not_false_eq_true, h1], by simp only [Tr.get_set_self, Tr.get_set_ne, hd _, ne_eq, Nat.reduceEqDiff, not_false_eq_true, decide_true, Nat.reduceLT], by simp only [Tr.get_set_self, Tr.get_set_ne, hd _, ne_eq, Nat.reduceEqDiff, not_false_eq_true, decide_true, Nat.reduceLT], by simp only [Tr.get_set_self, Tr.get_set_ne, hd _, ne_eq, Nat.reduceEqDiff, not_false_eq_true, decide_true, Nat.reduceLT]; rfl⟩
  clear h0 h1 hd
  intro k t M' ⟨i, hk, hno, hM, hd, h1, h2, h4, h6⟩
  subst hM
  refine W_seq (W_seq (W_seqR (by simp only [runSeq_cons, runSeq_nil, evalArgs_nil, evalArgs_tmp, val1, putT, Tr.get_set_self, Tr.get_set_ne, hd _, ne_eq, Nat.reduceEqDiff, not_false_eq_true, decide_true, Nat.reduceLT, opI_move, opI_lss, opI_fieldP, Nat.add_zero, h2, h6, L0, lD]; rfl) ?_))
  refine W_cond (by simp only [PArg.eval, Tr.get_set_self, Tr.get_set_ne, hd _, ne_eq, Nat.reduceEqDiff, not_false_eq_true, decide_true, Nat.reduceLT]; rfl) (fun hb => W_skip ?_) (fun hb => ?_)
  · have hi : i < D.length := by simpa using hb
    obtain ⟨p, pp, p1, _, _, p2, _⟩ := rowD_at hv1 hi
    have q1 := opI_fieldQ (M := M') (a := 0) (o := 2) pp
    show W _ _
    refine W_seq (W_block ?_)
    by_cases hin : (D.getD i dEn).n = n
    · have g1 : ((D.getD i dEn).n == n) = true := by simpa using hin
      refine W_seq (W_seqR (by simp only [runSeq_cons, runSeq_nil, evalArgs_nil, evalArgs_tmp, val1, putT, Tr.get_set_self, Tr.get_set_ne, hd _, ne_eq, Nat.reduceEqDiff, not_false_eq_true, decide_true, Nat.reduceLT, opI_move, opI_eql, opI_fieldP, Nat.zero_add, Nat.add_zero, h1, h2, h6, L0, p1, q1, p2, g1]; rfl) ?_)
      refine W_cond (b := true) (by simp only [PArg.eval, Tr.get_set_self, Tr.get_set_ne, hd _, ne_eq, Nat.reduceEqDiff, not_false_eq_true, decide_true, Nat.reduceLT]; try rfl) (fun _ => ?_) (fun hb => by cases hb)
      obtain ⟨e4, s4, o4⟩ := lit3 (sz := 3) (Step.refl s1.ok)
      have gr4 : Grow M' (M'.push (.cells [] 0 true none)) := Grow.push s1.ok.1 _
      have hv4 := hv1.grow s1.ok.1 gr4
      have L4 := load_own (o := 0) ((s4.grow.get _ (by omega)).trans g3) rfl
      obtain ⟨w5, t5, hw5⟩ := hv4.take (k := i) (by rw [List.length_map]; omega)
      generalize M'.push (.cells [] 0 true none) = M4 at *
      generalize AV.slice (some (M'.n, 0)) 0 0 false = r4 at *
      obtain ⟨r5, M5, e5, s5, o5, n5⟩ := append_anyE (bytes := 24) s4 o4 hw5 (by omega) (by simp; omega) (by simp; omega)
      refine W_seq (W_seqR (by simp only [runSeq_cons, runSeq_nil, evalArgs_nil, evalArgs_tmp, val1, putT, Tr.get_set_self, Tr.get_set_ne, hd _, ne_eq, Nat.reduceEqDiff, not_false_eq_true, decide_true, Nat.reduceLT, opI_move, opI_fieldP, Nat.add_zero, h2, h6, e4, L4, t5, e5]; rfl) ?_)
      rw [List.nil_append, mapT] at o5
      have g3_5 := (s5.grow.get _ (by omega)).trans g3
      have L5 := load_own (o := 0) g3_5 rfl
      have hv5 := hv1.grow s1.ok.1 s5.grow
      obtain ⟨w7, t7, hw7⟩ := hv5.drop (k := i + 1) (by rw [List.length_map]; omega)
      have hl5 : ((D.take i).map eD).length ≤ 1000 := by rw [List.length_map, List.length_take]; omega
      obtain ⟨r8, M8, e8, s8, o8, n8⟩ := append_anyE (bytes := 24) s5 o5 hw7 (by omega) (by simp only [List.length_drop, List.length_map, List.length_take]; omega) (by simp only [List.length_drop, List.length_map, List.length_take]; omega)
      have g3_8 := (s8.grow.get _ (by omega)).trans g3
      have La5 := load_own (o := 1) g3_5 rfl
      have Lb5 := load_own (o := 2) g3_5 rfl
      have La := load_own (o := 1) g3_8 rfl
      have Lb := load_own (o := 2) g3_8 rfl
      have wn : wrapF .i64 ((i : Int) + 1) = ((i + 1 : Nat) : Int) := by rw [wrapF_small (by omega) (by omega)]; rfl
      have hr8 : r8.one = true := by
        obtain ⟨_, _, _, _, rfl, _⟩ := o8; rfl
      have hr8c : r8.cells = [r8] := by
        obtain ⟨_, _, _, _, rfl, _⟩ := o8; rfl
      have b9 : opI (.build [.slice none 0 0 false, .int .i64 0, .int .i64 0] [(0, 1), (1, 1), (2, 1)]) [r8, .int .i64 nn, .int .i64 now] M8 = some (.val (.agg (tA r8 nn now)) M8) := build3 hr8c
      obtain ⟨M9, e9, s9, g9, k9⟩ := end2 s1 n1 s8 g6 hr8 nn now
      have q0 := held_none s5.ok.1
      have q8 : isHeld (M8.get M5.n) = false := s8.nh _ (by have := s5.grow.n; omega)
      refine W_seq (W_trace (M' := M9) rfl (by simp only [sameN_self, evalArgs_nil, evalArgs_tmp, evalArgs_const, val1, putT, Tr.get_set_self, Tr.get_set_ne, hd _, ne_eq, Nat.reduceEqDiff, not_false_eq_true, decide_true, Nat.reduceLT, opI_move, opI_add, opI_fieldP, Nat.zero_add, Nat.add_zero, trace_nil, trace_read, trace_eff, addR_some, addE_some, Bool.false_and, Bool.and_true, Bool.not_false, h2, h4, h6, L5, t7, e8, La, Lb, wn, b9, e9, q0, q8]; rfl) (by simp [checkRec, isLoad, sameAt, La, La5, Lb, Lb5, AV.beq]) rfl (W_ret ?_))
      refine ⟨_, fin_cell2 (by simp only [Tr.get_set_ne, ne_eq, Nat.reduceEqDiff, not_false_eq_true, h4]) g9 rfl (by simp only [Tr.get_set_self, Tr.get_set_ne, hd _, ne_eq, Nat.reduceEqDiff, not_false_eq_true, decide_true, Nat.reduceLT]; try rfl), s9, .inl ⟨i, r8, hi, hin, rfl, ?_⟩⟩
      have := (OwnE.keep o8 (b := M0.n + 1) (by omega) k9).mono (A := M0) (by omega)
      rw [List.map_append, ← mapDr]
      exact this
    · have g1 : ((D.getD i dEn).n == n) = false := by simpa using hin
      refine W_seq (W_seqR (by simp only [runSeq_cons, runSeq_nil, evalArgs_nil, evalArgs_tmp, val1, putT, Tr.get_set_self, Tr.get_set_ne, hd _, ne_eq, Nat.reduceEqDiff, not_false_eq_true, decide_true, Nat.reduceLT, opI_move, opI_eql, opI_fieldP, Nat.zero_add, Nat.add_zero, h1, h2, h6, L0, p1, q1, p2, g1]; rfl) ?_)
      refine W_cond (b := false) (by simp only [PArg.eval, Tr.get_set_self, Tr.get_set_ne, hd _, ne_eq, Nat.reduceEqDiff, not_false_eq_true, decide_true, Nat.reduceLT]; try rfl) (fun hb => by cases hb) (fun _ => W_skip ?_)
      show W _ _
      refine W_seqR (by simp only [runSeq_cons, runSeq_nil, evalArgs_nil, evalArgs_tmp, evalArgs_const, val1, putT, Tr.get_set_self, Tr.get_set_ne, hd _, ne_eq, Nat.reduceEqDiff, not_false_eq_true, decide_true, Nat.reduceLT, opI_move, opI_add, h6]; rfl) ?_
      refine ⟨k - 1, by omega, i + 1, by omega, fun j hj => ?_, rfl, by ((repeat (with_reducible apply Dom.set)); exact hd), by simp only [Tr.get_set_ne, ne_eq, Nat.reduceEqDiff, not_false_eq_true, h1], by simp only [Tr.get_set_ne, ne_eq, Nat.reduceEqDiff, not_false_eq_true, h2], by simp only [Tr.get_set_ne, ne_eq, Nat.reduceEqDiff, not_false_eq_true, h4], ?_⟩
      · rcases Nat.lt_or_ge j i with h | h
        · exact hno j h
        · rw [show j = i by omega]; exact hin
      simp only [Tr.get_set_self, Tr.get_set_ne, hd _, ne_eq, Nat.reduceEqDiff, not_false_eq_true, decide_true, Nat.reduceLT]
      rw [wrapF_small (by omega) (by omega)]; rfl
  refine W_exit ?_
  show W _ _
  have hie : ¬ i < D.length := by simpa using hb
  have L3 := loads_own (o := 0) (n := 3) g3 (by simp)
  rw [List.drop_zero, List.take_of_length_le (by simp)] at L3
  obtain ⟨M3, e3, s3, g6', _⟩ := end2 s1 n1 (Step.refl s1.ok) g6 hvo.1 nn now
  refine W_seq (W_seqR (by simp only [runSeq_cons, runSeq_nil, evalArgs_nil, evalArgs_tmp, evalArgs_const, val1, putT, Tr.get_set_self, Tr.get_set_ne, hd _, ne_eq, Nat.reduceEqDiff, not_false_eq_true, decide_true, Nat.reduceLT, opI_move, h2, h4, L3, e3]; rfl) (W_ret ?_))
  exact ⟨_, fin_cell2 (by simp only [Tr.get_set_ne, ne_eq, Nat.reduceEqDiff, not_false_eq_true, h4]) g6' rfl (by simp only [Tr.get_set_self, Tr.get_set_ne, hd _, ne_eq, Nat.reduceEqDiff, not_false_eq_true, decide_true, Nat.reduceLT]; try rfl), s3, .inr ⟨fun j hj => hno j (by omega), rfl⟩⟩
abbrev eT (x : En) : List AV := [.int .u64 x.task]
set_option maxRecDepth 20000 in
set_option maxHeartbeats 8000000 in
theorem refdue_ok (d : Nat) (hok : Okg M0) (hv : RowN M0 3 δ v (D.map eD)) (nn now z : Int) (hl : D.length < 1000) : Ans (callF tbl code 100000 (d + 2)) 14 [.agg (tA v nn now), .int .i64 z] M0 fun r M' => Step M0 M' ∧
    ((chk z now = 0 ∧ ∃ w u, r = .tuple [.agg (tA w nn z), u, .int .i64 0] ∧ RowN M' 3 δ w ((D.drop (lead z D)).map eD) ∧ (v = .slice none 0 0 false → w = v) ∧ OwnE M0 M' 1 u ((D.take (lead z D)).map eT)) ∨ (chk z now ≠ 0 ∧ r = .tuple [.agg (tA v nn now), .slice none 0 0 false, .int .i64 (chk z now)])) := by
  refine Ans_of (tbl_none (by decide) _) (show code 14 = some c14 from by kernel_rfl) (by simp) fun t hd ha => ?_
  have h0 := ha 0 _ rfl
  have h1 := ha 1 _ rfl
  clear ha
  obtain ⟨M1, e1, s1, n1, g3, g6⟩ := start2 hok v nn now
  have hvo := hv.one
  refine W_seq (W_seqR (by simp only [runSeq_cons, runSeq_nil, evalArgs_nil, evalArgs_tmp, evalArgs_const, val1, putT, opI_move, opI_new, opI_box, cells_agg, push_n, h0, e1]; rfl) ?_)
  have hv1 := hv.grow hok.1 s1.grow
  have L3 := loads_own (o := 0) (n := 3) g3 (by simp)
  rw [List.drop_zero, List.take_of_length_le (by simp)] at L3
  obtain ⟨_, M2, c1, rfl, s2⟩ := refmay_ok d M1 s1.ok v nn now z
  refine W_seq (W_seq (W_seqR (by simp only [runSeq_cons, runSeq_nil, evalArgs_nil, evalArgs_tmp, val1, putT, Tr.get_set_self, Tr.get_set_ne, hd _, ne_eq, Nat.reduceEqDiff, not_false_eq_true, decide_true, Nat.reduceLT, opI_move, opI_callF, h1, L3, c1]; rfl) ?_))
  by_cases c0 : chk z now = 0
  rotate_left
  · have ec : (chk z now != 0) = true := by simpa using c0
    refine W_seq (W_seqR (by simp only [runSeq_cons, runSeq_nil, evalArgs_nil, evalArgs_tmp, evalArgs_const, val1, putT, Tr.get_set_self, Tr.get_set_ne, hd _, ne_eq, Nat.reduceEqDiff, not_false_eq_true, decide_true, Nat.reduceLT, opI_move, opI_neq, ec]; rfl) ?_)
    refine W_cond (b := true) (by simp only [PArg.eval, Tr.get_set_self, Tr.get_set_ne, hd _, ne_eq, Nat.reduceEqDiff, not_false_eq_true, decide_true, Nat.reduceLT]; try rfl) (fun _ => ?_) (fun hb => by cases hb)
    have g3' := (s2.grow.get _ (by omega)).trans g3
    have L3' := loads_own (o := 0) (n := 3) g3' (by simp)
    rw [List.drop_zero, List.take_of_length_le (by simp)] at L3'
    obtain ⟨M3, e3, s3, g6', _⟩ := end2 s1 n1 s2 g6 hvo.1 nn now
    refine W_seq (W_seqR (by simp only [runSeq_cons, runSeq_nil, evalArgs_nil, evalArgs_tmp, evalArgs_const, val1, putT, Tr.get_set_self, Tr.get_set_ne, hd _, ne_eq, Nat.reduceEqDiff, not_false_eq_true, decide_true, Nat.reduceLT, opI_move, L3', e3]; rfl) (W_ret ?_))
    exact ⟨_, fin_cell3 (by simp only [Tr.get_set_self, Tr.get_set_ne, hd _, ne_eq, Nat.reduceEqDiff, not_false_eq_true, decide_true, Nat.reduceLT]; try rfl) g6' rfl (by simp only [Tr.get_set_self, Tr.get_set_ne, Tr.isSome_set, Option.isSome_some, hd _, ne_eq, Nat.reduceEqDiff, not_false_eq_true, decide_true, Nat.reduceLT]; try rfl) (by simp only [Tr.get_set_self, Tr.get_set_ne, Tr.isSome_set, Option.isSome_some, hd _, ne_eq, Nat.reduceEqDiff, not_false_eq_true, decide_true, Nat.reduceLT]; try rfl), s3, .inr ⟨c0, rfl⟩⟩
  have ec : (chk z now != 0) = false := by simpa using c0
  refine W_seq (W_seqR (by simp only [runSeq_cons, runSeq_nil, evalArgs_nil, evalArgs_tmp, evalArgs_const, val1, putT, Tr.get_set_self, Tr.get_set_ne, hd _, ne_eq, Nat.reduceEqDiff, not_false_eq_true, decide_true, Nat.reduceLT, opI_move, opI_neq, ec]; rfl) ?_)
  refine W_cond (b := false) (by simp only [PArg.eval, Tr.get_set_self, Tr.get_set_ne, hd _, ne_eq, Nat.reduceEqDiff, not_false_eq_true, decide_true, Nat.reduceLT]; try rfl) (fun hb => by cases hb) (fun _ => W_skip ?_)
  show W _ _
  obtain ⟨e4, s4, o4⟩ := lit3 (sz := 1) s2
  refine W_seq (W_seqR (by simp only [runSeq_cons, runSeq_nil, evalArgs_nil, evalArgs_tmp, val1, putT, Tr.get_set_self, Tr.get_set_ne, hd _, ne_eq, Nat.reduceEqDiff, not_false_eq_true, decide_true, Nat.reduceLT, opI_move, e4]; rfl) ?_)
  refine W_seq (W_seqR (by simp only [runSeq_cons, runSeq_nil, evalArgs_nil, evalArgs_const, val1, putT, opI_move]; rfl) ?_)
  have hll := lead_le z D
  refine W_seq (W_block (W_loop (fun k t M' => ∃ (i : Nat) (s : AV), k + i = D.length ∧ i ≤ lead z D ∧ Step M1 M' ∧ OwnE M1 M' 1 s ((D.take i).map eT) ∧ Dom t 55 ∧ t.get 1 = some (.int .i64 z) ∧ t.get 2 = some (.ptr (some (M0.n, 0))) ∧ t.get 4 = some (.ptr (some (M0.n + 1, 0))) ∧ t.get 8 = some s ∧ t.get 9 = some (.int .i64 i)) (k := D.length) (by omega) ?_ ?_))
  · exact ⟨0, _, rfl, Nat.zero_le _, s4, o4, by ((repeat (with_reducible apply Dom.set)); exact hd), by simp only [Tr.get_set_ne, ne_eq, Nat.reduceEqDiff, not_false_eq_true, h1], by simp only [Tr.get_set_self, Tr.get_set_ne, hd _, ne_eq, Nat.reduceEqDiff, not_false_eq_true, decide_true, Nat.reduceLT], by simp only [Tr.get_set_self, Tr.get_set_ne, hd _, ne_eq, Nat.reduceEqDiff, not_false_eq_true, decide_true, Nat.reduceLT], by simp only [Tr.get_set_self, Tr.get_set_ne, hd _, ne_eq, Nat.reduceEqDiff, not_false_eq_true, decide_true, Nat.reduceLT], by simp only [Tr.get_set_self, Tr.get_set_ne, hd _, ne_eq, Nat.reduceEqDiff, not_false_eq_true, decide_true, Nat.reduceLT]; rfl⟩
  clear h0 h1 hd e4 s4 o4 s2 c1
  intro k t M' ⟨i, s, hk, hi, sM, ho, hd, h1, h2, h4, h8, h9⟩
  have g3' := (sM.grow.get _ (by omega)).trans g3
  have hv2 := hv1.grow s1.ok.1 sM.grow
  have L0 := load_own (o := 0) g3' rfl
  have lD := rowD_len hv2
  refine W_seq (W_seq (W_seqX (fun t' M'' => M'' = M' ∧ Dom t' 55 ∧ t'.get 1 = some (.int .i64 z) ∧ t'.get 2 = some (.ptr (some (M0.n, 0))) ∧ t'.get 4 = some (.ptr (some (M0.n + 1, 0))) ∧ t'.get 8 = some s ∧ t'.get 9 = some (.int .i64 i) ∧ t'.get 33 = some (.bool (decide (i < lead z D)))) ?_ ?_))
  · by_cases hi1 : i < D.length
    · have g1 : decide ((i : Int) < D.length) = true := decide_eq_true (by omega)
      obtain ⟨p, pp, p1, p2, _⟩ := rowD_at hv2 hi1
      have q1 := opI_fieldQ (M := M') (a := 0) (o := 0) pp
      by_cases hlt : i < lead z D
      · have g2 : decide ((D.getD i dEn).at_ ≤ z) = true := by
          obtain ⟨h, h'⟩ := lead_get z D i hlt
          rw [getD_get h]; exact decide_eq_true h'
        have g3 : decide (i < lead z D) = true := decide_eq_true hlt
        rw [g3]
        exact ⟨_, _, (by simp only [runSeq_cons, runSeq_nil, evalArgs_nil, evalArgs_tmp, evalArgs_const, val1, putT, Tr.get_set_self, Tr.get_set_ne, Tr.isSome_set, hd _, ne_eq, Nat.reduceEqDiff, not_false_eq_true, decide_true, Nat.reduceLT, opI_move, opI_lss, opI_leq, opI_fieldP, opI_pick, Nat.add_zero, runSeq_guard (b := true), beq_self_eq_true, h1, h2, h9, L0, lD, g1, p1, p2, q1, g2]; rfl), rfl, by ((repeat (with_reducible apply Dom.set)); exact hd), by simp only [Tr.get_set_ne, ne_eq, Nat.reduceEqDiff, not_false_eq_true, h1], by simp only [Tr.get_set_ne, ne_eq, Nat.reduceEqDiff, not_false_eq_true, h2], by simp only [Tr.get_set_ne, ne_eq, Nat.reduceEqDiff, not_false_eq_true, h4], by simp only [Tr.get_set_ne, ne_eq, Nat.reduceEqDiff, not_false_eq_true, h8], by simp only [Tr.get_set_ne, ne_eq, Nat.reduceEqDiff, not_false_eq_true, h9], by simp only [Tr.get_set_self, Tr.get_set_ne, hd _, ne_eq, Nat.reduceEqDiff, not_false_eq_true, decide_true, Nat.reduceLT]⟩
      · have hie : i = lead z D := by omega
        have g2 : decide ((D.getD i dEn).at_ ≤ z) = false := by
          have h' := lead_stop z D (by omega)
          rw [getD_get hi1]
          refine decide_eq_false ?_
          subst hie; omega
        have g3 : decide (i < lead z D) = false := decide_eq_false hlt
        rw [g3]
        exact ⟨_, _, (by simp only [runSeq_cons, runSeq_nil, evalArgs_nil, evalArgs_tmp, evalArgs_const, val1, putT, Tr.get_set_self, Tr.get_set_ne, Tr.isSome_set, hd _, ne_eq, Nat.reduceEqDiff, not_false_eq_true, decide_true, Nat.reduceLT, opI_move, opI_lss, opI_leq, opI_fieldP, opI_pick, Nat.add_zero, runSeq_guard (b := true), beq_self_eq_true, h1, h2, h9, L0, lD, g1, p1, p2, q1, g2]; rfl), rfl, by ((repeat (with_reducible apply Dom.set)); exact hd), by simp only [Tr.get_set_ne, ne_eq, Nat.reduceEqDiff, not_false_eq_true, h1], by simp only [Tr.get_set_ne, ne_eq, Nat.reduceEqDiff, not_false_eq_true, h2], by simp only [Tr.get_set_ne, ne_eq, Nat.reduceEqDiff, not_false_eq_true, h4], by simp only [Tr.get_set_ne, ne_eq, Nat.reduceEqDiff, not_false_eq_true, h8], by simp only [Tr.get_set_ne, ne_eq, Nat.reduceEqDiff, not_false_eq_true, h9], by simp only [Tr.get_set_self, Tr.get_set_ne, hd _, ne_eq, Nat.reduceEqDiff, not_false_eq_true, decide_true, Nat.reduceLT]⟩
    · have g1 : decide ((i : Int) < D.length) = false := decide_eq_false (by omega)
      have g3 : decide (i < lead z D) = false := decide_eq_false (by omega)
      rw [g3]
      exact ⟨_, _, (by simp only [runSeq_cons, runSeq_nil, evalArgs_nil, evalArgs_tmp, evalArgs_const, val1, putT, Tr.get_set_self, Tr.get_set_ne, Tr.isSome_set, hd _, ne_eq, Nat.reduceEqDiff, not_false_eq_true, decide_true, Nat.reduceLT, opI_move, opI_lss, opI_fieldP, opI_pick, Nat.add_zero, runSeq_guard (b := false), Bool.false_beq, Bool.not_true, h2, h9, L0, lD, g1]; rfl), rfl, by ((repeat (with_reducible apply Dom.set)); exact hd), by simp only [Tr.get_set_ne, ne_eq, Nat.reduceEqDiff, not_false_eq_true, h1], by simp only [Tr.get_set_ne, ne_eq, Nat.reduceEqDiff, not_false_eq_true, h2], by simp only [Tr.get_set_ne, ne_eq, Nat.reduceEqDiff, not_false_eq_true, h4], by simp only [Tr.get_set_ne, ne_eq, Nat.reduceEqDiff, not_false_eq_true, h8], by simp only [Tr.get_set_ne, ne_eq, Nat.reduceEqDiff, not_false_eq_true, h9], by simp only [Tr.get_set_self, Tr.get_set_ne, hd _, ne_eq, Nat.reduceEqDiff, not_false_eq_true, decide_true, Nat.reduceLT]⟩
  clear hd h1 h2 h4 h8 h9 t
  rintro t _ ⟨rfl, hd, h1, h2, h4, h8, h9, h33⟩
  rename_i M'
  refine W_cond (b := decide (i < lead z D)) h33 (fun hb => W_skip ?_) (fun hb => W_exit ?_)
  · have hlt : i < lead z D := by simpa using hb
    obtain ⟨p, pp, p1, _, p2, _⟩ := rowD_at hv2 (i := i) (by omega)
    have q1 := opI_fieldQ (M := M') (a := 0) (o := 0) pp
    have q2 := opI_fieldQ (M := M') (a := 0) (o := 1) pp
    have hlen : ((D.take i).map eT).length = i := by rw [List.length_map, List.length_take]; omega
    obtain ⟨M6, _, e6, e7, s6, o6, _, n6, _⟩ := push_el (bytes := 8) (z := [.int .u64 0]) (x := .int .u64 (D.getD i dEn).task) sM (.inl ho) rfl rfl (by omega) rfl (by omega) (by omega)
    show W _ _
    refine W_block ?_
    refine W_seq (W_seqR (by simp only [runSeq_cons, runSeq_nil, evalArgs_nil, evalArgs_tmp, val1, putT, Tr.get_set_self, Tr.get_set_ne, hd _, ne_eq, Nat.reduceEqDiff, not_false_eq_true, decide_true, Nat.reduceLT, opI_move, opI_fieldP, Nat.zero_add, Nat.add_zero, h2, h8, h9, L0, p1, q1, q2, p2, e6, e7]; rfl) ?_)
    refine W_seqR (by simp only [runSeq_cons, runSeq_nil, evalArgs_nil, evalArgs_tmp, evalArgs_const, val1, putT, Tr.get_set_self, Tr.get_set_ne, hd _, ne_eq, Nat.reduceEqDiff, not_false_eq_true, decide_true, Nat.reduceLT, opI_move, opI_add, h9]; rfl) ?_
    refine ⟨k - 1, by omega, i + 1, _, by omega, by omega, s6, ?_, by ((repeat (with_reducible apply Dom.set)); exact hd), by simp only [Tr.get_set_ne, ne_eq, Nat.reduceEqDiff, not_false_eq_true, h1], by simp only [Tr.get_set_ne, ne_eq, Nat.reduceEqDiff, not_false_eq_true, h2], by simp only [Tr.get_set_ne, ne_eq, Nat.reduceEqDiff, not_false_eq_true, h4], by simp only [Tr.get_set_self, Tr.get_set_ne, hd _, ne_eq, Nat.reduceEqDiff, not_false_eq_true, decide_true, Nat.reduceLT]; rfl, ?_⟩
    · have e : D.take (i + 1) = D.take i ++ [D.getD i dEn] := by rw [List.take_add_one, List.getElem?_eq_getElem (by omega), getD_get (by omega)]; rfl
      rw [e, List.map_append]
      exact o6
    simp only [Tr.get_set_self, Tr.get_set_ne, hd _, ne_eq, Nat.reduceEqDiff, not_false_eq_true, decide_true, Nat.reduceLT]
    rw [wrapF_small (by omega) (by omega)]; rfl
  have hie : i = lead z D := by
    have : ¬ i < lead z D := by simpa using hb
    omega
  show W _ _
  obtain ⟨w7, t7, hw7⟩ := hv2.drop (k := i) (by rw [List.length_map]; omega)
  have Lb := load_own (o := 1) g3' rfl
  have hw7o := hw7.one
  have b9 : opI (.build [.slice none 0 0 false, .int .i64 0, .int .i64 0] [(0, 1), (1, 1), (2, 1)]) [w7, .int .i64 nn, .int .i64 z] M' = some (.val (.agg (tA w7 nn z)) M') := build3 hw7o.2
  obtain ⟨M9, e9, s9, g9, k9⟩ := end2 s1 n1 sM g6 hw7o.1 nn z
  have q0 := held_none sM.ok.1
  refine W_seq (W_trace (M' := M9) rfl (by simp only [sameN_self, evalArgs_nil, evalArgs_tmp, evalArgs_const, val1, putT, Tr.get_set_self, Tr.get_set_ne, hd _, ne_eq, Nat.reduceEqDiff, not_false_eq_true, decide_true, Nat.reduceLT, opI_move, opI_fieldP, Nat.zero_add, Nat.add_zero, trace_nil, trace_read, trace_eff, addR_some, addE_some, Bool.false_and, h1, h2, h4, h8, h9, L0, Lb, t7, b9, e9, q0]; rfl) (by simp [checkRec, isLoad]) rfl (W_ret ?_))
  refine ⟨_, fin_cell3 (by simp only [Tr.get_set_ne, ne_eq, Nat.reduceEqDiff, not_false_eq_true, h4]) g9 rfl (by simp only [Tr.get_set_self, Tr.get_set_ne, hd _, ne_eq, Nat.reduceEqDiff, not_false_eq_true, decide_true, Nat.reduceLT]; try rfl) (by simp only [Tr.get_set_self, Tr.get_set_ne, hd _, ne_eq, Nat.reduceEqDiff, not_false_eq_true, decide_true, Nat.reduceLT]; try rfl), s9, .inl ⟨c0, w7, s, rfl, ?_, ?_, ?_⟩⟩
  · have hv9 := hv.grow hok.1 s9.grow
    obtain ⟨w', t', hw'⟩ := hv9.drop (k := i) (by rw [List.length_map]; omega)
    have := opI_pure rfl rfl t7 rfl M9
    rw [t'] at this
    cases this
    rw [← hie, ← mapDr]
    exact hw'
  · intro hvn
    subst hvn
    have hD0 : D.length = 0 := by
      have := hv2.len M'
      simp only [opI, Option.some.injEq, SR.val.injEq, AV.int.injEq, List.length_map] at this
      omega
    obtain rfl : i = 0 := by omega
    have e : opI (.slice 3 true false false) [.slice none 0 0 false, .int .i64 ((0 : Nat) : Int)] M' = some (.val (.slice none 0 0 false) M') := rfl
    rw [e] at t7
    cases t7
    rfl
  · rw [← hie]
    exact (OwnE.keep ho (b := M0.n + 1) (by omega) k9).mono (A := M0) (by omega)
end
end Go.Proofs.Ytbjipmhdncfodaa.grf
