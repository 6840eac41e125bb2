/- The document's Apply. -/
import Derived.Test.YtefcnhmbpkdlmaaMoRef
namespace Go.Proofs.Ytefcnhmbpkdlmaa.model
open Go Go.Vx

def Out5 (M : AMem) (o : Option (List Int)) (r : AV) (M' : AMem) : Prop := ∃ r0, r = .tuple [r0, .bool o.isSome] ∧ Step M M' ∧ ∀ ys, o = some ys → Own M M' r0 ys

theorem copy2 {B : AMem} {v : AV} {xs : List Int} (hv : Row B v xs) (hok : Okg B) (hn : xs.length < 90000) :
    ∃ b0 M1 r M2, opI (.sliceLit 0 [] []) [] B = some (.val b0 M1) ∧ opI (.append 1 8) [b0, v] M1 = some (.val r M2) ∧ Step B M1 ∧ Step B M2 ∧ Own B M2 r xs := by
  obtain ⟨M1, e1, s1, o1, _⟩ := lit_empty (Step.refl hok)
  obtain ⟨r, M2, e3, s2, o2⟩ := append_anyC s1 o1 (hv.grow s1.grow).cells (by simp; omega)
  exact ⟨_, M1, r, M2, e1, e3, s1, s2, o2⟩

set_option maxHeartbeats 2000000 in
theorem refapply_ok {k : Int} {v c0 c1 : AV} {xs : List Int} {x cd : Int} {put : Bool} (d : Nat) (M : AMem) (hv : Row M v xs) (hw : Wide v) (hok : Okg M) (hn : xs.length < 90000) :
    Ans (callF tbl code 100000 (d + 2)) 7 [.int .i64 k, v, .agg [c0, c1, .bool put, .int .u64 x, .int .i64 cd]] M (Out5 M (ap k xs put x cd)) := by
  refine Ans_of (tbl_none (by decide) _) (show code 7 = some c7 from by kernel_rfl) (by simp) fun t hd ha => ?_
  have h0 := ha 0 _ rfl
  have h1 := ha 1 v rfl
  have h2 := ha 2 _ rfl
  clear ha
  refine W_seq (W_seqR (by simp only [runSeq_cons, runSeq_nil, evalArgs_nil, evalArgs_tmp, evalArgs_const, val1, putT, opI_move, opI_box, cells_agg, h2]; rfl) ?_)
  have s0 := (Step.refl hok).push (k := .cells [c0, c1, .bool put, .int .u64 x, .int .i64 cd] 0 true none) (fun _ _ _ _ he => by cases he)
  have hv0 := hv.grow s0.grow
  have hgb : (M.push (.cells [c0, c1, .bool put, .int .u64 x, .int .i64 cd] 0 true none)).get M.n = some (.cells [c0, c1, .bool put, .int .u64 x, .int .i64 cd] 0 true none) := get_push_self hok.1
  have hbn : M.n < (M.push (.cells [c0, c1, .bool put, .int .u64 x, .int .i64 cd] 0 true none)).n := by rw [push_n]; omega
  generalize hB : M.push (.cells [c0, c1, .bool put, .int .u64 x, .int .i64 cd] 0 true none) = B at *
  have L2 := load_own (o := 2) (v := .bool put) hgb rfl
  have L3 : ∀ M', Grow B M' → opI (.load false 1) [.ptr (some (M.n, 3))] M' = some (.val (.int .u64 x) M') := fun M' hg => load_own (o := 3) (v := .int .u64 x) ((hg.get M.n hbn).trans hgb) rfl
  have L3B := L3 B (Grow.refl B)
  have L4 := load_own (o := 4) (v := .int .i64 cd) hgb rfl
  show W _ _
  -- the kind
  by_cases hlt : k < 1
  · have hlt' : decide (k < 1) = true := by simpa using hlt
    refine W_seq (W_seq (W_seqR (by simp only [runSeq_cons, runSeq_nil, evalArgs_nil, evalArgs_tmp, evalArgs_const, val1, putT, Tr.get_set_self, Tr.get_set_ne, Tr.isSome_set, hd _, ne_eq, Nat.reduceEqDiff, not_false_eq_true, decide_true, Nat.reduceLT, opI_move, opI_lss, opI_pick, runSeq_guard (b := true), Bool.true_beq, h0, hlt']; rfl) ?_))
    refine W_cond (by simp only [PArg.eval, Tr.get_set_self, Tr.get_set_ne, hd _, ne_eq, Nat.reduceEqDiff, not_false_eq_true, decide_true, Nat.reduceLT]; rfl) (fun _ => ?_) (fun hb => by simp at hb)
    refine W_seq (W_seqR (by simp only [runSeq_cons, runSeq_nil, evalArgs_nil, evalArgs_const, val1, putT, opI_move]; rfl) (W_ret ?_))
    rw [ap_out (.inl hlt)]
    exact ⟨_, fin_tmp2 (by simp only [Tr.get_set_self, Tr.get_set_ne, Tr.isSome_set, Option.isSome_some, hd _, ne_eq, Nat.reduceEqDiff, not_false_eq_true, decide_true, Nat.reduceLT]; try rfl) (by simp only [Tr.get_set_self, Tr.get_set_ne, Tr.isSome_set, Option.isSome_some, hd _, ne_eq, Nat.reduceEqDiff, not_false_eq_true, decide_true, Nat.reduceLT]; try rfl), _, rfl, s0, fun ys h => by cases h⟩
  have hlt' : decide (k < 1) = false := by simpa using hlt
  by_cases hgt : k > 4
  · have hgt' : decide (k > 4) = true := by simpa using hgt
    refine W_seq (W_seq (W_seqR (by simp only [runSeq_cons, runSeq_nil, evalArgs_nil, evalArgs_tmp, evalArgs_const, val1, putT, Tr.get_set_self, Tr.get_set_ne, Tr.isSome_set, hd _, ne_eq, Nat.reduceEqDiff, not_false_eq_true, decide_true, Nat.reduceLT, opI_move, opI_lss, opI_gtr, opI_pick, runSeq_guard (b := false), beq_self_eq_true, h0, hlt', hgt']; rfl) ?_))
    refine W_cond (by simp only [PArg.eval, Tr.get_set_self, Tr.get_set_ne, hd _, ne_eq, Nat.reduceEqDiff, not_false_eq_true, decide_true, Nat.reduceLT]; rfl) (fun _ => ?_) (fun hb => by simp at hb)
    refine W_seq (W_seqR (by simp only [runSeq_cons, runSeq_nil, evalArgs_nil, evalArgs_const, val1, putT, opI_move]; rfl) (W_ret ?_))
    rw [ap_out (.inr hgt)]
    exact ⟨_, fin_tmp2 (by simp only [Tr.get_set_self, Tr.get_set_ne, Tr.isSome_set, Option.isSome_some, hd _, ne_eq, Nat.reduceEqDiff, not_false_eq_true, decide_true, Nat.reduceLT]; try rfl) (by simp only [Tr.get_set_self, Tr.get_set_ne, Tr.isSome_set, Option.isSome_some, hd _, ne_eq, Nat.reduceEqDiff, not_false_eq_true, decide_true, Nat.reduceLT]; try rfl), _, rfl, s0, fun ys h => by cases h⟩
  have hgt' : decide (k > 4) = false := by simpa using hgt
  refine W_seq (W_seq (W_seqR (by simp only [runSeq_cons, runSeq_nil, evalArgs_nil, evalArgs_tmp, evalArgs_const, val1, putT, Tr.get_set_self, Tr.get_set_ne, Tr.isSome_set, hd _, ne_eq, Nat.reduceEqDiff, not_false_eq_true, decide_true, Nat.reduceLT, opI_move, opI_lss, opI_gtr, opI_pick, runSeq_guard (b := false), beq_self_eq_true, h0, hlt', hgt']; rfl) ?_))
  refine W_cond (by simp only [PArg.eval, Tr.get_set_self, Tr.get_set_ne, hd _, ne_eq, Nat.reduceEqDiff, not_false_eq_true, decide_true, Nat.reduceLT]; rfl) (fun hb => by simp at hb) (fun _ => W_skip ?_)
  show W _ _
  -- what's done without a change
  have leaf : ∀ {o : Option (List Int)} {r : AV} {M' : AMem} {ys : List Int}, Step B M' → Own B M' r ys → o = some ys → Out5 M o (.tuple [r, .bool true]) M' := by
    intro o r M' ys s ow ho
    subst ho
    exact ⟨r, rfl, s0.trans s, fun zs h => by cases h; exact ow.mono s0.grow.n⟩
  -- the copy that is handed back as it is
  by_cases hc : cd = 0
  rotate_left
  · have hc' : (cd != 0) = true := by simpa using hc
    have hc0 : (cd == 0) = false := by simpa using hc
    by_cases hp : put = true ∨ cd ≠ 5
    · obtain ⟨b0, M1, r, M2, e1, e2, s1, s2, o2⟩ := copy2 hv0 s0.ok hn
      have fin := leaf s2 o2 (ap_same (k := k) (x := x) (by omega) (by omega) hc hp)
      cases put with
      | true =>
        refine W_seq (W_seq (W_seqR (by simp only [runSeq_cons, runSeq_nil, evalArgs_nil, evalArgs_tmp, evalArgs_const, val1, putT, Tr.get_set_self, Tr.get_set_ne, Tr.isSome_set, hd _, ne_eq, Nat.reduceEqDiff, not_false_eq_true, decide_true, Nat.reduceLT, opI_move, opI_neq, opI_fieldP, opI_pick, Nat.zero_add, runSeq_guard (b := true), beq_self_eq_true, Bool.true_beq, L2, L4, hc']; rfl) ?_))
        refine W_cond (by simp only [PArg.eval, Tr.get_set_self, Tr.get_set_ne, hd _, ne_eq, Nat.reduceEqDiff, not_false_eq_true, decide_true, Nat.reduceLT]; rfl) (fun _ => ?_) (fun hb => by simp at hb)
        refine W_seq (W_seqR (by simp only [runSeq_cons, runSeq_nil, evalArgs_nil, evalArgs_tmp, evalArgs_const, val1, putT, Tr.get_set_self, Tr.get_set_ne, hd _, ne_eq, Nat.reduceEqDiff, not_false_eq_true, decide_true, Nat.reduceLT, opI_move, h1, e1, e2]; rfl) (W_ret ?_))
        exact ⟨_, fin_tmp2 (by simp only [Tr.get_set_self, Tr.get_set_ne, Tr.isSome_set, Option.isSome_some, hd _, ne_eq, Nat.reduceEqDiff, not_false_eq_true, decide_true, Nat.reduceLT]; try rfl) (by simp only [Tr.get_set_self, Tr.get_set_ne, Tr.isSome_set, Option.isSome_some, hd _, ne_eq, Nat.reduceEqDiff, not_false_eq_true, decide_true, Nat.reduceLT]; try rfl), fin⟩
      | false =>
        have h5 : (cd != 5) = true := by simpa using hp
        refine W_seq (W_seq (W_seqR (by simp only [runSeq_cons, runSeq_nil, evalArgs_nil, evalArgs_tmp, evalArgs_const, val1, putT, Tr.get_set_self, Tr.get_set_ne, Tr.isSome_set, hd _, ne_eq, Nat.reduceEqDiff, not_false_eq_true, decide_true, Nat.reduceLT, opI_move, opI_neq, opI_fieldP, opI_pick, Nat.zero_add, runSeq_guard (b := true), runSeq_guard (b := false), beq_self_eq_true, L2, L4, hc', h5]; rfl) ?_))
        refine W_cond (by simp only [PArg.eval, Tr.get_set_self, Tr.get_set_ne, hd _, ne_eq, Nat.reduceEqDiff, not_false_eq_true, decide_true, Nat.reduceLT]; rfl) (fun _ => ?_) (fun hb => by simp at hb)
        refine W_seq (W_seqR (by simp only [runSeq_cons, runSeq_nil, evalArgs_nil, evalArgs_tmp, evalArgs_const, val1, putT, Tr.get_set_self, Tr.get_set_ne, hd _, ne_eq, Nat.reduceEqDiff, not_false_eq_true, decide_true, Nat.reduceLT, opI_move, h1, e1, e2]; rfl) (W_ret ?_))
        exact ⟨_, fin_tmp2 (by simp only [Tr.get_set_self, Tr.get_set_ne, Tr.isSome_set, Option.isSome_some, hd _, ne_eq, Nat.reduceEqDiff, not_false_eq_true, decide_true, Nat.reduceLT]; try rfl) (by simp only [Tr.get_set_self, Tr.get_set_ne, Tr.isSome_set, Option.isSome_some, hd _, ne_eq, Nat.reduceEqDiff, not_false_eq_true, decide_true, Nat.reduceLT]; try rfl), fin⟩
    · have hp' : put = false ∧ cd = 5 := by
        cases put with
        | true => exact absurd (.inl rfl) hp
        | false => exact ⟨rfl, by by_cases h : cd = 5; exact h; exact absurd (.inr h) hp⟩
      obtain ⟨rfl, rfl⟩ := hp'
      -- is it empty?
      obtain ⟨M1, e1, s1, o1, _⟩ := lit_empty (Step.refl s0.ok)
      have lv := (hv0.grow s1.grow).len
      refine W_seq (W_seq (W_seqR (by simp only [runSeq_cons, runSeq_nil, evalArgs_nil, evalArgs_tmp, evalArgs_const, val1, putT, Tr.get_set_self, Tr.get_set_ne, Tr.isSome_set, hd _, ne_eq, Nat.reduceEqDiff, not_false_eq_true, decide_true, Nat.reduceLT, opI_move, opI_neq, opI_fieldP, opI_pick, Nat.zero_add, Int.reduceBNe, bne_self_eq_false, runSeq_guard (b := true), runSeq_guard (b := false), beq_self_eq_true, L2, L4]; rfl) ?_))
      refine W_cond (by simp only [PArg.eval, Tr.get_set_self, Tr.get_set_ne, hd _, ne_eq, Nat.reduceEqDiff, not_false_eq_true, decide_true, Nat.reduceLT]; rfl) (fun hb => by simp at hb) (fun _ => W_skip ?_)
      show W _ _
      refine W_seq (W_seq (W_seqR (by simp only [runSeq_cons, runSeq_nil, evalArgs_nil, evalArgs_tmp, val1, putT, Tr.get_set_self, Tr.get_set_ne, hd _, ne_eq, Nat.reduceEqDiff, not_false_eq_true, decide_true, Nat.reduceLT, opI_fieldP, Nat.zero_add, L2]; rfl) ?_))
      refine W_cond (by simp only [PArg.eval, Tr.get_set_self, Tr.get_set_ne, hd _, ne_eq, Nat.reduceEqDiff, not_false_eq_true, decide_true, Nat.reduceLT]; rfl) (fun hb => by simp at hb) (fun _ => W_skip ?_)
      show W _ _
      refine W_seq (W_seq (W_seqR (by simp only [runSeq_cons, runSeq_nil, evalArgs_nil, evalArgs_tmp, evalArgs_const, val1, putT, Tr.get_set_self, Tr.get_set_ne, hd _, ne_eq, Nat.reduceEqDiff, not_false_eq_true, decide_true, Nat.reduceLT, opI_eql, opI_fieldP, Nat.zero_add, Int.reduceBEq, L4]; rfl) ?_))
      refine W_cond (by simp only [PArg.eval, Tr.get_set_self, Tr.get_set_ne, hd _, ne_eq, Nat.reduceEqDiff, not_false_eq_true, decide_true, Nat.reduceLT]; rfl) (fun _ => ?_) (fun hb => by simp at hb)
      by_cases h4 : k = 4
      · subst h4
        refine W_seq (W_seqR (by simp only [runSeq_cons, runSeq_nil, evalArgs_nil, evalArgs_tmp, evalArgs_const, val1, putT, Tr.get_set_self, Tr.get_set_ne, Tr.isSome_set, hd _, ne_eq, Nat.reduceEqDiff, not_false_eq_true, decide_true, Nat.reduceLT, opI_move, opI_neq, opI_pick, bne_self_eq_false, runSeq_guard (b := false), Bool.false_beq, Bool.not_true, h0, e1]; rfl) (W_ret ?_))
        rw [ap_empty4]
        exact ⟨_, fin_tmp2 (by simp only [Tr.get_set_self, Tr.get_set_ne, Tr.isSome_set, Option.isSome_some, hd _, ne_eq, Nat.reduceEqDiff, not_false_eq_true, decide_true, Nat.reduceLT]; try rfl) (by simp only [Tr.get_set_self, Tr.get_set_ne, Tr.isSome_set, Option.isSome_some, hd _, ne_eq, Nat.reduceEqDiff, not_false_eq_true, decide_true, Nat.reduceLT]; try rfl), _, rfl, s0.trans s1, fun ys h => by cases h⟩
      · have h4' : (k != 4) = true := by simpa using h4
        refine W_seq (W_seqR (by simp only [runSeq_cons, runSeq_nil, evalArgs_nil, evalArgs_tmp, evalArgs_const, val1, putT, Tr.get_set_self, Tr.get_set_ne, Tr.isSome_set, hd _, ne_eq, Nat.reduceEqDiff, not_false_eq_true, decide_true, Nat.reduceLT, opI_move, opI_neq, opI_eql, opI_pick, runSeq_guard (b := true), beq_self_eq_true, h0, h1, e1, h4', lv]; rfl) (W_ret ?_))
        rw [ap_empty (by omega) (by omega)]
        cases hz : (xs.length : Int) == 0 with
        | true =>
          have : xs = [] := by simpa using hz
          subst this
          exact ⟨_, fin_tmp2 (by simp only [Tr.get_set_self, Tr.get_set_ne, Tr.isSome_set, Option.isSome_some, hd _, ne_eq, Nat.reduceEqDiff, not_false_eq_true, decide_true, Nat.reduceLT]; try rfl) (by simp only [Tr.get_set_self, Tr.get_set_ne, Tr.isSome_set, Option.isSome_some, hd _, ne_eq, Nat.reduceEqDiff, not_false_eq_true, decide_true, Nat.reduceLT]; try rfl), leaf s1 o1 rfl⟩
        | false =>
          exact ⟨_, fin_tmp2 (by simp only [Tr.get_set_self, Tr.get_set_ne, Tr.isSome_set, Option.isSome_some, hd _, ne_eq, Nat.reduceEqDiff, not_false_eq_true, decide_true, Nat.reduceLT]; try rfl) (by simp only [Tr.get_set_self, Tr.get_set_ne, Tr.isSome_set, Option.isSome_some, hd _, ne_eq, Nat.reduceEqDiff, not_false_eq_true, decide_true, Nat.reduceLT]; try rfl), _, rfl, s0.trans s1, fun ys h => by cases h⟩
  subst hc
  refine W_seq (W_seq (W_seqR (by simp only [runSeq_cons, runSeq_nil, evalArgs_nil, evalArgs_tmp, evalArgs_const, val1, putT, Tr.get_set_self, Tr.get_set_ne, Tr.isSome_set, hd _, ne_eq, Nat.reduceEqDiff, not_false_eq_true, decide_true, Nat.reduceLT, opI_move, opI_neq, opI_fieldP, opI_pick, Nat.zero_add, bne_self_eq_false, runSeq_guard (b := false), Bool.false_beq, Bool.not_true, runSeq_skip, L4]; rfl) ?_))
  refine W_cond (by simp only [PArg.eval, Tr.get_set_self, Tr.get_set_ne, hd _, ne_eq, Nat.reduceEqDiff, not_false_eq_true, decide_true, Nat.reduceLT]; rfl) (fun hb => by simp at hb) (fun _ => W_skip ?_)
  show W _ _
  cases put with
  | true =>
    refine W_seq (W_seq (W_seqR (by simp only [runSeq_cons, runSeq_nil, evalArgs_nil, evalArgs_tmp, val1, putT, Tr.get_set_self, Tr.get_set_ne, hd _, ne_eq, Nat.reduceEqDiff, not_false_eq_true, decide_true, Nat.reduceLT, opI_fieldP, Nat.zero_add, L2]; rfl) ?_))
    refine W_cond (by simp only [PArg.eval, Tr.get_set_self, Tr.get_set_ne, hd _, ne_eq, Nat.reduceEqDiff, not_false_eq_true, decide_true, Nat.reduceLT]; rfl) (fun _ => ?_) (fun hb => by simp at hb)
    by_cases h4 : k = 4
    · subst h4
      have hs := rsum_ok d B hv0 hn
      obtain ⟨M3, e3, s3, o3, _⟩ := lit_one (Step.refl s0.ok) (wrapF .u64 (sum64 xs + x))
      have n0 := held_none s0.ok.1
      have n3 := s3.nh B.n (Nat.le_refl _)
      refine W_seq (W_seq (W_seqR (by simp only [runSeq_cons, runSeq_nil, evalArgs_nil, evalArgs_tmp, evalArgs_const, val1, putT, Tr.get_set_self, Tr.get_set_ne, hd _, ne_eq, Nat.reduceEqDiff, not_false_eq_true, decide_true, Nat.reduceLT, opI_move, opI_eql, Int.reduceBEq, h0]; rfl) ?_))
      refine W_cond (by simp only [PArg.eval, Tr.get_set_self, Tr.get_set_ne, hd _, ne_eq, Nat.reduceEqDiff, not_false_eq_true, decide_true, Nat.reduceLT]; rfl) (fun _ => ?_) (fun hb => by simp at hb)
      refine W_seq (W_trace rfl (by simp only [sameN_self, evalArgs_nil, evalArgs_tmp, evalArgs_const, val1, putT, Tr.get_set_self, Tr.get_set_ne, hd _, ne_eq, Nat.reduceEqDiff, not_false_eq_true, decide_true, Nat.reduceLT, opI_move, opI_add, opI_callF, opI_fieldP, Nat.zero_add, trace_nil, trace_read, trace_eff, addR_some, addE_some, Bool.and_true, Bool.not_false, h1, hs, L3B, e3, n0, n3]; rfl) (by simp [checkRec, isLoad, sameAt, L3B, AV.beq]) rfl (W_ret ?_))
      exact ⟨_, fin_tmp2 (by simp only [Tr.get_set_self, Tr.get_set_ne, Tr.isSome_set, Option.isSome_some, hd _, ne_eq, Nat.reduceEqDiff, not_false_eq_true, decide_true, Nat.reduceLT]; try rfl) (by simp only [Tr.get_set_self, Tr.get_set_ne, Tr.isSome_set, Option.isSome_some, hd _, ne_eq, Nat.reduceEqDiff, not_false_eq_true, decide_true, Nat.reduceLT]; try rfl), leaf s3 o3 ap_put4⟩
    · have h4' : (k == 4) = false := by simpa using h4
      refine W_seq (W_seq (W_seqR (by simp only [runSeq_cons, runSeq_nil, evalArgs_nil, evalArgs_tmp, evalArgs_const, val1, putT, Tr.get_set_self, Tr.get_set_ne, hd _, ne_eq, Nat.reduceEqDiff, not_false_eq_true, decide_true, Nat.reduceLT, opI_move, opI_eql, h0]; rfl) ?_))
      refine W_cond (by simp only [PArg.eval, Tr.get_set_self, Tr.get_set_ne, hd _, ne_eq, Nat.reduceEqDiff, not_false_eq_true, decide_true, Nat.reduceLT, h4']; rfl) (fun hb => by simp at hb) (fun _ => W_skip ?_)
      show W _ _
      -- the literal's block may be made early
      have okA := s0.ok.held
      have gA : Grow B (B.push .held) := Grow.push s0.ok.1 _
      obtain ⟨M1, e1, s1, o1, _⟩ := lit_empty (Step.refl okA)
      obtain ⟨r, M2, e2, s2, o2⟩ := append_anyC s1 o1 (hv0.grow (gA.trans s1.grow)).cells (by simp; omega)
      have hAn : B.n < (B.push .held).n := by rw [push_n]; omega
      rw [push_n] at e1 e2
      have gn0 : (B.push .held).get B.n = some .held := get_push_self s0.ok.1
      have n0 : isHeld ((B.push .held).get B.n) = true := by rw [gn0]; rfl
      have g2 : M2.get B.n = some .held := (s2.grow.get _ hAn).trans gn0
      have n1 : isHeld (M1.get B.n) = true := by rw [(s1.grow.get _ hAn).trans gn0]; rfl
      have n2 : isHeld (M2.get B.n) = true := by rw [g2]; rfl
      have LA := L3 _ gA
      have LM1 := L3 _ (gA.trans s1.grow)
      have LM2 := L3 _ (gA.trans s2.grow)
      have s3 := Step.fill s0.ok s2 [.int .u64 x]
      have e3 : fillI (.sliceLit 1 [.int .u64 0] [(0, 1)]) [.int .u64 x] B.n M2 = some (.slice (some (B.n, 0)) 1 1 false, M2.set B.n (.cells [.int .u64 x] 0 true none)) := by
        unfold fillI
        rw [n2]; rfl
      have o3 : Own B (M2.set B.n (.cells [.int .u64 x] 0 true none)) r ([] ++ xs) := by
        obtain ⟨b, gr, sz, g, he, q1, q2, q3, q4⟩ := o2
        rw [push_n] at q1
        refine ⟨b, gr, sz, g, he, by omega, ?_, q3, fun g' hg' => ?_⟩
        · rw [get_set_mem g2, if_neg (by omega)]; exact q2
        · have := q4 g' hg'; rw [push_n] at this; omega
      have g3 : (M2.set B.n (.cells [.int .u64 x] 0 true none)).get B.n = some (.cells [.int .u64 x] 0 true none) := by rw [get_set_mem g2, if_pos rfl]
      have r3 : Row (M2.set B.n (.cells [.int .u64 x] 0 true none)) (.slice (some (B.n, 0)) [x].length 1 false) [x] :=
        .inr (.inr ⟨B.n, 0, 1, false, _, 0, true, none, rfl, g3, get_lt s3.ok.1 g3, by simp, rfl⟩)
      obtain ⟨r4, M4, e4, s4, o4⟩ := append_anyC s3 o3 r3.cells (by simp; omega)
      have n3 := s3.nh B.n (Nat.le_refl _)
      have e4' : opI (.append 1 8) [r, .slice (some (B.n, 0)) 1 1 false] (M2.set B.n (.cells [.int .u64 x] 0 true none)) = some (.val r4 M4) := e4
      refine W_seq (W_traceF rfl (by simp only [sameN_self, evalArgs_nil, evalArgs_tmp, evalArgs_const, val1, putT, Tr.get_set_self, Tr.get_set_ne, hd _, ne_eq, Nat.reduceEqDiff, not_false_eq_true, decide_true, Nat.reduceLT, opI_move, opI_fieldP, Nat.zero_add, trace_nil, trace_read, trace_eff, trace_fl, addR_some, addE_some, Bool.false_and, Bool.and_false, Bool.not_true, h1, e1, e2, LM2, e3, e4', n0, n1, n2, n3]; rfl) (by simp [checkRec, isLoad, sameAt, LA, LM1, LM2, AV.beq]) rfl (W_ret ?_))
      exact ⟨_, fin_tmp2 (by simp only [Tr.get_set_self, Tr.get_set_ne, Tr.isSome_set, Option.isSome_some, hd _, ne_eq, Nat.reduceEqDiff, not_false_eq_true, decide_true, Nat.reduceLT]; try rfl) (by simp only [Tr.get_set_self, Tr.get_set_ne, Tr.isSome_set, Option.isSome_some, hd _, ne_eq, Nat.reduceEqDiff, not_false_eq_true, decide_true, Nat.reduceLT]; try rfl), leaf s4 o4 (ap_put (by omega) (by omega))⟩
  | false =>
    refine W_seq (W_seq (W_seqR (by simp only [runSeq_cons, runSeq_nil, evalArgs_nil, evalArgs_tmp, val1, putT, Tr.get_set_self, Tr.get_set_ne, hd _, ne_eq, Nat.reduceEqDiff, not_false_eq_true, decide_true, Nat.reduceLT, opI_fieldP, Nat.zero_add, L2]; rfl) ?_))
    refine W_cond (by simp only [PArg.eval, Tr.get_set_self, Tr.get_set_ne, hd _, ne_eq, Nat.reduceEqDiff, not_false_eq_true, decide_true, Nat.reduceLT]; rfl) (fun hb => by simp at hb) (fun _ => W_skip ?_)
    show W _ _
    refine W_seq (W_seq (W_seqR (by simp only [runSeq_cons, runSeq_nil, evalArgs_nil, evalArgs_tmp, evalArgs_const, val1, putT, Tr.get_set_self, Tr.get_set_ne, hd _, ne_eq, Nat.reduceEqDiff, not_false_eq_true, decide_true, Nat.reduceLT, opI_eql, opI_fieldP, Nat.zero_add, Int.reduceBEq, L4]; rfl) ?_))
    refine W_cond (by simp only [PArg.eval, Tr.get_set_self, Tr.get_set_ne, hd _, ne_eq, Nat.reduceEqDiff, not_false_eq_true, decide_true, Nat.reduceLT]; rfl) (fun hb => by simp at hb) (fun _ => W_skip ?_)
    show W _ _
    by_cases h4 : k = 4
    · subst h4
      obtain ⟨b0, M1, r, M2, e1, e2, s1, s2, o2⟩ := copy2 hv0 s0.ok hn
      have hs := rsum_ok d M2 (hv0.grow s2.grow) hn
      have n0 := held_none s0.ok.1
      have n1 := s1.nh B.n (Nat.le_refl _)
      have n2 := s2.nh B.n (Nat.le_refl _)
      have LM1 := L3 _ s1.grow
      have LM2 := L3 _ s2.grow
      refine W_seq (W_seq (W_seqR (by simp only [runSeq_cons, runSeq_nil, evalArgs_nil, evalArgs_tmp, evalArgs_const, val1, putT, Tr.get_set_self, Tr.get_set_ne, hd _, ne_eq, Nat.reduceEqDiff, not_false_eq_true, decide_true, Nat.reduceLT, opI_move, opI_eql, Int.reduceBEq, h0]; rfl) ?_))
      refine W_cond (by simp only [PArg.eval, Tr.get_set_self, Tr.get_set_ne, hd _, ne_eq, Nat.reduceEqDiff, not_false_eq_true, decide_true, Nat.reduceLT]; rfl) (fun _ => ?_) (fun hb => by simp at hb)
      refine W_seq (W_trace rfl (by simp only [sameN_self, evalArgs_nil, evalArgs_tmp, val1, putT, Tr.get_set_self, Tr.get_set_ne, hd _, ne_eq, Nat.reduceEqDiff, not_false_eq_true, decide_true, Nat.reduceLT, opI_move, opI_eql, opI_callF, opI_fieldP, Nat.zero_add, trace_nil, trace_read, trace_eff, addR_some, addE_some, Bool.and_true, Bool.not_false, h1, e1, e2, hs, LM2, n0, n1, n2]; rfl) (by simp [checkRec, isLoad, sameAt, L3B, LM1, LM2, AV.beq]) rfl (W_ret ?_))
      rw [ap_read]
      cases hb : sum64 xs == x with
      | true => exact ⟨_, fin_tmp2 (by simp only [Tr.get_set_self, Tr.get_set_ne, Tr.isSome_set, Option.isSome_some, hd _, ne_eq, Nat.reduceEqDiff, not_false_eq_true, decide_true, Nat.reduceLT]; try rfl) (by simp only [Tr.get_set_self, Tr.get_set_ne, Tr.isSome_set, Option.isSome_some, hd _, ne_eq, Nat.reduceEqDiff, not_false_eq_true, decide_true, Nat.reduceLT]; try rfl), leaf s2 o2 rfl⟩
      | false => exact ⟨_, fin_tmp2 (by simp only [Tr.get_set_self, Tr.get_set_ne, Tr.isSome_set, Option.isSome_some, hd _, ne_eq, Nat.reduceEqDiff, not_false_eq_true, decide_true, Nat.reduceLT]; try rfl) (by simp only [Tr.get_set_self, Tr.get_set_ne, Tr.isSome_set, Option.isSome_some, hd _, ne_eq, Nat.reduceEqDiff, not_false_eq_true, decide_true, Nat.reduceLT]; try rfl), _, rfl, s0.trans s2, fun ys h => by cases h⟩
    have h4' : (k == 4) = false := by simpa using h4
    refine W_seq (W_seq (W_seqR (by simp only [runSeq_cons, runSeq_nil, evalArgs_nil, evalArgs_tmp, evalArgs_const, val1, putT, Tr.get_set_self, Tr.get_set_ne, hd _, ne_eq, Nat.reduceEqDiff, not_false_eq_true, decide_true, Nat.reduceLT, opI_move, opI_eql, h0]; rfl) ?_))
    refine W_cond (by simp only [PArg.eval, Tr.get_set_self, Tr.get_set_ne, hd _, ne_eq, Nat.reduceEqDiff, not_false_eq_true, decide_true, Nat.reduceLT, h4']; rfl) (fun hb => by simp at hb) (fun _ => W_skip ?_)
    show W _ _
    have lv := hv0.len
    refine W_seq (W_seq (W_seqR (by simp only [runSeq_cons, runSeq_nil, evalArgs_nil, evalArgs_const, val1, putT, opI_move]; rfl) (W_block (W_loop (fun m t M' => ∃ i : Nat, m + i = xs.length ∧ M' = B ∧ Dom t 107 ∧ t.get 0 = some (.int .i64 k) ∧ t.get 1 = some v ∧ t.get 5 = some (.ptr (some (M.n, 0))) ∧ t.get 8 = some (.int .i64 i) ∧ ∀ j, j < i → (hl : j < xs.length) → ¬(xs[j] = x ∧ hit k xs.length j)) (k := xs.length) (by omega) ?_ ?_))))
    · exact ⟨0, rfl, rfl, by ((repeat (with_reducible apply Dom.set)); exact hd), by simp only [Tr.get_set_ne, ne_eq, Nat.reduceEqDiff, not_false_eq_true, h0], by simp only [Tr.get_set_ne, ne_eq, Nat.reduceEqDiff, not_false_eq_true, h1], by simp only [Tr.get_set_self, Tr.get_set_ne, hd _, ne_eq, Nat.reduceEqDiff, not_false_eq_true, decide_true, Nat.reduceLT], by simp only [Tr.get_set_self, Tr.get_set_ne, hd _, ne_eq, Nat.reduceEqDiff, not_false_eq_true, decide_true, Nat.reduceLT]; rfl, fun j hj => by omega⟩
    clear h0 h1 h2 hd
    intro m t' M' ⟨i, hk, hM, hd, h0, h1, h5, h8, hj⟩
    subst hM
    refine W_seq (W_seq (W_seqR (by simp only [runSeq_cons, runSeq_nil, evalArgs_nil, evalArgs_tmp, val1, putT, Tr.get_set_self, Tr.get_set_ne, hd _, ne_eq, Nat.reduceEqDiff, not_false_eq_true, decide_true, Nat.reduceLT, opI_move, opI_lss, h1, h8, lv]; rfl) ?_))
    refine W_cond (by simp only [PArg.eval, Tr.get_set_self, Tr.get_set_ne, hd _, ne_eq, Nat.reduceEqDiff, not_false_eq_true, decide_true, Nat.reduceLT]; rfl) (fun hb => ?_) (fun hb => ?_)
    rotate_left
    · refine W_exit ?_
      have hin : i = xs.length := by simp at hb; omega
      show W _ _
      refine W_seq (W_seqR (by simp only [runSeq_cons, runSeq_nil, evalArgs_nil, evalArgs_const, val1, putT, opI_move]; rfl) (W_ret ?_))
      rw [ap_none (by omega) (by omega) hn (fun j hl => hj j (by omega) hl)]
      exact ⟨_, fin_tmp2 (by simp only [Tr.get_set_self, Tr.get_set_ne, hd _, ne_eq, Nat.reduceEqDiff, not_false_eq_true, decide_true, Nat.reduceLT]; try rfl) (by simp only [Tr.get_set_self, Tr.get_set_ne, hd _, ne_eq, Nat.reduceEqDiff, not_false_eq_true, decide_true, Nat.reduceLT]; try rfl), _, rfl, s0, fun ys h => by cases h⟩
    have hin : i < xs.length := by simpa using hb
    obtain ⟨p, e1, e2⟩ := hv0.at_ hin
    refine W_skip ?_
    show W _ _
    have hwl : wrapF .i64 ((xs.length : Int) - 1) = ((xs.length : Int) - 1) := wrapF_small (by omega) (by omega)
    have hwi : wrapF .i64 ((i : Int) + 1) = ((i + 1 : Nat) : Int) := by rw [wrapF_small (by omega) (by omega)]; rfl
    have next : ¬(xs[i] = x ∧ hit k xs.length i) → ∀ j, j < i + 1 → (hl : j < xs.length) → ¬(xs[j] = x ∧ hit k xs.length j) := by
      intro hno j hji hl
      rcases Nat.lt_or_ge j i with h | h
      · exact hj j h hl
      · have : j = i := by omega
        subst this; exact hno
    by_cases hx : xs[i] = x
    rotate_left
    · have hx' : (xs[i] == x) = false := by simpa using hx
      refine W_seq (W_block (W_seq (W_quiet rfl (by simp only [runPure_cons, runPure_nil, ofD_cons, ofD_nil, sameN_self, evalArgs_nil, evalArgs_tmp, evalArgs_const, putT, Tr.get_set_self, Tr.get_set_ne, Tr.isSome_set, hd _, ne_eq, Nat.reduceEqDiff, not_false_eq_true, decide_true, Nat.reduceLT, opI_move, opI_eql, opI_fieldP, opI_pick, Nat.zero_add, runPure_guard (b := false), Bool.false_beq, Bool.not_true, runPure_skip, h1, h5, h8, e1, e2, L3B, hx']; rfl) ?_)))
      refine W_cond (by simp only [PArg.eval, Tr.get_set_self, Tr.get_set_ne, hd _, ne_eq, Nat.reduceEqDiff, not_false_eq_true, decide_true, Nat.reduceLT]; rfl) (fun hb => by simp at hb) (fun _ => W_skip ?_)
      show W _ _
      refine W_seqR (by simp only [runSeq_cons, runSeq_nil, evalArgs_nil, evalArgs_tmp, evalArgs_const, val1, putT, Tr.get_set_self, Tr.get_set_ne, hd _, ne_eq, Nat.reduceEqDiff, not_false_eq_true, decide_true, Nat.reduceLT, opI_move, opI_add, h8]; rfl) ?_
      refine ⟨m - 1, by omega, i + 1, by omega, rfl, by ((repeat (with_reducible apply Dom.set)); exact hd), by simp only [Tr.get_set_ne, ne_eq, Nat.reduceEqDiff, not_false_eq_true, h0], by simp only [Tr.get_set_ne, ne_eq, Nat.reduceEqDiff, not_false_eq_true, h1], by simp only [Tr.get_set_ne, ne_eq, Nat.reduceEqDiff, not_false_eq_true, h5], by simp only [Tr.get_set_self, Tr.get_set_ne, hd _, ne_eq, Nat.reduceEqDiff, not_false_eq_true, decide_true, Nat.reduceLT, hwi], next ?_⟩
      exact fun h => hx h.1
    have hx' : (xs[i] == x) = true := by simpa using hx
    have hk3 : k = 1 ∨ k = 2 ∨ k = 3 := by omega
    rcases hk3 with rfl | rfl | rfl
    · obtain ⟨r, M2, ec, s2, o2⟩ := refwithout_ok d M' hv0 hw s0.ok (by omega) hin
      have fin := leaf s2 o2 (ap_found (k := 1) (x := x) (by decide) (by decide) hn hin hx (.inl rfl) hj)
      refine W_seq (W_block (W_seq (W_quiet rfl (by simp only [runPure_cons, runPure_nil, ofD_cons, ofD_nil, sameN_self, evalArgs_nil, evalArgs_tmp, evalArgs_const, putT, Tr.get_set_self, Tr.get_set_ne, Tr.isSome_set, hd _, ne_eq, Nat.reduceEqDiff, not_false_eq_true, decide_true, Nat.reduceLT, opI_move, opI_eql, opI_fieldP, opI_pick, Nat.zero_add, runPure_guard (b := true), beq_self_eq_true, Bool.true_beq, runPure_skip, h0, h1, h5, h8, e1, e2, L3B, hx']; rfl) ?_)))
      refine W_cond (by simp only [PArg.eval, Tr.get_set_self, Tr.get_set_ne, hd _, ne_eq, Nat.reduceEqDiff, not_false_eq_true, decide_true, Nat.reduceLT]; rfl) (fun _ => ?_) (fun hb => by simp at hb)
      refine W_seq (W_seqR (by simp only [runSeq_cons, runSeq_nil, evalArgs_nil, evalArgs_tmp, evalArgs_const, val1, putT, Tr.get_set_self, Tr.get_set_ne, hd _, ne_eq, Nat.reduceEqDiff, not_false_eq_true, decide_true, Nat.reduceLT, opI_move, opI_callF, h1, h8, ec]; rfl) (W_ret ?_))
      exact ⟨_, fin_tmp2 (by simp only [Tr.get_set_self, Tr.get_set_ne, hd _, ne_eq, Nat.reduceEqDiff, not_false_eq_true, decide_true, Nat.reduceLT]; try rfl) (by simp only [Tr.get_set_self, Tr.get_set_ne, hd _, ne_eq, Nat.reduceEqDiff, not_false_eq_true, decide_true, Nat.reduceLT]; try rfl), fin⟩
    · by_cases hi0 : i = 0
      · have hi0' : ((i : Int) == 0) = true := by simpa using hi0
        obtain ⟨r, M2, ec, s2, o2⟩ := refwithout_ok d M' hv0 hw s0.ok (by omega) hin
        have fin := leaf s2 o2 (ap_found (k := 2) (x := x) (by decide) (by decide) hn hin hx (.inr (.inl ⟨rfl, hi0⟩)) hj)
        refine W_seq (W_block (W_seq (W_quiet rfl (by simp only [runPure_cons, runPure_nil, ofD_cons, ofD_nil, sameN_self, evalArgs_nil, evalArgs_tmp, evalArgs_const, putT, Tr.get_set_self, Tr.get_set_ne, Tr.isSome_set, hd _, ne_eq, Nat.reduceEqDiff, not_false_eq_true, decide_true, Nat.reduceLT, opI_move, opI_eql, opI_fieldP, opI_pick, Nat.zero_add, Int.reduceBEq, runPure_guard (b := true), runPure_guard (b := false), beq_self_eq_true, Bool.true_beq, runPure_skip, h0, h1, h5, h8, e1, e2, L3B, hx', hi0']; rfl) ?_)))
        refine W_cond (by simp only [PArg.eval, Tr.get_set_self, Tr.get_set_ne, hd _, ne_eq, Nat.reduceEqDiff, not_false_eq_true, decide_true, Nat.reduceLT]; rfl) (fun _ => ?_) (fun hb => by simp at hb)
        refine W_seq (W_seqR (by simp only [runSeq_cons, runSeq_nil, evalArgs_nil, evalArgs_tmp, evalArgs_const, val1, putT, Tr.get_set_self, Tr.get_set_ne, hd _, ne_eq, Nat.reduceEqDiff, not_false_eq_true, decide_true, Nat.reduceLT, opI_move, opI_callF, h1, h8, ec]; rfl) (W_ret ?_))
        exact ⟨_, fin_tmp2 (by simp only [Tr.get_set_self, Tr.get_set_ne, hd _, ne_eq, Nat.reduceEqDiff, not_false_eq_true, decide_true, Nat.reduceLT]; try rfl) (by simp only [Tr.get_set_self, Tr.get_set_ne, hd _, ne_eq, Nat.reduceEqDiff, not_false_eq_true, decide_true, Nat.reduceLT]; try rfl), fin⟩
      · have hi0' : ((i : Int) == 0) = false := by simpa using hi0
        refine W_seq (W_block (W_seq (W_quiet rfl (by simp only [runPure_cons, runPure_nil, ofD_cons, ofD_nil, sameN_self, evalArgs_nil, evalArgs_tmp, evalArgs_const, putT, Tr.get_set_self, Tr.get_set_ne, Tr.isSome_set, hd _, ne_eq, Nat.reduceEqDiff, not_false_eq_true, decide_true, Nat.reduceLT, opI_move, opI_eql, opI_fieldP, opI_pick, Nat.zero_add, Int.reduceBEq, runPure_guard (b := true), runPure_guard (b := false), beq_self_eq_true, Bool.false_beq, Bool.not_true, h0, h1, h5, h8, e1, e2, L3B, hx', hi0']; rfl) ?_)))
        refine W_cond (by simp only [PArg.eval, Tr.get_set_self, Tr.get_set_ne, hd _, ne_eq, Nat.reduceEqDiff, not_false_eq_true, decide_true, Nat.reduceLT]; rfl) (fun hb => by simp at hb) (fun _ => W_skip ?_)
        show W _ _
        refine W_seqR (by simp only [runSeq_cons, runSeq_nil, evalArgs_nil, evalArgs_tmp, evalArgs_const, val1, putT, Tr.get_set_self, Tr.get_set_ne, hd _, ne_eq, Nat.reduceEqDiff, not_false_eq_true, decide_true, Nat.reduceLT, opI_move, opI_add, h8]; rfl) ?_
        refine ⟨m - 1, by omega, i + 1, by omega, rfl, by ((repeat (with_reducible apply Dom.set)); exact hd), by simp only [Tr.get_set_ne, ne_eq, Nat.reduceEqDiff, not_false_eq_true, h0], by simp only [Tr.get_set_ne, ne_eq, Nat.reduceEqDiff, not_false_eq_true, h1], by simp only [Tr.get_set_ne, ne_eq, Nat.reduceEqDiff, not_false_eq_true, h5], by simp only [Tr.get_set_self, Tr.get_set_ne, hd _, ne_eq, Nat.reduceEqDiff, not_false_eq_true, decide_true, Nat.reduceLT, hwi], next ?_⟩
        exact fun h => by rcases h.2 with h | h | h <;> omega
    · by_cases hi0 : i + 1 = xs.length
      · have hi0' : ((i : Int) == (xs.length : Int) - 1) = true := by simp; omega
        obtain ⟨r, M2, ec, s2, o2⟩ := refwithout_ok d M' hv0 hw s0.ok (by omega) hin
        have fin := leaf s2 o2 (ap_found (k := 3) (x := x) (by decide) (by decide) hn hin hx (.inr (.inr ⟨rfl, hi0⟩)) hj)
        refine W_seq (W_block (W_seq (W_quiet rfl (by simp only [runPure_cons, runPure_nil, ofD_cons, ofD_nil, sameN_self, evalArgs_nil, evalArgs_tmp, evalArgs_const, putT, Tr.get_set_self, Tr.get_set_ne, Tr.isSome_set, hd _, ne_eq, Nat.reduceEqDiff, not_false_eq_true, decide_true, Nat.reduceLT, opI_move, opI_eql, opI_sub, opI_fieldP, opI_pick, Nat.zero_add, Int.reduceBEq, runPure_guard (b := true), runPure_guard (b := false), beq_self_eq_true, Bool.false_beq, Bool.not_true, h0, h1, h5, h8, e1, e2, L3B, hx', hi0', lv, hwl]; rfl) ?_)))
        refine W_cond (by simp only [PArg.eval, Tr.get_set_self, Tr.get_set_ne, hd _, ne_eq, Nat.reduceEqDiff, not_false_eq_true, decide_true, Nat.reduceLT]; rfl) (fun _ => ?_) (fun hb => by simp at hb)
        refine W_seq (W_seqR (by simp only [runSeq_cons, runSeq_nil, evalArgs_nil, evalArgs_tmp, evalArgs_const, val1, putT, Tr.get_set_self, Tr.get_set_ne, hd _, ne_eq, Nat.reduceEqDiff, not_false_eq_true, decide_true, Nat.reduceLT, opI_move, opI_callF, h1, h8, ec]; rfl) (W_ret ?_))
        exact ⟨_, fin_tmp2 (by simp only [Tr.get_set_self, Tr.get_set_ne, hd _, ne_eq, Nat.reduceEqDiff, not_false_eq_true, decide_true, Nat.reduceLT]; try rfl) (by simp only [Tr.get_set_self, Tr.get_set_ne, hd _, ne_eq, Nat.reduceEqDiff, not_false_eq_true, decide_true, Nat.reduceLT]; try rfl), fin⟩
      · have hi0' : ((i : Int) == (xs.length : Int) - 1) = false := by simp; omega
        refine W_seq (W_block (W_seq (W_quiet rfl (by simp only [runPure_cons, runPure_nil, ofD_cons, ofD_nil, sameN_self, evalArgs_nil, evalArgs_tmp, evalArgs_const, putT, Tr.get_set_self, Tr.get_set_ne, Tr.isSome_set, hd _, ne_eq, Nat.reduceEqDiff, not_false_eq_true, decide_true, Nat.reduceLT, opI_move, opI_eql, opI_sub, opI_fieldP, opI_pick, Nat.zero_add, Int.reduceBEq, runPure_guard (b := true), runPure_guard (b := false), beq_self_eq_true, Bool.false_beq, Bool.not_true, h0, h1, h5, h8, e1, e2, L3B, hx', hi0', lv, hwl]; rfl) ?_)))
        refine W_cond (by simp only [PArg.eval, Tr.get_set_self, Tr.get_set_ne, hd _, ne_eq, Nat.reduceEqDiff, not_false_eq_true, decide_true, Nat.reduceLT]; rfl) (fun hb => by simp at hb) (fun _ => W_skip ?_)
        show W _ _
        refine W_seqR (by simp only [runSeq_cons, runSeq_nil, evalArgs_nil, evalArgs_tmp, evalArgs_const, val1, putT, Tr.get_set_self, Tr.get_set_ne, hd _, ne_eq, Nat.reduceEqDiff, not_false_eq_true, decide_true, Nat.reduceLT, opI_move, opI_add, h8]; rfl) ?_
        refine ⟨m - 1, by omega, i + 1, by omega, rfl, by ((repeat (with_reducible apply Dom.set)); exact hd), by simp only [Tr.get_set_ne, ne_eq, Nat.reduceEqDiff, not_false_eq_true, h0], by simp only [Tr.get_set_ne, ne_eq, Nat.reduceEqDiff, not_false_eq_true, h1], by simp only [Tr.get_set_ne, ne_eq, Nat.reduceEqDiff, not_false_eq_true, h5], by simp only [Tr.get_set_self, Tr.get_set_ne, hd _, ne_eq, Nat.reduceEqDiff, not_false_eq_true, decide_true, Nat.reduceLT, hwi], next ?_⟩
        exact fun h => by rcases h.2 with h | h | h <;> omega
end Go.Proofs.Ytefcnhmbpkdlmaa.model
