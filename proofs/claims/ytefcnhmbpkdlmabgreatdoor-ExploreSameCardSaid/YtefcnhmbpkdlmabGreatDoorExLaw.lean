/- ExploreSame, the walk of the law itself. -/
import Derived.Test.YtefcnhmbpkdlmabGreatDoorExSame
namespace Go.Proofs.YtefcnhmbpkdlmabGreatDoor.exploreSame
open Go Go.Vx

/-- all that were looked at are the same -/
def allB (c1 c2 v1 v2 : Nat → Int) (n1 n2 : Nat → Nat) (f1 f2 : Nat → Nat → Int) (i : Nat) : Bool := decide (∀ j, j < i → resAt c1 c2 v1 v2 n1 n2 f1 f2 j = true)
theorem allB_succ {c1 c2 v1 v2 : Nat → Int} {n1 n2 : Nat → Nat} {f1 f2 : Nat → Nat → Int} {i : Nat} : allB c1 c2 v1 v2 n1 n2 f1 f2 (i + 1) = (allB c1 c2 v1 v2 n1 n2 f1 f2 i && resAt c1 c2 v1 v2 n1 n2 f1 f2 i) := by
  unfold allB
  rw [Bool.eq_iff_iff]
  simp only [decide_eq_true_eq, Bool.and_eq_true]
  constructor
  · intro h; exact ⟨fun j hj => h j (by omega), h i (by omega)⟩
  · rintro ⟨h1, h2⟩ j hj
    rcases Nat.lt_or_ge j i with h | h
    · exact h1 j h
    · rw [show j = i by omega]; exact h2
/-- the four arguments are where they were -/
structure Four (t : Tr AV) (a b x y : AV) : Prop where
  d : Dom t 90
  h0 : t.get 0 = some a
  h1 : t.get 1 = some b
  h2 : t.get 2 = some x
  h3 : t.get 3 = some y
theorem W_abs {call : FuncId → List AV → AMem → Option (AV × AMem)} {N : Nat} {c : PCode} {t : Tr AV} {M : AMem} {Q : PEx → Tr AV → AMem → Prop} (P : Tr AV → Prop) (hp : P t) (h : ∀ t', P t' → W (exec call N c t' M) Q) : W (exec call N c t M) Q := h t hp
set_option maxHeartbeats 4000000 in
theorem law_ok {G : Addr → Option AV} {pa pb px py : Option Addr} {ca cb cx cy : Nat} {n m nx ny : Nat} {c1 v1 c2 v2 : Nat → Int} {l1 l2 : Nat → AV} {n1 n2 : Nat → Nat} {f1 f2 : Nat → Nat → Int} {fx fy : Nat → Int}
    (hA : RdR G (.rslice pa n ca) n c1 v1 l1 n1 f1) (hB : RdR G (.rslice pb m cb) m c2 v2 l2 n2 f2) (hX : RdI G .u64 (.rslice px nx cx) nx fx) (hY : RdI G .u64 (.rslice py ny cy) ny fy) (d : Nat) (M : AMem) (hG : M.g = G) (hok : Ok M) :
    Ans (callF tbl code 100000 (d + 6)) 3 [.rslice pa n ca, .rslice pb m cb, .rslice px nx cx, .rslice py ny cy] M fun r _ => r = .bool true := by
  refine Ans_of (tbl_none (by decide) _) (show code 3 = some c3 from by kernel_rfl) (by simp) fun t hd ha => ?_
  have h0 := ha 0 _ rfl
  have h1 := ha 1 _ rfl
  have h2 := ha 2 _ rfl
  have h3 := ha 3 _ rfl
  clear ha
  have haw : callF tbl code 100000 (d + 5) 4 [] M = some (.bool true, M) := rfl
  refine W_seq (W_seqR (by simp only [runSeq_cons, runSeq_nil, evalArgs_nil, evalArgs_const, val1, putT, opI_move]; rfl) ?_)
  refine W_seq (W_seq (W_seqR (by simp only [runSeq_cons, runSeq_nil, evalArgs_nil, evalArgs_tmp, val1, putT, Tr.get_set_self, Tr.get_set_ne, hd _, ne_eq, Nat.reduceEqDiff, not_false_eq_true, decide_true, Nat.reduceLT, opI_not, opI_callF, haw]; rfl) ?_))
  refine W_cond (by simp only [PArg.eval, Tr.get_set_self, Tr.get_set_ne, hd _, ne_eq, Nat.reduceEqDiff, not_false_eq_true, decide_true, Nat.reduceLT]; rfl) (fun hb => by simp at hb) (fun hb => ?_)
  refine W_skip ?_
  clear hb
  refine W_abs (fun t => Four t (.rslice pa n ca) (.rslice pb m cb) (.rslice px nx cx) (.rslice py ny cy)) ⟨by (repeat (first | exact hd | apply Dom.set)), by simp only [Tr.get_set_ne, ne_eq, Nat.reduceEqDiff, not_false_eq_true, h0], by simp only [Tr.get_set_ne, ne_eq, Nat.reduceEqDiff, not_false_eq_true, h1], by simp only [Tr.get_set_ne, ne_eq, Nat.reduceEqDiff, not_false_eq_true, h2], by simp only [Tr.get_set_ne, ne_eq, Nat.reduceEqDiff, not_false_eq_true, h3]⟩ ?_
  clear h0 h1 h2 h3 hd t
  rintro t ⟨hd, h0, h1, h2, h3⟩
  -- too long
  rcases Nat.lt_or_ge 100 n with hna | hna
  · have e1 : decide ((n : Int) > 100) = true := by simp; omega
    refine W_seq (W_seq (W_seqR (by simp only [runSeq_cons, runSeq_nil, evalArgs_nil, evalArgs_tmp, evalArgs_const, val1, putT, Tr.get_set_self, Tr.get_set_ne, Tr.isSome_set, hd _, ne_eq, Nat.reduceEqDiff, not_false_eq_true, decide_true, Nat.reduceLT, opI_move, opI_gtr, opI_lenR, opI_pick, runSeq_guard (b := true), Bool.true_beq, h0, e1]; rfl) ?_))
    exact W_cond (by simp only [PArg.eval, Tr.get_set_self, Tr.get_set_ne, hd _, ne_eq, Nat.reduceEqDiff, not_false_eq_true, decide_true, Nat.reduceLT]; rfl) (fun _ => W_seq (W_seqR (by simp only [runSeq_cons, runSeq_nil, evalArgs_nil, evalArgs_const, val1, putT, opI_move]; rfl) (W_ret ⟨_, fin_tmp (by simp only [Tr.get_set_self, Tr.get_set_ne, hd _, ne_eq, Nat.reduceEqDiff, not_false_eq_true, decide_true, Nat.reduceLT]; try rfl), rfl⟩))) (fun hb => by simp at hb)
  have e1 : decide ((n : Int) > 100) = false := by simp; omega
  rcases Nat.lt_or_ge 100 m with hma | hma
  · have e2 : decide ((m : Int) > 100) = true := by simp; omega
    refine W_seq (W_seq (W_seqR (by simp only [runSeq_cons, runSeq_nil, evalArgs_nil, evalArgs_tmp, evalArgs_const, val1, putT, Tr.get_set_self, Tr.get_set_ne, Tr.isSome_set, hd _, ne_eq, Nat.reduceEqDiff, not_false_eq_true, decide_true, Nat.reduceLT, opI_move, opI_gtr, opI_lenR, opI_pick, runSeq_guard (b := true), runSeq_guard (b := false), beq_self_eq_true, Bool.true_beq, h0, h1, e1, e2]; rfl) ?_))
    exact W_cond (by simp only [PArg.eval, Tr.get_set_self, Tr.get_set_ne, hd _, ne_eq, Nat.reduceEqDiff, not_false_eq_true, decide_true, Nat.reduceLT]; rfl) (fun _ => W_seq (W_seqR (by simp only [runSeq_cons, runSeq_nil, evalArgs_nil, evalArgs_const, val1, putT, opI_move]; rfl) (W_ret ⟨_, fin_tmp (by simp only [Tr.get_set_self, Tr.get_set_ne, hd _, ne_eq, Nat.reduceEqDiff, not_false_eq_true, decide_true, Nat.reduceLT]; try rfl), rfl⟩))) (fun hb => by simp at hb)
  have e2 : decide ((m : Int) > 100) = false := by simp; omega
  rcases Nat.lt_or_ge 100 nx with hxa | hxa
  · have e3 : decide ((nx : Int) > 100) = true := by simp; omega
    refine W_seq (W_seq (W_seqR (by simp only [runSeq_cons, runSeq_nil, evalArgs_nil, evalArgs_tmp, evalArgs_const, val1, putT, Tr.get_set_self, Tr.get_set_ne, Tr.isSome_set, hd _, ne_eq, Nat.reduceEqDiff, not_false_eq_true, decide_true, Nat.reduceLT, opI_move, opI_gtr, opI_lenR, opI_pick, runSeq_guard (b := true), runSeq_guard (b := false), beq_self_eq_true, Bool.true_beq, h0, h1, h2, e1, e2, e3]; rfl) ?_))
    exact W_cond (by simp only [PArg.eval, Tr.get_set_self, Tr.get_set_ne, hd _, ne_eq, Nat.reduceEqDiff, not_false_eq_true, decide_true, Nat.reduceLT]; rfl) (fun _ => W_seq (W_seqR (by simp only [runSeq_cons, runSeq_nil, evalArgs_nil, evalArgs_const, val1, putT, opI_move]; rfl) (W_ret ⟨_, fin_tmp (by simp only [Tr.get_set_self, Tr.get_set_ne, hd _, ne_eq, Nat.reduceEqDiff, not_false_eq_true, decide_true, Nat.reduceLT]; try rfl), rfl⟩))) (fun hb => by simp at hb)
  have e3 : decide ((nx : Int) > 100) = false := by simp; omega
  rcases Nat.lt_or_ge 100 ny with hya | hya
  · have e4 : decide ((ny : Int) > 100) = true := by simp; omega
    refine W_seq (W_seq (W_seqR (by simp only [runSeq_cons, runSeq_nil, evalArgs_nil, evalArgs_tmp, evalArgs_const, val1, putT, Tr.get_set_self, Tr.get_set_ne, Tr.isSome_set, hd _, ne_eq, Nat.reduceEqDiff, not_false_eq_true, decide_true, Nat.reduceLT, opI_move, opI_gtr, opI_lenR, opI_pick, runSeq_guard (b := false), beq_self_eq_true, h0, h1, h2, h3, e1, e2, e3, e4]; rfl) ?_))
    exact W_cond (by simp only [PArg.eval, Tr.get_set_self, Tr.get_set_ne, hd _, ne_eq, Nat.reduceEqDiff, not_false_eq_true, decide_true, Nat.reduceLT]; rfl) (fun _ => W_seq (W_seqR (by simp only [runSeq_cons, runSeq_nil, evalArgs_nil, evalArgs_const, val1, putT, opI_move]; rfl) (W_ret ⟨_, fin_tmp (by simp only [Tr.get_set_self, Tr.get_set_ne, hd _, ne_eq, Nat.reduceEqDiff, not_false_eq_true, decide_true, Nat.reduceLT]; try rfl), rfl⟩))) (fun hb => by simp at hb)
  have e4 : decide ((ny : Int) > 100) = false := by simp; omega
  refine W_seq (W_seq (W_seqR (by simp only [runSeq_cons, runSeq_nil, evalArgs_nil, evalArgs_tmp, evalArgs_const, val1, putT, Tr.get_set_self, Tr.get_set_ne, Tr.isSome_set, hd _, ne_eq, Nat.reduceEqDiff, not_false_eq_true, decide_true, Nat.reduceLT, opI_move, opI_gtr, opI_lenR, opI_pick, runSeq_guard (b := false), beq_self_eq_true, h0, h1, h2, h3, e1, e2, e3, e4]; rfl) ?_))
  refine W_cond (by simp only [PArg.eval, Tr.get_set_self, Tr.get_set_ne, hd _, ne_eq, Nat.reduceEqDiff, not_false_eq_true, decide_true, Nat.reduceLT]; rfl) (fun hb => by simp at hb) (fun hb => ?_)
  refine W_skip ?_
  clear hb
  refine W_abs (fun t => Four t (.rslice pa n ca) (.rslice pb m cb) (.rslice px nx cx) (.rslice py ny cy)) ⟨by (repeat (first | exact hd | apply Dom.set)), by simp only [Tr.get_set_ne, ne_eq, Nat.reduceEqDiff, not_false_eq_true, h0], by simp only [Tr.get_set_ne, ne_eq, Nat.reduceEqDiff, not_false_eq_true, h1], by simp only [Tr.get_set_ne, ne_eq, Nat.reduceEqDiff, not_false_eq_true, h2], by simp only [Tr.get_set_ne, ne_eq, Nat.reduceEqDiff, not_false_eq_true, h3]⟩ ?_
  clear h0 h1 h2 h3 hd t
  rintro t ⟨hd, h0, h1, h2, h3⟩
  generalize hL : (((n : Int) == m) && eqB nx ny fx fy) = L
  refine W_seq (W.mono (Q := fun x t' M' => x = .normal ∧ M' = M ∧ Four t' (.rslice pa n ca) (.rslice pb m cb) (.rslice px nx cx) (.rslice py ny cy) ∧ t'.get 9 = some (.bool L)) ?_ ?_)
  · have he := same_ok hX hY (by omega) (d + 4) M hG
    rw [show d + 4 + 1 = d + 5 from rfl] at he
    cases hnm : ((n : Int) == m)
    all_goals
      rw [hnm] at hL
      refine W_seqR (by simp only [runSeq_cons, runSeq_nil, evalArgs_nil, evalArgs_tmp, evalArgs_const, val1, putT, Tr.get_set_self, Tr.get_set_ne, Tr.isSome_set, hd _, ne_eq, Nat.reduceEqDiff, not_false_eq_true, decide_true, Nat.reduceLT, opI_move, opI_eql, opI_callF, opI_lenR, opI_pick, runSeq_guard (b := true), runSeq_guard (b := false), beq_self_eq_true, Bool.false_beq, Bool.not_true, h0, h1, h2, h3, hnm, he]; rfl) ⟨rfl, rfl, ⟨by (repeat (first | exact hd | apply Dom.set)), by simp only [Tr.get_set_ne, ne_eq, Nat.reduceEqDiff, not_false_eq_true, h0], by simp only [Tr.get_set_ne, ne_eq, Nat.reduceEqDiff, not_false_eq_true, h1], by simp only [Tr.get_set_ne, ne_eq, Nat.reduceEqDiff, not_false_eq_true, h2], by simp only [Tr.get_set_ne, ne_eq, Nat.reduceEqDiff, not_false_eq_true, h3]⟩, ?_⟩
      simp only [Tr.get_set_self, Tr.get_set_ne, hd _, ne_eq, Nat.reduceEqDiff, not_false_eq_true, decide_true, Nat.reduceLT]
      rw [← hL]; simp
  clear h0 h1 h2 h3 hd haw
  rintro _ t' M' ⟨rfl, hM, ⟨hd, h0, h1, h2, h3⟩, h9⟩
  have hM := hM.symm
  subst hM
  show W _ _
  -- the loop
  refine W_seq (W.mono (Q := fun x t' M' => match x with
    | .normal => ∃ i : Nat, i ≤ n ∧ i ≤ m ∧ ¬ (i < n ∧ i < m) ∧ Grow M M' ∧ Four t' (.rslice pa n ca) (.rslice pb m cb) (.rslice px nx cx) (.rslice py ny cy) ∧ t'.get 9 = some (.bool (L && allB c1 c2 v1 v2 n1 n2 f1 f2 i)) ∧ ∀ j, j < i → n1 j ≤ 100 ∧ n2 j ≤ 100
    | .ret => t'.get 8 = some (.bool true)
    | .exit _ => False) ?_ ?_)
  · refine W_seq (W_seqR (by simp only [runSeq_cons, runSeq_nil, evalArgs_nil, evalArgs_const, val1, putT, opI_move]; rfl) (W_block (W_loop (fun k t' M' => ∃ i : Nat, k + i = n ∧ i ≤ m ∧ Grow M M' ∧ Four t' (.rslice pa n ca) (.rslice pb m cb) (.rslice px nx cx) (.rslice py ny cy) ∧ t'.get 9 = some (.bool (L && allB c1 c2 v1 v2 n1 n2 f1 f2 i)) ∧ t'.get 10 = some (.int .i64 i) ∧ ∀ j, j < i → n1 j ≤ 100 ∧ n2 j ≤ 100) (k := n) (by omega) ?_ ?_)))
    · refine ⟨0, rfl, by omega, Grow.refl _, ⟨by (repeat (first | exact hd | apply Dom.set)), by simp only [Tr.get_set_ne, ne_eq, Nat.reduceEqDiff, not_false_eq_true, h0], by simp only [Tr.get_set_ne, ne_eq, Nat.reduceEqDiff, not_false_eq_true, h1], by simp only [Tr.get_set_ne, ne_eq, Nat.reduceEqDiff, not_false_eq_true, h2], by simp only [Tr.get_set_ne, ne_eq, Nat.reduceEqDiff, not_false_eq_true, h3]⟩, ?_, by simp only [Tr.get_set_self, hd _, decide_true, Nat.reduceLT]; rfl, fun j hj => by omega⟩
      simp only [Tr.get_set_ne, ne_eq, Nat.reduceEqDiff, not_false_eq_true, h9]
      have : allB c1 c2 v1 v2 n1 n2 f1 f2 0 = true := by simp [allB]
      rw [this, Bool.and_true]
    clear h0 h1 h2 h3 hd h9
    intro k t' M' ⟨i, hk, him0, hgr, ⟨hd, h0, h1, h2, h3⟩, h9, h10, hj⟩
    have ok0 := hgr.ok hok
    have hG0 := hgr.g.trans hG
    by_cases hin : i < n
    rotate_left
    · have x1 : decide ((i : Int) < n) = false := by simp; omega
      refine W_seq (W_seq (W_seqR (by simp only [runSeq_cons, runSeq_nil, evalArgs_nil, evalArgs_tmp, evalArgs_const, val1, putT, Tr.get_set_self, Tr.get_set_ne, Tr.isSome_set, hd _, ne_eq, Nat.reduceEqDiff, not_false_eq_true, decide_true, Nat.reduceLT, opI_move, opI_lss, opI_lenR, opI_pick, runSeq_guard (b := false), Bool.false_beq, Bool.not_true, h0, h10, x1]; rfl) ?_))
      refine W_cond (by simp only [PArg.eval, Tr.get_set_self, Tr.get_set_ne, hd _, ne_eq, Nat.reduceEqDiff, not_false_eq_true, decide_true, Nat.reduceLT]; rfl) (fun hb => by simp at hb) (fun _ => W_exit ?_)
      show ∃ i : Nat, _
      exact ⟨i, by omega, him0, fun h => hin h.1, hgr, ⟨by (repeat (first | exact hd | apply Dom.set)), by simp only [Tr.get_set_ne, ne_eq, Nat.reduceEqDiff, not_false_eq_true, h0], by simp only [Tr.get_set_ne, ne_eq, Nat.reduceEqDiff, not_false_eq_true, h1], by simp only [Tr.get_set_ne, ne_eq, Nat.reduceEqDiff, not_false_eq_true, h2], by simp only [Tr.get_set_ne, ne_eq, Nat.reduceEqDiff, not_false_eq_true, h3]⟩, by simp only [Tr.get_set_ne, ne_eq, Nat.reduceEqDiff, not_false_eq_true, h9], hj⟩
    have x1 : decide ((i : Int) < n) = true := by simp; omega
    by_cases him : i < m
    rotate_left
    · have x2 : decide ((i : Int) < m) = false := by simp; omega
      refine W_seq (W_seq (W_seqR (by simp only [runSeq_cons, runSeq_nil, evalArgs_nil, evalArgs_tmp, evalArgs_const, val1, putT, Tr.get_set_self, Tr.get_set_ne, Tr.isSome_set, hd _, ne_eq, Nat.reduceEqDiff, not_false_eq_true, decide_true, Nat.reduceLT, opI_move, opI_lss, opI_lenR, opI_pick, runSeq_guard (b := true), beq_self_eq_true, h0, h1, h10, x1, x2]; rfl) ?_))
      refine W_cond (by simp only [PArg.eval, Tr.get_set_self, Tr.get_set_ne, hd _, ne_eq, Nat.reduceEqDiff, not_false_eq_true, decide_true, Nat.reduceLT]; rfl) (fun hb => by simp at hb) (fun _ => W_exit ?_)
      show ∃ i : Nat, _
      exact ⟨i, by omega, him0, fun h => him h.2, hgr, ⟨by (repeat (first | exact hd | apply Dom.set)), by simp only [Tr.get_set_ne, ne_eq, Nat.reduceEqDiff, not_false_eq_true, h0], by simp only [Tr.get_set_ne, ne_eq, Nat.reduceEqDiff, not_false_eq_true, h1], by simp only [Tr.get_set_ne, ne_eq, Nat.reduceEqDiff, not_false_eq_true, h2], by simp only [Tr.get_set_ne, ne_eq, Nat.reduceEqDiff, not_false_eq_true, h3]⟩, by simp only [Tr.get_set_ne, ne_eq, Nat.reduceEqDiff, not_false_eq_true, h9], hj⟩
    have x2 : decide ((i : Int) < m) = true := by simp; omega
    refine W_seq (W_seq (W_seqR (by simp only [runSeq_cons, runSeq_nil, evalArgs_nil, evalArgs_tmp, evalArgs_const, val1, putT, Tr.get_set_self, Tr.get_set_ne, Tr.isSome_set, hd _, ne_eq, Nat.reduceEqDiff, not_false_eq_true, decide_true, Nat.reduceLT, opI_move, opI_lss, opI_lenR, opI_pick, runSeq_guard (b := true), beq_self_eq_true, h0, h1, h10, x1, x2]; rfl) ?_))
    refine W_cond (by simp only [PArg.eval, Tr.get_set_self, Tr.get_set_ne, hd _, ne_eq, Nat.reduceEqDiff, not_false_eq_true, decide_true, Nat.reduceLT]; rfl) (fun _ => W_skip ?_) (fun hb => by simp at hb)
    refine W_abs (fun t => Four t (.rslice pa n ca) (.rslice pb m cb) (.rslice px nx cx) (.rslice py ny cy) ∧ t.get 9 = some (.bool (L && allB c1 c2 v1 v2 n1 n2 f1 f2 i)) ∧ t.get 10 = some (.int .i64 i)) ⟨⟨by (repeat (first | exact hd | apply Dom.set)), by simp only [Tr.get_set_ne, ne_eq, Nat.reduceEqDiff, not_false_eq_true, h0], by simp only [Tr.get_set_ne, ne_eq, Nat.reduceEqDiff, not_false_eq_true, h1], by simp only [Tr.get_set_ne, ne_eq, Nat.reduceEqDiff, not_false_eq_true, h2], by simp only [Tr.get_set_ne, ne_eq, Nat.reduceEqDiff, not_false_eq_true, h3]⟩, by simp only [Tr.get_set_ne, ne_eq, Nat.reduceEqDiff, not_false_eq_true, h9], by simp only [Tr.get_set_ne, ne_eq, Nat.reduceEqDiff, not_false_eq_true, h10]⟩ ?_
    clear h0 h1 h2 h3 hd h9 h10 t'
    rintro t' ⟨⟨hd, h0, h1, h2, h3⟩, h9, h10⟩
    obtain ⟨p, p1, p2, p3, hI1⟩ := rdR_at hA hin
    obtain ⟨q, q1, q2, q3, hI2⟩ := rdR_at hB him
    have p2 := p2 M' hG0
    have p3 := p3 M' hG0
    have q2 := q2 M' hG0
    have q3 := q3 M' hG0
    have ln1 := hI1.len M'
    have ln2 := hI2.len M'
    refine W_seq (W_block (W_seq (W_seq ?_)))
    rcases Nat.lt_or_ge 100 (n1 i) with hl1 | hl1
    · have y1 : decide ((n1 i : Int) > 100) = true := by simp; omega
      refine W_seqR (by simp only [runSeq_cons, runSeq_nil, evalArgs_nil, evalArgs_tmp, evalArgs_const, val1, putT, Tr.get_set_self, Tr.get_set_ne, Tr.isSome_set, hd _, ne_eq, Nat.reduceEqDiff, not_false_eq_true, decide_true, Nat.reduceLT, opI_move, opI_gtr, opI_fieldR, opI_pick, runSeq_guard (b := true), Bool.true_beq, h0, h10, p1, p3, ln1, y1]; rfl) ?_
      exact W_cond (by simp only [PArg.eval, Tr.get_set_self, Tr.get_set_ne, hd _, ne_eq, Nat.reduceEqDiff, not_false_eq_true, decide_true, Nat.reduceLT]; rfl) (fun _ => W_seq (W_seqR (by simp only [runSeq_cons, runSeq_nil, evalArgs_nil, evalArgs_const, val1, putT, opI_move]; rfl) (W_ret (by show Tr.get _ 8 = _; simp only [Tr.get_set_self, Tr.get_set_ne, hd _, ne_eq, Nat.reduceEqDiff, not_false_eq_true, decide_true, Nat.reduceLT])))) (fun hb => by simp at hb)
    have y1 : decide ((n1 i : Int) > 100) = false := by simp; omega
    rcases Nat.lt_or_ge 100 (n2 i) with hl2 | hl2
    · have y2 : decide ((n2 i : Int) > 100) = true := by simp; omega
      refine W_seqR (by simp only [runSeq_cons, runSeq_nil, evalArgs_nil, evalArgs_tmp, evalArgs_const, val1, putT, Tr.get_set_self, Tr.get_set_ne, Tr.isSome_set, hd _, ne_eq, Nat.reduceEqDiff, not_false_eq_true, decide_true, Nat.reduceLT, opI_move, opI_gtr, opI_fieldR, opI_pick, runSeq_guard (b := false), beq_self_eq_true, h0, h1, h10, p1, p3, q1, q3, ln1, ln2, y1, y2]; rfl) ?_
      exact W_cond (by simp only [PArg.eval, Tr.get_set_self, Tr.get_set_ne, hd _, ne_eq, Nat.reduceEqDiff, not_false_eq_true, decide_true, Nat.reduceLT]; rfl) (fun _ => W_seq (W_seqR (by simp only [runSeq_cons, runSeq_nil, evalArgs_nil, evalArgs_const, val1, putT, opI_move]; rfl) (W_ret (by show Tr.get _ 8 = _; simp only [Tr.get_set_self, Tr.get_set_ne, hd _, ne_eq, Nat.reduceEqDiff, not_false_eq_true, decide_true, Nat.reduceLT])))) (fun hb => by simp at hb)
    have y2 : decide ((n2 i : Int) > 100) = false := by simp; omega
    refine W_seqR (by simp only [runSeq_cons, runSeq_nil, evalArgs_nil, evalArgs_tmp, evalArgs_const, val1, putT, Tr.get_set_self, Tr.get_set_ne, Tr.isSome_set, hd _, ne_eq, Nat.reduceEqDiff, not_false_eq_true, decide_true, Nat.reduceLT, opI_move, opI_gtr, opI_fieldR, opI_pick, runSeq_guard (b := false), beq_self_eq_true, h0, h1, h10, p1, p3, q1, q3, ln1, ln2, y1, y2]; rfl) ?_
    refine W_cond (by simp only [PArg.eval, Tr.get_set_self, Tr.get_set_ne, hd _, ne_eq, Nat.reduceEqDiff, not_false_eq_true, decide_true, Nat.reduceLT]; rfl) (fun hb => by simp at hb) (fun _ => W_skip ?_)
    show W _ _
    refine W_abs (fun t => Four t (.rslice pa n ca) (.rslice pb m cb) (.rslice px nx cx) (.rslice py ny cy) ∧ t.get 9 = some (.bool (L && allB c1 c2 v1 v2 n1 n2 f1 f2 i)) ∧ t.get 10 = some (.int .i64 i)) ⟨⟨by (repeat (first | exact hd | apply Dom.set)), by simp only [Tr.get_set_ne, ne_eq, Nat.reduceEqDiff, not_false_eq_true, h0], by simp only [Tr.get_set_ne, ne_eq, Nat.reduceEqDiff, not_false_eq_true, h1], by simp only [Tr.get_set_ne, ne_eq, Nat.reduceEqDiff, not_false_eq_true, h2], by simp only [Tr.get_set_ne, ne_eq, Nat.reduceEqDiff, not_false_eq_true, h3]⟩, by simp only [Tr.get_set_ne, ne_eq, Nat.reduceEqDiff, not_false_eq_true, h9], by simp only [Tr.get_set_ne, ne_eq, Nat.reduceEqDiff, not_false_eq_true, h10]⟩ ?_
    clear h0 h1 h2 h3 hd h9 h10 t'
    rintro t' ⟨⟨hd, h0, h1, h2, h3⟩, h9, h10⟩
    refine W.mono (Q := fun x t' M'' => x = .normal ∧ Grow M M'' ∧ Four t' (.rslice pa n ca) (.rslice pb m cb) (.rslice px nx cx) (.rslice py ny cy) ∧ t'.get 9 = some (.bool (L && allB c1 c2 v1 v2 n1 n2 f1 f2 (i + 1))) ∧ t'.get 10 = some (.int .i64 i)) ?_ ?_
    · have hh := held_none ok0
      cases hlk : (L && allB c1 c2 v1 v2 n1 n2 f1 f2 i)
      · rw [hlk] at h9
        refine W_mix rfl (by simp only [sameN_self, evalArgs_nil, evalArgs_tmp, evalArgs_const, putT, Tr.get_set_self, Tr.get_set_ne, Tr.isSome_set, hd _, ne_eq, Nat.reduceEqDiff, not_false_eq_true, decide_true, Nat.reduceLT, opI_move, opI_pick, runMix_nil, runMix_read, runMix_guard (b := false), Bool.false_beq, Bool.not_true, h9]; rfl) ⟨rfl, hgr, ⟨by (repeat (first | exact hd | apply Dom.set)), by simp only [Tr.get_set_ne, ne_eq, Nat.reduceEqDiff, not_false_eq_true, h0], by simp only [Tr.get_set_ne, ne_eq, Nat.reduceEqDiff, not_false_eq_true, h1], by simp only [Tr.get_set_ne, ne_eq, Nat.reduceEqDiff, not_false_eq_true, h2], by simp only [Tr.get_set_ne, ne_eq, Nat.reduceEqDiff, not_false_eq_true, h3]⟩, ?_, by simp only [Tr.get_set_ne, ne_eq, Nat.reduceEqDiff, not_false_eq_true, h10]⟩
        simp only [Tr.get_set_self, Tr.get_set_ne, hd _, ne_eq, Nat.reduceEqDiff, not_false_eq_true, decide_true, Nat.reduceLT]
        rw [allB_succ, ← Bool.and_assoc, hlk, Bool.false_and]
      · rw [hlk] at h9
        obtain ⟨r, M5, hcall, G3, hr⟩ := res6_ok (c1 := c1 i) (c2 := c2 i) (v1 := v1 i) (v2 := v2 i) hI1 hI2 (by omega) (d + 3) M' hG0 ok0
        subst hr
        rw [show d + 3 + 2 = d + 5 from rfl] at hcall
        refine W_mix rfl (by simp only [sameN_self, evalArgs_nil, evalArgs_tmp, evalArgs_const, val1, putT, Tr.get_set_self, Tr.get_set_ne, Tr.isSome_set, hd _, ne_eq, Nat.reduceEqDiff, not_false_eq_true, decide_true, Nat.reduceLT, opI_move, opI_callF, opI_pick, runMix_nil, runMix_read, runMix_eff, runMix_guard (b := true), beq_self_eq_true, h9, h0, h1, h10, p1, p2, q1, q2, hh, hcall]; rfl) ⟨rfl, hgr.trans G3, ⟨by (repeat (first | exact hd | apply Dom.set)), by simp only [Tr.get_set_ne, ne_eq, Nat.reduceEqDiff, not_false_eq_true, h0], by simp only [Tr.get_set_ne, ne_eq, Nat.reduceEqDiff, not_false_eq_true, h1], by simp only [Tr.get_set_ne, ne_eq, Nat.reduceEqDiff, not_false_eq_true, h2], by simp only [Tr.get_set_ne, ne_eq, Nat.reduceEqDiff, not_false_eq_true, h3]⟩, ?_, by simp only [Tr.get_set_ne, ne_eq, Nat.reduceEqDiff, not_false_eq_true, h10]⟩
        simp only [Tr.get_set_self, Tr.get_set_ne, hd _, ne_eq, Nat.reduceEqDiff, not_false_eq_true, decide_true, Nat.reduceLT]
        rw [allB_succ, ← Bool.and_assoc, hlk, Bool.true_and]; rfl
    clear h0 h1 h2 h3 hd h9 h10
    rintro _ t'' M'' ⟨rfl, hgr', ⟨hd, h0, h1, h2, h3⟩, h9, h10⟩
    show W _ _
    refine W_seqR (by simp only [runSeq_cons, runSeq_nil, evalArgs_nil, evalArgs_tmp, evalArgs_const, val1, putT, Tr.get_set_self, Tr.get_set_ne, hd _, ne_eq, Nat.reduceEqDiff, not_false_eq_true, decide_true, Nat.reduceLT, opI_move, opI_add, h10]; rfl) ?_
    refine ⟨k - 1, by omega, i + 1, by omega, by omega, hgr', ⟨by (repeat (first | exact hd | apply Dom.set)), by simp only [Tr.get_set_ne, ne_eq, Nat.reduceEqDiff, not_false_eq_true, h0], by simp only [Tr.get_set_ne, ne_eq, Nat.reduceEqDiff, not_false_eq_true, h1], by simp only [Tr.get_set_ne, ne_eq, Nat.reduceEqDiff, not_false_eq_true, h2], by simp only [Tr.get_set_ne, ne_eq, Nat.reduceEqDiff, not_false_eq_true, h3]⟩, by simp only [Tr.get_set_ne, ne_eq, Nat.reduceEqDiff, not_false_eq_true, h9], ?_, fun j hj' => ?_⟩
    · simp only [Tr.get_set_self, Tr.get_set_ne, hd _, ne_eq, Nat.reduceEqDiff, not_false_eq_true, decide_true, Nat.reduceLT]
      rw [wrapF_small (by omega) (by omega)]; rfl
    · rcases Nat.lt_or_ge j i with h | h
      · exact hj j h
      · rw [show j = i by omega]; exact ⟨hl1, hl2⟩
  clear h0 h1 h2 h3 hd h9
  intro x t' M' hx
  cases x with
  | exit j => exact hx.elim
  | ret => exact ⟨_, fin_tmp hx, rfl⟩
  | normal =>
    obtain ⟨i, hi1, hi2, hi3, hgr, ⟨hd, h0, h1, h2, h3⟩, h9, hj⟩ := hx
    show W _ _
    have hl : n = m → ∀ i, i < n → n1 i < 90000 := fun hnm j hjn => by
      have := (hj j (by omega)).1; omega
    obtain ⟨r, M5, hcall, G3, hr⟩ := outs_ok hA hB hX hY (by omega) (by omega) hl (d + 1) M' (hgr.g.trans hG) (hgr.ok hok)
    subst hr
    rw [show d + 1 + 4 = d + 5 from rfl] at hcall
    have b1 : ∀ (p q : Option Addr) (a b c e : Nat) (M : AMem), opI (.build [.slice none 0 0 false, .slice none 0 0 false] [(0, 1), (1, 1)]) [.rslice p a b, .rslice q c e] M = some (.val (.agg [.rslice p a b, .rslice q c e]) M) := fun _ _ _ _ _ _ _ => rfl
    refine W_seq (W_seqR (by simp only [runSeq_cons, runSeq_nil, evalArgs_nil, evalArgs_tmp, val1, putT, Tr.get_set_self, Tr.get_set_ne, hd _, ne_eq, Nat.reduceEqDiff, not_false_eq_true, decide_true, Nat.reduceLT, opI_move, opI_eqBool, opI_callF, h0, h1, h2, h3, h9, b1, hcall]; rfl) (W_ret ⟨_, fin_tmp (by simp only [Tr.get_set_self, Tr.get_set_ne, hd _, ne_eq, Nat.reduceEqDiff, not_false_eq_true, decide_true, Nat.reduceLT]; rfl), ?_⟩))
    refine congrArg AV.bool ?_
    show xorB false _ = true
    unfold xorB
    rw [if_neg (by simp), beq_iff_eq]
    rw [← hL]
    unfold outB allB
    by_cases hnm : n = m
    · have hin : i = n := by omega
      subst hnm; subst hin
      simp [Bool.and_comm]
    · have : ((n : Int) == m) = false := by simp; omega
      rw [this]; simp [hnm]
end Go.Proofs.YtefcnhmbpkdlmabGreatDoor.exploreSame
