/- The walk of a timer's Add. -/
import Derived.Test.YtbjipmhdncfodaaTmDrop
namespace Go.Proofs.Ytbjipmhdncfodaa.grf
open Go Go.Vx
section
variable {M0 M : AMem} {J : Nat → Prop} {tb mb : Nat} {l : List En} {nn now : Int}
theorem TSh.put (h : TSh M0 M J tb mb l nn now) (nn' now' : Int) (o : Nat) (x : Int) (ho : o = 2 ∨ o = 3) (hc : ∀ v, (tC v (.map (some mb)) nn now).set o (.int .i64 x) = tC v (.map (some mb)) nn' now') :
    ∃ M', opI (.store 1) [.ptr (some (tb, o)), .int .i64 x] M = some (.val (.tuple []) M') ∧ Step M0 M' ∧ Fr M M' (· = tb) ∧ M'.n = M.n ∧ TSh M0 M' J tb mb l nn' now' := by
  obtain ⟨v, γ, g1, g2, g3⟩ := h.row
  obtain ⟨e, s, g, k⟩ := store1 (o := o) (x := .int .i64 x) h.step (h.jlo _ h.jt).1 g1 ⟨rfl, rfl⟩ (by rcases ho with rfl | rfl <;> simp)
  rw [hc v] at e s g k
  refine ⟨_, e, s, Fr.set g1, rfl, ⟨s, h.jlo, h.jt, h.jm, h.ne, h.jx, h.nb, h.ents.frame (Fr.set (k := .cells (tC v (.map (some mb)) nn' now') 0 true none) g1) (fun y hy he => (h.jx y hy).2.1 he), ⟨v, γ, g, ?_, g3⟩, h.heap, h.len⟩⟩
  rcases g3 with ⟨rfl, rfl⟩ | ⟨j, j1, _⟩
  · exact .inl ⟨rfl, rfl⟩
  · exact g2.frame (Fr.set (k := .cells (tC v (.map (some mb)) nn' now') 0 true none) g1) (fun he => j1 he)
set_option maxRecDepth 20000 in
set_option maxHeartbeats 2000000 in
theorem add_ok (h : TS M0 M J tb mb l nn now) (d : Nat) (at_ task : Int) (hl : l.length < 1000) (hnn : 0 ≤ nn ∧ nn ≤ 100000) : Ans (callF tbl code 100000 (d + 7)) 7 [.ptr (some (tb, 0)), .int .i64 at_, .int .u64 task] M fun r M' => Step M0 M' ∧ M.n ≤ M'.n ∧ Fr M M' J ∧
    ((chk at_ now = 0 ∧ r = .tuple [.int .i64 nn, .int .i64 0] ∧ ∃ x l' J', x.at_ = at_ ∧ x.task = task ∧ x.n = nn ∧ l'.Perm (l ++ [x]) ∧ TS M0 M' J' tb mb l' (nn + 1) now ∧ ∀ i, J' i → J i ∨ M.n ≤ i) ∨ (chk at_ now ≠ 0 ∧ r = .tuple [.int .i64 0, .int .i64 (chk at_ now)] ∧ M' = M)) := by
  refine Ans_of (tbl_none (by decide) _) (show code 7 = some c7 from by kernel_rfl) (by simp) fun t hd ha => ?_
  have h0 := ha 0 _ rfl
  have h1 := ha 1 _ rfl
  have h2 := ha 2 _ rfl
  clear ha
  have ck := check_ok h.h (d + 5) at_
  refine W_seq (W_seqR (by simp only [runSeq_cons, runSeq_nil, evalArgs_nil, evalArgs_const, val1, putT, opI_move]; rfl) (W_seq (W_seq (W_seqR (by simp only [runSeq_cons, runSeq_nil, evalArgs_nil, evalArgs_tmp, val1, putT, Tr.get_set_self, Tr.get_set_ne, hd _, ne_eq, Nat.reduceEqDiff, not_false_eq_true, decide_true, Nat.reduceLT, opI_move, opI_callF, h0, h1, ck]; rfl) ?_))))
  by_cases c0 : chk at_ now = 0
  rotate_left
  · have e1 : (chk at_ now != 0) = true := by simpa using c0
    refine W_seq (W_seqR (by simp only [runSeq_cons, runSeq_nil, evalArgs_nil, evalArgs_tmp, evalArgs_const, val1, putT, Tr.get_set_self, Tr.get_set_ne, hd _, ne_eq, Nat.reduceEqDiff, not_false_eq_true, decide_true, Nat.reduceLT, opI_move, opI_neq, e1]; rfl) ?_)
    refine W_cond (b := true) (by simp only [PArg.eval, Tr.get_set_self, Tr.get_set_ne, hd _, ne_eq, Nat.reduceEqDiff, not_false_eq_true, decide_true, Nat.reduceLT]; try rfl) (fun _ => ?_) (fun hb => by cases hb)
    refine W_seq (W_seqR (by simp only [runSeq_cons, runSeq_nil, evalArgs_nil, evalArgs_tmp, evalArgs_const, val1, putT, Tr.get_set_self, Tr.get_set_ne, hd _, ne_eq, Nat.reduceEqDiff, not_false_eq_true, decide_true, Nat.reduceLT, opI_move]; rfl) (W_ret ?_))
    exact ⟨_, fin_tmp2 (by simp only [Tr.get_set_self, Tr.get_set_ne, Option.isSome_some, hd _, ne_eq, Nat.reduceEqDiff, not_false_eq_true, decide_true, Nat.reduceLT]; try rfl) (by simp only [Tr.get_set_self, Tr.get_set_ne, Tr.isSome_set, Option.isSome_some, hd _, ne_eq, Nat.reduceEqDiff, not_false_eq_true, decide_true, Nat.reduceLT]; try rfl), h.h.step, Nat.le_refl _, Fr.refl, .inr ⟨c0, rfl, rfl⟩⟩
  have e1 : (chk at_ now != 0) = false := by simpa using c0
  refine W_seq (W_seqR (by simp only [runSeq_cons, runSeq_nil, evalArgs_nil, evalArgs_tmp, evalArgs_const, val1, putT, Tr.get_set_self, Tr.get_set_ne, hd _, ne_eq, Nat.reduceEqDiff, not_false_eq_true, decide_true, Nat.reduceLT, opI_move, opI_neq, e1]; rfl) ?_)
  refine W_cond (b := false) (by simp only [PArg.eval, Tr.get_set_self, Tr.get_set_ne, hd _, ne_eq, Nat.reduceEqDiff, not_false_eq_true, decide_true, Nat.reduceLT]; try rfl) (fun hb => by cases hb) (fun _ => W_skip ?_)
  show W _ _
  -- the new entry
  obtain ⟨x, hx⟩ : ∃ x : En, x = ⟨at_, task, nn, M.n⟩ := ⟨_, rfl⟩
  have xa : x.at_ = at_ := by rw [hx]
  have xt : x.task = task := by rw [hx]
  have xn : x.n = nn := by rw [hx]
  have xb : x.b = M.n := by rw [hx]
  obtain ⟨_, p2, _⟩ := h.h.now_
  have b1 : opI (.build [(.int .i64 0), (.int .u64 0)] [(0, 1), (1, 1)]) [.int .i64 at_, .int .u64 task] M = some (.val (.agg [.int .i64 at_, .int .u64 task]) M) := rfl
  have b2 : opI (.build [(.int .i64 0), (.int .u64 0), (.int .i64 0), (.int .i64 0)] [(0, 2), (2, 1)]) [.agg [.int .i64 at_, .int .u64 task], .int .i64 nn] M = some (.val (.agg (eC x 0)) M) := by rw [hx]; rfl
  have b3 : opI .box [.agg (eC x 0)] M = some (.val (pP x) (M.push (.cells (eC x 0) 0 true none))) := by
    show _ = some (SR.val (.ptr (some (x.b, 0))) _)
    rw [xb]; rfl
  refine W_seq (W_seqR (by simp only [runSeq_cons, runSeq_nil, evalArgs_nil, evalArgs_tmp, val1, putT, Tr.get_set_self, Tr.get_set_ne, hd _, ne_eq, Nat.reduceEqDiff, not_false_eq_true, decide_true, Nat.reduceLT, opI_move, opI_fieldP, Nat.zero_add, h0, h1, h2, opI_nilP, p2, b1, b2, b3]; rfl) ?_)
  have s1 := h.h.step.push (k := .cells (eC x 0) 0 true none) (fun _ _ _ _ he => by cases he)
  have f1 : Fr M (M.push (.cells (eC x 0) 0 true none)) (fun _ => False) := Fr.push h.h.step.ok.1 _
  have g1 : (M.push (.cells (eC x 0) 0 true none)).get x.b = some (.cells (eC x 0) 0 true none) := by rw [xb]; exact get_push_self h.h.step.ok.1
  have hT1 := h.h.frame s1 (show M.n ≤ M.n + 1 by omega) f1 (fun _ _ _ hh => hh)
  have hm1 := h.m.frame f1 (fun hh => hh)
  have hn1 : (M.push (.cells (eC x 0) 0 true none)).n = M.n + 1 := rfl
  generalize M.push (.cells (eC x 0) 0 true none) = M1 at *
  obtain ⟨r2, M2, c2, s2, n2, f2, ⟨p, g2⟩, l', hT2, hp⟩ := hT1.push d hl g1 (by rw [xb]; exact h.h.step.grow.n) (fun hj => by have := (h.h.jlo _ hj).2; omega)
  have mk1 : ∀ (t : TypeId) (u : AV) (M : AMem), opI (.mkIface t) [u] M = some (.val (.iface t u) M) := fun _ _ _ => rfl
  refine W_seq (W_seqR (by simp only [runSeq_cons, runSeq_nil, evalArgs_nil, evalArgs_tmp, val1, putT, Tr.get_set_self, Tr.get_set_ne, hd _, ne_eq, Nat.reduceEqDiff, not_false_eq_true, decide_true, Nat.reduceLT, opI_move, opI_callF, opI_fieldP, Nat.add_zero, h0, opI_nilP, mk1, c2]; rfl) ?_)
  have hmt := (h.h.jlo _ h.h.jm).2
  have hm2 := hm1.frame f2 (fun hh => by
    rcases hh with hh | hh
    · exact hh.2 rfl
    · omega)
  obtain ⟨M3, e3, s3, f3, n3, hm3⟩ := hm2.put s2 (h.h.jlo _ h.h.jm).1 (x := x) (fun y hy => by have := h.ns y hy; omega)
  obtain ⟨_, _, p3⟩ := hT2.now_
  have X2 := load_own (o := 2) g2 rfl
  have q0 := held_none s2.ok.1
  refine W_seq (W_trace (M' := M3) rfl (by simp only [sameN_self, evalArgs_nil, evalArgs_tmp, val1, putT, Tr.get_set_self, Tr.get_set_ne, hd _, ne_eq, Nat.reduceEqDiff, not_false_eq_true, decide_true, Nat.reduceLT, opI_move, opI_fieldP, Nat.zero_add, trace_nil, trace_read, trace_eff, addR_some, addE_some, Bool.false_and, h0, opI_nilP, p3, X2, e3, q0]; rfl) (by simp [checkRec, isLoad]) rfl ?_)
  have hT3 := hT2.frame s3 (by omega) f3 (fun i _ hi hh => hi hh)
  have hxm : x.b ≠ mb := by omega
  have hxt : x.b ≠ tb := by have := (h.h.jlo _ h.h.jt).2; omega
  have g3 := f3 x.b _ g2 hxm
  obtain ⟨_, p4, _⟩ := hT3.now_
  have wn : wrapF .i64 (nn + 1) = nn + 1 := wrapF_any (by omega) (by omega)
  obtain ⟨M4, e4, s4, f4, n4, hT4⟩ := hT3.put (nn + 1) now 2 (nn + 1) (.inl rfl) (fun _ => rfl)
  have g4 := f4 x.b _ g3 hxt
  have hm4 := hm3.frame f4 (fun hh => h.h.ne hh.symm)
  have X4 := load_own (o := 2) g4 rfl
  refine W_seq (W_seqR (by simp only [runSeq_cons, runSeq_nil, evalArgs_nil, evalArgs_tmp, evalArgs_const, val1, putT, Tr.get_set_self, Tr.get_set_ne, hd _, ne_eq, Nat.reduceEqDiff, not_false_eq_true, decide_true, Nat.reduceLT, opI_move, opI_add, opI_fieldP, Nat.zero_add, h0, opI_nilP, p4, wn, e4]; rfl) ?_)
  refine W_seq (W_seqR (by simp only [runSeq_cons, runSeq_nil, evalArgs_nil, evalArgs_tmp, evalArgs_const, val1, putT, Tr.get_set_self, Tr.get_set_ne, hd _, ne_eq, Nat.reduceEqDiff, not_false_eq_true, decide_true, Nat.reduceLT, opI_move, opI_fieldP, Nat.zero_add, opI_nilP, X4]; rfl) (W_ret ?_))
  have hmem : ∀ y, y ∈ l' ↔ y ∈ l ++ [x] := fun y => hp.mem_iff
  refine ⟨_, fin_tmp2 (by simp only [Tr.get_set_self, Tr.get_set_ne, Option.isSome_some, hd _, ne_eq, Nat.reduceEqDiff, not_false_eq_true, decide_true, Nat.reduceLT]; try rfl) (by simp only [Tr.get_set_self, Tr.get_set_ne, Tr.isSome_set, Option.isSome_some, hd _, ne_eq, Nat.reduceEqDiff, not_false_eq_true, decide_true, Nat.reduceLT]; try rfl), s4, by omega, ?_, .inl ⟨c0, by rw [xn]; rfl, x, l', _, xa, xt, xn, hp, ⟨hT4, ⟨?_, (hp.map _).nodup_iff.2 hm4.ns⟩, fun y hy => ?_⟩, fun i hi => ?_⟩⟩
  · intro c k hc hid
    have hgl := gid_le h.h.step.ok hc
    refine f4 c k (f3 c k (f2 c k (f1 c k hc (fun hh => hh)) ?_) ?_) ?_
    · rintro (hh | hh)
      · exact hid hh.1
      · omega
    · exact fun hh => hid (hh ▸ h.h.jm)
    · exact fun hh => hid (hh ▸ h.h.jt)
  · obtain ⟨es, k1, k2, k3⟩ := hm4.ex
    exact ⟨es, k1, k2, fun e => (k3 e).trans ⟨fun ⟨y, hy, he⟩ => ⟨y, (hmem y).2 hy, he⟩, fun ⟨y, hy, he⟩ => ⟨y, (hmem y).1 hy, he⟩⟩⟩
  · rcases List.mem_append.1 ((hmem y).1 hy) with hy | hy
    · have := h.ns y hy; omega
    · simp at hy; subst hy; omega
  · rcases hi with hi | rfl | ⟨hi, _⟩
    · exact .inl hi
    · exact .inr (by omega)
    · exact .inr (by omega)
end
end Go.Proofs.Ytbjipmhdncfodaa.grf
