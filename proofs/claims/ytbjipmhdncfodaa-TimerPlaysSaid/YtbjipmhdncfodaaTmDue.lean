/- The walk of a timer's Due. -/
import Derived.Test.YtbjipmhdncfodaaTmAdd
namespace Go.Proofs.Ytbjipmhdncfodaa.grf
open Go Go.Vx
section
variable {M0 M : AMem} {J : Nat → Prop} {tb mb : Nat} {l : List En} {nn now : Int}
set_option maxRecDepth 20000 in
set_option maxHeartbeats 4000000 in
theorem due_ok (h : TS M0 M J tb mb l nn now) (d : Nat) (z : Int) : Ans (callF tbl code 100000 (d + 7)) 10 [.ptr (some (tb, 0)), .int .i64 z] M fun r M' => Step M0 M' ∧ M.n ≤ M'.n ∧ Fr M M' J ∧
    ((chk z now = 0 ∧ ∃ v out l', r = .tuple [v, .int .i64 0] ∧ (∃ δ, M.n ≤ δ ∧ RowI M0 M' 1 δ v (out.map fun y => [.int .u64 y.task])) ∧ l.Perm (out ++ l') ∧ out.Pairwise (fun a b => ltE b a = false) ∧ (∀ y ∈ out, y.at_ ≤ z) ∧ (∀ y ∈ l', z < y.at_) ∧ TS M0 M' J tb mb l' nn z) ∨ (chk z now ≠ 0 ∧ r = .tuple [.slice none 0 0 false, .int .i64 (chk z now)] ∧ M' = M)) := by
  refine Ans_of (tbl_none (by decide) _) (show code 10 = some c10 from by kernel_rfl) (by simp) fun t hd ha => ?_
  have h0 := ha 0 _ rfl
  have h1 := ha 1 _ rfl
  clear ha
  have ck := check_ok h.h (d + 5) z
  refine W_seq (W_seqR (by simp only [runSeq_cons, runSeq_nil, evalArgs_nil, evalArgs_const, val1, putT, opI_move]; rfl) (W_seq (W_seq (W_seqR (by simp only [runSeq_cons, runSeq_nil, evalArgs_nil, evalArgs_tmp, val1, putT, Tr.get_set_self, Tr.get_set_ne, hd _, ne_eq, Nat.reduceEqDiff, not_false_eq_true, decide_true, Nat.reduceLT, opI_move, opI_callF, h0, h1, ck]; rfl) ?_))))
  by_cases c0 : chk z now = 0
  rotate_left
  · have e1 : (chk z now != 0) = true := by simpa using c0
    refine W_seq (W_seqR (by simp only [runSeq_cons, runSeq_nil, evalArgs_nil, evalArgs_tmp, evalArgs_const, val1, putT, Tr.get_set_self, Tr.get_set_ne, hd _, ne_eq, Nat.reduceEqDiff, not_false_eq_true, decide_true, Nat.reduceLT, opI_move, opI_neq, e1]; rfl) ?_)
    refine W_cond (b := true) (by simp only [PArg.eval, Tr.get_set_self, Tr.get_set_ne, hd _, ne_eq, Nat.reduceEqDiff, not_false_eq_true, decide_true, Nat.reduceLT]; try rfl) (fun _ => ?_) (fun hb => by cases hb)
    refine W_seq (W_seqR (by simp only [runSeq_cons, runSeq_nil, evalArgs_nil, evalArgs_tmp, evalArgs_const, val1, putT, Tr.get_set_self, Tr.get_set_ne, hd _, ne_eq, Nat.reduceEqDiff, not_false_eq_true, decide_true, Nat.reduceLT, opI_move]; rfl) (W_ret ?_))
    exact ⟨_, fin_tmp2 (by simp only [Tr.get_set_self, Tr.get_set_ne, Option.isSome_some, hd _, ne_eq, Nat.reduceEqDiff, not_false_eq_true, decide_true, Nat.reduceLT]; try rfl) (by simp only [Tr.get_set_self, Tr.get_set_ne, Tr.isSome_set, Option.isSome_some, hd _, ne_eq, Nat.reduceEqDiff, not_false_eq_true, decide_true, Nat.reduceLT]; try rfl), h.h.step, Nat.le_refl _, Fr.refl, .inr ⟨c0, rfl, rfl⟩⟩
  have e1 : (chk z now != 0) = false := by simpa using c0
  refine W_seq (W_seqR (by simp only [runSeq_cons, runSeq_nil, evalArgs_nil, evalArgs_tmp, evalArgs_const, val1, putT, Tr.get_set_self, Tr.get_set_ne, hd _, ne_eq, Nat.reduceEqDiff, not_false_eq_true, decide_true, Nat.reduceLT, opI_move, opI_neq, e1]; rfl) ?_)
  refine W_cond (b := false) (by simp only [PArg.eval, Tr.get_set_self, Tr.get_set_ne, hd _, ne_eq, Nat.reduceEqDiff, not_false_eq_true, decide_true, Nat.reduceLT]; try rfl) (fun hb => by cases hb) (fun _ => W_skip ?_)
  show W _ _
  obtain ⟨M1, e2, s1, f1, n1, hT1⟩ := h.h.put nn z 3 z (.inr rfl) (fun _ => rfl)
  have hm1 := h.m.frame f1 (fun hh => h.h.ne hh.symm)
  refine W_seq (W_seqR (by simp only [runSeq_cons, runSeq_nil, evalArgs_nil, evalArgs_tmp, val1, putT, Tr.get_set_self, Tr.get_set_ne, hd _, ne_eq, Nat.reduceEqDiff, not_false_eq_true, decide_true, Nat.reduceLT, opI_move, opI_fieldP, Nat.zero_add, h0, h1, opI_nilP, e2]; rfl) ?_)
  refine W_seq (W_seqR (by simp only [runSeq_cons, runSeq_nil, evalArgs_nil, evalArgs_const, val1, putT, opI_move]; rfl) ?_)
  have hJ : ∀ i, J i → i < M.n := fun i hi => (h.h.jlo i hi).2
  refine W_seq (W_block (W_loop (fun k t M' => ∃ (out l' : List En) (s : AV) (δ : Nat), k = l'.length ∧ M.n ≤ M'.n ∧ Fr M M' J ∧ RowI M0 M' 1 δ s (out.map fun y => [.int .u64 y.task]) ∧ M.n ≤ δ ∧ l.Perm (out ++ l') ∧ out.Pairwise (fun a b => ltE b a = false) ∧ (∀ y ∈ out, y.at_ ≤ z) ∧ (∀ a ∈ out, ∀ b ∈ l', ltE b a = false) ∧ TSh M0 M' J tb mb l' nn z ∧ MapT M' mb l' ∧ Dom t 62 ∧ t.get 0 = some (.ptr (some (tb, 0))) ∧ t.get 1 = some (.int .i64 z) ∧ t.get 7 = some s) (k := l.length) (by have := h.h.len; omega) ?_ ?_))
  · exact ⟨[], l, _, M.n, rfl, by omega, f1.mono (fun _ hh => hh ▸ h.h.jt), RowI.nil, Nat.le_refl _, .refl _, List.Pairwise.nil, fun y hy => by simp at hy, fun y hy => by simp at hy, hT1, hm1, by ((repeat (with_reducible apply Dom.set)); exact hd), by simp only [Tr.get_set_ne, ne_eq, Nat.reduceEqDiff, not_false_eq_true, h0], by simp only [Tr.get_set_ne, ne_eq, Nat.reduceEqDiff, not_false_eq_true, h1], by simp only [Tr.get_set_self, Tr.get_set_ne, hd _, ne_eq, Nat.reduceEqDiff, not_false_eq_true, decide_true, Nat.reduceLT]⟩
  clear h0 h1 hd e2 s1 f1 n1 hT1 hm1 M1 ck
  intro k t M1 ⟨out, l', s, δ, hk, hn, fM, hs, hδn, hp, hpw, hle, hab, hT, hm, hd, h0, h1, h7⟩
  have hδ : ¬ J δ := fun hj => by have := hJ _ hj; omega
  obtain ⟨v, p1, p2, p3⟩ := hT.hlen
  have hend : ∀ y ∈ l', y ∈ l := fun y hy => hp.mem_iff.2 (List.mem_append_right _ hy)
  -- how it ends
  have fin : ∀ t' : Tr AV, Dom t' 62 → t'.get 7 = some s → (∀ y ∈ l', z < y.at_) → W (exec (callF tbl code 100000 (d + 6)) 100000 (.seq (.seqR [⟨.move, [.tmp 7], (some 61), none⟩, ⟨.move, [.tmp 61], (some 4), none⟩, ⟨.move, [.const (.int .i64 0)], (some 5), none⟩]) .ret) t' M1) (Fin c10 fun r M' => Step M0 M' ∧ M.n ≤ M'.n ∧ Fr M M' J ∧
    ((chk z now = 0 ∧ ∃ v out l', r = .tuple [v, .int .i64 0] ∧ (∃ δ, M.n ≤ δ ∧ RowI M0 M' 1 δ v (out.map fun y => [.int .u64 y.task])) ∧ l.Perm (out ++ l') ∧ out.Pairwise (fun a b => ltE b a = false) ∧ (∀ y ∈ out, y.at_ ≤ z) ∧ (∀ y ∈ l', z < y.at_) ∧ TS M0 M' J tb mb l' nn z) ∨ (chk z now ≠ 0 ∧ r = .tuple [.slice none 0 0 false, .int .i64 (chk z now)] ∧ M' = M))) := by
    intro t hd h7 hz
    refine W_seq (W_seqR (by simp only [runSeq_cons, runSeq_nil, evalArgs_nil, evalArgs_tmp, evalArgs_const, val1, putT, Tr.get_set_self, hd _, decide_true, Nat.reduceLT, opI_move, h7]; rfl) (W_ret ?_))
    refine ⟨_, fin_tmp2 (by simp only [Tr.get_set_self, Tr.get_set_ne, hd _, ne_eq, Nat.reduceEqDiff, not_false_eq_true, decide_true, Nat.reduceLT]; try rfl) (by simp only [Tr.get_set_self, Tr.get_set_ne, hd _, ne_eq, Nat.reduceEqDiff, not_false_eq_true, decide_true, Nat.reduceLT]; try rfl), hT.step, hn, fM, .inl ⟨c0, s, out, l', rfl, ⟨δ, hδn, hs⟩, hp, hpw, hle, hz, hT, hm, fun y hy => h.ns y (hend y hy)⟩⟩
  by_cases hl : l'.length = 0
  · have eg : decide ((l'.length : Int) > 0) = false := decide_eq_false (by omega)
    refine W_seq (W_seq (W_seqR (by simp only [runSeq_cons, runSeq_nil, evalArgs_nil, evalArgs_tmp, evalArgs_const, val1, putT, Tr.get_set_self, Tr.get_set_ne, Tr.isSome_set, hd _, ne_eq, Nat.reduceEqDiff, not_false_eq_true, decide_true, Nat.reduceLT, opI_move, opI_gtr, opI_fieldP, opI_pick, Nat.add_zero, runSeq_guard (b := false), Bool.false_beq, Bool.not_true, h0, opI_nilP, p1, p2, eg]; rfl) ?_))
    refine W_cond (b := false) (by simp only [PArg.eval, Tr.get_set_self, Tr.get_set_ne, hd _, ne_eq, Nat.reduceEqDiff, not_false_eq_true, decide_true, Nat.reduceLT]; try rfl) (fun hb => by cases hb) (fun _ => W_exit ?_)
    exact fin _ (by ((repeat (with_reducible apply Dom.set)); exact hd)) (by simp only [Tr.get_set_ne, ne_eq, Nat.reduceEqDiff, not_false_eq_true, h7]) (fun y hy => by rw [List.length_eq_zero_iff.1 hl] at hy; simp at hy)
  have hl0 : 0 < l'.length := by omega
  have eg : decide ((l'.length : Int) > 0) = true := decide_eq_true (by omega)
  obtain ⟨a1, a2⟩ := p3 0 hl0
  have a1' : ∀ M', opI (.indexAddrS 1) [v, .int .i64 0] M' = some (.val (rowp v 1 0) M') := a1
  have A0 := load_own (o := 0) (hT.ents 0 hl0) rfl
  have hx0 : l'.getD 0 dEn ∈ l' := getD_mem hl0
  by_cases cz : (l'.getD 0 dEn).at_ ≤ z
  rotate_left
  · have ez : decide ((l'.getD 0 dEn).at_ ≤ z) = false := decide_eq_false cz
    refine W_seq (W_seq (W_seqR (by simp only [runSeq_cons, runSeq_nil, evalArgs_nil, evalArgs_tmp, evalArgs_const, val1, putT, Tr.get_set_self, Tr.get_set_ne, Tr.isSome_set, hd _, ne_eq, Nat.reduceEqDiff, not_false_eq_true, decide_true, Nat.reduceLT, opI_move, opI_leq, opI_gtr, opI_fieldP, opI_pick, Nat.add_zero, runSeq_guard (b := true), beq_self_eq_true, h0, h1, opI_nilP, p1, p2, eg, a1', a2, A0, ez]; rfl) ?_))
    refine W_cond (b := false) (by simp only [PArg.eval, Tr.get_set_self, Tr.get_set_ne, hd _, ne_eq, Nat.reduceEqDiff, not_false_eq_true, decide_true, Nat.reduceLT]; try rfl) (fun hb => by cases hb) (fun _ => W_exit ?_)
    refine fin _ (by ((repeat (with_reducible apply Dom.set)); exact hd)) (by simp only [Tr.get_set_ne, ne_eq, Nat.reduceEqDiff, not_false_eq_true, h7]) (fun y hy => ?_)
    obtain ⟨c, hc, he⟩ := List.mem_iff_getElem.1 hy
    have := heap_min woE hT.heap c hc
    rw [show l'.getD c dEn = y by rw [List.getD_eq_getElem?_getD, List.getElem?_eq_getElem hc]; exact he] at this
    simp only [ltE, decide_eq_false_iff_not] at this
    omega
  have ez : decide ((l'.getD 0 dEn).at_ ≤ z) = true := decide_eq_true cz
  refine W_seq (W_seq (W_seqR (by simp only [runSeq_cons, runSeq_nil, evalArgs_nil, evalArgs_tmp, evalArgs_const, val1, putT, Tr.get_set_self, Tr.get_set_ne, Tr.isSome_set, hd _, ne_eq, Nat.reduceEqDiff, not_false_eq_true, decide_true, Nat.reduceLT, opI_move, opI_leq, opI_gtr, opI_fieldP, opI_pick, Nat.add_zero, runSeq_guard (b := true), beq_self_eq_true, h0, h1, opI_nilP, p1, p2, eg, a1', a2, A0, ez]; rfl) ?_))
  refine W_cond (b := true) (by simp only [PArg.eval, Tr.get_set_self, Tr.get_set_ne, hd _, ne_eq, Nat.reduceEqDiff, not_false_eq_true, decide_true, Nat.reduceLT]; try rfl) (fun _ => W_skip ?_) (fun hb => by cases hb)
  show W _ _
  obtain ⟨_, M2, c2, rfl, s2, n2, f2, ⟨p, g2⟩, l2, hT2, hp2, hmin⟩ := hT.pop d hl0
  generalize l'.getD 0 dEn = x at *
  have mk1 : ∀ (t : TypeId) (u : AV) (M : AMem), opI (.mkIface t) [u] M = some (.val (.iface t u) M) := fun _ _ _ => rfl
  have as1 : ∀ M : AMem, opI (.assertC 60 false (.ptr none)) [encT x] M = some (.val (pP x) M) := fun _ => rfl
  refine W_block (W_seq (W_seqR (by simp only [runSeq_cons, runSeq_nil, evalArgs_nil, evalArgs_tmp, val1, putT, Tr.get_set_self, Tr.get_set_ne, hd _, ne_eq, Nat.reduceEqDiff, not_false_eq_true, decide_true, Nat.reduceLT, opI_move, opI_callF, opI_fieldP, Nat.add_zero, h0, opI_nilP, mk1, c2, as1]; rfl) ?_))
  have hm2 := hm.frame f2 (fun hh => hh.2 rfl)
  have hs2 := hs.frame f2 (fun hh => hδ hh.1)
  obtain ⟨M3, e3, s3, f3, n3, hm3⟩ := hm2.drop s2 (hT.jlo _ hT.jm).1 hp2
  have X2 := load_own (o := 2) g2 rfl
  obtain ⟨_, _, q2⟩ := hT2.now_
  have k0 := held_none s2.ok.1
  refine W_seq (W_trace (M' := M3) rfl (by simp only [sameN_self, evalArgs_nil, evalArgs_tmp, val1, putT, Tr.get_set_self, Tr.get_set_ne, hd _, ne_eq, Nat.reduceEqDiff, not_false_eq_true, decide_true, Nat.reduceLT, opI_move, opI_fieldP, Nat.zero_add, trace_nil, trace_read, trace_eff, addR_some, addE_some, Bool.false_and, h0, opI_nilP, q2, X2, e3, k0]; rfl) (by simp [checkRec, isLoad]) rfl ?_)
  have hT3 := hT2.frame s3 (by omega) f3 (fun i _ hi hh => hi hh)
  have hs3 := hs2.frame f3 (fun hh => hδ (hh ▸ hT.jm))
  have g3 := f3 x.b _ g2 (hT.jx x hx0).2.2
  have X1 := load_own (o := 1) g3 rfl
  have hol : out.length + l'.length = l.length := by rw [hp.length_eq, List.length_append]
  have hll := h.h.len
  obtain ⟨M4, s', δ', e4, e5, s4, r4, f4, d4, n4⟩ := hs3.push (bytes := 8) (z := [.int .u64 0]) (x := .int .u64 x.task) s3 rfl rfl (by omega) rfl (by rw [List.length_map]; omega) (by rw [List.length_map]; omega)
  refine W_seqR (by simp only [runSeq_cons, runSeq_nil, evalArgs_nil, evalArgs_tmp, val1, putT, Tr.get_set_self, Tr.get_set_ne, hd _, ne_eq, Nat.reduceEqDiff, not_false_eq_true, decide_true, Nat.reduceLT, opI_move, opI_fieldP, Nat.zero_add, Nat.add_zero, h7, opI_nilP, X1, e4, e5]; rfl) ?_
  have hl2 := hp2.length_eq
  rw [List.length_cons] at hl2
  refine ⟨l2.length, by omega, out ++ [x], l2, s', δ', rfl, by omega, fun c k hc hid => ?_, by rw [List.map_append]; exact r4, ?_, ?_, ?_, fun y hy => ?_, fun a ha b hb => ?_, hT3.frame s4 n4 f4 (fun i hi _ hh => hδ (hh ▸ hi)), hm3.frame f4 (fun hh => hδ (hh ▸ hT.jm)), by ((repeat (with_reducible apply Dom.set)); exact hd), by simp only [Tr.get_set_ne, ne_eq, Nat.reduceEqDiff, not_false_eq_true, h0], by simp only [Tr.get_set_ne, ne_eq, Nat.reduceEqDiff, not_false_eq_true, h1], by simp only [Tr.get_set_self, Tr.get_set_ne, hd _, ne_eq, Nat.reduceEqDiff, not_false_eq_true, decide_true, Nat.reduceLT]⟩
  · have hgl := gid_le h.h.step.ok hc
    refine f4 c k (f3 c k (f2 c k (fM c k hc hid) (fun hh => hid hh.1)) (fun hh => hid (hh ▸ hT.jm))) ?_
    intro hh
    have : gid c k = δ := hh
    omega
  · rcases d4 with rfl | d4
    · exact hδn
    · omega
  · refine hp.trans ?_
    rw [List.append_assoc]
    exact List.Perm.append_left _ hp2
  · rw [List.pairwise_append]
    refine ⟨hpw, List.pairwise_singleton _ _, fun a ha b hb => ?_⟩
    simp at hb
    subst hb
    exact hab a ha _ hx0
  · rcases List.mem_append.1 hy with hy | hy
    · exact hle y hy
    · simp at hy; subst hy; exact cz
  · have hb' : b ∈ l' := hp2.mem_iff.2 (List.mem_cons_of_mem _ hb)
    rcases List.mem_append.1 ha with ha | ha
    · exact hab a ha b hb'
    · simp at ha; subst ha; exact hmin b hb
end
end Go.Proofs.Ytbjipmhdncfodaa.grf
