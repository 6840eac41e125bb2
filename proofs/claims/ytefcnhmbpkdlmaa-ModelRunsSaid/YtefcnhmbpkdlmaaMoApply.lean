/- model.Apply. -/
import Derived.Test.YtefcnhmbpkdlmaaMoTake
namespace Go.Proofs.Ytefcnhmbpkdlmaa.model
open Go Go.Vx

theorem opI_build0 {M : AMem} : opI (.build [] []) [] M = some (.val (.agg []) M) := rfl
theorem opI_mkIface {i : TypeId} {v : AV} {M : AMem} : opI (.mkIface i) [v] M = some (.val (.iface i v) M) := rfl
theorem opI_nilI {i : TypeId} {v : AV} {M : AMem} : opI (.eqNil 3 false) [.iface i v, .nilIface] M = some (.val (.bool false) M) := rfl
theorem opI_nilN {M : AMem} : opI (.eqNil 3 false) [.nilIface, .nilIface] M = some (.val (.bool true) M) := rfl

/-- the model of a kind -/
def ofK (k : Int) : AV := if k = 1 then .iface 48 (.agg []) else if k = 2 then .iface 49 (.agg []) else if k = 3 then .iface 50 (.agg []) else if k = 4 then .iface 51 (.agg []) else .nilIface
set_option maxHeartbeats 1000000 in
theorem of_ok (d : Nat) (M : AMem) (k : Int) : callF tbl code 100000 (d + 1) 10 [.int .i64 k] M = some (ofK k, M) := by
  refine Ans.eq ?_
  refine Ans_of (tbl_none (by decide) _) (show code 10 = some c10 from by kernel_rfl) (by simp) fun t hd ha => ?_
  have h0 := ha 0 _ rfl
  clear ha
  refine W_seq (W_seqR (by simp only [runSeq_cons, runSeq_nil, evalArgs_nil, evalArgs_const, val1, putT, opI_move]; rfl) ?_)
  refine W_seq (W_seq (W_seqR (by simp only [runSeq_cons, runSeq_nil, evalArgs_nil, evalArgs_tmp, val1, putT, Tr.get_set_ne, ne_eq, Nat.reduceEqDiff, not_false_eq_true, opI_move, h0]; rfl) (W_block (W_seq (W_seqR (by simp only [runSeq_cons, runSeq_nil, evalArgs_nil, evalArgs_tmp, evalArgs_const, val1, putT, Tr.get_set_self, Tr.get_set_ne, hd _, ne_eq, Nat.reduceEqDiff, not_false_eq_true, decide_true, Nat.reduceLT, opI_move, opI_eql]; rfl) ?_)))))
  unfold ofK
  by_cases k1 : k = 1
  · subst k1
    refine W_cond (by simp only [PArg.eval, Tr.get_set_self, Tr.get_set_ne, hd _, ne_eq, Nat.reduceEqDiff, not_false_eq_true, decide_true, Nat.reduceLT]; rfl) (fun _ => ?_) (fun hb => by simp at hb)
    refine W_seq (W_seqR (by simp only [runSeq_cons, runSeq_nil, evalArgs_nil, evalArgs_tmp, val1, putT, Tr.get_set_self, Tr.get_set_ne, hd _, ne_eq, Nat.reduceEqDiff, not_false_eq_true, decide_true, Nat.reduceLT, opI_move, opI_build0, opI_mkIface]; rfl) (W_ret ?_))
    exact ⟨_, fin_tmp (by simp only [Tr.get_set_self, Tr.get_set_ne, Option.isSome_some, hd _, ne_eq, Nat.reduceEqDiff, not_false_eq_true, decide_true, Nat.reduceLT]; try rfl), rfl, rfl⟩
  have k1' : (k == 1) = false := by simpa using k1
  rw [if_neg k1]
  refine W_cond (by simp only [PArg.eval, Tr.get_set_self, Tr.get_set_ne, hd _, ne_eq, Nat.reduceEqDiff, not_false_eq_true, decide_true, Nat.reduceLT, k1']; rfl) (fun hb => by simp at hb) (fun _ => W_seq (W_seqR (by simp only [runSeq_cons, runSeq_nil, evalArgs_nil, evalArgs_tmp, evalArgs_const, val1, putT, Tr.get_set_self, Tr.get_set_ne, hd _, ne_eq, Nat.reduceEqDiff, not_false_eq_true, decide_true, Nat.reduceLT, opI_move, opI_eql]; rfl) ?_))
  by_cases k2 : k = 2
  · subst k2
    refine W_cond (by simp only [PArg.eval, Tr.get_set_self, Tr.get_set_ne, hd _, ne_eq, Nat.reduceEqDiff, not_false_eq_true, decide_true, Nat.reduceLT]; rfl) (fun _ => ?_) (fun hb => by simp at hb)
    refine W_seq (W_seqR (by simp only [runSeq_cons, runSeq_nil, evalArgs_nil, evalArgs_tmp, val1, putT, Tr.get_set_self, Tr.get_set_ne, hd _, ne_eq, Nat.reduceEqDiff, not_false_eq_true, decide_true, Nat.reduceLT, opI_move, opI_build0, opI_mkIface]; rfl) (W_ret ?_))
    exact ⟨_, fin_tmp (by simp only [Tr.get_set_self, Tr.get_set_ne, Option.isSome_some, hd _, ne_eq, Nat.reduceEqDiff, not_false_eq_true, decide_true, Nat.reduceLT]; try rfl), rfl, rfl⟩
  have k2' : (k == 2) = false := by simpa using k2
  rw [if_neg k2]
  refine W_cond (by simp only [PArg.eval, Tr.get_set_self, Tr.get_set_ne, hd _, ne_eq, Nat.reduceEqDiff, not_false_eq_true, decide_true, Nat.reduceLT, k2']; rfl) (fun hb => by simp at hb) (fun _ => W_seq (W_seqR (by simp only [runSeq_cons, runSeq_nil, evalArgs_nil, evalArgs_tmp, evalArgs_const, val1, putT, Tr.get_set_self, Tr.get_set_ne, hd _, ne_eq, Nat.reduceEqDiff, not_false_eq_true, decide_true, Nat.reduceLT, opI_move, opI_eql]; rfl) ?_))
  by_cases k3 : k = 3
  · subst k3
    refine W_cond (by simp only [PArg.eval, Tr.get_set_self, Tr.get_set_ne, hd _, ne_eq, Nat.reduceEqDiff, not_false_eq_true, decide_true, Nat.reduceLT]; rfl) (fun _ => ?_) (fun hb => by simp at hb)
    refine W_seq (W_seqR (by simp only [runSeq_cons, runSeq_nil, evalArgs_nil, evalArgs_tmp, val1, putT, Tr.get_set_self, Tr.get_set_ne, hd _, ne_eq, Nat.reduceEqDiff, not_false_eq_true, decide_true, Nat.reduceLT, opI_move, opI_build0, opI_mkIface]; rfl) (W_ret ?_))
    exact ⟨_, fin_tmp (by simp only [Tr.get_set_self, Tr.get_set_ne, Option.isSome_some, hd _, ne_eq, Nat.reduceEqDiff, not_false_eq_true, decide_true, Nat.reduceLT]; try rfl), rfl, rfl⟩
  have k3' : (k == 3) = false := by simpa using k3
  rw [if_neg k3]
  refine W_cond (by simp only [PArg.eval, Tr.get_set_self, Tr.get_set_ne, hd _, ne_eq, Nat.reduceEqDiff, not_false_eq_true, decide_true, Nat.reduceLT, k3']; rfl) (fun hb => by simp at hb) (fun _ => W_seq (W_seqR (by simp only [runSeq_cons, runSeq_nil, evalArgs_nil, evalArgs_tmp, evalArgs_const, val1, putT, Tr.get_set_self, Tr.get_set_ne, hd _, ne_eq, Nat.reduceEqDiff, not_false_eq_true, decide_true, Nat.reduceLT, opI_move, opI_eql]; rfl) ?_))
  by_cases k4 : k = 4
  · subst k4
    refine W_cond (by simp only [PArg.eval, Tr.get_set_self, Tr.get_set_ne, hd _, ne_eq, Nat.reduceEqDiff, not_false_eq_true, decide_true, Nat.reduceLT]; rfl) (fun _ => ?_) (fun hb => by simp at hb)
    refine W_seq (W_seqR (by simp only [runSeq_cons, runSeq_nil, evalArgs_nil, evalArgs_tmp, val1, putT, Tr.get_set_self, Tr.get_set_ne, hd _, ne_eq, Nat.reduceEqDiff, not_false_eq_true, decide_true, Nat.reduceLT, opI_move, opI_build0, opI_mkIface]; rfl) (W_ret ?_))
    exact ⟨_, fin_tmp (by simp only [Tr.get_set_self, Tr.get_set_ne, Option.isSome_some, hd _, ne_eq, Nat.reduceEqDiff, not_false_eq_true, decide_true, Nat.reduceLT]; try rfl), rfl, rfl⟩
  have k4' : (k == 4) = false := by simpa using k4
  rw [if_neg k4]
  refine W_cond (by simp only [PArg.eval, Tr.get_set_self, Tr.get_set_ne, hd _, ne_eq, Nat.reduceEqDiff, not_false_eq_true, decide_true, Nat.reduceLT, k4']; rfl) (fun hb => by simp at hb) (fun _ => W_skip ?_)
  show W _ _
  refine W_seq (W_seqR (by simp only [runSeq_cons, runSeq_nil, evalArgs_nil, evalArgs_const, val1, putT, opI_move]; rfl) (W_ret ?_))
  exact ⟨_, fin_tmp (by simp only [Tr.get_set_self, Tr.get_set_ne, Option.isSome_some, hd _, ne_eq, Nat.reduceEqDiff, not_false_eq_true, decide_true, Nat.reduceLT]; try rfl), rfl, rfl⟩

/-- what a deed makes of a row, from what put, take and empty answer -/
def apD (pxs : List Int) (tks : Option (List Int)) (emp : Bool) (xs : List Int) (put : Bool) (cd : Int) : Option (List Int) :=
  if put then (if cd = 0 then some pxs else some xs) else if cd = 0 then tks else if cd = 5 then (if emp then some xs else none) else some xs
/-- as Out2; what can't be done leaves nothing -/
def Out3 (M : AMem) (o : Option (List Int)) (r : AV) (M' : AMem) : Prop := ∃ r0, r = .tuple [r0, .bool o.isSome] ∧ Step M M' ∧ (o = none → r0 = .slice none 0 0 false) ∧ ∀ ys, o = some ys → Free M M' r0 ys

abbrev opPut : PI := .invokeP [(46, 31), (51, 41)] [] [(47, 31, 0, 0, true), (48, 31, 0, 0, true), (49, 31, 0, 0, true), (50, 31, 0, 0, true)]
abbrev opTake : PI := .invoke [(48, 33), (49, 37), (50, 38), (51, 42)] []
abbrev opEmpty : PI := .invokeP [(46, 29), (51, 39)] [] [(47, 29, 0, 0, true), (48, 29, 0, 0, true), (49, 29, 0, 0, true), (50, 29, 0, 0, true)]

set_option maxHeartbeats 2000000 in
theorem apply_in {i : TypeId} {k : Int} {v c0 c1 : AV} {xs pxs : List Int} {tks : Option (List Int)} {emp : Bool} {x cd : Int} {put : Bool} (d : Nat) (M : AMem) (hv : Row M v xs) (hok : Okg M) (hn : xs.length < 90000)
    (hk : ofK k = .iface i (.agg []))
    (hput : ∀ M, Row M v xs → Okg M → ∃ f vs r M', opI opPut [.iface i (.agg []), v, .int .u64 x] M = some (.call f vs) ∧ callF tbl code 100000 (d + 3) f vs M = some (r, M') ∧ Step M M' ∧ Free M M' r pxs)
    (htake : ∀ M, Row M v xs → Okg M → ∃ f vs r M', opI opTake [.iface i (.agg []), v, .int .u64 x] M = some (.call f vs) ∧ callF tbl code 100000 (d + 3) f vs M = some (r, M') ∧ Out2 M tks r M')
    (hemp : ∀ M, Row M v xs → Okg M → ∃ f vs M', opI opEmpty [.iface i (.agg []), v] M = some (.call f vs) ∧ callF tbl code 100000 (d + 3) f vs M = some (.bool emp, M') ∧ Step M M') :
    Ans (callF tbl code 100000 (d + 4)) 6 [.int .i64 k, v, .agg [c0, c1, .bool put, .int .u64 x, .int .i64 cd]] M (Out3 M (apD pxs tks emp xs put cd)) := by
  refine Ans_of (tbl_none (by decide) _) (show code 6 = some c6 from by kernel_rfl) (by simp) fun t hd ha => ?_
  have h0 := ha 0 _ rfl
  have h1 := ha 1 v rfl
  have h2 := ha 2 _ rfl
  clear ha
  refine W_seq (W_seqR (by simp only [runSeq_cons, runSeq_nil, evalArgs_nil, evalArgs_tmp, evalArgs_const, val1, putT, opI_move, opI_box, cells_agg, h2]; rfl) ?_)
  have s0 := (Step.refl hok).push (k := .cells [c0, c1, .bool put, .int .u64 x, .int .i64 cd] 0 true none) (fun _ _ _ _ he => by cases he)
  have hv0 := hv.grow s0.grow
  have hof := of_ok (d + 2) (M.push (.cells [c0, c1, .bool put, .int .u64 x, .int .i64 cd] 0 true none)) k
  rw [hk] at hof
  have hgb : (M.push (.cells [c0, c1, .bool put, .int .u64 x, .int .i64 cd] 0 true none)).get M.n = some (.cells [c0, c1, .bool put, .int .u64 x, .int .i64 cd] 0 true none) := get_push_self hok.1
  obtain ⟨r9, M2, hc, s1, f1, _⟩ := clone_ok (d + 2) _ hv0 s0.ok (by omega)
  have hg2 := (s1.grow.get M.n (by show M.n < M.n + 1; omega)).trans hgb
  have L2 := load_own (o := 2) (v := .bool put) hg2 rfl
  have L3 := load_own (o := 3) (v := .int .u64 x) hg2 rfl
  have L4 := load_own (o := 4) (v := .int .i64 cd) hg2 rfl
  have hv2 := hv0.grow s1.grow
  have s2 := s0.trans s1
  have f2 : Free M M2 r9 xs := (Free.of f1).mono s0.grow.n
  show W _ _
  refine W_seq (W_seqR (by simp only [runSeq_cons, runSeq_nil, evalArgs_nil, evalArgs_tmp, val1, putT, Tr.get_set_self, Tr.get_set_ne, hd _, ne_eq, Nat.reduceEqDiff, not_false_eq_true, decide_true, Nat.reduceLT, opI_move, opI_callF, h0, hof]; rfl) ?_)
  refine W_seq (W_seq (W_seqR (by simp only [runSeq_cons, runSeq_nil, evalArgs_nil, evalArgs_tmp, evalArgs_const, val1, putT, Tr.get_set_self, Tr.get_set_ne, hd _, ne_eq, Nat.reduceEqDiff, not_false_eq_true, decide_true, Nat.reduceLT, opI_move, opI_nilI]; rfl) ?_))
  refine W_cond (by simp only [PArg.eval, Tr.get_set_self, Tr.get_set_ne, hd _, ne_eq, Nat.reduceEqDiff, not_false_eq_true, decide_true, Nat.reduceLT]; rfl) (fun hb => by simp at hb) (fun _ => W_skip ?_)
  show W _ _
  refine W_seq (W_seqR (by simp only [runSeq_cons, runSeq_nil, evalArgs_nil, evalArgs_tmp, evalArgs_const, val1, putT, Tr.get_set_self, Tr.get_set_ne, hd _, ne_eq, Nat.reduceEqDiff, not_false_eq_true, decide_true, Nat.reduceLT, opI_move, opI_callF, h1, hc]; rfl) ?_)
  refine W_seq (W.mono (Q := fun y t' M' => y = .normal ∧ ∃ r', Dom t' 55 ∧ t'.get 9 = some r' ∧ t'.get 10 = some (.bool (apD pxs tks emp xs put cd).isSome) ∧ Step M M' ∧ ∀ ys, apD pxs tks emp xs put cd = some ys → Free M M' r' ys) (W_block ?_) ?_)
  · cases put with
    | true =>
      by_cases hcd : cd = 0
      · subst hcd
        obtain ⟨f, vs, r, M3, e1, e2, s3, f3⟩ := hput M2 hv2 s2.ok
        refine W_seq (W_seqR (by simp only [runSeq_cons, runSeq_nil, evalArgs_nil, evalArgs_tmp, evalArgs_const, val1, putT, Tr.get_set_self, Tr.get_set_ne, Tr.isSome_set, hd _, ne_eq, Nat.reduceEqDiff, not_false_eq_true, decide_true, Nat.reduceLT, opI_move, opI_eql, opI_fieldP, opI_pick, Nat.zero_add, runSeq_guard (b := true), beq_self_eq_true, L2, L4]; rfl) ?_)
        refine W_cond (by simp only [PArg.eval, Tr.get_set_self, Tr.get_set_ne, hd _, ne_eq, Nat.reduceEqDiff, not_false_eq_true, decide_true, Nat.reduceLT]; rfl) (fun _ => ?_) (fun hb => by simp at hb)
        refine W_seqR (by simp only [runSeq_cons, runSeq_nil, evalArgs_nil, evalArgs_tmp, val1, putT, Tr.get_set_self, Tr.get_set_ne, hd _, ne_eq, Nat.reduceEqDiff, not_false_eq_true, decide_true, Nat.reduceLT, opI_move, opI_fieldP, Nat.zero_add, h1, L3, e1, e2]; rfl) ?_
        refine ⟨rfl, r, by ((repeat (with_reducible apply Dom.set)); exact hd), by simp only [Tr.get_set_self, Tr.get_set_ne, Tr.isSome_set, Option.isSome_some, hd _, ne_eq, Nat.reduceEqDiff, not_false_eq_true, decide_true, Nat.reduceLT], by simp only [Tr.get_set_self, Tr.get_set_ne, hd _, ne_eq, Nat.reduceEqDiff, not_false_eq_true, decide_true, Nat.reduceLT]; rfl, s2.trans s3, fun ys h => ?_⟩
        simp only [apD, if_true, Option.some.injEq] at h
        subst h; exact f3.mono s2.grow.n
      · have hcd' : (cd == 0) = false := by simpa using hcd
        refine W_seq (W_seqR (by simp only [runSeq_cons, runSeq_nil, evalArgs_nil, evalArgs_tmp, evalArgs_const, val1, putT, Tr.get_set_self, Tr.get_set_ne, Tr.isSome_set, hd _, ne_eq, Nat.reduceEqDiff, not_false_eq_true, decide_true, Nat.reduceLT, opI_move, opI_eql, opI_fieldP, opI_pick, Nat.zero_add, runSeq_guard (b := true), beq_self_eq_true, L2, L4]; rfl) ?_)
        refine W_cond (by simp only [PArg.eval, Tr.get_set_self, Tr.get_set_ne, hd _, ne_eq, Nat.reduceEqDiff, not_false_eq_true, decide_true, Nat.reduceLT, hcd']; rfl) (fun hb => by simp at hb) (fun _ => ?_)
        refine W_seq (W_seqR (by simp only [runSeq_cons, runSeq_nil, evalArgs_nil, evalArgs_tmp, val1, putT, Tr.get_set_self, Tr.get_set_ne, hd _, ne_eq, Nat.reduceEqDiff, not_false_eq_true, decide_true, Nat.reduceLT, opI_move, opI_fieldP, Nat.zero_add, L2]; rfl) ?_)
        refine W_cond (by simp only [PArg.eval, Tr.get_set_self, Tr.get_set_ne, hd _, ne_eq, Nat.reduceEqDiff, not_false_eq_true, decide_true, Nat.reduceLT]; rfl) (fun _ => W_skip ?_) (fun hb => by simp at hb)
        refine ⟨rfl, r9, by ((repeat (with_reducible apply Dom.set)); exact hd), by simp only [Tr.get_set_self, Tr.get_set_ne, hd _, ne_eq, Nat.reduceEqDiff, not_false_eq_true, decide_true, Nat.reduceLT], by simp only [Tr.get_set_self, Tr.get_set_ne, Option.isSome_some, hd _, ne_eq, Nat.reduceEqDiff, not_false_eq_true, decide_true, Nat.reduceLT, apD, if_true, if_neg hcd], s2, fun ys h => ?_⟩
        simp only [apD, if_true, if_neg hcd, Option.some.injEq] at h
        subst h; exact f2
    | false =>
      refine W_seq (W_seqR (by simp only [runSeq_cons, runSeq_nil, evalArgs_nil, evalArgs_tmp, evalArgs_const, val1, putT, Tr.get_set_self, Tr.get_set_ne, Tr.isSome_set, hd _, ne_eq, Nat.reduceEqDiff, not_false_eq_true, decide_true, Nat.reduceLT, opI_move, opI_fieldP, opI_pick, Nat.zero_add, runSeq_guard (b := false), Bool.false_beq, Bool.not_true, L2]; rfl) ?_)
      refine W_cond (by simp only [PArg.eval, Tr.get_set_self, Tr.get_set_ne, hd _, ne_eq, Nat.reduceEqDiff, not_false_eq_true, decide_true, Nat.reduceLT]; rfl) (fun hb => by simp at hb) (fun _ => ?_)
      refine W_seq (W_seqR (by simp only [runSeq_cons, runSeq_nil, evalArgs_nil, evalArgs_tmp, val1, putT, Tr.get_set_self, Tr.get_set_ne, hd _, ne_eq, Nat.reduceEqDiff, not_false_eq_true, decide_true, Nat.reduceLT, opI_move, opI_fieldP, Nat.zero_add, L2]; rfl) ?_)
      refine W_cond (by simp only [PArg.eval, Tr.get_set_self, Tr.get_set_ne, hd _, ne_eq, Nat.reduceEqDiff, not_false_eq_true, decide_true, Nat.reduceLT]; rfl) (fun hb => by simp at hb) (fun _ => ?_)
      refine W_seq (W_seqR (by simp only [runSeq_cons, runSeq_nil, evalArgs_nil, evalArgs_tmp, evalArgs_const, val1, putT, Tr.get_set_self, Tr.get_set_ne, hd _, ne_eq, Nat.reduceEqDiff, not_false_eq_true, decide_true, Nat.reduceLT, opI_move, opI_eql, opI_fieldP, Nat.zero_add, L4]; rfl) ?_)
      by_cases hcd : cd = 0
      · subst hcd
        obtain ⟨f, vs, r, M3, e1, e2, r0, he, s3, f3⟩ := htake M2 hv2 s2.ok
        subst he
        refine W_cond (by simp only [PArg.eval, Tr.get_set_self, Tr.get_set_ne, hd _, ne_eq, Nat.reduceEqDiff, not_false_eq_true, decide_true, Nat.reduceLT]; rfl) (fun _ => ?_) (fun hb => by simp at hb)
        refine W_seqR (by simp only [runSeq_cons, runSeq_nil, evalArgs_nil, evalArgs_tmp, val1, putT, Tr.get_set_self, Tr.get_set_ne, hd _, ne_eq, Nat.reduceEqDiff, not_false_eq_true, decide_true, Nat.reduceLT, opI_move, opI_extract, opI_fieldP, Nat.zero_add, h1, L3, e1, e2]; rfl) ?_
        refine ⟨rfl, r0, by ((repeat (with_reducible apply Dom.set)); exact hd), by simp only [Tr.get_set_self, Tr.get_set_ne, Tr.isSome_set, Option.isSome_some, hd _, ne_eq, Nat.reduceEqDiff, not_false_eq_true, decide_true, Nat.reduceLT], (by simp only [Tr.get_set_self, Tr.get_set_ne, Tr.isSome_set, Option.isSome_some, hd _, ne_eq, Nat.reduceEqDiff, not_false_eq_true, decide_true, Nat.reduceLT, apD, if_true, Bool.false_eq_true, if_false]; try rfl), s2.trans s3, fun ys h => ?_⟩
        simp only [apD, if_true, Bool.false_eq_true, if_false] at h
        exact (f3 ys h).mono s2.grow.n
      · have hcd' : (cd == 0) = false := by simpa using hcd
        refine W_cond (by simp only [PArg.eval, Tr.get_set_self, Tr.get_set_ne, hd _, ne_eq, Nat.reduceEqDiff, not_false_eq_true, decide_true, Nat.reduceLT, hcd']; rfl) (fun hb => by simp at hb) (fun _ => ?_)
        refine W_seq (W_seqR (by simp only [runSeq_cons, runSeq_nil, evalArgs_nil, evalArgs_tmp, evalArgs_const, val1, putT, Tr.get_set_self, Tr.get_set_ne, hd _, ne_eq, Nat.reduceEqDiff, not_false_eq_true, decide_true, Nat.reduceLT, opI_move, opI_eql, opI_fieldP, Nat.zero_add, L4]; rfl) ?_)
        by_cases h5 : cd = 5
        · subst h5
          obtain ⟨f, vs, M3, e1, e2, s3⟩ := hemp M2 hv2 s2.ok
          refine W_cond (by simp only [PArg.eval, Tr.get_set_self, Tr.get_set_ne, hd _, ne_eq, Nat.reduceEqDiff, not_false_eq_true, decide_true, Nat.reduceLT]; rfl) (fun _ => ?_) (fun hb => by simp at hb)
          refine W_seqR (by simp only [runSeq_cons, runSeq_nil, evalArgs_nil, evalArgs_tmp, val1, putT, Tr.get_set_self, Tr.get_set_ne, hd _, ne_eq, Nat.reduceEqDiff, not_false_eq_true, decide_true, Nat.reduceLT, opI_move, h1, e1, e2]; rfl) ?_
          refine ⟨rfl, r9, by ((repeat (with_reducible apply Dom.set)); exact hd), by simp only [Tr.get_set_self, Tr.get_set_ne, hd _, ne_eq, Nat.reduceEqDiff, not_false_eq_true, decide_true, Nat.reduceLT], ?_, s2.trans s3, fun ys h => ?_⟩
          · simp only [Tr.get_set_self, Tr.get_set_ne, Tr.isSome_set, Option.isSome_some, hd _, ne_eq, Nat.reduceEqDiff, not_false_eq_true, decide_true, Nat.reduceLT, apD, if_true, if_neg hcd, Bool.false_eq_true, if_false]
            cases emp <;> rfl
          simp only [apD, if_true, if_neg hcd, Bool.false_eq_true, if_false] at h
          cases emp with
          | true => simp only [if_true, Option.some.injEq] at h; subst h; exact f2.grow s2.ok.1 s3.grow
          | false => cases h
        · have h5' : (cd == 5) = false := by simpa using h5
          refine W_cond (by simp only [PArg.eval, Tr.get_set_self, Tr.get_set_ne, hd _, ne_eq, Nat.reduceEqDiff, not_false_eq_true, decide_true, Nat.reduceLT, h5']; rfl) (fun hb => by simp at hb) (fun _ => W_skip ?_)
          refine ⟨rfl, r9, by ((repeat (with_reducible apply Dom.set)); exact hd), by simp only [Tr.get_set_self, Tr.get_set_ne, hd _, ne_eq, Nat.reduceEqDiff, not_false_eq_true, decide_true, Nat.reduceLT], (by simp only [Tr.get_set_self, Tr.get_set_ne, Option.isSome_some, hd _, ne_eq, Nat.reduceEqDiff, not_false_eq_true, decide_true, Nat.reduceLT, apD, if_neg hcd, if_neg h5, Bool.false_eq_true, if_false]; try rfl), s2, fun ys h => ?_⟩
          simp only [apD, if_neg hcd, if_neg h5, Bool.false_eq_true, if_false, Option.some.injEq] at h
          subst h; exact f2
  · clear h0 h1 h2 hd
    rintro y t' M' ⟨rfl, r', hd, h9, h10, s3, f3⟩
    show W _ _
    cases ho : apD pxs tks emp xs put cd with
    | none =>
      rw [ho] at h10 f3
      refine W_seq (W_seq (W_seqR (by simp only [runSeq_cons, runSeq_nil, evalArgs_nil, evalArgs_tmp, val1, putT, Tr.get_set_self, hd _, decide_true, Nat.reduceLT, opI_move, opI_not, h10, Option.isSome_none, Bool.not_false]; rfl) ?_))
      refine W_cond (by simp only [PArg.eval, Tr.get_set_self, Tr.get_set_ne, hd _, ne_eq, Nat.reduceEqDiff, not_false_eq_true, decide_true, Nat.reduceLT]; rfl) (fun _ => ?_) (fun hb => by simp at hb)
      refine W_seq (W_seqR (by simp only [runSeq_cons, runSeq_nil, evalArgs_nil, evalArgs_const, val1, putT, opI_move]; rfl) (W_ret ?_))
      exact ⟨_, fin_tmp2 (by simp only [Tr.get_set_self, Tr.get_set_ne, hd _, ne_eq, Nat.reduceEqDiff, not_false_eq_true, decide_true, Nat.reduceLT]; try rfl) (by simp only [Tr.get_set_self, Tr.get_set_ne, hd _, ne_eq, Nat.reduceEqDiff, not_false_eq_true, decide_true, Nat.reduceLT]; try rfl), _, rfl, s3, fun _ => rfl, fun ys h => by cases h⟩
    | some zs =>
      rw [ho] at h10 f3
      refine W_seq (W_seq (W_seqR (by simp only [runSeq_cons, runSeq_nil, evalArgs_nil, evalArgs_tmp, val1, putT, Tr.get_set_self, Option.isSome_some, hd _, decide_true, Nat.reduceLT, opI_move, opI_not, h10]; rfl) ?_))
      refine W_cond (by simp only [PArg.eval, Tr.get_set_self, Tr.get_set_ne, hd _, ne_eq, Nat.reduceEqDiff, not_false_eq_true, decide_true, Nat.reduceLT]; rfl) (fun hb => by simp at hb) (fun _ => W_skip ?_)
      show W _ _
      refine W_seq (W_seqR (by simp only [runSeq_cons, runSeq_nil, evalArgs_nil, evalArgs_tmp, evalArgs_const, val1, putT, Tr.get_set_self, Tr.get_set_ne, hd _, ne_eq, Nat.reduceEqDiff, not_false_eq_true, decide_true, Nat.reduceLT, opI_move, h9]; rfl) (W_ret ?_))
      exact ⟨_, fin_tmp2 (by simp only [Tr.get_set_self, Tr.get_set_ne, hd _, ne_eq, Nat.reduceEqDiff, not_false_eq_true, decide_true, Nat.reduceLT]; try rfl) (by simp only [Tr.get_set_self, Tr.get_set_ne, Option.isSome_some, hd _, ne_eq, Nat.reduceEqDiff, not_false_eq_true, decide_true, Nat.reduceLT]; try rfl), _, rfl, s3, fun h => (by cases h), f3⟩
end Go.Proofs.Ytefcnhmbpkdlmaa.model
