/- The walk of a reader's take. -/
import Derived.Test.YtoddncakdnmloaaDiRdr
namespace Go.Proofs.Ytoddncakdnmloaa.diary
open Go Go.Vx

theorem getD_at {l : List Int} {w : Nat} : l.getD w 0 = l.getD w 0 := rfl

set_option maxHeartbeats 4000000 in
theorem take_ok {e : Ev} {st : St} {rb i : Nat} {sv : AV} {els : List (List AV)} (d : Nat) (M0 M : AMem) (h : Step M0 M) (hr : Rdr M0 M rb st sv els) (he : EvOk M0.g e) (hb : Bnd st) (hsp : st.spans.length < 90000) :
    Ans (callF tbl code 100000 (d + 3)) 46 [.ptr (some (rb, 0)), .int .i64 i, .agg e.cells] M fun r M' => Step M0 M' ∧ match takeP i st e with
      | none => r = .bool false
      | some st' => r = .bool true ∧ Bnd st' ∧ ∃ sv' els', Rdr M0 M' rb st' sv' els' := by
  refine Ans_of (tbl_none (by decide) _) (show code 46 = some c46 from by kernel_rfl) (by simp) fun t hd ha => ?_
  have h0 := ha 0 _ rfl
  have h1 := ha 1 _ rfl
  have h2 := ha 2 _ rfl
  clear ha
  refine W_seq (W_seqR (by simp only [runSeq_cons, runSeq_nil, evalArgs_nil, evalArgs_tmp, evalArgs_const, val1, putT, opI_move, opI_box, cells_agg, h2]; rfl) ?_)
  have s1 := h.push (k := .cells e.cells 0 true none) (fun _ _ _ _ he => by cases he)
  have g1 := Grow.push h.ok.1 (.cells e.cells 0 true none)
  have hr1 := hr.grow h.ok.1 g1
  have ge := get_push_self (k := .cells e.cells 0 true none) h.ok.1
  have hlt : rb < M.n := get_lt h.ok.1 hr.cell
  have hM0 := h.grow.n
  generalize hM1 : M.push (.cells e.cells 0 true none) = M1 at *
  have E0 := load_own (o := 0) ge rfl
  have E1 := load_own (o := 1) ge rfl
  have E2 := load_own (o := 2) ge rfl
  have L0 := load_own (o := 0) hr1.cell rfl
  by_cases hA : e.step < st.step
  · have hn : takeP i st e = none := by unfold takeP; rw [if_pos (.inl hA)]
    refine W_seq (W_seq (W_quiet rfl (by simp only [runPure_cons, runPure_nil, ofD_cons, ofD_nil, sameN_self, evalArgs_nil, evalArgs_tmp, evalArgs_const, putT, Tr.get_set_self, Tr.get_set_ne, Tr.isSome_set, hd _, ne_eq, Nat.reduceEqDiff, not_false_eq_true, decide_true, Nat.reduceLT, opI_move, opI_lss, opI_fieldP, opI_pick, Nat.add_zero, runPure_guard (b := true), Bool.true_beq, h0, E0, L0, opI_nilP, hA]; rfl) ?_))
    refine W_cond (b := true) (by simp only [PArg.eval, Tr.get_set_self, Tr.get_set_ne, hd _, ne_eq, Nat.reduceEqDiff, not_false_eq_true, decide_true, Nat.reduceLT]; try rfl) (fun _ => ?_) (fun hb => by cases hb)
    refine W_seq (W_seqR (by simp only [runSeq_cons, runSeq_nil, evalArgs_nil, evalArgs_const, val1, putT, opI_move]; rfl) (W_ret ?_))
    exact ⟨_, fin_tmp (by simp only [Tr.get_set_self, Tr.get_set_ne, Tr.isSome_set, Option.isSome_some, hd _, ne_eq, Nat.reduceEqDiff, not_false_eq_true, decide_true, Nat.reduceLT]; try rfl), s1, by rw [hn]; rfl⟩
  by_cases hB : e.who < 0
  · have hn : takeP i st e = none := by unfold takeP; rw [if_pos (.inr (.inl hB))]
    refine W_seq (W_seq (W_quiet rfl (by simp only [runPure_cons, runPure_nil, ofD_cons, ofD_nil, sameN_self, evalArgs_nil, evalArgs_tmp, evalArgs_const, putT, Tr.get_set_self, Tr.get_set_ne, Tr.isSome_set, hd _, ne_eq, Nat.reduceEqDiff, not_false_eq_true, decide_true, Nat.reduceLT, opI_move, opI_lss, opI_fieldP, opI_pick, Nat.zero_add, Nat.add_zero, runPure_guard (b := true), runPure_guard (b := false), beq_self_eq_true, Bool.true_beq, h0, E0, E1, L0, opI_nilP, hA, hB, decide_false]; rfl) ?_))
    refine W_cond (b := true) (by simp only [PArg.eval, Tr.get_set_self, Tr.get_set_ne, hd _, ne_eq, Nat.reduceEqDiff, not_false_eq_true, decide_true, Nat.reduceLT]; try rfl) (fun _ => ?_) (fun hb => by cases hb)
    refine W_seq (W_seqR (by simp only [runSeq_cons, runSeq_nil, evalArgs_nil, evalArgs_const, val1, putT, opI_move]; rfl) (W_ret ?_))
    exact ⟨_, fin_tmp (by simp only [Tr.get_set_self, Tr.get_set_ne, Tr.isSome_set, Option.isSome_some, hd _, ne_eq, Nat.reduceEqDiff, not_false_eq_true, decide_true, Nat.reduceLT]; try rfl), s1, by rw [hn]; rfl⟩
  by_cases hC : e.who ≥ 16
  · have hn : takeP i st e = none := by unfold takeP; rw [if_pos (.inr (.inr (.inl hC)))]
    refine W_seq (W_seq (W_quiet rfl (by simp only [runPure_cons, runPure_nil, ofD_cons, ofD_nil, sameN_self, evalArgs_nil, evalArgs_tmp, evalArgs_const, putT, Tr.get_set_self, Tr.get_set_ne, Tr.isSome_set, hd _, ne_eq, Nat.reduceEqDiff, not_false_eq_true, decide_true, Nat.reduceLT, opI_move, opI_lss, opI_geq, opI_fieldP, opI_pick, Nat.zero_add, Nat.add_zero, runPure_guard (b := true), runPure_guard (b := false), beq_self_eq_true, Bool.true_beq, h0, E0, E1, L0, opI_nilP, hA, hB, hC, decide_false]; rfl) ?_))
    refine W_cond (b := true) (by simp only [PArg.eval, Tr.get_set_self, Tr.get_set_ne, hd _, ne_eq, Nat.reduceEqDiff, not_false_eq_true, decide_true, Nat.reduceLT]; try rfl) (fun _ => ?_) (fun hb => by cases hb)
    refine W_seq (W_seqR (by simp only [runSeq_cons, runSeq_nil, evalArgs_nil, evalArgs_const, val1, putT, opI_move]; rfl) (W_ret ?_))
    exact ⟨_, fin_tmp (by simp only [Tr.get_set_self, Tr.get_set_ne, Tr.isSome_set, Option.isSome_some, hd _, ne_eq, Nat.reduceEqDiff, not_false_eq_true, decide_true, Nat.reduceLT]; try rfl), s1, by rw [hn]; rfl⟩
  obtain ⟨w, hw⟩ : ∃ w : Nat, e.who = w := ⟨e.who.toNat, by omega⟩
  have hw16 : w < 16 := by omega
  have hwt : e.who.toNat = w := by omega
  rw [hw] at E1 hB hC
  have L1 := load_own (o := 1 + w * 1) hr1.cell (rdC_nth hr.nth hw16)
  have IA : ∀ (o : Nat) (M : AMem), opI (.indexAddrA 16 1) [.ptr (some (rb, o)), .int .i64 w] M = some (.val (.ptr (some (rb, o + w * 1))) M) := fun o M => opI_indexA hw16
  by_cases hD : e.nth ≠ st.nth.getD w 0
  · have hn : takeP i st e = none := by unfold takeP; rw [if_pos (.inr (.inr (.inr (by rw [hwt]; exact hD))))]
    have hD' : (e.nth != st.nth.getD w 0) = true := by simpa using hD
    refine W_seq (W_seq (W_quiet rfl (by simp only [runPure_cons, runPure_nil, ofD_cons, ofD_nil, sameN_self, evalArgs_nil, evalArgs_tmp, evalArgs_const, putT, Tr.get_set_self, Tr.get_set_ne, Tr.isSome_set, hd _, ne_eq, Nat.reduceEqDiff, not_false_eq_true, decide_true, Nat.reduceLT, opI_move, opI_lss, opI_geq, opI_neq, opI_fieldP, opI_pick, Nat.zero_add, Nat.add_zero, runPure_guard (b := false), beq_self_eq_true, h0, E0, E1, E2, L0, L1, IA, opI_nilP, hA, hB, hC, hD', decide_false]; rfl) ?_))
    refine W_cond (b := true) (by simp only [PArg.eval, Tr.get_set_self, Tr.get_set_ne, hd _, ne_eq, Nat.reduceEqDiff, not_false_eq_true, decide_true, Nat.reduceLT]; try rfl) (fun _ => ?_) (fun hb => by cases hb)
    refine W_seq (W_seqR (by simp only [runSeq_cons, runSeq_nil, evalArgs_nil, evalArgs_const, val1, putT, opI_move]; rfl) (W_ret ?_))
    exact ⟨_, fin_tmp (by simp only [Tr.get_set_self, Tr.get_set_ne, Tr.isSome_set, Option.isSome_some, hd _, ne_eq, Nat.reduceEqDiff, not_false_eq_true, decide_true, Nat.reduceLT]; try rfl), s1, by rw [hn]; rfl⟩
  have hD' : (e.nth != st.nth.getD w 0) = false := by simpa using hD
  refine W_seq (W_seq (W_quiet rfl (by simp only [runPure_cons, runPure_nil, ofD_cons, ofD_nil, sameN_self, evalArgs_nil, evalArgs_tmp, evalArgs_const, putT, Tr.get_set_self, Tr.get_set_ne, Tr.isSome_set, hd _, ne_eq, Nat.reduceEqDiff, not_false_eq_true, decide_true, Nat.reduceLT, opI_move, opI_lss, opI_geq, opI_neq, opI_fieldP, opI_pick, Nat.zero_add, Nat.add_zero, runPure_guard (b := false), beq_self_eq_true, h0, E0, E1, E2, L0, L1, IA, opI_nilP, hA, hB, hC, hD', decide_false]; rfl) ?_))
  refine W_cond (b := false) (by simp only [PArg.eval, Tr.get_set_self, Tr.get_set_ne, hd _, ne_eq, Nat.reduceEqDiff, not_false_eq_true, decide_true, Nat.reduceLT]; try rfl) (fun hb => by cases hb) (fun _ => W_skip ?_)
  show W _ _
  -- its step
  have hp : takeP i st e = if e.ends then
      if st.op.getD w 0 < 0 then none
      else match st.spans[(st.op.getD w 0).toNat]? with
        | none => none
        | some s => if s.kind = e.kind ∧ s.task = e.task ∧ s.vs = e.vs then
            some ⟨e.step, st.nth.set w (wrapF .i64 (st.nth.getD w 0 + 1)), st.op.set w (-1), st.spans.set (st.op.getD w 0).toNat { s with to := i, code := e.code, v := e.v, ls := e.ls }⟩
          else none
      else if st.op.getD w 0 ≥ 0 ∨ ¬ (e.code = 0 ∧ e.v = 0 ∧ e.ls = []) then none
      else some ⟨e.step, st.nth, st.op.set w st.spans.length, st.spans ++ [⟨e.who, e.nth, i, -1, e.kind, e.task, e.vs, 0, 0, []⟩]⟩ := by
    unfold takeP
    rw [if_neg (by rw [hwt]; simp only [not_or]; exact ⟨hA, by omega, by omega, hD⟩), hwt]; rfl
  obtain ⟨e2, s2, c2, k2⟩ := store1 (o := 0) (x := .int .i64 e.step) s1 hr.hrb hr1.cell ⟨rfl, rfl⟩ (by rw [rdC_length hr.nth hr.op]; decide)
  have hr2 := hr1.upd (st' := ⟨e.step, st.nth, st.op, st.spans⟩) c2 k2 rfl hr.nth hr.op
  have ge2 := (k2 M.n (by omega)).trans ge
  refine W_seq (W_seqR (by simp only [runSeq_cons, runSeq_nil, evalArgs_nil, evalArgs_tmp, val1, putT, Tr.get_set_self, Tr.get_set_ne, hd _, ne_eq, Nat.reduceEqDiff, not_false_eq_true, decide_true, Nat.reduceLT, opI_move, opI_fieldP, Nat.add_zero, h0, E0, opI_nilP, e2]; rfl) ?_)
  generalize hM2 : M1.set rb (.cells ((rdC st.step st.nth st.op sv).set 0 (.int .i64 e.step)) 0 true none) = M2 at *
  replace E1 := load_own (o := 1) ge2 rfl
  rw [hw] at E1
  have E3 := load_own (o := 3) ge2 rfl
  have E7 := loads_own (o := 7) (n := 3) ge2 (by simp [Ev.cells])
  have E4 := loads_own (o := 4) (n := 3) ge2 (by simp [Ev.cells])
  replace E2 := load_own (o := 2) ge2 rfl
  have LO := load_own (o := 17 + w * 1) hr2.cell (rdC_op hr.nth hr.op hw16)
  simp only at LO
  refine W_seq (W_quiet rfl (by simp only [runPure_cons, runPure_nil, ofD_cons, ofD_nil, sameN_self, evalArgs_nil, evalArgs_tmp, putT, Tr.get_set_self, Tr.get_set_ne, hd _, ne_eq, Nat.reduceEqDiff, not_false_eq_true, decide_true, Nat.reduceLT, opI_move, opI_fieldP, Nat.zero_add, h0, E1, LO, IA, opI_nilP]; rfl) ?_)
  simp only [Ev.cells, List.drop_succ_cons, List.drop_zero, List.take_succ_cons, List.take_zero] at E4 E7
  clear L0 L1 E0 e2
  have hbw := hb.1 w hw16
  generalize hk : st.op.getD w 0 = k at *
  have hg2 : M2.g = M0.g := s2.grow.g
  have hlt2 := get_lt s2.ok.1 ge2
  cases hends : e.ends with
  | false =>
    rw [hends] at E3 hp
    simp only [Bool.false_eq_true, if_false] at hp
    by_cases hk0 : k ≥ 0
    · have hn : takeP i st e = none := by rw [hp, if_pos (.inl hk0)]
      refine W_seq (W_block (W_seq (W_seqR (by simp only [runSeq_cons, runSeq_nil, evalArgs_nil, evalArgs_tmp, evalArgs_const, val1, putT, Tr.get_set_self, Tr.get_set_ne, Tr.isSome_set, hd _, ne_eq, Nat.reduceEqDiff, not_false_eq_true, decide_true, Nat.reduceLT, opI_move, opI_not, opI_geq, opI_fieldP, opI_pick, Nat.zero_add, runSeq_guard (b := true), beq_self_eq_true, Bool.true_beq, Bool.not_false, E3, hk0]; rfl) ?_)))
      refine W_cond (b := true) (by simp only [PArg.eval, Tr.get_set_self, Tr.get_set_ne, hd _, ne_eq, Nat.reduceEqDiff, not_false_eq_true, decide_true, Nat.reduceLT]; try rfl) (fun _ => ?_) (fun hb => by cases hb)
      refine W_seq (W_seqR (by simp only [runSeq_cons, runSeq_nil, evalArgs_nil, evalArgs_const, val1, putT, opI_move]; rfl) (W_ret ?_))
      exact ⟨_, fin_tmp (by simp only [Tr.get_set_self, Tr.get_set_ne, Tr.isSome_set, Option.isSome_some, hd _, ne_eq, Nat.reduceEqDiff, not_false_eq_true, decide_true, Nat.reduceLT]; try rfl), s2, by rw [hn]; rfl⟩
    obtain ⟨r3, M3, c3, s3, rfl⟩ := none_ok (c := e.code) (v := e.v) (d + 1) M2 (he.ls M2 hg2) s2.ok
    have t3 := s2.trans s3
    by_cases hz : e.code = 0 ∧ e.v = 0 ∧ e.ls = []
    rotate_left
    · have hn : takeP i st e = none := by rw [hp, if_pos (.inr hz)]
      rw [decide_eq_false hz] at c3
      refine W_seq (W_block (W_seq (W_seqR (by simp only [runSeq_cons, runSeq_nil, evalArgs_nil, evalArgs_tmp, evalArgs_const, val1, putT, Tr.get_set_self, Tr.get_set_ne, Tr.isSome_set, hd _, ne_eq, Nat.reduceEqDiff, not_false_eq_true, decide_true, Nat.reduceLT, opI_move, opI_not, opI_geq, opI_callF, opI_fieldP, opI_pick, Nat.zero_add, runSeq_guard (b := true), runSeq_guard (b := false), beq_self_eq_true, Bool.not_false, E3, hk0, decide_false, E7, c3]; rfl) ?_)))
      refine W_cond (b := true) (by simp only [PArg.eval, Tr.get_set_self, Tr.get_set_ne, hd _, ne_eq, Nat.reduceEqDiff, not_false_eq_true, decide_true, Nat.reduceLT]; try rfl) (fun _ => ?_) (fun hb => by cases hb)
      refine W_seq (W_seqR (by simp only [runSeq_cons, runSeq_nil, evalArgs_nil, evalArgs_const, val1, putT, opI_move]; rfl) (W_ret ?_))
      exact ⟨_, fin_tmp (by simp only [Tr.get_set_self, Tr.get_set_ne, Tr.isSome_set, Option.isSome_some, hd _, ne_eq, Nat.reduceEqDiff, not_false_eq_true, decide_true, Nat.reduceLT]; try rfl), t3, by rw [hn]; rfl⟩
    rw [if_neg (by rw [not_or]; exact ⟨hk0, fun h => h hz⟩)] at hp
    rw [decide_eq_true hz] at c3
    refine W_seq (W_block (W_seq (W_seqR (by simp only [runSeq_cons, runSeq_nil, evalArgs_nil, evalArgs_tmp, evalArgs_const, val1, putT, Tr.get_set_self, Tr.get_set_ne, Tr.isSome_set, hd _, ne_eq, Nat.reduceEqDiff, not_false_eq_true, decide_true, Nat.reduceLT, opI_move, opI_not, opI_geq, opI_callF, opI_fieldP, opI_pick, Nat.zero_add, runSeq_guard (b := true), runSeq_guard (b := false), beq_self_eq_true, Bool.not_true, Bool.not_false, E3, hk0, decide_false, E7, c3]; rfl) ?_)))
    refine W_cond (b := false) (by simp only [PArg.eval, Tr.get_set_self, Tr.get_set_ne, hd _, ne_eq, Nat.reduceEqDiff, not_false_eq_true, decide_true, Nat.reduceLT]; try rfl) (fun hb => by cases hb) (fun _ => ?_)
    have ge3 := (s3.grow.get _ hlt2).trans ge2
    have hr3 := hr2.grow s2.ok.1 s3.grow
    replace E3 := load_own (o := 3) ge3 rfl
    replace E1 := load_own (o := 1) ge3 rfl
    rw [hends] at E3
    rw [hw] at E1
    refine W_seq (W_seqR (by simp only [runSeq_cons, runSeq_nil, evalArgs_nil, evalArgs_tmp, val1, putT, Tr.get_set_self, Tr.get_set_ne, hd _, ne_eq, Nat.reduceEqDiff, not_false_eq_true, decide_true, Nat.reduceLT, opI_move, opI_not, opI_fieldP, Nat.zero_add, E3]; rfl) ?_)
    refine W_cond (b := true) (by simp only [PArg.eval, Tr.get_set_self, Tr.get_set_ne, hd _, ne_eq, Nat.reduceEqDiff, not_false_eq_true, decide_true, Nat.reduceLT]; try rfl) (fun _ => ?_) (fun hb => by cases hb)
    have L33 := load_own (o := 33) hr3.cell (rdC_sv hr.nth hr.op)
    have ll := (hr3.row.row t3.ok.1).len
    rw [hr3.len] at ll
    obtain ⟨e4, s4, c4, k4⟩ := store1 (o := 17 + w * 1) (x := .int .i64 st.spans.length) t3 hr.hrb hr3.cell ⟨rfl, rfl⟩ (by rw [rdC_length hr.nth hr.op]; omega)
    rw [rdC_set_op hr.nth hr.op hw16] at e4 s4 c4 k4
    have hh := held_none t3.ok.1
    simp only at ll L33
    refine W_seq (W_mix rfl (by simp only [sameN_self, evalArgs_nil, evalArgs_tmp, val1, putT, Tr.get_set_self, Tr.get_set_ne, hd _, ne_eq, Nat.reduceEqDiff, not_false_eq_true, decide_true, Nat.reduceLT, opI_move, opI_fieldP, Nat.zero_add, runMix_nil, runMix_read, runMix_eff, Bool.not_false, h0, E1, L33, ll, IA, opI_nilP, e4, hh]; rfl) ?_)
    have hr4 := hr3.upd (st' := ⟨e.step, st.nth, st.op.set w st.spans.length, st.spans⟩) c4 k4 rfl hr.nth (by rw [List.length_set]; exact hr.op)
    have ge4 := (k4 M.n (by omega)).trans ge3
    have n4 : M3.n = (M3.set rb (.cells (rdC e.step st.nth (st.op.set w st.spans.length) sv) 0 true none)).n := rfl
    generalize hM4 : M3.set rb (.cells (rdC e.step st.nth (st.op.set w st.spans.length) sv) 0 true none) = M4 at *
    have L33' := load_own (o := 33) hr4.cell (rdC_sv hr4.nth hr4.op)
    replace E1 := load_own (o := 1) ge4 rfl
    replace E2 := load_own (o := 2) ge4 rfl
    have E4' := loads_own (o := 4) (n := 3) ge4 (by simp [Ev.cells])
    simp only [Ev.cells, List.drop_succ_cons, List.drop_zero, List.take_succ_cons, List.take_zero] at E4'
    obtain ⟨r5, M5, c5, s5, va', la', rfl, ov, ol⟩ := own_ok (a := e.who) (b := e.nth) (c := i) (e := -1) (f := e.kind) (g := e.task) (h := 0) (i := 0) (va := e.va) (la := .slice none 0 0 false) (ls := []) d M4 (he.vs M4 s4.grow.g) IRow.nil s4.ok (by have := he.nv; omega) (by simp)
    have t5 := s4.trans s5
    have hr5 := hr4.grow s4.ok.1 s5.grow
    obtain ⟨sv', M6, M7, f1, f2, f3, s6, s7, hr7⟩ := hr5.push (xc := spC e.who e.nth i (-1) e.kind e.task va' 0 0 la') (s := ⟨e.who, e.nth, i, -1, e.kind, e.task, e.vs, 0, 0, []⟩) t5 ⟨va', la', rfl, ov.mono s4.grow.n, ol.mono s4.grow.n⟩ hsp
    have hr5' := hr5.grow t5.ok.1 (Grow.push t5.ok.1 (.cells (spC e.who e.nth i (-1) e.kind e.task va' 0 0 la') 0 true none))
    have L5 := load_own (o := 33) hr5.cell (rdC_sv hr5.nth hr5.op)
    have L5' := load_own (o := 33) hr5'.cell (rdC_sv hr5.nth hr5.op)
    have p5 := t5.push (k := .cells (spC e.who e.nth i (-1) e.kind e.task va' 0 0 la') 0 true none) (fun _ _ _ _ he => by cases he)
    have hn4 := s4.grow.n
    have q4 := held_none s4.ok.1
    have q5 := t5.nh M4.n hn4
    have q5' := p5.nh M4.n hn4
    have q6 := s6.nh M4.n hn4
    have q7 := s7.nh M4.n hn4
    have hbq := RowE.beq (hr4.row.row s4.ok.1)
    have eB : ∀ M : AMem, opI (.build [.int .i64 0, .int .i64 0, .int .i64 0, .int .i64 0, .int .i64 0, .int .u64 0, .slice none 0 0 false, .int .i64 0, .int .u64 0, .slice none 0 0 false] [(0, 1), (1, 1), (2, 1), (3, 1), (4, 3)]) [.int .i64 e.who, .int .i64 e.nth, .int .i64 i, .int .i64 (-1), .agg [.int .i64 e.kind, .int .u64 e.task, e.va]] M = some (.val (.agg (spC e.who e.nth i (-1) e.kind e.task e.va 0 0 (.slice none 0 0 false))) M) := fun M => rfl
    have M5n : (M5.push (.cells (spC e.who e.nth i (-1) e.kind e.task va' 0 0 la') 0 true none)).n = M5.n + 1 := rfl
    refine W_seq (W_trace rfl (by simp only [sameN_self, evalArgs_nil, evalArgs_tmp, evalArgs_const, val1, putT, Tr.get_set_self, Tr.get_set_ne, hd _, ne_eq, Nat.reduceEqDiff, not_false_eq_true, decide_true, Nat.reduceLT, opI_move, opI_callF, opI_fieldP, Nat.zero_add, trace_nil, trace_read, trace_eff, addR_some, addE_some, Bool.and_true, Bool.not_false, h0, h1, E1, E2, E4', L33', eB, c5, f1, f2, f3, opI_nilP, q4, q5, q5', q6, q7]; rfl) (by simp [checkRec, isLoad, sameAt, L33', L5, L5', hbq]) rfl ?_)
    refine W_seq (W_seqR (by simp only [runSeq_cons, runSeq_nil, evalArgs_nil, evalArgs_const, val1, putT, opI_move]; rfl) (W_ret ?_))
    refine ⟨_, fin_tmp (by simp only [Tr.get_set_self, Tr.get_set_ne, Tr.isSome_set, Option.isSome_some, hd _, ne_eq, Nat.reduceEqDiff, not_false_eq_true, decide_true, Nat.reduceLT]; try rfl), s7, ?_⟩
    rw [hp]
    refine ⟨rfl, ⟨?_, fun s hs => ?_⟩, _, _, hr7⟩
    rotate_left
    · rcases List.mem_append.1 hs with hs | hs
      · exact hb.2 s hs
      · simp only [List.mem_singleton] at hs; subst hs; exact he.nv
    intro w' hw'
    simp only [List.length_append, List.length_singleton]
    rw [List.getD_eq_getElem?_getD, List.getElem?_set]
    have hop := hr.op
    split
    · split <;> simp <;> omega
    · have := hb.1 w' hw'
      rw [List.getD_eq_getElem?_getD] at this
      omega
  | true =>
    rw [hends] at E3 hp
    simp only [if_true] at hp
    refine W_seq (W_block (W_seq (W_seqR (by simp only [runSeq_cons, runSeq_nil, evalArgs_nil, evalArgs_tmp, evalArgs_const, val1, putT, Tr.get_set_self, Tr.get_set_ne, Tr.isSome_set, hd _, ne_eq, Nat.reduceEqDiff, not_false_eq_true, decide_true, Nat.reduceLT, opI_move, opI_not, opI_fieldP, opI_pick, Nat.zero_add, runSeq_guard (b := false), Bool.false_beq, Bool.not_true, runSeq_skip, E3]; rfl) ?_)))
    refine W_cond (b := false) (by simp only [PArg.eval, Tr.get_set_self, Tr.get_set_ne, hd _, ne_eq, Nat.reduceEqDiff, not_false_eq_true, decide_true, Nat.reduceLT]; try rfl) (fun hb => by cases hb) (fun _ => ?_)
    refine W_seq (W_seqR (by simp only [runSeq_cons, runSeq_nil, evalArgs_nil, evalArgs_tmp, val1, putT, Tr.get_set_self, Tr.get_set_ne, hd _, ne_eq, Nat.reduceEqDiff, not_false_eq_true, decide_true, Nat.reduceLT, opI_move, opI_not, opI_fieldP, Nat.zero_add, E3]; rfl) ?_)
    refine W_cond (b := false) (by simp only [PArg.eval, Tr.get_set_self, Tr.get_set_ne, hd _, ne_eq, Nat.reduceEqDiff, not_false_eq_true, decide_true, Nat.reduceLT]; try rfl) (fun hb => by cases hb) (fun _ => ?_)
    have hh := held_none s2.ok.1
    by_cases hk0 : k < 0
    · have hn : takeP i st e = none := by rw [hp, if_pos hk0]
      refine W_seq (W_mix rfl (by simp only [sameN_self, evalArgs_nil, evalArgs_tmp, evalArgs_const, putT, Tr.get_set_self, Tr.get_set_ne, Tr.isSome_set, hd _, ne_eq, Nat.reduceEqDiff, not_false_eq_true, decide_true, Nat.reduceLT, opI_move, opI_lss, opI_pick, runMix_nil, runMix_read, runMix_guard (b := true), Bool.true_beq, Bool.not_true, hk0]; rfl) ?_)
      refine W_cond (b := true) (by simp only [PArg.eval, Tr.get_set_self, Tr.get_set_ne, hd _, ne_eq, Nat.reduceEqDiff, not_false_eq_true, decide_true, Nat.reduceLT]; try rfl) (fun _ => ?_) (fun hb => by cases hb)
      refine W_seq (W_seqR (by simp only [runSeq_cons, runSeq_nil, evalArgs_nil, evalArgs_const, val1, putT, opI_move]; rfl) (W_ret ?_))
      exact ⟨_, fin_tmp (by simp only [Tr.get_set_self, Tr.get_set_ne, Tr.isSome_set, Option.isSome_some, hd _, ne_eq, Nat.reduceEqDiff, not_false_eq_true, decide_true, Nat.reduceLT]; try rfl), s2, by rw [hn]; rfl⟩
    obtain ⟨kn, rfl⟩ : ∃ kn : Nat, k = kn := ⟨k.toNat, by omega⟩
    have hkl : kn < st.spans.length := by omega
    obtain ⟨s, hs⟩ : ∃ s, st.spans[kn]? = some s := ⟨_, List.getElem?_eq_getElem hkl⟩
    rw [if_neg hk0, Int.toNat_natCast, hs] at hp
    simp only at hp
    obtain ⟨e0, he0, va, la, rfl, ov, ol⟩ := hr2.sp kn s hs
    have hkl' : kn < els.length := by rw [hr2.len]; exact hkl
    have hel : els[kn] = spC s.who s.nth s.from_ s.to s.kind s.task va s.code s.v la := (List.getElem?_eq_some_iff.1 he0).2
    have L33 := load_own (o := 33) hr2.cell (rdC_sv hr.nth hr.op)
    obtain ⟨p, pp, p1, p2, _⟩ := (hr2.row.row s2.ok.1).at_ hkl' (by omega)
    replace p2 := p2 4 3 (by omega)
    rw [hel] at p2
    simp only [List.drop_succ_cons, List.drop_zero, List.take_succ_cons, List.take_zero] at p2
    obtain ⟨r3, M3, c3, s3, rfl⟩ := same_ok (c1 := s.kind) (c2 := e.kind) (v1 := s.task) (v2 := e.task) d M2 (ov.row s2.ok.1) (he.vs M2 hg2) (by have := hb.2 s (List.mem_of_getElem? hs); omega) s2.ok
    have t3 := s2.trans s3
    by_cases hz : s.kind = e.kind ∧ s.task = e.task ∧ s.vs = e.vs
    rotate_left
    · have hn : takeP i st e = none := by rw [hp, if_neg hz]
      rw [decide_eq_false hz] at c3
      refine W_seq (W_mix rfl (by simp only [sameN_self, evalArgs_nil, evalArgs_tmp, evalArgs_const, val1, putT, Tr.get_set_self, Tr.get_set_ne, Tr.isSome_set, hd _, ne_eq, Nat.reduceEqDiff, not_false_eq_true, decide_true, Nat.reduceLT, opI_move, opI_not, opI_lss, opI_callF, opI_fieldP, opI_pick, Nat.zero_add, runMix_nil, runMix_read, runMix_eff, runMix_guard (b := false), beq_self_eq_true, Bool.not_true, Bool.not_false, h0, L33, p1, p2, opI_fieldQ pp, opI_nilP, E4, c3, hh, hk0, decide_false]; rfl) ?_)
      refine W_cond (b := true) (by simp only [PArg.eval, Tr.get_set_self, Tr.get_set_ne, hd _, ne_eq, Nat.reduceEqDiff, not_false_eq_true, decide_true, Nat.reduceLT]; try rfl) (fun _ => ?_) (fun hb => by cases hb)
      refine W_seq (W_seqR (by simp only [runSeq_cons, runSeq_nil, evalArgs_nil, evalArgs_const, val1, putT, opI_move]; rfl) (W_ret ?_))
      exact ⟨_, fin_tmp (by simp only [Tr.get_set_self, Tr.get_set_ne, Tr.isSome_set, Option.isSome_some, hd _, ne_eq, Nat.reduceEqDiff, not_false_eq_true, decide_true, Nat.reduceLT]; try rfl), t3, by rw [hn]; rfl⟩
    rw [if_pos hz] at hp
    rw [decide_eq_true hz] at c3
    refine W_seq (W_mix rfl (by simp only [sameN_self, evalArgs_nil, evalArgs_tmp, evalArgs_const, val1, putT, Tr.get_set_self, Tr.get_set_ne, Tr.isSome_set, hd _, ne_eq, Nat.reduceEqDiff, not_false_eq_true, decide_true, Nat.reduceLT, opI_move, opI_not, opI_lss, opI_callF, opI_fieldP, opI_pick, Nat.zero_add, runMix_nil, runMix_read, runMix_eff, runMix_guard (b := false), beq_self_eq_true, Bool.not_true, h0, L33, p1, p2, opI_fieldQ pp, opI_nilP, E4, c3, hh, hk0, decide_false]; rfl) ?_)
    refine W_cond (b := false) (by simp only [PArg.eval, Tr.get_set_self, Tr.get_set_ne, hd _, ne_eq, Nat.reduceEqDiff, not_false_eq_true, decide_true, Nat.reduceLT]; try rfl) (fun hb => by cases hb) (fun _ => W_skip ?_)
    show W _ _
    have ge3 := (s3.grow.get _ hlt2).trans ge2
    have hr3 := hr2.grow s2.ok.1 s3.grow
    have L33' := load_own (o := 33) hr3.cell (rdC_sv hr.nth hr.op)
    obtain ⟨q, M4, qp, q1, q2, s4, n4, k4, hr4⟩ := hr3.put (x := .int .i64 i) (o := 3) (n := 1) (s' := { s with to := i }) t3 he0 rfl (by omega) rfl ⟨va, la, rfl, ov.grow s2.ok.1 s3.grow, ol.grow s2.ok.1 s3.grow⟩
    have hlt3 := get_lt t3.ok.1 ge3
    have ge4 := k4 _ _ _ hlt3 ge3 rfl
    refine W_seq (W_seqR (by simp only [runSeq_cons, runSeq_nil, evalArgs_nil, evalArgs_tmp, val1, putT, Tr.get_set_self, Tr.get_set_ne, hd _, ne_eq, Nat.reduceEqDiff, not_false_eq_true, decide_true, Nat.reduceLT, opI_move, opI_fieldP, Nat.zero_add, h0, h1, L33', q1, q2, opI_fieldQ qp, opI_nilP]; rfl) ?_)
    have sp3 : ∀ x : AV, splice (spC s.who s.nth s.from_ s.to s.kind s.task va s.code s.v la) 3 (AV.cells (.int .i64 i)) = spC s.who s.nth s.from_ i s.kind s.task va s.code s.v la := fun _ => rfl
    rw [sp3 .nilFunc] at hr4
    have L4 := load_own (o := 33) hr4.cell (rdC_sv hr4.nth hr4.op)
    have E7' := loads_own (o := 7) (n := 3) ge4 (by simp [Ev.cells])
    simp only [Ev.cells, List.drop_succ_cons, List.drop_zero, List.take_succ_cons, List.take_zero] at E7'
    obtain ⟨r5, M5, c5, s5, va5, la', rfl, ov5, ol5⟩ := own_ok (a := 0) (b := 0) (c := 0) (e := 0) (f := 0) (g := 0) (h := e.code) (i := e.v) (va := .slice none 0 0 false) (la := e.la) (vs := []) d M4 IRow.nil (he.ls M4 s4.grow.g) s4.ok (by simp) (by have := he.nl; omega)
    have t5 := s4.trans s5
    have hr5 := hr4.grow s4.ok.1 s5.grow
    obtain ⟨va4, la4, he4, ov4, ol4⟩ : ∃ va4 la4, (els.set kn (spC s.who s.nth s.from_ i s.kind s.task va s.code s.v la))[kn]? = some (spC s.who s.nth s.from_ i s.kind s.task va4 s.code s.v la4) ∧ Solo M0 M5 .i64 va4 s.vs ∧ Solo M0 M5 .u64 la4 s.ls := by
      obtain ⟨e4, q3, va4, la4, q4, q5, q6⟩ := hr5.sp kn { s with to := i } (by simp [hkl])
      exact ⟨va4, la4, by rw [q3, q4], q5, q6⟩
    obtain ⟨y, M6, yp, y1, y2, s6, n6, k6, hr6⟩ := hr5.put (x := .agg [.int .i64 e.code, .int .u64 e.v, la']) (o := 7) (n := 3) (s' := { s with to := i, code := e.code, v := e.v, ls := e.ls }) t5 he4 rfl (by omega) (by simp [cells_agg, one_int, ol5.one.1]) ⟨va4, la', rfl, ov4, ol5.mono s4.grow.n⟩
    have L5 := load_own (o := 33) hr5.cell (rdC_sv hr5.nth hr5.op)
    have hn4 := s4.grow.n
    have w4 := held_none s4.ok.1
    have w5 := t5.nh M4.n hn4
    have w6 := s6.nh M4.n hn4
    have hbq := RowE.beq (hr4.row.row s4.ok.1)
    have eB : ∀ M : AMem, opI (.build [.int .i64 0, .int .i64 0, .int .i64 0, .int .i64 0, .int .i64 0, .int .u64 0, .slice none 0 0 false, .int .i64 0, .int .u64 0, .slice none 0 0 false] [(7, 3)]) [.agg [.int .i64 e.code, .int .u64 e.v, e.la]] M = some (.val (.agg (spC 0 0 0 0 0 0 (.slice none 0 0 false) e.code e.v e.la)) M) := fun M => rfl
    have eF : ∀ M : AMem, opI (.field 7 3 true) [.agg (spC 0 0 0 0 0 0 va5 e.code e.v la')] M = some (.val (.agg [.int .i64 e.code, .int .u64 e.v, la']) M) := fun M => rfl
    refine W_seq (W_trace (M' := M6) rfl (by simp only [sameN_self, evalArgs_nil, evalArgs_tmp, val1, putT, Tr.get_set_self, Tr.get_set_ne, hd _, ne_eq, Nat.reduceEqDiff, not_false_eq_true, decide_true, Nat.reduceLT, opI_move, opI_callF, opI_fieldP, Nat.zero_add, trace_nil, trace_read, trace_eff, addR_some, addE_some, Bool.and_true, Bool.not_false, h0, L4, E7', eB, eF, c5, y1, y2, opI_fieldQ yp, opI_nilP, w4, w5, w6]; rfl) (by simp [checkRec, isLoad, sameAt, L4, L5, hbq]) rfl ?_)
    have ge5 := (s5.grow.get _ (get_lt s4.ok.1 ge4)).trans ge4
    have ge6 := k6 _ _ _ (get_lt t5.ok.1 ge5) ge5 rfl
    have E1' := load_own (o := 1) ge6 rfl
    rw [hw] at E1'
    obtain ⟨e7, s7, c7, k7⟩ := store1 (o := 17 + w * 1) (x := .int .i64 (-1)) s6 hr.hrb hr6.cell ⟨rfl, rfl⟩ (by rw [rdC_length hr.nth hr.op]; omega)
    rw [rdC_set_op hr.nth hr.op hw16] at e7 s7 c7 k7
    have hr7 := hr6.upd (st' := ⟨e.step, st.nth, st.op.set w (-1), _⟩) c7 k7 rfl hr.nth (by rw [List.length_set]; exact hr.op)
    have hh6 := held_none s6.ok.1
    refine W_seq (W_mix rfl (by simp only [sameN_self, evalArgs_nil, evalArgs_tmp, evalArgs_const, val1, putT, Tr.get_set_self, Tr.get_set_ne, hd _, ne_eq, Nat.reduceEqDiff, not_false_eq_true, decide_true, Nat.reduceLT, opI_move, opI_fieldP, Nat.zero_add, runMix_nil, runMix_read, runMix_eff, h0, E1', IA, opI_nilP, e7, hh6]; rfl) ?_)
    have ge7 := (k7 M.n (by omega)).trans ge6
    simp only at hr7 ge7
    generalize hM7 : M6.set rb (.cells (rdC e.step st.nth (st.op.set w (-1)) sv) 0 true none) = M7 at *
    have E1'' := load_own (o := 1) ge7 rfl
    rw [hw] at E1''
    have LN := load_own (o := 1 + w * 1) hr7.cell (rdC_nth hr.nth hw16)
    obtain ⟨e8, s8, c8, k8⟩ := store1 (o := 1 + w * 1) (x := .int .i64 (wrapF .i64 (st.nth.getD w 0 + 1))) s7 hr.hrb hr7.cell ⟨rfl, rfl⟩ (by rw [rdC_length hr7.nth hr7.op]; omega)
    rw [rdC_set_nth hr.nth hw16] at e8 s8 c8 k8
    have hr8 := hr7.upd (st' := ⟨e.step, st.nth.set w (wrapF .i64 (st.nth.getD w 0 + 1)), st.op.set w (-1), _⟩) c8 k8 rfl (by rw [List.length_set]; exact hr.nth) hr7.op
    have hh7 := held_none s7.ok.1
    simp only at LN
    refine W_seq (W_mix rfl (by simp only [sameN_self, evalArgs_nil, evalArgs_tmp, evalArgs_const, val1, putT, Tr.get_set_self, Tr.get_set_ne, hd _, ne_eq, Nat.reduceEqDiff, not_false_eq_true, decide_true, Nat.reduceLT, opI_move, opI_add, opI_fieldP, Nat.zero_add, runMix_nil, runMix_read, runMix_eff, h0, E1'', LN, IA, opI_nilP, e8, hh7]; rfl) ?_)
    refine W_seq (W_seqR (by simp only [runSeq_cons, runSeq_nil, evalArgs_nil, evalArgs_const, val1, putT, opI_move]; rfl) (W_ret ?_))
    refine ⟨_, fin_tmp (by simp only [Tr.get_set_self, Tr.get_set_ne, Tr.isSome_set, Option.isSome_some, hd _, ne_eq, Nat.reduceEqDiff, not_false_eq_true, decide_true, Nat.reduceLT]; try rfl), s8, ?_⟩
    rw [hp]
    have hr9 := hr8
    simp only [List.set_set] at hr9
    refine ⟨rfl, ⟨?_, fun y hy => ?_⟩, sv, _, hr9⟩
    rotate_left
    · rcases List.mem_or_eq_of_mem_set hy with hy | rfl
      · exact hb.2 y hy
      · exact hb.2 s (List.mem_of_getElem? hs)
    intro w' hw'
    simp only [List.length_set]
    rw [List.getD_eq_getElem?_getD, List.getElem?_set]
    have hop := hr.op
    split
    · split <;> simp <;> omega
    · have := hb.1 w' hw'
      rw [List.getD_eq_getElem?_getD] at this
      omega
end Go.Proofs.Ytoddncakdnmloaa.diary
