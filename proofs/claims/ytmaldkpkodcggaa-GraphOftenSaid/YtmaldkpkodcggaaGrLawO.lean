/- The walk of the law GraphOften. -/
import Derived.Test.YtmaldkpkodcggaaGrRefO
namespace Go.Proofs.Ytmaldkpkodcggaa.grf
open Go Go.Vx
set_option maxRecDepth 20000 in
set_option maxHeartbeats 8000000 in
theorem graphOften_ok {v tv : AV} {js : List Jb} {ts : List Int} (d : Nat) (M0 : AMem) (hok : Okg M0) (hv0 : JobsIn M0.g v js) (ht0 : InRow M0.g .u64 tv ts) :
    Ans (callF tbl code 100000 (d + 210)) 3 [v, tv] M0 fun r _ => r = .bool true := by
  refine Ans_of (tbl_none (by decide) _) (show code 3 = some c3 from by kernel_rfl) (by simp) fun t hd ha => ?_
  have h0 := ha 0 _ rfl
  have h1 := ha 1 _ rfl
  clear ha
  have haw : callF tbl code 100000 (d + 209) 5 [] M0 = some (.bool true, M0) := rfl
  refine W_seq (W_seqR (by simp only [runSeq_cons, runSeq_nil, evalArgs_nil, evalArgs_const, val1, putT, opI_move]; rfl) (W_seq (W_seq (W_seqR (by simp only [runSeq_cons, runSeq_nil, evalArgs_nil, evalArgs_tmp, val1, putT, Tr.get_set_self, Tr.get_set_ne, hd _, ne_eq, Nat.reduceEqDiff, not_false_eq_true, decide_true, Nat.reduceLT, opI_not, opI_callF, haw]; rfl) ?_))))
  refine W_cond (b := false) (by simp only [PArg.eval, Tr.get_set_self, Tr.get_set_ne, hd _, ne_eq, Nat.reduceEqDiff, not_false_eq_true, decide_true, Nat.reduceLT]; try rfl) (fun hb => by cases hb) (fun _ => W_skip ?_)
  show W _ _
  obtain ⟨_, _, c1, rfl, b, rfl, hb⟩ := heavy_ok (most := 60) (d + 208) M0 hv0
  rename_i M0
  have c1' : callF tbl code 100000 (d + 209) 6 [v, .int .i64 60] M0 = some (.bool b, M0) := c1
  have lv := hv0.lenS M0 rfl
  have lt := (ht0 M0 rfl).len
  have yes : ∀ (Q : PEx → Tr AV → AMem → Prop) (t : Tr AV) (M : AMem), Dom t 137 → (∀ t' : Tr AV, t'.get 4 = some (.bool true) → Q .ret t' M) → W (exec (callF tbl code 100000 (d + 209)) 100000 (.seq (.seqR [⟨.move, [.const (.bool true)], (some 4), none⟩]) .ret) t M) Q := fun Q t M hd hq => by
    refine W_seq (W_seqR (by simp only [runSeq_cons, runSeq_nil, evalArgs_nil, evalArgs_const, val1, putT, opI_move]; rfl) (W_ret ?_))
    exact hq _ (by simp only [Tr.get_set_self, hd _, decide_true, Nat.reduceLT])
  cases b with
  | true =>
    refine W_seq (W_seq (W_seqR (by simp only [runSeq_cons, runSeq_nil, evalArgs_nil, evalArgs_tmp, evalArgs_const, val1, putT, Tr.get_set_self, Tr.get_set_ne, Tr.isSome_set, hd _, ne_eq, Nat.reduceEqDiff, not_false_eq_true, decide_true, Nat.reduceLT, opI_move, opI_callF, opI_pick, runSeq_guard (b := true), Bool.true_beq, Bool.not_true, h0, c1']; rfl) ?_))
    exact W_cond (b := true) (by simp only [PArg.eval, Tr.get_set_self, Tr.get_set_ne, hd _, ne_eq, Nat.reduceEqDiff, not_false_eq_true, decide_true, Nat.reduceLT]; try rfl) (fun _ => by refine yes _ _ _ ?_ (fun t' hh => ⟨_, fin_tmp hh, rfl⟩); ((repeat (with_reducible apply Dom.set)); exact hd)) (fun hb => by cases hb)
  | false =>
  obtain ⟨_, hv⟩ := hb rfl
  by_cases g1 : js.length > 60
  · have e1 : decide ((js.length : Int) > 60) = true := decide_eq_true (by omega)
    refine W_seq (W_seq (W_seqR (by simp only [runSeq_cons, runSeq_nil, evalArgs_nil, evalArgs_tmp, evalArgs_const, val1, putT, Tr.get_set_self, Tr.get_set_ne, Tr.isSome_set, hd _, ne_eq, Nat.reduceEqDiff, not_false_eq_true, decide_true, Nat.reduceLT, opI_move, opI_gtr, opI_callF, opI_pick, runSeq_guard (b := true), runSeq_guard (b := false), beq_self_eq_true, Bool.true_beq, Bool.not_true, h0, c1', lv, e1]; rfl) ?_))
    exact W_cond (b := true) (by simp only [PArg.eval, Tr.get_set_self, Tr.get_set_ne, hd _, ne_eq, Nat.reduceEqDiff, not_false_eq_true, decide_true, Nat.reduceLT]; try rfl) (fun _ => by refine yes _ _ _ ?_ (fun t' hh => ⟨_, fin_tmp hh, rfl⟩); ((repeat (with_reducible apply Dom.set)); exact hd)) (fun hb => by cases hb)
  have e1 : decide ((js.length : Int) > 60) = false := decide_eq_false (by omega)
  by_cases g2 : ts.length > 60
  · have e2 : decide ((ts.length : Int) > 60) = true := decide_eq_true (by omega)
    refine W_seq (W_seq (W_seqR (by simp only [runSeq_cons, runSeq_nil, evalArgs_nil, evalArgs_tmp, evalArgs_const, val1, putT, Tr.get_set_self, Tr.get_set_ne, Tr.isSome_set, hd _, ne_eq, Nat.reduceEqDiff, not_false_eq_true, decide_true, Nat.reduceLT, opI_move, opI_gtr, opI_callF, opI_pick, runSeq_guard (b := false), beq_self_eq_true, Bool.not_true, h0, h1, c1', lv, lt, e1, e2]; rfl) ?_))
    exact W_cond (b := true) (by simp only [PArg.eval, Tr.get_set_self, Tr.get_set_ne, hd _, ne_eq, Nat.reduceEqDiff, not_false_eq_true, decide_true, Nat.reduceLT]; try rfl) (fun _ => by refine yes _ _ _ ?_ (fun t' hh => ⟨_, fin_tmp hh, rfl⟩); ((repeat (with_reducible apply Dom.set)); exact hd)) (fun hb => by cases hb)
  have e2 : decide ((ts.length : Int) > 60) = false := decide_eq_false (by omega)
  have hts : ts.length ≤ 1000 := by omega
  refine W_seq (W_seq (W_seqR (by simp only [runSeq_cons, runSeq_nil, evalArgs_nil, evalArgs_tmp, evalArgs_const, val1, putT, Tr.get_set_self, Tr.get_set_ne, Tr.isSome_set, hd _, ne_eq, Nat.reduceEqDiff, not_false_eq_true, decide_true, Nat.reduceLT, opI_move, opI_gtr, opI_callF, opI_pick, runSeq_guard (b := false), beq_self_eq_true, Bool.not_true, h0, h1, c1', lv, lt, e1, e2]; rfl) ?_))
  refine W_cond (b := false) (by simp only [PArg.eval, Tr.get_set_self, Tr.get_set_ne, hd _, ne_eq, Nat.reduceEqDiff, not_false_eq_true, decide_true, Nat.reduceLT]; try rfl) (fun hb => by cases hb) (fun _ => W_skip ?_)
  show W _ _
  obtain ⟨r1, M1, c2, s1, k1⟩ := often_ok (d + 204) M0 hok hv ht0 hts
  obtain ⟨r2, M2, c3, s2, k2⟩ := work_ok (d + 203) M1 s1.ok (by rw [s1.grow.g]; exact hv) (by rw [s1.grow.g]; exact ht0) hts
  have t2 := s1.trans s2
  obtain ⟨r3, M3, c4, s3, k3⟩ := refranks_ok (d + 207) M2 t2.ok (by rw [t2.grow.g]; exact hv)
  have t3 := t2.trans s3
  have z0 : (((0 : Nat) : Int) == 0) = true := rfl
  have z1 : ((13 : Int) == 13) = true := rfl
  have z2 : ((0 : Int) == 0) = true := rfl
  have z3 : (((0 : Nat) : Int) != 0) = false := rfl
  have z4 : ((14 : Int) != 14) = false := rfl
  have z5 : ((0 : Int) != 0) = false := rfl
  rcases k3 with ⟨rfl, hn⟩ | ⟨hR, xs, vr, hx, rfl, _⟩
  · have hr1 : r1 = .tuple [.slice none 0 0 false, .int .i64 13] := by
      rcases k1 with ⟨h, _⟩ | ⟨hR, hs, _⟩
      · exact h
      · rw [hn hR] at hs; cases hs
    have hr2 : r2 = .tuple [.int .i64 0, .int .i64 13] := by
      rcases k2 with ⟨h, _⟩ | ⟨hR, hs, _⟩
      · exact h
      · rw [hn hR] at hs; cases hs
    subst hr1 hr2
    refine W_seq (W_seqR (by simp only [runSeq_cons, runSeq_nil, evalArgs_nil, evalArgs_tmp, val1, putT, Tr.get_set_self, Tr.get_set_ne, hd _, ne_eq, Nat.reduceEqDiff, not_false_eq_true, decide_true, Nat.reduceLT, opI_move, opI_extract, opI_callF, h0, h1, c2, List.getElem?_cons_zero, List.getElem?_cons_succ]; rfl) ?_)
    refine W_seq (W_seqR (by simp only [runSeq_cons, runSeq_nil, evalArgs_nil, evalArgs_tmp, val1, putT, Tr.get_set_self, Tr.get_set_ne, hd _, ne_eq, Nat.reduceEqDiff, not_false_eq_true, decide_true, Nat.reduceLT, opI_move, opI_extract, opI_callF, h0, h1, c3, List.getElem?_cons_zero, List.getElem?_cons_succ]; rfl) ?_)
    refine W_seq (W_seq (W_seqR (by simp only [runSeq_cons, runSeq_nil, evalArgs_nil, evalArgs_tmp, val1, putT, Tr.get_set_self, Tr.get_set_ne, hd _, ne_eq, Nat.reduceEqDiff, not_false_eq_true, decide_true, Nat.reduceLT, opI_move, opI_extract, opI_callF, h0, c4, List.getElem?_cons_zero, List.getElem?_cons_succ]; rfl) ?_))
    refine W_seq (W_seqR (by simp only [runSeq_cons, runSeq_nil, evalArgs_nil, evalArgs_tmp, val1, putT, Tr.get_set_self, Tr.get_set_ne, hd _, ne_eq, Nat.reduceEqDiff, not_false_eq_true, decide_true, Nat.reduceLT, opI_move, opI_not]; rfl) ?_)
    refine W_cond (b := true) (by simp only [PArg.eval, Tr.get_set_self, Tr.get_set_ne, hd _, ne_eq, Nat.reduceEqDiff, not_false_eq_true, decide_true, Nat.reduceLT]; try rfl) (fun _ => ?_) (fun hb => by cases hb)
    refine W_seq (W_seqR (by simp only [runSeq_cons, runSeq_nil, evalArgs_nil, evalArgs_tmp, evalArgs_const, val1, putT, Tr.get_set_self, Tr.get_set_ne, Tr.isSome_set, hd _, ne_eq, Nat.reduceEqDiff, not_false_eq_true, decide_true, Nat.reduceLT, opI_move, opI_eql, opI_lenO, opI_pick, runSeq_guard (b := true), beq_self_eq_true, Bool.not_false, z0]; rfl) (W_ret ?_))
    exact ⟨_, fin_tmp (by simp only [Tr.get_set_self, Tr.get_set_ne, Option.isSome_some, hd _, ne_eq, Nat.reduceEqDiff, not_false_eq_true, decide_true, Nat.reduceLT]; try rfl), rfl⟩
  have hsome : ∀ {P : Prop}, ranksD js = none → P := fun h => by rw [h] at hx; cases hx
  obtain ⟨_, _, out, T, hD, hl, hIs, k1⟩ : RightP js ∧ (ranksD js).isSome = true ∧ ∃ out T, Done js out ∧ out.length = js.length ∧ IsOft js ts T ∧ ((r1 = .tuple [.slice none 0 0 false, .int .i64 14] ∧ ∃ i, i < js.length ∧ T.getD i 0 > 1099511627776) ∨ ∃ vr, r1 = .tuple [vr, .int .i64 0] ∧ IRow M1 .i64 vr T ∧ ∀ i, i < js.length → T.getD i 0 ≤ 1099511627776) := by
    rcases k1 with ⟨_, h⟩ | h
    · exact hsome (h hR)
    · exact h
  have k2' : (r2 = .tuple [.int .i64 0, .int .i64 14] ∧ ((∃ i, i < js.length ∧ T.getD i 0 > 1099511627776) ∨ workS js ts T > 1099511627776)) ∨ (r2 = .tuple [.int .i64 (workS js ts T), .int .i64 0] ∧ (∀ i, i < js.length → T.getD i 0 ≤ 1099511627776) ∧ workS js ts T ≤ 1099511627776) := by
    rcases k2 with ⟨_, h⟩ | ⟨_, _, out', T', _, _, hIs', h⟩
    · exact hsome (h hR)
    · rw [oft_uniq hD hl hIs hIs']; exact h
  clear k2
  obtain ⟨_, M4, c5, s4, vk, bo, rfl, hrow, hbo⟩ := refoften_ok (d + 7) M3 t3.ok (by rw [t3.grow.g]; exact hv) (by rw [t3.grow.g]; exact ht0) hts hR hD hl hIs
  have t4 := t3.trans s4
  obtain ⟨_, M5, c6, s5, bw, rfl, hbw⟩ := refwork_ok (d + 6) M4 t4.ok (by rw [t4.grow.g]; exact hv) (by rw [t4.grow.g]; exact ht0) hts hR hD hl hIs
  have t5 := t4.trans s5
  rcases k1 with ⟨rfl, i, hi, hbig⟩ | ⟨vl, rfl, hrl, hall⟩
  · -- one comes up too often
    have hbo' : bo = false := by
      cases bo with
      | false => rfl
      | true => have := hbo.1 rfl i hi; omega
    have hbw' : bw = false := by
      cases bw with
      | false => rfl
      | true => have := (hbw.1 rfl).1 i hi; omega
    have hr2 : r2 = .tuple [.int .i64 0, .int .i64 14] := by
      rcases k2' with ⟨h, _⟩ | ⟨_, h, _⟩
      · exact h
      · have := h i hi; omega
    subst hbo' hbw' hr2
    refine W_seq (W_seqR (by simp only [runSeq_cons, runSeq_nil, evalArgs_nil, evalArgs_tmp, val1, putT, Tr.get_set_self, Tr.get_set_ne, hd _, ne_eq, Nat.reduceEqDiff, not_false_eq_true, decide_true, Nat.reduceLT, opI_move, opI_extract, opI_callF, h0, h1, c2, List.getElem?_cons_zero, List.getElem?_cons_succ]; rfl) ?_)
    refine W_seq (W_seqR (by simp only [runSeq_cons, runSeq_nil, evalArgs_nil, evalArgs_tmp, val1, putT, Tr.get_set_self, Tr.get_set_ne, hd _, ne_eq, Nat.reduceEqDiff, not_false_eq_true, decide_true, Nat.reduceLT, opI_move, opI_extract, opI_callF, h0, h1, c3, List.getElem?_cons_zero, List.getElem?_cons_succ]; rfl) ?_)
    refine W_seq (W_seq (W_seqR (by simp only [runSeq_cons, runSeq_nil, evalArgs_nil, evalArgs_tmp, val1, putT, Tr.get_set_self, Tr.get_set_ne, hd _, ne_eq, Nat.reduceEqDiff, not_false_eq_true, decide_true, Nat.reduceLT, opI_move, opI_extract, opI_callF, h0, c4, List.getElem?_cons_zero, List.getElem?_cons_succ]; rfl) ?_))
    refine W_seq (W_seqR (by simp only [runSeq_cons, runSeq_nil, evalArgs_nil, evalArgs_tmp, val1, putT, Tr.get_set_self, Tr.get_set_ne, hd _, ne_eq, Nat.reduceEqDiff, not_false_eq_true, decide_true, Nat.reduceLT, opI_move, opI_not]; rfl) ?_)
    refine W_cond (b := false) (by simp only [PArg.eval, Tr.get_set_self, Tr.get_set_ne, hd _, ne_eq, Nat.reduceEqDiff, not_false_eq_true, decide_true, Nat.reduceLT]; try rfl) (fun hb => by cases hb) (fun _ => W_skip ?_)
    show W _ _
    refine W_seq (W_seqR (by simp only [runSeq_cons, runSeq_nil, evalArgs_nil, evalArgs_tmp, val1, putT, Tr.get_set_self, Tr.get_set_ne, hd _, ne_eq, Nat.reduceEqDiff, not_false_eq_true, decide_true, Nat.reduceLT, opI_move, opI_extract, opI_callF, h0, h1, c5, List.getElem?_cons_zero, List.getElem?_cons_succ]; rfl) ?_)
    refine W_seq (W_seqR (by simp only [runSeq_cons, runSeq_nil, evalArgs_nil, evalArgs_tmp, val1, putT, Tr.get_set_self, Tr.get_set_ne, hd _, ne_eq, Nat.reduceEqDiff, not_false_eq_true, decide_true, Nat.reduceLT, opI_move, opI_extract, opI_callF, h0, h1, c6, List.getElem?_cons_zero, List.getElem?_cons_succ]; rfl) ?_)
    refine W_seq (W_seq (W_seqR (by simp only [runSeq_cons, runSeq_nil, evalArgs_nil, evalArgs_tmp, evalArgs_const, val1, putT, Tr.get_set_self, Tr.get_set_ne, Tr.isSome_set, hd _, ne_eq, Nat.reduceEqDiff, not_false_eq_true, decide_true, Nat.reduceLT, opI_move, opI_not, opI_neq, opI_lenO, opI_pick, runSeq_guard (b := true), runSeq_guard (b := false), beq_self_eq_true, Bool.false_beq, Bool.not_true, Bool.not_false, runSeq_skip, z3, z4, z5]; rfl) ?_))
    refine W_cond (b := false) (by simp only [PArg.eval, Tr.get_set_self, Tr.get_set_ne, hd _, ne_eq, Nat.reduceEqDiff, not_false_eq_true, decide_true, Nat.reduceLT]; try rfl) (fun hb => by cases hb) (fun _ => W_skip ?_)
    show W _ _
    refine W_seq (W_seq (W_seqR (by simp only [runSeq_cons, runSeq_nil, evalArgs_nil, evalArgs_tmp, val1, putT, Tr.get_set_self, Tr.get_set_ne, hd _, ne_eq, Nat.reduceEqDiff, not_false_eq_true, decide_true, Nat.reduceLT, opI_move, opI_not]; rfl) ?_))
    exact W_cond (b := true) (by simp only [PArg.eval, Tr.get_set_self, Tr.get_set_ne, hd _, ne_eq, Nat.reduceEqDiff, not_false_eq_true, decide_true, Nat.reduceLT]; try rfl) (fun _ => by refine yes _ _ _ ?_ (fun t' hh => ⟨_, fin_tmp hh, rfl⟩); ((repeat (with_reducible apply Dom.set)); exact hd)) (fun hb => by cases hb)
  have hbo' : bo = true := hbo.2 hall
  subst hbo'
  have hlen := hIs.len
  have hrl5 := hrl.grow (((s2.trans s3).trans s4).trans s5).grow
  have hrow5 := hrow.grow s5.grow
  have l1 := hrl5.len
  have l2 := hrow5.len
  rw [hlen] at l1 l2
  have nn : ∀ x : Int, (x != x) = false := fun x => by simp
  -- what stands behind the great test
  have rest : ∀ (Q : PEx → Tr AV → AMem → Prop) (t : Tr AV), (∀ t' : Tr AV, t'.get 4 = some (.bool true) → Q .ret t' M5) → Dom t 137 → t.get 5 = some vl → t.get 6 = some (.int .i64 0) → t.get 11 = some vk → t.get 12 = some (.bool true) →
      W (exec (callF tbl code 100000 (d + 209)) 100000 (.seq (.seq (.seqR [⟨.move, [.tmp 12], (some 111), none⟩, ⟨.not, [.tmp 111], (some 112), none⟩])
 (.cond (.tmp 112) (.seq (.seqR [⟨.move, [.const (.bool true)], (some 4), none⟩])
 .ret)
 .skip))
 (.seq (.seq (.seqR [⟨.move, [.tmp 6], (some 113), none⟩,
 ⟨(.bin .neq), [.tmp 113, .const (.int .i64 0)], (some 114), none⟩,
 ⟨.move, [.tmp 114], (some 115), none⟩,
 ⟨.move, [.tmp 5], (some 116), some (115, false)⟩,
 ⟨.lenS, [.tmp 116], (some 117), some (115, false)⟩,
 ⟨.move, [.tmp 11], (some 118), some (115, false)⟩,
 ⟨.lenS, [.tmp 118], (some 119), some (115, false)⟩,
 ⟨(.bin .neq), [.tmp 117, .tmp 119], (some 120), some (115, false)⟩,
 ⟨.pick, [.tmp 115, .const (.bool true), .tmp 120], (some 121), none⟩])
 (.cond (.tmp 121) (.seq (.seqR [⟨.move, [.const (.bool false)], (some 4), none⟩])
 .ret)
 .skip))
 (.seq (.seq (.seqR [⟨.move, [.const (.int .i64 0)], (some 15), none⟩])
 (.block 0 (.loop (.seq (.seq (.seqR [⟨.move, [.tmp 15], (some 122), none⟩,
 ⟨.move, [.tmp 5], (some 123), none⟩,
 ⟨.lenS, [.tmp 123], (some 124), none⟩,
 ⟨(.bin .lss), [.tmp 122, .tmp 124], (some 125), none⟩])
 (.cond (.tmp 125) .skip
 (.exit 0)))
 (.seq (.block 1 (.seq (.drawR [⟨⟨.move, [.tmp 5], (some 128), none⟩, false, false, 0, 0⟩,
 ⟨⟨.move, [.tmp 15], (some 129), none⟩, false, false, 0, 0⟩,
 ⟨⟨(.indexAddrS 1), [.tmp 128, .tmp 129], (some 130), none⟩, false, false, 0, 0⟩,
 ⟨⟨(.load false 1), [.tmp 130], (some 131), none⟩, false, false, 0, 0⟩,
 ⟨⟨.move, [.tmp 11], (some 132), none⟩, false, false, 0, 0⟩,
 ⟨⟨.move, [.tmp 15], (some 133), none⟩, false, false, 0, 0⟩,
 ⟨⟨(.indexAddrS 1), [.tmp 132, .tmp 133], (some 134), none⟩, false, false, 0, 0⟩,
 ⟨⟨(.load false 1), [.tmp 134], (some 135), none⟩, false, false, 0, 0⟩,
 ⟨⟨(.bin .neq), [.tmp 131, .tmp 135], (some 136), none⟩, false, false, 0, 0⟩])
 (.cond (.tmp 136) (.seq (.seqR [⟨.move, [.const (.bool false)], (some 4), none⟩])
 .ret)
 .skip)))
 (.seqR [⟨.move, [.tmp 15], (some 126), none⟩,
 ⟨(.bin .add), [.tmp 126, .const (.int .i64 1)], (some 127), none⟩,
 ⟨.move, [.tmp 127], (some 15), none⟩]))))))
 (.seq (.seqR [⟨.move, [.const (.bool true)], (some 4), none⟩])
 .ret)))) t M5) Q := by
    intro Q t hQ hd h5 h6 h11 h12
    refine W_seq (W_seq (W_seqR (by simp only [runSeq_cons, runSeq_nil, evalArgs_nil, evalArgs_tmp, val1, putT, Tr.get_set_self, hd _, decide_true, Nat.reduceLT, opI_move, opI_not, h12]; rfl) ?_))
    refine W_cond (b := false) (by simp only [PArg.eval, Tr.get_set_self, Tr.get_set_ne, hd _, ne_eq, Nat.reduceEqDiff, not_false_eq_true, decide_true, Nat.reduceLT]; try rfl) (fun hb => by cases hb) (fun _ => W_skip ?_)
    show W _ _
    refine W_seq (W_seq (W_seqR (by simp only [runSeq_cons, runSeq_nil, evalArgs_nil, evalArgs_tmp, evalArgs_const, val1, putT, Tr.get_set_self, Tr.get_set_ne, Tr.isSome_set, hd _, ne_eq, Nat.reduceEqDiff, not_false_eq_true, decide_true, Nat.reduceLT, opI_move, opI_neq, opI_pick, runSeq_guard (b := false), beq_self_eq_true, Bool.not_true, h5, h6, h11, l1, l2, z5, nn]; rfl) ?_))
    refine W_cond (b := false) (by simp only [PArg.eval, Tr.get_set_self, Tr.get_set_ne, hd _, ne_eq, Nat.reduceEqDiff, not_false_eq_true, decide_true, Nat.reduceLT]; try rfl) (fun hb => by cases hb) (fun _ => W_skip ?_)
    show W _ _
    refine W_seq (W_seq (W_seqR (by simp only [runSeq_cons, runSeq_nil, evalArgs_nil, evalArgs_const, val1, putT, opI_move]; rfl) (W_block (W_loop (fun k t M' => ∃ (i : Nat), k + i = js.length ∧ M' = M5 ∧ Dom t 137 ∧ t.get 5 = some vl ∧ t.get 11 = some vk ∧ t.get 15 = some (.int .i64 i)) (k := js.length) (by omega) ?_ ?_))))
    · exact ⟨0, rfl, rfl, by ((repeat (with_reducible apply Dom.set)); exact hd), by simp only [Tr.get_set_ne, ne_eq, Nat.reduceEqDiff, not_false_eq_true, h5], by simp only [Tr.get_set_ne, ne_eq, Nat.reduceEqDiff, not_false_eq_true, h11], by simp only [Tr.get_set_self, Tr.get_set_ne, hd _, ne_eq, Nat.reduceEqDiff, not_false_eq_true, decide_true, Nat.reduceLT]; rfl⟩
    clear h5 h6 h11 h12 hd
    intro k t M ⟨i, hk, hM, hd, h5, h11, h15⟩
    subst hM
    refine W_seq (W_seq (W_seqR (by simp only [runSeq_cons, runSeq_nil, evalArgs_nil, evalArgs_tmp, val1, putT, Tr.get_set_self, Tr.get_set_ne, hd _, ne_eq, Nat.reduceEqDiff, not_false_eq_true, decide_true, Nat.reduceLT, opI_move, opI_lss, h5, h15, l1]; rfl) ?_))
    refine W_cond (by simp only [PArg.eval, Tr.get_set_self, Tr.get_set_ne, hd _, ne_eq, Nat.reduceEqDiff, not_false_eq_true, decide_true, Nat.reduceLT]; rfl) (fun hb => W_skip ?_) (fun hb => ?_)
    · have hin : i < js.length := by simpa using hb
      obtain ⟨qa, q1, q2⟩ := row_get hrl5 (i := i) (by omega)
      obtain ⟨qb, q3, q4⟩ := row_get hrow5 (i := i) (by omega)
      show W _ _
      refine W_seq (W_block (W_seq (W_quiet rfl (by simp only [runPure_cons, runPure_nil, ofD_cons, ofD_nil, sameN_self, evalArgs_nil, evalArgs_tmp, putT, Tr.get_set_self, Tr.get_set_ne, hd _, ne_eq, Nat.reduceEqDiff, not_false_eq_true, decide_true, Nat.reduceLT, opI_move, opI_neq, h5, h11, h15, q1, q2, q3, q4, nn]; rfl) ?_)))
      refine W_cond (b := false) (by simp only [PArg.eval, Tr.get_set_self, Tr.get_set_ne, hd _, ne_eq, Nat.reduceEqDiff, not_false_eq_true, decide_true, Nat.reduceLT]; try rfl) (fun hb => by cases hb) (fun _ => W_skip ?_)
      show W _ _
      refine W_seqR (by simp only [runSeq_cons, runSeq_nil, evalArgs_nil, evalArgs_tmp, evalArgs_const, val1, putT, Tr.get_set_self, Tr.get_set_ne, hd _, ne_eq, Nat.reduceEqDiff, not_false_eq_true, decide_true, Nat.reduceLT, opI_move, opI_add, h15]; rfl) ?_
      refine ⟨k - 1, by omega, i + 1, by omega, rfl, by ((repeat (with_reducible apply Dom.set)); exact hd), by simp only [Tr.get_set_ne, ne_eq, Nat.reduceEqDiff, not_false_eq_true, h5], by simp only [Tr.get_set_ne, ne_eq, Nat.reduceEqDiff, not_false_eq_true, h11], ?_⟩
      simp only [Tr.get_set_self, Tr.get_set_ne, hd _, ne_eq, Nat.reduceEqDiff, not_false_eq_true, decide_true, Nat.reduceLT]
      rw [wrapF_small (by omega) (by omega)]; rfl
    refine W_exit ?_
    show W _ _
    refine W_seq (W_seqR (by simp only [runSeq_cons, runSeq_nil, evalArgs_nil, evalArgs_const, val1, putT, opI_move]; rfl) (W_ret ?_))
    exact hQ _ (by simp only [Tr.get_set_self, Tr.get_set_ne, hd _, ne_eq, Nat.reduceEqDiff, not_false_eq_true, decide_true, Nat.reduceLT])
  rcases k2' with ⟨rfl, hw⟩ | ⟨rfl, _, hw⟩
  · have hbw' : bw = false := by
      cases bw with
      | false => rfl
      | true =>
        rcases hw with ⟨i, hi, h⟩ | h
        · have := hall i hi; omega
        · have := (hbw.1 rfl).2; omega
    subst hbw'
    refine W_seq (W_seqR (by simp only [runSeq_cons, runSeq_nil, evalArgs_nil, evalArgs_tmp, val1, putT, Tr.get_set_self, Tr.get_set_ne, hd _, ne_eq, Nat.reduceEqDiff, not_false_eq_true, decide_true, Nat.reduceLT, opI_move, opI_extract, opI_callF, h0, h1, c2, List.getElem?_cons_zero, List.getElem?_cons_succ]; rfl) ?_)
    refine W_seq (W_seqR (by simp only [runSeq_cons, runSeq_nil, evalArgs_nil, evalArgs_tmp, val1, putT, Tr.get_set_self, Tr.get_set_ne, hd _, ne_eq, Nat.reduceEqDiff, not_false_eq_true, decide_true, Nat.reduceLT, opI_move, opI_extract, opI_callF, h0, h1, c3, List.getElem?_cons_zero, List.getElem?_cons_succ]; rfl) ?_)
    refine W_seq (W_seq (W_seqR (by simp only [runSeq_cons, runSeq_nil, evalArgs_nil, evalArgs_tmp, val1, putT, Tr.get_set_self, Tr.get_set_ne, hd _, ne_eq, Nat.reduceEqDiff, not_false_eq_true, decide_true, Nat.reduceLT, opI_move, opI_extract, opI_callF, h0, c4, List.getElem?_cons_zero, List.getElem?_cons_succ]; rfl) ?_))
    refine W_seq (W_seqR (by simp only [runSeq_cons, runSeq_nil, evalArgs_nil, evalArgs_tmp, val1, putT, Tr.get_set_self, Tr.get_set_ne, hd _, ne_eq, Nat.reduceEqDiff, not_false_eq_true, decide_true, Nat.reduceLT, opI_move, opI_not]; rfl) ?_)
    refine W_cond (b := false) (by simp only [PArg.eval, Tr.get_set_self, Tr.get_set_ne, hd _, ne_eq, Nat.reduceEqDiff, not_false_eq_true, decide_true, Nat.reduceLT]; try rfl) (fun hb => by cases hb) (fun _ => W_skip ?_)
    show W _ _
    refine W_seq (W_seqR (by simp only [runSeq_cons, runSeq_nil, evalArgs_nil, evalArgs_tmp, val1, putT, Tr.get_set_self, Tr.get_set_ne, hd _, ne_eq, Nat.reduceEqDiff, not_false_eq_true, decide_true, Nat.reduceLT, opI_move, opI_extract, opI_callF, h0, h1, c5, List.getElem?_cons_zero, List.getElem?_cons_succ]; rfl) ?_)
    refine W_seq (W_seqR (by simp only [runSeq_cons, runSeq_nil, evalArgs_nil, evalArgs_tmp, val1, putT, Tr.get_set_self, Tr.get_set_ne, hd _, ne_eq, Nat.reduceEqDiff, not_false_eq_true, decide_true, Nat.reduceLT, opI_move, opI_extract, opI_callF, h0, h1, c6, List.getElem?_cons_zero, List.getElem?_cons_succ]; rfl) ?_)
    refine W_seq (W_seq (W_seqR (by simp only [runSeq_cons, runSeq_nil, evalArgs_nil, evalArgs_tmp, evalArgs_const, val1, putT, Tr.get_set_self, Tr.get_set_ne, Tr.isSome_set, hd _, ne_eq, Nat.reduceEqDiff, not_false_eq_true, decide_true, Nat.reduceLT, opI_move, opI_not, opI_neq, opI_pick, runSeq_guard (b := true), runSeq_guard (b := false), beq_self_eq_true, Bool.false_beq, Bool.not_true, Bool.not_false, runSeq_skip, z4, z5]; rfl) ?_))
    refine W_cond (b := false) (by simp only [PArg.eval, Tr.get_set_self, Tr.get_set_ne, hd _, ne_eq, Nat.reduceEqDiff, not_false_eq_true, decide_true, Nat.reduceLT]; try rfl) (fun hb => by cases hb) (fun _ => W_skip ?_)
    show W _ _
    refine rest _ _ ?_ ?_ ?_ ?_ ?_ ?_
    · exact fun t' hh => ⟨_, fin_tmp hh, rfl⟩
    · ((repeat (with_reducible apply Dom.set)); exact hd)
    · simp only [Tr.get_set_self, Tr.get_set_ne, hd _, ne_eq, Nat.reduceEqDiff, not_false_eq_true, decide_true, Nat.reduceLT]
    · simp only [Tr.get_set_self, Tr.get_set_ne, hd _, ne_eq, Nat.reduceEqDiff, not_false_eq_true, decide_true, Nat.reduceLT]
    · simp only [Tr.get_set_self, Tr.get_set_ne, hd _, ne_eq, Nat.reduceEqDiff, not_false_eq_true, decide_true, Nat.reduceLT]
    · simp only [Tr.get_set_self, Tr.get_set_ne, hd _, ne_eq, Nat.reduceEqDiff, not_false_eq_true, decide_true, Nat.reduceLT]
  · have hbw' : bw = true := hbw.2 ⟨hall, hw⟩
    subst hbw'
    refine W_seq (W_seqR (by simp only [runSeq_cons, runSeq_nil, evalArgs_nil, evalArgs_tmp, val1, putT, Tr.get_set_self, Tr.get_set_ne, hd _, ne_eq, Nat.reduceEqDiff, not_false_eq_true, decide_true, Nat.reduceLT, opI_move, opI_extract, opI_callF, h0, h1, c2, List.getElem?_cons_zero, List.getElem?_cons_succ]; rfl) ?_)
    refine W_seq (W_seqR (by simp only [runSeq_cons, runSeq_nil, evalArgs_nil, evalArgs_tmp, val1, putT, Tr.get_set_self, Tr.get_set_ne, hd _, ne_eq, Nat.reduceEqDiff, not_false_eq_true, decide_true, Nat.reduceLT, opI_move, opI_extract, opI_callF, h0, h1, c3, List.getElem?_cons_zero, List.getElem?_cons_succ]; rfl) ?_)
    refine W_seq (W_seq (W_seqR (by simp only [runSeq_cons, runSeq_nil, evalArgs_nil, evalArgs_tmp, val1, putT, Tr.get_set_self, Tr.get_set_ne, hd _, ne_eq, Nat.reduceEqDiff, not_false_eq_true, decide_true, Nat.reduceLT, opI_move, opI_extract, opI_callF, h0, c4, List.getElem?_cons_zero, List.getElem?_cons_succ]; rfl) ?_))
    refine W_seq (W_seqR (by simp only [runSeq_cons, runSeq_nil, evalArgs_nil, evalArgs_tmp, val1, putT, Tr.get_set_self, Tr.get_set_ne, hd _, ne_eq, Nat.reduceEqDiff, not_false_eq_true, decide_true, Nat.reduceLT, opI_move, opI_not]; rfl) ?_)
    refine W_cond (b := false) (by simp only [PArg.eval, Tr.get_set_self, Tr.get_set_ne, hd _, ne_eq, Nat.reduceEqDiff, not_false_eq_true, decide_true, Nat.reduceLT]; try rfl) (fun hb => by cases hb) (fun _ => W_skip ?_)
    show W _ _
    refine W_seq (W_seqR (by simp only [runSeq_cons, runSeq_nil, evalArgs_nil, evalArgs_tmp, val1, putT, Tr.get_set_self, Tr.get_set_ne, hd _, ne_eq, Nat.reduceEqDiff, not_false_eq_true, decide_true, Nat.reduceLT, opI_move, opI_extract, opI_callF, h0, h1, c5, List.getElem?_cons_zero, List.getElem?_cons_succ]; rfl) ?_)
    refine W_seq (W_seqR (by simp only [runSeq_cons, runSeq_nil, evalArgs_nil, evalArgs_tmp, val1, putT, Tr.get_set_self, Tr.get_set_ne, hd _, ne_eq, Nat.reduceEqDiff, not_false_eq_true, decide_true, Nat.reduceLT, opI_move, opI_extract, opI_callF, h0, h1, c6, List.getElem?_cons_zero, List.getElem?_cons_succ]; rfl) ?_)
    refine W_seq (W_seq (W_seqR (by simp only [runSeq_cons, runSeq_nil, evalArgs_nil, evalArgs_tmp, evalArgs_const, val1, putT, Tr.get_set_self, Tr.get_set_ne, Tr.isSome_set, hd _, ne_eq, Nat.reduceEqDiff, not_false_eq_true, decide_true, Nat.reduceLT, opI_move, opI_not, opI_neq, opI_pick, runSeq_guard (b := true), runSeq_guard (b := false), beq_self_eq_true, Bool.false_beq, Bool.not_true, runSeq_skip, nn]; rfl) ?_))
    refine W_cond (b := false) (by simp only [PArg.eval, Tr.get_set_self, Tr.get_set_ne, hd _, ne_eq, Nat.reduceEqDiff, not_false_eq_true, decide_true, Nat.reduceLT]; try rfl) (fun hb => by cases hb) (fun _ => W_skip ?_)
    show W _ _
    refine rest _ _ ?_ ?_ ?_ ?_ ?_ ?_
    · exact fun t' hh => ⟨_, fin_tmp hh, rfl⟩
    · ((repeat (with_reducible apply Dom.set)); exact hd)
    · simp only [Tr.get_set_self, Tr.get_set_ne, hd _, ne_eq, Nat.reduceEqDiff, not_false_eq_true, decide_true, Nat.reduceLT]
    · simp only [Tr.get_set_self, Tr.get_set_ne, hd _, ne_eq, Nat.reduceEqDiff, not_false_eq_true, decide_true, Nat.reduceLT]
    · simp only [Tr.get_set_self, Tr.get_set_ne, hd _, ne_eq, Nat.reduceEqDiff, not_false_eq_true, decide_true, Nat.reduceLT]
    · simp only [Tr.get_set_self, Tr.get_set_ne, hd _, ne_eq, Nat.reduceEqDiff, not_false_eq_true, decide_true, Nat.reduceLT]
end Go.Proofs.Ytmaldkpkodcggaa.grf
