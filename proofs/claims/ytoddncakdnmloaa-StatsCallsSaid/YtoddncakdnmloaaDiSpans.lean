/- The walk of Spans, and of Right. -/
import Derived.Test.YtoddncakdnmloaaDiTake
namespace Go.Proofs.Ytoddncakdnmloaa.diary
open Go Go.Vx

def init : St := ⟨0, List.replicate 16 0, List.replicate 16 (-1), []⟩
/-- event by event -/
def runP : Nat → St → List Ev → Option St
  | _, st, [] => some st
  | i, st, e :: es => match takeP i st e with
    | none => none
    | some st' => runP (i + 1) st' es
theorem takeP_len {i : Nat} {st st' : St} {e : Ev} (h : takeP i st e = some st') : st'.spans.length ≤ st.spans.length + 1 := by
  unfold takeP at h
  split at h
  · cases h
  split at h
  · split at h
    · cases h
    split at h
    · cases h
    · split at h
      · cases h; simp
      · cases h
  · split at h
    · cases h
    · cases h; simp
/-- events that came in, in a row -/
def InEvs (G : Addr → Option AV) (v : AV) (es : List Ev) : Prop := (∀ M : AMem, M.g = G → RowE M 10 v (es.map Ev.cells)) ∧ ∀ e ∈ es, EvOk G e
theorem opI_buildZ {z : List AV} {M : AMem} : opI (.build z []) [] M = some (.val (.agg z) M) := rfl
theorem op_ones {op : List Int} (h : op.length = 16) (k : ∀ j : Nat, j < 16 → op.getD j 0 = -1) : op = List.replicate 16 (-1) := by
  apply List.ext_getElem?
  intro j
  by_cases hj : j < 16
  · have := k j hj
    rw [List.getD_eq_getElem?_getD, List.getElem?_eq_getElem (by omega)] at this
    rw [List.getElem?_eq_getElem (by omega), List.getElem?_replicate, if_pos hj]
    rw [Option.getD_some] at this
    rw [this]
  · rw [List.getElem?_eq_none (by omega), List.getElem?_eq_none (by simp; omega)]

set_option maxHeartbeats 4000000 in
theorem spans_ok {v : AV} {es : List Ev} (d : Nat) (M0 : AMem) (hok : Okg M0) (hv : InEvs M0.g v es) (hn : es.length ≤ 1000) :
    Ans (callF tbl code 100000 (d + 4)) 38 [v] M0 fun r M' => Step M0 M' ∧ match runP 0 init es with
      | none => r = .tuple [.slice none 0 0 false, .int .i64 13]
      | some st => ∃ sv, r = .tuple [sv, .int .i64 0] ∧ SpRow M0 M' sv st.spans := by
  refine Ans_of (tbl_none (by decide) _) (show code 38 = some c38 from by kernel_rfl) (by simp) fun t hd ha => ?_
  have h0 := ha 0 _ rfl
  clear ha
  refine W_seq (W_seqR (by simp only [runSeq_cons, runSeq_nil, evalArgs_nil, evalArgs_const, val1, putT, opI_move]; rfl) ?_)
  have lv : ∀ M : AMem, M.g = M0.g → opI .lenS [v] M = some (.val (.int .i64 es.length) M) := fun M hM => by
    have := (hv.1 M hM).len
    rwa [List.length_map] at this
  have s1 := (Step.refl hok).push (k := .cells (rdC 0 (List.replicate 16 0) (List.replicate 16 0) (.slice none 0 0 false)) 0 true none) (fun _ _ _ _ he => by cases he)
  have g1 := get_push_self (k := .cells (rdC 0 (List.replicate 16 0) (List.replicate 16 0) (.slice none 0 0 false)) 0 true none) hok.1
  have hr1 : Rdr M0 _ M0.n ⟨0, List.replicate 16 0, List.replicate 16 0, []⟩ (.slice none 0 0 false) [] := ⟨Nat.le_refl _, g1, .inr ⟨rfl, rfl⟩, fun b hb => (by cases hb), rfl, fun i s hs => (by simp at hs), by simp, by simp⟩
  refine W_seq (W_seqR (by simp only [runSeq_cons, runSeq_nil, evalArgs_nil, evalArgs_tmp, val1, putT, Tr.get_set_self, Tr.get_set_ne, hd _, ne_eq, Nat.reduceEqDiff, not_false_eq_true, decide_true, Nat.reduceLT, opI_move, opI_box, cells_agg, opI_buildZ]; rfl) ?_)
  have eM : M0.push (.cells [.int .i64 0, .int .i64 0, .int .i64 0, .int .i64 0, .int .i64 0, .int .i64 0, .int .i64 0, .int .i64 0, .int .i64 0, .int .i64 0, .int .i64 0, .int .i64 0, .int .i64 0, .int .i64 0, .int .i64 0, .int .i64 0, .int .i64 0, .int .i64 0, .int .i64 0, .int .i64 0, .int .i64 0, .int .i64 0, .int .i64 0, .int .i64 0, .int .i64 0, .int .i64 0, .int .i64 0, .int .i64 0, .int .i64 0, .int .i64 0, .int .i64 0, .int .i64 0, .int .i64 0, .slice none 0 0 false] 0 true none) = M0.push (.cells (rdC 0 (List.replicate 16 0) (List.replicate 16 0) (.slice none 0 0 false)) 0 true none) := rfl
  rw [eM]
  generalize M0.push (.cells (rdC 0 (List.replicate 16 0) (List.replicate 16 0) (.slice none 0 0 false)) 0 true none) = M1 at *
  clear eM
  refine W_seq (W_seq (W_seqR (by simp only [runSeq_cons, runSeq_nil, evalArgs_nil, evalArgs_const, val1, putT, opI_move]; rfl) (W_block (W_loop (fun k t M' => ∃ (i : Nat) (op : List Int), k + i = 16 ∧ Step M0 M' ∧ Rdr M0 M' M0.n ⟨0, List.replicate 16 0, op, []⟩ (.slice none 0 0 false) [] ∧ (∀ j, j < i → op.getD j 0 = -1) ∧ Dom t 36 ∧ t.get 0 = some v ∧ t.get 4 = some (.ptr (some (M0.n, 0))) ∧ t.get 10 = some (.int .i64 i)) (k := 16) (by omega) ?_ ?_))))
  · exact ⟨0, _, rfl, s1, hr1, fun j hj => by omega, by ((repeat (with_reducible apply Dom.set)); exact hd), by simp only [Tr.get_set_ne, ne_eq, Nat.reduceEqDiff, not_false_eq_true, h0], by simp only [Tr.get_set_self, Tr.get_set_ne, hd _, ne_eq, Nat.reduceEqDiff, not_false_eq_true, decide_true, Nat.reduceLT], by simp only [Tr.get_set_self, Tr.get_set_ne, hd _, ne_eq, Nat.reduceEqDiff, not_false_eq_true, decide_true, Nat.reduceLT]; rfl⟩
  clear h0 hd s1 g1 hr1
  intro k t M ⟨i, op, hk, s, hr, hop, hd, h0, h4, h10⟩
  refine W_seq (W_seqR (by simp only [runSeq_cons, runSeq_nil, evalArgs_nil, evalArgs_tmp, evalArgs_const, val1, putT, opI_lss, h10]; rfl) (W_seq ?_))
  refine W_cond (by simp only [PArg.eval, Tr.get_set_self, hd _, decide_true, Nat.reduceLT]; rfl) (fun hb => ?_) (fun hb => ?_)
  · -- a round
    have hi : i < 16 := by simp at hb; omega
    have IA : ∀ (o : Nat) (M : AMem), opI (.indexAddrA 16 1) [.ptr (some (M0.n, o)), .int .i64 i] M = some (.val (.ptr (some (M0.n, o + i * 1))) M) := fun o M => opI_indexA hi
    obtain ⟨e2, s2, c2, k2⟩ := store1 (o := 17 + i * 1) (x := .int .i64 (-1)) s hr.hrb hr.cell ⟨rfl, rfl⟩ (by rw [rdC_length hr.nth hr.op]; omega)
    rw [rdC_set_op hr.nth hr.op hi] at e2 s2 c2 k2
    have hr2 := hr.upd (st' := ⟨0, List.replicate 16 0, op.set i (-1), []⟩) c2 k2 rfl hr.nth (by rw [List.length_set]; exact hr.op)
    refine W_skip (W_seq (W_block (W_seq (W_seqR (by simp only [runSeq_cons, runSeq_nil, evalArgs_nil, evalArgs_tmp, val1, putT, Tr.get_set_self, Tr.get_set_ne, hd _, ne_eq, Nat.reduceEqDiff, not_false_eq_true, decide_true, Nat.reduceLT, opI_move, h10]; rfl) (W_seqR (by simp only [runSeq_cons, runSeq_nil, evalArgs_nil, evalArgs_tmp, evalArgs_const, val1, putT, Tr.get_set_self, Tr.get_set_ne, hd _, ne_eq, Nat.reduceEqDiff, not_false_eq_true, decide_true, Nat.reduceLT, opI_move, opI_fieldP, Nat.zero_add, h4, IA, opI_nilP, e2]; rfl) ?_)))))
    show W _ _
    refine W_seqR (by simp only [runSeq_cons, runSeq_nil, evalArgs_nil, evalArgs_tmp, evalArgs_const, val1, putT, Tr.get_set_self, Tr.get_set_ne, hd _, ne_eq, Nat.reduceEqDiff, not_false_eq_true, decide_true, Nat.reduceLT, opI_move, opI_add, h10]; rfl) ?_
    refine ⟨k - 1, by omega, i + 1, _, by omega, s2, hr2, fun j hj => ?_, by ((repeat (with_reducible apply Dom.set)); exact hd), by simp only [Tr.get_set_ne, ne_eq, Nat.reduceEqDiff, not_false_eq_true, h0], by simp only [Tr.get_set_ne, ne_eq, Nat.reduceEqDiff, not_false_eq_true, h4], ?_⟩
    · have hl : op.length = 16 := hr.op
      rw [List.getD_eq_getElem?_getD, List.getElem?_set]
      split
      · rw [if_pos (by omega)]; rfl
      · have := hop j (by omega)
        rwa [List.getD_eq_getElem?_getD] at this
    · simp only [Tr.get_set_self, Tr.get_set_ne, hd _, ne_eq, Nat.reduceEqDiff, not_false_eq_true, decide_true, Nat.reduceLT]
      rw [wrapF_small (by omega) (by omega)]; rfl
  refine W_exit ?_
  have hi : i = 16 := by simp at hb; omega
  subst hi
  have hop' := op_ones hr.op hop
  simp only at hop'
  subst hop'
  clear hop hb h10
  show W _ _
  have lM := lv M s.grow.g
  refine W_seq (W_seq (W_seqR (by simp only [runSeq_cons, runSeq_nil, evalArgs_nil, evalArgs_tmp, evalArgs_const, val1, putT, Tr.get_set_self, Tr.get_set_ne, hd _, ne_eq, Nat.reduceEqDiff, not_false_eq_true, decide_true, Nat.reduceLT, opI_move, h0, lM]; rfl) (W_block (W_loop (fun k t M' => ∃ (i : Nat) (st : St) (sv : AV) (els : List (List AV)), k + i = es.length ∧ Step M0 M' ∧ Rdr M0 M' M0.n st sv els ∧ Bnd st ∧ st.spans.length ≤ i ∧ runP 0 init es = runP i st (es.drop i) ∧ Dom t 36 ∧ t.get 19 = some v ∧ t.get 20 = some (.int .i64 es.length) ∧ t.get 4 = some (.ptr (some (M0.n, 0))) ∧ t.get 21 = some (.int .i64 i)) (k := es.length) (by omega) ?_ ?_))))
  · exact ⟨0, init, _, _, rfl, s, hr, ⟨fun w hw => by rw [List.getD_eq_getElem?_getD]; show ((List.replicate 16 (-1 : Int))[w]?).getD 0 < _; rw [List.getElem?_replicate, if_pos hw]; decide, fun s hs => by simp [init] at hs⟩, by simp [init], rfl, by ((repeat (with_reducible apply Dom.set)); exact hd), by simp only [Tr.get_set_self, Tr.get_set_ne, hd _, ne_eq, Nat.reduceEqDiff, not_false_eq_true, decide_true, Nat.reduceLT], by simp only [Tr.get_set_self, Tr.get_set_ne, hd _, ne_eq, Nat.reduceEqDiff, not_false_eq_true, decide_true, Nat.reduceLT], by simp only [Tr.get_set_ne, ne_eq, Nat.reduceEqDiff, not_false_eq_true, h4], by simp only [Tr.get_set_self, Tr.get_set_ne, hd _, ne_eq, Nat.reduceEqDiff, not_false_eq_true, decide_true, Nat.reduceLT]; rfl⟩
  clear h0 h4 hd lM s hr hk t M k M1
  intro k t M ⟨i, st, sv, els, hk, s, hr, hb, hl, hrun, hd, h19, h20, h4, h21⟩
  refine W_seq (W_seqR (by simp only [runSeq_cons, runSeq_nil, evalArgs_nil, evalArgs_tmp, val1, putT, opI_lss, h20, h21]; rfl) (W_seq ?_))
  refine W_cond (by simp only [PArg.eval, Tr.get_set_self, hd _, decide_true, Nat.reduceLT]; rfl) (fun hb' => ?_) (fun hb' => ?_)
  · have hi : i < es.length := by simpa using hb'
    obtain ⟨p, pp, p1, p2, _⟩ := (hv.1 M s.grow.g).at_ (i := i) (by rw [List.length_map]; exact hi) (by omega)
    replace p2 := p2 0 10 (by omega)
    rw [List.getElem_map] at p2
    have pc : ((es[i].cells.drop 0).take 10) = es[i].cells := rfl
    rw [pc] at p2
    have he := hv.2 es[i] (List.getElem_mem hi)
    have s2 := s.push (k := .cells [.int .i64 0, .int .i64 0, .int .i64 0, .bool false, .int .i64 0, .int .u64 0, .slice none 0 0 false, .int .i64 0, .int .u64 0, .slice none 0 0 false] 0 true none) (fun _ _ _ _ he => by cases he)
    have g2 := get_push_self (k := .cells [.int .i64 0, .int .i64 0, .int .i64 0, .bool false, .int .i64 0, .int .u64 0, .slice none 0 0 false, .int .i64 0, .int .u64 0, .slice none 0 0 false] 0 true none) s.ok.1
    obtain ⟨e3, s3, c3, k3⟩ := store_all (n := 10) (new := es[i].cells) s2 s.grow.n g2 rfl rfl (by
      simp [Ev.cells, one_int, one_bool, he.vs.one, he.ls.one])
    have hlt := get_lt s.ok.1 hr.cell
    have hr2 := hr.grow s.ok.1 (Grow.push s.ok.1 (.cells [.int .i64 0, .int .i64 0, .int .i64 0, .bool false, .int .i64 0, .int .u64 0, .slice none 0 0 false, .int .i64 0, .int .u64 0, .slice none 0 0 false] 0 true none))
    have hg3 : Grow M _ := ⟨Nat.le_succ _, fun b hb => (k3 b (by omega)).trans (get_push_old s.ok.1 hb), rfl, fun _ => s3.ok.1⟩
    have hr3 := hr.grow s.ok.1 hg3
    have L3 := loads_own (o := 0) (n := 10) c3 (by simp [Ev.cells])
    rw [pc] at L3
    obtain ⟨r4, M4, c4, s4, hpost⟩ := take_ok (i := i) d M0 _ s3 hr3 he hb (by omega)
    refine W_skip (W_seq (W_block (W_seq (W_seqR (by simp only [runSeq_cons, runSeq_nil, evalArgs_nil, evalArgs_tmp, val1, putT, Tr.get_set_self, Tr.get_set_ne, hd _, ne_eq, Nat.reduceEqDiff, not_false_eq_true, decide_true, Nat.reduceLT, opI_move, opI_new, h19, h21, p1, p2, e3]; rfl) ?_))))
    show W _ _
    have hdrop : es.drop i = es[i] :: es.drop (i + 1) := List.drop_eq_getElem_cons hi
    rw [hdrop] at hrun
    simp only [runP] at hrun
    cases ht : takeP i st es[i] with
    | none =>
      rw [ht] at hpost hrun
      simp only at hpost hrun
      subst hpost
      refine W_seq (W_seqR (by simp only [runSeq_cons, runSeq_nil, evalArgs_nil, evalArgs_tmp, val1, putT, Tr.get_set_self, Tr.get_set_ne, hd _, ne_eq, Nat.reduceEqDiff, not_false_eq_true, decide_true, Nat.reduceLT, opI_move, opI_not, opI_callF, h4, L3, c4]; rfl) ?_)
      refine W_cond (b := true) (by simp only [PArg.eval, Tr.get_set_self, Tr.get_set_ne, hd _, ne_eq, Nat.reduceEqDiff, not_false_eq_true, decide_true, Nat.reduceLT]; try rfl) (fun _ => ?_) (fun hb => by cases hb)
      refine W_seq (W_seqR (by simp only [runSeq_cons, runSeq_nil, evalArgs_nil, evalArgs_const, val1, putT, opI_move]; rfl) (W_ret ?_))
      refine ⟨_, fin_tmp2 (by simp only [Tr.get_set_self, Tr.get_set_ne, hd _, ne_eq, Nat.reduceEqDiff, not_false_eq_true, decide_true, Nat.reduceLT]; try rfl) (by simp only [Tr.get_set_self, Tr.get_set_ne, hd _, ne_eq, Nat.reduceEqDiff, not_false_eq_true, decide_true, Nat.reduceLT]; try rfl), s4, ?_⟩
      rw [hrun]; rfl
    | some st' =>
      rw [ht] at hpost hrun
      simp only at hpost hrun
      obtain ⟨rfl, hb4, sv', els', hr4⟩ := hpost
      refine W_seq (W_seqR (by simp only [runSeq_cons, runSeq_nil, evalArgs_nil, evalArgs_tmp, val1, putT, Tr.get_set_self, Tr.get_set_ne, hd _, ne_eq, Nat.reduceEqDiff, not_false_eq_true, decide_true, Nat.reduceLT, opI_move, opI_not, opI_callF, h4, L3, c4]; rfl) ?_)
      refine W_cond (b := false) (by simp only [PArg.eval, Tr.get_set_self, Tr.get_set_ne, hd _, ne_eq, Nat.reduceEqDiff, not_false_eq_true, decide_true, Nat.reduceLT]; try rfl) (fun hb => by cases hb) (fun _ => W_skip ?_)
      show W _ _
      refine W_seqR (by simp only [runSeq_cons, runSeq_nil, evalArgs_nil, evalArgs_tmp, evalArgs_const, val1, putT, Tr.get_set_self, Tr.get_set_ne, hd _, ne_eq, Nat.reduceEqDiff, not_false_eq_true, decide_true, Nat.reduceLT, opI_move, opI_add, h21]; rfl) ?_
      refine ⟨k - 1, by omega, i + 1, st', sv', els', by omega, s4, hr4, hb4, by have := takeP_len ht; omega, hrun, by ((repeat (with_reducible apply Dom.set)); exact hd), by simp only [Tr.get_set_ne, ne_eq, Nat.reduceEqDiff, not_false_eq_true, h19], by simp only [Tr.get_set_ne, ne_eq, Nat.reduceEqDiff, not_false_eq_true, h20], by simp only [Tr.get_set_ne, ne_eq, Nat.reduceEqDiff, not_false_eq_true, h4], ?_⟩
      simp only [Tr.get_set_self, Tr.get_set_ne, hd _, ne_eq, Nat.reduceEqDiff, not_false_eq_true, decide_true, Nat.reduceLT]
      rw [wrapF_small (by omega) (by omega)]; rfl
  refine W_exit ?_
  have hi : ¬ i < es.length := by simpa using hb'
  show W _ _
  have L33 := load_own (o := 33) hr.cell (rdC_sv hr.nth hr.op)
  refine W_seq (W_seqR (by simp only [runSeq_cons, runSeq_nil, evalArgs_nil, evalArgs_tmp, evalArgs_const, val1, putT, Tr.get_set_self, Tr.get_set_ne, hd _, ne_eq, Nat.reduceEqDiff, not_false_eq_true, decide_true, Nat.reduceLT, opI_move, opI_fieldP, Nat.zero_add, h4, opI_nilP, L33]; rfl) (W_ret ?_))
  refine ⟨_, fin_tmp2 (by simp only [Tr.get_set_self, Tr.get_set_ne, hd _, ne_eq, Nat.reduceEqDiff, not_false_eq_true, decide_true, Nat.reduceLT]; try rfl) (by simp only [Tr.get_set_self, Tr.get_set_ne, hd _, ne_eq, Nat.reduceEqDiff, not_false_eq_true, decide_true, Nat.reduceLT]; try rfl), s, ?_⟩
  rw [hrun, List.drop_of_length_le (by omega)]
  exact ⟨sv, rfl, els, hr.row, hr.blk, hr.len, hr.sp⟩

end Go.Proofs.Ytoddncakdnmloaa.diary
