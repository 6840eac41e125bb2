/- The walk of the document's Spans. -/
import Derived.Test.YtoddncakdnmloaaDiRight
namespace Go.Proofs.Ytoddncakdnmloaa.diary
open Go Go.Vx

/-- a span as it begins, at an event -/
def beg (es : List Ev) (i : Nat) : Sp := ⟨(ev es i).who, (ev es i).nth, i, -1, (ev es i).kind, (ev es i).task, (ev es i).vs, 0, 0, []⟩
/-- one more event looked at -/
def updS (es : List Ev) (s : Sp) (k : Nat) : Sp := if (ev es k).who = s.who ∧ (ev es k).ends = true ∧ (ev es k).nth = s.nth then { s with to := k, code := (ev es k).code, v := (ev es k).v, ls := (ev es k).ls } else s
def spanTo (es : List Ev) (i : Nat) : Nat → Sp
  | 0 => beg es i
  | m + 1 => updS es (spanTo es i m) (i + 1 + m)
def refSp (es : List Ev) : Nat → List Sp
  | 0 => []
  | i + 1 => if (ev es i).ends then refSp es i else refSp es i ++ [spanTo es i (es.length - (i + 1))]
theorem refSp_len {es : List Ev} {i : Nat} : (refSp es i).length ≤ i := by
  induction i with
  | zero => simp [refSp]
  | succ i ih =>
    unfold refSp
    split
    · omega
    · simp; omega
theorem InEvs.at2 {G : Addr → Option AV} {v : AV} {es : List Ev} (hv : InEvs G v es) {i : Nat} (hi : i < es.length) :
    ∃ p, IsP p ∧ ∀ M : AMem, M.g = G → opI (.indexAddrS 10) [v, .int .i64 i] M = some (.val (padd p 0) M) ∧ (∀ o n, o + n ≤ 10 → opI (.load true n) [padd p o] M = some (.val (.agg (((ev es i).cells.drop o).take n)) M)) ∧ ∀ o x, (ev es i).cells[o]? = some x → opI (.load false 1) [padd p o] M = some (.val x M) := by
  have h := hv.1 ⟨.nil, 0, G⟩ rfl
  obtain ⟨_, ⟨a, c, rfl, hg⟩ | ⟨_, he⟩ | ⟨b, o, c, gr, cs, sz', wr, g, _, h1, _⟩⟩ := h
  · obtain ⟨p0, rfl, _⟩ := hg 0 (by rw [List.length_map]; omega)
    refine ⟨.rptr (some (p0.add (i * 10))), trivial, fun M hM => ?_⟩
    obtain ⟨q, qq, e1, e2, e3⟩ := hv.at_ hi M hM
    have := index_in (M := M) (sz := 10) (a := p0) (c := c) (n := (es.map Ev.cells).length) (i := i) (by rw [List.length_map]; exact hi)
    rw [e1] at this
    cases (padd_zero qq) ▸ this
    exact ⟨e1, e2, e3⟩
  · have : es.length = 0 := by have := congrArg List.length he; simpa using this
    omega
  · simp [AMem.get, Tr.get] at h1
set_option maxRecDepth 20000 in
set_option maxHeartbeats 8000000 in
theorem refspans_ok {v : AV} {es : List Ev} (d : Nat) (M0 : AMem) (hok : Okg M0) (hv : InEvs M0.g v es) (hn : es.length ≤ 1000) :
    Ans (callF tbl code 100000 (d + 1)) 27 [v] M0 fun r M' => Step M0 M' ∧ RdRow M' r (refSp es es.length) := by
  refine Ans_of (tbl_none (by decide) _) (show code 27 = some c27 from by kernel_rfl) (by simp) fun t hd ha => ?_
  have h0 := ha 0 _ rfl
  clear ha
  refine W_seq (W_seqR (by simp only [runSeq_cons, runSeq_nil, evalArgs_nil, evalArgs_const, val1, putT, opI_move]; rfl) ?_)
  have e1 : opI (.sliceLit 0 [] []) [] M0 = some (.val (.slice (some (M0.n, 0)) 0 0 false) (M0.push (.cells [] 0 true none))) := rfl
  have s1 := (Step.refl hok).push (k := .cells [] 0 true none) (fun _ _ _ _ he => by cases he)
  have g1 := get_push_self (k := .cells [] 0 true none) hok.1
  refine W_seq (W_seqR (by simp only [runSeq_cons, runSeq_nil, evalArgs_nil, evalArgs_tmp, val1, putT, Tr.get_set_self, Tr.get_set_ne, hd _, ne_eq, Nat.reduceEqDiff, not_false_eq_true, decide_true, Nat.reduceLT, opI_move, e1]; rfl) ?_)
  refine W_seq (W_seq (W_seqR (by simp only [runSeq_cons, runSeq_nil, evalArgs_nil, evalArgs_const, val1, putT, opI_move]; rfl) (W_block (W_loop (fun k t M' => ∃ (i : Nat) (s : AV) (els : List (List AV)), k + i = es.length ∧ Step M0 M' ∧ OwnE M0 M' 10 s els ∧ els.length = (refSp es i).length ∧ (∀ (j : Nat) y, (refSp es i)[j]? = some y → ∃ e, els[j]? = some e ∧ InSp M0.g e y) ∧ Dom t 82 ∧ t.get 0 = some v ∧ t.get 3 = some s ∧ t.get 4 = some (.int .i64 i)) (k := es.length) (by omega) ?_ ?_))))
  · exact ⟨0, _, [], rfl, s1, ⟨M0.n, false, 0, none, rfl, Nat.le_refl _, g1, (fun he => by cases he), (fun g' he => by cases he), (fun e he => by simp at he), rfl⟩, rfl, fun j y hy => by simp [refSp] at hy, by ((repeat (with_reducible apply Dom.set)); exact hd), by simp only [Tr.get_set_ne, ne_eq, Nat.reduceEqDiff, not_false_eq_true, h0], by simp only [Tr.get_set_self, Tr.get_set_ne, hd _, ne_eq, Nat.reduceEqDiff, not_false_eq_true, decide_true, Nat.reduceLT]; rfl, by simp only [Tr.get_set_self, Tr.get_set_ne, hd _, ne_eq, Nat.reduceEqDiff, not_false_eq_true, decide_true, Nat.reduceLT]; rfl⟩
  clear h0 hd e1 s1 g1
  intro k t M ⟨i, s, els, hk, st, ho, hel, hsp, hd, h0, h3, h4⟩
  have lv := hv.len M st.grow.g
  refine W_seq (W_seq (W_seqR (by simp only [runSeq_cons, runSeq_nil, evalArgs_nil, evalArgs_tmp, val1, putT, Tr.get_set_self, Tr.get_set_ne, hd _, ne_eq, Nat.reduceEqDiff, not_false_eq_true, decide_true, Nat.reduceLT, opI_move, opI_lss, h0, h4, lv]; rfl) ?_))
  refine W_cond (by simp only [PArg.eval, Tr.get_set_self, Tr.get_set_ne, hd _, ne_eq, Nat.reduceEqDiff, not_false_eq_true, decide_true, Nat.reduceLT]; rfl) (fun hb => W_skip ?_) (fun hb => ?_)
  rotate_left
  · refine W_exit ?_
    have hin : i = es.length := by simp at hb; omega
    subst hin
    show W _ _
    refine W_seq (W_seqR (by simp only [runSeq_cons, runSeq_nil, evalArgs_nil, evalArgs_tmp, val1, putT, Tr.get_set_self, Tr.get_set_ne, hd _, ne_eq, Nat.reduceEqDiff, not_false_eq_true, decide_true, Nat.reduceLT, opI_move, h3]; rfl) (W_ret ?_))
    refine ⟨_, fin_tmp (by simp only [Tr.get_set_self, Tr.get_set_ne, hd _, ne_eq, Nat.reduceEqDiff, not_false_eq_true, decide_true, Nat.reduceLT]; try rfl), st, els, ho.row st.ok.1, hel, fun j y hy => ?_⟩
    obtain ⟨e, k1, va, la, k2, k3, k4⟩ := hsp j y hy
    exact ⟨e, k1, va, la, k2, k3 M st.grow.g, k4 M st.grow.g⟩
  have hin : i < es.length := by simpa using hb
  obtain ⟨p, pp, pM⟩ := hv.at2 hin
  have he := hv.ok hin
  obtain ⟨p1, pl, ps⟩ := pM M st.grow.g
  have P3 := ps 3 _ rfl
  cases hends : (ev es i).ends with
  | true =>
    rw [hends] at P3
    refine W_seq (W_block (W_seq (W_seq (W_seqR (by simp only [runSeq_cons, runSeq_nil, evalArgs_nil, evalArgs_tmp, val1, putT, Tr.get_set_self, Tr.get_set_ne, hd _, ne_eq, Nat.reduceEqDiff, not_false_eq_true, decide_true, Nat.reduceLT, opI_move, Nat.zero_add, h0, h4, p1, opI_fieldQ pp, P3]; rfl) ?_))))
    refine W_cond (b := true) (by simp only [PArg.eval, Tr.get_set_self, Tr.get_set_ne, hd _, ne_eq, Nat.reduceEqDiff, not_false_eq_true, decide_true, Nat.reduceLT]; try rfl) (fun _ => W_exit ?_) (fun hb => by cases hb)
    show W _ _
    refine W_seqR (by simp only [runSeq_cons, runSeq_nil, evalArgs_nil, evalArgs_tmp, evalArgs_const, val1, putT, Tr.get_set_self, Tr.get_set_ne, hd _, ne_eq, Nat.reduceEqDiff, not_false_eq_true, decide_true, Nat.reduceLT, opI_move, opI_add, h4]; rfl) ?_
    refine ⟨k - 1, by omega, i + 1, s, els, by omega, st, ho, by rw [refSp, if_pos hends]; exact hel, by rw [refSp, if_pos hends]; exact hsp, by ((repeat (with_reducible apply Dom.set)); exact hd), by simp only [Tr.get_set_ne, ne_eq, Nat.reduceEqDiff, not_false_eq_true, h0], by simp only [Tr.get_set_ne, ne_eq, Nat.reduceEqDiff, not_false_eq_true, h3], ?_⟩
    simp only [Tr.get_set_self, Tr.get_set_ne, hd _, ne_eq, Nat.reduceEqDiff, not_false_eq_true, decide_true, Nat.reduceLT]
    rw [wrapF_small (by omega) (by omega)]; rfl
  | false =>
    rw [hends] at P3
    refine W_seq (W_block (W_seq (W_seq (W_seqR (by simp only [runSeq_cons, runSeq_nil, evalArgs_nil, evalArgs_tmp, val1, putT, Tr.get_set_self, Tr.get_set_ne, hd _, ne_eq, Nat.reduceEqDiff, not_false_eq_true, decide_true, Nat.reduceLT, opI_move, Nat.zero_add, h0, h4, p1, opI_fieldQ pp, P3]; rfl) ?_))))
    refine W_cond (b := false) (by simp only [PArg.eval, Tr.get_set_self, Tr.get_set_ne, hd _, ne_eq, Nat.reduceEqDiff, not_false_eq_true, decide_true, Nat.reduceLT]; try rfl) (fun hb => by cases hb) (fun _ => W_skip ?_)
    show W _ _
    have P1 := ps 1 _ rfl
    have P2 := ps 2 _ rfl
    have P4 := pl 4 3 (by omega)
    simp only [Ev.cells, List.drop_succ_cons, List.drop_zero, List.take_succ_cons, List.take_zero] at P4
    have sA := st.push (k := .cells (spC 0 0 0 0 0 0 (.slice none 0 0 false) 0 0 (.slice none 0 0 false)) 0 true none) (fun _ _ _ _ he => by cases he)
    have gA := get_push_self (k := .cells (spC 0 0 0 0 0 0 (.slice none 0 0 false) 0 0 (.slice none 0 0 false)) 0 true none) st.ok.1
    obtain ⟨p1', pl', ps'⟩ := pM (M.push (.cells (spC 0 0 0 0 0 0 (.slice none 0 0 false) 0 0 (.slice none 0 0 false)) 0 true none)) sA.grow.g
    have P1' := ps' 1 _ rfl
    have P2' := ps' 2 _ rfl
    have P4' := pl' 4 3 (by omega)
    simp only [Ev.cells, List.drop_succ_cons, List.drop_zero, List.take_succ_cons, List.take_zero] at P4'
    obtain ⟨eB, sB, gB, kB⟩ := store_all (n := 10) (new := spC (ev es i).who (ev es i).nth i (-1) (ev es i).kind (ev es i).task (ev es i).va 0 0 (.slice none 0 0 false)) sA st.grow.n gA rfl rfl (spC_one he.vs.one rfl)
    have bld : ∀ M : AMem, opI (.build [.int .i64 0, .int .i64 0, .int .i64 0, .int .i64 0, .int .i64 0, .int .u64 0, .slice none 0 0 false, .int .i64 0, .int .u64 0, .slice none 0 0 false] [(0, 1), (1, 1), (2, 1), (3, 1), (4, 3)]) [.int .i64 (ev es i).who, .int .i64 (ev es i).nth, .int .i64 i, .int .i64 (-1), .agg [.int .i64 (ev es i).kind, .int .u64 (ev es i).task, (ev es i).va]] M = some (.val (.agg (spC (ev es i).who (ev es i).nth i (-1) (ev es i).kind (ev es i).task (ev es i).va 0 0 (.slice none 0 0 false))) M) := fun M => rfl
    have q0 := held_none st.ok.1
    have q1 := sA.nh M.n st.grow.n
    have q2 := sB.nh M.n st.grow.n
    have hbq := RowE.beq (he.vs M st.grow.g)
    have hgB : Grow M _ := ⟨Nat.le_succ _, fun b hb => (kB b (by omega)).trans (get_push_old st.ok.1 hb), rfl, fun _ => sB.ok.1⟩
    have hoB := ho.grow st.ok.1 hgB
    have hne := OwnE.lt ho st.ok.1
    have hlB : M.n < ((M.push (.cells (spC 0 0 0 0 0 0 (.slice none 0 0 false) 0 0 (.slice none 0 0 false)) 0 true none)).set M.n (.cells (spC (ev es i).who (ev es i).nth i (-1) (ev es i).kind (ev es i).task (ev es i).va 0 0 (.slice none 0 0 false)) 0 true none)).n := Nat.lt_succ_self _
    refine W_seq (W_trace (M' := (M.push (.cells (spC 0 0 0 0 0 0 (.slice none 0 0 false) 0 0 (.slice none 0 0 false)) 0 true none)).set M.n (.cells (spC (ev es i).who (ev es i).nth i (-1) (ev es i).kind (ev es i).task (ev es i).va 0 0 (.slice none 0 0 false)) 0 true none)) rfl (by simp only [sameN_self, evalArgs_nil, evalArgs_tmp, evalArgs_const, val1, putT, Tr.get_set_self, Tr.get_set_ne, hd _, ne_eq, Nat.reduceEqDiff, not_false_eq_true, decide_true, Nat.reduceLT, opI_move, opI_new, Nat.zero_add, trace_nil, trace_read, trace_eff, addR_some, addE_some, Bool.and_true, Bool.not_false, h0, h4, p1, opI_fieldQ pp, P1, P2, P4, bld, eB, q0, q1, q2]; rfl) (by simp [checkRec, isLoad, sameAt, P1, P2, P4, P1', P2', P4', AV.beq, AV.beqs, hbq]) rfl ?_)
    generalize (M.push (.cells (spC 0 0 0 0 0 0 (.slice none 0 0 false) 0 0 (.slice none 0 0 false)) 0 true none)).set M.n (.cells (spC (ev es i).who (ev es i).nth i (-1) (ev es i).kind (ev es i).task (ev es i).va 0 0 (.slice none 0 0 false)) 0 true none) = MB at *
    have hi1 : wrapF .i64 ((i : Int) + 1) = ((i + 1 : Nat) : Int) := by rw [wrapF_small (by omega) (by omega)]; rfl
    refine W_seq (W_seq (W_seqR (by simp only [runSeq_cons, runSeq_nil, evalArgs_nil, evalArgs_tmp, evalArgs_const, val1, putT, Tr.get_set_self, Tr.get_set_ne, hd _, ne_eq, Nat.reduceEqDiff, not_false_eq_true, decide_true, Nat.reduceLT, opI_move, opI_add, h4, hi1]; rfl) (W_block (W_loop (fun kk t M' => ∃ (m : Nat) (va la : AV), kk + m = es.length - (i + 1) ∧ Step M0 M' ∧ OwnE M0 M' 10 s els ∧ M'.get M.n = some (.cells (spC (spanTo es i m).who (spanTo es i m).nth (spanTo es i m).from_ (spanTo es i m).to (spanTo es i m).kind (spanTo es i m).task va (spanTo es i m).code (spanTo es i m).v la) 0 true none) ∧ InRow M0.g .i64 va (spanTo es i m).vs ∧ InRow M0.g .u64 la (spanTo es i m).ls ∧ M.n < M'.n ∧ Dom t 82 ∧ t.get 0 = some v ∧ t.get 3 = some s ∧ t.get 4 = some (.int .i64 i) ∧ t.get 5 = some (.ptr (some (M.n, 0))) ∧ t.get 6 = some (.int .i64 (i + 1 + m : Nat))) (k := es.length - (i + 1)) (by omega) ?_ ?_))))
    · exact ⟨0, _, _, by omega, sB, hoB, gB, he.vs, InRow.nil, hlB, by ((repeat (with_reducible apply Dom.set)); exact hd), by simp only [Tr.get_set_ne, ne_eq, Nat.reduceEqDiff, not_false_eq_true, h0], by simp only [Tr.get_set_ne, ne_eq, Nat.reduceEqDiff, not_false_eq_true, h3], by simp only [Tr.get_set_ne, ne_eq, Nat.reduceEqDiff, not_false_eq_true, h4], by simp only [Tr.get_set_self, Tr.get_set_ne, hd _, ne_eq, Nat.reduceEqDiff, not_false_eq_true, decide_true, Nat.reduceLT], by simp only [Tr.get_set_self, Tr.get_set_ne, hd _, ne_eq, Nat.reduceEqDiff, not_false_eq_true, decide_true, Nat.reduceLT, Nat.add_zero]⟩
    clear h0 h3 h4 hd P1 P2 P4 P1' P2' P4' p1 p1' pl ps pl' ps' P3 pM eB kB bld q0 q1 q2 hgB hoB sA gA sB gB hlB
    intro kk t M1 ⟨m, va, la, hkk, s1, ho1, g1, hva, hla, hl1, hd, h0, h3, h4, h5, h6⟩
    have lv := hv.len M1 s1.grow.g
    refine W_seq (W_seq (W_seqR (by simp only [runSeq_cons, runSeq_nil, evalArgs_nil, evalArgs_tmp, val1, putT, Tr.get_set_self, Tr.get_set_ne, hd _, ne_eq, Nat.reduceEqDiff, not_false_eq_true, decide_true, Nat.reduceLT, opI_move, opI_lss, h0, h6, lv]; rfl) ?_))
    refine W_cond (by simp only [PArg.eval, Tr.get_set_self, Tr.get_set_ne, hd _, ne_eq, Nat.reduceEqDiff, not_false_eq_true, decide_true, Nat.reduceLT]; rfl) (fun hb => W_skip ?_) (fun hb => ?_)
    rotate_left
    · refine W_exit ?_
      have hm : m = es.length - (i + 1) := by simp at hb; omega
      subst hm
      show W _ _
      have ld := loads_own (o := 0) (n := 10) g1 (by simp)
      simp only [List.drop_zero, List.take_succ_cons, List.take_zero] at ld
      have hlen := refSp_len (es := es) (i := i)
      obtain ⟨M2, g, f1, f2, s2, o2, _, n2, _⟩ := push_el (bytes := 112) (z := [.int .i64 0, .int .i64 0, .int .i64 0, .int .i64 0, .int .i64 0, .int .u64 0, .slice none 0 0 false, .int .i64 0, .int .u64 0, .slice none 0 0 false]) (x := .agg (spC (spanTo es i (es.length - (i + 1))).who (spanTo es i (es.length - (i + 1))).nth (spanTo es i (es.length - (i + 1))).from_ (spanTo es i (es.length - (i + 1))).to (spanTo es i (es.length - (i + 1))).kind (spanTo es i (es.length - (i + 1))).task va (spanTo es i (es.length - (i + 1))).code (spanTo es i (es.length - (i + 1))).v la)) s1 (.inl ho1) rfl rfl (by omega) (spC_one hva.one hla.one) (by omega) (by omega)
      rw [cells_agg] at f1 f2
      refine W_seqR (by simp only [runSeq_cons, runSeq_nil, evalArgs_nil, evalArgs_tmp, val1, putT, Tr.get_set_self, Tr.get_set_ne, hd _, ne_eq, Nat.reduceEqDiff, not_false_eq_true, decide_true, Nat.reduceLT, opI_move, h3, h5, ld, f1, f2]; rfl) ?_
      show W _ _
      refine W_seqR (by simp only [runSeq_cons, runSeq_nil, evalArgs_nil, evalArgs_tmp, evalArgs_const, val1, putT, Tr.get_set_self, Tr.get_set_ne, hd _, ne_eq, Nat.reduceEqDiff, not_false_eq_true, decide_true, Nat.reduceLT, opI_move, opI_add, h4]; rfl) ?_
      refine ⟨k - 1, by omega, i + 1, _, _, by omega, s2, o2, ?_, fun j y hy => ?_, by ((repeat (with_reducible apply Dom.set)); exact hd), by simp only [Tr.get_set_ne, ne_eq, Nat.reduceEqDiff, not_false_eq_true, h0], by simp only [Tr.get_set_self, Tr.get_set_ne, hd _, ne_eq, Nat.reduceEqDiff, not_false_eq_true, decide_true, Nat.reduceLT], ?_⟩
      · rw [refSp, hends]; simp [hel]
      · rw [refSp, hends] at hy
        simp only [Bool.false_eq_true, if_false] at hy
        rcases Nat.lt_or_ge j (refSp es i).length with hlt | hge
        · rw [List.getElem?_append_left hlt] at hy
          obtain ⟨e, k1, k2⟩ := hsp j y hy
          exact ⟨e, by rw [List.getElem?_append_left (by omega)]; exact k1, k2⟩
        · have : j = (refSp es i).length := by
            have := (List.getElem?_eq_some_iff.1 hy).1
            simp at this; omega
          subst this
          simp only [List.getElem?_append_right (Nat.le_refl _), Nat.sub_self, List.getElem?_cons_zero, Option.some.injEq] at hy
          subst hy
          exact ⟨_, by rw [← hel, List.getElem?_append_right (Nat.le_refl _), Nat.sub_self]; rfl, va, la, rfl, hva, hla⟩
      · simp only [Tr.get_set_self, Tr.get_set_ne, hd _, ne_eq, Nat.reduceEqDiff, not_false_eq_true, decide_true, Nat.reduceLT, hi1]
    have hm : i + 1 + m < es.length := by simp at hb; omega
    have h6n : wrapF .i64 (((i + 1 + m : Nat) : Int) + 1) = ((i + 1 + (m + 1) : Nat) : Int) := by rw [wrapF_small (by omega) (by omega)]; rfl
    obtain ⟨q, qq, qM⟩ := hv.at2 hm
    have hem := hv.ok hm
    obtain ⟨q1, ql, qs⟩ := qM M1 s1.grow.g
    have Q1 := qs 1 _ rfl
    have Q2 := qs 2 _ rfl
    have Q3 := qs 3 _ rfl
    have S0 := load_own (o := 0) g1 rfl
    have S1 := load_own (o := 1) g1 rfl
    have hsp1 : spanTo es i (m + 1) = updS es (spanTo es i m) (i + 1 + m) := rfl
    by_cases hcond : (ev es (i + 1 + m)).who = (spanTo es i m).who ∧ (ev es (i + 1 + m)).ends = true ∧ (ev es (i + 1 + m)).nth = (spanTo es i m).nth
    rotate_left
    · rw [updS, if_neg hcond] at hsp1
      by_cases c1 : (ev es (i + 1 + m)).who = (spanTo es i m).who
      rotate_left
      · have c1' : ((ev es (i + 1 + m)).who == (spanTo es i m).who) = false := by simpa using c1
        refine W_seq (W_block (W_seq (W_quiet rfl (by simp only [runPure_cons, runPure_nil, ofD_cons, ofD_nil, sameN_self, evalArgs_nil, evalArgs_tmp, evalArgs_const, putT, Tr.get_set_self, Tr.get_set_ne, Tr.isSome_set, hd _, ne_eq, Nat.reduceEqDiff, not_false_eq_true, decide_true, Nat.reduceLT, opI_move, opI_eql, opI_fieldP, opI_pick, Nat.zero_add, Nat.add_zero, runPure_guard (b := false), Bool.false_beq, Bool.not_true, h0, h5, h6, q1, opI_fieldQ qq, Q1, S0, c1']; rfl) ?_)))
        refine W_cond (b := false) (by simp only [PArg.eval, Tr.get_set_self, Tr.get_set_ne, hd _, ne_eq, Nat.reduceEqDiff, not_false_eq_true, decide_true, Nat.reduceLT]; try rfl) (fun hb => by cases hb) (fun _ => W_skip ?_)
        show W _ _
        refine W_seqR (by simp only [runSeq_cons, runSeq_nil, evalArgs_nil, evalArgs_tmp, evalArgs_const, val1, putT, Tr.get_set_self, Tr.get_set_ne, hd _, ne_eq, Nat.reduceEqDiff, not_false_eq_true, decide_true, Nat.reduceLT, opI_move, opI_add, h6, h6n]; rfl) ?_
        exact ⟨kk - 1, by omega, m + 1, va, la, by omega, s1, ho1, by rw [hsp1]; exact g1, by rw [hsp1]; exact hva, by rw [hsp1]; exact hla, hl1, by ((repeat (with_reducible apply Dom.set)); exact hd), by simp only [Tr.get_set_ne, ne_eq, Nat.reduceEqDiff, not_false_eq_true, h0], by simp only [Tr.get_set_ne, ne_eq, Nat.reduceEqDiff, not_false_eq_true, h3], by simp only [Tr.get_set_ne, ne_eq, Nat.reduceEqDiff, not_false_eq_true, h4], by simp only [Tr.get_set_ne, ne_eq, Nat.reduceEqDiff, not_false_eq_true, h5], by simp only [Tr.get_set_self, Tr.get_set_ne, hd _, ne_eq, Nat.reduceEqDiff, not_false_eq_true, decide_true, Nat.reduceLT]⟩
      have c1' : ((ev es (i + 1 + m)).who == (spanTo es i m).who) = true := by simpa using c1
      by_cases c2 : (ev es (i + 1 + m)).ends = true
      rotate_left
      · have c2' : (ev es (i + 1 + m)).ends = false := by simpa using c2
        rw [c2'] at Q3
        refine W_seq (W_block (W_seq (W_quiet rfl (by simp only [runPure_cons, runPure_nil, ofD_cons, ofD_nil, sameN_self, evalArgs_nil, evalArgs_tmp, evalArgs_const, putT, Tr.get_set_self, Tr.get_set_ne, Tr.isSome_set, hd _, ne_eq, Nat.reduceEqDiff, not_false_eq_true, decide_true, Nat.reduceLT, opI_move, opI_eql, opI_fieldP, opI_pick, Nat.zero_add, Nat.add_zero, runPure_guard (b := true), runPure_guard (b := false), beq_self_eq_true, Bool.false_beq, Bool.not_true, h0, h5, h6, q1, opI_fieldQ qq, Q1, Q3, S0, c1']; rfl) ?_)))
        refine W_cond (b := false) (by simp only [PArg.eval, Tr.get_set_self, Tr.get_set_ne, hd _, ne_eq, Nat.reduceEqDiff, not_false_eq_true, decide_true, Nat.reduceLT]; try rfl) (fun hb => by cases hb) (fun _ => W_skip ?_)
        show W _ _
        refine W_seqR (by simp only [runSeq_cons, runSeq_nil, evalArgs_nil, evalArgs_tmp, evalArgs_const, val1, putT, Tr.get_set_self, Tr.get_set_ne, hd _, ne_eq, Nat.reduceEqDiff, not_false_eq_true, decide_true, Nat.reduceLT, opI_move, opI_add, h6, h6n]; rfl) ?_
        exact ⟨kk - 1, by omega, m + 1, va, la, by omega, s1, ho1, by rw [hsp1]; exact g1, by rw [hsp1]; exact hva, by rw [hsp1]; exact hla, hl1, by ((repeat (with_reducible apply Dom.set)); exact hd), by simp only [Tr.get_set_ne, ne_eq, Nat.reduceEqDiff, not_false_eq_true, h0], by simp only [Tr.get_set_ne, ne_eq, Nat.reduceEqDiff, not_false_eq_true, h3], by simp only [Tr.get_set_ne, ne_eq, Nat.reduceEqDiff, not_false_eq_true, h4], by simp only [Tr.get_set_ne, ne_eq, Nat.reduceEqDiff, not_false_eq_true, h5], by simp only [Tr.get_set_self, Tr.get_set_ne, hd _, ne_eq, Nat.reduceEqDiff, not_false_eq_true, decide_true, Nat.reduceLT]⟩
      have c3' : ((ev es (i + 1 + m)).nth == (spanTo es i m).nth) = false := by simpa using fun h => hcond ⟨c1, c2, h⟩
      rw [c2] at Q3
      refine W_seq (W_block (W_seq (W_quiet rfl (by simp only [runPure_cons, runPure_nil, ofD_cons, ofD_nil, sameN_self, evalArgs_nil, evalArgs_tmp, evalArgs_const, putT, Tr.get_set_self, Tr.get_set_ne, Tr.isSome_set, hd _, ne_eq, Nat.reduceEqDiff, not_false_eq_true, decide_true, Nat.reduceLT, opI_move, opI_eql, opI_fieldP, opI_pick, Nat.zero_add, Nat.add_zero, runPure_guard (b := true), beq_self_eq_true, h0, h5, h6, q1, opI_fieldQ qq, Q1, Q2, Q3, S0, S1, c1', c3']; rfl) ?_)))
      refine W_cond (b := false) (by simp only [PArg.eval, Tr.get_set_self, Tr.get_set_ne, hd _, ne_eq, Nat.reduceEqDiff, not_false_eq_true, decide_true, Nat.reduceLT]; try rfl) (fun hb => by cases hb) (fun _ => W_skip ?_)
      show W _ _
      refine W_seqR (by simp only [runSeq_cons, runSeq_nil, evalArgs_nil, evalArgs_tmp, evalArgs_const, val1, putT, Tr.get_set_self, Tr.get_set_ne, hd _, ne_eq, Nat.reduceEqDiff, not_false_eq_true, decide_true, Nat.reduceLT, opI_move, opI_add, h6, h6n]; rfl) ?_
      exact ⟨kk - 1, by omega, m + 1, va, la, by omega, s1, ho1, by rw [hsp1]; exact g1, by rw [hsp1]; exact hva, by rw [hsp1]; exact hla, hl1, by ((repeat (with_reducible apply Dom.set)); exact hd), by simp only [Tr.get_set_ne, ne_eq, Nat.reduceEqDiff, not_false_eq_true, h0], by simp only [Tr.get_set_ne, ne_eq, Nat.reduceEqDiff, not_false_eq_true, h3], by simp only [Tr.get_set_ne, ne_eq, Nat.reduceEqDiff, not_false_eq_true, h4], by simp only [Tr.get_set_ne, ne_eq, Nat.reduceEqDiff, not_false_eq_true, h5], by simp only [Tr.get_set_self, Tr.get_set_ne, hd _, ne_eq, Nat.reduceEqDiff, not_false_eq_true, decide_true, Nat.reduceLT]⟩
    rw [updS, if_pos hcond] at hsp1
    obtain ⟨c1, c2, c3⟩ := hcond
    have c1' : ((ev es (i + 1 + m)).who == (spanTo es i m).who) = true := by simpa using c1
    have c3' : ((ev es (i + 1 + m)).nth == (spanTo es i m).nth) = true := by simpa using c3
    rw [c2] at Q3
    refine W_seq (W_block (W_seq (W_quiet rfl (by simp only [runPure_cons, runPure_nil, ofD_cons, ofD_nil, sameN_self, evalArgs_nil, evalArgs_tmp, evalArgs_const, putT, Tr.get_set_self, Tr.get_set_ne, Tr.isSome_set, hd _, ne_eq, Nat.reduceEqDiff, not_false_eq_true, decide_true, Nat.reduceLT, opI_move, opI_eql, opI_fieldP, opI_pick, Nat.zero_add, Nat.add_zero, runPure_guard (b := true), beq_self_eq_true, h0, h5, h6, q1, opI_fieldQ qq, Q1, Q2, Q3, S0, S1, c1', c3']; rfl) ?_)))
    refine W_cond (b := true) (by simp only [PArg.eval, Tr.get_set_self, Tr.get_set_ne, hd _, ne_eq, Nat.reduceEqDiff, not_false_eq_true, decide_true, Nat.reduceLT]; try rfl) (fun _ => ?_) (fun hb => by cases hb)
    obtain ⟨f1, s2, g2, k2⟩ := store1 (o := 3) (x := .int .i64 (i + 1 + m : Nat)) s1 st.grow.n g1 ⟨rfl, rfl⟩ (by simp)
    simp only [List.set_cons_succ, List.set_cons_zero] at f1 s2 g2 k2
    refine W_seq (W_seqR (by simp only [runSeq_cons, runSeq_nil, evalArgs_nil, evalArgs_tmp, val1, putT, Tr.get_set_self, Tr.get_set_ne, hd _, ne_eq, Nat.reduceEqDiff, not_false_eq_true, decide_true, Nat.reduceLT, opI_move, opI_fieldP, Nat.zero_add, h5, h6, f1]; rfl) ?_)
    generalize M1.set M.n (.cells (spC (spanTo es i m).who (spanTo es i m).nth (spanTo es i m).from_ (i + 1 + m : Nat) (spanTo es i m).kind (spanTo es i m).task va (spanTo es i m).code (spanTo es i m).v la) 0 true none) = M2 at *
    obtain ⟨q1', ql', _⟩ := qM M2 s2.grow.g
    have Q7 := ql' 7 3 (by omega)
    simp only [Ev.cells, List.drop_succ_cons, List.drop_zero, List.take_succ_cons, List.take_zero] at Q7
    obtain ⟨f2, s3⟩ := store_own (o := 7) (n := 3) (x := .agg [.int .i64 (ev es (i + 1 + m)).code, .int .u64 (ev es (i + 1 + m)).v, (ev es (i + 1 + m)).la]) s2 st.grow.n g2 rfl (by simp) (by simp [cells_agg, one_int, hem.ls.one])
    have g3 := get_set_mem (k := .cells (splice (spC (spanTo es i m).who (spanTo es i m).nth (spanTo es i m).from_ (i + 1 + m : Nat) (spanTo es i m).kind (spanTo es i m).task va (spanTo es i m).code (spanTo es i m).v la) 7 (AV.cells (.agg [.int .i64 (ev es (i + 1 + m)).code, .int .u64 (ev es (i + 1 + m)).v, (ev es (i + 1 + m)).la]))) 0 true none) (m := M.n) g2
    rw [if_pos rfl] at g3
    have k3 : ∀ c, c ≠ M.n → _ = M2.get c := fun c hc => (get_set_mem (k := .cells (splice (spC (spanTo es i m).who (spanTo es i m).nth (spanTo es i m).from_ (i + 1 + m : Nat) (spanTo es i m).kind (spanTo es i m).task va (spanTo es i m).code (spanTo es i m).v la) 7 (AV.cells (.agg [.int .i64 (ev es (i + 1 + m)).code, .int .u64 (ev es (i + 1 + m)).v, (ev es (i + 1 + m)).la]))) 0 true none) (m := c) g2).trans (if_neg hc)
    refine W_seqR (by simp only [runSeq_cons, runSeq_nil, evalArgs_nil, evalArgs_tmp, val1, putT, Tr.get_set_self, Tr.get_set_ne, hd _, ne_eq, Nat.reduceEqDiff, not_false_eq_true, decide_true, Nat.reduceLT, opI_move, opI_fieldP, cells_agg, Nat.zero_add, h0, h5, h6, q1', opI_fieldQ qq, Q7, f2]; rfl) ?_
    show W _ _
    refine W_seqR (by simp only [runSeq_cons, runSeq_nil, evalArgs_nil, evalArgs_tmp, evalArgs_const, val1, putT, Tr.get_set_self, Tr.get_set_ne, hd _, ne_eq, Nat.reduceEqDiff, not_false_eq_true, decide_true, Nat.reduceLT, opI_move, opI_add, h6, h6n]; rfl) ?_
    refine ⟨kk - 1, by omega, m + 1, va, (ev es (i + 1 + m)).la, by omega, s3, OwnE.other (OwnE.other ho1 k2 hne) k3 hne, ?_, by rw [hsp1]; exact hva, by rw [hsp1]; exact hem.ls, ?_, by ((repeat (with_reducible apply Dom.set)); exact hd), by simp only [Tr.get_set_ne, ne_eq, Nat.reduceEqDiff, not_false_eq_true, h0], by simp only [Tr.get_set_ne, ne_eq, Nat.reduceEqDiff, not_false_eq_true, h3], by simp only [Tr.get_set_ne, ne_eq, Nat.reduceEqDiff, not_false_eq_true, h4], by simp only [Tr.get_set_ne, ne_eq, Nat.reduceEqDiff, not_false_eq_true, h5], by simp only [Tr.get_set_self, Tr.get_set_ne, hd _, ne_eq, Nat.reduceEqDiff, not_false_eq_true, decide_true, Nat.reduceLT]⟩
    · rw [hsp1]; exact g3
    · exact get_lt s3.ok.1 g3
end Go.Proofs.Ytoddncakdnmloaa.diary
