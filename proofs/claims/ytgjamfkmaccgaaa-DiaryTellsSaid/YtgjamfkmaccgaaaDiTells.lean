/- The walk of the law DiaryTells. -/
import Derived.Test.YtgjamfkmaccgaaaDiMostL
namespace Go.Proofs.Ytgjamfkmaccgaaa.diary
open Go Go.Vx

theorem trace_guardR {call : FuncId → List AV → AMem → Option (AV × AMem)} {n0 : Nat} {op : PI} {args : List PArg} {dst : Option Nat} {fl : Bool} {lo hi : Nat} {ds : List DInstr} {t : Tr AV} {M : AMem} {m : Nat} {want b : Bool} (h : t.get m = some (.bool b)) :
    trace call n0 (⟨⟨op, args, dst, some (m, want)⟩, false, fl, lo, hi⟩ :: ds) t M = match b == want with
      | true => (match evalArgs t args with
        | some avs => match opI op avs M with
          | some (.val v M') => match sameN M'.n M.n with
            | true => addR ⟨⟨⟨op, args, dst, some (m, want)⟩, false, fl, lo, hi⟩, some avs, v⟩ (trace call n0 ds (putT t dst v) M)
            | false => none
          | _ => none
        | none => none)
      | false => addR ⟨⟨⟨op, args, dst, some (m, want)⟩, false, fl, lo, hi⟩, none, undefA⟩ (trace call n0 ds (putT t dst undefA) M) := by
  simp only [trace, wantedA, h, sameN]
  cases b == want with
  | false =>
    simp only [Bool.false_eq_true, if_false]
    cases trace call n0 ds (putT t dst undefA) M <;> rfl
  | true =>
    simp only [if_true, Bool.false_eq_true, if_false]
    cases evalArgs t args with
    | none => rfl
    | some avs =>
      simp only
      rcases opI op avs M with _ | ⟨v, M'⟩ | ⟨f, l⟩
      · rfl
      · simp only
        by_cases h : M'.n = M.n
        · rw [if_pos h, show (M'.n == M.n) = true by simpa using h]
          cases trace call n0 ds (putT t dst v) M <;> rfl
        · rw [if_neg h, show (M'.n == M.n) = false by simpa using h]
      · rfl
/-- a row of our own of spans that came in -/
def MyRow (M0 M : AMem) (v : AV) (sps : List Sp) : Prop := ∃ els, FreshE M0 M 10 v els ∧ els.length = sps.length ∧ ∀ (i : Nat) s, sps[i]? = some s → ∃ e, els[i]? = some e ∧ InSp M0.g e s
theorem MyRow.grow {M0 M M' : AMem} {v : AV} {sps : List Sp} (h : MyRow M0 M v sps) (hok : Ok M) (hg : Grow M M') : MyRow M0 M' v sps := by
  obtain ⟨els, h1, h2⟩ := h
  exact ⟨els, h1.grow hok hg, h2⟩
theorem MyRow.rd {M0 M : AMem} {v : AV} {sps : List Sp} (h : MyRow M0 M v sps) (st : Step M0 M) : RdRow M v sps := by
  obtain ⟨els, h1, h2, h3⟩ := h
  refine ⟨els, h1.row st.ok.1, h2, fun i s hs => ?_⟩
  obtain ⟨e, k1, va, la, k2, k3, k4⟩ := h3 i s hs
  exact ⟨e, k1, va, la, k2, k3 M st.grow.g, k4 M st.grow.g⟩
theorem MyRow.push {M0 M : AMem} {sv va la : AV} {sps : List Sp} {s : Sp} (h : Step M0 M) (hr : MyRow M0 M sv sps) (hva : InRow M0.g .i64 va s.vs) (hla : InRow M0.g .u64 la s.ls) (hn : sps.length < 90000) :
    ∃ sv' M1, opI (.sliceLit 1 [.int .i64 0, .int .i64 0, .int .i64 0, .int .i64 0, .int .i64 0, .int .u64 0, .slice none 0 0 false, .int .i64 0, .int .u64 0, .slice none 0 0 false] [(0, 10)]) [.agg (spL s va la)] M = some (.val (.slice (some (M.n, 0)) 1 1 false) (M.push (.cells (spL s va la) 0 true none))) ∧
      opI (.append 10 112) [sv, .slice (some (M.n, 0)) 1 1 false] (M.push (.cells (spL s va la) 0 true none)) = some (.val sv' M1) ∧ Step M0 M1 ∧ MyRow M0 M1 sv' (sps ++ [s]) := by
  obtain ⟨els, hrow, hlen, hsp⟩ := hr
  have hl10 : (AV.cells (.agg (spL s va la))).length = 10 := rfl
  obtain ⟨M1, g, e1, e2, s1, o1, k1, n1, b1⟩ := push_el (bytes := 112) (z := [.int .i64 0, .int .i64 0, .int .i64 0, .int .i64 0, .int .i64 0, .int .u64 0, .slice none 0 0 false, .int .i64 0, .int .u64 0, .slice none 0 0 false]) h hrow rfl hl10 (by omega) (spC_one hva.one hla.one) (by omega) (by omega)
  rw [cells_agg] at e1 e2 o1 b1
  refine ⟨_, M1, e1, e2, s1, els ++ [spL s va la], .inl o1, by simp [hlen], fun i y hi => ?_⟩
  rcases Nat.lt_or_ge i sps.length with hlt | hge
  · rw [List.getElem?_append_left hlt] at hi
    obtain ⟨e, q1, q2⟩ := hsp i y hi
    exact ⟨e, by rw [List.getElem?_append_left (by omega)]; exact q1, q2⟩
  · have : i = sps.length := by
      have := (List.getElem?_eq_some_iff.1 hi).1
      simp at this; omega
    subst this
    simp only [List.getElem?_append_right (Nat.le_refl _), Nat.sub_self, List.getElem?_cons_zero, Option.some.injEq] at hi
    subst hi
    refine ⟨_, ?_, va, la, rfl, hva, hla⟩
    rw [List.getElem?_append_right (by omega), hlen, Nat.sub_self]; rfl

set_option maxRecDepth 20000 in
set_option maxHeartbeats 4000000 in
theorem tells_ok {v : AV} {sps : List Sp} {w : Int} (d : Nat) (M0 : AMem) (hok : Okg M0) (hv : InSps M0.g v sps) :
    Ans (callF tbl code 100000 (d + 5)) 3 [v, .int .i64 w] M0 fun r _ => r = .bool true := by
  refine Ans_of (tbl_none (by decide) _) (show code 3 = some c3 from by kernel_rfl) (by simp) fun t hd ha => ?_
  have h0 := ha 0 _ rfl
  have h1 := ha 1 _ rfl
  clear ha
  have aw : callF tbl code 100000 (d + 4) 4 [] M0 = some (.bool true, M0) := rfl
  obtain ⟨r0, M', cb, hM', big, hr0, hbig⟩ := big_ok (d + 3) M0 hv
  subst hr0
  rw [hM'] at cb
  clear hM' M'
  refine W_seq (W_seqR (by simp only [runSeq_cons, runSeq_nil, evalArgs_nil, evalArgs_const, val1, putT, opI_move]; rfl) (W_seq (W_seq (W_seqR (by simp only [runSeq_cons, runSeq_nil, evalArgs_nil, evalArgs_tmp, val1, putT, Tr.get_set_self, Tr.get_set_ne, hd _, ne_eq, Nat.reduceEqDiff, not_false_eq_true, decide_true, Nat.reduceLT, opI_not, opI_callF, aw]; rfl) ?_))))
  refine W_cond (b := false) (by simp only [PArg.eval, Tr.get_set_self, Tr.get_set_ne, hd _, ne_eq, Nat.reduceEqDiff, not_false_eq_true, decide_true, Nat.reduceLT]; try rfl) (fun hb => by cases hb) (fun _ => W_skip ?_)
  refine W_seq (W_seq (W_seqR (by simp only [runSeq_cons, runSeq_nil, evalArgs_nil, evalArgs_tmp, evalArgs_const, val1, putT, Tr.get_set_self, Tr.get_set_ne, hd _, ne_eq, Nat.reduceEqDiff, not_false_eq_true, decide_true, Nat.reduceLT, opI_move, opI_callF, h0, cb]; rfl) ?_))
  refine W_cond (by simp only [PArg.eval, Tr.get_set_self, Tr.get_set_ne, hd _, ne_eq, Nat.reduceEqDiff, not_false_eq_true, decide_true, Nat.reduceLT]; rfl) (fun _ => ?_) (fun hb => W_skip ?_)
  · refine W_seq (W_seqR (by simp only [runSeq_cons, runSeq_nil, evalArgs_nil, evalArgs_const, val1, putT, opI_move]; rfl) (W_ret ?_))
    exact ⟨_, fin_tmp (by simp only [Tr.get_set_self, Tr.get_set_ne, Option.isSome_some, hd _, ne_eq, Nat.reduceEqDiff, not_false_eq_true, decide_true, Nat.reduceLT]; try rfl), rfl⟩
  obtain ⟨hn, hbb⟩ := hbig hb
  clear hbig cb aw hb
  have sE := (Step.refl hok).push (k := .cells [] 0 true none) (fun _ _ _ _ he => by cases he)
  have oE : OwnE M0 (M0.push (.cells [] 0 true none)) 10 (.slice (some (M0.n, 0)) 0 0 false) [] := ⟨M0.n, false, 0, none, rfl, Nat.le_refl _, get_push_self hok.1, (fun he => by cases he), (fun g' he => by cases he), (fun e he => by simp at he), rfl⟩
  refine W_seq (W_seqR (by simp only [runSeq_cons, runSeq_nil, evalArgs_nil, evalArgs_const, val1, putT, opI_move]; rfl) (W_seq (W_seqR (by simp only [runSeq_cons, runSeq_nil, evalArgs_nil, evalArgs_tmp, val1, putT, Tr.get_set_self, Tr.get_set_ne, hd _, ne_eq, Nat.reduceEqDiff, not_false_eq_true, decide_true, Nat.reduceLT, opI_move]; rfl) ?_)))
  refine W_seq (W_seq (W_seqR (by simp only [runSeq_cons, runSeq_nil, evalArgs_nil, evalArgs_const, val1, putT, opI_move]; rfl) (W_block (W_loop (fun k t M' => ∃ (i : Nat) (sv : AV), k + i = sps.length ∧ Step M0 M' ∧ MyRow M0 M' sv (ofL (sps.take i) w) ∧ Dom t 95 ∧ t.get 0 = some v ∧ t.get 1 = some (.int .i64 w) ∧ t.get 5 = some (.int .i64 (openN (sps.take i) : Nat)) ∧ t.get 6 = some sv ∧ t.get 7 = some (.int .i64 i)) (k := sps.length) (by omega) ?_ ?_))))
  · exact ⟨0, _, rfl, sE, ⟨[], .inl oE, by simp [ofL], fun i s hs => by simp [ofL] at hs⟩, by ((repeat (with_reducible apply Dom.set)); exact hd), by simp only [Tr.get_set_ne, ne_eq, Nat.reduceEqDiff, not_false_eq_true, h0], by simp only [Tr.get_set_ne, ne_eq, Nat.reduceEqDiff, not_false_eq_true, h1], by simp only [Tr.get_set_self, Tr.get_set_ne, hd _, ne_eq, Nat.reduceEqDiff, not_false_eq_true, decide_true, Nat.reduceLT]; try rfl, by simp only [Tr.get_set_self, Tr.get_set_ne, hd _, ne_eq, Nat.reduceEqDiff, not_false_eq_true, decide_true, Nat.reduceLT]; try rfl, by simp only [Tr.get_set_self, Tr.get_set_ne, hd _, ne_eq, Nat.reduceEqDiff, not_false_eq_true, decide_true, Nat.reduceLT]; try rfl⟩
  clear h0 h1 hd
  intro k t M ⟨i, sv, hk, st, hr, hd, h0, h1, h5, h6, h7⟩
  have lv := hv.len M st.grow.g
  refine W_seq (W_seq (W_seqR (by simp only [runSeq_cons, runSeq_nil, evalArgs_nil, evalArgs_tmp, val1, putT, Tr.get_set_self, Tr.get_set_ne, hd _, ne_eq, Nat.reduceEqDiff, not_false_eq_true, decide_true, Nat.reduceLT, opI_move, opI_lss, h0, h7, lv]; rfl) ?_))
  refine W_cond (by simp only [PArg.eval, Tr.get_set_self, Tr.get_set_ne, hd _, ne_eq, Nat.reduceEqDiff, not_false_eq_true, decide_true, Nat.reduceLT]; rfl) (fun hb => W_skip ?_) (fun hb => ?_)
  rotate_left
  · refine W_exit ?_
    have hi : i = sps.length := by simp at hb; omega
    subst hi
    rw [List.take_length] at hr h5
    show W _ _
    obtain ⟨_, M1, c7, s1, rfl⟩ := open_ok (v := v) (sps := sps) (d + 3) M st.ok (by rw [st.grow.g]; exact hv) (by omega)
    have t1 := st.trans s1
    obtain ⟨_, M2, c8, s2, rfl⟩ := most_ok (d + 2) M1 (hv.rd M1 t1.grow.g) t1.ok (by omega)
    have t2 := t1.trans s2
    obtain ⟨_, M3, c9, s3, rfl⟩ := refmost_ok (v := v) (sps := sps) (d + 2) M2 t2.ok (by rw [t2.grow.g]; exact hv) (by omega)
    have t3 := t2.trans s3
    obtain ⟨ov, M4, c11, s4, ro⟩ := of_ok (v := v) (sps := sps) (w := w) (d + 1) M3 t3.ok (by rw [t3.grow.g]; exact hv) (by omega) hbb
    have t4 := t3.trans s4
    have hl : (ofL sps w).length ≤ sps.length := List.length_filter_le _ _
    have hmy : RdRow M4 sv (ofL sps w) := (((hr.rd st).grow s1.grow).grow s2.grow).grow (s3.grow.trans s4.grow)
    obtain ⟨_, M5, c10, s5, rfl⟩ := samespans_ok (d + 1) M4 ro hmy t4.ok (by omega) (fun s hs => by have := hbb s (List.mem_filter.1 hs).1; omega)
    rw [decide_eq_true rfl] at c10
    rw [most_law] at c8
    refine W_seq (W_seqR (by simp only [runSeq_cons, runSeq_nil, evalArgs_nil, evalArgs_tmp, evalArgs_const, val1, putT, Tr.get_set_self, Tr.get_set_ne, Tr.isSome_set, hd _, ne_eq, Nat.reduceEqDiff, not_false_eq_true, decide_true, Nat.reduceLT, opI_move, opI_eql, opI_callF, opI_pick, runSeq_guard (b := true), beq_self_eq_true, h0, h1, h5, h6, c7, c8, c9, c10, c11, beq_self_eq_true]; rfl) (W_ret ?_))
    exact ⟨_, fin_tmp (by simp only [Tr.get_set_self, Tr.get_set_ne, hd _, ne_eq, Nat.reduceEqDiff, not_false_eq_true, decide_true, Nat.reduceLT]; try rfl), rfl⟩
  have hin : i < sps.length := by simpa using hb
  have hos := openN_succ hin
  have hol := openN_le (sps.take i)
  have hfs := ofL_succ (w := w) hin
  have hfl := ofL_len (l := sps) (w := w) (i := i)
  rw [List.length_take] at hol
  obtain ⟨p, va, la, pp, hva, hla, hM⟩ := hv.at_ hin
  obtain ⟨p1, pl, ps⟩ := hM M st.grow.g
  have P3 := ps 3 _ rfl
  have P0 := ps 0 _ rfl
  have P10 := pl 0 10 (by omega)
  simp only [List.drop_zero, List.take_succ_cons, List.take_zero] at P10
  refine W_seq (W_block (W_seq (W_seq (W_seqR (by simp only [runSeq_cons, runSeq_nil, evalArgs_nil, evalArgs_tmp, evalArgs_const, val1, putT, Tr.get_set_self, Tr.get_set_ne, hd _, ne_eq, Nat.reduceEqDiff, not_false_eq_true, decide_true, Nat.reduceLT, opI_move, opI_lss, Nat.zero_add, h0, h7, p1, opI_fieldQ pp, P3]; rfl) ?_))))
  refine W.mono (Q := fun x t2 M2 => x = .normal ∧ M2 = M ∧ Dom t2 95 ∧ t2.get 0 = some v ∧ t2.get 1 = some (.int .i64 w) ∧ t2.get 5 = some (.int .i64 (openN (sps.take (i + 1)) : Nat)) ∧ t2.get 6 = some sv ∧ t2.get 7 = some (.int .i64 i)) ?_ ?_
  · by_cases c1 : sps[i].to < 0
    · refine W_cond (b := true) (by simp only [PArg.eval, Tr.get_set_self, Tr.get_set_ne, hd _, ne_eq, Nat.reduceEqDiff, not_false_eq_true, decide_true, Nat.reduceLT, c1]; try rfl) (fun _ => ?_) (fun hb => by cases hb)
      refine W_seqR (by simp only [runSeq_cons, runSeq_nil, evalArgs_nil, evalArgs_tmp, evalArgs_const, val1, putT, Tr.get_set_self, Tr.get_set_ne, hd _, ne_eq, Nat.reduceEqDiff, not_false_eq_true, decide_true, Nat.reduceLT, opI_move, opI_add, h5]; rfl) ?_
      refine ⟨rfl, rfl, by ((repeat (with_reducible apply Dom.set)); exact hd), by simp only [Tr.get_set_ne, ne_eq, Nat.reduceEqDiff, not_false_eq_true, h0], by simp only [Tr.get_set_ne, ne_eq, Nat.reduceEqDiff, not_false_eq_true, h1], ?_, by simp only [Tr.get_set_ne, ne_eq, Nat.reduceEqDiff, not_false_eq_true, h6], by simp only [Tr.get_set_ne, ne_eq, Nat.reduceEqDiff, not_false_eq_true, h7]⟩
      simp only [Tr.get_set_self, Tr.get_set_ne, hd _, ne_eq, Nat.reduceEqDiff, not_false_eq_true, decide_true, Nat.reduceLT]
      rw [hos, if_pos c1, wrapF_small (by omega) (by omega)]; rfl
    · refine W_cond (b := false) (by simp only [PArg.eval, Tr.get_set_self, Tr.get_set_ne, hd _, ne_eq, Nat.reduceEqDiff, not_false_eq_true, decide_true, Nat.reduceLT, c1, decide_false]; try rfl) (fun hb => by cases hb) (fun _ => W_skip ?_)
      refine ⟨rfl, rfl, by ((repeat (with_reducible apply Dom.set)); exact hd), by simp only [Tr.get_set_ne, ne_eq, Nat.reduceEqDiff, not_false_eq_true, h0], by simp only [Tr.get_set_ne, ne_eq, Nat.reduceEqDiff, not_false_eq_true, h1], ?_, by simp only [Tr.get_set_ne, ne_eq, Nat.reduceEqDiff, not_false_eq_true, h6], by simp only [Tr.get_set_ne, ne_eq, Nat.reduceEqDiff, not_false_eq_true, h7]⟩
      simp only [Tr.get_set_ne, ne_eq, Nat.reduceEqDiff, not_false_eq_true, h5]
      rw [hos, if_neg c1]; rfl
  clear h0 h1 h5 h6 h7 hd t
  rintro x t M' ⟨rfl, rfl, hd, h0, h1, h5, h6, h7⟩
  show W _ _
  refine W_seq (W_seq (W_seqR (by simp only [runSeq_cons, runSeq_nil, evalArgs_nil, evalArgs_tmp, val1, putT, Tr.get_set_self, Tr.get_set_ne, hd _, ne_eq, Nat.reduceEqDiff, not_false_eq_true, decide_true, Nat.reduceLT, opI_move, opI_eql, Nat.add_zero, h0, h1, h7, p1, opI_fieldQ pp, P0]; rfl) ?_))
  refine W.mono (Q := fun x t2 M2 => x = .normal ∧ Step M0 M2 ∧ Dom t2 95 ∧ t2.get 0 = some v ∧ t2.get 1 = some (.int .i64 w) ∧ t2.get 5 = some (.int .i64 (openN (sps.take (i + 1)) : Nat)) ∧ t2.get 7 = some (.int .i64 i) ∧ ∃ sv, t2.get 6 = some sv ∧ MyRow M0 M2 sv (ofL (sps.take (i + 1)) w)) ?_ ?_
  · by_cases c1 : sps[i].who = w
    · have c1' : (sps[i].who == w) = true := by simpa using c1
      refine W_cond (b := true) (by simp only [PArg.eval, Tr.get_set_self, Tr.get_set_ne, hd _, ne_eq, Nat.reduceEqDiff, not_false_eq_true, decide_true, Nat.reduceLT, c1']; try rfl) (fun _ => ?_) (fun hb => by cases hb)
      obtain ⟨sv', M1, e1, e2, s1, r1⟩ := hr.push (s := sps[i]) st hva hla (by omega)
      refine W_seqR (by simp only [runSeq_cons, runSeq_nil, evalArgs_nil, evalArgs_tmp, val1, putT, Tr.get_set_self, Tr.get_set_ne, hd _, ne_eq, Nat.reduceEqDiff, not_false_eq_true, decide_true, Nat.reduceLT, opI_move, h0, h6, h7, p1, P10, e1, e2]; rfl) ?_
      exact ⟨rfl, s1, by ((repeat (with_reducible apply Dom.set)); exact hd), by simp only [Tr.get_set_ne, ne_eq, Nat.reduceEqDiff, not_false_eq_true, h0], by simp only [Tr.get_set_ne, ne_eq, Nat.reduceEqDiff, not_false_eq_true, h1], by simp only [Tr.get_set_ne, ne_eq, Nat.reduceEqDiff, not_false_eq_true, h5], by simp only [Tr.get_set_ne, ne_eq, Nat.reduceEqDiff, not_false_eq_true, h7], _, by simp only [Tr.get_set_self, Tr.get_set_ne, hd _, ne_eq, Nat.reduceEqDiff, not_false_eq_true, decide_true, Nat.reduceLT]; try rfl, by rw [hfs, if_pos c1]; exact r1⟩
    · have c1' : (sps[i].who == w) = false := by simpa using c1
      refine W_cond (b := false) (by simp only [PArg.eval, Tr.get_set_self, Tr.get_set_ne, hd _, ne_eq, Nat.reduceEqDiff, not_false_eq_true, decide_true, Nat.reduceLT, c1']; try rfl) (fun hb => by cases hb) (fun _ => W_skip ?_)
      exact ⟨rfl, st, by ((repeat (with_reducible apply Dom.set)); exact hd), by simp only [Tr.get_set_ne, ne_eq, Nat.reduceEqDiff, not_false_eq_true, h0], by simp only [Tr.get_set_ne, ne_eq, Nat.reduceEqDiff, not_false_eq_true, h1], by simp only [Tr.get_set_ne, ne_eq, Nat.reduceEqDiff, not_false_eq_true, h5], by simp only [Tr.get_set_ne, ne_eq, Nat.reduceEqDiff, not_false_eq_true, h7], _, by simp only [Tr.get_set_ne, ne_eq, Nat.reduceEqDiff, not_false_eq_true, h6]; try rfl, by rw [hfs, if_neg c1, List.append_nil]; exact hr⟩
  clear h0 h1 h5 h6 h7 hd hr sv lv p1 pl ps P3 P0 P10
  rintro x t2 M2 ⟨rfl, st2, hd, h0, h1, h5, h7, sv, h6, hr⟩
  clear st t
  show W _ _
  refine W_seq (W_seqR (by simp only [runSeq_cons, runSeq_nil, evalArgs_nil, evalArgs_const, val1, putT, opI_move]; rfl) (W_block (W_loop (fun kk t M' => ∃ (j : Nat) , kk + j = sps.length ∧ Step M0 M' ∧ MyRow M0 M' sv (ofL (sps.take (i + 1)) w) ∧ Dom t 95 ∧ t.get 0 = some v ∧ t.get 1 = some (.int .i64 w) ∧ t.get 5 = some (.int .i64 (openN (sps.take (i + 1)) : Nat)) ∧ t.get 6 = some sv ∧ t.get 7 = some (.int .i64 i) ∧ t.get 8 = some (.int .i64 j)) (k := sps.length) (by omega) ?_ ?_)))
  · exact ⟨0, rfl, st2, hr, by ((repeat (with_reducible apply Dom.set)); exact hd), by simp only [Tr.get_set_ne, ne_eq, Nat.reduceEqDiff, not_false_eq_true, h0], by simp only [Tr.get_set_ne, ne_eq, Nat.reduceEqDiff, not_false_eq_true, h1], by simp only [Tr.get_set_ne, ne_eq, Nat.reduceEqDiff, not_false_eq_true, h5], by simp only [Tr.get_set_ne, ne_eq, Nat.reduceEqDiff, not_false_eq_true, h6], by simp only [Tr.get_set_ne, ne_eq, Nat.reduceEqDiff, not_false_eq_true, h7], by simp only [Tr.get_set_self, hd _, decide_true, Nat.reduceLT]; try rfl⟩
  clear h0 h1 h5 h6 h7 hd hr st2 t2 M2
  intro kk t M ⟨j, hkk, st, hr, hd, h0, h1, h5, h6, h7, h8⟩
  have lv := hv.len M st.grow.g
  refine W_seq (W_seq (W_seqR (by simp only [runSeq_cons, runSeq_nil, evalArgs_nil, evalArgs_tmp, val1, putT, Tr.get_set_self, Tr.get_set_ne, hd _, ne_eq, Nat.reduceEqDiff, not_false_eq_true, decide_true, Nat.reduceLT, opI_move, opI_lss, h0, h8, lv]; rfl) ?_))
  refine W_cond (by simp only [PArg.eval, Tr.get_set_self, Tr.get_set_ne, hd _, ne_eq, Nat.reduceEqDiff, not_false_eq_true, decide_true, Nat.reduceLT]; rfl) (fun hb => W_skip ?_) (fun hb => ?_)
  rotate_left
  · refine W_exit ?_
    show W _ _
    refine W_seqR (by simp only [runSeq_cons, runSeq_nil, evalArgs_nil, evalArgs_tmp, evalArgs_const, val1, putT, Tr.get_set_self, Tr.get_set_ne, hd _, ne_eq, Nat.reduceEqDiff, not_false_eq_true, decide_true, Nat.reduceLT, opI_move, opI_add, h7]; rfl) ?_
    refine ⟨k - 1, by omega, i + 1, sv, by omega, st, hr, by ((repeat (with_reducible apply Dom.set)); exact hd), by simp only [Tr.get_set_ne, ne_eq, Nat.reduceEqDiff, not_false_eq_true, h0], by simp only [Tr.get_set_ne, ne_eq, Nat.reduceEqDiff, not_false_eq_true, h1], by simp only [Tr.get_set_ne, ne_eq, Nat.reduceEqDiff, not_false_eq_true, h5], by simp only [Tr.get_set_ne, ne_eq, Nat.reduceEqDiff, not_false_eq_true, h6], ?_⟩
    simp only [Tr.get_set_self, Tr.get_set_ne, hd _, ne_eq, Nat.reduceEqDiff, not_false_eq_true, decide_true, Nat.reduceLT]
    rw [wrapF_small (by omega) (by omega)]; rfl
  have hjn : j < sps.length := by simpa using hb
  obtain ⟨q, vb, lb, qq, hvb, hlb, hN⟩ := hv.at_ hjn
  obtain ⟨p1, pl, ps⟩ := hM M st.grow.g
  obtain ⟨q1, ql, qs⟩ := hN M st.grow.g
  have P3 := ps 3 _ rfl
  have P10 := pl 0 10 (by omega)
  have Q2 := qs 2 _ rfl
  have Q10 := ql 0 10 (by omega)
  simp only [List.drop_zero, List.take_succ_cons, List.take_zero] at P10 Q10
  obtain ⟨_, M1, ca, s1, rfl⟩ := ahead_ok (s := sps[i]) (u := sps[j]) (va := va) (la := la) (vb := vb) (lb := lb) (d + 3) M st.ok
  have t1 := st.trans s1
  obtain ⟨p1', _, ps'⟩ := hM M1 t1.grow.g
  obtain ⟨q1', _, qs'⟩ := hN M1 t1.grow.g
  have P3' := ps' 3 _ rfl
  have Q2' := qs' 2 _ rfl
  have n0 := held_none st.ok.1
  have n1 := s1.nh M.n (Nat.le_refl _)
  have hr1 := hr.grow st.ok.1 s1.grow
  have fin : ∀ (t' : Tr AV) , Dom t' 95 → t'.get 0 = some v → t'.get 1 = some (.int .i64 w) → t'.get 5 = some (.int .i64 (openN (sps.take (i + 1)) : Nat)) → t'.get 6 = some sv → t'.get 7 = some (.int .i64 i) → t'.get 8 = some (.int .i64 j) → True := fun _ _ _ _ _ _ _ _ => trivial
  by_cases c1 : sps[i].to ≥ 0
  · have hb2 : (decide (sps[i].to ≥ 0 ∧ sps[i].to < sps[j].from_)) = decide (sps[i].to < sps[j].from_) := by simp [c1]
    rw [hb2] at ca
    refine W_seq (W_block (W_seq (W_trace (M' := M1) rfl (by simp only [sameN_self, evalArgs_nil, evalArgs_tmp, evalArgs_const, val1, putT, Tr.get_set_self, Tr.get_set_ne, Tr.isSome_set, hd _, ne_eq, Nat.reduceEqDiff, not_false_eq_true, decide_true, Nat.reduceLT, opI_move, opI_lss, opI_geq, opI_eqBool, opI_callF, opI_pick, Nat.zero_add, trace_nil, trace_read, trace_eff, addR_some, addE_some, Bool.and_true, Bool.not_false, trace_guardR (b := true), beq_self_eq_true, h0, h7, h8, p1, q1, p1', q1', opI_fieldQ pp, opI_fieldQ qq, P10, Q10, ca, P3', Q2', c1, n0, n1, decide_true]; rfl) (by simp [checkRec, isLoad, sameAt, P3, P3', Q2', AV.beq]) rfl ?_)))
    refine W_cond (b := false) (by simp only [PArg.eval, Tr.get_set_self, Tr.get_set_ne, hd _, ne_eq, Nat.reduceEqDiff, not_false_eq_true, decide_true, Nat.reduceLT]; try rfl) (fun hb => by cases hb) (fun _ => W_skip ?_)
    show W _ _
    refine W_seqR (by simp only [runSeq_cons, runSeq_nil, evalArgs_nil, evalArgs_tmp, evalArgs_const, val1, putT, Tr.get_set_self, Tr.get_set_ne, hd _, ne_eq, Nat.reduceEqDiff, not_false_eq_true, decide_true, Nat.reduceLT, opI_move, opI_add, h8]; rfl) ?_
    refine ⟨kk - 1, by omega, j + 1, by omega, t1, hr1, by ((repeat (with_reducible apply Dom.set)); exact hd), by simp only [Tr.get_set_ne, ne_eq, Nat.reduceEqDiff, not_false_eq_true, h0], by simp only [Tr.get_set_ne, ne_eq, Nat.reduceEqDiff, not_false_eq_true, h1], by simp only [Tr.get_set_ne, ne_eq, Nat.reduceEqDiff, not_false_eq_true, h5], by simp only [Tr.get_set_ne, ne_eq, Nat.reduceEqDiff, not_false_eq_true, h6], by simp only [Tr.get_set_ne, ne_eq, Nat.reduceEqDiff, not_false_eq_true, h7], ?_⟩
    simp only [Tr.get_set_self, Tr.get_set_ne, hd _, ne_eq, Nat.reduceEqDiff, not_false_eq_true, decide_true, Nat.reduceLT]
    rw [wrapF_small (by omega) (by omega)]; rfl
  · have hb2 : (decide (sps[i].to ≥ 0 ∧ sps[i].to < sps[j].from_)) = false := by simp [c1]
    rw [hb2] at ca
    refine W_seq (W_block (W_seq (W_trace (M' := M1) rfl (by simp only [sameN_self, evalArgs_nil, evalArgs_tmp, evalArgs_const, val1, putT, Tr.get_set_self, Tr.get_set_ne, Tr.isSome_set, hd _, ne_eq, Nat.reduceEqDiff, not_false_eq_true, decide_true, Nat.reduceLT, opI_move, opI_geq, opI_eqBool, opI_callF, opI_pick, Nat.zero_add, trace_nil, trace_read, trace_eff, addR_some, addE_some, Bool.and_true, Bool.not_true, Bool.not_false, trace_guardR (b := false), Bool.false_beq, h0, h7, h8, p1, q1, p1', opI_fieldQ pp, P10, Q10, ca, P3', c1, n0, n1, decide_false]; rfl) (by simp [checkRec, isLoad, sameAt, P3, P3', AV.beq]) rfl ?_)))
    refine W_cond (b := false) (by simp only [PArg.eval, Tr.get_set_self, Tr.get_set_ne, hd _, ne_eq, Nat.reduceEqDiff, not_false_eq_true, decide_true, Nat.reduceLT]; try rfl) (fun hb => by cases hb) (fun _ => W_skip ?_)
    show W _ _
    refine W_seqR (by simp only [runSeq_cons, runSeq_nil, evalArgs_nil, evalArgs_tmp, evalArgs_const, val1, putT, Tr.get_set_self, Tr.get_set_ne, hd _, ne_eq, Nat.reduceEqDiff, not_false_eq_true, decide_true, Nat.reduceLT, opI_move, opI_add, h8]; rfl) ?_
    refine ⟨kk - 1, by omega, j + 1, by omega, t1, hr1, by ((repeat (with_reducible apply Dom.set)); exact hd), by simp only [Tr.get_set_ne, ne_eq, Nat.reduceEqDiff, not_false_eq_true, h0], by simp only [Tr.get_set_ne, ne_eq, Nat.reduceEqDiff, not_false_eq_true, h1], by simp only [Tr.get_set_ne, ne_eq, Nat.reduceEqDiff, not_false_eq_true, h5], by simp only [Tr.get_set_ne, ne_eq, Nat.reduceEqDiff, not_false_eq_true, h6], by simp only [Tr.get_set_ne, ne_eq, Nat.reduceEqDiff, not_false_eq_true, h7], ?_⟩
    simp only [Tr.get_set_self, Tr.get_set_ne, hd _, ne_eq, Nat.reduceEqDiff, not_false_eq_true, decide_true, Nat.reduceLT]
    rw [wrapF_small (by omega) (by omega)]; rfl
end Go.Proofs.Ytgjamfkmaccgaaa.diary
