/- The walk of the law StatsLoad. -/
import Derived.Test.YtoddncakdnmloaaLdRef
namespace Go.Proofs.Ytoddncakdnmloaa.diary
open Go Go.Vx

set_option maxRecDepth 20000 in
set_option maxHeartbeats 4000000 in
theorem statsLoad_ok {v : AV} {es : List Ev} (d : Nat) (M0 : AMem) (hok : Okg M0) (hv0 : Evs M0.g v es) :
    Ans (callF tbl code 100000 (d + 7)) 4 [v] M0 fun r _ => r = .bool true := by
  refine Ans_of (tbl_none (by decide) _) (show code 4 = some c4 from by kernel_rfl) (by simp) fun t hd ha => ?_
  have h0 := ha 0 _ rfl
  clear ha
  have haw : callF tbl code 100000 (d + 6) 6 [] M0 = some (.bool true, M0) := rfl
  refine W_seq (W_seqR (by simp only [runSeq_cons, runSeq_nil, evalArgs_nil, evalArgs_const, val1, putT, opI_move]; rfl) (W_seq (W_seq (W_seqR (by simp only [runSeq_cons, runSeq_nil, evalArgs_nil, evalArgs_tmp, val1, putT, Tr.get_set_self, Tr.get_set_ne, hd _, ne_eq, Nat.reduceEqDiff, not_false_eq_true, decide_true, Nat.reduceLT, opI_not, opI_callF, haw]; rfl) ?_))))
  refine W_cond (b := false) (by simp only [PArg.eval, Tr.get_set_self, Tr.get_set_ne, hd _, ne_eq, Nat.reduceEqDiff, not_false_eq_true, decide_true, Nat.reduceLT]; try rfl) (fun hb => by cases hb) (fun _ => W_skip ?_)
  show W _ _
  obtain ⟨_, _, c1, rfl, b, rfl, hb⟩ := big_ok (d + 5) M0 hv0
  rename_i M0
  refine W_seq (W_seq (W_seqR (by simp only [runSeq_cons, runSeq_nil, evalArgs_nil, evalArgs_tmp, val1, putT, Tr.get_set_self, Tr.get_set_ne, hd _, ne_eq, Nat.reduceEqDiff, not_false_eq_true, decide_true, Nat.reduceLT, opI_move, opI_callF, h0, c1]; rfl) ?_))
  cases b with
  | true =>
    refine W_cond (b := true) (by simp only [PArg.eval, Tr.get_set_self, Tr.get_set_ne, hd _, ne_eq, Nat.reduceEqDiff, not_false_eq_true, decide_true, Nat.reduceLT]; try rfl) (fun _ => ?_) (fun hb => by cases hb)
    refine W_seq (W_seqR (by simp only [runSeq_cons, runSeq_nil, evalArgs_nil, evalArgs_const, val1, putT, opI_move]; rfl) (W_ret ?_))
    exact ⟨_, fin_tmp (by simp only [Tr.get_set_self, Tr.get_set_ne, Option.isSome_some, hd _, ne_eq, Nat.reduceEqDiff, not_false_eq_true, decide_true, Nat.reduceLT]; try rfl), rfl⟩
  | false =>
  refine W_cond (b := false) (by simp only [PArg.eval, Tr.get_set_self, Tr.get_set_ne, hd _, ne_eq, Nat.reduceEqDiff, not_false_eq_true, decide_true, Nat.reduceLT]; try rfl) (fun hb => by cases hb) (fun _ => W_skip ?_)
  show W _ _
  obtain ⟨hn, hv⟩ := hb rfl
  obtain ⟨r, M1, c2, s1, hp⟩ := load_ok d M0 hok hv (by omega)
  obtain ⟨_, M2, c3, s2, b, rfl, hb⟩ := may_ok (d + 2) M1 s1.ok (by rw [s1.grow.g]; exact hv) (by omega)
  have t2 := s1.trans s2
  have lv := hv.len M2 t2.grow.g
  have e0 : (((0 : Nat) : Int) == 0) = true := rfl
  have e1 : ((0 : Int) == 0) = true := rfl
  cases ho : openP es with
  | none =>
    rw [ho] at hp
    simp only at hp
    subst hp
    have hbf : b = false := by
      cases b with
      | false => rfl
      | true =>
        obtain ⟨h1, h2⟩ := hb.1 rfl
        rcases openP_none (by omega) ho with h | ⟨h, h3⟩
        · exact absurd h2 h
        · have := h1 (es.length - 1) (by omega); omega
    subst hbf
    refine W_seq (W_seqR (by simp only [runSeq_cons, runSeq_nil, evalArgs_nil, evalArgs_tmp, val1, putT, Tr.get_set_self, Tr.get_set_ne, hd _, ne_eq, Nat.reduceEqDiff, not_false_eq_true, decide_true, Nat.reduceLT, opI_move, opI_extract, opI_callF, h0, c2, List.getElem?_cons_zero, List.getElem?_cons_succ]; rfl) ?_)
    refine W_seq (W_seq (W_seqR (by simp only [runSeq_cons, runSeq_nil, evalArgs_nil, evalArgs_tmp, val1, putT, Tr.get_set_self, Tr.get_set_ne, hd _, ne_eq, Nat.reduceEqDiff, not_false_eq_true, decide_true, Nat.reduceLT, opI_move, opI_not, opI_callF, h0, c3]; rfl) ?_))
    refine W_cond (b := true) (by simp only [PArg.eval, Tr.get_set_self, Tr.get_set_ne, hd _, ne_eq, Nat.reduceEqDiff, not_false_eq_true, decide_true, Nat.reduceLT]; try rfl) (fun _ => ?_) (fun hb => by cases hb)
    refine W_seq (W_seqR (by simp only [runSeq_cons, runSeq_nil, evalArgs_nil, evalArgs_tmp, evalArgs_const, val1, putT, Tr.get_set_self, Tr.get_set_ne, Tr.isSome_set, hd _, ne_eq, Nat.reduceEqDiff, not_false_eq_true, decide_true, Nat.reduceLT, opI_move, opI_eql, opI_lenO, opI_pick, runSeq_guard (b := true), beq_self_eq_true, Bool.not_true, Bool.not_false, e0]; rfl) (W_ret ?_))
    exact ⟨_, fin_tmp (by simp only [Tr.get_set_self, Tr.get_set_ne, Option.isSome_some, hd _, ne_eq, Nat.reduceEqDiff, not_false_eq_true, decide_true, Nat.reduceLT]; try rfl), rfl⟩
  | some sps =>
    rw [ho] at hp
    simp only at hp
    obtain ⟨hR, hsps, hlast⟩ := openP_some (by omega) ho
    clear ho
    have hS := sorted_of hR.1
    have hbt : b = true := hb.2 ⟨fun i hi => by
      have h1 := hS i (es.length - 1) (by omega) (by omega)
      have h2 := hlast (by omega)
      omega, hR⟩
    subst hbt
    by_cases hl : es.length = 0
    · rw [if_pos hl] at hp
      subst hp
      have el : ((es.length : Int) == 0) = true := by rw [hl]; rfl
      refine W_seq (W_seqR (by simp only [runSeq_cons, runSeq_nil, evalArgs_nil, evalArgs_tmp, val1, putT, Tr.get_set_self, Tr.get_set_ne, hd _, ne_eq, Nat.reduceEqDiff, not_false_eq_true, decide_true, Nat.reduceLT, opI_move, opI_extract, opI_callF, h0, c2, List.getElem?_cons_zero, List.getElem?_cons_succ]; rfl) ?_)
      refine W_seq (W_seq (W_seqR (by simp only [runSeq_cons, runSeq_nil, evalArgs_nil, evalArgs_tmp, val1, putT, Tr.get_set_self, Tr.get_set_ne, hd _, ne_eq, Nat.reduceEqDiff, not_false_eq_true, decide_true, Nat.reduceLT, opI_move, opI_not, opI_callF, h0, c3]; rfl) ?_))
      refine W_cond (b := false) (by simp only [PArg.eval, Tr.get_set_self, Tr.get_set_ne, hd _, ne_eq, Nat.reduceEqDiff, not_false_eq_true, decide_true, Nat.reduceLT]; try rfl) (fun hb => by cases hb) (fun _ => W_skip ?_)
      show W _ _
      refine W_seq (W_seq (W_seqR (by simp only [runSeq_cons, runSeq_nil, evalArgs_nil, evalArgs_tmp, evalArgs_const, val1, putT, Tr.get_set_self, Tr.get_set_ne, hd _, ne_eq, Nat.reduceEqDiff, not_false_eq_true, decide_true, Nat.reduceLT, opI_move, opI_eql, h0, lv]; rfl) ?_))
      refine W_cond (b := true) (by simp only [PArg.eval, Tr.get_set_self, Tr.get_set_ne, hd _, ne_eq, Nat.reduceEqDiff, not_false_eq_true, decide_true, Nat.reduceLT, el]; try rfl) (fun _ => ?_) (fun hb => by cases hb)
      refine W_seq (W_seqR (by simp only [runSeq_cons, runSeq_nil, evalArgs_nil, evalArgs_tmp, evalArgs_const, val1, putT, Tr.get_set_self, Tr.get_set_ne, Tr.isSome_set, hd _, ne_eq, Nat.reduceEqDiff, not_false_eq_true, decide_true, Nat.reduceLT, opI_move, opI_eql, opI_lenO, opI_pick, runSeq_guard (b := true), beq_self_eq_true, Bool.not_true, e0]; rfl) (W_ret ?_))
      exact ⟨_, fin_tmp (by simp only [Tr.get_set_self, Tr.get_set_ne, Option.isSome_some, hd _, ne_eq, Nat.reduceEqDiff, not_false_eq_true, decide_true, Nat.reduceLT]; try rfl), rfl⟩
    rw [if_neg hl] at hp
    have hlast := hlast (by omega)
    have hfirst := (hR.1 0 (by omega)).1
    have el : ((es.length : Int) == 0) = false := by simpa using hl
    obtain ⟨p, pp, p1, _, p2⟩ := hv.at_ (i := 0) (by omega) M2 t2.grow.g
    have P0 := p2 0 _ rfl
    have p1' : opI (.indexAddrS 10) [v, .int .i64 0] M2 = some (.val (padd p 0) M2) := p1
    have wl : wrapF .i64 ((es.length : Int) - 1) = ((es.length - 1 : Nat) : Int) := by rw [wrapF_small (by omega) (by omega)]; omega
    obtain ⟨q, qq, q1, _, q2⟩ := hv.at_ (i := es.length - 1) (by omega) M2 t2.grow.g
    have Q0 := q2 0 _ rfl
    have hlen0 := place_lt hS (i := 0) (by omega)
    have wS : wrapF .i64 ((ev es (es.length - 1)).step - (ev es 0).step) = lenS es := by
      unfold lenS at hlen0 ⊢
      exact wrapF_small (by omega) (by omega)
    by_cases hbig : lenS es > 65536
    · rw [if_pos hbig] at hp
      subst hp
      have eb : decide (lenS es > 65536) = true := decide_eq_true hbig
      refine W_seq (W_seqR (by simp only [runSeq_cons, runSeq_nil, evalArgs_nil, evalArgs_tmp, val1, putT, Tr.get_set_self, Tr.get_set_ne, hd _, ne_eq, Nat.reduceEqDiff, not_false_eq_true, decide_true, Nat.reduceLT, opI_move, opI_extract, opI_callF, h0, c2, List.getElem?_cons_zero, List.getElem?_cons_succ]; rfl) ?_)
      refine W_seq (W_seq (W_seqR (by simp only [runSeq_cons, runSeq_nil, evalArgs_nil, evalArgs_tmp, val1, putT, Tr.get_set_self, Tr.get_set_ne, hd _, ne_eq, Nat.reduceEqDiff, not_false_eq_true, decide_true, Nat.reduceLT, opI_move, opI_not, opI_callF, h0, c3]; rfl) ?_))
      refine W_cond (b := false) (by simp only [PArg.eval, Tr.get_set_self, Tr.get_set_ne, hd _, ne_eq, Nat.reduceEqDiff, not_false_eq_true, decide_true, Nat.reduceLT]; try rfl) (fun hb => by cases hb) (fun _ => W_skip ?_)
      show W _ _
      refine W_seq (W_seq (W_seqR (by simp only [runSeq_cons, runSeq_nil, evalArgs_nil, evalArgs_tmp, evalArgs_const, val1, putT, Tr.get_set_self, Tr.get_set_ne, hd _, ne_eq, Nat.reduceEqDiff, not_false_eq_true, decide_true, Nat.reduceLT, opI_move, opI_eql, h0, lv]; rfl) ?_))
      refine W_cond (b := false) (by simp only [PArg.eval, Tr.get_set_self, Tr.get_set_ne, hd _, ne_eq, Nat.reduceEqDiff, not_false_eq_true, decide_true, Nat.reduceLT, el]; try rfl) (fun hb => by cases hb) (fun _ => W_skip ?_)
      show W _ _
      refine W_seq (W_quiet rfl (by simp only [runPure_cons, runPure_nil, ofD_cons, ofD_nil, sameN_self, evalArgs_nil, evalArgs_tmp, evalArgs_const, putT, Tr.get_set_self, Tr.get_set_ne, hd _, ne_eq, Nat.reduceEqDiff, not_false_eq_true, decide_true, Nat.reduceLT, opI_move, opI_sub, Nat.add_zero, h0, lv, wl, q1, opI_fieldQ qq, Q0, p1', opI_fieldQ pp, P0, wS]; rfl) ?_)
      refine W_seq (W_seq (W_seqR (by simp only [runSeq_cons, runSeq_nil, evalArgs_nil, evalArgs_tmp, evalArgs_const, val1, putT, Tr.get_set_self, Tr.get_set_ne, hd _, ne_eq, Nat.reduceEqDiff, not_false_eq_true, decide_true, Nat.reduceLT, opI_move, opI_gtr]; rfl) ?_))
      refine W_cond (b := true) (by simp only [PArg.eval, Tr.get_set_self, Tr.get_set_ne, hd _, ne_eq, Nat.reduceEqDiff, not_false_eq_true, decide_true, Nat.reduceLT, eb]; try rfl) (fun _ => ?_) (fun hb => by cases hb)
      refine W_seq (W_seqR (by simp only [runSeq_cons, runSeq_nil, evalArgs_nil, evalArgs_tmp, evalArgs_const, val1, putT, Tr.get_set_self, Tr.get_set_ne, Tr.isSome_set, hd _, ne_eq, Nat.reduceEqDiff, not_false_eq_true, decide_true, Nat.reduceLT, opI_move, opI_eql, opI_lenO, opI_pick, runSeq_guard (b := true), beq_self_eq_true, Bool.not_true, e0]; rfl) (W_ret ?_))
      exact ⟨_, fin_tmp (by simp only [Tr.get_set_self, Tr.get_set_ne, Option.isSome_some, hd _, ne_eq, Nat.reduceEqDiff, not_false_eq_true, decide_true, Nat.reduceLT]; try rfl), rfl⟩
    rw [if_neg hbig] at hp
    obtain ⟨out, rfl, hout⟩ := hp
    have eb : decide (lenS es > 65536) = false := decide_eq_false hbig
    have hlaw : loadP es sps = loadD es sps (lenS es).toNat := load_law hS (by rw [hsps]; exact refSp_in _ (Nat.le_refl _))
    refine W_seq (W_seqR (by simp only [runSeq_cons, runSeq_nil, evalArgs_nil, evalArgs_tmp, val1, putT, Tr.get_set_self, Tr.get_set_ne, hd _, ne_eq, Nat.reduceEqDiff, not_false_eq_true, decide_true, Nat.reduceLT, opI_move, opI_extract, opI_callF, h0, c2, List.getElem?_cons_zero, List.getElem?_cons_succ]; rfl) ?_)
    refine W_seq (W_seq (W_seqR (by simp only [runSeq_cons, runSeq_nil, evalArgs_nil, evalArgs_tmp, val1, putT, Tr.get_set_self, Tr.get_set_ne, hd _, ne_eq, Nat.reduceEqDiff, not_false_eq_true, decide_true, Nat.reduceLT, opI_move, opI_not, opI_callF, h0, c3]; rfl) ?_))
    refine W_cond (b := false) (by simp only [PArg.eval, Tr.get_set_self, Tr.get_set_ne, hd _, ne_eq, Nat.reduceEqDiff, not_false_eq_true, decide_true, Nat.reduceLT]; try rfl) (fun hb => by cases hb) (fun _ => W_skip ?_)
    show W _ _
    refine W_seq (W_seq (W_seqR (by simp only [runSeq_cons, runSeq_nil, evalArgs_nil, evalArgs_tmp, evalArgs_const, val1, putT, Tr.get_set_self, Tr.get_set_ne, hd _, ne_eq, Nat.reduceEqDiff, not_false_eq_true, decide_true, Nat.reduceLT, opI_move, opI_eql, h0, lv]; rfl) ?_))
    refine W_cond (b := false) (by simp only [PArg.eval, Tr.get_set_self, Tr.get_set_ne, hd _, ne_eq, Nat.reduceEqDiff, not_false_eq_true, decide_true, Nat.reduceLT, el]; try rfl) (fun hb => by cases hb) (fun _ => W_skip ?_)
    show W _ _
    refine W_seq (W_quiet rfl (by simp only [runPure_cons, runPure_nil, ofD_cons, ofD_nil, sameN_self, evalArgs_nil, evalArgs_tmp, evalArgs_const, putT, Tr.get_set_self, Tr.get_set_ne, hd _, ne_eq, Nat.reduceEqDiff, not_false_eq_true, decide_true, Nat.reduceLT, opI_move, opI_sub, Nat.add_zero, h0, lv, wl, q1, opI_fieldQ qq, Q0, p1', opI_fieldQ pp, P0, wS]; rfl) ?_)
    refine W_seq (W_seq (W_seqR (by simp only [runSeq_cons, runSeq_nil, evalArgs_nil, evalArgs_tmp, evalArgs_const, val1, putT, Tr.get_set_self, Tr.get_set_ne, hd _, ne_eq, Nat.reduceEqDiff, not_false_eq_true, decide_true, Nat.reduceLT, opI_move, opI_gtr]; rfl) ?_))
    refine W_cond (b := false) (by simp only [PArg.eval, Tr.get_set_self, Tr.get_set_ne, hd _, ne_eq, Nat.reduceEqDiff, not_false_eq_true, decide_true, Nat.reduceLT, eb]; try rfl) (fun hb => by cases hb) (fun _ => W_skip ?_)
    show W _ _
    refine W_seq (W_seq (W_seqR (by simp only [runSeq_cons, runSeq_nil, evalArgs_nil, evalArgs_tmp, evalArgs_const, val1, putT, Tr.get_set_self, Tr.get_set_ne, hd _, ne_eq, Nat.reduceEqDiff, not_false_eq_true, decide_true, Nat.reduceLT, opI_move, opI_gtr]; rfl) ?_))
    by_cases hmid : lenS es > 3000
    · have em : decide (lenS es > 3000) = true := decide_eq_true hmid
      have lo := (hout.grow s2.grow).len
      rw [loadP_len] at lo
      have en : (((lenS es).toNat : Int) == lenS es) = true := by rw [beq_iff_eq]; omega
      refine W_cond (b := true) (by simp only [PArg.eval, Tr.get_set_self, Tr.get_set_ne, hd _, ne_eq, Nat.reduceEqDiff, not_false_eq_true, decide_true, Nat.reduceLT, em]; try rfl) (fun _ => ?_) (fun hb => by cases hb)
      refine W_seq (W_seqR (by simp only [runSeq_cons, runSeq_nil, evalArgs_nil, evalArgs_tmp, evalArgs_const, val1, putT, Tr.get_set_self, Tr.get_set_ne, Tr.isSome_set, hd _, ne_eq, Nat.reduceEqDiff, not_false_eq_true, decide_true, Nat.reduceLT, opI_move, opI_eql, opI_pick, runSeq_guard (b := true), beq_self_eq_true, Bool.not_true, lo, en]; rfl) (W_ret ?_))
      exact ⟨_, fin_tmp (by simp only [Tr.get_set_self, Tr.get_set_ne, Option.isSome_some, hd _, ne_eq, Nat.reduceEqDiff, not_false_eq_true, decide_true, Nat.reduceLT]; try rfl), rfl⟩
    have em : decide (lenS es > 3000) = false := decide_eq_false hmid
    refine W_cond (b := false) (by simp only [PArg.eval, Tr.get_set_self, Tr.get_set_ne, hd _, ne_eq, Nat.reduceEqDiff, not_false_eq_true, decide_true, Nat.reduceLT, em]; try rfl) (fun hb => by cases hb) (fun _ => W_skip ?_)
    show W _ _
    obtain ⟨rv, M3, c4, s3, href⟩ := refload_ok (d + 4) M2 t2.ok (by rw [t2.grow.g]; exact hv) (by omega) (by omega) hR hlast (by omega)
    have c5 := sameI_ok (d + 5) M3 (hout.grow (s2.trans s3).grow) href (by rw [loadP_len]; omega)
    rw [hlaw, hsps, decide_eq_true rfl] at c5
    refine W_seq (W_seqR (by simp only [runSeq_cons, runSeq_nil, evalArgs_nil, evalArgs_tmp, evalArgs_const, val1, putT, Tr.get_set_self, Tr.get_set_ne, Tr.isSome_set, hd _, ne_eq, Nat.reduceEqDiff, not_false_eq_true, decide_true, Nat.reduceLT, opI_move, opI_eql, opI_callF, opI_pick, runSeq_guard (b := true), beq_self_eq_true, Bool.not_true, h0, c4, c5]; rfl) (W_ret ?_))
    exact ⟨_, fin_tmp (by simp only [Tr.get_set_self, Tr.get_set_ne, Option.isSome_some, hd _, ne_eq, Nat.reduceEqDiff, not_false_eq_true, decide_true, Nat.reduceLT]; try rfl), rfl⟩
end Go.Proofs.Ytoddncakdnmloaa.diary
