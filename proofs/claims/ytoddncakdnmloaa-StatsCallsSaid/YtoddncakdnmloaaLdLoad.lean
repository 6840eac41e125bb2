/- The walk of stats.Load. -/
import Derived.Test.YtoddncakdnmloaaLdOpen
namespace Go.Proofs.Ytoddncakdnmloaa.diary
open Go Go.Vx

theorem openP_some {es : List Ev} (hn : es.length ≤ 1000) {sps : List Sp} (h : openP es = some sps) : RightP es ∧ sps = refSp es es.length ∧ (0 < es.length → (ev es (es.length - 1)).step ≤ 2147483647) := by
  have hs := run_spec (es := es) hn
  unfold openP at h
  cases hr : runP 0 init es with
  | none => rw [hr] at h; cases h
  | some st =>
    rw [hr] at h hs
    simp only at h hs
    split at h
    · cases h
    · cases h
      exact ⟨hs.1, hs.2, fun hl => by omega⟩
theorem openP_none {es : List Ev} (hn : es.length ≤ 1000) (h : openP es = none) : ¬ RightP es ∨ (0 < es.length ∧ (ev es (es.length - 1)).step > 2147483647) := by
  have hs := run_spec (es := es) hn
  unfold openP at h
  cases hr : runP 0 init es with
  | none => rw [hr] at hs; exact .inl hs
  | some st =>
    rw [hr] at h
    simp only at h
    split at h
    · rename_i hc; exact .inr hc
    · cases h
theorem wrapF_mid {n : Int} (h1 : -9223372036854775808 ≤ n) (h2 : n < 9223372036854775808) : wrapF .i64 n = n := wrapF_id (by show (-9223372036854775808 : Int) ≤ n; omega) (by show n ≤ (9223372036854775807 : Int); omega)
theorem solo_new {M0 M : AMem} {k : IntKind} {v : AV} {xs : List Int} (h : Solo M0 M k v xs) (hok : Ok M) : ∀ n c g, v ≠ .slice (some (M.n, 0)) n c g := by
  intro n c g he
  rcases h with ⟨rfl, _⟩ | ⟨b, gr, sz, rfl, h1, h2, _⟩
  · cases he
  · cases he
    have := get_lt hok h2
    omega
theorem fold_take {es : List Ev} {m : List Int} {sps : List Sp} {i : Nat} (hi : i < sps.length) : (sps.take (i + 1)).foldl (moreS es) m = moreS es ((sps.take i).foldl (moreS es) m) sps[i] := by
  rw [List.take_add_one, List.foldl_append, List.getElem?_eq_getElem hi]
  rfl

set_option maxRecDepth 20000 in
set_option maxHeartbeats 8000000 in
theorem load_ok {v : AV} {es : List Ev} (d : Nat) (M0 : AMem) (hok : Okg M0) (hv : InEvs M0.g v es) (hn : es.length ≤ 1000) :
    Ans (callF tbl code 100000 (d + 6)) 11 [v] M0 fun r M' => Step M0 M' ∧ match openP es with
      | none => r = .tuple [.slice none 0 0 false, .int .i64 13]
      | some sps => if es.length = 0 then r = .tuple [.slice none 0 0 false, .int .i64 0] else if lenS es > 65536 then r = .tuple [.slice none 0 0 false, .int .i64 14] else ∃ out, r = .tuple [out, .int .i64 0] ∧ IRow M' .i64 out (loadP es sps) := by
  refine Ans_of (tbl_none (by decide) _) (show code 11 = some c11 from by kernel_rfl) (by simp) fun t hd ha => ?_
  have h0 := ha 0 _ rfl
  clear ha
  refine W_seq (W_seqR (by simp only [runSeq_cons, runSeq_nil, evalArgs_nil, evalArgs_const, val1, putT, opI_move]; rfl) ?_)
  obtain ⟨r, M1, c1, s1, hp⟩ := open_ok d M0 hok hv hn
  have lv := hv.len M1 s1.grow.g
  have z0 : ((0 : Int) != 0) = false := rfl
  have z13 : ((13 : Int) != 0) = true := rfl
  cases ho : openP es with
  | none =>
    rw [ho] at hp
    simp only at hp
    subst hp
    refine W_seq (W_seqR (by simp only [runSeq_cons, runSeq_nil, evalArgs_nil, evalArgs_tmp, val1, putT, Tr.get_set_self, Tr.get_set_ne, hd _, ne_eq, Nat.reduceEqDiff, not_false_eq_true, decide_true, Nat.reduceLT, opI_move, opI_extract, opI_callF, h0, c1, List.getElem?_cons_zero, List.getElem?_cons_succ]; rfl) ?_)
    refine W_seq (W_block (W_seq (W_seqR (by simp only [runSeq_cons, runSeq_nil, evalArgs_nil, evalArgs_tmp, evalArgs_const, val1, putT, Tr.get_set_self, Tr.get_set_ne, hd _, ne_eq, Nat.reduceEqDiff, not_false_eq_true, decide_true, Nat.reduceLT, opI_move, opI_neq, z13]; rfl) ?_)))
    refine W_cond (b := true) (by simp only [PArg.eval, Tr.get_set_self, Tr.get_set_ne, hd _, ne_eq, Nat.reduceEqDiff, not_false_eq_true, decide_true, Nat.reduceLT]; try rfl) (fun _ => ?_) (fun hb => by cases hb)
    refine W_seq (W_seqR (by simp only [runSeq_cons, runSeq_nil, evalArgs_nil, evalArgs_tmp, evalArgs_const, val1, putT, Tr.get_set_self, Tr.get_set_ne, hd _, ne_eq, Nat.reduceEqDiff, not_false_eq_true, decide_true, Nat.reduceLT, opI_move]; rfl) (W_ret ?_))
    exact ⟨_, fin_tmp2 (by simp only [Tr.get_set_self, Tr.get_set_ne, Option.isSome_some, hd _, ne_eq, Nat.reduceEqDiff, not_false_eq_true, decide_true, Nat.reduceLT]; try rfl) (by simp only [Tr.get_set_self, Tr.get_set_ne, Tr.isSome_set, Option.isSome_some, hd _, ne_eq, Nat.reduceEqDiff, not_false_eq_true, decide_true, Nat.reduceLT]; try rfl), s1, rfl⟩
  | some sps =>
    rw [ho] at hp
    simp only at hp
    obtain ⟨sv, rfl, hsp⟩ := hp
    obtain ⟨hR, hsps, hlast⟩ := openP_some hn ho
    clear ho
    have hS := sorted_of hR.1
    have hin : ∀ s ∈ sps, SpIn es s := by rw [hsps]; exact refSp_in _ (Nat.le_refl _)
    have hcnt : sps.length ≤ es.length := by rw [hsps]; exact refSp_len
    clear hsps
    refine W_seq (W_seqR (by simp only [runSeq_cons, runSeq_nil, evalArgs_nil, evalArgs_tmp, val1, putT, Tr.get_set_self, Tr.get_set_ne, hd _, ne_eq, Nat.reduceEqDiff, not_false_eq_true, decide_true, Nat.reduceLT, opI_move, opI_extract, opI_callF, h0, c1, List.getElem?_cons_zero, List.getElem?_cons_succ]; rfl) ?_)
    refine W_seq (W_block (W_seq (W_seqR (by simp only [runSeq_cons, runSeq_nil, evalArgs_nil, evalArgs_tmp, evalArgs_const, val1, putT, Tr.get_set_self, Tr.get_set_ne, hd _, ne_eq, Nat.reduceEqDiff, not_false_eq_true, decide_true, Nat.reduceLT, opI_move, opI_neq, z0]; rfl) ?_)))
    refine W_cond (b := false) (by simp only [PArg.eval, Tr.get_set_self, Tr.get_set_ne, hd _, ne_eq, Nat.reduceEqDiff, not_false_eq_true, decide_true, Nat.reduceLT]; try rfl) (fun hb => by cases hb) (fun _ => W_seq (W_seqR (by simp only [runSeq_cons, runSeq_nil, evalArgs_nil, evalArgs_tmp, evalArgs_const, val1, putT, Tr.get_set_self, Tr.get_set_ne, hd _, ne_eq, Nat.reduceEqDiff, not_false_eq_true, decide_true, Nat.reduceLT, opI_move, opI_eql, h0, lv]; rfl) ?_))
    by_cases hl : es.length = 0
    · have e0 : ((es.length : Int) == 0) = true := by rw [hl]; rfl
      refine W_cond (b := true) (by simp only [PArg.eval, Tr.get_set_self, Tr.get_set_ne, hd _, ne_eq, Nat.reduceEqDiff, not_false_eq_true, decide_true, Nat.reduceLT, e0]) (fun _ => ?_) (fun hb => by cases hb)
      refine W_seq (W_seqR (by simp only [runSeq_cons, runSeq_nil, evalArgs_nil, evalArgs_const, val1, putT, opI_move]; rfl) (W_ret ?_))
      refine ⟨_, fin_tmp2 (by simp only [Tr.get_set_self, Tr.get_set_ne, Option.isSome_some, hd _, ne_eq, Nat.reduceEqDiff, not_false_eq_true, decide_true, Nat.reduceLT]; try rfl) (by simp only [Tr.get_set_self, Tr.get_set_ne, Tr.isSome_set, Option.isSome_some, hd _, ne_eq, Nat.reduceEqDiff, not_false_eq_true, decide_true, Nat.reduceLT]; try rfl), s1, ?_⟩
      simp only [if_pos hl]
      rfl
    have e0 : ((es.length : Int) == 0) = false := by simpa using hl
    refine W_cond (b := false) (by simp only [PArg.eval, Tr.get_set_self, Tr.get_set_ne, hd _, ne_eq, Nat.reduceEqDiff, not_false_eq_true, decide_true, Nat.reduceLT, e0]) (fun hb => by cases hb) (fun _ => W_skip ?_)
    simp only [if_neg hl]
    show W _ _
    have hlast := hlast (by omega)
    have hfirst := (hR.1 0 (by omega)).1
    obtain ⟨p, pp, p1, _, p2⟩ := hv.at_ (i := 0) (by omega) M1 s1.grow.g
    have P0 := p2 0 _ rfl
    have p1' : opI (.indexAddrS 10) [v, .int .i64 0] M1 = some (.val (padd p 0) M1) := p1
    have wl : wrapF .i64 ((es.length : Int) - 1) = ((es.length - 1 : Nat) : Int) := by rw [wrapF_small (by omega) (by omega)]; omega
    obtain ⟨q, qq, q1, _, q2⟩ := hv.at_ (i := es.length - 1) (by omega) M1 s1.grow.g
    have Q0 := q2 0 _ rfl
    have hlen0 := place_lt hS (i := 0) (by omega)
    obtain ⟨N, hN⟩ : ∃ N : Nat, lenS es = N := ⟨(lenS es).toNat, by omega⟩
    have wS : wrapF .i64 ((ev es (es.length - 1)).step - (ev es 0).step) = (N : Int) := by
      rw [← hN]
      unfold lenS at hlen0 ⊢
      exact wrapF_small (by omega) (by omega)
    refine W_seq (W_seqR (by simp only [runSeq_cons, runSeq_nil, evalArgs_nil, evalArgs_tmp, evalArgs_const, val1, putT, Tr.get_set_self, Tr.get_set_ne, hd _, ne_eq, Nat.reduceEqDiff, not_false_eq_true, decide_true, Nat.reduceLT, opI_move, Nat.add_zero, h0, p1', opI_fieldQ pp, P0]; rfl) ?_)
    refine W_seq (W_seqR (by simp only [runSeq_cons, runSeq_nil, evalArgs_nil, evalArgs_tmp, evalArgs_const, val1, putT, Tr.get_set_self, Tr.get_set_ne, hd _, ne_eq, Nat.reduceEqDiff, not_false_eq_true, decide_true, Nat.reduceLT, opI_move, opI_sub, Nat.add_zero, h0, lv, wl, q1, opI_fieldQ qq, Q0, wS]; rfl) ?_)
    refine W_seq (W_seq (W_seqR (by simp only [runSeq_cons, runSeq_nil, evalArgs_nil, evalArgs_tmp, evalArgs_const, val1, putT, Tr.get_set_self, Tr.get_set_ne, hd _, ne_eq, Nat.reduceEqDiff, not_false_eq_true, decide_true, Nat.reduceLT, opI_move, opI_gtr]; rfl) ?_))
    by_cases hbig : lenS es > 65536
    · have eb : decide ((N : Int) > 65536) = true := decide_eq_true (by omega)
      refine W_cond (b := true) (by simp only [PArg.eval, Tr.get_set_self, Tr.get_set_ne, hd _, ne_eq, Nat.reduceEqDiff, not_false_eq_true, decide_true, Nat.reduceLT, eb]) (fun _ => ?_) (fun hb => by cases hb)
      refine W_seq (W_seqR (by simp only [runSeq_cons, runSeq_nil, evalArgs_nil, evalArgs_const, val1, putT, opI_move]; rfl) (W_ret ?_))
      refine ⟨_, fin_tmp2 (by simp only [Tr.get_set_self, Tr.get_set_ne, Option.isSome_some, hd _, ne_eq, Nat.reduceEqDiff, not_false_eq_true, decide_true, Nat.reduceLT]; try rfl) (by simp only [Tr.get_set_self, Tr.get_set_ne, Tr.isSome_set, Option.isSome_some, hd _, ne_eq, Nat.reduceEqDiff, not_false_eq_true, decide_true, Nat.reduceLT]; try rfl), s1, ?_⟩
      simp only [if_pos hbig]
      rfl
    have eb : decide ((N : Int) > 65536) = false := decide_eq_false (by omega)
    refine W_cond (b := false) (by simp only [PArg.eval, Tr.get_set_self, Tr.get_set_ne, hd _, ne_eq, Nat.reduceEqDiff, not_false_eq_true, decide_true, Nat.reduceLT, eb]) (fun hb => by cases hb) (fun _ => W_skip ?_)
    simp only [if_neg hbig]
    show W _ _
    have wN : wrapF .i64 ((N : Int) + 1) = ((N + 1 : Nat) : Int) := by rw [wrapF_small (by omega) (by omega)]; rfl
    obtain ⟨M2, f2, s2, _, o2⟩ := make_zeros (Step.refl s1.ok) (n := N + 1) (by omega)
    refine W_seq (W_seqR (by simp only [runSeq_cons, runSeq_nil, evalArgs_nil, evalArgs_tmp, evalArgs_const, val1, putT, Tr.get_set_self, Tr.get_set_ne, hd _, ne_eq, Nat.reduceEqDiff, not_false_eq_true, decide_true, Nat.reduceLT, opI_move, opI_add, wN, f2]; rfl) ?_)
    have rS := hsp.rd s1.ok.1
    have lS := (rS.grow s2.grow).len
    have g1 : M1.g = M0.g := s1.grow.g
    clear f2 p1 p1' P0 q1 Q0 p2 q2 lv c1 hsp
    generalize AV.slice (some (M1.n, 0)) (N + 1) (N + 1) false = vm at *
    refine W_seq (W_seq (W_seqR (by simp only [runSeq_cons, runSeq_nil, evalArgs_nil, evalArgs_tmp, evalArgs_const, val1, putT, Tr.get_set_self, Tr.get_set_ne, hd _, ne_eq, Nat.reduceEqDiff, not_false_eq_true, decide_true, Nat.reduceLT, opI_move, lS]; rfl) (W_block (W_loop (fun k t M' => ∃ (i : Nat) (m : List Int), k + i = sps.length ∧ Step M1 M' ∧ Solo M1 M' .i64 vm m ∧ m = (sps.take i).foldl (moreS es) (List.replicate ((lenS es).toNat + 1) 0) ∧ Small (2 * i) m ∧ Dom t 100 ∧ t.get 0 = some v ∧ t.get 8 = some vm ∧ t.get 6 = some (.int .i64 (ev es 0).step) ∧ t.get 7 = some (.int .i64 N) ∧ t.get 45 = some sv ∧ t.get 46 = some (.int .i64 sps.length) ∧ t.get 47 = some (.int .i64 i)) (k := sps.length) (by omega) ?_ ?_))))
    · refine ⟨0, _, rfl, s2, o2, ?_, Small.zeros, by ((repeat (with_reducible apply Dom.set)); exact hd), by simp only [Tr.get_set_ne, ne_eq, Nat.reduceEqDiff, not_false_eq_true, h0], by simp only [Tr.get_set_self, Tr.get_set_ne, hd _, ne_eq, Nat.reduceEqDiff, not_false_eq_true, decide_true, Nat.reduceLT], by simp only [Tr.get_set_self, Tr.get_set_ne, hd _, ne_eq, Nat.reduceEqDiff, not_false_eq_true, decide_true, Nat.reduceLT], by simp only [Tr.get_set_self, Tr.get_set_ne, hd _, ne_eq, Nat.reduceEqDiff, not_false_eq_true, decide_true, Nat.reduceLT], by simp only [Tr.get_set_self, Tr.get_set_ne, hd _, ne_eq, Nat.reduceEqDiff, not_false_eq_true, decide_true, Nat.reduceLT], by simp only [Tr.get_set_self, Tr.get_set_ne, hd _, ne_eq, Nat.reduceEqDiff, not_false_eq_true, decide_true, Nat.reduceLT], by simp only [Tr.get_set_self, Tr.get_set_ne, hd _, ne_eq, Nat.reduceEqDiff, not_false_eq_true, decide_true, Nat.reduceLT]; rfl⟩
      rw [hN]; rfl
    clear h0 hd lS s2 o2
    intro k t M ⟨i, m, hk, s, o, hm, hsm, hd, h0, h8, h6, h7, h45, h46, h47⟩
    have hml : m.length = N + 1 := by rw [hm, foldS_len, List.length_replicate]; omega
    refine W_seq (W_seqR (by simp only [runSeq_cons, runSeq_nil, evalArgs_nil, evalArgs_tmp, val1, putT, opI_lss, h47, h46]; rfl) (W_seq ?_))
    refine W_cond (by simp only [PArg.eval, Tr.get_set_self, hd _, decide_true, Nat.reduceLT]; rfl) (fun hb => ?_) (fun hb => ?_)
    · have hi : i < sps.length := by simpa using hb
      obtain ⟨els, r1, r2, r3⟩ := rS.grow s.grow
      obtain ⟨e, k1, va, la, rfl, hva, hla⟩ := r3 i _ (List.getElem?_eq_getElem hi)
      have hil : i < els.length := by omega
      obtain ⟨p, pp, p1, p2, _⟩ := r1.at_ hil (by omega)
      replace p2 := p2 0 10 (by omega)
      rw [(List.getElem?_eq_some_iff.1 k1).2] at p2
      simp only [List.drop_zero, List.take_succ_cons, List.take_zero] at p2
      obtain ⟨a, hal, hf, ht⟩ := hin _ (List.getElem_mem hi)
      have hfold := fold_take (es := es) (m := List.replicate ((lenS es).toNat + 1) 0) hi
      rw [← hm] at hfold
      generalize sps[i] = S at *
      have s3 := s.push (k := .cells (spC 0 0 0 0 0 0 (.slice none 0 0 false) 0 0 (.slice none 0 0 false)) 0 true none) (fun _ _ _ _ he => by cases he)
      have g3 := get_push_self (k := .cells (spC 0 0 0 0 0 0 (.slice none 0 0 false) 0 0 (.slice none 0 0 false)) 0 true none) s.ok.1
      obtain ⟨e4, s4, c4, k4⟩ := store_all (n := 10) (new := spC S.who S.nth S.from_ S.to S.kind S.task va S.code S.v la) s3 s.grow.n g3 rfl rfl (spC_one hva.one hla.one)
      have hg4 : Grow M _ := ⟨Nat.le_succ _, fun b hb => (k4 b (by omega)).trans (get_push_old s.ok.1 hb), rfl, fun _ => s4.ok.1⟩
      have o4 := o.grow s.ok.1 hg4
      have hnew := solo_new o s.ok.1
      refine W_skip (W_seq (W_block (W_seq (W_seqR (by simp only [runSeq_cons, runSeq_nil, evalArgs_nil, evalArgs_tmp, val1, putT, Tr.get_set_self, Tr.get_set_ne, hd _, ne_eq, Nat.reduceEqDiff, not_false_eq_true, decide_true, Nat.reduceLT, opI_new, h45, h47, p1, p2, e4]; rfl) ?_))))
      clear p1 p2 e4 s3 g3 k4 o
      generalize (M.push (.cells (spC 0 0 0 0 0 0 (.slice none 0 0 false) 0 0 (.slice none 0 0 false)) 0 true none)).set M.n (.cells (spC S.who S.nth S.from_ S.to S.kind S.task va S.code S.v la) 0 true none) = MB at *
      have L2 := load_own (o := 2) c4 rfl
      rw [hf] at L2
      obtain ⟨q, qq, q1, _, q2⟩ := hv.at_ hal MB (s4.grow.g.trans g1)
      have Q0 := q2 0 _ rfl
      obtain ⟨a1, a2⟩ := place_lt hS hal
      have hA : stp es S.from_ = (ev es a).step := by rw [hf, stp_nat]
      obtain ⟨A, hA'⟩ : ∃ A : Nat, (ev es a).step - (ev es 0).step = A := ⟨((ev es a).step - (ev es 0).step).toNat, by omega⟩
      have hAt : (stp es S.from_ - stp es 0).toNat = A := by rw [hA, stp_zero]; omega
      have wA : wrapF .i64 ((ev es a).step - (ev es 0).step) = (A : Int) := by rw [← hA']; exact wrapF_small a1 (by omega)
      obtain ⟨u, u1, u2, u3⟩ := solo_set s4 o4 (i := A) (by omega)
      obtain ⟨M5, u4, s5, n5, o5, k5⟩ := u3 (m.getD A 0 + 1)
      have b1 := hsm A
      have wX : wrapF .i64 (m.getD A 0 + 1) = m.getD A 0 + 1 := wrapF_mid (by omega) (by omega)
      show W _ _
      refine W_seq (W_seqR (by simp only [runSeq_cons, runSeq_nil, evalArgs_nil, evalArgs_tmp, evalArgs_const, val1, putT, Tr.get_set_self, Tr.get_set_ne, hd _, ne_eq, Nat.reduceEqDiff, not_false_eq_true, decide_true, Nat.reduceLT, opI_move, opI_add, opI_sub, opI_fieldP, Nat.zero_add, Nat.add_zero, h8, h0, h6, L2, q1, opI_fieldQ qq, Q0, wA, u1, u2, wX, u4]; rfl) ?_)
      have c5 := (k5 M.n hnew).trans c4
      have L3 := load_own (o := 3) c5 rfl
      have hm1 : m.set A (m.getD A 0 + 1) = addAt m A 1 := rfl
      rw [hm1] at o5
      have sm1 := hsm.add (k := A) (x := 1) (by omega) (by omega)
      refine W_seq (W_seqR (by simp only [runSeq_cons, runSeq_nil, evalArgs_nil, evalArgs_tmp, evalArgs_const, val1, putT, Tr.get_set_self, Tr.get_set_ne, hd _, ne_eq, Nat.reduceEqDiff, not_false_eq_true, decide_true, Nat.reduceLT, opI_geq, opI_fieldP, Nat.zero_add, L3]; rfl) ?_)
      rcases ht with ht | ⟨b, hab, hbl, ht⟩
      · have eg : decide (S.to ≥ 0) = false := decide_eq_false (by omega)
        refine W_cond (b := false) (by simp only [PArg.eval, Tr.get_set_self, Tr.get_set_ne, hd _, ne_eq, Nat.reduceEqDiff, not_false_eq_true, decide_true, Nat.reduceLT, eg]) (fun hb => by cases hb) (fun _ => W_skip ?_)
        show W _ _
        refine W_seqR (by simp only [runSeq_cons, runSeq_nil, evalArgs_nil, evalArgs_tmp, evalArgs_const, val1, putT, Tr.get_set_self, Tr.get_set_ne, hd _, ne_eq, Nat.reduceEqDiff, not_false_eq_true, decide_true, Nat.reduceLT, opI_move, opI_add, h47]; rfl) ?_
        refine ⟨k - 1, by omega, i + 1, _, by omega, s5, o5, ?_, fun j => ?_, by ((repeat (with_reducible apply Dom.set)); exact hd), by simp only [Tr.get_set_ne, ne_eq, Nat.reduceEqDiff, not_false_eq_true, h0], by simp only [Tr.get_set_ne, ne_eq, Nat.reduceEqDiff, not_false_eq_true, h8], by simp only [Tr.get_set_ne, ne_eq, Nat.reduceEqDiff, not_false_eq_true, h6], by simp only [Tr.get_set_ne, ne_eq, Nat.reduceEqDiff, not_false_eq_true, h7], by simp only [Tr.get_set_ne, ne_eq, Nat.reduceEqDiff, not_false_eq_true, h45], by simp only [Tr.get_set_ne, ne_eq, Nat.reduceEqDiff, not_false_eq_true, h46], ?_⟩
        · rw [hfold]; unfold moreS; rw [if_neg (by omega), hAt]
        · have := sm1 j; omega
        · simp only [Tr.get_set_self, Tr.get_set_ne, hd _, ne_eq, Nat.reduceEqDiff, not_false_eq_true, decide_true, Nat.reduceLT]
          rw [wrapF_small (by omega) (by omega)]; rfl
      · have eg : decide (S.to ≥ 0) = true := decide_eq_true (by omega)
        refine W_cond (b := true) (by simp only [PArg.eval, Tr.get_set_self, Tr.get_set_ne, hd _, ne_eq, Nat.reduceEqDiff, not_false_eq_true, decide_true, Nat.reduceLT, eg]) (fun _ => ?_) (fun hb => by cases hb)
        rw [ht] at L3
        obtain ⟨q', qq', q1', _, q2'⟩ := hv.at_ hbl M5 (s5.grow.g.trans g1)
        have Q0' := q2' 0 _ rfl
        obtain ⟨b1, b2⟩ := place_lt hS hbl
        have hB : stp es S.to = (ev es b).step := by rw [ht, stp_nat]
        obtain ⟨B, hB'⟩ : ∃ B : Nat, (ev es b).step - (ev es 0).step = B := ⟨((ev es b).step - (ev es 0).step).toNat, by omega⟩
        have hBt : (stp es S.to - stp es 0).toNat = B := by rw [hB, stp_zero]; omega
        have wB : wrapF .i64 ((ev es b).step - (ev es 0).step) = (B : Int) := by rw [← hB']; exact wrapF_small b1 (by omega)
        obtain ⟨y, y1, y2, y3⟩ := solo_set s5 o5 (i := B) (by rw [addAt_len]; omega)
        obtain ⟨M6, y4, s6, n6, o6, k6⟩ := y3 ((addAt m A 1).getD B 0 + -1)
        have b3 := sm1 B
        have wY : wrapF .i64 ((addAt m A 1).getD B 0 - 1) = (addAt m A 1).getD B 0 + -1 := by rw [wrapF_mid (by omega) (by omega)]; omega
        refine W_seqR (by simp only [runSeq_cons, runSeq_nil, evalArgs_nil, evalArgs_tmp, evalArgs_const, val1, putT, Tr.get_set_self, Tr.get_set_ne, hd _, ne_eq, Nat.reduceEqDiff, not_false_eq_true, decide_true, Nat.reduceLT, opI_move, opI_sub, opI_fieldP, Nat.zero_add, Nat.add_zero, h8, h0, h6, L3, q1', opI_fieldQ qq', Q0', wB, y1, y2, wY, y4]; rfl) ?_
        have hm2 : (addAt m A 1).set B ((addAt m A 1).getD B 0 + -1) = addAt (addAt m A 1) B (-1) := rfl
        rw [hm2] at o6
        have sm2 := sm1.add (k := B) (x := -1) (by rw [addAt_len]; omega) (by omega)
        show W _ _
        refine W_seqR (by simp only [runSeq_cons, runSeq_nil, evalArgs_nil, evalArgs_tmp, evalArgs_const, val1, putT, Tr.get_set_self, Tr.get_set_ne, hd _, ne_eq, Nat.reduceEqDiff, not_false_eq_true, decide_true, Nat.reduceLT, opI_move, opI_add, h47]; rfl) ?_
        refine ⟨k - 1, by omega, i + 1, _, by omega, s6, o6, ?_, fun j => ?_, by ((repeat (with_reducible apply Dom.set)); exact hd), by simp only [Tr.get_set_ne, ne_eq, Nat.reduceEqDiff, not_false_eq_true, h0], by simp only [Tr.get_set_ne, ne_eq, Nat.reduceEqDiff, not_false_eq_true, h8], by simp only [Tr.get_set_ne, ne_eq, Nat.reduceEqDiff, not_false_eq_true, h6], by simp only [Tr.get_set_ne, ne_eq, Nat.reduceEqDiff, not_false_eq_true, h7], by simp only [Tr.get_set_ne, ne_eq, Nat.reduceEqDiff, not_false_eq_true, h45], by simp only [Tr.get_set_ne, ne_eq, Nat.reduceEqDiff, not_false_eq_true, h46], ?_⟩
        · rw [hfold]; unfold moreS; rw [if_pos (by omega), hAt, hBt]
        · have := sm2 j; omega
        · simp only [Tr.get_set_self, Tr.get_set_ne, hd _, ne_eq, Nat.reduceEqDiff, not_false_eq_true, decide_true, Nat.reduceLT]
          rw [wrapF_small (by omega) (by omega)]; rfl
    refine W_exit ?_
    have hi : i = sps.length := by simp at hb; omega
    rw [hi, List.take_of_length_le (Nat.le_refl _)] at hm
    have hm' : m = moreP es sps := hm
    clear hm h0 h6 h45 h46 h47 hb
    show W _ _
    obtain ⟨M2, f2, s2, _, o2⟩ := make_zeros (Step.refl s.ok) (n := N) (by omega)
    refine W_seq (W_seqR (by simp only [runSeq_cons, runSeq_nil, evalArgs_nil, evalArgs_tmp, val1, putT, Tr.get_set_self, Tr.get_set_ne, hd _, ne_eq, Nat.reduceEqDiff, not_false_eq_true, decide_true, Nat.reduceLT, opI_move, h7, f2]; rfl) ?_)
    refine W_seq (W_seqR (by simp only [runSeq_cons, runSeq_nil, evalArgs_nil, evalArgs_const, val1, putT, opI_move]; rfl) ?_)
    have rM := o.row s.ok.1
    refine W_seq (W_seq (W_seqR (by simp only [runSeq_cons, runSeq_nil, evalArgs_nil, evalArgs_tmp, evalArgs_const, val1, putT, Tr.get_set_self, Tr.get_set_ne, hd _, ne_eq, Nat.reduceEqDiff, not_false_eq_true, decide_true, Nat.reduceLT, opI_move, opI_lenO]; rfl) (W_block (W_loop (fun k t M' => ∃ (i : Nat) (xs : List Int), k + i = N ∧ Step M M' ∧ Solo M M' .i64 (.slice (some (M.n, 0)) N N false) xs ∧ xs.length = N ∧ (∀ j, j < i → xs.getD j 0 = (m.take (j + 1)).sum) ∧ Dom t 100 ∧ t.get 8 = some vm ∧ t.get 11 = some (.slice (some (M.n, 0)) N N false) ∧ t.get 12 = some (.int .i64 (m.take i).sum) ∧ t.get 84 = some (.int .i64 N) ∧ t.get 85 = some (.int .i64 i)) (k := N) (by omega) ?_ ?_))))
    · exact ⟨0, _, rfl, s2, o2, by rw [List.length_replicate], fun j hj => by omega, by ((repeat (with_reducible apply Dom.set)); exact hd), by simp only [Tr.get_set_ne, ne_eq, Nat.reduceEqDiff, not_false_eq_true, h8], by simp only [Tr.get_set_self, Tr.get_set_ne, hd _, ne_eq, Nat.reduceEqDiff, not_false_eq_true, decide_true, Nat.reduceLT], by simp only [Tr.get_set_self, Tr.get_set_ne, hd _, ne_eq, Nat.reduceEqDiff, not_false_eq_true, decide_true, Nat.reduceLT]; rfl, by simp only [Tr.get_set_self, Tr.get_set_ne, hd _, ne_eq, Nat.reduceEqDiff, not_false_eq_true, decide_true, Nat.reduceLT], by simp only [Tr.get_set_self, Tr.get_set_ne, hd _, ne_eq, Nat.reduceEqDiff, not_false_eq_true, decide_true, Nat.reduceLT]; rfl⟩
    clear hd h7 h8 f2 s2 o2
    intro k' t M3 ⟨i', xs, hk', s3, o3, hxl, hxs, hd, h8, h11, h12, h84, h85⟩
    refine W_seq (W_seqR (by simp only [runSeq_cons, runSeq_nil, evalArgs_nil, evalArgs_tmp, val1, putT, opI_lss, h84, h85]; rfl) (W_seq ?_))
    refine W_cond (by simp only [PArg.eval, Tr.get_set_self, hd _, decide_true, Nat.reduceLT]; rfl) (fun hb => ?_) (fun hb => ?_)
    · have hi' : i' < N := by simpa using hb
      obtain ⟨p, pp, p1, p2⟩ := (rM.grow s3.grow).at_ (i := i') (by omega)
      have hsum := take_succ_sum (m := m) (i := i') (by omega)
      have hgd : m[i']'(by omega) = m.getD i' 0 := by rw [List.getD_eq_getElem?_getD, List.getElem?_eq_getElem (by omega)]; rfl
      rw [hgd] at p2
      have bs := Small.sum (m := m) (B := 2 * i) hsm (by omega) (i := i') (by omega)
      have bx := hsm i'
      have hmul : (i' : Int) * (2 * i) ≤ 65536 * 2000 := by
        have h1 : (i' : Int) * (2 * i) ≤ 65536 * (2 * i) := Int.mul_le_mul_of_nonneg_right (by omega) (by omega)
        omega
      have wS' : wrapF .i64 ((m.take i').sum + m.getD i' 0) = (m.take (i' + 1)).sum := by rw [hsum]; exact wrapF_mid (by omega) (by omega)
      obtain ⟨u, u1, u2, u3⟩ := solo_set s3 o3 (i := i') (by omega)
      obtain ⟨M4, u4, s4, n4, o4, k4⟩ := u3 (m.take (i' + 1)).sum
      refine W_skip (W_seq (W_block (W_seq (W_seqR (by simp only [runSeq_cons, runSeq_nil, evalArgs_nil, evalArgs_tmp, val1, putT, Tr.get_set_self, Tr.get_set_ne, hd _, ne_eq, Nat.reduceEqDiff, not_false_eq_true, decide_true, Nat.reduceLT, opI_move, h85]; rfl) ?_))))
      show W _ _
      refine W_seq (W_seqR (by simp only [runSeq_cons, runSeq_nil, evalArgs_nil, evalArgs_tmp, val1, putT, Tr.get_set_self, Tr.get_set_ne, hd _, ne_eq, Nat.reduceEqDiff, not_false_eq_true, decide_true, Nat.reduceLT, opI_move, opI_add, h12, h8, p1, p2, wS']; rfl) ?_)
      refine W_seqR (by simp only [runSeq_cons, runSeq_nil, evalArgs_nil, evalArgs_tmp, val1, putT, Tr.get_set_self, Tr.get_set_ne, hd _, ne_eq, Nat.reduceEqDiff, not_false_eq_true, decide_true, Nat.reduceLT, opI_move, h11, u1, u4]; rfl) ?_
      show W _ _
      refine W_seqR (by simp only [runSeq_cons, runSeq_nil, evalArgs_nil, evalArgs_tmp, evalArgs_const, val1, putT, Tr.get_set_self, Tr.get_set_ne, hd _, ne_eq, Nat.reduceEqDiff, not_false_eq_true, decide_true, Nat.reduceLT, opI_move, opI_add, h85]; rfl) ?_
      refine ⟨k' - 1, by omega, i' + 1, _, by omega, s4, o4, by rw [List.length_set, hxl], fun j hj => ?_, by ((repeat (with_reducible apply Dom.set)); exact hd), by simp only [Tr.get_set_ne, ne_eq, Nat.reduceEqDiff, not_false_eq_true, h8], by simp only [Tr.get_set_ne, ne_eq, Nat.reduceEqDiff, not_false_eq_true, h11], by simp only [Tr.get_set_self, Tr.get_set_ne, hd _, ne_eq, Nat.reduceEqDiff, not_false_eq_true, decide_true, Nat.reduceLT], by simp only [Tr.get_set_ne, ne_eq, Nat.reduceEqDiff, not_false_eq_true, h84], ?_⟩
      · rw [getD_set (by omega)]
        split
        · rename_i he; subst he; rfl
        · exact hxs j (by omega)
      · simp only [Tr.get_set_self, Tr.get_set_ne, hd _, ne_eq, Nat.reduceEqDiff, not_false_eq_true, decide_true, Nat.reduceLT]
        rw [wrapF_small (by omega) (by omega)]; rfl
    refine W_exit ?_
    have hi' : i' = N := by simp at hb; omega
    subst hi'
    show W _ _
    refine W_seq (W_seqR (by simp only [runSeq_cons, runSeq_nil, evalArgs_nil, evalArgs_tmp, evalArgs_const, val1, putT, Tr.get_set_self, Tr.get_set_ne, hd _, ne_eq, Nat.reduceEqDiff, not_false_eq_true, decide_true, Nat.reduceLT, opI_move, h11]; rfl) (W_ret ?_))
    refine ⟨_, fin_tmp2 (by simp only [Tr.get_set_self, Tr.get_set_ne, hd _, ne_eq, Nat.reduceEqDiff, not_false_eq_true, decide_true, Nat.reduceLT]; try rfl) (by simp only [Tr.get_set_self, Tr.get_set_ne, hd _, ne_eq, Nat.reduceEqDiff, not_false_eq_true, decide_true, Nat.reduceLT]; try rfl), s1.trans (s.trans s3), _, rfl, ?_⟩
    have hx : xs = loadP es sps := by
      apply List.ext_getElem
      · rw [loadP_len]; omega
      · intro j h1 h2
        have := hxs j (by omega)
        rw [List.getD_eq_getElem?_getD, List.getElem?_eq_getElem h1] at this
        simp only [loadP, List.getElem_map, List.getElem_range, ← hm']
        exact this
    rw [← hx]
    exact o3.row s3.ok.1
end Go.Proofs.Ytoddncakdnmloaa.diary
