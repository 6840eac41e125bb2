/- Many push to a stack and pop from it, as picks say: walked. -/
import Derived.Test.YtldijnabgabehaaSoRun
namespace Go.Proofs.Ytldijnabgabehaa.so
open Go Go.Vx
theorem opI_quoN {a b : Nat} {M : AMem} (hb : b ≠ 0) (h : a < 1000000) : opI (.bin .quo) [.int .i64 a, .int .i64 b] M = some (.val (.int .i64 (a / b : Nat)) M) := by
  have this : ¬ (b : Int) = 0 := by omega
  have hle := Nat.div_le_self a b
  generalize hq : a / b = q at *
  have e : wrapF .i64 ((a : Int).tdiv b) = (q : Int) := by
    have : (a : Int).tdiv b = (q : Int) := by rw [Int.tdiv_eq_ediv_of_nonneg (by omega), ← hq]; rfl
    rw [this]
    exact wrapF_small (by omega) (by omega)
  simp only [opI, binI, intI, if_neg this, e, if_true]
theorem opI_remN {a b : Nat} {M : AMem} (hb : b ≠ 0) : opI (.bin .rem) [.int .i64 a, .int .i64 b] M = some (.val (.int .i64 (a % b : Nat)) M) := by
  have this : ¬ (b : Int) = 0 := by omega
  simp only [opI, binI, intI, if_neg this]
  rfl
structure RG (t : Tr AV) (bm bp bl ba workers next i : Nat) (pv dv : AV) : Prop where
  d : Dom t 154
  r1 : t.get 1 = some (.ptr (some (bm, 0)))
  r2 : t.get 2 = some (.int .i64 workers)
  r3 : t.get 3 = some pv
  r4 : t.get 4 = some (.int .i64 1000)
  r5 : t.get 5 = some (.ptr (some (bp, 0)))
  r12 : t.get 12 = some (.ptr (some (bl, 0)))
  r14 : t.get 14 = some dv
  r15 : t.get 15 = some (.slice (some (ba, 0)) workers workers false)
  r16 : t.get 16 = some (.int .u64 next)
  r17 : t.get 17 = some (.int .i64 i)
set_option maxRecDepth 20000 in
set_option maxHeartbeats 16000000 in
theorem play_ok2 (d : Nat) {n workers : Nat} (hn1 : 1 ≤ n) (hn : n ≤ 4096) (hw1 : 1 ≤ workers) (hw : workers ≤ 4) {M : AMem} (hok : Okg M) (hh : NH M) {bm bc : Nat} (hc : CM M bm bc (cellsOf n (mem0 n))) {picks : List Nat} (hpl : picks.length ≤ 400) {pv : AV} (hp256 : ∀ i, picks.getD i 0 < 256) (hpv : RdI M.g .u8 pv picks.length (fun i => (picks.getD i 0 : Nat))) :
    Ans (callF tblS code 100000 (d + 5)) 7 [ArgP n, .ptr (some (bm, 0)), .int .i64 workers, pv, .int .i64 1000] M fun r M' => ∃ dv, r = .tuple [dv, .bool true] ∧ Ev M M' (· = bc) ∧ CM M' bm bc (cellsOf n (play picks n workers 1000).m) ∧ OwnE (N0 M') M' 5 dv ((play picks n workers 1000).deeds.map encD) ∧ (∀ c, sbOf dv = some c → M.n ≤ c) ∧ PL n workers (picks.length + 100 * workers) (play picks n workers 1000) ∧ ∀ o ∈ (play picks n workers 1000).ws, o = none := by
  refine Ans_of (tblS_none ⟨by decide, by decide⟩ _) (show code 7 = some c7 from by kernel_rfl) (by simp) fun t hd ha => ?_
  have h0 := ha 0 _ rfl
  have h1 := ha 1 _ rfl
  have h2 := ha 2 _ rfl
  have h3 := ha 3 _ rfl
  have h4 := ha 4 _ rfl
  clear ha
  obtain ⟨A, hA, e0, g0, n0⟩ := boxed hok hh [.int .i64 0, .int .i64 n]
  refine W_seq (W_seqR (by simp only [runSeq_cons, runSeq_nil, evalArgs_nil, evalArgs_tmp, evalArgs_const, val1, putT, opI_move, opI_box, cells_agg, h0, hA]; rfl) ?_)
  have hcA := hc.ev hok.1 e0
  obtain ⟨r1, M1, c1, ⟨bl, bw, rfl, hbl, hbw, e1, l1⟩⟩ := loom_ok (d + 3) (n := n) hw1 (show workers ≤ 16 by omega) e0.ok e0.nh hcA
  refine W_seq (W_seqR (by simp only [runSeq_cons, runSeq_nil, evalArgs_nil, evalArgs_tmp, val1, putT, Tr.get_set_self, Tr.get_set_ne, hd _, ne_eq, Nat.reduceEqDiff, not_false_eq_true, decide_true, Nat.reduceLT, opI_move, opI_extract, opI_callF, h1, h2, c1, List.getElem?_cons_zero, List.getElem?_cons_succ]; rfl) ?_)
  refine W_seq (W_seq (W_seqR (by simp only [runSeq_cons, runSeq_nil, evalArgs_nil, evalArgs_tmp, evalArgs_const, val1, putT, Tr.get_set_self, Tr.get_set_ne, hd _, ne_eq, Nat.reduceEqDiff, not_false_eq_true, decide_true, Nat.reduceLT, opI_move, opI_neq, b00]; rfl) ?_))
  refine W_cond (b := false) (by simp only [PArg.eval, Tr.get_set_self, Tr.get_set_ne, hd _, ne_eq, Nat.reduceEqDiff, not_false_eq_true, decide_true, Nat.reduceLT]; try rfl) (fun hb => by cases hb) (fun _ => W_skip ?_)
  show W _ _
  have lit : opI (.sliceLit 0 [] []) [] M1 = some (.val (.slice (some (M1.n, 0)) 0 0 false) (M1.push (.cells [] 0 true none))) := rfl
  obtain ⟨M2, hM2, e2, g2, n2⟩ := boxed e1.ok e1.nh []
  refine W_seq (W_seqR (by simp only [runSeq_cons, runSeq_nil, evalArgs_nil, evalArgs_tmp, val1, putT, Tr.get_set_self, Tr.get_set_ne, hd _, ne_eq, Nat.reduceEqDiff, not_false_eq_true, decide_true, Nat.reduceLT, opI_move, lit, hM2]; rfl) ?_)
  have ms := mk_slice (b := 8) (z := .int .i64 0) (k := workers) (M := M2) (by omega) (by omega)
  have s3 : Step M2 (M2.push (.cells (List.replicate workers (.int .i64 0)) 1 true none)) := (Step.refl e2.ok).push (fun _ _ _ _ he => by cases he)
  have e3 := EvA.of_step s3 e2.nh (fun _ => False)
  have g3 := get_push_self (k := .cells (List.replicate workers (.int .i64 0)) 1 true none) e2.ok.1
  have n3 : (M2.push (.cells (List.replicate workers (.int .i64 0)) 1 true none)).n = M2.n + 1 := push_n
  generalize hM3 : M2.push (.cells (List.replicate workers (.int .i64 0)) 1 true none) = M3 at *
  refine W_seq (W_seqR (by simp only [runSeq_cons, runSeq_nil, evalArgs_nil, evalArgs_tmp, val1, putT, Tr.get_set_self, Tr.get_set_ne, hd _, ne_eq, Nat.reduceEqDiff, not_false_eq_true, decide_true, Nat.reduceLT, opI_move, h2, ms]; rfl) ?_)
  refine W_seq (W_seqR (by simp only [runSeq_cons, runSeq_nil, evalArgs_nil, evalArgs_const, val1, putT, opI_move]; rfl) ?_)
  have lbm := get_lt hok.1 hc.mem
  have lbc := get_lt hok.1 hc.cel
  have lbl : bl < M1.n := l1.ns.2.2.1
  have lbw : bw < M1.n := l1.ns.2.2.2
  have lbx : M.n < M1.n := by have := e1.n; omega
  have fx : FX M3.n M bm bc bl bw M2.n M.n := by
    have h1 := l1.dis
    have hne : M.n ≠ bl ∧ M.n ≠ bw := by
      constructor <;> intro h <;> omega
    exact ⟨hok.1, by omega, lbm, lbc, ⟨by omega, by omega⟩, ⟨by omega, by omega⟩, ⟨by omega, by omega, by omega, by omega⟩, ⟨by omega, by omega, hne.1, hne.2, by omega⟩⟩
  have e13 : EvA M1 M3 (fun _ => False) := e2.trans e3 (fun _ h => h) (fun _ _ h => h)
  have e03 : EvA M M3 (fun _ => False) := ((e0.trans e1 (fun _ h => h) (fun _ _ h => h)).trans e13 (fun _ h => h) (fun _ _ h => h))
  have pr0' : PR n workers M3.n M M3 bm bc bl bw M2.n M.n (.slice (some (M1.n, 0)) 0 0 false) (mem0 n) (List.replicate workers none) [] := by
    refine ⟨⟨List.replicate workers none, l1.move e1.ok.1 (e13.ev e1.ok.1) (fun _ h => h.elim) (fun c _ => by omega) ⟨.inl ?_, .inl ?_, .inl ?_, .inl ?_⟩ (fun c hc => ?_), by simp, fun j w k hj => ?_, fun j hj => ?_⟩, ⟨List.replicate workers 0, by rw [g3, List.map_replicate]; rfl, by simp, fun j w k hj => ?_⟩, ?_, ?_, ?_, fun c hc => ?_, Nat.le_refl _, e3.ok, e3.nh⟩
    · omega
    · omega
    · omega
    · omega
    · rcases hc with hc | hc
      · exact hc
      · simp only [sbOf, Option.some.injEq] at hc; omega
    · have := (List.mem_replicate.1 (List.mem_of_getElem? hj)).2; cases this
    · refine ⟨none, ?_, rfl⟩
      rw [List.getElem?_replicate] at hj ⊢
      split at hj
      · rename_i h; rw [if_pos h]
      · cases hj
    · have := (List.mem_replicate.1 (List.mem_of_getElem? hj)).2; cases this
    · exact ⟨M1.n, false, 0, none, rfl, Nat.zero_le _, (e3.same _ (by omega) (fun h => h)).trans g2, (fun h => by cases h), (fun g h => by cases h), (fun e he => by cases he), rfl⟩
    · exact (e13.same _ lbx (fun h => h)).trans ((e1.same _ (by omega) (fun h => h)).trans g0)
    · exact (e03.ev hok.1).mono fun _ h => h.elim
    · simp only [sbOf, Option.some.injEq] at hc
      omega
  have w100 : wrapF .i64 (100 * (workers : Int)) = ((100 * workers : Nat) : Int) := by rw [wi (by omega) (by omega)]; omega
  have wsum : wrapF .i64 ((picks.length : Int) + ((100 * workers : Nat) : Int)) = ((picks.length + 100 * workers : Nat) : Int) := by rw [wi (by omega) (by omega)]; omega
  refine W_seq (W_seq (W_seqR (by simp only [runSeq_cons, runSeq_nil, evalArgs_nil, evalArgs_const, val1, putT, opI_move]; rfl) (W_block (W_loop (fun k t K => ∃ (i : Nat) (s : PS) (dv : AV), k + i = picks.length + 100 * workers ∧ s = rounds picks workers 1000 (init n workers) (List.range i) ∧ PL n workers i s ∧ RG t bm M.n bl M2.n workers s.next i pv dv ∧ PR n workers M3.n M K bm bc bl bw M2.n M.n dv s.m s.ws (s.deeds.map encD))
    (k := picks.length + 100 * workers) (by omega) ?_ ?_))))
  · exact ⟨0, init n workers, _, rfl, rfl, PL.init hn1, ⟨by ((repeat (with_reducible apply Dom.set)); exact hd), by simp only [Tr.get_set_ne, ne_eq, Nat.reduceEqDiff, not_false_eq_true, h1], by simp only [Tr.get_set_ne, ne_eq, Nat.reduceEqDiff, not_false_eq_true, h2], by simp only [Tr.get_set_ne, ne_eq, Nat.reduceEqDiff, not_false_eq_true, h3], by simp only [Tr.get_set_ne, ne_eq, Nat.reduceEqDiff, not_false_eq_true, h4], by simp only [Tr.get_set_self, Tr.get_set_ne, hd _, ne_eq, Nat.reduceEqDiff, not_false_eq_true, decide_true, Nat.reduceLT]; try rfl, by simp only [Tr.get_set_self, Tr.get_set_ne, hd _, ne_eq, Nat.reduceEqDiff, not_false_eq_true, decide_true, Nat.reduceLT]; try rfl, by simp only [Tr.get_set_self, Tr.get_set_ne, hd _, ne_eq, Nat.reduceEqDiff, not_false_eq_true, decide_true, Nat.reduceLT]; try rfl, by simp only [Tr.get_set_self, Tr.get_set_ne, hd _, ne_eq, Nat.reduceEqDiff, not_false_eq_true, decide_true, Nat.reduceLT]; try rfl, by simp only [Tr.get_set_self, Tr.get_set_ne, hd _, ne_eq, Nat.reduceEqDiff, not_false_eq_true, decide_true, Nat.reduceLT]; rfl, by simp only [Tr.get_set_self, Tr.get_set_ne, hd _, ne_eq, Nat.reduceEqDiff, not_false_eq_true, decide_true, Nat.reduceLT]; rfl⟩, pr0'⟩
  clear h0 h1 h2 h3 h4 hd
  rintro k t K ⟨i, s, dv, hk, hs, hpL, ⟨hd, h1, h2, h3, h4, h5, h12, h14, h15, h16, h17⟩, pr⟩
  have lv := hpv.len K
  refine W_seq (W_seq (W_seqR (by simp only [runSeq_cons, runSeq_nil, evalArgs_nil, evalArgs_tmp, evalArgs_const, val1, putT, Tr.get_set_self, Tr.get_set_ne, hd _, ne_eq, Nat.reduceEqDiff, not_false_eq_true, decide_true, Nat.reduceLT, opI_move, opI_lss, opI_add, h17, h3, h2, lv, opI_mul, w100, wsum]; rfl) ?_))
  refine W_cond (by simp only [PArg.eval, Tr.get_set_self, Tr.get_set_ne, hd _, ne_eq, Nat.reduceEqDiff, not_false_eq_true, decide_true, Nat.reduceLT]; rfl) (fun hb => W_skip ?_) (fun hb => W_exit ?_)
  · have hi : i < picks.length + 100 * workers := by
      have := of_decide_eq_true hb
      omega
    show W _ _
    obtain ⟨p0, hp0⟩ : ∃ x, picks.getD i 0 = x := ⟨_, rfl⟩
    have hwho : whose picks workers i < workers := by
      unfold whose
      split
      · exact Nat.mod_lt _ (by omega)
      · omega
    refine W_seq (W.mono (Q := fun x t' K' => x = .normal ∧ ∃ dv', RG t' bm M.n bl M2.n workers (round picks workers 1000 s i).next i pv dv' ∧ PR n workers M3.n M K' bm bc bl bw M2.n M.n dv' (round picks workers 1000 s i).m (round picks workers 1000 s i).ws ((round picks workers 1000 s i).deeds.map encD)) (W_block ?_) ?_)
    rotate_left
    · clear h1 h2 h3 h4 h5 h12 h14 h15 h16 h17 hd
      rintro x t' K' ⟨rfl, dv', ⟨hd, h1, h2, h3, h4, h5, h12, h14, h15, h16, h17⟩, pr'⟩
      show W _ _
      refine W_seqR (by simp only [runSeq_cons, runSeq_nil, evalArgs_nil, evalArgs_tmp, evalArgs_const, val1, putT, Tr.get_set_self, Tr.get_set_ne, hd _, ne_eq, Nat.reduceEqDiff, not_false_eq_true, decide_true, Nat.reduceLT, opI_move, opI_add, h17]; rfl) ?_
      refine ⟨k - 1, by omega, i + 1, _, dv', by omega, ?_, hpL.round picks 1000, ⟨by ((repeat (with_reducible apply Dom.set)); exact hd), by simp only [Tr.get_set_ne, ne_eq, Nat.reduceEqDiff, not_false_eq_true, h1], by simp only [Tr.get_set_ne, ne_eq, Nat.reduceEqDiff, not_false_eq_true, h2], by simp only [Tr.get_set_ne, ne_eq, Nat.reduceEqDiff, not_false_eq_true, h3], by simp only [Tr.get_set_ne, ne_eq, Nat.reduceEqDiff, not_false_eq_true, h4], by simp only [Tr.get_set_ne, ne_eq, Nat.reduceEqDiff, not_false_eq_true, h5], by simp only [Tr.get_set_ne, ne_eq, Nat.reduceEqDiff, not_false_eq_true, h12], by simp only [Tr.get_set_ne, ne_eq, Nat.reduceEqDiff, not_false_eq_true, h14], by simp only [Tr.get_set_ne, ne_eq, Nat.reduceEqDiff, not_false_eq_true, h15], by simp only [Tr.get_set_ne, ne_eq, Nat.reduceEqDiff, not_false_eq_true, h16], by simp only [Tr.get_set_self, Tr.get_set_ne, hd _, ne_eq, Nat.reduceEqDiff, not_false_eq_true, decide_true, Nat.reduceLT]; rw [wi (by omega) (by omega)]; rfl⟩, pr'⟩
      rw [List.range_succ, rounds_append, ← hs]; rfl
    refine W_seq (W_seqR (by simp only [runSeq_cons, runSeq_nil, evalArgs_nil, evalArgs_tmp, val1, putT, Tr.get_set_self, Tr.get_set_ne, hd _, ne_eq, Nat.reduceEqDiff, not_false_eq_true, decide_true, Nat.reduceLT, opI_move, opI_geq, h17, h3, lv]; rfl) ?_)
    refine W_seq (W_seqR (by simp only [runSeq_cons, runSeq_nil, evalArgs_nil, evalArgs_const, val1, putT, opI_move]; rfl) ?_)
    -- who it is
    refine W_seq (W.mono (Q := fun x t' K' => x = .normal ∧ K' = K ∧ RG t' bm M.n bl M2.n workers s.next i pv dv ∧ t'.get 18 = some (.bool (decide ((i : Int) ≥ picks.length))) ∧ t'.get 19 = some (.int .i64 (whose picks workers i))) ?_ ?_)
    · refine W_seq (W_seqR (by simp only [runSeq_cons, runSeq_nil, evalArgs_nil, evalArgs_tmp, val1, putT, Tr.get_set_self, Tr.get_set_ne, hd _, ne_eq, Nat.reduceEqDiff, not_false_eq_true, decide_true, Nat.reduceLT, opI_move]; rfl) ?_)
      by_cases hl : picks.length ≤ i
      · have ql : decide ((i : Int) ≥ picks.length) = true := decide_eq_true (by omega)
        rw [ql]
        have wsb : wrapF .i64 ((i : Int) - picks.length) = ((i - picks.length : Nat) : Int) := by rw [wi (by omega) (by omega)]; omega
        have qq := opI_quoN (a := i - picks.length) (b := 100) (M := K) (by omega) (by omega)
        have ew : whose picks workers i = (i - picks.length) / 100 := by unfold whose; rw [if_neg (by omega)]
        simp only [Int.cast_ofNat_Int] at qq
        refine W_cond (b := true) (by simp only [PArg.eval, Tr.get_set_self, Tr.get_set_ne, hd _, ne_eq, Nat.reduceEqDiff, not_false_eq_true, decide_true, Nat.reduceLT]; try rfl) (fun _ => ?_) (fun hb => by cases hb)
        refine W_seqR (by simp only [runSeq_cons, runSeq_nil, evalArgs_nil, evalArgs_tmp, evalArgs_const, val1, putT, Tr.get_set_self, Tr.get_set_ne, hd _, ne_eq, Nat.reduceEqDiff, not_false_eq_true, decide_true, Nat.reduceLT, opI_move, opI_sub, h17, h3, lv, wsb, qq]; rfl) ?_
        refine ⟨rfl, rfl, ⟨by ((repeat (with_reducible apply Dom.set)); exact hd), by simp only [Tr.get_set_ne, ne_eq, Nat.reduceEqDiff, not_false_eq_true, h1], by simp only [Tr.get_set_ne, ne_eq, Nat.reduceEqDiff, not_false_eq_true, h2], by simp only [Tr.get_set_ne, ne_eq, Nat.reduceEqDiff, not_false_eq_true, h3], by simp only [Tr.get_set_ne, ne_eq, Nat.reduceEqDiff, not_false_eq_true, h4], by simp only [Tr.get_set_ne, ne_eq, Nat.reduceEqDiff, not_false_eq_true, h5], by simp only [Tr.get_set_ne, ne_eq, Nat.reduceEqDiff, not_false_eq_true, h12], by simp only [Tr.get_set_ne, ne_eq, Nat.reduceEqDiff, not_false_eq_true, h14], by simp only [Tr.get_set_ne, ne_eq, Nat.reduceEqDiff, not_false_eq_true, h15], by simp only [Tr.get_set_ne, ne_eq, Nat.reduceEqDiff, not_false_eq_true, h16], by simp only [Tr.get_set_ne, ne_eq, Nat.reduceEqDiff, not_false_eq_true, h17]⟩, by simp only [Tr.get_set_self, Tr.get_set_ne, hd _, ne_eq, Nat.reduceEqDiff, not_false_eq_true, decide_true, Nat.reduceLT]; try rfl, by simp only [Tr.get_set_self, Tr.get_set_ne, Tr.isSome_set, Option.isSome_some, hd _, ne_eq, Nat.reduceEqDiff, not_false_eq_true, decide_true, Nat.reduceLT]; rw [ew]⟩
      · have ql : decide ((i : Int) ≥ picks.length) = false := decide_eq_false (by omega)
        rw [ql]
        obtain ⟨pp, ip, lp⟩ := hpv.at_ (i := i) (by omega)
        have lpK := lp K pr.ev.g
        have ew : whose picks workers i = picks.getD i 0 % workers := by unfold whose; rw [if_pos (by omega)]
        have hp8 := hp256 i
        have cv : opI (.conv .i64) [.int .u8 ((picks.getD i 0 : Nat) : Int)] K = some (.val (.int .i64 (picks.getD i 0 : Nat)) K) := by
          show some (SR.val (.int .i64 (wrapF .i64 ((picks.getD i 0 : Nat) : Int))) K) = _
          rw [wi (by omega) (by omega)]
        have rm := opI_remN (a := picks.getD i 0) (b := workers) (M := K) (by omega)
        refine W_cond (b := false) (by simp only [PArg.eval, Tr.get_set_self, Tr.get_set_ne, hd _, ne_eq, Nat.reduceEqDiff, not_false_eq_true, decide_true, Nat.reduceLT]; try rfl) (fun hb => by cases hb) (fun _ => ?_)
        refine W_seqR (by simp only [runSeq_cons, runSeq_nil, evalArgs_nil, evalArgs_tmp, val1, putT, Tr.get_set_self, Tr.get_set_ne, hd _, ne_eq, Nat.reduceEqDiff, not_false_eq_true, decide_true, Nat.reduceLT, opI_move, h17, h3, h2, ip, lpK, cv, rm]; rfl) ?_
        refine ⟨rfl, rfl, ⟨by ((repeat (with_reducible apply Dom.set)); exact hd), by simp only [Tr.get_set_ne, ne_eq, Nat.reduceEqDiff, not_false_eq_true, h1], by simp only [Tr.get_set_ne, ne_eq, Nat.reduceEqDiff, not_false_eq_true, h2], by simp only [Tr.get_set_ne, ne_eq, Nat.reduceEqDiff, not_false_eq_true, h3], by simp only [Tr.get_set_ne, ne_eq, Nat.reduceEqDiff, not_false_eq_true, h4], by simp only [Tr.get_set_ne, ne_eq, Nat.reduceEqDiff, not_false_eq_true, h5], by simp only [Tr.get_set_ne, ne_eq, Nat.reduceEqDiff, not_false_eq_true, h12], by simp only [Tr.get_set_ne, ne_eq, Nat.reduceEqDiff, not_false_eq_true, h14], by simp only [Tr.get_set_ne, ne_eq, Nat.reduceEqDiff, not_false_eq_true, h15], by simp only [Tr.get_set_ne, ne_eq, Nat.reduceEqDiff, not_false_eq_true, h16], by simp only [Tr.get_set_ne, ne_eq, Nat.reduceEqDiff, not_false_eq_true, h17]⟩, by simp only [Tr.get_set_self, Tr.get_set_ne, hd _, ne_eq, Nat.reduceEqDiff, not_false_eq_true, decide_true, Nat.reduceLT]; try rfl, by simp only [Tr.get_set_self, Tr.get_set_ne, Tr.isSome_set, Option.isSome_some, hd _, ne_eq, Nat.reduceEqDiff, not_false_eq_true, decide_true, Nat.reduceLT]; rw [ew]⟩
    clear h1 h2 h3 h4 h5 h12 h14 h15 h16 h17 hd
    rintro x t' K' ⟨rfl, rfl, ⟨hd, h1, h2, h3, h4, h5, h12, h14, h15, h16, h17⟩, h18, h19⟩
    show W _ _
    obtain ⟨vs, l0, fit⟩ := pr.lm
    obtain ⟨who, hwe⟩ : ∃ x, whose picks workers i = x := ⟨_, rfl⟩
    rw [hwe] at h19 hwho
    have hwl : who < s.ws.length := by rw [hpL.wl]; exact hwho
    refine W_seq (W.mono (Q := fun x t' K' => (x = .exit 1 ∧ round picks workers 1000 s i = s ∧ RG t' bm M.n bl M2.n workers s.next i pv dv ∧ PR n workers M3.n M K' bm bc bl bw M2.n M.n dv s.m s.ws (s.deeds.map encD)) ∨
      (x = .normal ∧ ∃ (s' : PS) (w : Wk) (k : Nat) (dv' : AV), s'.ws[who]? = some (some (w, k)) ∧ round picks workers 1000 s i = pick s' i who w k ∧ over w = false ∧ PI n s' ∧ Bd n (i + 1) i s'.m ∧ BdW n (i + 1) i w ∧ RG t' bm M.n bl M2.n workers s'.next i pv dv' ∧ t'.get 19 = some (.int .i64 who) ∧ PR n workers M3.n M K' bm bc bl bw M2.n M.n dv' s'.m s'.ws (s'.deeds.map encD))) ?_ ?_)
    · cases hws : s.ws[who]? with
      | none => rw [List.getElem?_eq_none_iff] at hws; omega
      | some o => cases o with
        | some q =>
          obtain ⟨w, k⟩ := q
          obtain ⟨dd, hdd, hfit⟩ := hpL.pi.fits who w k hws
          have hvw := fit.2.1 who w k hws
          obtain ⟨rb, K1, cb, rfl, f1, l1'⟩ := busy_ok (d + 2) pr.ok pr.nh l0 hvw
          have hbz : bz (some w) = true := by simp [bz, hfit.2.1]
          rw [hbz] at cb
          refine W_seq (W_seqR (by simp only [runSeq_cons, runSeq_nil, evalArgs_nil, evalArgs_tmp, val1, putT, Tr.get_set_self, Tr.get_set_ne, hd _, ne_eq, Nat.reduceEqDiff, not_false_eq_true, decide_true, Nat.reduceLT, opI_move, opI_not, opI_callF, h12, h19, cb, Bool.not_true]; rfl) ?_)
          refine W_cond (b := false) (by simp only [PArg.eval, Tr.get_set_self, Tr.get_set_ne, hd _, ne_eq, Nat.reduceEqDiff, not_false_eq_true, decide_true, Nat.reduceLT]; try rfl) (fun hb => by cases hb) (fun _ => W_skip ?_)
          refine .inr ⟨rfl, s, w, k, dv, hws, ?_, hfit.2.1, hpL.pi, hpL.bd, hpL.bdw who w k hws, ⟨by ((repeat (with_reducible apply Dom.set)); exact hd), by simp only [Tr.get_set_ne, ne_eq, Nat.reduceEqDiff, not_false_eq_true, h1], by simp only [Tr.get_set_ne, ne_eq, Nat.reduceEqDiff, not_false_eq_true, h2], by simp only [Tr.get_set_ne, ne_eq, Nat.reduceEqDiff, not_false_eq_true, h3], by simp only [Tr.get_set_ne, ne_eq, Nat.reduceEqDiff, not_false_eq_true, h4], by simp only [Tr.get_set_ne, ne_eq, Nat.reduceEqDiff, not_false_eq_true, h5], by simp only [Tr.get_set_ne, ne_eq, Nat.reduceEqDiff, not_false_eq_true, h12], by simp only [Tr.get_set_ne, ne_eq, Nat.reduceEqDiff, not_false_eq_true, h14], by simp only [Tr.get_set_ne, ne_eq, Nat.reduceEqDiff, not_false_eq_true, h15], by simp only [Tr.get_set_ne, ne_eq, Nat.reduceEqDiff, not_false_eq_true, h16], by simp only [Tr.get_set_ne, ne_eq, Nat.reduceEqDiff, not_false_eq_true, h17]⟩, by simp only [Tr.get_set_ne, ne_eq, Nat.reduceEqDiff, not_false_eq_true, h19], pr.quiet fx f1 ⟨vs, l1', fit⟩⟩
          unfold Go.Proofs.Ytldijnabgabehaa.so.round
          rw [hwe, hws]
        | none =>
          obtain ⟨o, hvo, hbz⟩ := fit.2.2 who hws
          obtain ⟨rb, K1, cb, rfl, f1, l1'⟩ := busy_ok (d + 2) pr.ok pr.nh l0 hvo
          rw [hbz] at cb
          have pr1 := pr.quiet fx f1 ⟨vs, l1', fit⟩
          refine W_seq (W_seqR (by simp only [runSeq_cons, runSeq_nil, evalArgs_nil, evalArgs_tmp, val1, putT, Tr.get_set_self, Tr.get_set_ne, hd _, ne_eq, Nat.reduceEqDiff, not_false_eq_true, decide_true, Nat.reduceLT, opI_move, opI_not, opI_callF, h12, h19, cb, Bool.not_false]; rfl) ?_)
          refine W_cond (b := true) (by simp only [PArg.eval, Tr.get_set_self, Tr.get_set_ne, hd _, ne_eq, Nat.reduceEqDiff, not_false_eq_true, decide_true, Nat.reduceLT]; try rfl) (fun _ => ?_) (fun hb => by cases hb)
          have lenr : opI .lenS [dv] K1 = some (.val (.int .i64 s.deeds.length) K1) := by
            have := (pr1.row.row pr1.ok.1).len
            rwa [List.length_map] at this
          by_cases hl : picks.length ≤ i
          · have ql : decide ((i : Int) ≥ picks.length) = true := decide_eq_true (by omega)
            rw [ql] at h18
            refine W_seq (W_seq (W_seqR (by simp only [runSeq_cons, runSeq_nil, evalArgs_nil, evalArgs_tmp, evalArgs_const, val1, putT, Tr.get_set_self, Tr.get_set_ne, Tr.isSome_set, hd _, ne_eq, Nat.reduceEqDiff, not_false_eq_true, decide_true, Nat.reduceLT, opI_move, opI_pick, runSeq_guard (b := true), Bool.true_beq, h18]; rfl) ?_))
            refine W_cond (b := true) (by simp only [PArg.eval, Tr.get_set_self, Tr.get_set_ne, hd _, ne_eq, Nat.reduceEqDiff, not_false_eq_true, decide_true, Nat.reduceLT]; try rfl) (fun _ => W_exit ?_) (fun hb => by cases hb)
            refine .inl ⟨rfl, ?_, ⟨by ((repeat (with_reducible apply Dom.set)); exact hd), by simp only [Tr.get_set_ne, ne_eq, Nat.reduceEqDiff, not_false_eq_true, h1], by simp only [Tr.get_set_ne, ne_eq, Nat.reduceEqDiff, not_false_eq_true, h2], by simp only [Tr.get_set_ne, ne_eq, Nat.reduceEqDiff, not_false_eq_true, h3], by simp only [Tr.get_set_ne, ne_eq, Nat.reduceEqDiff, not_false_eq_true, h4], by simp only [Tr.get_set_ne, ne_eq, Nat.reduceEqDiff, not_false_eq_true, h5], by simp only [Tr.get_set_ne, ne_eq, Nat.reduceEqDiff, not_false_eq_true, h12], by simp only [Tr.get_set_ne, ne_eq, Nat.reduceEqDiff, not_false_eq_true, h14], by simp only [Tr.get_set_ne, ne_eq, Nat.reduceEqDiff, not_false_eq_true, h15], by simp only [Tr.get_set_ne, ne_eq, Nat.reduceEqDiff, not_false_eq_true, h16], by simp only [Tr.get_set_ne, ne_eq, Nat.reduceEqDiff, not_false_eq_true, h17]⟩, pr1⟩
            unfold Go.Proofs.Ytldijnabgabehaa.so.round
            rw [hwe, hws]
            exact if_pos (.inl hl)
          have ql : decide ((i : Int) ≥ picks.length) = false := decide_eq_false (by omega)
          rw [ql] at h18
          by_cases hm : s.deeds.length = 1000
          · have qm : ((s.deeds.length : Int) == 1000) = true := by rw [hm]; rfl
            refine W_seq (W_seq (W_seqR (by simp only [runSeq_cons, runSeq_nil, evalArgs_nil, evalArgs_tmp, evalArgs_const, val1, putT, Tr.get_set_self, Tr.get_set_ne, Tr.isSome_set, hd _, ne_eq, Nat.reduceEqDiff, not_false_eq_true, decide_true, Nat.reduceLT, opI_move, opI_eql, opI_pick, runSeq_guard (b := false), beq_self_eq_true, h18, h14, h4, lenr, qm]; rfl) ?_))
            refine W_cond (b := true) (by simp only [PArg.eval, Tr.get_set_self, Tr.get_set_ne, hd _, ne_eq, Nat.reduceEqDiff, not_false_eq_true, decide_true, Nat.reduceLT]; try rfl) (fun _ => W_exit ?_) (fun hb => by cases hb)
            refine .inl ⟨rfl, ?_, ⟨by ((repeat (with_reducible apply Dom.set)); exact hd), by simp only [Tr.get_set_ne, ne_eq, Nat.reduceEqDiff, not_false_eq_true, h1], by simp only [Tr.get_set_ne, ne_eq, Nat.reduceEqDiff, not_false_eq_true, h2], by simp only [Tr.get_set_ne, ne_eq, Nat.reduceEqDiff, not_false_eq_true, h3], by simp only [Tr.get_set_ne, ne_eq, Nat.reduceEqDiff, not_false_eq_true, h4], by simp only [Tr.get_set_ne, ne_eq, Nat.reduceEqDiff, not_false_eq_true, h5], by simp only [Tr.get_set_ne, ne_eq, Nat.reduceEqDiff, not_false_eq_true, h12], by simp only [Tr.get_set_ne, ne_eq, Nat.reduceEqDiff, not_false_eq_true, h14], by simp only [Tr.get_set_ne, ne_eq, Nat.reduceEqDiff, not_false_eq_true, h15], by simp only [Tr.get_set_ne, ne_eq, Nat.reduceEqDiff, not_false_eq_true, h16], by simp only [Tr.get_set_ne, ne_eq, Nat.reduceEqDiff, not_false_eq_true, h17]⟩, pr1⟩
            unfold Go.Proofs.Ytldijnabgabehaa.so.round
            rw [hwe, hws]
            exact if_pos (.inr hm)
          have qm : ((s.deeds.length : Int) == 1000) = false := by
            rw [beq_eq_false_iff_ne]; omega
          refine W_seq (W_seq (W_seqR (by simp only [runSeq_cons, runSeq_nil, evalArgs_nil, evalArgs_tmp, evalArgs_const, val1, putT, Tr.get_set_self, Tr.get_set_ne, Tr.isSome_set, hd _, ne_eq, Nat.reduceEqDiff, not_false_eq_true, decide_true, Nat.reduceLT, opI_move, opI_eql, opI_pick, runSeq_guard (b := false), beq_self_eq_true, h18, h14, h4, lenr, qm]; rfl) ?_))
          refine W_cond (b := false) (by simp only [PArg.eval, Tr.get_set_self, Tr.get_set_ne, hd _, ne_eq, Nat.reduceEqDiff, not_false_eq_true, decide_true, Nat.reduceLT]; try rfl) (fun hb => by cases hb) (fun _ => W_skip ?_)
          show W _ _
          obtain ⟨pp, ip, lp⟩ := hpv.at_ (i := i) (by omega)
          have lpK := lp K1 pr1.ev.g
          generalize hput : decide (120 ≤ picks.getD i 0) = put
          have qg : decide (((picks.getD i 0 : Nat) : Int) ≥ 120) = put := by
            rw [← hput]; exact decide_eq_decide.2 (by omega)
          have bld : opI (.build [.int .i64 0, .int .i64 0, .bool false, .int .u64 0, .int .i64 0] [(0, 1), (1, 1), (2, 1)]) [.int .i64 i, .int .i64 (-1), .bool put] K1 = some (.val (.agg [.int .i64 i, .int .i64 (-1), .bool put, .int .u64 0, .int .i64 0]) K1) := rfl
          obtain ⟨K2, st2, f2, g2', n2'⟩ := fill_new (z := [.int .i64 0, .int .i64 0, .bool false, .int .u64 0, .int .i64 0]) (new := [.int .i64 i, .int .i64 (-1), .bool put, .int .u64 0, .int .i64 0]) (n := 5) pr1.ok pr1.nh rfl rfl rfl
          refine W_seq (W_seqR (by simp only [runSeq_cons, runSeq_nil, evalArgs_nil, evalArgs_tmp, evalArgs_const, val1, putT, Tr.get_set_self, Tr.get_set_ne, hd _, ne_eq, Nat.reduceEqDiff, not_false_eq_true, decide_true, Nat.reduceLT, opI_move, opI_geq, opI_new, h17, h3, ip, lpK, qg, bld, st2]; rfl) ?_)
          have pr2 := pr1.new fx f2
          have LB2 := load_agg (n := 2) pr2.box rfl
          obtain ⟨⟨S0, nw0, st0⟩, S1, nw1, st1⟩ := starts n s.next hn1 hn
          obtain ⟨K3, b3, ρ3, c3, a3, seen3, own3⟩ := call_new nw1 f2.ok rfl (by decide) (d + 3)
          have f3 : EvA K2 K3 (fun _ => False) := EvA.mono (EvA.of_after a3 f2.ok f2.nh) (fun _ h => by simp at h)
          refine W_seq (W_seqR (by simp only [runSeq_cons, runSeq_nil, evalArgs_nil, evalArgs_tmp, val1, putT, Tr.get_set_self, Tr.get_set_ne, hd _, ne_eq, Nat.reduceEqDiff, not_false_eq_true, decide_true, Nat.reduceLT, opI_move, opI_callF, h5, LB2, c3]; rfl) ?_)
          have g3' : K3.get K1.n = some (.cells [.int .i64 i, .int .i64 (-1), .bool put, .int .u64 0, .int .i64 0] 0 true none) := (f3.same _ n2' (fun h => h)).trans g2'
          have ldp : opI (.load false 1) [.ptr (some (K1.n, 2))] K3 = some (.val (.bool put) K3) := load_own g3' rfl
          have f13 : EvA K1 K3 (fun c => K1.n ≤ c) := f2.trans f3 (fun _ h => h.elim) (fun _ _ h => h.elim)
          have n13 : K1.n < K3.n := get_lt f3.ok.1 g3'
          refine W_seq (W.mono (Q := fun x t' K' => x = .normal ∧ ∃ b ρ S, RG t' bm M.n bl M2.n workers (if put then s.next + 1 else s.next) i pv dv ∧ t'.get 19 = some (.int .i64 who) ∧ t'.get 20 = some (.ptr (some (K1.n, 0))) ∧ t'.get 21 = some (.ptr (some (b, 0))) ∧ Seen K' b ρ S ∧ St n (first put s.next) S ∧ (∀ c ∈ ρ, K1.n < c) ∧ EvA K1 K' (fun c => K1.n ≤ c) ∧
            K'.get K1.n = some (.cells (encD ⟨i, none, put, if put then s.next else 0, 0⟩) 0 true none)) ?_ ?_)
          · refine W_seq (W_seqR (by simp only [runSeq_cons, runSeq_nil, evalArgs_nil, evalArgs_tmp, val1, putT, Tr.get_set_self, Tr.get_set_ne, hd _, ne_eq, Nat.reduceEqDiff, not_false_eq_true, decide_true, Nat.reduceLT, opI_fieldP, Nat.zero_add, ldp]; rfl) ?_)
            cases put with
            | true =>
              refine W_cond (b := true) (by simp only [PArg.eval, Tr.get_set_self, Tr.get_set_ne, hd _, ne_eq, Nat.reduceEqDiff, not_false_eq_true, decide_true, Nat.reduceLT]; try rfl) (fun _ => ?_) (fun hb => by cases hb)
              obtain ⟨u1, u2, u3, u4⟩ := store1 (step0 f3.ok f3.nh) (Nat.zero_le _) g3' (x := .int .u64 s.next) ⟨rfl, rfl⟩ (o := 3) (by simp)
              have f4 : EvA K3 (K3.set K1.n (.cells ([AV.int .i64 i, .int .i64 (-1), .bool true, .int .u64 0, .int .i64 0].set 3 (.int .u64 s.next)) 0 true none)) (· = K1.n) := ⟨Nat.le_of_eq set_n.symm, set_g, fun x _ hx => u4 x hx, u2.ok, step_nh u2 rfl⟩
              refine W_seq (W_seqR (by simp only [runSeq_cons, runSeq_nil, evalArgs_nil, evalArgs_tmp, val1, putT, Tr.get_set_self, Tr.get_set_ne, hd _, ne_eq, Nat.reduceEqDiff, not_false_eq_true, decide_true, Nat.reduceLT, opI_move, opI_fieldP, Nat.zero_add, h16, u1]; rfl) ?_)
              have n4 : (K3.set K1.n (.cells ([AV.int .i64 i, .int .i64 (-1), .bool true, .int .u64 0, .int .i64 0].set 3 (.int .u64 s.next)) 0 true none)).n = K3.n := set_n
              generalize hK4 : K3.set K1.n (.cells ([AV.int .i64 i, .int .i64 (-1), .bool true, .int .u64 0, .int .i64 0].set 3 (.int .u64 s.next)) 0 true none) = K4 at *
              have hnx := hpL.nx
              have wnx : wrapF .u64 ((s.next : Int) + 1) = ((s.next + 1 : Nat) : Int) := by rw [wu (by omega) (by omega)]; omega
              refine W_seq (W_seqR (by simp only [runSeq_cons, runSeq_nil, evalArgs_nil, evalArgs_tmp, evalArgs_const, val1, putT, Tr.get_set_self, Tr.get_set_ne, hd _, ne_eq, Nat.reduceEqDiff, not_false_eq_true, decide_true, Nat.reduceLT, opI_move, opI_add, h16, wnx]; rfl) ?_)
              have lbp : K4.get M.n = some (.cells [.int .i64 0, .int .i64 n] 0 true none) := by
                have q2 := (f3.same M.n (get_lt f2.ok.1 pr2.box) (fun h => h)).trans pr2.box
                have q3 := get_lt pr1.ok.1 pr1.box
                exact (f4.same M.n (get_lt f3.ok.1 q2) (by omega)).trans q2
              have LB4 := load_agg (n := 2) lbp rfl
              have ldv : opI (.load false 1) [.ptr (some (K1.n, 3))] K4 = some (.val (.int .u64 s.next) K4) := load_own u3 rfl
              obtain ⟨K5, b5, ρ5, c5, a5, seen5, own5⟩ := call_new nw0 f4.ok rfl (by decide) (d + 3)
              have f5 : EvA K4 K5 (fun _ => False) := EvA.mono (EvA.of_after a5 f4.ok f4.nh) (fun _ h => by simp at h)
              refine W_seqR (by simp only [runSeq_cons, runSeq_nil, evalArgs_nil, evalArgs_tmp, val1, putT, Tr.get_set_self, Tr.get_set_ne, hd _, ne_eq, Nat.reduceEqDiff, not_false_eq_true, decide_true, Nat.reduceLT, opI_move, opI_callF, opI_fieldP, Nat.zero_add, h5, LB4, ldv, c5]; rfl) ?_
              refine ⟨rfl, b5, ρ5, S0, ⟨by ((repeat (with_reducible apply Dom.set)); exact hd), by simp only [Tr.get_set_ne, ne_eq, Nat.reduceEqDiff, not_false_eq_true, h1], by simp only [Tr.get_set_ne, ne_eq, Nat.reduceEqDiff, not_false_eq_true, h2], by simp only [Tr.get_set_ne, ne_eq, Nat.reduceEqDiff, not_false_eq_true, h3], by simp only [Tr.get_set_ne, ne_eq, Nat.reduceEqDiff, not_false_eq_true, h4], by simp only [Tr.get_set_ne, ne_eq, Nat.reduceEqDiff, not_false_eq_true, h5], by simp only [Tr.get_set_ne, ne_eq, Nat.reduceEqDiff, not_false_eq_true, h12], by simp only [Tr.get_set_ne, ne_eq, Nat.reduceEqDiff, not_false_eq_true, h14], by simp only [Tr.get_set_ne, ne_eq, Nat.reduceEqDiff, not_false_eq_true, h15], by simp only [Tr.get_set_self, Tr.get_set_ne, hd _, ne_eq, Nat.reduceEqDiff, not_false_eq_true, decide_true, Nat.reduceLT]; rfl, by simp only [Tr.get_set_ne, ne_eq, Nat.reduceEqDiff, not_false_eq_true, h17]⟩, by simp only [Tr.get_set_ne, ne_eq, Nat.reduceEqDiff, not_false_eq_true, h19], by simp only [Tr.get_set_self, Tr.get_set_ne, hd _, ne_eq, Nat.reduceEqDiff, not_false_eq_true, decide_true, Nat.reduceLT], by simp only [Tr.get_set_self, Tr.get_set_ne, Tr.isSome_set, Option.isSome_some, hd _, ne_eq, Nat.reduceEqDiff, not_false_eq_true, decide_true, Nat.reduceLT]; try rfl, seen5, st0, fun c hc => ?_, ?_, ?_⟩
              · have := own5 c hc; omega
              · exact (f13.trans f4 (fun _ h => h) (fun _ _ h => Nat.le_of_eq h.symm)).trans f5 (fun _ h => h) (fun _ _ h => h.elim)
              · rw [f5.same _ (by omega) (fun h => h), u3]; rfl
            | false =>
              refine W_cond (b := false) (by simp only [PArg.eval, Tr.get_set_self, Tr.get_set_ne, hd _, ne_eq, Nat.reduceEqDiff, not_false_eq_true, decide_true, Nat.reduceLT]; try rfl) (fun hb => by cases hb) (fun _ => W_skip ?_)
              refine ⟨rfl, b3, ρ3, S1, ⟨by ((repeat (with_reducible apply Dom.set)); exact hd), by simp only [Tr.get_set_ne, ne_eq, Nat.reduceEqDiff, not_false_eq_true, h1], by simp only [Tr.get_set_ne, ne_eq, Nat.reduceEqDiff, not_false_eq_true, h2], by simp only [Tr.get_set_ne, ne_eq, Nat.reduceEqDiff, not_false_eq_true, h3], by simp only [Tr.get_set_ne, ne_eq, Nat.reduceEqDiff, not_false_eq_true, h4], by simp only [Tr.get_set_ne, ne_eq, Nat.reduceEqDiff, not_false_eq_true, h5], by simp only [Tr.get_set_ne, ne_eq, Nat.reduceEqDiff, not_false_eq_true, h12], by simp only [Tr.get_set_ne, ne_eq, Nat.reduceEqDiff, not_false_eq_true, h14], by simp only [Tr.get_set_ne, ne_eq, Nat.reduceEqDiff, not_false_eq_true, h15], by simp only [Tr.get_set_ne, ne_eq, Nat.reduceEqDiff, not_false_eq_true, h16]; rfl, by simp only [Tr.get_set_ne, ne_eq, Nat.reduceEqDiff, not_false_eq_true, h17]⟩, by simp only [Tr.get_set_ne, ne_eq, Nat.reduceEqDiff, not_false_eq_true, h19], by simp only [Tr.get_set_self, Tr.get_set_ne, hd _, ne_eq, Nat.reduceEqDiff, not_false_eq_true, decide_true, Nat.reduceLT], by simp only [Tr.get_set_self, Tr.get_set_ne, hd _, ne_eq, Nat.reduceEqDiff, not_false_eq_true, decide_true, Nat.reduceLT]; try rfl, seen3, st1, fun c hc => ?_, f13, g3'⟩
              have := own3 c hc; omega
          clear h1 h2 h3 h4 h5 h12 h14 h15 h16 h17 h19 h18 hd
          rintro x t' K4 ⟨rfl, b, ρ, S, ⟨hd, h1, h2, h3, h4, h5, h12, h14, h15, h16, h17⟩, h19, h20, h21, seen, hst, hρ, f4, g4⟩
          show W _ _
          obtain ⟨dn, hdn⟩ : ∃ x : Deed, (⟨i, none, put, if put then s.next else 0, 0⟩ : Deed) = x := ⟨_, rfl⟩
          rw [hdn] at g4
          obtain ⟨at_, a1, a2, a3'⟩ := pr1.ats
          have lba := get_lt pr1.ok.1 a1
          have b1 : K4.get M2.n = _ := (f4.same M2.n lba (by omega)).trans a1
          obtain ⟨db, hdb, hdbl⟩ := pr1.sb
          have row4 : OwnE (N0 K4) K4 5 dv (s.deeds.map encD) := OwnE.eva pr1.row rfl pr1.ok.1 f4 (fun c hc hz => by rw [hdb] at hc; cases hc; omega)
          have lenr4 : opI .lenS [dv] K4 = some (.val (.int .i64 s.deeds.length) K4) := by
            have := (row4.row f4.ok.1).len
            rwa [List.length_map] at this
          obtain ⟨u1, u2, u3, u4⟩ := store1 (step0 f4.ok f4.nh) (Nat.zero_le _) b1 (x := .int .i64 s.deeds.length) ⟨rfl, rfl⟩ (o := who) (by rw [List.length_map, a2]; exact hwho)
          have f5 : EvA K4 (K4.set M2.n (.cells ((at_.map fun (x : Nat) => AV.int .i64 (x : Int)).set who (.int .i64 s.deeds.length)) 1 true none)) (· = M2.n) := ⟨Nat.le_of_eq set_n.symm, set_g, fun x _ hx => u4 x hx, u2.ok, step_nh u2 rfl⟩
          refine W_seq (W_seqR (by simp only [runSeq_cons, runSeq_nil, evalArgs_nil, evalArgs_tmp, val1, putT, Tr.get_set_self, Tr.get_set_ne, hd _, ne_eq, Nat.reduceEqDiff, not_false_eq_true, decide_true, Nat.reduceLT, opI_move, h15, h19, h14, lenr4, ix1 hwho, u1]; rfl) ?_)
          have n5 : (K4.set M2.n (.cells ((at_.map fun (x : Nat) => AV.int .i64 (x : Int)).set who (.int .i64 s.deeds.length)) 1 true none)).n = K4.n := set_n
          generalize hK5 : K4.set M2.n (.cells ((at_.map fun (x : Nat) => AV.int .i64 (x : Int)).set who (.int .i64 s.deeds.length)) 1 true none) = K5 at *
          have row5 : OwnE (N0 K5) K5 5 dv (s.deeds.map encD) := OwnE.eva row4 rfl f4.ok.1 f5 (fun c hc h => (pr1.dvn c hc).2.2.2.1 h)
          have hN3 : M3.n ≤ K1.n := pr1.n1
          have l14 : K1.n < K4.n := get_lt f4.ok.1 g4
          have g5 : K5.get K1.n = _ := (f5.same K1.n l14 (by omega)).trans g4
          have LD := load_agg (n := 5) g5 rfl
          have hdl := hpL.dl
          obtain ⟨K6, g6, p1, p2, p3, p4, p5, p6, p7⟩ := push_el (bytes := 40) (x := .agg (encD dn)) (z := [.int .i64 0, .int .i64 0, .bool false, .int .u64 0, .int .i64 0]) (step0 f5.ok f5.nh) (.inl row5) rfl rfl (by omega) rfl (by rw [List.length_map]; omega) (by rw [List.length_map]; omega)
          rw [List.length_map] at p2 p4
          simp only [cells_agg] at p1 p2 p4
          obtain ⟨dv', hdv'⟩ : ∃ x, AV.slice (some (K5.n + 1, 0)) (s.deeds.length + 1) (s.deeds.length + 1) true = x := ⟨_, rfl⟩
          have sbd : sbOf dv' = some (K5.n + 1) := by rw [← hdv']; rfl
          rw [hdv'] at p2 p4
          refine W_seq (W_seqR (by simp only [runSeq_cons, runSeq_nil, evalArgs_nil, evalArgs_tmp, val1, putT, Tr.get_set_self, Tr.get_set_ne, hd _, ne_eq, Nat.reduceEqDiff, not_false_eq_true, decide_true, Nat.reduceLT, opI_move, h14, h20, LD, p1, p2]; rfl) ?_)
          have nh6 : NH K6 := step_nh p3 rfl
          have ev6 : Ev K5 K6 (fun c => sbOf dv = some c) := ⟨by omega, p3.grow.g, fun b k hb hg hz => p5 b k hb hg hz, p3.ok, nh6⟩
          have X6 : Ev K1 K6 (fun c => c = M2.n ∨ sbOf dv = some c ∨ K1.n ≤ c) := ((f4.ev pr1.ok.1).trans (f5.ev f4.ok.1) (fun _ h => .inr (.inr h)) (fun _ _ h => .inl h) pr1.ok.1).trans ev6 (fun _ h => h) (fun _ _ h => .inr (.inl h)) pr1.ok.1
          have seen6 : Seen K6 b ρ S := (seen.keep (f5.ev f4.ok.1) (fun c hc h => by have := hρ c hc; omega)).keep ev6 (fun c hc h => by
            have := hρ c hc
            rw [hdb] at h; cases h; omega)
          have lρ : ∀ c ∈ ρ, c < K4.n := seen.lt f4.ok.1
          have hns : AA M3.n dv' bm ∧ AA M3.n dv' bc ∧ AA M3.n dv' bl ∧ AA M3.n dv' bw := ⟨.inl (by have := fx.hm; have := fx.n1; omega), .inl (by have := fx.hc; have := fx.n1; omega), .inl fx.hl.2, .inl fx.hw.2⟩
          have lm6 : LM n (fun c => AA M3.n dv' c ∨ c ∈ ρ) K6 bm bc bl bw (cellsOf n s.m) vs := by
            refine l1'.move pr1.ok.1 X6 (fun c hc => ?_) (fun c hc => ?_) ⟨.inl hns.1, .inl hns.2.1, .inl hns.2.2.1, .inl hns.2.2.2⟩ (fun c hc => ?_)
            · rcases hc with hc | hc | hc
              · have h1 := fx.hm; have h2 := fx.hc; have h3 := fx.ha
                exact ⟨fun _ => .inl (by omega), by omega, by omega, by omega, by omega⟩
              · have h1 := pr1.dvn c hc; have h2 := fx.hm; have h3 := fx.hc
                exact ⟨fun _ => .inr hc, by omega, by omega, h1.2.1, h1.2.2.1⟩
              · have h1 := fx.hm; have h2 := fx.hc; have h3 := fx.hl; have h4 := fx.hw; have h5 := fx.n1
                exact ⟨fun h => by omega, by omega, by omega, by omega, by omega⟩
            · rcases hc with (hc | hc) | hc
              · exact .inl (.inl hc)
              · rw [sbd] at hc; cases hc; exact .inr (by omega)
              · exact .inr (by have := hρ c hc; omega)
            · rcases hc with (hc | hc) | hc
              · omega
              · rw [sbd] at hc; cases hc; omega
              · have := lρ c hc; omega
          obtain ⟨r7, K7, c7, rfl, f7, l7⟩ := start_ok (d + 1) p3.ok nh6 lm6 hns seen6 hst (fun c hc h => by
            rcases h with h | h
            · have := hρ c hc; omega
            · rw [sbd] at h; cases h; have := lρ _ hc; omega) hvo hbz
          refine W_seq (W_seqR (by simp only [runSeq_cons, runSeq_nil, evalArgs_nil, evalArgs_tmp, evalArgs_const, val1, putT, Tr.get_set_self, Tr.get_set_ne, hd _, ne_eq, Nat.reduceEqDiff, not_false_eq_true, decide_true, Nat.reduceLT, opI_move, opI_neq, opI_callF, h12, h19, h21, c7, b00]; rfl) ?_)
          refine W_cond (b := false) (by simp only [PArg.eval, Tr.get_set_self, Tr.get_set_ne, hd _, ne_eq, Nat.reduceEqDiff, not_false_eq_true, decide_true, Nat.reduceLT]; try rfl) (fun hb => by cases hb) (fun _ => W_skip ?_)
          have hbg : begin_ s i who put = ⟨s.m, s.ws.set who (some (first put s.next, s.deeds.length)), s.deeds ++ [dn], if put then s.next + 1 else s.next⟩ := by rw [← hdn]; rfl
          refine .inr ⟨rfl, begin_ s i who put, first put s.next, s.deeds.length, dv', ?_, ?_, ?_, begin_ok hpL.pi hws i put, hpL.bd, first_bd hpL.nx put, ⟨by ((repeat (with_reducible apply Dom.set)); exact hd), by simp only [Tr.get_set_ne, ne_eq, Nat.reduceEqDiff, not_false_eq_true, h1], by simp only [Tr.get_set_ne, ne_eq, Nat.reduceEqDiff, not_false_eq_true, h2], by simp only [Tr.get_set_ne, ne_eq, Nat.reduceEqDiff, not_false_eq_true, h3], by simp only [Tr.get_set_ne, ne_eq, Nat.reduceEqDiff, not_false_eq_true, h4], by simp only [Tr.get_set_ne, ne_eq, Nat.reduceEqDiff, not_false_eq_true, h5], by simp only [Tr.get_set_ne, ne_eq, Nat.reduceEqDiff, not_false_eq_true, h12], by simp only [Tr.get_set_self, Tr.get_set_ne, hd _, ne_eq, Nat.reduceEqDiff, not_false_eq_true, decide_true, Nat.reduceLT]; try rfl, by simp only [Tr.get_set_ne, ne_eq, Nat.reduceEqDiff, not_false_eq_true, h15], by rw [hbg]; simp only [Tr.get_set_ne, ne_eq, Nat.reduceEqDiff, not_false_eq_true, h16], by simp only [Tr.get_set_ne, ne_eq, Nat.reduceEqDiff, not_false_eq_true, h17]⟩, by simp only [Tr.get_set_ne, ne_eq, Nat.reduceEqDiff, not_false_eq_true, h19], ?_⟩
          · rw [hbg]; simp only
            rw [List.getElem?_set, if_pos rfl, if_pos hwl]
          · unfold Go.Proofs.Ytldijnabgabehaa.so.round
            rw [hwe, hws]
            simp only
            rw [if_neg (by rintro (h | h); exact hl h; exact hm h), hput]
          · cases put <;> rfl
          · rw [hbg]
            have hM2 : K7.get M2.n = some (.cells ((at_.map fun (x : Nat) => AV.int .i64 (x : Int)).set who (.int .i64 s.deeds.length)) 1 true none) := by
              have q6 : K6.get M2.n = _ := ev6.same _ _ u3 rfl (fun h => (pr1.dvn _ h).2.2.2.1 rfl)
              refine (f7.same M2.n (get_lt p3.ok.1 q6) fun hz => ?_).trans q6
              rcases hz with hz | hz
              · exact hz (.inl fx.ha.2.1)
              · exact fx.ha.2.2.2 hz
            have hBp : K7.get M.n = some (.cells [.int .i64 0, .int .i64 n] 0 true none) := by
              have q6 : K6.get M.n = _ := X6.same _ _ pr1.box rfl (fun h => by
                rcases h with h | h | h
                · omega
                · exact (pr1.dvn _ h).2.2.2.2 rfl
                · have := fx.hp; omega)
              refine (f7.same M.n (get_lt p3.ok.1 q6) fun hz => ?_).trans q6
              rcases hz with hz | hz
              · exact hz (.inl fx.hp.2.1)
              · exact fx.hp.2.2.2.1 hz
            have hbm := fx.hm; have hbc := fx.hc; have hbl' := fx.hl; have hbw' := fx.hw; have hba' := fx.ha; have hbp' := fx.hp; have hn1' := fx.n1
            have hat : ∀ (o : Option (Wk × Nat)) j, (s.ws.set who o)[j]? = if who = j then some o else s.ws[j]? := fun o j => by
              rw [List.getElem?_set]
              split
              · rename_i e; subst e; first | rfl | rw [if_pos hwl]
              · rfl
            have hvl : who < vs.length := by rw [fit.1]; exact hwho
            have hatv : ∀ (o : Option Wk) j, (vs.set who o)[j]? = if who = j then some o else vs[j]? := fun o j => by
              rw [List.getElem?_set]
              split
              · rename_i e; subst e; first | rfl | rw [if_pos hvl]
              · rfl
            refine ⟨⟨_, l7, by rw [List.length_set]; exact fit.1, fun j w k hj => ?_, fun j hj => ?_⟩, ⟨at_.set who s.deeds.length, by rw [hM2, List.map_set], by rw [List.length_set]; exact a2, fun j w k hj => ?_⟩, ?_, hBp, ?_, fun c hc => ?_, ?_, f7.ok, f7.nh⟩
            · rw [hat] at hj
              rw [hatv]
              split at hj
              · rename_i e; rw [if_pos e]
                simp only [Option.some.injEq, Prod.mk.injEq] at hj
                rw [hj.1]
              · rename_i e; rw [if_neg e]; exact fit.2.1 j w k hj
            · rw [hat] at hj
              rw [hatv]
              split at hj
              · cases hj
              · rename_i e; rw [if_neg e]; exact fit.2.2 j hj
            · rw [hat] at hj
              rw [List.getElem?_set]
              split at hj
              · rename_i e; rw [if_pos e, if_pos (by rw [a2]; exact hwho)]
                simp only [Option.some.injEq, Prod.mk.injEq] at hj
                rw [hj.2]
              · rename_i e; rw [if_neg e]; exact a3' j w k hj
            · rw [List.map_append]
              refine OwnE.eva p4 rfl p3.ok.1 f7 fun c hc hz => ?_
              rw [sbd] at hc; cases hc
              rcases hz with hz | hz
              · exact hz (.inr sbd)
              · omega
            · refine (pr1.ev.trans X6 (fun _ h => h) (fun b hb hz => ?_) fx.okM).trans (f7.ev p3.ok.1) (fun _ h => h) (fun b hb hz => ?_) fx.okM
              · rcases hz with hz | hz | hz
                · omega
                · have := (pr1.dvn b hz).1; omega
                · omega
              · rcases hz with hz | hz
                · exact absurd (.inl (by omega)) hz
                · omega
            · rw [sbd] at hc; cases hc
              omega
            · have := f7.n; omega
    clear h1 h2 h3 h4 h5 h12 h14 h15 h16 h17 h18 h19 hd
    rintro x t' K1 hcase
    rcases hcase with ⟨rfl, hr, rg, pr'⟩ | ⟨rfl, s', w, k', dv', hw', hr, hov, hpi, hbd, hbw', ⟨hd, h1, h2, h3, h4, h5, h12, h14, h15, h16, h17⟩, h19, pr'⟩
    · show _ = _ ∧ _
      exact ⟨rfl, dv, by rw [hr]; exact rg, by rw [hr]; exact pr'⟩
    show W _ _
    obtain ⟨vs', l', fit'⟩ := pr'.lm
    have hv' := fit'.2.1 who w k' hw'
    obtain ⟨rp, Q1, cq, rfl, q1, lq1⟩ := pick_okL (d + 0) pr'.ok pr'.nh l' hv' hov hbd hbw' hn1 hn (by omega) (by omega)
    refine W_seq (W_seq (W_seqR (by simp only [runSeq_cons, runSeq_nil, evalArgs_nil, evalArgs_tmp, evalArgs_const, val1, putT, Tr.get_set_self, Tr.get_set_ne, hd _, ne_eq, Nat.reduceEqDiff, not_false_eq_true, decide_true, Nat.reduceLT, opI_move, opI_neq, opI_callF, h12, h19, cq, b00]; rfl) ?_))
    refine W_cond (b := false) (by simp only [PArg.eval, Tr.get_set_self, Tr.get_set_ne, hd _, ne_eq, Nat.reduceEqDiff, not_false_eq_true, decide_true, Nat.reduceLT]; try rfl) (fun hb => by cases hb) (fun _ => W_skip ?_)
    show W _ _
    obtain ⟨w', hw2⟩ : ∃ x, (step s'.m w).2 = x := ⟨_, rfl⟩
    rw [hw2] at lq1
    have hvl : who < vs'.length := by rw [fit'.1]; exact hwho
    have hvq : (vs'.set who (some w'))[who]? = some (some w') := by rw [List.getElem?_set, if_pos rfl, if_pos hvl]
    obtain ⟨rr, Q2, cr, rfl, q2, lq2⟩ := result_ok (d + 2) q1.ok q1.nh lq1 hvq
    have cr' : callF tblS code 100000 (d + 4) 16 [.ptr (some (bl, 0)), .int .i64 who] Q1 = some (.tuple [.agg [.int .i64 ((res w').1 : Int), .int .u64 ((res w').2 : Int), .slice none 0 0 false], .bool (over w')], Q2) := cr
    obtain ⟨Q3, st3, q3, gq3, nq3⟩ := fill_new (z := [.int .i64 0, .int .u64 0, .slice none 0 0 false]) (new := [.int .i64 ((res w').1 : Int), .int .u64 ((res w').2 : Int), .slice none 0 0 false]) (n := 3) q2.ok q2.nh rfl rfl rfl
    refine W_seq (W_seqR (by simp only [runSeq_cons, runSeq_nil, evalArgs_nil, evalArgs_tmp, val1, putT, Tr.get_set_self, Tr.get_set_ne, hd _, ne_eq, Nat.reduceEqDiff, not_false_eq_true, decide_true, Nat.reduceLT, opI_move, opI_extract, opI_callF, opI_new, h12, h19, cr', st3, List.getElem?_cons_zero, List.getElem?_cons_succ]; rfl) ?_)
    have lq3 := lq2.ev q2.ok.1 q3
    have q13 : EvA K1 Q3 (fun c => ¬ AA M3.n dv' c ∨ c = bc ∨ c = bl) := (q1.trans q2 (fun _ h => h) (fun _ _ h => .inl h)).trans q3 (fun _ h => h) (fun _ _ h => h.elim)
    have hwl' : who < s'.ws.length := (List.getElem?_eq_some_iff.1 hw').1
    have hat : ∀ (o : Option (Wk × Nat)) j, (s'.ws.set who o)[j]? = if who = j then some o else s'.ws[j]? := fun o j => by
      rw [List.getElem?_set]
      split
      · rename_i e; subst e; first | rfl | rw [if_pos hwl']
      · rfl
    have hatv : ∀ (o : Option Wk) j, (vs'.set who o)[j]? = if who = j then some o else vs'[j]? := fun o j => by
      rw [List.getElem?_set]
      split
      · rename_i e; subst e; first | rfl | rw [if_pos hvl]
      · rfl
    obtain ⟨o', ho'⟩ : ∃ o' : Option (Wk × Nat), (if over w' = true then none else some (w', k')) = o' := ⟨_, rfl⟩
    have pr3 : PR n workers M3.n M Q3 bm bc bl bw M2.n M.n dv' (step s'.m w).1 (s'.ws.set who o') (s'.deeds.map encD) := by
      refine pr'.eva fx (EvA.mono q13 fun _ h => h.imp id fun h => h.imp id .inl) ⟨_, lq3, by rw [List.length_set]; exact fit'.1, fun j w2 k2 hj => ?_, fun j hj => ?_⟩ fun j w2 k2 hj => ?_
      · rw [hat] at hj
        rw [hatv]
        split at hj
        · rename_i e; rw [if_pos e]
          rw [← ho'] at hj
          split at hj
          · cases hj
          · simp only [Option.some.injEq, Prod.mk.injEq] at hj
            rw [hj.1]
        · rename_i e; rw [if_neg e]; exact fit'.2.1 j w2 k2 hj
      · rw [hat] at hj
        rw [hatv]
        split at hj
        · rename_i e; rw [if_pos e]
          refine ⟨_, rfl, ?_⟩
          rw [← ho'] at hj
          split at hj
          · rename_i hov2; simp [bz, hov2]
          · cases hj
        · rename_i e; rw [if_neg e]; exact fit'.2.2 j hj
      · rw [hat] at hj
        split at hj
        · rename_i e; subst e
          rw [← ho'] at hj
          split at hj
          · cases hj
          · simp only [Option.some.injEq, Prod.mk.injEq] at hj
            rw [← hj.2]; exact ⟨w, hw'⟩
        · exact ⟨w2, hj⟩
    refine W_seq (W_seqR (by simp only [runSeq_cons, runSeq_nil, evalArgs_nil, evalArgs_tmp, val1, putT, Tr.get_set_self, Tr.get_set_ne, hd _, ne_eq, Nat.reduceEqDiff, not_false_eq_true, decide_true, Nat.reduceLT, opI_move]; rfl) ?_)
    cases hov2 : over w' with
    | false =>
      rw [hov2] at ho'
      simp only [Bool.false_eq_true, if_false] at ho'
      have hpk : pick s' i who w k' = { s' with m := (step s'.m w).1, ws := s'.ws.set who o' } := by
        unfold pick
        rw [hw2, if_neg (by rw [hov2]; decide), ← ho']
      refine W_cond (b := false) (by simp only [PArg.eval, Tr.get_set_self, Tr.get_set_ne, hd _, ne_eq, Nat.reduceEqDiff, not_false_eq_true, decide_true, Nat.reduceLT]; try rfl) (fun hb => by cases hb) (fun _ => W_skip ?_)
      show _ = _ ∧ _
      rw [hr, hpk]
      refine ⟨rfl, dv', ⟨by ((repeat (with_reducible apply Dom.set)); exact hd), by simp only [Tr.get_set_ne, ne_eq, Nat.reduceEqDiff, not_false_eq_true, h1], by simp only [Tr.get_set_ne, ne_eq, Nat.reduceEqDiff, not_false_eq_true, h2], by simp only [Tr.get_set_ne, ne_eq, Nat.reduceEqDiff, not_false_eq_true, h3], by simp only [Tr.get_set_ne, ne_eq, Nat.reduceEqDiff, not_false_eq_true, h4], by simp only [Tr.get_set_ne, ne_eq, Nat.reduceEqDiff, not_false_eq_true, h5], by simp only [Tr.get_set_ne, ne_eq, Nat.reduceEqDiff, not_false_eq_true, h12], by simp only [Tr.get_set_ne, ne_eq, Nat.reduceEqDiff, not_false_eq_true, h14], by simp only [Tr.get_set_ne, ne_eq, Nat.reduceEqDiff, not_false_eq_true, h15], by simp only [Tr.get_set_ne, ne_eq, Nat.reduceEqDiff, not_false_eq_true, h16], by simp only [Tr.get_set_ne, ne_eq, Nat.reduceEqDiff, not_false_eq_true, h17]⟩, pr3⟩
    | true =>
      rw [hov2] at ho'
      simp only [if_true] at ho'
      obtain ⟨dd, hdd, hfit⟩ := hpi.fits who w k' hw'
      have hpk : pick s' i who w k' = { s' with m := (step s'.m w).1, ws := s'.ws.set who o', deeds := s'.deeds.set k' (endD i w' dd) } := by
        unfold pick
        rw [hw2, if_pos hov2, ← ho', hdd]
        rfl
      refine W_cond (b := true) (by simp only [PArg.eval, Tr.get_set_self, Tr.get_set_ne, hd _, ne_eq, Nat.reduceEqDiff, not_false_eq_true, decide_true, Nat.reduceLT]; try rfl) (fun _ => ?_) (fun hb => by cases hb)
      obtain ⟨at_, a1, a2, a3⟩ := pr'.ats
      have hak := a3 who w k' hw'
      have a1' : Q3.get M2.n = _ := (q13.same M2.n (get_lt pr'.ok.1 a1) (fun hz => by
        have := fx.ha; have := fx.hc
        rcases hz with hz | hz | hz
        · exact hz (.inl fx.ha.2.1)
        · omega
        · omega)).trans a1
      have lk : opI (.load false 1) [.ptr (some (M2.n, who))] Q3 = some (.val (.int .i64 k') Q3) := load_own a1' (by rw [List.getElem?_map, hak]; rfl)
      refine W_seq (W_seqR (by simp only [runSeq_cons, runSeq_nil, evalArgs_nil, evalArgs_tmp, val1, putT, Tr.get_set_self, Tr.get_set_ne, hd _, ne_eq, Nat.reduceEqDiff, not_false_eq_true, decide_true, Nat.reduceLT, opI_move, h15, h19, ix1 hwho, lk]; rfl) ?_)
      have hel : (s'.deeds.map encD)[k']? = some (encD dd) := by rw [List.getElem?_map, hdd]; rfl
      have hkl := (List.getElem?_eq_some_iff.1 hel).1
      obtain ⟨pa, Q4, pp4, ix4, st4, v4, pr4⟩ := pr3.put fx hel (o := 1) (by omega) (x := .int .i64 i) ⟨rfl, rfl⟩
      refine W_seq (W_seqR (by simp only [runSeq_cons, runSeq_nil, evalArgs_nil, evalArgs_tmp, val1, putT, Tr.get_set_self, Tr.get_set_ne, hd _, ne_eq, Nat.reduceEqDiff, not_false_eq_true, decide_true, Nat.reduceLT, opI_move, Nat.zero_add, h14, h17, ix4, opI_fieldQ pp4, st4]; rfl) ?_)
      have gq4 : Q4.get Q2.n = _ := v4.same _ _ gq3 rfl (fun h => by
        have h1 := pr'.dvn _ h
        obtain ⟨b, hb1, hb2⟩ := pr'.sb
        rw [hb1] at h; cases h
        have := q1.n; have := q2.n; omega)
      have lc4 : opI (.load false 1) [.ptr (some (Q2.n, 0))] Q4 = some (.val (.int .i64 ((res w').1 : Int)) Q4) := load_own gq4 rfl
      obtain ⟨pb, Q5, pp5, ix5, st5, v5, pr5⟩ := pr4.put fx (k := k') (e := (encD dd).set 1 (.int .i64 i)) (by rw [List.getElem?_set, if_pos rfl, if_pos hkl]) (o := 4) (by omega) (x := .int .i64 ((res w').1 : Int)) ⟨rfl, rfl⟩
      refine W_seq (W_seqR (by simp only [runSeq_cons, runSeq_nil, evalArgs_nil, evalArgs_tmp, val1, putT, Tr.get_set_self, Tr.get_set_ne, hd _, ne_eq, Nat.reduceEqDiff, not_false_eq_true, decide_true, Nat.reduceLT, opI_move, opI_fieldP, Nat.zero_add, Nat.add_zero, h14, lc4, ix5, opI_fieldQ pp5, st5]; rfl) ?_)
      rw [List.set_set] at pr5
      have gq5 : Q5.get Q2.n = _ := v5.same _ _ gq4 rfl (fun h => by
        obtain ⟨b, hb1, hb2⟩ := pr'.sb
        rw [hb1] at h; cases h
        have := q1.n; have := q2.n; omega)
      have lv5 : opI (.load false 1) [.ptr (some (Q2.n, 1))] Q5 = some (.val (.int .u64 ((res w').2 : Int)) Q5) := load_own gq5 rfl
      obtain ⟨pc, pp6, ix6, _, ld6⟩ := (pr5.row.row pr5.ok.1).at_ (i := k') (by rw [List.length_set]; exact hkl) (by omega)
      have ld6' := ld6 2 (.bool dd.put) (by rw [List.getElem_set, if_pos rfl]; rfl)
      refine W_seq (W_seqR (by simp only [runSeq_cons, runSeq_nil, evalArgs_nil, evalArgs_tmp, val1, putT, Tr.get_set_self, Tr.get_set_ne, hd _, ne_eq, Nat.reduceEqDiff, not_false_eq_true, decide_true, Nat.reduceLT, opI_move, opI_not, Nat.zero_add, h14, ix6, opI_fieldQ pp6, ld6']; rfl) ?_)
      have henc : encD (endD i w' dd) = if dd.put then ((encD dd).set 1 (.int .i64 i)).set 4 (.int .i64 ((res w').1 : Int)) else (((encD dd).set 1 (.int .i64 i)).set 4 (.int .i64 ((res w').1 : Int))).set 3 (.int .u64 ((res w').2 : Int)) := by
        unfold encD endD
        cases dd.put <;> rfl
      cases hput : dd.put with
      | true =>
        rw [hput] at henc
        simp only [if_true] at henc
        refine W_cond (b := false) (by simp only [PArg.eval, Tr.get_set_self, Tr.get_set_ne, hd _, ne_eq, Nat.reduceEqDiff, not_false_eq_true, decide_true, Nat.reduceLT, Bool.not_true]; try rfl) (fun hb => by cases hb) (fun _ => W_skip ?_)
        show _ = _ ∧ _
        rw [hr, hpk]
        refine ⟨rfl, dv', ⟨by ((repeat (with_reducible apply Dom.set)); exact hd), by simp only [Tr.get_set_ne, ne_eq, Nat.reduceEqDiff, not_false_eq_true, h1], by simp only [Tr.get_set_ne, ne_eq, Nat.reduceEqDiff, not_false_eq_true, h2], by simp only [Tr.get_set_ne, ne_eq, Nat.reduceEqDiff, not_false_eq_true, h3], by simp only [Tr.get_set_ne, ne_eq, Nat.reduceEqDiff, not_false_eq_true, h4], by simp only [Tr.get_set_ne, ne_eq, Nat.reduceEqDiff, not_false_eq_true, h5], by simp only [Tr.get_set_ne, ne_eq, Nat.reduceEqDiff, not_false_eq_true, h12], by simp only [Tr.get_set_ne, ne_eq, Nat.reduceEqDiff, not_false_eq_true, h14], by simp only [Tr.get_set_ne, ne_eq, Nat.reduceEqDiff, not_false_eq_true, h15], by simp only [Tr.get_set_ne, ne_eq, Nat.reduceEqDiff, not_false_eq_true, h16], by simp only [Tr.get_set_ne, ne_eq, Nat.reduceEqDiff, not_false_eq_true, h17]⟩, ?_⟩
        rw [List.map_set, henc]
        exact pr5
      | false =>
        rw [hput] at henc
        simp only [Bool.false_eq_true, if_false] at henc
        refine W_cond (b := true) (by simp only [PArg.eval, Tr.get_set_self, Tr.get_set_ne, hd _, ne_eq, Nat.reduceEqDiff, not_false_eq_true, decide_true, Nat.reduceLT, Bool.not_false]; try rfl) (fun _ => ?_) (fun hb => by cases hb)
        obtain ⟨pd, Q6, pp7, ix7, st7, v7, pr6⟩ := pr5.put fx (k := k') (by rw [List.getElem?_set, if_pos rfl, if_pos hkl]) (o := 3) (by omega) (x := .int .u64 ((res w').2 : Int)) ⟨rfl, rfl⟩
        refine W_seqR (by simp only [runSeq_cons, runSeq_nil, evalArgs_nil, evalArgs_tmp, val1, putT, Tr.get_set_self, Tr.get_set_ne, hd _, ne_eq, Nat.reduceEqDiff, not_false_eq_true, decide_true, Nat.reduceLT, opI_move, opI_fieldP, Nat.zero_add, h14, lv5, ix7, opI_fieldQ pp7, st7]; rfl) ?_
        show _ = _ ∧ _
        rw [hr, hpk]
        refine ⟨rfl, dv', ⟨by ((repeat (with_reducible apply Dom.set)); exact hd), by simp only [Tr.get_set_ne, ne_eq, Nat.reduceEqDiff, not_false_eq_true, h1], by simp only [Tr.get_set_ne, ne_eq, Nat.reduceEqDiff, not_false_eq_true, h2], by simp only [Tr.get_set_ne, ne_eq, Nat.reduceEqDiff, not_false_eq_true, h3], by simp only [Tr.get_set_ne, ne_eq, Nat.reduceEqDiff, not_false_eq_true, h4], by simp only [Tr.get_set_ne, ne_eq, Nat.reduceEqDiff, not_false_eq_true, h5], by simp only [Tr.get_set_ne, ne_eq, Nat.reduceEqDiff, not_false_eq_true, h12], by simp only [Tr.get_set_ne, ne_eq, Nat.reduceEqDiff, not_false_eq_true, h14], by simp only [Tr.get_set_ne, ne_eq, Nat.reduceEqDiff, not_false_eq_true, h15], by simp only [Tr.get_set_ne, ne_eq, Nat.reduceEqDiff, not_false_eq_true, h16], by simp only [Tr.get_set_ne, ne_eq, Nat.reduceEqDiff, not_false_eq_true, h17]⟩, ?_⟩
        rw [List.map_set, henc]
        rw [List.set_set] at pr6
        exact pr6
  · have hi : i = picks.length + 100 * workers := by
      have := of_decide_eq_false hb
      omega
    subst hi
    have hs' : s = play picks n workers 1000 := hs
    obtain ⟨_, hnone⟩ := play_ok (picks := picks) (workers := workers) (most := 1000) hn1
    rw [← hs'] at hnone ⊢
    show W _ _
    refine W_seq (W_seq (W_seqR (by simp only [runSeq_cons, runSeq_nil, evalArgs_nil, evalArgs_const, val1, putT, opI_move]; rfl) (W_block (W_loop (fun k t K => ∃ j : Nat, k + j = workers ∧ RG t bm M.n bl M2.n workers s.next (picks.length + 100 * workers) pv dv ∧ t.get 25 = some (.int .i64 j) ∧ PR n workers M3.n M K bm bc bl bw M2.n M.n dv s.m s.ws (s.deeds.map encD))
      (k := workers) (by omega) ?_ ?_))))
    · exact ⟨0, by omega, ⟨by ((repeat (with_reducible apply Dom.set)); exact hd), by simp only [Tr.get_set_ne, ne_eq, Nat.reduceEqDiff, not_false_eq_true, h1], by simp only [Tr.get_set_ne, ne_eq, Nat.reduceEqDiff, not_false_eq_true, h2], by simp only [Tr.get_set_ne, ne_eq, Nat.reduceEqDiff, not_false_eq_true, h3], by simp only [Tr.get_set_ne, ne_eq, Nat.reduceEqDiff, not_false_eq_true, h4], by simp only [Tr.get_set_ne, ne_eq, Nat.reduceEqDiff, not_false_eq_true, h5], by simp only [Tr.get_set_ne, ne_eq, Nat.reduceEqDiff, not_false_eq_true, h12], by simp only [Tr.get_set_ne, ne_eq, Nat.reduceEqDiff, not_false_eq_true, h14], by simp only [Tr.get_set_ne, ne_eq, Nat.reduceEqDiff, not_false_eq_true, h15], by simp only [Tr.get_set_ne, ne_eq, Nat.reduceEqDiff, not_false_eq_true, h16], by simp only [Tr.get_set_ne, ne_eq, Nat.reduceEqDiff, not_false_eq_true, h17]⟩, by simp only [Tr.get_set_self, Tr.get_set_ne, hd _, ne_eq, Nat.reduceEqDiff, not_false_eq_true, decide_true, Nat.reduceLT]; rfl, pr⟩
    clear h1 h2 h3 h4 h5 h12 h14 h15 h16 h17 hd
    rintro k2 t2 K2 ⟨j, hj, ⟨hd, h1, h2, h3, h4, h5, h12, h14, h15, h16, h17⟩, h25, pr2⟩
    refine W_seq (W_seq (W_seqR (by simp only [runSeq_cons, runSeq_nil, evalArgs_nil, evalArgs_tmp, val1, putT, Tr.get_set_self, Tr.get_set_ne, hd _, ne_eq, Nat.reduceEqDiff, not_false_eq_true, decide_true, Nat.reduceLT, opI_move, opI_lss, h25, h2]; rfl) ?_))
    refine W_cond (by simp only [PArg.eval, Tr.get_set_self, Tr.get_set_ne, hd _, ne_eq, Nat.reduceEqDiff, not_false_eq_true, decide_true, Nat.reduceLT]; rfl) (fun hb => W_skip ?_) (fun hb => W_exit ?_)
    · have hjw : j < workers := by
        have := of_decide_eq_true hb
        omega
      obtain ⟨vs, l, fit⟩ := pr2.lm
      have hws : s.ws[j]? = some none := by
        have hlt : j < s.ws.length := by rw [hpL.wl]; exact hjw
        rw [List.getElem?_eq_getElem hlt, hnone _ (List.getElem_mem hlt)]
      obtain ⟨o, hvo, hbz⟩ := fit.2.2 j hws
      obtain ⟨rb, K3, cb, rfl, f3, l3⟩ := busy_ok (d + 2) pr2.ok pr2.nh l hvo
      rw [hbz] at cb
      show W _ _
      refine W_seq (W_block (W_seq (W_seqR (by simp only [runSeq_cons, runSeq_nil, evalArgs_nil, evalArgs_tmp, val1, putT, Tr.get_set_self, Tr.get_set_ne, hd _, ne_eq, Nat.reduceEqDiff, not_false_eq_true, decide_true, Nat.reduceLT, opI_move, opI_callF, h12, h25, cb]; rfl) ?_)))
      refine W_cond (b := false) (by simp only [PArg.eval, Tr.get_set_self, Tr.get_set_ne, hd _, ne_eq, Nat.reduceEqDiff, not_false_eq_true, decide_true, Nat.reduceLT]; try rfl) (fun hb => by cases hb) (fun _ => W_skip ?_)
      show W _ _
      refine W_seqR (by simp only [runSeq_cons, runSeq_nil, evalArgs_nil, evalArgs_tmp, evalArgs_const, val1, putT, Tr.get_set_self, Tr.get_set_ne, hd _, ne_eq, Nat.reduceEqDiff, not_false_eq_true, decide_true, Nat.reduceLT, opI_move, opI_add, h25]; rfl) ?_
      exact ⟨k2 - 1, by omega, j + 1, by omega, ⟨by ((repeat (with_reducible apply Dom.set)); exact hd), by simp only [Tr.get_set_ne, ne_eq, Nat.reduceEqDiff, not_false_eq_true, h1], by simp only [Tr.get_set_ne, ne_eq, Nat.reduceEqDiff, not_false_eq_true, h2], by simp only [Tr.get_set_ne, ne_eq, Nat.reduceEqDiff, not_false_eq_true, h3], by simp only [Tr.get_set_ne, ne_eq, Nat.reduceEqDiff, not_false_eq_true, h4], by simp only [Tr.get_set_ne, ne_eq, Nat.reduceEqDiff, not_false_eq_true, h5], by simp only [Tr.get_set_ne, ne_eq, Nat.reduceEqDiff, not_false_eq_true, h12], by simp only [Tr.get_set_ne, ne_eq, Nat.reduceEqDiff, not_false_eq_true, h14], by simp only [Tr.get_set_ne, ne_eq, Nat.reduceEqDiff, not_false_eq_true, h15], by simp only [Tr.get_set_ne, ne_eq, Nat.reduceEqDiff, not_false_eq_true, h16], by simp only [Tr.get_set_ne, ne_eq, Nat.reduceEqDiff, not_false_eq_true, h17]⟩, by simp only [Tr.get_set_self, Tr.get_set_ne, hd _, ne_eq, Nat.reduceEqDiff, not_false_eq_true, decide_true, Nat.reduceLT]; rw [wi (by omega) (by omega)]; rfl, pr2.quiet fx f3 ⟨vs, l3, fit⟩⟩
    · show W _ _
      obtain ⟨vs, l, _⟩ := pr2.lm
      refine W_seq (W_seqR (by simp only [runSeq_cons, runSeq_nil, evalArgs_nil, evalArgs_tmp, evalArgs_const, val1, putT, Tr.get_set_self, Tr.get_set_ne, hd _, ne_eq, Nat.reduceEqDiff, not_false_eq_true, decide_true, Nat.reduceLT, opI_move, h14]; rfl) (W_ret ?_))
      exact ⟨_, fin_tmp2 (by simp only [Tr.get_set_self, Tr.get_set_ne, hd _, ne_eq, Nat.reduceEqDiff, not_false_eq_true, decide_true, Nat.reduceLT]; try rfl) (by simp only [Tr.get_set_self, Tr.get_set_ne, hd _, ne_eq, Nat.reduceEqDiff, not_false_eq_true, decide_true, Nat.reduceLT]; try rfl), dv, rfl, pr2.ev, l.cm, pr2.row, fun c hc => (pr2.dvn c hc).1, hpL, hnone⟩
end Go.Proofs.Ytldijnabgabehaa.so
