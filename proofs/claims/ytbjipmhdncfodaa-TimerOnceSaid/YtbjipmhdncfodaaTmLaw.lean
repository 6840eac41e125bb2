/- The walk of the law TimerOnce. -/
import Derived.Test.YtbjipmhdncfodaaTmRows
namespace Go.Proofs.Ytbjipmhdncfodaa.grf
open Go Go.Vx
theorem opI_convU {M : AMem} {n : Nat} (h : n < 9223372036854775808) : opI (.conv .u64) [.int .i64 n] M = some (.val (.int .u64 n) M) := by
  simp only [opI]
  rw [wrapF_id (by show (0 : Int) ≤ n; omega) (by show (n : Int) ≤ 18446744073709551615; omega)]
theorem TS.frame {M0 M M' : AMem} {J : Nat → Prop} {tb mb : Nat} {l : List En} {nn now : Int} {ids : Nat → Prop} (h : TS M0 M J tb mb l nn now) (hs : Step M0 M') (hn : M.n ≤ M'.n) (hf : Fr M M' ids) (hi : ∀ i, J i → ¬ ids i) : TS M0 M' J tb mb l nn now :=
  ⟨h.h.frame hs hn hf (fun i hj _ => hi i hj), h.m.frame hf (hi _ h.h.jm), h.ns⟩
theorem Inv.gone {A : List Int} {G : List Bool} {l : List En} (h : Inv A G l) {n : Int} (hn : ¬ (0 ≤ n ∧ n < A.length ∧ G.getD n.toNat false = false)) : ∀ x ∈ l, x.n ≠ n := by
  intro x hx he
  obtain ⟨k, h1, h2, _⟩ := h.ex x hx
  have hg := (h.mem k h1).2 ⟨x, hx, h2⟩
  refine hn ⟨by omega, by omega, ?_⟩
  rw [show n.toNat = k by omega]; exact hg
theorem idx_kind {sz : Nat} {k : IntKind} {i : Int} {v : AV} {M : AMem} : opI (.indexAddrS sz) [v, .int k i] M = opI (.indexAddrS sz) [v, .int .i64 i] M := by
  cases v <;> first | rfl | (rename_i a _ _ _; cases a <;> rfl) | (rename_i a _ _; cases a <;> rfl)
theorem rowU_at {M0 M : AMem} {γ : Nat} {v : AV} {out : List En} (hv : RowI M0 M 1 γ v (out.map fun y => [.int .u64 y.task])) (hok : Ok M) {i : Nat} (hi : i < out.length) : (∀ M', opI (.indexAddrS 1) [v, .int .i64 i] M' = some (.val (rowp v 1 i) M')) ∧ opI (.load false 1) [rowp v 1 i] M = some (.val (.int .u64 (out.getD i dEn).task) M) := by
  have hi' : i < (out.map fun y => [AV.int .u64 y.task]).length := by rw [List.length_map]; exact hi
  refine ⟨hv.idx hi', ?_⟩
  have := (hv.ld hok (by omega) hi').2 0 (.int .u64 (out.getD i dEn).task) (by rw [List.getElem_map, List.getD_eq_getElem?_getD, List.getElem?_eq_getElem hi]; rfl)
  rwa [padd_z (hv.isP hi')] at this
theorem rowU_len {M0 M : AMem} {γ : Nat} {v : AV} {out : List En} (hv : RowI M0 M 1 γ v (out.map fun y => [.int .u64 y.task])) (hok : Ok M) : opI .lenS [v] M = some (.val (.int .i64 out.length) M) := by
  have := (hv.row hok).len
  rwa [List.length_map] at this
theorem countP_take {G : List Bool} {q : Nat} (h : q < G.length) : (G.take (q + 1)).countP (fun b => !b) = (G.take q).countP (fun b => !b) + if G.getD q false = true then 0 else 1 := by
  rw [List.take_add_one, List.countP_append, List.getD_eq_getElem?_getD, List.getElem?_eq_getElem h]
  cases G[q] <;> rfl
set_option maxRecDepth 20000 in
set_option maxHeartbeats 8000000 in
theorem timerOnce_ok {v0 v1 v2 : AV} {xs ds ls : List Int} (d : Nat) (M0 : AMem) (hok : Okg M0) (hx0 : IRow M0 .i64 v0 xs) (hd0 : IRow M0 .i64 v1 ds) (hl0 : IRow M0 .i64 v2 ls) :
    Ans (callF tbl code 100000 (d + 8)) 3 [v0, v1, v2] M0 fun r _ => r = .bool true := by
  refine Ans_of (tbl_none (by decide) _) (show code 3 = some c3 from by kernel_rfl) (by simp) fun t hd ha => ?_
  have h0 := ha 0 _ rfl
  have h1 := ha 1 _ rfl
  have h2 := ha 2 _ rfl
  clear ha
  have haw : callF tbl code 100000 (d + 7) 5 [] M0 = some (.bool true, M0) := rfl
  refine W_seq (W_seqR (by simp only [runSeq_cons, runSeq_nil, evalArgs_nil, evalArgs_const, val1, putT, opI_move]; rfl) (W_seq (W_seq (W_seqR (by simp only [runSeq_cons, runSeq_nil, evalArgs_nil, evalArgs_tmp, val1, putT, Tr.get_set_self, Tr.get_set_ne, hd _, ne_eq, Nat.reduceEqDiff, not_false_eq_true, decide_true, Nat.reduceLT, opI_not, opI_callF, haw]; rfl) ?_))))
  refine W_cond (b := false) (by simp only [PArg.eval, Tr.get_set_self, Tr.get_set_ne, hd _, ne_eq, Nat.reduceEqDiff, not_false_eq_true, decide_true, Nat.reduceLT]; try rfl) (fun hb => by cases hb) (fun _ => W_skip ?_)
  show W _ _
  have l0 := hx0.len
  have l1 := hd0.len
  have l2 := hl0.len
  by_cases c1 : xs.length ≤ 100 ∧ ds.length ≤ 100 ∧ ls.length ≤ 60
  rotate_left
  · have big : ∀ (t : Tr AV), Dom t 305 → W (exec (callF tbl code 100000 (d + 7)) 100000 (.seq (.seqR [⟨.move, [.const (.bool true)], (some 6), none⟩]) .ret) t M0) (fun x t2 M2 => x = .ret ∧ resIs t2 M2 [.tmp 6] = some [.bool true]) := fun t hd => by
      refine W_seq (W_seqR (by simp only [runSeq_cons, runSeq_nil, evalArgs_nil, evalArgs_const, val1, putT, opI_move]; rfl) (W_ret ?_))
      exact ⟨rfl, fin_tmp (by simp only [Tr.get_set_self, hd _, decide_true, Nat.reduceLT]; try rfl)⟩
    by_cases b1 : xs.length > 100
    · have e1 : decide ((xs.length : Int) > 100) = true := decide_eq_true (by omega)
      refine W_seq (W_seq (W_seqR (by simp only [runSeq_cons, runSeq_nil, evalArgs_nil, evalArgs_tmp, evalArgs_const, val1, putT, Tr.get_set_self, Tr.get_set_ne, Tr.isSome_set, hd _, ne_eq, Nat.reduceEqDiff, not_false_eq_true, decide_true, Nat.reduceLT, opI_move, opI_gtr, opI_pick, runSeq_guard (b := true), Bool.true_beq, Bool.not_true, h0, l0, e1]; rfl) ?_))
      refine W_cond (b := true) (by simp only [PArg.eval, Tr.get_set_self, Tr.get_set_ne, hd _, ne_eq, Nat.reduceEqDiff, not_false_eq_true, decide_true, Nat.reduceLT]; try rfl) (fun _ => ?_) (fun hb => by cases hb)
      exact (big _ (by ((repeat (with_reducible apply Dom.set)); exact hd))).mono (by rintro x t2 M2 ⟨rfl, hr⟩; exact ⟨_, hr, rfl⟩)
    have e1 : decide ((xs.length : Int) > 100) = false := decide_eq_false (by omega)
    by_cases b2 : ds.length > 100
    · have e2 : decide ((ds.length : Int) > 100) = true := decide_eq_true (by omega)
      refine W_seq (W_seq (W_seqR (by simp only [runSeq_cons, runSeq_nil, evalArgs_nil, evalArgs_tmp, evalArgs_const, val1, putT, Tr.get_set_self, Tr.get_set_ne, Tr.isSome_set, hd _, ne_eq, Nat.reduceEqDiff, not_false_eq_true, decide_true, Nat.reduceLT, opI_move, opI_gtr, opI_pick, runSeq_guard (b := true), runSeq_guard (b := false), beq_self_eq_true, Bool.true_beq, Bool.not_true, h0, h1, l0, l1, e1, e2]; rfl) ?_))
      refine W_cond (b := true) (by simp only [PArg.eval, Tr.get_set_self, Tr.get_set_ne, hd _, ne_eq, Nat.reduceEqDiff, not_false_eq_true, decide_true, Nat.reduceLT]; try rfl) (fun _ => ?_) (fun hb => by cases hb)
      exact (big _ (by ((repeat (with_reducible apply Dom.set)); exact hd))).mono (by rintro x t2 M2 ⟨rfl, hr⟩; exact ⟨_, hr, rfl⟩)
    have e2 : decide ((ds.length : Int) > 100) = false := decide_eq_false (by omega)
    have e3 : decide ((ls.length : Int) > 60) = true := decide_eq_true (by omega)
    refine W_seq (W_seq (W_seqR (by simp only [runSeq_cons, runSeq_nil, evalArgs_nil, evalArgs_tmp, evalArgs_const, val1, putT, Tr.get_set_self, Tr.get_set_ne, Tr.isSome_set, hd _, ne_eq, Nat.reduceEqDiff, not_false_eq_true, decide_true, Nat.reduceLT, opI_move, opI_gtr, opI_pick, runSeq_guard (b := false), beq_self_eq_true, Bool.not_true, h0, h1, h2, l0, l1, l2, e1, e2, e3]; rfl) ?_))
    refine W_cond (b := true) (by simp only [PArg.eval, Tr.get_set_self, Tr.get_set_ne, hd _, ne_eq, Nat.reduceEqDiff, not_false_eq_true, decide_true, Nat.reduceLT]; try rfl) (fun _ => ?_) (fun hb => by cases hb)
    exact (big _ (by ((repeat (with_reducible apply Dom.set)); exact hd))).mono (by rintro x t2 M2 ⟨rfl, hr⟩; exact ⟨_, hr, rfl⟩)
  obtain ⟨c1, c2, c3⟩ := c1
  have e1 : decide ((xs.length : Int) > 100) = false := decide_eq_false (by omega)
  have e2 : decide ((ds.length : Int) > 100) = false := decide_eq_false (by omega)
  have e3 : decide ((ls.length : Int) > 60) = false := decide_eq_false (by omega)
  refine W_seq (W_seq (W_seqR (by simp only [runSeq_cons, runSeq_nil, evalArgs_nil, evalArgs_tmp, evalArgs_const, val1, putT, Tr.get_set_self, Tr.get_set_ne, Tr.isSome_set, hd _, ne_eq, Nat.reduceEqDiff, not_false_eq_true, decide_true, Nat.reduceLT, opI_move, opI_gtr, opI_pick, runSeq_guard (b := false), beq_self_eq_true, Bool.not_true, h0, h1, h2, l0, l1, l2, e1, e2, e3]; rfl) ?_))
  refine W_cond (b := false) (by simp only [PArg.eval, Tr.get_set_self, Tr.get_set_ne, hd _, ne_eq, Nat.reduceEqDiff, not_false_eq_true, decide_true, Nat.reduceLT]; try rfl) (fun hb => by cases hb) (fun _ => W_skip ?_)
  show W _ _
  obtain ⟨_, M1, n1, tb, mb, rfl, hT⟩ := new_ok (d + 6) M0 hok
  refine W_seq (W_seqR (by simp only [runSeq_cons, runSeq_nil, evalArgs_nil, evalArgs_tmp, val1, putT, Tr.get_set_self, Tr.get_set_ne, hd _, ne_eq, Nat.reduceEqDiff, not_false_eq_true, decide_true, Nat.reduceLT, opI_move, opI_callF, n1]; rfl) ?_)
  have e4 : opI (.sliceLit 0 [] []) [] M1 = some (.val (.slice (some (M1.n, 0)) 0 0 false) (M1.push (.cells [] 0 true none))) := rfl
  refine W_seq (W_seqR (by simp only [runSeq_cons, runSeq_nil, evalArgs_nil, evalArgs_tmp, val1, putT, Tr.get_set_self, Tr.get_set_ne, hd _, ne_eq, Nat.reduceEqDiff, not_false_eq_true, decide_true, Nat.reduceLT, opI_move, e4]; rfl) ?_)
  have sL := hT.h.step.push (k := .cells [] 0 true none) (fun _ _ _ _ he => by cases he)
  have fL : Fr M1 (M1.push (.cells [] 0 true none)) (fun _ => False) := Fr.push hT.h.step.ok.1 _
  have gL := get_push_self (k := .cells [] 0 true none) hT.h.step.ok.1
  have hT1 := hT.h.frame sL (show M1.n ≤ M1.n + 1 by omega) fL (fun _ _ _ hh => hh)
  have hm1 := hT.m.frame fL (fun hh => hh)
  have rL : RowI M0 (M1.push (.cells [] 0 true none)) 1 M1.n (.slice (some (M1.n, 0)) 0 0 false) (([] : List Int).map eI) := .inr ⟨M1.n, 0, false, [], 0, none, rfl, Nat.le_refl _, hT.h.step.grow.n, hT.h.step.grow.n, gL, rfl, rfl, (fun he => by cases he), rfl, fun e he => by simp at he, rfl⟩
  refine W_seq (W_seq (W_seqR (by simp only [runSeq_cons, runSeq_nil, evalArgs_nil, evalArgs_const, val1, putT, opI_move]; rfl) (W_block (W_loop (fun k t M' => ∃ (i : Nat) (A : List Int) (l : List En) (J : Nat → Prop) (s : AV) (δ : Nat), k + i = xs.length ∧ A.length ≤ i ∧ TS M0 M' J tb mb l A.length 0 ∧ Inv A (List.replicate A.length false) l ∧ RowI M0 M' 1 δ s (A.map eI) ∧ ¬ J δ ∧ δ < M'.n ∧ Dom t 305 ∧ t.get 0 = some v0 ∧ t.get 1 = some v1 ∧ t.get 2 = some v2 ∧ t.get 7 = some (.ptr (some (tb, 0))) ∧ t.get 8 = some s ∧ t.get 9 = some (.int .i64 i)) (k := xs.length) (by omega) ?_ ?_))))
  · refine ⟨0, [], [], _, _, M1.n, rfl, Nat.le_refl _, ⟨hT1, hm1, hT.ns⟩, ⟨rfl, fun k hk => by simp at hk, fun x hx => by simp at hx, List.nodup_nil⟩, rL, fun hj => ?_, Nat.lt_succ_self _, by ((repeat (with_reducible apply Dom.set)); exact hd), by simp only [Tr.get_set_ne, ne_eq, Nat.reduceEqDiff, not_false_eq_true, h0], by simp only [Tr.get_set_ne, ne_eq, Nat.reduceEqDiff, not_false_eq_true, h1], by simp only [Tr.get_set_ne, ne_eq, Nat.reduceEqDiff, not_false_eq_true, h2], by simp only [Tr.get_set_self, Tr.get_set_ne, hd _, ne_eq, Nat.reduceEqDiff, not_false_eq_true, decide_true, Nat.reduceLT], by simp only [Tr.get_set_self, Tr.get_set_ne, hd _, ne_eq, Nat.reduceEqDiff, not_false_eq_true, decide_true, Nat.reduceLT], by simp only [Tr.get_set_self, Tr.get_set_ne, hd _, ne_eq, Nat.reduceEqDiff, not_false_eq_true, decide_true, Nat.reduceLT]; rfl⟩
    have := (hT.h.jlo _ hj).2
    omega
  clear hd h0 h1 h2 haw e1 e2 e3 l0 l1 l2 n1 e4 sL fL gL hT1 hm1 rL hT
  intro k t M ⟨i, A, l, J, s, δ, hk, hAi, hT, hI, hs, hJ, hδ, hd, h0, h1, h2, h7, h8, h9⟩
  have hx := hx0.grow hT.h.step.grow
  have l0 := hx.len
  refine W_seq (W_seq (W_seqR (by simp only [runSeq_cons, runSeq_nil, evalArgs_nil, evalArgs_tmp, val1, putT, Tr.get_set_self, Tr.get_set_ne, hd _, ne_eq, Nat.reduceEqDiff, not_false_eq_true, decide_true, Nat.reduceLT, opI_move, opI_lss, h0, h9, l0]; rfl) ?_))
  refine W_cond (by simp only [PArg.eval, Tr.get_set_self, Tr.get_set_ne, hd _, ne_eq, Nat.reduceEqDiff, not_false_eq_true, decide_true, Nat.reduceLT]; rfl) (fun hb => W_skip ?_) (fun hb => ?_)
  · have hi : i < xs.length := by simpa using hb
    obtain ⟨p, pp, p1, p2⟩ := hx.at_ hi
    have lA := rowA_len hs hT.h.step.ok.1
    have cv := opI_convU (M := M) (n := A.length) (by omega)
    have hAl : l.length = A.length := by
      have := hI.count l.length rfl
      rw [← this, List.countP_replicate]; simp
    obtain ⟨r, M2, c2, s2, n2, f2, ho⟩ := add_ok hT d xs[i] A.length (by omega) ⟨by omega, by omega⟩
    have c2' : callF tbl code 100000 (d + 7) 7 [.ptr (some (tb, 0)), .int .i64 xs[i], .int .u64 A.length] M = some (r, M2) := c2
    show W _ _
    have hx2 := hx0.grow s2.grow
    obtain ⟨p', pp', p1', p2'⟩ := hx2.at_ hi
    have hs2 := hs.frame f2 hJ
    have lA2 := rowA_len hs2 s2.ok.1
    rcases ho with ⟨hc, rfl, x, l', J', xa, xt, xn, hp, hT2, hJ'⟩ | ⟨hc, rfl, rfl⟩
    · have hr : 0 ≤ xs[i] ∧ xs[i] ≤ 1099511627776 := by
        unfold chk at hc
        split at hc
        · cases hc
        · omega
      have g1 : decide (xs[i] ≥ 0) = true := decide_eq_true hr.1
      have g2 : decide (xs[i] ≤ 1099511627776) = true := decide_eq_true hr.2
      have g3 : ((A.length : Int) != (A.length : Int)) = false := by simp
      have g4 : ((0 : Int) == 0) = true := rfl
      have g5 : xorB true true = false := rfl
      refine W_seq (W_block (W_seq (W_seqR (by simp only [runSeq_cons, runSeq_nil, evalArgs_nil, evalArgs_tmp, val1, putT, Tr.get_set_self, Tr.get_set_ne, hd _, ne_eq, Nat.reduceEqDiff, not_false_eq_true, decide_true, Nat.reduceLT, opI_move, opI_extract, opI_callF, h0, h7, h8, h9, p1, p2, lA, cv, c2', List.getElem?_cons_zero, List.getElem?_cons_succ]; rfl) ?_)))
      refine W_seq (W_seq (W_seqR (by simp only [runSeq_cons, runSeq_nil, evalArgs_nil, evalArgs_tmp, evalArgs_const, val1, putT, Tr.get_set_self, Tr.get_set_ne, Tr.isSome_set, hd _, ne_eq, Nat.reduceEqDiff, not_false_eq_true, decide_true, Nat.reduceLT, opI_move, opI_leq, opI_geq, opI_neq, opI_eql, opI_eqBool, opI_pick, runSeq_guard (b := true), runSeq_guard (b := false), beq_self_eq_true, h0, h8, h9, p1', p2', lA2, g1, g2, g3, g5]; rfl) ?_))
      refine W_cond (b := false) (by simp only [PArg.eval, Tr.get_set_self, Tr.get_set_ne, hd _, ne_eq, Nat.reduceEqDiff, not_false_eq_true, decide_true, Nat.reduceLT]; try rfl) (fun hb => by cases hb) (fun _ => W_skip ?_)
      show W _ _
      refine W_seq (W_seqR (by simp only [runSeq_cons, runSeq_nil, evalArgs_nil, evalArgs_tmp, evalArgs_const, val1, putT, Tr.get_set_self, Tr.get_set_ne, hd _, ne_eq, Nat.reduceEqDiff, not_false_eq_true, decide_true, Nat.reduceLT, opI_move, opI_eql, g4]; rfl) ?_)
      refine W_cond (b := true) (by simp only [PArg.eval, Tr.get_set_self, Tr.get_set_ne, hd _, ne_eq, Nat.reduceEqDiff, not_false_eq_true, decide_true, Nat.reduceLT]; try rfl) (fun _ => ?_) (fun hb => by cases hb)
      obtain ⟨M3, s', δ', a1, a2, s3, r3, f3, d3, n3⟩ := hs2.push (bytes := 8) (z := [.int .i64 0]) (x := .int .i64 xs[i]) s2 rfl rfl (by omega) rfl (by rw [List.length_map]; omega) (by rw [List.length_map]; omega)
      refine W_seqR (by simp only [runSeq_cons, runSeq_nil, evalArgs_nil, evalArgs_tmp, val1, putT, Tr.get_set_self, Tr.get_set_ne, hd _, ne_eq, Nat.reduceEqDiff, not_false_eq_true, decide_true, Nat.reduceLT, opI_move, h0, h8, h9, p1', p2', a1, a2]; rfl) ?_
      show W _ _
      have hJδ : ¬ J' δ := fun hj => by
        rcases hJ' _ hj with hj | hj
        · exact hJ hj
        · omega
      refine W_seqR (by simp only [runSeq_cons, runSeq_nil, evalArgs_nil, evalArgs_tmp, evalArgs_const, val1, putT, Tr.get_set_self, Tr.get_set_ne, hd _, ne_eq, Nat.reduceEqDiff, not_false_eq_true, decide_true, Nat.reduceLT, opI_move, opI_add, h9]; rfl) ?_
      have hlen : (A ++ [xs[i]]).length = A.length + 1 := by simp
      refine ⟨k - 1, by omega, i + 1, A ++ [xs[i]], l', J', s', δ', by omega, by omega, ⟨?_, ?_, ?_⟩, ?_, by rw [List.map_append]; exact r3, ?_, ?_, by ((repeat (with_reducible apply Dom.set)); exact hd), by simp only [Tr.get_set_ne, ne_eq, Nat.reduceEqDiff, not_false_eq_true, h0], by simp only [Tr.get_set_ne, ne_eq, Nat.reduceEqDiff, not_false_eq_true, h1], by simp only [Tr.get_set_ne, ne_eq, Nat.reduceEqDiff, not_false_eq_true, h2], by simp only [Tr.get_set_ne, ne_eq, Nat.reduceEqDiff, not_false_eq_true, h7], by simp only [Tr.get_set_self, Tr.get_set_ne, hd _, ne_eq, Nat.reduceEqDiff, not_false_eq_true, decide_true, Nat.reduceLT], ?_⟩
      · rw [hlen]; exact hT2.h.frame s3 n3 f3 (fun i hi _ hh => hJδ (hh ▸ hi))
      · exact hT2.m.frame f3 (fun hh => hJδ (hh ▸ hT2.h.jm))
      · rw [hlen]; exact hT2.ns
      · have := hI.add (x := x) (l' := l') xn xt hp
        rw [xa] at this; exact this
      · rcases d3 with rfl | d3
        · exact hJδ
        · intro hj
          have := (hT2.h.jlo _ hj).2
          omega
      · have hne : ((A ++ [xs[i]]).map eI) ≠ [] := by simp
        have h' : RowI M0 M3 1 δ' s' ((A ++ [xs[i]]).map eI) := by rw [List.map_append]; exact r3
        exact h'.id_lt s3.ok hne
      · simp only [Tr.get_set_self, Tr.get_set_ne, hd _, ne_eq, Nat.reduceEqDiff, not_false_eq_true, decide_true, Nat.reduceLT]
        rw [wrapF_small (by omega) (by omega)]; rfl
    · have hr : ¬ (0 ≤ xs[i] ∧ xs[i] ≤ 1099511627776) := by
        unfold chk at hc
        split at hc
        · omega
        · split at hc
          · omega
          · exact absurd rfl hc
      have g3 : (chk xs[i] 0 == 0) = false := by simpa using hc
      have g5 : xorB true true = false := rfl
      refine W_seq (W_block (W_seq (W_seqR (by simp only [runSeq_cons, runSeq_nil, evalArgs_nil, evalArgs_tmp, val1, putT, Tr.get_set_self, Tr.get_set_ne, hd _, ne_eq, Nat.reduceEqDiff, not_false_eq_true, decide_true, Nat.reduceLT, opI_move, opI_extract, opI_callF, h0, h7, h8, h9, p1, p2, lA, cv, c2', List.getElem?_cons_zero, List.getElem?_cons_succ]; rfl) ?_)))
      rcases (show xs[i] < 0 ∨ (0 ≤ xs[i] ∧ xs[i] > 1099511627776) by omega) with hneg | ⟨hneg, hpos⟩
      · have g1 : decide (xs[i] ≥ 0) = false := decide_eq_false (by omega)
        refine W_seq (W_seq (W_seqR (by simp only [runSeq_cons, runSeq_nil, evalArgs_nil, evalArgs_tmp, evalArgs_const, val1, putT, Tr.get_set_self, Tr.get_set_ne, Tr.isSome_set, hd _, ne_eq, Nat.reduceEqDiff, not_false_eq_true, decide_true, Nat.reduceLT, opI_move, opI_geq, opI_eql, opI_eqBool, opI_pick, runSeq_guard (b := false), beq_self_eq_true, Bool.false_beq, Bool.not_true, h0, h9, p1', p2', g1, g3, g5]; rfl) ?_))
        refine W_cond (b := false) (by simp only [PArg.eval, Tr.get_set_self, Tr.get_set_ne, hd _, ne_eq, Nat.reduceEqDiff, not_false_eq_true, decide_true, Nat.reduceLT]; try rfl) (fun hb => by cases hb) (fun _ => W_skip ?_)
        show W _ _
        refine W_seq (W_seqR (by simp only [runSeq_cons, runSeq_nil, evalArgs_nil, evalArgs_tmp, evalArgs_const, val1, putT, Tr.get_set_self, Tr.get_set_ne, hd _, ne_eq, Nat.reduceEqDiff, not_false_eq_true, decide_true, Nat.reduceLT, opI_move, opI_eql, g3]; rfl) ?_)
        refine W_cond (b := false) (by simp only [PArg.eval, Tr.get_set_self, Tr.get_set_ne, hd _, ne_eq, Nat.reduceEqDiff, not_false_eq_true, decide_true, Nat.reduceLT]; try rfl) (fun hb => by cases hb) (fun _ => W_skip ?_)
        show W _ _
        refine W_seqR (by simp only [runSeq_cons, runSeq_nil, evalArgs_nil, evalArgs_tmp, evalArgs_const, val1, putT, Tr.get_set_self, Tr.get_set_ne, hd _, ne_eq, Nat.reduceEqDiff, not_false_eq_true, decide_true, Nat.reduceLT, opI_move, opI_add, h9]; rfl) ?_
        refine ⟨k - 1, by omega, i + 1, A, l, J, s, δ, by omega, by omega, hT, hI, hs, hJ, hδ, by ((repeat (with_reducible apply Dom.set)); exact hd), by simp only [Tr.get_set_ne, ne_eq, Nat.reduceEqDiff, not_false_eq_true, h0], by simp only [Tr.get_set_ne, ne_eq, Nat.reduceEqDiff, not_false_eq_true, h1], by simp only [Tr.get_set_ne, ne_eq, Nat.reduceEqDiff, not_false_eq_true, h2], by simp only [Tr.get_set_ne, ne_eq, Nat.reduceEqDiff, not_false_eq_true, h7], by simp only [Tr.get_set_ne, ne_eq, Nat.reduceEqDiff, not_false_eq_true, h8], ?_⟩
        simp only [Tr.get_set_self, Tr.get_set_ne, hd _, ne_eq, Nat.reduceEqDiff, not_false_eq_true, decide_true, Nat.reduceLT]
        rw [wrapF_small (by omega) (by omega)]; rfl
      · have g1 : decide (xs[i] ≥ 0) = true := decide_eq_true (by omega)
        have g2 : decide (xs[i] ≤ 1099511627776) = false := decide_eq_false (by omega)
        refine W_seq (W_seq (W_seqR (by simp only [runSeq_cons, runSeq_nil, evalArgs_nil, evalArgs_tmp, evalArgs_const, val1, putT, Tr.get_set_self, Tr.get_set_ne, Tr.isSome_set, hd _, ne_eq, Nat.reduceEqDiff, not_false_eq_true, decide_true, Nat.reduceLT, opI_move, opI_leq, opI_geq, opI_eql, opI_eqBool, opI_pick, runSeq_guard (b := true), runSeq_guard (b := false), beq_self_eq_true, Bool.false_beq, Bool.not_true, h0, h9, p1', p2', g1, g2, g3, g5]; rfl) ?_))
        refine W_cond (b := false) (by simp only [PArg.eval, Tr.get_set_self, Tr.get_set_ne, hd _, ne_eq, Nat.reduceEqDiff, not_false_eq_true, decide_true, Nat.reduceLT]; try rfl) (fun hb => by cases hb) (fun _ => W_skip ?_)
        show W _ _
        refine W_seq (W_seqR (by simp only [runSeq_cons, runSeq_nil, evalArgs_nil, evalArgs_tmp, evalArgs_const, val1, putT, Tr.get_set_self, Tr.get_set_ne, hd _, ne_eq, Nat.reduceEqDiff, not_false_eq_true, decide_true, Nat.reduceLT, opI_move, opI_eql, g3]; rfl) ?_)
        refine W_cond (b := false) (by simp only [PArg.eval, Tr.get_set_self, Tr.get_set_ne, hd _, ne_eq, Nat.reduceEqDiff, not_false_eq_true, decide_true, Nat.reduceLT]; try rfl) (fun hb => by cases hb) (fun _ => W_skip ?_)
        show W _ _
        refine W_seqR (by simp only [runSeq_cons, runSeq_nil, evalArgs_nil, evalArgs_tmp, evalArgs_const, val1, putT, Tr.get_set_self, Tr.get_set_ne, hd _, ne_eq, Nat.reduceEqDiff, not_false_eq_true, decide_true, Nat.reduceLT, opI_move, opI_add, h9]; rfl) ?_
        refine ⟨k - 1, by omega, i + 1, A, l, J, s, δ, by omega, by omega, hT, hI, hs, hJ, hδ, by ((repeat (with_reducible apply Dom.set)); exact hd), by simp only [Tr.get_set_ne, ne_eq, Nat.reduceEqDiff, not_false_eq_true, h0], by simp only [Tr.get_set_ne, ne_eq, Nat.reduceEqDiff, not_false_eq_true, h1], by simp only [Tr.get_set_ne, ne_eq, Nat.reduceEqDiff, not_false_eq_true, h2], by simp only [Tr.get_set_ne, ne_eq, Nat.reduceEqDiff, not_false_eq_true, h7], by simp only [Tr.get_set_ne, ne_eq, Nat.reduceEqDiff, not_false_eq_true, h8], ?_⟩
        simp only [Tr.get_set_self, Tr.get_set_ne, hd _, ne_eq, Nat.reduceEqDiff, not_false_eq_true, decide_true, Nat.reduceLT]
        rw [wrapF_small (by omega) (by omega)]; rfl
  refine W_exit ?_
  show W _ _
  have lA := rowA_len hs hT.h.step.ok.1
  obtain ⟨M2, a1, s2, n2, rG, fG⟩ := make_bools (n := A.length) hT.h.step (by omega)
  refine W_seq (W_seqR (by simp only [runSeq_cons, runSeq_nil, evalArgs_nil, evalArgs_tmp, val1, putT, Tr.get_set_self, Tr.get_set_ne, hd _, ne_eq, Nat.reduceEqDiff, not_false_eq_true, decide_true, Nat.reduceLT, opI_move, h8, lA, a1]; rfl) ?_)
  have hT2 := hT.frame (ids := fun _ => False) s2 (by omega) (fG _) (fun _ _ hh => hh)
  have hs2 := hs.frame (fG (fun _ => False)) (fun hh => hh)
  have hJ2 : ¬ J M.n := fun hj => by have := (hT.h.jlo _ hj).2; omega
  generalize AV.slice (some (M.n, 0)) A.length A.length false = gv at *
  obtain ⟨γ, hγ⟩ : ∃ γ, γ = M.n := ⟨_, rfl⟩
  rw [← hγ] at rG hJ2
  have hδγ : δ ≠ γ := by omega
  have hA100 : A.length ≤ 100 := by omega
  clear hx l0 hb lA a1 fG
  refine W_seq (W_seq (W_seqR (by simp only [runSeq_cons, runSeq_nil, evalArgs_nil, evalArgs_const, val1, putT, opI_move]; rfl) (W_block (W_loop (fun k t M' => ∃ (j : Nat) (G : List Bool) (l : List En), k + j = ds.length ∧ TS M0 M' J tb mb l A.length 0 ∧ Inv A G l ∧ RowI M0 M' 1 δ s (A.map eI) ∧ RowI M0 M' 1 γ gv (G.map eB) ∧ γ < M'.n ∧ Dom t 305 ∧ t.get 0 = some v0 ∧ t.get 1 = some v1 ∧ t.get 2 = some v2 ∧ t.get 7 = some (.ptr (some (tb, 0))) ∧ t.get 8 = some s ∧ t.get 12 = some gv ∧ t.get 13 = some (.int .i64 j)) (k := ds.length) (by omega) ?_ ?_))))
  · exact ⟨0, _, l, rfl, hT2, hI, hs2, rG, by omega, by ((repeat (with_reducible apply Dom.set)); exact hd), by simp only [Tr.get_set_ne, ne_eq, Nat.reduceEqDiff, not_false_eq_true, h0], by simp only [Tr.get_set_ne, ne_eq, Nat.reduceEqDiff, not_false_eq_true, h1], by simp only [Tr.get_set_ne, ne_eq, Nat.reduceEqDiff, not_false_eq_true, h2], by simp only [Tr.get_set_ne, ne_eq, Nat.reduceEqDiff, not_false_eq_true, h7], by simp only [Tr.get_set_ne, ne_eq, Nat.reduceEqDiff, not_false_eq_true, h8], by simp only [Tr.get_set_self, Tr.get_set_ne, hd _, ne_eq, Nat.reduceEqDiff, not_false_eq_true, decide_true, Nat.reduceLT], by simp only [Tr.get_set_self, Tr.get_set_ne, hd _, ne_eq, Nat.reduceEqDiff, not_false_eq_true, decide_true, Nat.reduceLT]; rfl⟩
  clear hT hI hs hd h0 h1 h2 h7 h8 h9 hT2 hs2 rG s2 n2 hk hAi
  rename_i _ _ hAx
  intro k t M ⟨j, G, l, hk, hT, hI, hs, hG, hγn, hd, h0, h1, h2, h7, h8, h12, h13⟩
  have hx := hd0.grow hT.h.step.grow
  have l1 := hx.len
  refine W_seq (W_seq (W_seqR (by simp only [runSeq_cons, runSeq_nil, evalArgs_nil, evalArgs_tmp, val1, putT, Tr.get_set_self, Tr.get_set_ne, hd _, ne_eq, Nat.reduceEqDiff, not_false_eq_true, decide_true, Nat.reduceLT, opI_move, opI_lss, h1, h13, l1]; rfl) ?_))
  refine W_cond (by simp only [PArg.eval, Tr.get_set_self, Tr.get_set_ne, hd _, ne_eq, Nat.reduceEqDiff, not_false_eq_true, decide_true, Nat.reduceLT]; rfl) (fun hb => W_skip ?_) (fun hb => ?_)
  · have hj : j < ds.length := by simpa using hb
    obtain ⟨p, pp, p1, p2⟩ := hx.at_ hj
    have lA := rowA_len hs hT.h.step.ok.1
    obtain ⟨r, M2, c2, s2, n2, f2, ho⟩ := drop_ok hT d ds[j]
    have c2' : callF tbl code 100000 (d + 7) 8 [.ptr (some (tb, 0)), .int .i64 ds[j]] M = some (r, M2) := c2
    have hx2 := hd0.grow s2.grow
    obtain ⟨p', pp', p1', p2'⟩ := hx2.at_ hj
    have g5 : xorB true true = false := rfl
    show W _ _
    by_cases hin : 0 ≤ ds[j] ∧ ds[j] < A.length ∧ G.getD ds[j].toNat false = false
    · obtain ⟨i1, i2, i3⟩ := hin
      obtain ⟨n, hn⟩ : ∃ n : Nat, ds[j] = n := ⟨ds[j].toNat, by omega⟩
      rw [hn] at p2 p2' c2' i3 i2 ho
      rw [Int.toNat_natCast] at i3
      have hnA : n < A.length := by omega
      have hnG : n < G.length := by rw [hI.len]; exact hnA
      obtain ⟨x, hxm, hxn⟩ := (hI.mem n hnA).1 i3
      rcases ho with ⟨x', l', hm', hn', hp, rfl, hT2⟩ | ⟨hno, _⟩
      rotate_left
      · exact absurd hxn (hno x hxm)
      obtain ⟨_, _, _, _, hI2⟩ := hI.drop hn' hp
      obtain ⟨b1, b2⟩ := rowB_at hG hT.h.step.ok.1 hnG
      have b1' := b1 M
      rw [i3] at b2
      have hs2 := hs.frame f2 hJ
      have hG2 := hG.frame f2 hJ2
      have g1 : decide ((n : Int) ≥ 0) = true := decide_eq_true (by omega)
      have g2 : decide ((n : Int) < A.length) = true := decide_eq_true (by omega)
      have g4 : ((0 : Int) == 0) = true := rfl
      refine W_seq (W_block ?_)
      refine W_seq (W_seqR (by simp only [runSeq_cons, runSeq_nil, evalArgs_nil, evalArgs_tmp, evalArgs_const, val1, putT, Tr.get_set_self, Tr.get_set_ne, Tr.isSome_set, hd _, ne_eq, Nat.reduceEqDiff, not_false_eq_true, decide_true, Nat.reduceLT, opI_move, opI_not, opI_lss, opI_geq, opI_pick, runSeq_guard (b := true), beq_self_eq_true, Bool.not_false, h1, h8, h12, h13, p1, p2, lA, b1', b2, g1, g2]; rfl) ?_)
      refine W_seq (W_seq (W_seqR (by simp only [runSeq_cons, runSeq_nil, evalArgs_nil, evalArgs_tmp, evalArgs_const, val1, putT, Tr.get_set_self, Tr.get_set_ne, hd _, ne_eq, Nat.reduceEqDiff, not_false_eq_true, decide_true, Nat.reduceLT, opI_move, opI_eql, opI_eqBool, opI_callF, h1, h7, h13, p1, p2, c2', g4]; rfl) ?_))
      refine W_cond (b := false) (by simp only [PArg.eval, Tr.get_set_self, Tr.get_set_ne, hd _, ne_eq, Nat.reduceEqDiff, not_false_eq_true, decide_true, Nat.reduceLT]; try rfl) (fun hb => by cases hb) (fun _ => W_skip ?_)
      show W _ _
      refine W_seq (W_seqR (by simp only [runSeq_cons, runSeq_nil, evalArgs_nil, evalArgs_tmp, val1, putT, Tr.get_set_self, Tr.get_set_ne, hd _, ne_eq, Nat.reduceEqDiff, not_false_eq_true, decide_true, Nat.reduceLT, opI_move]; rfl) ?_)
      refine W_cond (b := true) (by simp only [PArg.eval, Tr.get_set_self, Tr.get_set_ne, hd _, ne_eq, Nat.reduceEqDiff, not_false_eq_true, decide_true, Nat.reduceLT]; try rfl) (fun _ => ?_) (fun hb => by cases hb)
      obtain ⟨M3, e3, s3, hG3, f3, n3⟩ := rowB_put s2 hG2 hnG true
      have b1'' := b1 M2
      refine W_seqR (by simp only [runSeq_cons, runSeq_nil, evalArgs_nil, evalArgs_tmp, evalArgs_const, val1, putT, Tr.get_set_self, Tr.get_set_ne, hd _, ne_eq, Nat.reduceEqDiff, not_false_eq_true, decide_true, Nat.reduceLT, opI_move, h1, h12, h13, p1', p2', b1'', e3]; rfl) ?_
      show W _ _
      refine W_seqR (by simp only [runSeq_cons, runSeq_nil, evalArgs_nil, evalArgs_tmp, evalArgs_const, val1, putT, Tr.get_set_self, Tr.get_set_ne, hd _, ne_eq, Nat.reduceEqDiff, not_false_eq_true, decide_true, Nat.reduceLT, opI_move, opI_add, h13]; rfl) ?_
      refine ⟨k - 1, by omega, j + 1, G.set n true, l', by omega, hT2.frame s3 (by omega) f3 (fun i hi hh => hJ2 (hh ▸ hi)), hI2, hs2.frame f3 (fun hh => hδγ hh), hG3, by omega, by ((repeat (with_reducible apply Dom.set)); exact hd), by simp only [Tr.get_set_ne, ne_eq, Nat.reduceEqDiff, not_false_eq_true, h0], by simp only [Tr.get_set_ne, ne_eq, Nat.reduceEqDiff, not_false_eq_true, h1], by simp only [Tr.get_set_ne, ne_eq, Nat.reduceEqDiff, not_false_eq_true, h2], by simp only [Tr.get_set_ne, ne_eq, Nat.reduceEqDiff, not_false_eq_true, h7], by simp only [Tr.get_set_ne, ne_eq, Nat.reduceEqDiff, not_false_eq_true, h8], by simp only [Tr.get_set_ne, ne_eq, Nat.reduceEqDiff, not_false_eq_true, h12], ?_⟩
      simp only [Tr.get_set_self, Tr.get_set_ne, hd _, ne_eq, Nat.reduceEqDiff, not_false_eq_true, decide_true, Nat.reduceLT]
      rw [wrapF_small (by omega) (by omega)]; rfl
    · have hno := hI.gone hin
      rcases ho with ⟨x', l', hm', hn', _⟩ | ⟨_, rfl, rfl⟩
      · exact absurd hn' (hno x' hm')
      have g4 : ((15 : Int) == 0) = false := rfl
      refine W_seq (W_block ?_)
      rcases (show ds[j] < 0 ∨ (0 ≤ ds[j] ∧ ds[j] ≥ A.length) ∨ ∃ n : Nat, ds[j] = n ∧ n < A.length by
        rcases Int.lt_or_le ds[j] 0 with h | h
        · exact .inl h
        · rcases Int.lt_or_le ds[j] A.length with h' | h'
          · exact .inr (.inr ⟨ds[j].toNat, by omega, by omega⟩)
          · exact .inr (.inl ⟨h, h'⟩)) with hneg | ⟨hneg, hpos⟩ | ⟨n, hn, hnA⟩
      · have g1 : decide (ds[j] ≥ 0) = false := decide_eq_false (by omega)
        refine W_seq (W_seqR (by simp only [runSeq_cons, runSeq_nil, evalArgs_nil, evalArgs_tmp, evalArgs_const, val1, putT, Tr.get_set_self, Tr.get_set_ne, Tr.isSome_set, hd _, ne_eq, Nat.reduceEqDiff, not_false_eq_true, decide_true, Nat.reduceLT, opI_move, opI_geq, opI_pick, runSeq_guard (b := false), Bool.false_beq, Bool.not_true, h1, h13, p1, p2, g1]; rfl) ?_)
        refine W_seq (W_seq (W_seqR (by simp only [runSeq_cons, runSeq_nil, evalArgs_nil, evalArgs_tmp, evalArgs_const, val1, putT, Tr.get_set_self, Tr.get_set_ne, hd _, ne_eq, Nat.reduceEqDiff, not_false_eq_true, decide_true, Nat.reduceLT, opI_move, opI_eql, opI_eqBool, opI_callF, h1, h7, h13, p1, p2, c2', g4]; rfl) ?_))
        refine W_cond (b := false) (by simp only [PArg.eval, Tr.get_set_self, Tr.get_set_ne, hd _, ne_eq, Nat.reduceEqDiff, not_false_eq_true, decide_true, Nat.reduceLT]; try rfl) (fun hb => by cases hb) (fun _ => W_skip ?_)
        show W _ _
        refine W_seq (W_seqR (by simp only [runSeq_cons, runSeq_nil, evalArgs_nil, evalArgs_tmp, val1, putT, Tr.get_set_self, Tr.get_set_ne, hd _, ne_eq, Nat.reduceEqDiff, not_false_eq_true, decide_true, Nat.reduceLT, opI_move]; rfl) ?_)
        refine W_cond (b := false) (by simp only [PArg.eval, Tr.get_set_self, Tr.get_set_ne, hd _, ne_eq, Nat.reduceEqDiff, not_false_eq_true, decide_true, Nat.reduceLT]; try rfl) (fun hb => by cases hb) (fun _ => W_skip ?_)
        show W _ _
        refine W_seqR (by simp only [runSeq_cons, runSeq_nil, evalArgs_nil, evalArgs_tmp, evalArgs_const, val1, putT, Tr.get_set_self, Tr.get_set_ne, hd _, ne_eq, Nat.reduceEqDiff, not_false_eq_true, decide_true, Nat.reduceLT, opI_move, opI_add, h13]; rfl) ?_
        refine ⟨k - 1, by omega, j + 1, G, l, by omega, hT, hI, hs, hG, hγn, by ((repeat (with_reducible apply Dom.set)); exact hd), by simp only [Tr.get_set_ne, ne_eq, Nat.reduceEqDiff, not_false_eq_true, h0], by simp only [Tr.get_set_ne, ne_eq, Nat.reduceEqDiff, not_false_eq_true, h1], by simp only [Tr.get_set_ne, ne_eq, Nat.reduceEqDiff, not_false_eq_true, h2], by simp only [Tr.get_set_ne, ne_eq, Nat.reduceEqDiff, not_false_eq_true, h7], by simp only [Tr.get_set_ne, ne_eq, Nat.reduceEqDiff, not_false_eq_true, h8], by simp only [Tr.get_set_ne, ne_eq, Nat.reduceEqDiff, not_false_eq_true, h12], ?_⟩
        simp only [Tr.get_set_self, Tr.get_set_ne, hd _, ne_eq, Nat.reduceEqDiff, not_false_eq_true, decide_true, Nat.reduceLT]
        rw [wrapF_small (by omega) (by omega)]; rfl
      · have g1 : decide (ds[j] ≥ 0) = true := decide_eq_true (by omega)
        have g2 : decide (ds[j] < A.length) = false := decide_eq_false (by omega)
        refine W_seq (W_seqR (by simp only [runSeq_cons, runSeq_nil, evalArgs_nil, evalArgs_tmp, evalArgs_const, val1, putT, Tr.get_set_self, Tr.get_set_ne, Tr.isSome_set, hd _, ne_eq, Nat.reduceEqDiff, not_false_eq_true, decide_true, Nat.reduceLT, opI_move, opI_lss, opI_geq, opI_pick, runSeq_guard (b := true), runSeq_guard (b := false), beq_self_eq_true, Bool.false_beq, Bool.not_true, h1, h8, h13, p1, p2, lA, g1, g2]; rfl) ?_)
        refine W_seq (W_seq (W_seqR (by simp only [runSeq_cons, runSeq_nil, evalArgs_nil, evalArgs_tmp, evalArgs_const, val1, putT, Tr.get_set_self, Tr.get_set_ne, hd _, ne_eq, Nat.reduceEqDiff, not_false_eq_true, decide_true, Nat.reduceLT, opI_move, opI_eql, opI_eqBool, opI_callF, h1, h7, h13, p1, p2, c2', g4]; rfl) ?_))
        refine W_cond (b := false) (by simp only [PArg.eval, Tr.get_set_self, Tr.get_set_ne, hd _, ne_eq, Nat.reduceEqDiff, not_false_eq_true, decide_true, Nat.reduceLT]; try rfl) (fun hb => by cases hb) (fun _ => W_skip ?_)
        show W _ _
        refine W_seq (W_seqR (by simp only [runSeq_cons, runSeq_nil, evalArgs_nil, evalArgs_tmp, val1, putT, Tr.get_set_self, Tr.get_set_ne, hd _, ne_eq, Nat.reduceEqDiff, not_false_eq_true, decide_true, Nat.reduceLT, opI_move]; rfl) ?_)
        refine W_cond (b := false) (by simp only [PArg.eval, Tr.get_set_self, Tr.get_set_ne, hd _, ne_eq, Nat.reduceEqDiff, not_false_eq_true, decide_true, Nat.reduceLT]; try rfl) (fun hb => by cases hb) (fun _ => W_skip ?_)
        show W _ _
        refine W_seqR (by simp only [runSeq_cons, runSeq_nil, evalArgs_nil, evalArgs_tmp, evalArgs_const, val1, putT, Tr.get_set_self, Tr.get_set_ne, hd _, ne_eq, Nat.reduceEqDiff, not_false_eq_true, decide_true, Nat.reduceLT, opI_move, opI_add, h13]; rfl) ?_
        refine ⟨k - 1, by omega, j + 1, G, l, by omega, hT, hI, hs, hG, hγn, by ((repeat (with_reducible apply Dom.set)); exact hd), by simp only [Tr.get_set_ne, ne_eq, Nat.reduceEqDiff, not_false_eq_true, h0], by simp only [Tr.get_set_ne, ne_eq, Nat.reduceEqDiff, not_false_eq_true, h1], by simp only [Tr.get_set_ne, ne_eq, Nat.reduceEqDiff, not_false_eq_true, h2], by simp only [Tr.get_set_ne, ne_eq, Nat.reduceEqDiff, not_false_eq_true, h7], by simp only [Tr.get_set_ne, ne_eq, Nat.reduceEqDiff, not_false_eq_true, h8], by simp only [Tr.get_set_ne, ne_eq, Nat.reduceEqDiff, not_false_eq_true, h12], ?_⟩
        simp only [Tr.get_set_self, Tr.get_set_ne, hd _, ne_eq, Nat.reduceEqDiff, not_false_eq_true, decide_true, Nat.reduceLT]
        rw [wrapF_small (by omega) (by omega)]; rfl
      · have hnG : n < G.length := by rw [hI.len]; exact hnA
        obtain ⟨b1, b2⟩ := rowB_at hG hT.h.step.ok.1 hnG
        have b1' := b1 M2
        have i3 : G.getD n false = true := by
          cases hg : G.getD n false with
          | true => rfl
          | false => exact absurd ⟨by omega, by omega, by rw [hn]; exact hg⟩ hin
        rw [i3] at b2
        rw [hn] at p2 c2'
        have g1 : decide ((n : Int) ≥ 0) = true := decide_eq_true (by omega)
        have g2 : decide ((n : Int) < A.length) = true := decide_eq_true (by omega)
        refine W_seq (W_seqR (by simp only [runSeq_cons, runSeq_nil, evalArgs_nil, evalArgs_tmp, evalArgs_const, val1, putT, Tr.get_set_self, Tr.get_set_ne, Tr.isSome_set, hd _, ne_eq, Nat.reduceEqDiff, not_false_eq_true, decide_true, Nat.reduceLT, opI_move, opI_not, opI_lss, opI_geq, opI_pick, runSeq_guard (b := true), beq_self_eq_true, Bool.not_true, h1, h8, h12, h13, p1, p2, lA, b1', b2, g1, g2]; rfl) ?_)
        refine W_seq (W_seq (W_seqR (by simp only [runSeq_cons, runSeq_nil, evalArgs_nil, evalArgs_tmp, evalArgs_const, val1, putT, Tr.get_set_self, Tr.get_set_ne, hd _, ne_eq, Nat.reduceEqDiff, not_false_eq_true, decide_true, Nat.reduceLT, opI_move, opI_eql, opI_eqBool, opI_callF, h1, h7, h13, p1, p2, c2', g4]; rfl) ?_))
        refine W_cond (b := false) (by simp only [PArg.eval, Tr.get_set_self, Tr.get_set_ne, hd _, ne_eq, Nat.reduceEqDiff, not_false_eq_true, decide_true, Nat.reduceLT]; try rfl) (fun hb => by cases hb) (fun _ => W_skip ?_)
        show W _ _
        refine W_seq (W_seqR (by simp only [runSeq_cons, runSeq_nil, evalArgs_nil, evalArgs_tmp, val1, putT, Tr.get_set_self, Tr.get_set_ne, hd _, ne_eq, Nat.reduceEqDiff, not_false_eq_true, decide_true, Nat.reduceLT, opI_move]; rfl) ?_)
        refine W_cond (b := false) (by simp only [PArg.eval, Tr.get_set_self, Tr.get_set_ne, hd _, ne_eq, Nat.reduceEqDiff, not_false_eq_true, decide_true, Nat.reduceLT]; try rfl) (fun hb => by cases hb) (fun _ => W_skip ?_)
        show W _ _
        refine W_seqR (by simp only [runSeq_cons, runSeq_nil, evalArgs_nil, evalArgs_tmp, evalArgs_const, val1, putT, Tr.get_set_self, Tr.get_set_ne, hd _, ne_eq, Nat.reduceEqDiff, not_false_eq_true, decide_true, Nat.reduceLT, opI_move, opI_add, h13]; rfl) ?_
        refine ⟨k - 1, by omega, j + 1, G, l, by omega, hT, hI, hs, hG, hγn, by ((repeat (with_reducible apply Dom.set)); exact hd), by simp only [Tr.get_set_ne, ne_eq, Nat.reduceEqDiff, not_false_eq_true, h0], by simp only [Tr.get_set_ne, ne_eq, Nat.reduceEqDiff, not_false_eq_true, h1], by simp only [Tr.get_set_ne, ne_eq, Nat.reduceEqDiff, not_false_eq_true, h2], by simp only [Tr.get_set_ne, ne_eq, Nat.reduceEqDiff, not_false_eq_true, h7], by simp only [Tr.get_set_ne, ne_eq, Nat.reduceEqDiff, not_false_eq_true, h8], by simp only [Tr.get_set_ne, ne_eq, Nat.reduceEqDiff, not_false_eq_true, h12], ?_⟩
        simp only [Tr.get_set_self, Tr.get_set_ne, hd _, ne_eq, Nat.reduceEqDiff, not_false_eq_true, decide_true, Nat.reduceLT]
        rw [wrapF_small (by omega) (by omega)]; rfl
  refine W_exit ?_
  show W _ _
  refine W_seq (W_seq (W_seqR (by simp only [runSeq_cons, runSeq_nil, evalArgs_nil, evalArgs_const, val1, putT, opI_move]; rfl) (W_block (W_loop (fun k t M' => ∃ (j : Nat) (G : List Bool) (l : List En) (now : Int), k + j = ls.length ∧ 0 ≤ now ∧ TS M0 M' J tb mb l A.length now ∧ Inv A G l ∧ RowI M0 M' 1 δ s (A.map eI) ∧ RowI M0 M' 1 γ gv (G.map eB) ∧ γ < M'.n ∧ Dom t 305 ∧ t.get 2 = some v2 ∧ t.get 7 = some (.ptr (some (tb, 0))) ∧ t.get 8 = some s ∧ t.get 12 = some gv ∧ t.get 15 = some (.int .i64 j)) (k := ls.length) (by omega) ?_ ?_))))
  · exact ⟨0, _, l, 0, rfl, Int.le_refl _, hT, hI, hs, hG, hγn, by ((repeat (with_reducible apply Dom.set)); exact hd), by simp only [Tr.get_set_ne, ne_eq, Nat.reduceEqDiff, not_false_eq_true, h2], by simp only [Tr.get_set_ne, ne_eq, Nat.reduceEqDiff, not_false_eq_true, h7], by simp only [Tr.get_set_ne, ne_eq, Nat.reduceEqDiff, not_false_eq_true, h8], by simp only [Tr.get_set_ne, ne_eq, Nat.reduceEqDiff, not_false_eq_true, h12], by simp only [Tr.get_set_self, Tr.get_set_ne, hd _, ne_eq, Nat.reduceEqDiff, not_false_eq_true, decide_true, Nat.reduceLT]; rfl⟩
  clear hT hI hs hd h0 h1 h2 h7 h8 hG h12 h13 hx l1 hb hk
  intro hkk t M ⟨j, G, l, now, hk, hnow, hT, hI, hs, hG, hγn, hd, h2, h7, h8, h12, h15⟩
  have hx := hl0.grow hT.h.step.grow
  have l2 := hx.len
  refine W_seq (W_seq (W_seqR (by simp only [runSeq_cons, runSeq_nil, evalArgs_nil, evalArgs_tmp, val1, putT, Tr.get_set_self, Tr.get_set_ne, hd _, ne_eq, Nat.reduceEqDiff, not_false_eq_true, decide_true, Nat.reduceLT, opI_move, opI_lss, h2, h15, l2]; rfl) ?_))
  refine W_cond (by simp only [PArg.eval, Tr.get_set_self, Tr.get_set_ne, hd _, ne_eq, Nat.reduceEqDiff, not_false_eq_true, decide_true, Nat.reduceLT]; rfl) (fun hb => W_skip ?_) (fun hb => ?_)
  · have hj : j < ls.length := by simpa using hb
    obtain ⟨p, pp, p1, p2⟩ := hx.at_ hj
    have nw := now_ok hT.h (d + 6)
    have nw' : callF tbl code 100000 (d + 7) 9 [.ptr (some (tb, 0))] M = some (.int .i64 now, M) := nw
    show W _ _
    refine W_seq (W_block ?_)
    refine W_seq (W_seqR (by simp only [runSeq_cons, runSeq_nil, evalArgs_nil, evalArgs_tmp, val1, putT, Tr.get_set_self, Tr.get_set_ne, hd _, ne_eq, Nat.reduceEqDiff, not_false_eq_true, decide_true, Nat.reduceLT, opI_move, opI_callF, h7, nw']; rfl) ?_)
    obtain ⟨r, M2, c2, s2, n2, f2, ho⟩ := due_ok hT d ls[j]
    have c2' : callF tbl code 100000 (d + 7) 10 [.ptr (some (tb, 0)), .int .i64 ls[j]] M = some (r, M2) := c2
    rcases ho with ⟨hc, v, out, l', rfl, ⟨ε, hε, hv⟩, hp, hpw, hle, hgt, hT2⟩ | ⟨hc, rfl, rfl⟩
    · refine W_seq (W_seqR (by simp only [runSeq_cons, runSeq_nil, evalArgs_nil, evalArgs_tmp, val1, putT, Tr.get_set_self, Tr.get_set_ne, hd _, ne_eq, Nat.reduceEqDiff, not_false_eq_true, decide_true, Nat.reduceLT, opI_move, opI_extract, opI_callF, h2, h7, h15, p1, p2, c2', List.getElem?_cons_zero, List.getElem?_cons_succ]; rfl) ?_)
      have g0 : ((0 : Int) != 0) = false := rfl
      refine W_seq (W_seq (W_seqR (by simp only [runSeq_cons, runSeq_nil, evalArgs_nil, evalArgs_tmp, evalArgs_const, val1, putT, Tr.get_set_self, Tr.get_set_ne, hd _, ne_eq, Nat.reduceEqDiff, not_false_eq_true, decide_true, Nat.reduceLT, opI_move, opI_neq, g0]; rfl) ?_))
      refine W_cond (b := false) (by simp only [PArg.eval, Tr.get_set_self, Tr.get_set_ne, hd _, ne_eq, Nat.reduceEqDiff, not_false_eq_true, decide_true, Nat.reduceLT]; try rfl) (fun hb => by cases hb) (fun _ => W_skip ?_)
      show W _ _
      have hz : 0 ≤ ls[j] := by
        unfold chk at hc
        split at hc
        · cases hc
        · omega
      have hs2 := hs.frame f2 hJ
      have hG2 := hG.frame f2 hJ2
      have hex : ∀ o, o < out.length → ∃ n : Nat, n < A.length ∧ (out.getD o dEn).task = n ∧ (out.getD o dEn).n = n ∧ A.getD n 0 = (out.getD o dEn).at_ := fun o ho => by
        have hm : out.getD o dEn ∈ l := hp.mem_iff.2 (List.mem_append_left _ (by rw [List.getD_eq_getElem?_getD, List.getElem?_eq_getElem ho]; exact List.getElem_mem ho))
        obtain ⟨n, a, b, c, e⟩ := hI.ex _ hm
        exact ⟨n, a, c, b, e⟩
      have hIp : Inv A G (out ++ l') := ⟨hI.len, fun k hk => (hI.mem k hk).trans ⟨fun ⟨x, hx, he⟩ => ⟨x, hp.mem_iff.1 hx, he⟩, fun ⟨x, hx, he⟩ => ⟨x, hp.mem_iff.2 hx, he⟩⟩, fun x hx => hI.ex x (hp.mem_iff.2 hx), (hp.map _).nodup_iff.1 hI.ns⟩
      refine W_seq (W_seq (W_seqR (by simp only [runSeq_cons, runSeq_nil, evalArgs_nil, evalArgs_const, val1, putT, opI_move]; rfl) (W_block (W_loop (fun k t M' => ∃ (o : Nat) (G : List Bool), k + o = out.length ∧ TS M0 M' J tb mb l' A.length ls[j] ∧ Inv A G (out.drop o ++ l') ∧ RowI M0 M' 1 δ s (A.map eI) ∧ RowI M0 M' 1 γ gv (G.map eB) ∧ RowI M0 M' 1 ε v (out.map fun y => [.int .u64 y.task]) ∧ γ < M'.n ∧ Dom t 305 ∧ t.get 2 = some v2 ∧ t.get 7 = some (.ptr (some (tb, 0))) ∧ t.get 8 = some s ∧ t.get 12 = some gv ∧ t.get 15 = some (.int .i64 j) ∧ t.get 17 = some v ∧ t.get 19 = some (.int .i64 o)) (k := out.length) ?_ ?_ ?_))))
      · have := hp.length_eq
        have := hT.h.len
        rw [List.length_append] at *
        omega
      · exact ⟨0, _, rfl, hT2, by rw [List.drop_zero]; exact hIp, hs2, hG2, hv, by omega, by ((repeat (with_reducible apply Dom.set)); exact hd), by simp only [Tr.get_set_ne, ne_eq, Nat.reduceEqDiff, not_false_eq_true, h2], by simp only [Tr.get_set_ne, ne_eq, Nat.reduceEqDiff, not_false_eq_true, h7], by simp only [Tr.get_set_ne, ne_eq, Nat.reduceEqDiff, not_false_eq_true, h8], by simp only [Tr.get_set_ne, ne_eq, Nat.reduceEqDiff, not_false_eq_true, h12], by simp only [Tr.get_set_ne, ne_eq, Nat.reduceEqDiff, not_false_eq_true, h15], by simp only [Tr.get_set_self, Tr.get_set_ne, hd _, ne_eq, Nat.reduceEqDiff, not_false_eq_true, decide_true, Nat.reduceLT], by simp only [Tr.get_set_self, Tr.get_set_ne, hd _, ne_eq, Nat.reduceEqDiff, not_false_eq_true, decide_true, Nat.reduceLT]; rfl⟩
      have hγε : ε ≠ γ := by omega
      have hol : out.length ≤ 1000 := by
        have := hp.length_eq
        have := hT.h.len
        rw [List.length_append] at *
        omega
      clear hT hI hs hd h2 h7 h8 hG h12 h15 hx l2 hT2 hs2 hG2 hv nw nw' c2 c2' p1 p2 f2 s2 hp hIp hγn n2
      intro k t M ⟨o, G, hk, hT, hI, hs, hG, hv, hγn, hd, h2, h7, h8, h12, h15, h17, h19⟩
      have hx := hl0.grow hT.h.step.grow
      have l2 := hx.len
      obtain ⟨p, pp, p1, p2⟩ := hx.at_ hj
      have lA := rowA_len hs hT.h.step.ok.1
      have lv := rowU_len hv hT.h.step.ok.1
      refine W_seq (W_seq (W_seqR (by simp only [runSeq_cons, runSeq_nil, evalArgs_nil, evalArgs_tmp, val1, putT, Tr.get_set_self, Tr.get_set_ne, hd _, ne_eq, Nat.reduceEqDiff, not_false_eq_true, decide_true, Nat.reduceLT, opI_move, opI_lss, h17, h19, lv]; rfl) ?_))
      refine W_cond (by simp only [PArg.eval, Tr.get_set_self, Tr.get_set_ne, hd _, ne_eq, Nat.reduceEqDiff, not_false_eq_true, decide_true, Nat.reduceLT]; rfl) (fun hb => W_skip ?_) (fun hb => ?_)
      · have ho : o < out.length := by simpa using hb
        obtain ⟨n, hn, hxt, hxn, hxa⟩ := hex o ho
        obtain ⟨u1, u2⟩ := rowU_at hv hT.h.step.ok.1 ho
        rw [hxt] at u2
        have hnG : n < G.length := by rw [hI.len]; exact hn
        have hdr : out.drop o ++ l' = out.getD o dEn :: (out.drop (o + 1) ++ l') := by
          rw [List.drop_eq_getElem_cons ho, List.getD_eq_getElem?_getD, List.getElem?_eq_getElem ho]; rfl
        rw [hdr] at hI
        obtain ⟨_, i3, _, _, hI2⟩ := hI.drop hxn (.refl _)
        obtain ⟨b1, b2⟩ := rowB_at hG hT.h.step.ok.1 hnG
        rw [i3] at b2
        obtain ⟨a1, a2⟩ := rowA_at hs hT.h.step.ok.1 hn
        rw [hxa] at a2
        have b1' := b1 M
        have a1' := a1 M
        have u1' := u1 M
        have ha_le : (out.getD o dEn).at_ ≤ ls[j] := hle _ (by rw [List.getD_eq_getElem?_getD, List.getElem?_eq_getElem ho]; exact List.getElem_mem ho)
        have cv := opI_convU (M := M) (n := A.length) (by omega)
        have g1 : decide ((n : Int) ≥ A.length) = false := decide_eq_false (by omega)
        have g2 : decide ((out.getD o dEn).at_ > ls[j]) = false := decide_eq_false (by omega)
        show W _ _
        refine W_seq (W_block ?_)
        refine W_seq (W_seq (W_quiet rfl (by simp only [runPure_cons, runPure_nil, ofD_cons, ofD_nil, sameN_self, evalArgs_nil, evalArgs_tmp, evalArgs_const, putT, Tr.get_set_self, Tr.get_set_ne, Tr.isSome_set, hd _, ne_eq, Nat.reduceEqDiff, not_false_eq_true, decide_true, Nat.reduceLT, opI_move, opI_gtr, opI_geq, opI_pick, runPure_guard (b := false), beq_self_eq_true, h2, h8, h12, h15, h17, h19, u1', u2, lA, cv, g1, b1', b2, a1', a2, p1, p2, g2, idx_kind (k := .u64)]; rfl) ?_))
        refine W_cond (b := false) (by simp only [PArg.eval, Tr.get_set_self, Tr.get_set_ne, hd _, ne_eq, Nat.reduceEqDiff, not_false_eq_true, decide_true, Nat.reduceLT]; try rfl) (fun hb => by cases hb) (fun _ => W_skip ?_)
        show W _ _
        obtain ⟨M3, e3, s3, hG3, f3, n3⟩ := rowB_put hT.h.step hG hnG true
        refine W_seq (W_seqR (by simp only [runSeq_cons, runSeq_nil, evalArgs_nil, evalArgs_tmp, evalArgs_const, val1, putT, Tr.get_set_self, Tr.get_set_ne, hd _, ne_eq, Nat.reduceEqDiff, not_false_eq_true, decide_true, Nat.reduceLT, opI_move, h12, h17, h19, u1', u2, b1', e3, idx_kind (k := .u64)]; rfl) ?_)
        have hT3 := hT.frame s3 (by omega) f3 (fun i hi hh => hJ2 (hh ▸ hi))
        have hs3 := hs.frame f3 (fun hh => hδγ hh)
        have hv3 := hv.frame f3 (fun hh => hγε hh)
        have a2' := (rowA_at hs3 s3.ok.1 hn).2
        rw [hxa] at a2'
        have u2' := (rowU_at hv3 s3.ok.1 ho).2
        rw [hxt] at u2'
        have a1'' := a1 M3
        have u1'' := u1 M3
        refine W_forget (fun t => Dom t 305 ∧ t.get 2 = some v2 ∧ t.get 7 = some (.ptr (some (tb, 0))) ∧ t.get 8 = some s ∧ t.get 12 = some gv ∧ t.get 15 = some (.int .i64 j) ∧ t.get 17 = some v ∧ t.get 19 = some (.int .i64 o)) ⟨by ((repeat (with_reducible apply Dom.set)); exact hd), by simp only [Tr.get_set_ne, ne_eq, Nat.reduceEqDiff, not_false_eq_true, h2], by simp only [Tr.get_set_ne, ne_eq, Nat.reduceEqDiff, not_false_eq_true, h7], by simp only [Tr.get_set_ne, ne_eq, Nat.reduceEqDiff, not_false_eq_true, h8], by simp only [Tr.get_set_ne, ne_eq, Nat.reduceEqDiff, not_false_eq_true, h12], by simp only [Tr.get_set_ne, ne_eq, Nat.reduceEqDiff, not_false_eq_true, h15], by simp only [Tr.get_set_ne, ne_eq, Nat.reduceEqDiff, not_false_eq_true, h17], by simp only [Tr.get_set_ne, ne_eq, Nat.reduceEqDiff, not_false_eq_true, h19]⟩ ?_
        clear hd h2 h7 h8 h12 h15 h17 h19
        intro t ⟨hd, h2, h7, h8, h12, h15, h17, h19⟩
        by_cases ho0 : o = 0
        · have g3 : decide ((o : Int) > 0) = false := decide_eq_false (by omega)
          refine W_seq (W_quiet rfl (by simp only [runPure_cons, runPure_nil, ofD_cons, ofD_nil, sameN_self, evalArgs_nil, evalArgs_tmp, evalArgs_const, putT, Tr.get_set_self, Tr.get_set_ne, Tr.isSome_set, hd _, ne_eq, Nat.reduceEqDiff, not_false_eq_true, decide_true, Nat.reduceLT, opI_move, opI_gtr, opI_pick, runPure_guard (b := false), Bool.false_beq, Bool.not_true, runPure_skip, h19, g3]; rfl) ?_)
          refine W_cond (b := false) (by simp only [PArg.eval, Tr.get_set_self, Tr.get_set_ne, hd _, ne_eq, Nat.reduceEqDiff, not_false_eq_true, decide_true, Nat.reduceLT]; try rfl) (fun hb => by cases hb) (fun _ => W_skip ?_)
          show W _ _
          refine W_seqR (by simp only [runSeq_cons, runSeq_nil, evalArgs_nil, evalArgs_tmp, evalArgs_const, val1, putT, Tr.get_set_self, Tr.get_set_ne, hd _, ne_eq, Nat.reduceEqDiff, not_false_eq_true, decide_true, Nat.reduceLT, opI_move, opI_add, h19]; rfl) ?_
          refine ⟨k - 1, by omega, o + 1, G.set n true, by omega, hT3, hI2, hs3, hG3, hv3, by omega, by ((repeat (with_reducible apply Dom.set)); exact hd), by simp only [Tr.get_set_ne, ne_eq, Nat.reduceEqDiff, not_false_eq_true, h2], by simp only [Tr.get_set_ne, ne_eq, Nat.reduceEqDiff, not_false_eq_true, h7], by simp only [Tr.get_set_ne, ne_eq, Nat.reduceEqDiff, not_false_eq_true, h8], by simp only [Tr.get_set_ne, ne_eq, Nat.reduceEqDiff, not_false_eq_true, h12], by simp only [Tr.get_set_ne, ne_eq, Nat.reduceEqDiff, not_false_eq_true, h15], by simp only [Tr.get_set_ne, ne_eq, Nat.reduceEqDiff, not_false_eq_true, h17], ?_⟩
          simp only [Tr.get_set_self, Tr.get_set_ne, hd _, ne_eq, Nat.reduceEqDiff, not_false_eq_true, decide_true, Nat.reduceLT]
          rw [wrapF_small (by omega) (by omega)]; rfl
        have g3 : decide ((o : Int) > 0) = true := decide_eq_true (by omega)
        obtain ⟨o', rfl⟩ : ∃ o', o = o' + 1 := ⟨o - 1, by omega⟩
        have ho' : o' < out.length := by omega
        obtain ⟨m, hm, hyt, hyn, hya⟩ := hex o' ho'
        obtain ⟨w1, w2⟩ := rowU_at hv3 s3.ok.1 ho'
        rw [hyt] at w2
        obtain ⟨z1, z2⟩ := rowA_at hs3 s3.ok.1 hm
        rw [hya] at z2
        have w1' := w1 M3
        have z1' := z1 M3
        have sb : wrapF .i64 (((o' + 1 : Nat) : Int) - 1) = (o' : Int) := by rw [wrapF_small (by omega) (by omega)]; omega
        have hlt : ltE (out.getD (o' + 1) dEn) (out.getD o' dEn) = false := by
          rw [List.getD_eq_getElem?_getD, List.getD_eq_getElem?_getD, List.getElem?_eq_getElem ho, List.getElem?_eq_getElem ho']
          exact List.pairwise_iff_getElem.1 hpw o' (o' + 1) ho' ho (by omega)
        simp only [ltE, decide_eq_false_iff_not, hxn, hyn] at hlt
        have g4 : decide ((out.getD o' dEn).at_ > (out.getD (o' + 1) dEn).at_) = false := decide_eq_false (by omega)
        by_cases he : (out.getD o' dEn).at_ = (out.getD (o' + 1) dEn).at_
        · have g5 : ((out.getD o' dEn).at_ == (out.getD (o' + 1) dEn).at_) = true := by simpa using he
          have g6 : decide ((m : Int) > n) = false := decide_eq_false (by omega)
          refine W_seq (W_quiet rfl (by simp only [runPure_cons, runPure_nil, ofD_cons, ofD_nil, sameN_self, evalArgs_nil, evalArgs_tmp, evalArgs_const, putT, Tr.get_set_self, Tr.get_set_ne, Tr.isSome_set, hd _, ne_eq, Nat.reduceEqDiff, not_false_eq_true, decide_true, Nat.reduceLT, opI_move, opI_gtr, opI_eql, opI_sub, opI_pick, runPure_guard (b := true), runPure_guard (b := false), beq_self_eq_true, h8, h17, h19, g3, sb, w1', w2, z1', z2, a1'', a2', u1'', u2', g4, g5, g6, idx_kind (k := .u64)]; rfl) ?_)
          refine W_cond (b := false) (by simp only [PArg.eval, Tr.get_set_self, Tr.get_set_ne, hd _, ne_eq, Nat.reduceEqDiff, not_false_eq_true, decide_true, Nat.reduceLT]; try rfl) (fun hb => by cases hb) (fun _ => W_skip ?_)
          show W _ _
          refine W_seqR (by simp only [runSeq_cons, runSeq_nil, evalArgs_nil, evalArgs_tmp, evalArgs_const, val1, putT, Tr.get_set_self, Tr.get_set_ne, hd _, ne_eq, Nat.reduceEqDiff, not_false_eq_true, decide_true, Nat.reduceLT, opI_move, opI_add, h19]; rfl) ?_
          refine ⟨k - 1, by omega, (o' + 1) + 1, G.set n true, by omega, hT3, hI2, hs3, hG3, hv3, by omega, by ((repeat (with_reducible apply Dom.set)); exact hd), by simp only [Tr.get_set_ne, ne_eq, Nat.reduceEqDiff, not_false_eq_true, h2], by simp only [Tr.get_set_ne, ne_eq, Nat.reduceEqDiff, not_false_eq_true, h7], by simp only [Tr.get_set_ne, ne_eq, Nat.reduceEqDiff, not_false_eq_true, h8], by simp only [Tr.get_set_ne, ne_eq, Nat.reduceEqDiff, not_false_eq_true, h12], by simp only [Tr.get_set_ne, ne_eq, Nat.reduceEqDiff, not_false_eq_true, h15], by simp only [Tr.get_set_ne, ne_eq, Nat.reduceEqDiff, not_false_eq_true, h17], ?_⟩
          simp only [Tr.get_set_self, Tr.get_set_ne, hd _, ne_eq, Nat.reduceEqDiff, not_false_eq_true, decide_true, Nat.reduceLT]
          rw [wrapF_small (by omega) (by omega)]; rfl
        · have g5 : ((out.getD o' dEn).at_ == (out.getD (o' + 1) dEn).at_) = false := by simpa using he
          refine W_seq (W_quiet rfl (by simp only [runPure_cons, runPure_nil, ofD_cons, ofD_nil, sameN_self, evalArgs_nil, evalArgs_tmp, evalArgs_const, putT, Tr.get_set_self, Tr.get_set_ne, Tr.isSome_set, hd _, ne_eq, Nat.reduceEqDiff, not_false_eq_true, decide_true, Nat.reduceLT, opI_move, opI_gtr, opI_eql, opI_sub, opI_pick, runPure_guard (b := true), runPure_guard (b := false), beq_self_eq_true, Bool.false_beq, Bool.not_true, h8, h17, h19, g3, sb, w1', w2, z1', z2, a1'', a2', u1'', u2', g4, g5, idx_kind (k := .u64)]; rfl) ?_)
          refine W_cond (b := false) (by simp only [PArg.eval, Tr.get_set_self, Tr.get_set_ne, hd _, ne_eq, Nat.reduceEqDiff, not_false_eq_true, decide_true, Nat.reduceLT]; try rfl) (fun hb => by cases hb) (fun _ => W_skip ?_)
          show W _ _
          refine W_seqR (by simp only [runSeq_cons, runSeq_nil, evalArgs_nil, evalArgs_tmp, evalArgs_const, val1, putT, Tr.get_set_self, Tr.get_set_ne, hd _, ne_eq, Nat.reduceEqDiff, not_false_eq_true, decide_true, Nat.reduceLT, opI_move, opI_add, h19]; rfl) ?_
          refine ⟨k - 1, by omega, (o' + 1) + 1, G.set n true, by omega, hT3, hI2, hs3, hG3, hv3, by omega, by ((repeat (with_reducible apply Dom.set)); exact hd), by simp only [Tr.get_set_ne, ne_eq, Nat.reduceEqDiff, not_false_eq_true, h2], by simp only [Tr.get_set_ne, ne_eq, Nat.reduceEqDiff, not_false_eq_true, h7], by simp only [Tr.get_set_ne, ne_eq, Nat.reduceEqDiff, not_false_eq_true, h8], by simp only [Tr.get_set_ne, ne_eq, Nat.reduceEqDiff, not_false_eq_true, h12], by simp only [Tr.get_set_ne, ne_eq, Nat.reduceEqDiff, not_false_eq_true, h15], by simp only [Tr.get_set_ne, ne_eq, Nat.reduceEqDiff, not_false_eq_true, h17], ?_⟩
          simp only [Tr.get_set_self, Tr.get_set_ne, hd _, ne_eq, Nat.reduceEqDiff, not_false_eq_true, decide_true, Nat.reduceLT]
          rw [wrapF_small (by omega) (by omega)]; rfl
      refine W_exit ?_
      show W _ _
      have hoe : out.drop o = [] := by
        have : ¬ ((o : Int) < out.length) := by simpa using hb
        exact List.drop_eq_nil_of_le (by omega)
      rw [hoe, List.nil_append] at hI
      refine W_seq (W_seqR (by simp only [runSeq_cons, runSeq_nil, evalArgs_nil, evalArgs_const, val1, putT, opI_move]; rfl) (W_block (W_loop (fun k t M' => ∃ (q : Nat), k + q = A.length ∧ M' = M ∧ Dom t 305 ∧ t.get 2 = some v2 ∧ t.get 7 = some (.ptr (some (tb, 0))) ∧ t.get 8 = some s ∧ t.get 12 = some gv ∧ t.get 15 = some (.int .i64 j) ∧ t.get 20 = some (.int .i64 q)) (k := A.length) (by omega) ?_ ?_)))
      · exact ⟨0, rfl, rfl, by ((repeat (with_reducible apply Dom.set)); exact hd), by simp only [Tr.get_set_ne, ne_eq, Nat.reduceEqDiff, not_false_eq_true, h2], by simp only [Tr.get_set_ne, ne_eq, Nat.reduceEqDiff, not_false_eq_true, h7], by simp only [Tr.get_set_ne, ne_eq, Nat.reduceEqDiff, not_false_eq_true, h8], by simp only [Tr.get_set_ne, ne_eq, Nat.reduceEqDiff, not_false_eq_true, h12], by simp only [Tr.get_set_ne, ne_eq, Nat.reduceEqDiff, not_false_eq_true, h15], by simp only [Tr.get_set_self, Tr.get_set_ne, hd _, ne_eq, Nat.reduceEqDiff, not_false_eq_true, decide_true, Nat.reduceLT]; rfl⟩
      clear hd h2 h7 h8 h12 h15 h17 h19 hb hk
      intro k t M' ⟨q, hk, hM, hd, h2, h7, h8, h12, h15, h20⟩
      subst hM
      refine W_seq (W_seq (W_seqR (by simp only [runSeq_cons, runSeq_nil, evalArgs_nil, evalArgs_tmp, val1, putT, Tr.get_set_self, Tr.get_set_ne, hd _, ne_eq, Nat.reduceEqDiff, not_false_eq_true, decide_true, Nat.reduceLT, opI_move, opI_lss, h8, h20, lA]; rfl) ?_))
      refine W_cond (by simp only [PArg.eval, Tr.get_set_self, Tr.get_set_ne, hd _, ne_eq, Nat.reduceEqDiff, not_false_eq_true, decide_true, Nat.reduceLT]; rfl) (fun hb => W_skip ?_) (fun hb => ?_)
      · have hq : q < A.length := by simpa using hb
        have hqG : q < G.length := by rw [hI.len]; exact hq
        obtain ⟨b1, b2⟩ := rowB_at hG hT.h.step.ok.1 hqG
        obtain ⟨a1, a2⟩ := rowA_at hs hT.h.step.ok.1 hq
        have b1' := b1 M'
        have a1' := a1 M'
        show W _ _
        refine W_seq (W_block ?_)
        cases hg : G.getD q false with
        | true =>
          rw [hg] at b2
          refine W_seq (W_quiet rfl (by simp only [runPure_cons, runPure_nil, ofD_cons, ofD_nil, sameN_self, evalArgs_nil, evalArgs_tmp, evalArgs_const, putT, Tr.get_set_self, Tr.get_set_ne, Tr.isSome_set, hd _, ne_eq, Nat.reduceEqDiff, not_false_eq_true, decide_true, Nat.reduceLT, opI_move, opI_not, opI_pick, runPure_guard (b := false), Bool.false_beq, Bool.not_true, h12, h20, b1', b2]; rfl) ?_)
          refine W_cond (b := false) (by simp only [PArg.eval, Tr.get_set_self, Tr.get_set_ne, hd _, ne_eq, Nat.reduceEqDiff, not_false_eq_true, decide_true, Nat.reduceLT]; try rfl) (fun hb => by cases hb) (fun _ => W_skip ?_)
          show W _ _
          refine W_seqR (by simp only [runSeq_cons, runSeq_nil, evalArgs_nil, evalArgs_tmp, evalArgs_const, val1, putT, Tr.get_set_self, Tr.get_set_ne, hd _, ne_eq, Nat.reduceEqDiff, not_false_eq_true, decide_true, Nat.reduceLT, opI_move, opI_add, h20]; rfl) ?_
          refine ⟨k - 1, by omega, q + 1, by omega, rfl, by ((repeat (with_reducible apply Dom.set)); exact hd), by simp only [Tr.get_set_ne, ne_eq, Nat.reduceEqDiff, not_false_eq_true, h2], by simp only [Tr.get_set_ne, ne_eq, Nat.reduceEqDiff, not_false_eq_true, h7], by simp only [Tr.get_set_ne, ne_eq, Nat.reduceEqDiff, not_false_eq_true, h8], by simp only [Tr.get_set_ne, ne_eq, Nat.reduceEqDiff, not_false_eq_true, h12], by simp only [Tr.get_set_ne, ne_eq, Nat.reduceEqDiff, not_false_eq_true, h15], ?_⟩
          simp only [Tr.get_set_self, Tr.get_set_ne, hd _, ne_eq, Nat.reduceEqDiff, not_false_eq_true, decide_true, Nat.reduceLT]
          rw [wrapF_small (by omega) (by omega)]; rfl
        | false =>
          rw [hg] at b2
          obtain ⟨x, hx', he⟩ := (hI.mem q hq).1 hg
          obtain ⟨q', _, hq2, _, hq4⟩ := hI.ex x hx'
          have hqq : q' = q := by omega
          subst hqq
          have hgt' := hgt x hx'
          rw [hq4] at a2
          have g1 : decide (x.at_ ≤ ls[j]) = false := decide_eq_false (by omega)
          refine W_seq (W_quiet rfl (by simp only [runPure_cons, runPure_nil, ofD_cons, ofD_nil, sameN_self, evalArgs_nil, evalArgs_tmp, evalArgs_const, putT, Tr.get_set_self, Tr.get_set_ne, Tr.isSome_set, hd _, ne_eq, Nat.reduceEqDiff, not_false_eq_true, decide_true, Nat.reduceLT, opI_move, opI_not, opI_leq, opI_pick, runPure_guard (b := true), beq_self_eq_true, Bool.not_false, h2, h8, h12, h15, h20, b1', b2, a1', a2, p1, p2, g1]; rfl) ?_)
          refine W_cond (b := false) (by simp only [PArg.eval, Tr.get_set_self, Tr.get_set_ne, hd _, ne_eq, Nat.reduceEqDiff, not_false_eq_true, decide_true, Nat.reduceLT]; try rfl) (fun hb => by cases hb) (fun _ => W_skip ?_)
          show W _ _
          refine W_seqR (by simp only [runSeq_cons, runSeq_nil, evalArgs_nil, evalArgs_tmp, evalArgs_const, val1, putT, Tr.get_set_self, Tr.get_set_ne, hd _, ne_eq, Nat.reduceEqDiff, not_false_eq_true, decide_true, Nat.reduceLT, opI_move, opI_add, h20]; rfl) ?_
          refine ⟨k - 1, by omega, q' + 1, by omega, rfl, by ((repeat (with_reducible apply Dom.set)); exact hd), by simp only [Tr.get_set_ne, ne_eq, Nat.reduceEqDiff, not_false_eq_true, h2], by simp only [Tr.get_set_ne, ne_eq, Nat.reduceEqDiff, not_false_eq_true, h7], by simp only [Tr.get_set_ne, ne_eq, Nat.reduceEqDiff, not_false_eq_true, h8], by simp only [Tr.get_set_ne, ne_eq, Nat.reduceEqDiff, not_false_eq_true, h12], by simp only [Tr.get_set_ne, ne_eq, Nat.reduceEqDiff, not_false_eq_true, h15], ?_⟩
          simp only [Tr.get_set_self, Tr.get_set_ne, hd _, ne_eq, Nat.reduceEqDiff, not_false_eq_true, decide_true, Nat.reduceLT]
          rw [wrapF_small (by omega) (by omega)]; rfl
      refine W_exit ?_
      show W _ _
      refine W_seqR (by simp only [runSeq_cons, runSeq_nil, evalArgs_nil, evalArgs_tmp, evalArgs_const, val1, putT, Tr.get_set_self, Tr.get_set_ne, hd _, ne_eq, Nat.reduceEqDiff, not_false_eq_true, decide_true, Nat.reduceLT, opI_move, opI_add, h15]; rfl) ?_
      refine ⟨hkk - 1, by omega, j + 1, G, l', ls[j], by omega, hz, hT, hI, hs, hG, hγn, by ((repeat (with_reducible apply Dom.set)); exact hd), by simp only [Tr.get_set_ne, ne_eq, Nat.reduceEqDiff, not_false_eq_true, h2], by simp only [Tr.get_set_ne, ne_eq, Nat.reduceEqDiff, not_false_eq_true, h7], by simp only [Tr.get_set_ne, ne_eq, Nat.reduceEqDiff, not_false_eq_true, h8], by simp only [Tr.get_set_ne, ne_eq, Nat.reduceEqDiff, not_false_eq_true, h12], ?_⟩
      simp only [Tr.get_set_self, Tr.get_set_ne, hd _, ne_eq, Nat.reduceEqDiff, not_false_eq_true, decide_true, Nat.reduceLT]
      rw [wrapF_small (by omega) (by omega)]; rfl
    · refine W_seq (W_seqR (by simp only [runSeq_cons, runSeq_nil, evalArgs_nil, evalArgs_tmp, val1, putT, Tr.get_set_self, Tr.get_set_ne, hd _, ne_eq, Nat.reduceEqDiff, not_false_eq_true, decide_true, Nat.reduceLT, opI_move, opI_extract, opI_callF, h2, h7, h15, p1, p2, c2', List.getElem?_cons_zero, List.getElem?_cons_succ]; rfl) ?_)
      have g0 : (chk ls[j] now != 0) = true := by simpa using hc
      refine W_seq (W_seq (W_seqR (by simp only [runSeq_cons, runSeq_nil, evalArgs_nil, evalArgs_tmp, evalArgs_const, val1, putT, Tr.get_set_self, Tr.get_set_ne, hd _, ne_eq, Nat.reduceEqDiff, not_false_eq_true, decide_true, Nat.reduceLT, opI_move, opI_neq, g0]; rfl) ?_))
      refine W_cond (b := true) (by simp only [PArg.eval, Tr.get_set_self, Tr.get_set_ne, hd _, ne_eq, Nat.reduceEqDiff, not_false_eq_true, decide_true, Nat.reduceLT]; try rfl) (fun _ => ?_) (fun hb => by cases hb)
      rcases (show ls[j] < now ∨ (ls[j] ≥ now ∧ ls[j] > 1099511627776) by
        unfold chk at hc
        split at hc
        · omega
        · split at hc
          · omega
          · exact absurd rfl hc) with hlt | ⟨hge, hbig⟩
      · have g1 : decide (ls[j] ≥ now) = false := decide_eq_false (by omega)
        refine W_seq (W_seq (W_seqR (by simp only [runSeq_cons, runSeq_nil, evalArgs_nil, evalArgs_tmp, evalArgs_const, val1, putT, Tr.get_set_self, Tr.get_set_ne, Tr.isSome_set, hd _, ne_eq, Nat.reduceEqDiff, not_false_eq_true, decide_true, Nat.reduceLT, opI_move, opI_geq, opI_pick, runSeq_guard (b := false), Bool.false_beq, Bool.not_true, h2, h15, p1, p2, g1]; rfl) ?_))
        refine W_cond (b := false) (by simp only [PArg.eval, Tr.get_set_self, Tr.get_set_ne, hd _, ne_eq, Nat.reduceEqDiff, not_false_eq_true, decide_true, Nat.reduceLT]; try rfl) (fun hb => by cases hb) (fun _ => W_skip ?_)
        show W _ _
        refine W_exit ?_
        show W _ _
        refine W_seqR (by simp only [runSeq_cons, runSeq_nil, evalArgs_nil, evalArgs_tmp, evalArgs_const, val1, putT, Tr.get_set_self, Tr.get_set_ne, hd _, ne_eq, Nat.reduceEqDiff, not_false_eq_true, decide_true, Nat.reduceLT, opI_move, opI_add, h15]; rfl) ?_
        refine ⟨hkk - 1, by omega, j + 1, G, l, now, by omega, hnow, hT, hI, hs, hG, hγn, by ((repeat (with_reducible apply Dom.set)); exact hd), by simp only [Tr.get_set_ne, ne_eq, Nat.reduceEqDiff, not_false_eq_true, h2], by simp only [Tr.get_set_ne, ne_eq, Nat.reduceEqDiff, not_false_eq_true, h7], by simp only [Tr.get_set_ne, ne_eq, Nat.reduceEqDiff, not_false_eq_true, h8], by simp only [Tr.get_set_ne, ne_eq, Nat.reduceEqDiff, not_false_eq_true, h12], ?_⟩
        simp only [Tr.get_set_self, Tr.get_set_ne, hd _, ne_eq, Nat.reduceEqDiff, not_false_eq_true, decide_true, Nat.reduceLT]
        rw [wrapF_small (by omega) (by omega)]; rfl
      · have g1 : decide (ls[j] ≥ now) = true := decide_eq_true (by omega)
        have g2 : decide (ls[j] ≤ 1099511627776) = false := decide_eq_false (by omega)
        refine W_seq (W_seq (W_seqR (by simp only [runSeq_cons, runSeq_nil, evalArgs_nil, evalArgs_tmp, evalArgs_const, val1, putT, Tr.get_set_self, Tr.get_set_ne, Tr.isSome_set, hd _, ne_eq, Nat.reduceEqDiff, not_false_eq_true, decide_true, Nat.reduceLT, opI_move, opI_leq, opI_geq, opI_pick, runSeq_guard (b := true), beq_self_eq_true, h2, h15, p1, p2, g1, g2]; rfl) ?_))
        refine W_cond (b := false) (by simp only [PArg.eval, Tr.get_set_self, Tr.get_set_ne, hd _, ne_eq, Nat.reduceEqDiff, not_false_eq_true, decide_true, Nat.reduceLT]; try rfl) (fun hb => by cases hb) (fun _ => W_skip ?_)
        show W _ _
        refine W_exit ?_
        show W _ _
        refine W_seqR (by simp only [runSeq_cons, runSeq_nil, evalArgs_nil, evalArgs_tmp, evalArgs_const, val1, putT, Tr.get_set_self, Tr.get_set_ne, hd _, ne_eq, Nat.reduceEqDiff, not_false_eq_true, decide_true, Nat.reduceLT, opI_move, opI_add, h15]; rfl) ?_
        refine ⟨hkk - 1, by omega, j + 1, G, l, now, by omega, hnow, hT, hI, hs, hG, hγn, by ((repeat (with_reducible apply Dom.set)); exact hd), by simp only [Tr.get_set_ne, ne_eq, Nat.reduceEqDiff, not_false_eq_true, h2], by simp only [Tr.get_set_ne, ne_eq, Nat.reduceEqDiff, not_false_eq_true, h7], by simp only [Tr.get_set_ne, ne_eq, Nat.reduceEqDiff, not_false_eq_true, h8], by simp only [Tr.get_set_ne, ne_eq, Nat.reduceEqDiff, not_false_eq_true, h12], ?_⟩
        simp only [Tr.get_set_self, Tr.get_set_ne, hd _, ne_eq, Nat.reduceEqDiff, not_false_eq_true, decide_true, Nat.reduceLT]
        rw [wrapF_small (by omega) (by omega)]; rfl
  refine W_exit ?_
  show W _ _
  refine W_seq (W_seqR (by simp only [runSeq_cons, runSeq_nil, evalArgs_nil, evalArgs_const, val1, putT, opI_move]; rfl) (W_seq (W_seq (W_seqR (by simp only [runSeq_cons, runSeq_nil, evalArgs_nil, evalArgs_const, val1, putT, opI_move]; rfl) (W_block (W_loop (fun k t M' => ∃ (q : Nat), k + q = A.length ∧ M' = M ∧ Dom t 305 ∧ t.get 7 = some (.ptr (some (tb, 0))) ∧ t.get 8 = some s ∧ t.get 12 = some gv ∧ t.get 21 = some (.int .i64 ((G.take q).countP (fun b => !b))) ∧ t.get 22 = some (.int .i64 q)) (k := A.length) (by omega) ?_ ?_))))))
  · exact ⟨0, rfl, rfl, by ((repeat (with_reducible apply Dom.set)); exact hd), by simp only [Tr.get_set_ne, ne_eq, Nat.reduceEqDiff, not_false_eq_true, h7], by simp only [Tr.get_set_ne, ne_eq, Nat.reduceEqDiff, not_false_eq_true, h8], by simp only [Tr.get_set_ne, ne_eq, Nat.reduceEqDiff, not_false_eq_true, h12], by simp only [Tr.get_set_self, Tr.get_set_ne, hd _, ne_eq, Nat.reduceEqDiff, not_false_eq_true, decide_true, Nat.reduceLT]; rfl, by simp only [Tr.get_set_self, Tr.get_set_ne, hd _, ne_eq, Nat.reduceEqDiff, not_false_eq_true, decide_true, Nat.reduceLT]; rfl⟩
  have lA := rowA_len hs hT.h.step.ok.1
  clear hd h2 h7 h8 h12 h15 hb hk
  intro k t M' ⟨q, hk, hM, hd, h7, h8, h12, h21, h22⟩
  subst hM
  refine W_seq (W_seq (W_seqR (by simp only [runSeq_cons, runSeq_nil, evalArgs_nil, evalArgs_tmp, val1, putT, Tr.get_set_self, Tr.get_set_ne, hd _, ne_eq, Nat.reduceEqDiff, not_false_eq_true, decide_true, Nat.reduceLT, opI_move, opI_lss, h8, h22, lA]; rfl) ?_))
  refine W_cond (by simp only [PArg.eval, Tr.get_set_self, Tr.get_set_ne, hd _, ne_eq, Nat.reduceEqDiff, not_false_eq_true, decide_true, Nat.reduceLT]; rfl) (fun hb => W_skip ?_) (fun hb => ?_)
  · have hq : q < A.length := by simpa using hb
    have hqG : q < G.length := by rw [hI.len]; exact hq
    obtain ⟨b1, b2⟩ := rowB_at hG hT.h.step.ok.1 hqG
    have b1' := b1 M'
    have hct := countP_take hqG
    have hcl := List.countP_le_length (p := fun b : Bool => !b) (l := G.take q)
    rw [List.length_take] at hcl
    show W _ _
    refine W_seq (W_block ?_)
    refine W_seq (W_seqR (by simp only [runSeq_cons, runSeq_nil, evalArgs_nil, evalArgs_tmp, val1, putT, Tr.get_set_self, Tr.get_set_ne, hd _, ne_eq, Nat.reduceEqDiff, not_false_eq_true, decide_true, Nat.reduceLT, opI_move, opI_not, h12, h22, b1', b2]; rfl) ?_)
    cases hg : G.getD q false with
    | true =>
      rw [hg] at hct
      refine W_cond (b := false) (by simp only [PArg.eval, Tr.get_set_self, Tr.get_set_ne, hd _, ne_eq, Nat.reduceEqDiff, not_false_eq_true, decide_true, Nat.reduceLT]; try rfl) (fun hb => by cases hb) (fun _ => W_skip ?_)
      show W _ _
      refine W_seqR (by simp only [runSeq_cons, runSeq_nil, evalArgs_nil, evalArgs_tmp, evalArgs_const, val1, putT, Tr.get_set_self, Tr.get_set_ne, hd _, ne_eq, Nat.reduceEqDiff, not_false_eq_true, decide_true, Nat.reduceLT, opI_move, opI_add, h22]; rfl) ?_
      refine ⟨k - 1, by omega, q + 1, by omega, rfl, by ((repeat (with_reducible apply Dom.set)); exact hd), by simp only [Tr.get_set_ne, ne_eq, Nat.reduceEqDiff, not_false_eq_true, h7], by simp only [Tr.get_set_ne, ne_eq, Nat.reduceEqDiff, not_false_eq_true, h8], by simp only [Tr.get_set_ne, ne_eq, Nat.reduceEqDiff, not_false_eq_true, h12], by simp only [Tr.get_set_ne, ne_eq, Nat.reduceEqDiff, not_false_eq_true, h21]; rw [hct]; rfl, ?_⟩
      simp only [Tr.get_set_self, Tr.get_set_ne, hd _, ne_eq, Nat.reduceEqDiff, not_false_eq_true, decide_true, Nat.reduceLT]
      rw [wrapF_small (by omega) (by omega)]; rfl
    | false =>
      rw [hg] at hct
      refine W_cond (b := true) (by simp only [PArg.eval, Tr.get_set_self, Tr.get_set_ne, hd _, ne_eq, Nat.reduceEqDiff, not_false_eq_true, decide_true, Nat.reduceLT]; try rfl) (fun _ => ?_) (fun hb => by cases hb)
      refine W_seqR (by simp only [runSeq_cons, runSeq_nil, evalArgs_nil, evalArgs_tmp, evalArgs_const, val1, putT, Tr.get_set_self, Tr.get_set_ne, hd _, ne_eq, Nat.reduceEqDiff, not_false_eq_true, decide_true, Nat.reduceLT, opI_move, opI_add, h21]; rfl) ?_
      show W _ _
      refine W_seqR (by simp only [runSeq_cons, runSeq_nil, evalArgs_nil, evalArgs_tmp, evalArgs_const, val1, putT, Tr.get_set_self, Tr.get_set_ne, hd _, ne_eq, Nat.reduceEqDiff, not_false_eq_true, decide_true, Nat.reduceLT, opI_move, opI_add, h22]; rfl) ?_
      refine ⟨k - 1, by omega, q + 1, by omega, rfl, by ((repeat (with_reducible apply Dom.set)); exact hd), by simp only [Tr.get_set_ne, ne_eq, Nat.reduceEqDiff, not_false_eq_true, h7], by simp only [Tr.get_set_ne, ne_eq, Nat.reduceEqDiff, not_false_eq_true, h8], by simp only [Tr.get_set_ne, ne_eq, Nat.reduceEqDiff, not_false_eq_true, h12], ?_, ?_⟩
      · simp only [Tr.get_set_self, Tr.get_set_ne, hd _, ne_eq, Nat.reduceEqDiff, not_false_eq_true, decide_true, Nat.reduceLT]
        rw [wrapF_small (by omega) (by omega), hct]; rfl
      simp only [Tr.get_set_self, Tr.get_set_ne, hd _, ne_eq, Nat.reduceEqDiff, not_false_eq_true, decide_true, Nat.reduceLT]
      rw [wrapF_small (by omega) (by omega)]; rfl
  refine W_exit ?_
  show W _ _
  have hqe : G.take q = G := by
    have : ¬ ((q : Int) < A.length) := by simpa using hb
    exact List.take_of_length_le (by rw [hI.len]; omega)
  rw [hqe, hI.count _ rfl] at h21
  have ln := len_ok hT.h (d + 6)
  have ln' : callF tbl code 100000 (d + 7) 11 [.ptr (some (tb, 0))] M' = some (.int .i64 l.length, M') := ln
  refine W_seq (W_seqR (by simp only [runSeq_cons, runSeq_nil, evalArgs_nil, evalArgs_tmp, val1, putT, Tr.get_set_self, Tr.get_set_ne, hd _, ne_eq, Nat.reduceEqDiff, not_false_eq_true, decide_true, Nat.reduceLT, opI_move, opI_eql, opI_callF, h7, h21, ln']; rfl) (W_ret ?_))
  exact ⟨_, fin_tmp (by simp only [Tr.get_set_self, Tr.get_set_ne, hd _, ne_eq, Nat.reduceEqDiff, not_false_eq_true, decide_true, Nat.reduceLT]; try rfl), by show AV.bool _ = _; simp⟩
end Go.Proofs.Ytbjipmhdncfodaa.grf
