/- Like: the walk shows what the list says, at each step. -/
import Derived.Test.YtmgfamnongagbaaGreatSkLike0
namespace Go.Proofs.YtmgfamnongagbaaGreat.stk
open Go Go.Vx
theorem TrW.len {S : List ABlk} {r : List (Int × Bool)} {os : List Obs} (h : TrW S r os) : os.length = r.length + 1 := by
  induction h with
  | last => rfl
  | more _ _ _ _ ih => simp only [List.length_cons, ih]
set_option maxRecDepth 20000 in
set_option maxHeartbeats 8000000 in
theorem like_ok (d : Nat) (M0 : AMem) (hok : Okg M0) (hh : NH M0) {bw : Nat} {ρ0 : List Nat} {W0 : List ABlk} (hs : Seen M0 bw ρ0 W0) {told : List (Int × Bool)} {os : List Obs} (htr : TrW W0 told os) {tv sv : AV} (ht : Told M0.g tv told) (hlen : told.length ≤ 100) (hrow : SeenRow M0 (fun c => c ∉ ρ0) sv os) :
    Ans (callF tblS code 100000 (d + 2)) 8 [.ptr (some (bw, 0)), sv, tv] M0 fun r M' => r = .bool true ∧ EvA M0 M' (· ∈ ρ0) := by
  refine Ans_of (tblS_none ⟨by decide, by decide⟩ _) (show code 8 = some c8 from by kernel_rfl) (by simp) fun t hd ha => ?_
  have h0 := ha 0 _ rfl
  have h1 := ha 1 _ rfl
  have h2 := ha 2 _ rfl
  clear ha
  have ol := htr.len
  have hlr : ∀ M : AMem, M.g = M0.g → opI .lenS [tv] M = some (.val (.int .i64 told.length) M) := fun M hg => by
    have := (ht M hg).len
    rwa [List.length_map] at this
  have hrowM : ∀ M : AMem, EvA M0 M (· ∈ ρ0) → SeenRow M (fun c => c ∉ ρ0 ∧ c < M0.n) sv os := fun M ev =>
    hrow.keep (ev.ev hok.1) hok.1 (fun c hc => hc) (fun c k hc hk => by
      obtain ⟨_, _, _, q, _⟩ := hrow
      rw [ev.same c (get_lt hok.1 hk) (q c hc), hk]) (fun c hc hA => ⟨hA, hc⟩)
  have lsv : opI .lenS [sv] M0 = some (.val (.int .i64 os.length) M0) := by
    obtain ⟨hvs, hl, own, _⟩ := hrow
    have := (own.row hok.1).len
    rwa [zip_len hl] at this
  have lv0 := hlr M0 rfl
  have w1 : wrapF .i64 ((told.length : Int) + 1) = os.length := by rw [wi (by omega) (by omega)]; omega
  have w2 : ((os.length : Int) != (os.length : Int)) = false := by simp
  refine W_seq (W_seqR (by simp only [runSeq_cons, runSeq_nil, evalArgs_nil, evalArgs_const, val1, putT, opI_move]; rfl) ?_)
  refine W_seq (W_seq (W_seqR (by simp only [runSeq_cons, runSeq_nil, evalArgs_nil, evalArgs_tmp, evalArgs_const, val1, putT, Tr.get_set_self, Tr.get_set_ne, hd _, ne_eq, Nat.reduceEqDiff, not_false_eq_true, decide_true, Nat.reduceLT, opI_move, opI_neq, opI_add, h1, h2, lsv, lv0, w1, w2]; rfl) ?_))
  refine W_cond (b := false) (by simp only [PArg.eval, Tr.get_set_self, Tr.get_set_ne, hd _, ne_eq, Nat.reduceEqDiff, not_false_eq_true, decide_true, Nat.reduceLT]; try rfl) (fun hb => by cases hb) (fun _ => W_skip ?_)
  show W _ _
  refine W_seq (W_seq (W_seqR (by simp only [runSeq_cons, runSeq_nil, evalArgs_nil, evalArgs_const, val1, putT, opI_move]; rfl) (W_block (W_loop (fun k t M => ∃ (i : Nat), k + i = told.length + 1 ∧ EvA M0 M (· ∈ ρ0) ∧ Dom t 99 ∧ t.get 0 = some (.ptr (some (bw, 0))) ∧ t.get 1 = some sv ∧ t.get 2 = some tv ∧ t.get 7 = some (.int .i64 i) ∧
    ((i = told.length + 1) ∨ ∃ (pre rest : List (Int × Bool)) (dn osr : List Obs) (ρ : List Nat) (S : List ABlk), told = pre ++ rest ∧ pre.length = i ∧ os = dn ++ osr ∧ dn.length = i ∧ Seen M bw ρ S ∧ TrW S rest osr ∧ (∀ c ∈ ρ, c ∈ ρ0 ∨ M0.n ≤ c)))
    (k := told.length + 1) (by omega) ?_ ?_))))
  · exact ⟨0, rfl, (EvA.of_step (Step.refl hok) hh _), by ((repeat (with_reducible apply Dom.set)); exact hd), by simp only [Tr.get_set_ne, ne_eq, Nat.reduceEqDiff, not_false_eq_true, h0], by simp only [Tr.get_set_ne, ne_eq, Nat.reduceEqDiff, not_false_eq_true, h1], by simp only [Tr.get_set_ne, ne_eq, Nat.reduceEqDiff, not_false_eq_true, h2], by simp only [Tr.get_set_self, Tr.get_set_ne, hd _, ne_eq, Nat.reduceEqDiff, not_false_eq_true, decide_true, Nat.reduceLT]; rfl, .inr ⟨[], told, [], os, ρ0, W0, rfl, rfl, rfl, rfl, hs, htr, fun c hc => .inl hc⟩⟩
  clear h0 h1 h2 hd w1 w2 lv0 lsv
  intro k t M ⟨i, hk, ev, hd, h0, h1, h2, h7, hcase⟩
  have lv := hlr M ev.g
  refine W_seq (W_seq (W_seqR (by simp only [runSeq_cons, runSeq_nil, evalArgs_nil, evalArgs_tmp, val1, putT, Tr.get_set_self, Tr.get_set_ne, hd _, ne_eq, Nat.reduceEqDiff, not_false_eq_true, decide_true, Nat.reduceLT, opI_move, opI_leq, h2, h7, lv]; rfl) ?_))
  refine W_cond (by simp only [PArg.eval, Tr.get_set_self, Tr.get_set_ne, hd _, ne_eq, Nat.reduceEqDiff, not_false_eq_true, decide_true, Nat.reduceLT]; rfl) (fun hb => W_skip ?_) (fun hb => W_exit ?_)
  · have hi : i ≤ told.length := by simpa using hb
    rcases hcase with he | ⟨pre, rest, dn, osr, ρ, S, hto, hpl, hos, hdn, hS, hT, hρ⟩
    · omega
    obtain ⟨o, osr', rfl, hsh, hz⟩ : ∃ o osr', osr = o :: osr' ∧ ShowsW S o ∧ (o.over = false → o.code = 0 ∧ o.val = 0) := by
      cases hT with
      | last h hz => exact ⟨_, _, rfl, h, hz⟩
      | more h hz _ _ => exact ⟨_, _, rfl, h, hz⟩
    show W _ _
    -- what it wants
    obtain ⟨M1, ρ1, c1, m1⟩ := call_ask hsh.1 ev.ok hS rfl (by decide) d
    rw [obsW] at c1
    have e1 := EvA.of_after m1.after ev.ok ev.nh
    obtain ⟨M3, st3, e3, g3, l3⟩ := fill_new (z := [.int .i64 0, .int .i64 0, .int .u64 0, .int .u64 0]) (new := [.int .i64 o.k, .int .i64 o.c, .int .u64 o.a, .int .u64 o.b]) (n := 4) e1.ok e1.nh rfl rfl rfl
    refine W_seq (W_block (W_seq (W_seqR (by simp only [runSeq_cons, runSeq_nil, evalArgs_nil, evalArgs_tmp, val1, putT, Tr.get_set_self, Tr.get_set_ne, hd _, ne_eq, Nat.reduceEqDiff, not_false_eq_true, decide_true, Nat.reduceLT, opI_move, opI_extract, opI_callF, opI_new, List.getElem?_cons_zero, List.getElem?_cons_succ, h0, c1, st3]; rfl) ?_)))
    -- what came of it
    have hS1 := m1.seen
    have lt1 := hS1.lt e1.ok.1
    have hS3 : Seen M3 bw ρ1 S := hS1.keep (e3.ev e1.ok.1) (fun _ _ h => h)
    obtain ⟨M4, ρ4, c4, m4⟩ := call_ask hsh.2.1 e3.ok hS3 rfl (by decide) d
    rw [obsR] at c4
    have e4 := EvA.of_after m4.after e3.ok e3.nh
    obtain ⟨M6, st6, e6, g6, l6⟩ := fill_new (z := [.int .i64 0, .int .u64 0, .slice none 0 0 false]) (new := [.int .i64 o.code, .int .u64 o.val, .slice none 0 0 false]) (n := 3) e4.ok e4.nh rfl rfl rfl
    refine W_seq (W_seqR (by simp only [runSeq_cons, runSeq_nil, evalArgs_nil, evalArgs_tmp, val1, putT, Tr.get_set_self, Tr.get_set_ne, hd _, ne_eq, Nat.reduceEqDiff, not_false_eq_true, decide_true, Nat.reduceLT, opI_move, opI_extract, opI_callF, opI_new, List.getElem?_cons_zero, List.getElem?_cons_succ, h0, c4, st6]; rfl) ?_)
    have hS4 := m4.seen
    have lt4 := hS4.lt e4.ok.1
    have hS6 : Seen M6 bw ρ4 S := hS4.keep (e6.ev e4.ok.1) (fun _ _ h => h)
    have en : M.n ≤ M1.n ∧ M1.n ≤ M3.n ∧ M3.n ≤ M4.n ∧ M4.n ≤ M6.n := ⟨e1.n, e3.n, e4.n, e6.n⟩
    have own4 : ∀ c ∈ ρ4, c ∈ ρ ∨ M.n ≤ c := fun c hc => by
      rcases m4.own c hc with h | h
      · exact m1.own c h
      · exact .inr (by omega)
    have hn0 : M0.n ≤ M.n := ev.n
    have in0 : ∀ c ∈ ρ4, c ∈ ρ0 ∨ M0.n ≤ c := fun c hc => by
      rcases own4 c hc with h | h
      · exact hρ c h
      · exact .inr (by omega)
    have ev6 : EvA M0 M6 (· ∈ ρ0) := by
      have a0 : EvA M0 M1 (· ∈ ρ0) := ev.trans e1 (fun _ h => h) (fun b hb h => by rcases hρ b h with h | h; exact h; omega)
      have a1 : EvA M0 M3 (· ∈ ρ0) := a0.trans e3 (fun _ h => h) (fun _ _ h => h.elim)
      have a2 : EvA M0 M4 (· ∈ ρ0) := a1.trans e4 (fun _ h => h) (fun b hb h => by
        rcases m1.own b h with h | h
        · rcases hρ b h with h | h
          · exact h
          · omega
        · omega)
      exact a2.trans e6 (fun _ h => h) (fun _ _ h => h.elim)
    -- what the list says
    obtain ⟨hvs, hl, own, hsb, hheld⟩ := hrowM M6 ev6
    have hzl := zip_len hl
    have ho : os[i]? = some o := by rw [hos, List.getElem?_append_right (by omega), hdn, Nat.sub_self]; rfl
    obtain ⟨hv2, hhv⟩ : ∃ hv2, hvs[i]? = some hv2 := ⟨_, List.getElem?_eq_getElem (by omega)⟩
    obtain ⟨p, pp, p1, p3, _⟩ := (own.row ev6.ok.1).at_ (i := i) (by omega) (by omega)
    have hel : (List.zipWith elOf os hvs)[i]'(by omega) = elOf o hv2 := by
      have : (List.zipWith elOf os hvs)[i]? = some (elOf o hv2) := by rw [List.getElem?_zipWith, ho, hhv]
      rw [List.getElem?_eq_getElem (by omega)] at this
      exact Option.some.inj this
    have p5 := p3 0 10 (by omega)
    rw [hel] at p5
    simp only [List.drop_zero] at p5
    have hel10 : (elOf o hv2).take 10 = elOf o hv2 := rfl
    rw [hel10] at p5
    have hC2 := hheld i o hv2 ho hhv
    obtain ⟨cr, nr, grr, rfl⟩ : ∃ cr nr grr, hv2 = .slice (some (cr, 0)) nr nr grr := by
      obtain ⟨c, sz, _, ⟨_, rfl, _⟩ | ⟨x, gr, _, rfl, _⟩⟩ := hC2
      · exact ⟨c, 0, false, rfl⟩
      · exact ⟨c, 1, gr, rfl⟩
    obtain ⟨K0, st9, e9, g9, l9⟩ := fill_new (z := [.int .i64 0, .int .i64 0, .int .u64 0, .int .u64 0, .bool false, .int .i64 0, .int .u64 0, .slice none 0 0 false, .bool false, .slice none 0 0 false]) (new := elOf o (.slice (some (cr, 0)) nr nr grr)) (n := 10) e6.ok e6.nh rfl rfl rfl
    refine W_seq (W_seqR (by simp only [runSeq_cons, runSeq_nil, evalArgs_nil, evalArgs_tmp, val1, putT, Tr.get_set_self, Tr.get_set_ne, hd _, ne_eq, Nat.reduceEqDiff, not_false_eq_true, decide_true, Nat.reduceLT, opI_move, opI_new, h1, h7, p1, p5, st9]; rfl) ?_)
    have f8 : K0.get M1.n = some (.cells [.int .i64 o.k, .int .i64 o.c, .int .u64 o.a, .int .u64 o.b] 0 true none) := (e9.same M1.n (by omega) (fun h => h)).trans ((e6.same M1.n (by omega) (fun h => h)).trans ((e4.same M1.n l3 fun hc => Nat.lt_irrefl _ (lt1 _ hc)).trans g3))
    have f10 : K0.get M4.n = some (.cells [.int .i64 o.code, .int .u64 o.val, .slice none 0 0 false] 0 true none) := (e9.same M4.n (by omega) (fun h => h)).trans g6
    have LA := load_agg (n := 4) f8 rfl
    have LB : opI (.load true 4) [.ptr (some (M6.n, 0))] K0 = some (.val (.agg [.int .i64 o.k, .int .i64 o.c, .int .u64 o.a, .int .u64 o.b]) K0) := load_part (o := 0) (n := 4) g9 (Nat.le_of_ble_eq_true rfl)
    have Lok : opI (.load false 1) [.ptr (some (M6.n, 4))] K0 = some (.val (.bool o.ok) K0) := load_own g9 rfl
    have Lov : opI (.load false 1) [.ptr (some (M6.n, 8))] K0 = some (.val (.bool o.over) K0) := load_own g9 rfl
    have LR : opI (.load true 3) [.ptr (some (M6.n, 5))] K0 = some (.val (.agg [.int .i64 o.code, .int .u64 o.val, .slice none 0 0 false]) K0) := load_part (o := 5) (n := 3) g9 (Nat.le_of_ble_eq_true rfl)
    have LT := load_agg (n := 3) f10 rfl
    have eb : xorB true true = false := rfl
    have eq4 := eqs (M := K0) o.k o.c o.a o.b
    have hSK : Seen K0 bw ρ4 S := hS6.keep (e9.ev e6.ok.1) (fun _ _ h => h)
    have ltK := hSK.lt e9.ok.1
    have evK : EvA M0 K0 (· ∈ ρ0) := ev6.trans e9 (fun _ h => h) (fun _ _ h => h.elim)
    have hCK : HeldC K0 (fun c => c < M0.n) (.slice (some (cr, 0)) nr nr grr) o.held := hC2.keep (e9.ev e6.ok.1) e6.ok.1 (fun _ _ h => h) (fun c _ h => h.1.2)
    -- from the memory ahead of Held on
    have tail : ∀ K2 : AMem, EvA K0 K2 (fun _ => False) → ∃ ρ7 hv K3 K4, callF tblS code 100000 (d + 1) 24 [.ptr (some (bw, 0))] K2 = some (hv, K3) ∧ callF tblS code 100000 (d + 1) 23 [hv, .slice (some (cr, 0)) nr nr grr] K3 = some (.bool true, K4) ∧
        opI (.load false 1) [.ptr (some (M6.n, 9))] K2 = some (.val (.slice (some (cr, 0)) nr nr grr) K2) ∧ opI (.load false 1) [.ptr (some (M6.n, 9))] K3 = some (.val (.slice (some (cr, 0)) nr nr grr) K3) ∧
        EvA M0 K4 (· ∈ ρ0) ∧ Seen K4 bw ρ7 S ∧ (∀ c ∈ ρ7, c ∈ ρ0 ∨ M0.n ≤ c) ∧ NH K2 ∧ NH K3 ∧ NH K4 := by
      intro K2 e12
      have hS2 : Seen K2 bw ρ4 S := hSK.keep (e12.ev e9.ok.1) (fun _ _ h => h)
      obtain ⟨K3, ρ7, hv, c7, m7, hat⟩ := call_held hsh.2.2 e12.ok hS2 (by decide) d
      have e13 := EvA.of_after m7.after e12.ok e12.nh
      have n02 : M0.n ≤ K2.n := by have := e12.n; have := evK.n; omega
      have hC3 : HeldC K3 (fun c => c < M0.n) (.slice (some (cr, 0)) nr nr grr) o.held := by
        have q2 := hCK.keep (e12.ev e9.ok.1) e9.ok.1 (fun _ _ h => h) (fun c _ h => h)
        obtain ⟨c, sz, hA, hh'⟩ := hC2
        obtain ⟨c', sz', hA', hh2⟩ := q2
        refine ⟨c', sz', hA', ?_⟩
        have hc' : c' ∉ ρ4 := fun h => by
          rcases in0 c' h with h | h
          · rcases hh' with ⟨_, h3, _⟩ | ⟨_, _, _, h3, _⟩ <;> rcases hh2 with ⟨_, h4, _⟩ | ⟨_, _, _, h4, _⟩ <;> (cases h3; cases h4 <;> exact hA.1.1 h)
          · omega
        rcases hh2 with ⟨a1, a2, a3⟩ | ⟨x, gr, a1, a2, a3⟩
        · exact .inl ⟨a1, a2, (m7.after.same c' (by omega) hc').trans a3⟩
        · exact .inr ⟨x, gr, a1, a2, (m7.after.same c' (by omega) hc').trans a3⟩
      obtain ⟨K4, c8, e14⟩ := call_same e13.ok e13.nh hat hC3 (fun c hc => by omega) d
      have g2 : K2.get M6.n = _ := (e12.same M6.n l9 (fun h => h)).trans g9
      have g3' : K3.get M6.n = _ := (m7.after.same M6.n (by have := e12.n; omega) (fun h => by have := hS6.lt e6.ok.1 _ h; omega)).trans g2
      have ev2 : EvA M0 K2 (· ∈ ρ0) := evK.trans e12 (fun _ h => h) (fun _ _ h => h.elim)
      have ev3 : EvA M0 K3 (· ∈ ρ0) := ev2.trans e13 (fun _ h => h) (fun b hb h => by rcases in0 b h with h | h; exact h; omega)
      refine ⟨ρ7, hv, K3, K4, c7, c8, load_own g2 rfl, load_own g3' rfl, ev3.trans e14 (fun _ h => h) (fun _ _ h => h.elim), m7.seen.keep (e14.ev e13.ok.1) (fun _ _ h => h), fun c hc => ?_, e12.nh, e13.nh, e14.nh⟩
      rcases m7.own c hc with h | h
      · exact in0 c h
      · exact .inr (by omega)
    refine W_seq (W_seq (W.mono (Q := fun x t' K4 => x = .normal ∧ Dom t' 99 ∧ t'.get 0 = some (.ptr (some (bw, 0))) ∧ t'.get 1 = some sv ∧ t'.get 2 = some tv ∧ t'.get 7 = some (.int .i64 i) ∧ t'.get 82 = some (.bool false) ∧ EvA M0 K4 (· ∈ ρ0) ∧ ∃ ρ7, Seen K4 bw ρ7 S ∧ ∀ c ∈ ρ7, c ∈ ρ0 ∨ M0.n ≤ c) ?_ ?_))
    · have iN : isHeld (K0.get K0.n) = false := e9.nh _
      cases hov : o.over with
      | true =>
        obtain ⟨K1, c5, e10⟩ := call_res o.code o.val e9.ok e9.nh d
        obtain ⟨ρ7, hv, K3, K4, c7, c8, q2, q3, ev4, hS4', own7, nh2, nh3, nh4⟩ := tail K1 e10
        have i1 := nh2 K0.n
        have i3 := nh3 K0.n
        refine W_trace (M' := K4) rfl (by simp only [sameN_self, evalArgs_nil, evalArgs_tmp, evalArgs_const, val1, putT, Tr.get_set_self, Tr.get_set_ne, Tr.isSome_set, hd _, ne_eq, Nat.reduceEqDiff, not_false_eq_true, decide_true, Nat.reduceLT, opI_move, opI_not, opI_eqBool, opI_callF, opI_fieldP, opI_pick, Nat.zero_add, Nat.add_zero, trace_nil, trace_read, addR_some, addE_some, Bool.false_and, Bool.and_true, Bool.not_true, Bool.not_false, trace_gread (b := true), trace_gread (b := false), trace_geff (b := true), trace_geff (b := false), beq_self_eq_true, Bool.false_beq, h0, hov, LA, LB, Lok, Lov, LT, LR, eq4, eb, c5, iN, i1, i3, c7, q3, c8]; rfl) (by simp [checkRec, isLoad, sameAt, q2, q3, AV.beq]) rfl ?_
        exact ⟨rfl, by ((repeat (with_reducible apply Dom.set)); exact hd), by simp only [Tr.get_set_ne, ne_eq, Nat.reduceEqDiff, not_false_eq_true, h0], by simp only [Tr.get_set_ne, ne_eq, Nat.reduceEqDiff, not_false_eq_true, h1], by simp only [Tr.get_set_ne, ne_eq, Nat.reduceEqDiff, not_false_eq_true, h2], by simp only [Tr.get_set_ne, ne_eq, Nat.reduceEqDiff, not_false_eq_true, h7], by simp only [Tr.get_set_self, Tr.get_set_ne, hd _, ne_eq, Nat.reduceEqDiff, not_false_eq_true, decide_true, Nat.reduceLT]; try rfl, ev4, ρ7, hS4', own7⟩
      | false =>
        obtain ⟨z1, z2⟩ := hz hov
        obtain ⟨K1, c5, e10⟩ := call_res 0 0 e9.ok e9.nh d
        obtain ⟨ρ7, hv, K3, K4, c7, c8, q2, q3, ev4, hS4', own7, nh2, nh3, nh4⟩ := tail K1 e10
        have i1 := nh2 K0.n
        have i3 := nh3 K0.n
        have b70 : opI (.build [.int .i64 0, .int .u64 0, .slice none 0 0 false] []) [] K0 = some (.val (.agg [.int .i64 0, .int .u64 0, .slice none 0 0 false]) K0) := rfl
        refine W_trace (M' := K4) rfl (by simp only [sameN_self, evalArgs_nil, evalArgs_tmp, evalArgs_const, val1, putT, Tr.get_set_self, Tr.get_set_ne, Tr.isSome_set, hd _, ne_eq, Nat.reduceEqDiff, not_false_eq_true, decide_true, Nat.reduceLT, opI_move, opI_not, opI_eqBool, opI_callF, opI_fieldP, opI_pick, Nat.zero_add, Nat.add_zero, trace_nil, trace_read, addR_some, addE_some, Bool.false_and, Bool.and_true, Bool.not_true, Bool.not_false, trace_gread (b := true), trace_gread (b := false), trace_geff (b := true), trace_geff (b := false), beq_self_eq_true, Bool.false_beq, h0, hov, LA, LB, Lok, Lov, LT, z1, z2, b70, eq4, eb, c5, iN, i1, i3, c7, q3, c8]; rfl) (by simp [checkRec, isLoad, sameAt, q2, q3, AV.beq]) rfl ?_
        exact ⟨rfl, by ((repeat (with_reducible apply Dom.set)); exact hd), by simp only [Tr.get_set_ne, ne_eq, Nat.reduceEqDiff, not_false_eq_true, h0], by simp only [Tr.get_set_ne, ne_eq, Nat.reduceEqDiff, not_false_eq_true, h1], by simp only [Tr.get_set_ne, ne_eq, Nat.reduceEqDiff, not_false_eq_true, h2], by simp only [Tr.get_set_ne, ne_eq, Nat.reduceEqDiff, not_false_eq_true, h7], by simp only [Tr.get_set_self, Tr.get_set_ne, hd _, ne_eq, Nat.reduceEqDiff, not_false_eq_true, decide_true, Nat.reduceLT]; try rfl, ev4, ρ7, hS4', own7⟩
    clear hd h0 h1 h2 h7 lv
    rintro x t' K4 ⟨rfl, hd, h0, h1, h2, h7, g82, ev4, ρ7, hS7, own7⟩
    show W _ _
    refine W_cond (b := false) (by simp only [PArg.eval, g82]) (fun hb => by cases hb) (fun _ => W_skip ?_)
    show W _ _
    have lv4 := hlr K4 ev4.g
    refine W_seq (W_seqR (by simp only [runSeq_cons, runSeq_nil, evalArgs_nil, evalArgs_tmp, val1, putT, Tr.get_set_self, Tr.get_set_ne, hd _, ne_eq, Nat.reduceEqDiff, not_false_eq_true, decide_true, Nat.reduceLT, opI_move, opI_lss, h2, h7, lv4]; rfl) ?_)
    refine W_cond (by simp only [PArg.eval, Tr.get_set_self, Tr.get_set_ne, hd _, ne_eq, Nat.reduceEqDiff, not_false_eq_true, decide_true, Nat.reduceLT]; rfl) (fun hb2 => ?_) (fun hb2 => ?_)
    · have hi2 : i < told.length := by simpa using hb2
      cases hT with
      | last _ _ => rw [hto, List.append_nil] at hi2; omega
      | @more _ S' _ u w r _ _ _ hg ht' =>
        obtain ⟨p, pp, p1, _, p4⟩ := (ht K4 ev4.g).at_ (i := i) (by rw [List.length_map]; exact hi2) (by omega)
        have hel' : (told.map toldE)[i]'(by rw [List.length_map]; exact hi2) = toldE (u, w) := by
          subst hto
          subst hpl
          simp
        rw [hel'] at p4
        have q0 := p4 0 _ rfl
        have q1 := p4 1 _ rfl
        obtain ⟨M7, ρ9, c9, m9⟩ := call_ask hg ev4.ok hS7 rfl (by decide) d
        rw [nilR] at c9
        have e9' := EvA.of_after m9.after ev4.ok ev4.nh
        have iN : isHeld (K4.get K4.n) = false := held_none ev4.ok.1
        refine W_trace (M' := M7) rfl (by simp only [sameN_self, evalArgs_nil, evalArgs_tmp, val1, putT, Tr.get_set_self, Tr.get_set_ne, hd _, ne_eq, Nat.reduceEqDiff, not_false_eq_true, decide_true, Nat.reduceLT, opI_move, opI_callF, Nat.zero_add, Nat.add_zero, trace_nil, trace_read, trace_eff, addR_some, addE_some, Bool.false_and, h0, h2, h7, p1, opI_fieldQ pp, q0, q1, c9, iN]; rfl) (by simp [checkRec, isLoad]) rfl ?_
        have own9 : ∀ c ∈ ρ9, c ∈ ρ0 ∨ M0.n ≤ c := fun c hc => by
          rcases m9.own c hc with h | h
          · exact own7 c h
          · exact .inr (by have := ev4.n; omega)
        have ev7 : EvA M0 M7 (· ∈ ρ0) := ev4.trans e9' (fun _ h => h) (fun b hb h => by
          rcases own7 b h with h | h
          · exact h
          · omega)
        show W _ _
        refine W_seqR (by simp only [runSeq_cons, runSeq_nil, evalArgs_nil, evalArgs_tmp, evalArgs_const, val1, putT, Tr.get_set_self, Tr.get_set_ne, hd _, ne_eq, Nat.reduceEqDiff, not_false_eq_true, decide_true, Nat.reduceLT, opI_move, opI_add, h7]; rfl) ?_
        refine ⟨k - 1, by omega, i + 1, by omega, ev7, by ((repeat (with_reducible apply Dom.set)); exact hd), by simp only [Tr.get_set_ne, ne_eq, Nat.reduceEqDiff, not_false_eq_true, h0], by simp only [Tr.get_set_ne, ne_eq, Nat.reduceEqDiff, not_false_eq_true, h1], by simp only [Tr.get_set_ne, ne_eq, Nat.reduceEqDiff, not_false_eq_true, h2], ?_, .inr ⟨pre ++ [(u, w)], r, dn ++ [o], osr', ρ9, S', by rw [hto]; simp, by simp [hpl], by rw [hos]; simp, by simp [hdn], m9.seen, ht', own9⟩⟩
        simp only [Tr.get_set_self, Tr.get_set_ne, hd _, ne_eq, Nat.reduceEqDiff, not_false_eq_true, decide_true, Nat.reduceLT]
        rw [wrapF_small (by omega) (by omega)]; rfl
    · have hi2 : i = told.length := by
        have : ¬ i < told.length := by simpa using hb2
        omega
      refine W_skip ?_
      show W _ _
      refine W_seqR (by simp only [runSeq_cons, runSeq_nil, evalArgs_nil, evalArgs_tmp, evalArgs_const, val1, putT, Tr.get_set_self, Tr.get_set_ne, hd _, ne_eq, Nat.reduceEqDiff, not_false_eq_true, decide_true, Nat.reduceLT, opI_move, opI_add, h7]; rfl) ?_
      refine ⟨k - 1, by omega, i + 1, by omega, ev4, by ((repeat (with_reducible apply Dom.set)); exact hd), by simp only [Tr.get_set_ne, ne_eq, Nat.reduceEqDiff, not_false_eq_true, h0], by simp only [Tr.get_set_ne, ne_eq, Nat.reduceEqDiff, not_false_eq_true, h1], by simp only [Tr.get_set_ne, ne_eq, Nat.reduceEqDiff, not_false_eq_true, h2], ?_, .inl (by omega)⟩
      simp only [Tr.get_set_self, Tr.get_set_ne, hd _, ne_eq, Nat.reduceEqDiff, not_false_eq_true, decide_true, Nat.reduceLT]
      rw [wrapF_small (by omega) (by omega)]; rfl
  · show W _ _
    refine W_seq (W_seqR (by simp only [runSeq_cons, runSeq_nil, evalArgs_nil, evalArgs_const, val1, putT, opI_move]; rfl) (W_ret ?_))
    exact ⟨_, fin_tmp (by simp only [Tr.get_set_self, Tr.get_set_ne, hd _, ne_eq, Nat.reduceEqDiff, not_false_eq_true, decide_true, Nat.reduceLT]; try rfl), rfl, ev⟩
end Go.Proofs.YtmgfamnongagbaaGreat.stk
