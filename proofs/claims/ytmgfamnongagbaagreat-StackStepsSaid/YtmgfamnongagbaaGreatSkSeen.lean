/- The document's machine, seen at each step: the list of what it shows. -/
import Derived.Test.YtmgfamnongagbaaGreatSkMem
namespace Go.Proofs.YtmgfamnongagbaaGreat.stk
open Go Go.Vx
/-- what is seen of it while it is told so -/
inductive TrD : List ABlk → List (Int × Bool) → List Obs → Prop
  | last {S : List ABlk} {o : Obs} (h : ShowsD S o) : TrD S [] [o]
  | more {S S' : List ABlk} {o : Obs} {u : Int} {w : Bool} {r : List (Int × Bool)} {os : List Obs} (h : ShowsD S o) (hg : GoesD S u w S') (ht : TrD S' r os) : TrD S ((u, w) :: r) (o :: os)
inductive TrW : List ABlk → List (Int × Bool) → List Obs → Prop
  | last {S : List ABlk} {o : Obs} (h : ShowsW S o) (hz : o.over = false → o.code = 0 ∧ o.val = 0) : TrW S [] [o]
  | more {S S' : List ABlk} {o : Obs} {u : Int} {w : Bool} {r : List (Int × Bool)} {os : List Obs} (h : ShowsW S o) (hz : o.over = false → o.code = 0 ∧ o.val = 0) (hg : GoesW S u w S') (ht : TrW S' r os) : TrW S ((u, w) :: r) (o :: os)
theorem TrD.len {S : List ABlk} {r : List (Int × Bool)} {os : List Obs} (h : TrD S r os) : os.length = r.length + 1 := by
  induction h with
  | last => rfl
  | more _ _ _ ih => simp only [List.length_cons, ih]
theorem sim_trace {S D : List ABlk} (h : Sim S D) : ∀ (told : List (Int × Bool)), (∀ p ∈ told, U64 p.1) → ∃ os, TrW S told os ∧ TrD D told os
  | [], _ => by
    obtain ⟨o, h1, h2, h3⟩ := sim_shows h
    exact ⟨[o], .last h1 h3, .last h2⟩
  | (u, w) :: r, hu => by
    obtain ⟨o, h1, h2, h3⟩ := sim_shows h
    obtain ⟨S', D', g1, g2, hs⟩ := sim_goes h u (hu (u, w) (by simp)) w
    obtain ⟨os, t1, t2⟩ := sim_trace hs r fun p hp => hu p (by simp [hp])
    exact ⟨o :: os, .more h1 h3 g1 t1, .more h2 g2 t2⟩
def toldE (p : Int × Bool) : List AV := [.int .u64 p.1, .bool p.2]
/-- what was told, as a row that came in -/
def Told (g : Addr → Option AV) (v : AV) (told : List (Int × Bool)) : Prop := ∀ M : AMem, M.g = g → RowE M 2 v (told.map toldE)
def elOf (o : Obs) (hv : AV) : List AV := [.int .i64 o.k, .int .i64 o.c, .int .u64 o.a, .int .u64 o.b, .bool o.ok, .int .i64 o.code, .int .u64 o.val, .slice none 0 0 false, .bool o.over, hv]
/-- the list of what was seen; of its blocks: what must be -/
def SeenRow (M : AMem) (A : Nat → Prop) (v : AV) (os : List Obs) : Prop := ∃ hvs : List AV, hvs.length = os.length ∧ OwnE (N0 M) M 10 v (List.zipWith elOf os hvs) ∧ (∀ c, sbOf v = some c → A c) ∧
  ∀ (i : Nat) (o : Obs) (hv : AV), os[i]? = some o → hvs[i]? = some hv → HeldC M (fun c => A c ∧ sbOf v ≠ some c) hv o.held
theorem zip_len {os : List Obs} {hvs : List AV} (h : hvs.length = os.length) : (List.zipWith elOf os hvs).length = os.length := by rw [List.length_zipWith, h, Nat.min_self]
theorem OwnE.n0 {M M' : AMem} {v : AV} {els : List (List AV)} {sz : Nat} (h : OwnE (N0 M) M' sz v els) (M2 : AMem) : OwnE (N0 M2) M' sz v els := by
  obtain ⟨b, gr, sz', g, h1, _, h3, h4, _, h6⟩ := h
  exact ⟨b, gr, sz', g, h1, Nat.zero_le _, h3, h4, fun _ _ => Nat.zero_le _, h6⟩
theorem SeenRow.keep {M M' : AMem} {A A' X : Nat → Prop} {v : AV} {os : List Obs} (h : SeenRow M A v os) (e : Ev M M' X) (hok : Ok M) (hx : ∀ c, A c → ¬ X c) (hb : ∀ c k, sbOf v = some c → M.get c = some k → M'.get c = some k) (ha : ∀ c, c < M.n → A c → A' c) : SeenRow M' A' v os := by
  obtain ⟨hvs, h1, h2, h3, h4⟩ := h
  have hlt : ∀ c, sbOf v = some c → c < M.n := by
    obtain ⟨b, gr, sz', g, rfl, _, q3, _⟩ := h2
    intro c hc
    simp only [sbOf, Option.some.injEq] at hc
    subst hc
    exact get_lt hok q3
  refine ⟨hvs, h1, ?_, fun c hc => ha c (hlt c hc) (h3 c hc), fun i o hv ho hi => (h4 i o hv ho hi).keep e hok (fun c hc => hx c hc.1) fun c hcl hc => ⟨ha c hcl hc.1, hc.2⟩⟩
  obtain ⟨b, gr, sz', g, q1, _, q3, q4, _, q6⟩ := h2
  exact ⟨b, gr, sz', g, q1, Nat.zero_le _, hb b _ (by rw [q1]; rfl) q3, q4, fun _ _ => Nat.zero_le _, q6⟩
theorem obsW (o : Obs) (φ : Nat → Nat) : (AV.tuple [.agg [.int .i64 o.k, .int .i64 o.c, .int .u64 o.a, .int .u64 o.b], .bool o.ok]).ren φ = .tuple [.agg [.int .i64 o.k, .int .i64 o.c, .int .u64 o.a, .int .u64 o.b], .bool o.ok] := by simp only [AV.ren, AV.rens]
theorem obsR (o : Obs) (φ : Nat → Nat) : (AV.tuple [.agg [.int .i64 o.code, .int .u64 o.val, .slice none 0 0 false], .bool o.over]).ren φ = .tuple [.agg [.int .i64 o.code, .int .u64 o.val, .slice none 0 0 false], .bool o.over] := by simp only [AV.ren, AV.rens]
theorem nilR (φ : Nat → Nat) : (AV.tuple []).ren φ = .tuple [] := by simp only [AV.ren, AV.rens]
theorem load_agg {M : AMem} {b n sz : Nat} {cs : List AV} {wr : Bool} {g : Option Nat} (h : M.get b = some (.cells cs sz wr g)) (hn : cs.length = n) : opI (.load true n) [.ptr (some (b, 0))] M = some (.val (.agg cs) M) := by
  simp only [opI, AMem.loadCells, h, if_true]
  rw [if_pos (by omega)]
  simp [← hn]
set_option maxRecDepth 20000 in
set_option maxHeartbeats 8000000 in
theorem seen_ok (d : Nat) (M0 : AMem) (hok : Okg M0) (hh : NH M0) {bf : Nat} {ρ0 : List Nat} {D0 : List ABlk} (hs : Seen M0 bf ρ0 D0) {told : List (Int × Bool)} {os : List Obs} (htr : TrD D0 told os) {tv : AV} (ht : Told M0.g tv told) (hlen : told.length ≤ 100) :
    Ans (callF tblS code 100000 (d + 2)) 11 [.ptr (some (bf, 0)), tv] M0 fun r M' => Ev M0 M' (· ∈ ρ0) ∧ SeenRow M' (fun c => M0.n ≤ c) r os := by
  refine Ans_of (tblS_none ⟨by decide, by decide⟩ _) (show code 11 = some c11 from by kernel_rfl) (by simp) fun t hd ha => ?_
  have h0 := ha 0 _ rfl
  have h1 := ha 1 _ rfl
  clear ha
  refine W_seq (W_seqR (by simp only [runSeq_cons, runSeq_nil, evalArgs_nil, evalArgs_const, val1, putT, opI_move]; rfl) ?_)
  have e0 : opI (.sliceLit 0 [] []) [] M0 = some (.val (.slice (some (M0.n, 0)) 0 0 false) (M0.push (.cells [] 0 true none))) := rfl
  refine W_seq (W_seqR (by simp only [runSeq_cons, runSeq_nil, evalArgs_nil, evalArgs_tmp, val1, putT, Tr.get_set_self, Tr.get_set_ne, hd _, ne_eq, Nat.reduceEqDiff, not_false_eq_true, decide_true, Nat.reduceLT, opI_move, e0]; rfl) ?_)
  have hlr : ∀ M : AMem, M.g = M0.g → opI .lenS [tv] M = some (.val (.int .i64 told.length) M) := fun M hg => by
    have := (ht M hg).len
    rwa [List.length_map] at this
  have ol := htr.len
  have s0 : Step M0 (M0.push (.cells [] 0 true none)) := (Step.refl hok).push (fun _ _ _ _ he => by cases he)
  have ev0 := (EvA.of_step s0 hh (· ∈ ρ0)).ev hok.1
  refine W_seq (W_seq (W_seqR (by simp only [runSeq_cons, runSeq_nil, evalArgs_nil, evalArgs_const, val1, putT, opI_move]; rfl) (W_block (W_loop (fun k t M => ∃ (i : Nat) (out : AV) (dn : List Obs), k + i = told.length + 1 ∧ Ev M0 M (· ∈ ρ0) ∧ Dom t 57 ∧ t.get 0 = some (.ptr (some (bf, 0))) ∧ t.get 1 = some tv ∧ t.get 5 = some out ∧ t.get 6 = some (.int .i64 i) ∧ dn.length = i ∧
    ((i = told.length + 1 ∧ dn = os ∧ SeenRow M (fun c => M0.n ≤ c) out os) ∨ ∃ (pre rest : List (Int × Bool)) (osr : List Obs) (ρ : List Nat) (D : List ABlk), told = pre ++ rest ∧ pre.length = i ∧ os = dn ++ osr ∧ Seen M bf ρ D ∧ TrD D rest osr ∧ (∀ c ∈ ρ, c ∈ ρ0 ∨ M0.n ≤ c) ∧ SeenRow M (fun c => M0.n ≤ c ∧ c ∉ ρ) out dn))
    (k := told.length + 1) (by omega) ?_ ?_))))
  · refine ⟨0, .slice (some (M0.n, 0)) 0 0 false, [], rfl, ev0, by ((repeat (with_reducible apply Dom.set)); exact hd), by simp only [Tr.get_set_ne, ne_eq, Nat.reduceEqDiff, not_false_eq_true, h0], by simp only [Tr.get_set_ne, ne_eq, Nat.reduceEqDiff, not_false_eq_true, h1], by simp only [Tr.get_set_self, Tr.get_set_ne, hd _, ne_eq, Nat.reduceEqDiff, not_false_eq_true, decide_true, Nat.reduceLT]; try rfl, by simp only [Tr.get_set_self, Tr.get_set_ne, hd _, ne_eq, Nat.reduceEqDiff, not_false_eq_true, decide_true, Nat.reduceLT]; rfl, rfl, .inr ⟨[], told, os, ρ0, D0, rfl, rfl, rfl, hs.same fun c hc => get_push_old hok.1 (hs.lt hok.1 c hc), htr, fun c hc => .inl hc, ?_⟩⟩
    refine ⟨[], rfl, ⟨M0.n, false, 0, none, rfl, Nat.zero_le _, get_push_self hok.1, (fun h => by cases h), (fun g h => by cases h), (fun e he => by cases he), rfl⟩, (fun c hc => ?_), fun i o hv ho => by cases ho⟩
    simp only [sbOf, Option.some.injEq] at hc
    subst hc
    exact ⟨Nat.le_refl _, fun hc => Nat.lt_irrefl _ (hs.lt hok.1 _ hc)⟩
  clear h0 h1 hd e0 s0 ev0
  intro k t M ⟨i, out, dn, hk, ev, hd, h0, h1, h5, h6, hdn, hcase⟩
  have lv := hlr M ev.g
  refine W_seq (W_seq (W_seqR (by simp only [runSeq_cons, runSeq_nil, evalArgs_nil, evalArgs_tmp, val1, putT, Tr.get_set_self, Tr.get_set_ne, hd _, ne_eq, Nat.reduceEqDiff, not_false_eq_true, decide_true, Nat.reduceLT, opI_move, opI_leq, h1, h6, lv]; rfl) ?_))
  refine W_cond (by simp only [PArg.eval, Tr.get_set_self, Tr.get_set_ne, hd _, ne_eq, Nat.reduceEqDiff, not_false_eq_true, decide_true, Nat.reduceLT]; rfl) (fun hb => W_skip ?_) (fun hb => W_exit ?_)
  · have hi : i ≤ told.length := by simpa using hb
    rcases hcase with ⟨he, _⟩ | ⟨pre, rest, osr, ρ, D, hto, hpl, hos, hS, hT, hρ, hrow⟩
    · omega
    obtain ⟨o, osr', rfl, hsh⟩ : ∃ o osr', osr = o :: osr' ∧ ShowsD D o := by
      cases hT with
      | last h => exact ⟨_, _, rfl, h⟩
      | more h _ _ => exact ⟨_, _, rfl, h⟩
    show W _ _
    -- what it wants
    obtain ⟨M1, ρ1, c1, m1⟩ := call_ask hsh.1 ev.ok hS rfl (by decide) d
    rw [obsW] at c1
    have e1 := EvA.of_after m1.after ev.ok ev.nh
    obtain ⟨M3, st3, e3, g3, l3⟩ := fill_new (z := [.int .i64 0, .int .i64 0, .int .u64 0, .int .u64 0]) (new := [.int .i64 o.k, .int .i64 o.c, .int .u64 o.a, .int .u64 o.b]) (n := 4) e1.ok e1.nh rfl rfl rfl
    refine W_seq (W_block (W_seq (W_seqR (by simp only [runSeq_cons, runSeq_nil, evalArgs_nil, evalArgs_tmp, val1, putT, Tr.get_set_self, Tr.get_set_ne, hd _, ne_eq, Nat.reduceEqDiff, not_false_eq_true, decide_true, Nat.reduceLT, opI_move, opI_extract, opI_callF, opI_new, List.getElem?_cons_zero, List.getElem?_cons_succ, h0, c1, st3]; rfl) ?_)))
    -- what came of it
    have hS1 := m1.seen
    have lt1 := hS1.lt e1.ok.1
    have hS3 : Seen M3 bf ρ1 D := hS1.keep (e3.ev e1.ok.1) (fun _ _ h => h)
    obtain ⟨M4, ρ4, c4, m4⟩ := call_ask hsh.2.1 e3.ok hS3 rfl (by decide) d
    rw [obsR] at c4
    have e4 := EvA.of_after m4.after e3.ok e3.nh
    obtain ⟨M6, st6, e6, g6, l6⟩ := fill_new (z := [.int .i64 0, .int .u64 0, .slice none 0 0 false]) (new := [.int .i64 o.code, .int .u64 o.val, .slice none 0 0 false]) (n := 3) e4.ok e4.nh rfl rfl rfl
    refine W_seq (W_seqR (by simp only [runSeq_cons, runSeq_nil, evalArgs_nil, evalArgs_tmp, val1, putT, Tr.get_set_self, Tr.get_set_ne, hd _, ne_eq, Nat.reduceEqDiff, not_false_eq_true, decide_true, Nat.reduceLT, opI_move, opI_extract, opI_callF, opI_new, List.getElem?_cons_zero, List.getElem?_cons_succ, h0, c4, st6]; rfl) ?_)
    -- what it holds
    have hS4 := m4.seen
    have lt4 := hS4.lt e4.ok.1
    have hS6 : Seen M6 bf ρ4 D := hS4.keep (e6.ev e4.ok.1) (fun _ _ h => h)
    have lt6 := hS6.lt e6.ok.1
    have hSH : Seen (M6.push .held) bf ρ4 D := hS6.same fun c hc => get_push_old e6.ok.1 (lt6 c hc)
    obtain ⟨H1, ρ7, hv, c7, m7, hat⟩ := call_held hsh.2.2 e6.ok.held hSH (by decide) d
    obtain ⟨hg1, e7, g7, o7, n7⟩ := EvA.fill e6.ok e6.nh m7.after lt6 []
    have hfill : fillI (.sliceLit 0 [] []) [] M6.n H1 = some (.slice (some (M6.n, 0)) 0 0 false, H1.set M6.n (.cells [] 0 true none)) := by
      unfold fillI
      rw [hg1]
      rfl
    have hn12 : (H1.set M6.n (.cells [] 0 true none)).n = H1.n := set_n
    generalize hH2 : H1.set M6.n (.cells [] 0 true none) = H2 at *
    have hat2 : HeldAt H2 (M6.push .held).n hv o.held := by
      rcases hat with h | ⟨x, c, gr, sz, q1, q2, q3, q4⟩
      · exact .inl h
      · exact .inr ⟨x, c, gr, sz, q1, q2, by rw [o7 c (by rw [push_n] at q4; omega), q3], q4⟩
    obtain ⟨r, H3, c8, e8, hc8, one8, gb8⟩ := copy_held e7.ok e7.nh g7 hat2
    obtain ⟨cr, nr, grr, rfl⟩ : ∃ cr nr grr, r = .slice (some (cr, 0)) nr nr grr := by
      obtain ⟨c, sz, _, ⟨_, rfl, _⟩ | ⟨x, gr, _, rfl, _⟩⟩ := hc8
      · exact ⟨c, 0, false, rfl⟩
      · exact ⟨c, 1, gr, rfl⟩
    have en : M.n ≤ M1.n ∧ M1.n ≤ M3.n ∧ M3.n ≤ M4.n ∧ M4.n ≤ M6.n ∧ M6.n ≤ H2.n ∧ H2.n ≤ H3.n := ⟨e1.n, e3.n, e4.n, e6.n, e7.n, e8.n⟩
    have l7 := get_lt e7.ok.1 g7
    have own4 : ∀ c ∈ ρ4, c ∈ ρ ∨ M.n ≤ c := fun c hc => by
      rcases m4.own c hc with h | h
      · exact m1.own c h
      · exact .inr (by omega)
    have own7 : ∀ c ∈ ρ7, c ∈ ρ ∨ M.n ≤ c := fun c hc => by
      rcases m7.own c hc with h | h
      · exact own4 c h
      · rw [push_n] at h; exact .inr (by omega)
    have eA : EvA M H3 (· ∈ ρ) := by
      have a1 : EvA M M3 (· ∈ ρ) := e1.trans e3 (fun _ h => h) (fun _ _ h => h.elim)
      have a2 : EvA M M4 (· ∈ ρ) := a1.trans e4 (fun _ h => h) (fun b hb h => by rcases m1.own b h with h | h; exact h; omega)
      have a3 : EvA M M6 (· ∈ ρ) := a2.trans e6 (fun _ h => h) (fun _ _ h => h.elim)
      have a4 : EvA M H2 (· ∈ ρ) := a3.trans e7 (fun _ h => h) (fun b hb h => by rcases own4 b h with h | h; exact h; omega)
      exact a4.trans e8 (fun _ h => h) (fun _ _ h => h.elim)
    -- the two structs stand still meanwhile
    have f7 : M6.get M1.n = some (.cells [.int .i64 o.k, .int .i64 o.c, .int .u64 o.a, .int .u64 o.b] 0 true none) := (e6.same M1.n (by omega) (fun h => h)).trans ((e4.same M1.n l3 fun hc => Nat.lt_irrefl _ (lt1 _ hc)).trans g3)
    have trip : ∀ b k, b < M6.n → b ∉ ρ4 → M6.get b = some k → (M6.push .held).get b = some k ∧ H1.get b = some k ∧ H2.get b = some k ∧ H3.get b = some k := by
      intro b k hb hn hg
      have q0 : (M6.push .held).get b = some k := (get_push_old e6.ok.1 hb).trans hg
      have q1 : H1.get b = some k := (m7.after.same b (by rw [push_n]; omega) hn).trans q0
      have q2 : H2.get b = some k := (o7 b (by omega)).trans q1
      exact ⟨q0, q1, q2, (e8.same b (by omega) (fun h => h)).trans q2⟩
    have n74 : M1.n ∉ ρ4 := fun hc => by
      rcases m4.own _ hc with h | h
      · exact Nat.lt_irrefl _ (lt1 _ h)
      · omega
    obtain ⟨fa0, fa1, fa2, fa3⟩ := trip M1.n _ (by omega) n74 f7
    obtain ⟨fb0, fb1, fb2, fb3⟩ := trip M4.n _ (by omega) (fun hc => Nat.lt_irrefl _ (lt4 _ hc)) g6
    have LA0 := load_agg (n := 4) fa0 rfl
    have LA1 := load_agg (n := 4) fa1 rfl
    have LA2 := load_agg (n := 4) fa2 rfl
    have LA3 := load_agg (n := 4) fa3 rfl
    have LB0 := load_agg (n := 3) fb0 rfl
    have LB1 := load_agg (n := 3) fb1 rfl
    have LB2 := load_agg (n := 3) fb2 rfl
    have LB3 := load_agg (n := 3) fb3 rfl
    have i0 : isHeld ((M6.push .held).get M6.n) = true := by rw [get_push_self e6.ok.1]; rfl
    have i1 : isHeld (H1.get M6.n) = true := by rw [hg1]; rfl
    have i2 : isHeld (H2.get M6.n) = false := e7.nh _
    have i3 : isHeld (H3.get M6.n) = false := e8.nh _
    have bld : opI (.build [.int .i64 0, .int .i64 0, .int .u64 0, .int .u64 0, .bool false, .int .i64 0, .int .u64 0, .slice none 0 0 false, .bool false, .slice none 0 0 false] [(0, 4), (4, 1), (5, 3), (8, 1), (9, 1)]) [.agg [.int .i64 o.k, .int .i64 o.c, .int .u64 o.a, .int .u64 o.b], .bool o.ok, .agg [.int .i64 o.code, .int .u64 o.val, .slice none 0 0 false], .bool o.over, .slice (some (cr, 0)) nr nr grr] H3 = some (.val (.agg (elOf o (.slice (some (cr, 0)) nr nr grr))) H3) := rfl
    -- it goes to the others
    have hrow3 : SeenRow H3 (fun c => M0.n ≤ c ∧ c ∉ ρ7) out dn := by
      refine hrow.keep (eA.ev ev.ok.1) ev.ok.1 (fun c hc => hc.2) (fun c k hc hk => ?_) (fun c hc hA => ⟨hA.1, fun h => ?_⟩)
      · obtain ⟨_, _, _, q, _⟩ := hrow
        rw [eA.same c (get_lt ev.ok.1 hk) (q c hc).2, hk]
      · rcases own7 c h with h | h
        · exact hA.2 h
        · omega
    obtain ⟨hvs, hl, own, hsb, hheld⟩ := hrow3
    have hzl := zip_len hl
    obtain ⟨M5, g5, elit, eapp, s5, own5, keep5, n5, gg5⟩ := push_el (bytes := 112) (x := .agg (elOf o (.slice (some (cr, 0)) nr nr grr))) (z := [.int .i64 0, .int .i64 0, .int .u64 0, .int .u64 0, .bool false, .int .i64 0, .int .u64 0, .slice none 0 0 false, .bool false, .slice none 0 0 false]) (step0 e8.ok e8.nh) (.inl own) rfl rfl (by omega) rfl (by omega) (by omega)
    simp only [cells_agg] at elit eapp own5 gg5
    have i4 : isHeld ((H3.push (.cells (elOf o (.slice (some (cr, 0)) nr nr grr)) 0 true none)).get M6.n) = false := by rw [get_push_old e8.ok.1 (by omega)]; exact i3
    refine W_seq (W_traceF (M' := M5) rfl (by simp only [sameN_self, evalArgs_nil, evalArgs_tmp, val1, putT, Tr.get_set_self, Tr.get_set_ne, hd _, ne_eq, Nat.reduceEqDiff, not_false_eq_true, decide_true, Nat.reduceLT, opI_move, opI_callF, push_n, trace_nil, trace_read, trace_eff, trace_fl, addR_some, addE_some, Bool.false_and, Bool.and_false, Bool.and_true, Bool.not_true, Bool.not_false, h0, h5, LA0, LB0, c7, i0, i1, hfill, i2, c8, i3, bld, elit, i4, eapp]; rfl) (by simp [checkRec, isLoad, sameAt, LA0, LA1, LA2, LA3, LB0, LB1, LB2, LB3, AV.beq, AV.beqs]) rfl ?_)
    -- what stands there now
    have evK := Ev.of_keeps s5 keep5 (by omega)
    have hob : ∀ c, sbOf out = some c → c < M.n := by
      obtain ⟨_, _, ⟨b, gr, sz', g, q1, _, q3, _⟩, _⟩ := hrow
      subst q1
      intro c hc
      simp only [sbOf, Option.some.injEq] at hc
      subst hc
      exact get_lt ev.ok.1 q3
    have hS7 := m7.seen
    have lt7 : ∀ c ∈ ρ7, c < H1.n ∧ c ≠ M6.n := fun c hc => ⟨hS7.lt (m7.after.ok e6.ok.held).1 c hc, fun h => by
      rcases m7.own c hc with q | q
      · have := lt6 c q; omega
      · rw [push_n] at q; omega⟩
    have hS5 : Seen M5 bf ρ7 D := by
      have q2 : Seen H2 bf ρ7 D := hS7.same fun c hc => o7 c (lt7 c hc).2
      have q3 : Seen H3 bf ρ7 D := q2.same fun c hc => e8.same c (by have := (lt7 c hc).1; omega) (fun h => h)
      exact q3.keep evK fun c hc h => (hsb c h).2 hc
    have ev5 : Ev M0 M5 (· ∈ ρ0) := by
      have q1 : Ev M0 H3 (· ∈ ρ0) := ev.trans (eA.ev ev.ok.1) (fun _ h => h) (fun b hb h => by rcases hρ b h with h | h; exact h; omega) hok.1
      refine q1.trans evK (fun _ h => h) (fun b hb h => ?_) hok.1
      have := (hsb b h).1
      omega
    have hn0 : M0.n ≤ M.n := ev.n
    have row5 : SeenRow M5 (fun c => M0.n ≤ c ∧ c ∉ ρ7) (.slice (some (H3.n + 1, 0)) ((List.zipWith elOf dn hvs).length + 1) ((List.zipWith elOf dn hvs).length + 1) true) (dn ++ [o]) := by
      refine ⟨hvs ++ [.slice (some (cr, 0)) nr nr grr], by simp [hl], ?_, fun c hc => ?_, fun j o' hv' ho hi' => ?_⟩
      · rw [List.zipWith_append hl.symm]
        exact OwnE.n0 own5 _
      · simp only [sbOf, Option.some.injEq] at hc
        subst hc
        exact ⟨by omega, fun h => by have := (lt7 _ h).1; omega⟩
      · by_cases hj : j < dn.length
        · rw [List.getElem?_append_left hj] at ho
          rw [List.getElem?_append_left (by omega)] at hi'
          refine (hheld j o' hv' ho hi').keep evK e8.ok.1 (fun c hc => hc.2) fun c hcl hc => ⟨hc.1, fun h => ?_⟩
          simp only [sbOf, Option.some.injEq] at h
          omega
        · have hlt := (List.getElem?_eq_some_iff.1 ho).1
          rw [List.length_append, List.length_singleton] at hlt
          obtain rfl : j = dn.length := by omega
          rw [List.getElem?_append_right (Nat.le_refl _), Nat.sub_self] at ho
          rw [List.getElem?_append_right (by omega), show dn.length - hvs.length = 0 by omega] at hi'
          simp only [List.getElem?_cons_zero, Option.some.injEq] at ho hi'
          subst ho
          subst hi'
          refine hc8.keep evK e8.ok.1 (fun c hc h => ?_) fun c hcl hc => ⟨⟨?_, fun h => ?_⟩, fun h => ?_⟩
          · have := hob c h
            rcases hc with hc | hc <;> omega
          · rcases hc with hc | hc <;> omega
          · have := lt7 c h
            rcases hc with hc | hc <;> omega
          · simp only [sbOf, Option.some.injEq] at h
            omega
    have ln : (dn ++ [o]).length = i + 1 := by simp [hdn]
    have lv5 := hlr M5 (ev5.g)
    have htn := told.length
    show W _ _
    refine W_seq (W_seqR (by simp only [runSeq_cons, runSeq_nil, evalArgs_nil, evalArgs_tmp, val1, putT, Tr.get_set_self, Tr.get_set_ne, hd _, ne_eq, Nat.reduceEqDiff, not_false_eq_true, decide_true, Nat.reduceLT, opI_move, opI_lss, h1, h6, lv5]; rfl) ?_)
    refine W_cond (by simp only [PArg.eval, Tr.get_set_self, Tr.get_set_ne, hd _, ne_eq, Nat.reduceEqDiff, not_false_eq_true, decide_true, Nat.reduceLT]; rfl) (fun hb2 => ?_) (fun hb2 => ?_)
    · have hi2 : i < told.length := by simpa using hb2
      cases hT with
      | last _ => rw [hto, List.append_nil] at hi2; omega
      | @more _ D' _ u w r _ _ hg ht' =>
        obtain ⟨p, pp, p1, _, p4⟩ := (ht M5 ev5.g).at_ (i := i) (by rw [List.length_map]; exact hi2) (by omega)
        have hel : (told.map toldE)[i]'(by rw [List.length_map]; exact hi2) = toldE (u, w) := by
          subst hto
          subst hpl
          simp
        rw [hel] at p4
        have q0 := p4 0 _ rfl
        have q1 := p4 1 _ rfl
        obtain ⟨M7, ρ9, c9, m9⟩ := call_ask hg ev5.ok hS5 rfl (by decide) d
        rw [nilR] at c9
        have e9 := EvA.of_after m9.after ev5.ok ev5.nh
        have iN : isHeld (M5.get M5.n) = false := held_none ev5.ok.1
        refine W_trace (M' := M7) rfl (by simp only [sameN_self, evalArgs_nil, evalArgs_tmp, val1, putT, Tr.get_set_self, Tr.get_set_ne, hd _, ne_eq, Nat.reduceEqDiff, not_false_eq_true, decide_true, Nat.reduceLT, opI_move, opI_callF, Nat.zero_add, Nat.add_zero, trace_nil, trace_read, trace_eff, addR_some, addE_some, Bool.false_and, h0, h1, h6, p1, opI_fieldQ pp, q0, q1, c9, iN]; rfl) (by simp [checkRec, isLoad]) rfl ?_
        have own9 : ∀ c ∈ ρ9, c ∈ ρ0 ∨ M0.n ≤ c := fun c hc => by
          rcases m9.own c hc with h | h
          · rcases own7 c h with h | h
            · exact hρ c h
            · exact .inr (by omega)
          · exact .inr (by have := ev5.n; omega)
        have ev7 : Ev M0 M7 (· ∈ ρ0) := ev5.trans (e9.ev ev5.ok.1) (fun _ h => h) (fun b hb h => by
          rcases own7 b h with h | h
          · rcases hρ b h with h | h
            · exact h
            · omega
          · omega) hok.1
        show W _ _
        refine W_seqR (by simp only [runSeq_cons, runSeq_nil, evalArgs_nil, evalArgs_tmp, evalArgs_const, val1, putT, Tr.get_set_self, Tr.get_set_ne, hd _, ne_eq, Nat.reduceEqDiff, not_false_eq_true, decide_true, Nat.reduceLT, opI_move, opI_add, h6]; rfl) ?_
        refine ⟨k - 1, by omega, i + 1, _, dn ++ [o], by omega, ev7, by ((repeat (with_reducible apply Dom.set)); exact hd), by simp only [Tr.get_set_ne, ne_eq, Nat.reduceEqDiff, not_false_eq_true, h0], by simp only [Tr.get_set_ne, ne_eq, Nat.reduceEqDiff, not_false_eq_true, h1], by simp only [Tr.get_set_self, Tr.get_set_ne, hd _, ne_eq, Nat.reduceEqDiff, not_false_eq_true, decide_true, Nat.reduceLT]; try rfl, ?_, ln, .inr ⟨pre ++ [(u, w)], r, osr', ρ9, D', by rw [hto]; simp, by simp [hpl], by rw [hos]; simp, m9.seen, ht', own9, ?_⟩⟩
        · simp only [Tr.get_set_self, Tr.get_set_ne, hd _, ne_eq, Nat.reduceEqDiff, not_false_eq_true, decide_true, Nat.reduceLT]
          rw [wrapF_small (by omega) (by omega)]; rfl
        · refine row5.keep (e9.ev ev5.ok.1) ev5.ok.1 (fun c hc => hc.2) (fun c k hc hk => ?_) (fun c hc hA => ⟨hA.1, fun h => ?_⟩)
          · obtain ⟨_, _, _, q, _⟩ := row5
            rw [e9.same c (get_lt ev5.ok.1 hk) (q c hc).2, hk]
          · rcases m9.own c h with h | h
            · exact hA.2 h
            · omega
    · have hi2 : i = told.length := by
        have : ¬ i < told.length := by simpa using hb2
        omega
      refine W_skip ?_
      show W _ _
      refine W_seqR (by simp only [runSeq_cons, runSeq_nil, evalArgs_nil, evalArgs_tmp, evalArgs_const, val1, putT, Tr.get_set_self, Tr.get_set_ne, hd _, ne_eq, Nat.reduceEqDiff, not_false_eq_true, decide_true, Nat.reduceLT, opI_move, opI_add, h6]; rfl) ?_
      have hor : osr' = [] := by
        have := congrArg List.length hos
        rw [List.length_append, List.length_cons] at this
        exact List.eq_nil_of_length_eq_zero (by omega)
      subst hor
      refine ⟨k - 1, by omega, i + 1, _, dn ++ [o], by omega, ev5, by ((repeat (with_reducible apply Dom.set)); exact hd), by simp only [Tr.get_set_ne, ne_eq, Nat.reduceEqDiff, not_false_eq_true, h0], by simp only [Tr.get_set_ne, ne_eq, Nat.reduceEqDiff, not_false_eq_true, h1], by simp only [Tr.get_set_self, Tr.get_set_ne, hd _, ne_eq, Nat.reduceEqDiff, not_false_eq_true, decide_true, Nat.reduceLT]; try rfl, ?_, ln, .inl ⟨by omega, hos.symm, ?_⟩⟩
      · simp only [Tr.get_set_self, Tr.get_set_ne, hd _, ne_eq, Nat.reduceEqDiff, not_false_eq_true, decide_true, Nat.reduceLT]
        rw [wrapF_small (by omega) (by omega)]; rfl
      · rw [hos]
        obtain ⟨hv1, hv2, hv3, hv4, hv5⟩ := row5
        exact ⟨hv1, hv2, hv3, fun c hc => (hv4 c hc).1, fun j o' hv' ho hi' => by
          obtain ⟨c, sz, ⟨⟨a1, _⟩, a2⟩, q⟩ := hv5 j o' hv' ho hi'
          exact ⟨c, sz, ⟨a1, a2⟩, q⟩⟩
  · show W _ _
    have hni : ¬ i ≤ told.length := by simpa using hb
    rcases hcase with ⟨_, _, hrow⟩ | ⟨pre, rest, _, _, _, hto, hpl, _⟩
    · refine W_seq (W_seqR (by simp only [runSeq_cons, runSeq_nil, evalArgs_nil, evalArgs_tmp, val1, putT, Tr.get_set_self, Tr.get_set_ne, hd _, ne_eq, Nat.reduceEqDiff, not_false_eq_true, decide_true, Nat.reduceLT, opI_move, h5]; rfl) (W_ret ?_))
      exact ⟨_, fin_tmp (by simp only [Tr.get_set_self, Tr.get_set_ne, hd _, ne_eq, Nat.reduceEqDiff, not_false_eq_true, decide_true, Nat.reduceLT]; try rfl), ev, hrow⟩
    · have := congrArg List.length hto
      rw [List.length_append] at this
      omega
end Go.Proofs.YtmgfamnongagbaaGreat.stk
