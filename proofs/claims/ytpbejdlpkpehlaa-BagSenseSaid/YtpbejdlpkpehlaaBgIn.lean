/- Spans that came in. -/
import Derived.Test.YtpbejdlpkpehlaaBgSn
import Derived.Test.YtpbejdlpkpehlaaVx19
namespace Go.Proofs.Ytpbejdlpkpehlaa.bag
open Go Go.ChangeShapes Go.WideShapes Go.Deep Go.Joins Go.Vx
abbrev spC (who nth from_ to kind task : Int) (va : AV) (code v : Int) (la : AV) : List AV := [.int .i64 who, .int .i64 nth, .int .i64 from_, .int .i64 to, .int .i64 kind, .int .u64 task, va, .int .i64 code, .int .u64 v, la]
/-- a row that came in -/
def InRow (G : Addr → Option AV) (k : IntKind) (v : AV) (xs : List Int) : Prop := ∀ M : AMem, M.g = G → IRow M k v xs
structure Sp where
  who : Int
  nth : Int
  from_ : Int
  to : Int
  kind : Int
  task : Int
  vs : List Int
  code : Int
  v : Int
  ls : List Int
theorem spC_one {a b c e f g h i : Int} {va la : AV} (h1 : va.one = true) (h2 : la.one = true) : (spC a b c e f g va h i la).all AV.one = true := by simp [one_int, h1, h2]
theorem InRow.one {G : Addr → Option AV} {k : IntKind} {v : AV} {xs : List Int} (h : InRow G k v xs) : v.one = true := (h ⟨.nil, 0, G⟩ rfl).one2.1
/-- a span whose lists came in -/
def InSp (G : Addr → Option AV) (cs : List AV) (s : Sp) : Prop := ∃ va la, cs = spC s.who s.nth s.from_ s.to s.kind s.task va s.code s.v la ∧ InRow G .i64 va s.vs ∧ InRow G .u64 la s.ls
theorem padd_zero {p : AV} (h : IsP p) : padd p 0 = p := by
  match p, h with
  | .ptr (some (b, x)), _ => rfl
  | .rptr (some x), _ => simp [padd, addr_add0]
/-- spans that came in, in a row -/
def InSps (G : Addr → Option AV) (v : AV) (sps : List Sp) : Prop := ∃ els, (∀ M : AMem, M.g = G → RowE M 10 v els) ∧ els.length = sps.length ∧ ∀ (i : Nat) s, sps[i]? = some s → ∃ e, els[i]? = some e ∧ InSp G e s
theorem inrow_at {G : Addr → Option AV} {v : AV} {els : List (List AV)} (hv : ∀ M : AMem, M.g = G → RowE M 10 v els) {i : Nat} (hi : i < els.length) :
    ∃ p, IsP p ∧ ∀ M : AMem, M.g = G → opI (.indexAddrS 10) [v, .int .i64 i] M = some (.val (padd p 0) M) ∧ (∀ o n, o + n ≤ 10 → opI (.load true n) [padd p o] M = some (.val (.agg ((els[i].drop o).take n)) M)) ∧ ∀ o x, els[i][o]? = some x → opI (.load false 1) [padd p o] M = some (.val x M) := by
  have h := hv ⟨.nil, 0, G⟩ rfl
  obtain ⟨_, ⟨a, c, rfl, hg⟩ | ⟨_, he⟩ | ⟨b, o, c, gr, cs, sz', wr, g, _, h1, _⟩⟩ := h
  · obtain ⟨p0, rfl, _⟩ := hg 0 (by omega)
    refine ⟨.rptr (some (p0.add (i * 10))), trivial, fun M hM => ?_⟩
    obtain ⟨q, qq, e1, e2, e3⟩ := (hv M hM).at_ hi (by omega)
    have := index_in (M := M) (sz := 10) (a := p0) (c := c) (n := els.length) (i := i) hi
    rw [e1] at this
    cases (padd_zero qq) ▸ this
    exact ⟨e1, e2, e3⟩
  · rw [he] at hi; simp at hi
  · simp [AMem.get, Tr.get] at h1
abbrev spL (s : Sp) (va la : AV) : List AV := spC s.who s.nth s.from_ s.to s.kind s.task va s.code s.v la
theorem InSps.at_ {G : Addr → Option AV} {v : AV} {sps : List Sp} (h : InSps G v sps) {i : Nat} (hi : i < sps.length) :
    ∃ p va la, IsP p ∧ InRow G .i64 va sps[i].vs ∧ InRow G .u64 la sps[i].ls ∧ ∀ M : AMem, M.g = G → opI (.indexAddrS 10) [v, .int .i64 i] M = some (.val (padd p 0) M) ∧ (∀ o n, o + n ≤ 10 → opI (.load true n) [padd p o] M = some (.val (.agg (((spL sps[i] va la).drop o).take n)) M)) ∧ ∀ o x, (spL sps[i] va la)[o]? = some x → opI (.load false 1) [padd p o] M = some (.val x M) := by
  obtain ⟨els, h1, h2, h3⟩ := h
  obtain ⟨e, k1, va, la, k2, k3, k4⟩ := h3 i _ (List.getElem?_eq_getElem hi)
  obtain ⟨p, pp, hp⟩ := inrow_at h1 (i := i) (by omega)
  rw [(List.getElem?_eq_some_iff.1 k1).2, k2] at hp
  exact ⟨p, va, la, pp, k3, k4, hp⟩
def Sp.sn (s : Sp) : Sn := ⟨s.from_, s.to, s.kind, s.task, s.code, s.v⟩
theorem InSps.sn {G : Addr → Option AV} {v : AV} {sps : List Sp} (h : InSps G v sps) (M : AMem) (hM : M.g = G) : SnR M v (sps.map Sp.sn) := by
  obtain ⟨els, h1, h2, h3⟩ := h
  refine ⟨els, h1 M hM, by rw [h2, List.length_map], fun i s hs => ?_⟩
  rw [List.getElem?_map] at hs
  cases hi : sps[i]? with
  | none => rw [hi] at hs; cases hs
  | some y =>
    rw [hi] at hs
    simp only [Option.map_some, Option.some.injEq] at hs
    subst hs
    obtain ⟨e, k1, va, la, k2, k3, k4⟩ := h3 i y hi
    exact ⟨e, k1, _, _, va, la, k2, k3.one, k4.one⟩
theorem InSps.len {G : Addr → Option AV} {v : AV} {sps : List Sp} (h : InSps G v sps) (M : AMem) (hM : M.g = G) : opI .lenS [v] M = some (.val (.int .i64 sps.length) M) := by
  have := (h.sn M hM).len
  rwa [List.length_map] at this
set_option maxHeartbeats 2000000 in
theorem big_ok {T : Tbl} (hT : ∀ a M, T 7 a M = none) {v : AV} {sps : List Sp} {top : Nat} (htop : top ≤ 1000) (d : Nat) (M0 : AMem) (hv : InSps M0.g v sps) :
    Ans (callF T code 100000 (d + 1)) 7 [v, .int .i64 top] M0 fun r M' => M' = M0 ∧ ∃ b, r = .bool b ∧ (b = false → sps.length ≤ top ∧ ∀ s ∈ sps, s.vs.length ≤ 100 ∧ s.ls.length ≤ 100) := by
  refine Ans_of (hT _) (show code 7 = some c7 from by kernel_rfl) (by simp) fun t hd ha => ?_
  have h0 := ha 0 _ rfl
  have h1 := ha 1 _ rfl
  clear ha
  have lv := hv.len M0 rfl
  refine W_seq (W_seqR (by simp only [runSeq_cons, runSeq_nil, evalArgs_nil, evalArgs_const, val1, putT, opI_move]; rfl) ?_)
  refine W_seq (W_seq (W_seqR (by simp only [runSeq_cons, runSeq_nil, evalArgs_nil, evalArgs_tmp, val1, putT, Tr.get_set_self, Tr.get_set_ne, hd _, ne_eq, Nat.reduceEqDiff, not_false_eq_true, decide_true, Nat.reduceLT, opI_move, opI_gtr, h0, h1, lv]; rfl) ?_))
  refine W_cond (by simp only [PArg.eval, Tr.get_set_self, Tr.get_set_ne, hd _, ne_eq, Nat.reduceEqDiff, not_false_eq_true, decide_true, Nat.reduceLT]; rfl) (fun _ => ?_) (fun hb => W_skip ?_)
  · refine W_seq (W_seqR (by simp only [runSeq_cons, runSeq_nil, evalArgs_nil, evalArgs_const, val1, putT, opI_move]; rfl) (W_ret ?_))
    exact ⟨_, fin_tmp (by simp only [Tr.get_set_self, Tr.get_set_ne, Option.isSome_some, hd _, ne_eq, Nat.reduceEqDiff, not_false_eq_true, decide_true, Nat.reduceLT]; try rfl), rfl, true, rfl, fun h => by cases h⟩
  have hn : sps.length ≤ top := by simp at hb; omega
  clear hb
  show W _ _
  refine W_seq (W_seq (W_seqR (by simp only [runSeq_cons, runSeq_nil, evalArgs_nil, evalArgs_const, val1, putT, opI_move]; rfl) (W_block (W_loop (fun k t M' => ∃ (i : Nat), k + i = sps.length ∧ M' = M0 ∧ (∀ j, (hj : j < sps.length) → j < i → sps[j].vs.length ≤ 100 ∧ sps[j].ls.length ≤ 100) ∧ Dom t 34 ∧ t.get 0 = some v ∧ t.get 5 = some (.int .i64 i)) (k := sps.length) (by omega) ?_ ?_))))
  · exact ⟨0, rfl, rfl, fun j _ hj => by omega, by ((repeat (with_reducible apply Dom.set)); exact hd), by simp only [Tr.get_set_ne, ne_eq, Nat.reduceEqDiff, not_false_eq_true, h0], by simp only [Tr.get_set_self, Tr.get_set_ne, hd _, ne_eq, Nat.reduceEqDiff, not_false_eq_true, decide_true, Nat.reduceLT]; rfl⟩
  clear h0 h1 hd lv
  intro k t M ⟨i, hk, hM, hbd, hd, h0, h5⟩
  subst hM
  have lv := hv.len M rfl
  refine W_seq (W_seq (W_seqR (by simp only [runSeq_cons, runSeq_nil, evalArgs_nil, evalArgs_tmp, val1, putT, Tr.get_set_self, Tr.get_set_ne, hd _, ne_eq, Nat.reduceEqDiff, not_false_eq_true, decide_true, Nat.reduceLT, opI_move, opI_lss, h0, h5, lv]; rfl) ?_))
  refine W_cond (by simp only [PArg.eval, Tr.get_set_self, Tr.get_set_ne, hd _, ne_eq, Nat.reduceEqDiff, not_false_eq_true, decide_true, Nat.reduceLT]; rfl) (fun hb => W_skip ?_) (fun hb => ?_)
  · have hin : i < sps.length := by simpa using hb
    obtain ⟨p, va, la, pp, hva, hla, hM⟩ := hv.at_ hin
    obtain ⟨p1, _, p2⟩ := hM M rfl
    have P6 := p2 6 _ rfl
    have P9 := p2 9 _ rfl
    have l6 := (hva M rfl).len
    have l9 := (hla M rfl).len
    by_cases c1 : (sps[i].vs.length : Int) > 100
    · refine W_seq (W_block (W_seq (W_seqR (by simp only [runSeq_cons, runSeq_nil, evalArgs_nil, evalArgs_tmp, evalArgs_const, val1, putT, Tr.get_set_self, Tr.get_set_ne, Tr.isSome_set, hd _, ne_eq, Nat.reduceEqDiff, not_false_eq_true, decide_true, Nat.reduceLT, opI_move, opI_gtr, opI_pick, Nat.zero_add, Nat.reduceAdd, runSeq_guard (b := true), Bool.true_beq, h0, h5, p1, opI_fieldQ pp, P6, l6, c1]; rfl) ?_)))
      refine W_cond (b := true) (by simp only [PArg.eval, Tr.get_set_self, Tr.get_set_ne, hd _, ne_eq, Nat.reduceEqDiff, not_false_eq_true, decide_true, Nat.reduceLT]; try rfl) (fun _ => ?_) (fun hb => by cases hb)
      refine W_seq (W_seqR (by simp only [runSeq_cons, runSeq_nil, evalArgs_nil, evalArgs_const, val1, putT, opI_move]; rfl) (W_ret ?_))
      exact ⟨_, fin_tmp (by simp only [Tr.get_set_self, Tr.get_set_ne, hd _, ne_eq, Nat.reduceEqDiff, not_false_eq_true, decide_true, Nat.reduceLT]; try rfl), rfl, true, rfl, fun h => by cases h⟩
    by_cases c2 : (sps[i].ls.length : Int) > 100
    · refine W_seq (W_block (W_seq (W_seqR (by simp only [runSeq_cons, runSeq_nil, evalArgs_nil, evalArgs_tmp, evalArgs_const, val1, putT, Tr.get_set_self, Tr.get_set_ne, Tr.isSome_set, hd _, ne_eq, Nat.reduceEqDiff, not_false_eq_true, decide_true, Nat.reduceLT, opI_move, opI_gtr, opI_pick, Nat.zero_add, Nat.reduceAdd, runSeq_guard (b := false), beq_self_eq_true, h0, h5, p1, opI_fieldQ pp, P6, P9, l6, l9, c1, c2, decide_false]; rfl) ?_)))
      refine W_cond (b := true) (by simp only [PArg.eval, Tr.get_set_self, Tr.get_set_ne, hd _, ne_eq, Nat.reduceEqDiff, not_false_eq_true, decide_true, Nat.reduceLT]; try rfl) (fun _ => ?_) (fun hb => by cases hb)
      refine W_seq (W_seqR (by simp only [runSeq_cons, runSeq_nil, evalArgs_nil, evalArgs_const, val1, putT, opI_move]; rfl) (W_ret ?_))
      exact ⟨_, fin_tmp (by simp only [Tr.get_set_self, Tr.get_set_ne, hd _, ne_eq, Nat.reduceEqDiff, not_false_eq_true, decide_true, Nat.reduceLT]; try rfl), rfl, true, rfl, fun h => by cases h⟩
    refine W_seq (W_block (W_seq (W_seqR (by simp only [runSeq_cons, runSeq_nil, evalArgs_nil, evalArgs_tmp, evalArgs_const, val1, putT, Tr.get_set_self, Tr.get_set_ne, Tr.isSome_set, hd _, ne_eq, Nat.reduceEqDiff, not_false_eq_true, decide_true, Nat.reduceLT, opI_move, opI_gtr, opI_pick, Nat.zero_add, Nat.reduceAdd, runSeq_guard (b := false), beq_self_eq_true, h0, h5, p1, opI_fieldQ pp, P6, P9, l6, l9, c1, c2, decide_false]; rfl) ?_)))
    refine W_cond (b := false) (by simp only [PArg.eval, Tr.get_set_self, Tr.get_set_ne, hd _, ne_eq, Nat.reduceEqDiff, not_false_eq_true, decide_true, Nat.reduceLT]; try rfl) (fun hb => by cases hb) (fun _ => W_skip ?_)
    show W _ _
    refine W_seqR (by simp only [runSeq_cons, runSeq_nil, evalArgs_nil, evalArgs_tmp, evalArgs_const, val1, putT, Tr.get_set_self, Tr.get_set_ne, hd _, ne_eq, Nat.reduceEqDiff, not_false_eq_true, decide_true, Nat.reduceLT, opI_move, opI_add, h5]; rfl) ?_
    refine ⟨k - 1, by omega, i + 1, by omega, rfl, fun j hjl hj => ?_, by ((repeat (with_reducible apply Dom.set)); exact hd), by simp only [Tr.get_set_ne, ne_eq, Nat.reduceEqDiff, not_false_eq_true, h0], ?_⟩
    · rcases Nat.lt_or_ge j i with h | h
      · exact hbd j hjl h
      · obtain rfl : j = i := by omega
        exact ⟨by omega, by omega⟩
    · simp only [Tr.get_set_self, Tr.get_set_ne, hd _, ne_eq, Nat.reduceEqDiff, not_false_eq_true, decide_true, Nat.reduceLT]
      rw [wrapF_small (by omega) (by omega)]; rfl
  refine W_exit ?_
  have hi : i = sps.length := by simp at hb; omega
  subst hi
  show W _ _
  refine W_seq (W_seqR (by simp only [runSeq_cons, runSeq_nil, evalArgs_nil, evalArgs_const, val1, putT, opI_move]; rfl) (W_ret ?_))
  refine ⟨_, fin_tmp (by simp only [Tr.get_set_self, Tr.get_set_ne, hd _, ne_eq, Nat.reduceEqDiff, not_false_eq_true, decide_true, Nat.reduceLT]; try rfl), rfl, false, rfl, fun _ => ⟨hn, fun s hs => ?_⟩⟩
  obtain ⟨j, hj, rfl⟩ := List.mem_iff_getElem.1 hs
  exact hbd j hj hj

theorem inRow_of {G : Addr → Option AV} {k : IntKind} {a : Option Addr} {n c : Nat} {f : Nat → Int} (h : RdI G k (.rslice a n c) n f) : InRow G k (.rslice a n c) ((List.range n).map f) := by
  obtain ⟨a', c', he, h⟩ := h
  cases he
  intro M hM
  refine ⟨els_one, .inl ⟨a, c, by simp, fun j hj => ?_⟩⟩
  have hj' : j < n := by simpa using hj
  obtain ⟨p, h1, h2⟩ := h j hj'
  refine ⟨p, h1, ?_⟩
  rw [hM, h2, flat_one]
  simp [hj']
section
variable {H : Type} {enc : TypeId × Value → H} {P : Program} {w : World} {base : Nat} {spare : Nat → Bool} {held : Bool}
theorem trod_three {t : TypeId} {g0 g1 g2 : Field} {fuel : Nat} {cs : List Value} {x : DataW H × List MemPlace} (ht : P.underlying t = some (.struct #[g0, g1, g2])) (hone : oneCellFields P #[g0, g1, g2] = true) (hC : P.cellsOf t = 3)
    (h : DataW.trod enc P w base spare held fuel t cs = some x) : ∃ (v0 v1 v2 : Value) (n : Nat) (y0 y1 y2 : DataW H × List MemPlace), cs = [v0, v1, v2] ∧
      DataW.trod enc P w base spare held n g0.type [v0] = some y0 ∧ DataW.trod enc P w base spare held n g1.type [v1] = some y1 ∧ DataW.trod enc P w base spare held n g2.type [v2] = some y2 := by
  obtain ⟨xs, n, _, _, hl, hlen, hf⟩ := DataW.trod_struct ht h
  rw [hC] at hl
  match cs, hl, xs, hlen with
  | [v0, v1, v2], _, [y0, y1, y2], _ =>
    obtain ⟨o0, k0⟩ := hone_of hone 0 g0 rfl
    obtain ⟨o1, k1⟩ := hone_of hone 1 g1 rfl
    obtain ⟨o2, k2⟩ := hone_of hone 2 g2 rfl
    exact ⟨v0, v1, v2, n, y0, y1, y2, rfl, by simpa [o0, k0] using hf 0 g0 rfl, by simpa [o1, k1] using hf 1 g1 rfl, by simpa [o2, k2] using hf 2 g2 rfl⟩
/-- the layout of a span -/
structure SpT (P : Program) (t e : TypeId) (f0 f1 f2 f3 f4 f5 g0 g1 g2 r0 r1 r2 : Field) (ti tu : TypeId) : Prop where
  ut : P.underlying t = some (.slice e)
  ue : P.underlying e = some (.struct #[f0, f1, f2, f3, f4, f5])
  ce : P.cellsOf e = 10
  o : f0.offset = 0 ∧ f1.offset = 1 ∧ f2.offset = 2 ∧ f3.offset = 3 ∧ f4.offset = 4 ∧ f5.offset = 7
  cc : P.cellsOf f0.type = 1 ∧ P.cellsOf f1.type = 1 ∧ P.cellsOf f2.type = 1 ∧ P.cellsOf f3.type = 1 ∧ P.cellsOf f4.type = 3 ∧ P.cellsOf f5.type = 3
  u0 : P.underlying f0.type = some (.int .i64)
  u1 : P.underlying f1.type = some (.int .i64)
  u2 : P.underlying f2.type = some (.int .i64)
  u3 : P.underlying f3.type = some (.int .i64)
  u4 : P.underlying f4.type = some (.struct #[g0, g1, g2])
  u5 : P.underlying f5.type = some (.struct #[r0, r1, r2])
  h4 : oneCellFields P #[g0, g1, g2] = true
  h5 : oneCellFields P #[r0, r1, r2] = true
  v0 : P.underlying g0.type = some (.int .i64)
  v1 : P.underlying g1.type = some (.int .u64)
  v2 : P.underlying g2.type = some (.slice ti)
  w0 : P.underlying r0.type = some (.int .i64)
  w1 : P.underlying r1.type = some (.int .u64)
  w2 : P.underlying r2.type = some (.slice tu)
  ui : P.underlying ti = some (.int .i64)
  ci : P.cellsOf ti = 1
  uu : P.underlying tu = some (.int .u64)
  cu : P.cellsOf tu = 1
variable {t e : TypeId} {f0 f1 f2 f3 f4 f5 g0 g1 g2 r0 r1 r2 : Field} {ti tu : TypeId}
theorem sp_of (T : SpT P t e f0 f1 f2 f3 f4 f5 g0 g1 g2 r0 r1 r2 ti tu) {fuel : Nat} {cs : List Value} {x : DataW H × List MemPlace} (h : DataW.trod enc P w base spare held fuel e cs = some x) :
    ∃ (s : Sp) (va la : AV), (spL s va la).length = cs.length ∧ (∀ (j : Nat) v, cs[j]? = some v → ∃ a, ofR v = some a ∧ (spL s va la)[j]? = some a) ∧ InRow (readG w) .i64 va s.vs ∧ InRow (readG w) .u64 la s.ls := by
  obtain ⟨xs, n, _, _, hl, hlen, hf⟩ := DataW.trod_struct T.ue h
  rw [T.ce] at hl
  obtain ⟨o0, o1, o2, o3, o4, o5⟩ := T.o
  obtain ⟨c0, c1, c2, c3, c4, c5⟩ := T.cc
  match cs, hl, xs, hlen with
  | [v0, v1, v2, v3, v4, v5, v6, v7, v8, v9], _, [y0, y1, y2, y3, y4, y5], _ =>
    have k0 : DataW.trod enc P w base spare held n f0.type [v0] = some y0 := by simpa [o0, c0] using hf 0 f0 rfl
    have k1 : DataW.trod enc P w base spare held n f1.type [v1] = some y1 := by simpa [o1, c1] using hf 1 f1 rfl
    have k2 : DataW.trod enc P w base spare held n f2.type [v2] = some y2 := by simpa [o2, c2] using hf 2 f2 rfl
    have k3 : DataW.trod enc P w base spare held n f3.type [v3] = some y3 := by simpa [o3, c3] using hf 3 f3 rfl
    have k4 : DataW.trod enc P w base spare held n f4.type [v4, v5, v6] = some y4 := by simpa [o4, c4] using hf 4 f4 rfl
    have k5 : DataW.trod enc P w base spare held n f5.type [v7, v8, v9] = some y5 := by simpa [o5, c5] using hf 5 f5 rfl
    obtain ⟨n0, e0, _⟩ := DataW.trod_int T.u0 k0
    obtain ⟨n1, e1, _⟩ := DataW.trod_int T.u1 k1
    obtain ⟨n2, e2, _⟩ := DataW.trod_int T.u2 k2
    obtain ⟨n3, e3, _⟩ := DataW.trod_int T.u3 k3
    cases e0; cases e1; cases e2; cases e3
    obtain ⟨_, _, _, m, _, _, _, e4, q0, q1, q2⟩ := trod_three T.u4 T.h4 c4 k4
    cases e4
    obtain ⟨_, _, _, m', _, _, _, e5, q3, q4, q5⟩ := trod_three T.u5 T.h5 c5 k5
    cases e5
    obtain ⟨n4, e0, _⟩ := DataW.trod_int T.v0 q0
    obtain ⟨n5, e1, _⟩ := DataW.trod_int T.v1 q1
    obtain ⟨n7, e2, _⟩ := DataW.trod_int T.w0 q3
    obtain ⟨n8, e3, _⟩ := DataW.trod_int T.w1 q4
    cases e0; cases e1; cases e2; cases e3
    obtain ⟨a6, l6, p6, z6, e6, r6, _⟩ := rdI_of T.v2 T.ui T.ci q2
    obtain ⟨a9, l9, p9, z9, e9, r9, _⟩ := rdI_of T.w2 T.uu T.cu q5
    subst e6 e9
    refine ⟨⟨n0, n1, n2, n3, n4, n5, (List.range l6).map z6, n7, n8, (List.range l9).map z9⟩, .rslice a6 l6 p6, .rslice a9 l9 p9, rfl, fun j v hj => ?_, inRow_of r6, inRow_of r9⟩
    have hj10 := (List.getElem?_eq_some_iff.1 hj).1
    simp only [List.length_cons, List.length_nil] at hj10
    match j, hj10 with
    | 0, _ => cases hj; exact ⟨_, rfl, rfl⟩
    | 1, _ => cases hj; exact ⟨_, rfl, rfl⟩
    | 2, _ => cases hj; exact ⟨_, rfl, rfl⟩
    | 3, _ => cases hj; exact ⟨_, rfl, rfl⟩
    | 4, _ => cases hj; exact ⟨_, rfl, rfl⟩
    | 5, _ => cases hj; exact ⟨_, rfl, rfl⟩
    | 6, _ => cases hj; exact ⟨_, rfl, rfl⟩
    | 7, _ => cases hj; exact ⟨_, rfl, rfl⟩
    | 8, _ => cases hj; exact ⟨_, rfl, rfl⟩
    | 9, _ => cases hj; exact ⟨_, rfl, rfl⟩
theorem spans_of (T : SpT P t e f0 f1 f2 f3 f4 f5 g0 g1 g2 r0 r1 r2 ti tu) {fuel : Nat} {v : Value} {x : DataW H × List MemPlace} (h : DataW.trod enc P w base spare held fuel t [v] = some x) :
    ∃ (a : Option Addr) (n c : Nat) (sps : List Sp), v = .slice a n c ∧ InSps (readG w) (.rslice a n c) sps := by
  rcases open_slice T.ut h with ⟨h0, _⟩ | ⟨a, len, cap, m, n, D, Pl, hcs, hb, hl, hm, hmm, hx, hi⟩
  · cases h0
    exact ⟨none, 0, 0, [], rfl, [], fun M hM => ⟨fun e he => by simp at he, .inl ⟨none, 0, rfl, fun j hj => by simp at hj⟩⟩, rfl, fun i s hs => by simp at hs⟩
  · cases hcs
    have key : ∀ i, ∃ E : Sp × AV × AV, i < len → (∀ j, j < 10 → readG w (a.add (i * 10 + j)) = (spL E.1 E.2.1 E.2.2)[j]?) ∧ InRow (readG w) .i64 E.2.1 E.1.vs ∧ InRow (readG w) .u64 E.2.2 E.1.ls := by
      intro i
      by_cases hlt : i < len
      · have hlm : i < m := by rw [hmm]; split <;> omega
        obtain ⟨cs', hc, ht'⟩ := hi i hlm
        rw [T.ce] at hc
        obtain ⟨s, va, la, k1, k2, k3, k4⟩ := sp_of T ht'
        obtain ⟨_, hcl, hat⟩ := World.cells?_some hc
        refine ⟨(s, va, la), fun _ => ⟨fun j hj => ?_, k3, k4⟩⟩
        have hcell := hat j hj
        have hv : cs'[j]? = some (cs'[j]'(by omega)) := List.getElem?_eq_getElem (by omega)
        obtain ⟨x, hx, hE⟩ := k2 j _ hv
        rw [hE]
        refine readG_at ?_ hx
        rw [← Go.Deep.add_add, hcell, hv]
      · exact ⟨(⟨0, 0, 0, 0, 0, 0, [], 0, 0, []⟩, undefA, undefA), fun h => absurd h hlt⟩
    have hE : Els 10 ((List.range len).map fun i => spL (key i).choose.1 (key i).choose.2.1 (key i).choose.2.2) := fun e he => by
      simp only [List.mem_map] at he
      obtain ⟨i, hi, rfl⟩ := he
      rfl
    refine ⟨some a, len, cap, (List.range len).map fun i => (key i).choose.1, rfl, (List.range len).map fun i => spL (key i).choose.1 (key i).choose.2.1 (key i).choose.2.2, fun M hM => ⟨hE, .inl ⟨some a, cap, by simp, fun j hj => ⟨a, rfl, ?_⟩⟩⟩, by simp, fun i s hs => ?_⟩
    · have hj' : j < len * 10 := by simpa using hj
      have hq : j / 10 < len := by omega
      have hjd : j = (j / 10) * 10 + j % 10 := by omega
      have h1 := hE.at_ (i := j / 10) (o := j % 10) (by simpa using hq) (by omega)
      rw [← hjd] at h1
      rw [h1, hM]
      have h2 := ((key (j / 10)).choose_spec hq).1 (j % 10) (by omega)
      rw [← hjd] at h2
      rw [h2]
      simp
    · have hil := (List.getElem?_eq_some_iff.1 hs).1
      simp only [List.length_map, List.length_range] at hil
      rw [List.getElem?_map, List.getElem?_range hil] at hs
      simp only [Option.map_some, Option.some.injEq] at hs
      subst hs
      have h2 := (key i).choose_spec hil
      exact ⟨spL (key i).choose.1 (key i).choose.2.1 (key i).choose.2.2, by rw [List.getElem?_map, List.getElem?_range hil]; rfl, _, _, rfl, h2.2.1, h2.2.2⟩
end
end Go.Proofs.Ytpbejdlpkpehlaa.bag
