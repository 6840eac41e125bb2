/- What came in: events in a row. -/
import Derived.Test.YtoddncakdnmloaaLdRef
import Derived.Test.YtoddncakdnmloaaVx19
namespace Go.Proofs.Ytoddncakdnmloaa.diary
open Go Go.ChangeShapes Go.WideShapes Go.Deep Go.Joins Go.Vx

theorem inRow_of {G : Addr → Option AV} {k : IntKind} {a : Option Addr} {n c : Nat} {f : Nat → Int} (h : RdI G k (.rslice a n c) n f) : InRow G k (.rslice a n c) ((List.range n).map f) := by
  obtain ⟨a', c', he, h⟩ := h
  cases he
  intro M hM
  refine ⟨els_one, .inl ⟨a, c, by simp, fun j hj => ?_⟩⟩
  have hj' : j < n := by simpa using hj
  obtain ⟨p, h1, h2⟩ := h j hj'
  refine ⟨p, h1, ?_⟩
  rw [hM, h2, flat_one]
  simp [hj']
section
variable {H : Type} {enc : TypeId × Value → H} {P : Program} {w : World} {base : Nat} {spare : Nat → Bool} {held : Bool}
theorem trod_three {t : TypeId} {g0 g1 g2 : Field} {fuel : Nat} {cs : List Value} {x : DataW H × List MemPlace} (ht : P.underlying t = some (.struct #[g0, g1, g2])) (hone : oneCellFields P #[g0, g1, g2] = true) (hC : P.cellsOf t = 3)
    (h : DataW.trod enc P w base spare held fuel t cs = some x) : ∃ (v0 v1 v2 : Value) (n : Nat) (y0 y1 y2 : DataW H × List MemPlace), cs = [v0, v1, v2] ∧
      DataW.trod enc P w base spare held n g0.type [v0] = some y0 ∧ DataW.trod enc P w base spare held n g1.type [v1] = some y1 ∧ DataW.trod enc P w base spare held n g2.type [v2] = some y2 := by
  obtain ⟨xs, n, _, _, hl, hlen, hf⟩ := DataW.trod_struct ht h
  rw [hC] at hl
  match cs, hl, xs, hlen with
  | [v0, v1, v2], _, [y0, y1, y2], _ =>
    obtain ⟨o0, k0⟩ := hone_of hone 0 g0 rfl
    obtain ⟨o1, k1⟩ := hone_of hone 1 g1 rfl
    obtain ⟨o2, k2⟩ := hone_of hone 2 g2 rfl
    exact ⟨v0, v1, v2, n, y0, y1, y2, rfl, by simpa [o0, k0] using hf 0 g0 rfl, by simpa [o1, k1] using hf 1 g1 rfl, by simpa [o2, k2] using hf 2 g2 rfl⟩
/-- the layout of an event -/
structure EvT (P : Program) (t e : TypeId) (f0 f1 f2 f3 f4 f5 g0 g1 g2 r0 r1 r2 : Field) (ti tu : TypeId) : Prop where
  ut : P.underlying t = some (.slice e)
  ue : P.underlying e = some (.struct #[f0, f1, f2, f3, f4, f5])
  ce : P.cellsOf e = 10
  o : f0.offset = 0 ∧ f1.offset = 1 ∧ f2.offset = 2 ∧ f3.offset = 3 ∧ f4.offset = 4 ∧ f5.offset = 7
  cc : P.cellsOf f0.type = 1 ∧ P.cellsOf f1.type = 1 ∧ P.cellsOf f2.type = 1 ∧ P.cellsOf f3.type = 1 ∧ P.cellsOf f4.type = 3 ∧ P.cellsOf f5.type = 3
  u0 : P.underlying f0.type = some (.int .i64)
  u1 : P.underlying f1.type = some (.int .i64)
  u2 : P.underlying f2.type = some (.int .i64)
  u3 : P.underlying f3.type = some .bool
  u4 : P.underlying f4.type = some (.struct #[g0, g1, g2])
  u5 : P.underlying f5.type = some (.struct #[r0, r1, r2])
  h4 : oneCellFields P #[g0, g1, g2] = true
  h5 : oneCellFields P #[r0, r1, r2] = true
  v0 : P.underlying g0.type = some (.int .i64)
  v1 : P.underlying g1.type = some (.int .u64)
  v2 : P.underlying g2.type = some (.slice ti)
  w0 : P.underlying r0.type = some (.int .i64)
  w1 : P.underlying r1.type = some (.int .u64)
  w2 : P.underlying r2.type = some (.slice tu)
  ui : P.underlying ti = some (.int .i64)
  ci : P.cellsOf ti = 1
  uu : P.underlying tu = some (.int .u64)
  cu : P.cellsOf tu = 1
variable {t e : TypeId} {f0 f1 f2 f3 f4 f5 g0 g1 g2 r0 r1 r2 : Field} {ti tu : TypeId}
theorem ev_of (T : EvT P t e f0 f1 f2 f3 f4 f5 g0 g1 g2 r0 r1 r2 ti tu) {fuel : Nat} {cs : List Value} {x : DataW H × List MemPlace} (h : DataW.trod enc P w base spare held fuel e cs = some x) :
    ∃ E : Ev, E.cells.length = cs.length ∧ (∀ (j : Nat) v, cs[j]? = some v → ∃ a, ofR v = some a ∧ E.cells[j]? = some a) ∧ InRow (readG w) .i64 E.va E.vs ∧ InRow (readG w) .u64 E.la E.ls := by
  obtain ⟨xs, n, _, _, hl, hlen, hf⟩ := DataW.trod_struct T.ue h
  rw [T.ce] at hl
  obtain ⟨o0, o1, o2, o3, o4, o5⟩ := T.o
  obtain ⟨c0, c1, c2, c3, c4, c5⟩ := T.cc
  match cs, hl, xs, hlen with
  | [v0, v1, v2, v3, v4, v5, v6, v7, v8, v9], _, [y0, y1, y2, y3, y4, y5], _ =>
    have k0 : DataW.trod enc P w base spare held n f0.type [v0] = some y0 := by simpa [o0, c0] using hf 0 f0 rfl
    have k1 : DataW.trod enc P w base spare held n f1.type [v1] = some y1 := by simpa [o1, c1] using hf 1 f1 rfl
    have k2 : DataW.trod enc P w base spare held n f2.type [v2] = some y2 := by simpa [o2, c2] using hf 2 f2 rfl
    have k3 : DataW.trod enc P w base spare held n f3.type [v3] = some y3 := by simpa [o3, c3] using hf 3 f3 rfl
    have k4 : DataW.trod enc P w base spare held n f4.type [v4, v5, v6] = some y4 := by simpa [o4, c4] using hf 4 f4 rfl
    have k5 : DataW.trod enc P w base spare held n f5.type [v7, v8, v9] = some y5 := by simpa [o5, c5] using hf 5 f5 rfl
    obtain ⟨n0, e0, _⟩ := DataW.trod_int T.u0 k0
    obtain ⟨n1, e1, _⟩ := DataW.trod_int T.u1 k1
    obtain ⟨n2, e2, _⟩ := DataW.trod_int T.u2 k2
    obtain ⟨n3, e3, _⟩ := DataW.trod_bool T.u3 k3
    cases e0; cases e1; cases e2; cases e3
    obtain ⟨_, _, _, m, _, _, _, e4, q0, q1, q2⟩ := trod_three T.u4 T.h4 c4 k4
    cases e4
    obtain ⟨_, _, _, m', _, _, _, e5, q3, q4, q5⟩ := trod_three T.u5 T.h5 c5 k5
    cases e5
    obtain ⟨n4, e0, _⟩ := DataW.trod_int T.v0 q0
    obtain ⟨n5, e1, _⟩ := DataW.trod_int T.v1 q1
    obtain ⟨n7, e2, _⟩ := DataW.trod_int T.w0 q3
    obtain ⟨n8, e3, _⟩ := DataW.trod_int T.w1 q4
    cases e0; cases e1; cases e2; cases e3
    obtain ⟨a6, l6, p6, z6, e6, r6, _⟩ := rdI_of T.v2 T.ui T.ci q2
    obtain ⟨a9, l9, p9, z9, e9, r9, _⟩ := rdI_of T.w2 T.uu T.cu q5
    subst e6 e9
    refine ⟨⟨n0, n1, n2, n3, n4, n5, .rslice a6 l6 p6, (List.range l6).map z6, n7, n8, .rslice a9 l9 p9, (List.range l9).map z9⟩, rfl, fun j v hj => ?_, inRow_of r6, inRow_of r9⟩
    have hj10 := (List.getElem?_eq_some_iff.1 hj).1
    simp only [List.length_cons, List.length_nil] at hj10
    match j, hj10 with
    | 0, _ => cases hj; exact ⟨_, rfl, rfl⟩
    | 1, _ => cases hj; exact ⟨_, rfl, rfl⟩
    | 2, _ => cases hj; exact ⟨_, rfl, rfl⟩
    | 3, _ => cases hj; exact ⟨_, rfl, rfl⟩
    | 4, _ => cases hj; exact ⟨_, rfl, rfl⟩
    | 5, _ => cases hj; exact ⟨_, rfl, rfl⟩
    | 6, _ => cases hj; exact ⟨_, rfl, rfl⟩
    | 7, _ => cases hj; exact ⟨_, rfl, rfl⟩
    | 8, _ => cases hj; exact ⟨_, rfl, rfl⟩
    | 9, _ => cases hj; exact ⟨_, rfl, rfl⟩
theorem evs_of (T : EvT P t e f0 f1 f2 f3 f4 f5 g0 g1 g2 r0 r1 r2 ti tu) {fuel : Nat} {v : Value} {x : DataW H × List MemPlace} (h : DataW.trod enc P w base spare held fuel t [v] = some x) :
    ∃ (a : Option Addr) (n c : Nat) (es : List Ev), v = .slice a n c ∧ es.length = n ∧ n ≤ c ∧ n ≤ maxLen ∧ Evs (readG w) (.rslice a n c) es := by
  rcases open_slice T.ut h with ⟨h0, _⟩ | ⟨a, len, cap, m, n, D, Pl, hcs, hb, hl, hm, hmm, hx, hi⟩
  · cases h0
    refine ⟨none, 0, 0, [], rfl, rfl, Nat.le_refl _, by omega, fun M hM => ⟨fun e he => by simp at he, .inl ⟨none, 0, rfl, fun j hj => by simp at hj⟩⟩, fun e he => by simp at he⟩
  · cases hcs
    have key : ∀ i, ∃ E : Ev, i < len → (∀ j, j < 10 → readG w (a.add (i * 10 + j)) = E.cells[j]?) ∧ InRow (readG w) .i64 E.va E.vs ∧ InRow (readG w) .u64 E.la E.ls := by
      intro i
      by_cases hlt : i < len
      · have hlm : i < m := by rw [hmm]; split <;> omega
        obtain ⟨cs', hc, ht'⟩ := hi i hlm
        rw [T.ce] at hc
        obtain ⟨E, k1, k2, k3, k4⟩ := ev_of T ht'
        obtain ⟨_, hcl, hat⟩ := World.cells?_some hc
        refine ⟨E, fun _ => ⟨fun j hj => ?_, k3, k4⟩⟩
        have hcell := hat j hj
        have hv : cs'[j]? = some (cs'[j]'(by omega)) := List.getElem?_eq_getElem (by omega)
        obtain ⟨x, hx, hE⟩ := k2 j _ hv
        rw [hE]
        refine readG_at ?_ hx
        rw [← Go.Deep.add_add, hcell, hv]
      · exact ⟨dE, fun h => absurd h hlt⟩
    refine ⟨some a, len, cap, (List.range len).map fun i => (key i).choose, rfl, by simp, hl, by omega, fun M hM => ⟨fun e he => ?_, .inl ⟨some a, cap, by simp, fun j hj => ⟨a, rfl, ?_⟩⟩⟩, fun e he => ?_⟩
    · simp only [List.map_map, List.mem_map, List.mem_range, Function.comp] at he
      obtain ⟨i, hi, rfl⟩ := he
      rfl
    · have hE : Els 10 (((List.range len).map fun i => (key i).choose).map Ev.cells) := fun e he => by
        simp only [List.map_map, List.mem_map, List.mem_range, Function.comp] at he
        obtain ⟨i, hi, rfl⟩ := he
        rfl
      have hj' : j < len * 10 := by simpa using hj
      have hq : j / 10 < len := by omega
      have hjd : j = (j / 10) * 10 + j % 10 := by omega
      have h1 := hE.at_ (i := j / 10) (o := j % 10) (by simpa using hq) (by omega)
      rw [← hjd] at h1
      rw [h1, hM]
      have h2 := ((key (j / 10)).choose_spec hq).1 (j % 10) (by omega)
      rw [← hjd] at h2
      rw [h2]
      simp
    · simp only [List.mem_map, List.mem_range] at he
      obtain ⟨i, hi, rfl⟩ := he
      exact ((key i).choose_spec hi).2
end
end Go.Proofs.Ytoddncakdnmloaa.diary
