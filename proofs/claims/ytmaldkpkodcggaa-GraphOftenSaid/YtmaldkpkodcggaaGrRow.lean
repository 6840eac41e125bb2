/- What came in: jobs in a row. -/
import Derived.Test.YtmaldkpkodcggaaGrIn
import Derived.Test.YtmaldkpkodcggaaVx19
import Derived.WalkKit
import Derived.Lib.SmallJoins
namespace Go.Proofs.Ytmaldkpkodcggaa.grf
open Go Go.ChangeShapes Go.WideShapes Go.Deep Go.Joins Go.Vx

theorem inRow_of {G : Addr → Option AV} {k : IntKind} {a : Option Addr} {n c : Nat} {f : Nat → Int} (h : RdI G k (.rslice a n c) n f) : InRow G k (.rslice a n c) ((List.range n).map f) := by
  obtain ⟨a', c', he, h⟩ := h
  cases he
  intro M hM
  refine ⟨els_one, .inl ⟨a, c, by simp, fun j hj => ?_⟩⟩
  have hj' : j < n := by simpa using hj
  obtain ⟨p, h1, h2⟩ := h j hj'
  refine ⟨p, h1, ?_⟩
  rw [hM, h2, flat_one]
  simp [hj']
section
variable {H : Type} {enc : TypeId × Value → H} {P : Program} {w : World} {base : Nat} {spare : Nat → Bool} {held : Bool}
/-- the layout of a job -/
structure JbT (P : Program) (t e : TypeId) (f0 f1 : Field) (ti : TypeId) : Prop where
  ut : P.underlying t = some (.slice e)
  ue : P.underlying e = some (.struct #[f0, f1])
  ce : P.cellsOf e = 2
  o : f0.offset = 0 ∧ f1.offset = 1
  cc : P.cellsOf f0.type = 1 ∧ P.cellsOf f1.type = 1
  u0 : P.underlying f0.type = some (.int .u64)
  u1 : P.underlying f1.type = some (.slice ti)
  ui : P.underlying ti = some (.int .i64)
  ci : P.cellsOf ti = 1
variable {t e : TypeId} {f0 f1 : Field} {ti : TypeId}
theorem jb_of (T : JbT P t e f0 f1 ti) {fuel : Nat} {cs : List Value} {x : DataW H × List MemPlace} (h : DataW.trod enc P w base spare held fuel e cs = some x) :
    ∃ E : Jb, E.cells.length = cs.length ∧ (∀ (j : Nat) v, cs[j]? = some v → ∃ a, ofR v = some a ∧ E.cells[j]? = some a) ∧ InRow (readG w) .i64 E.kv E.kids := by
  obtain ⟨xs, n, _, _, hl, hlen, hf⟩ := DataW.trod_struct T.ue h
  rw [T.ce] at hl
  obtain ⟨o0, o1⟩ := T.o
  obtain ⟨c0, c1⟩ := T.cc
  match cs, hl, xs, hlen with
  | [v0, v1], _, [y0, y1], _ =>
    have k0 : DataW.trod enc P w base spare held n f0.type [v0] = some y0 := by simpa [o0, c0] using hf 0 f0 rfl
    have k1 : DataW.trod enc P w base spare held n f1.type [v1] = some y1 := by simpa [o1, c1] using hf 1 f1 rfl
    obtain ⟨n0, e0, _⟩ := DataW.trod_int T.u0 k0
    cases e0
    obtain ⟨a6, l6, p6, z6, e6, r6, _⟩ := rdI_of T.u1 T.ui T.ci k1
    subst e6
    refine ⟨⟨n0, .rslice a6 l6 p6, (List.range l6).map z6⟩, rfl, fun j v hj => ?_, inRow_of r6⟩
    have hj10 := (List.getElem?_eq_some_iff.1 hj).1
    simp only [List.length_cons, List.length_nil] at hj10
    match j, hj10 with
    | 0, _ => cases hj; exact ⟨_, rfl, rfl⟩
    | 1, _ => cases hj; exact ⟨_, rfl, rfl⟩
theorem jobs_of (T : JbT P t e f0 f1 ti) {fuel : Nat} {v : Value} {x : DataW H × List MemPlace} (h : DataW.trod enc P w base spare held fuel t [v] = some x) :
    ∃ (a : Option Addr) (n c : Nat) (js : List Jb), v = .slice a n c ∧ js.length = n ∧ n ≤ c ∧ n ≤ maxLen ∧ JobsIn (readG w) (.rslice a n c) js := by
  rcases open_slice T.ut h with ⟨h0, _⟩ | ⟨a, len, cap, m, n, D, Pl, hcs, hb, hl, hm, hmm, hx, hi⟩
  · cases h0
    refine ⟨none, 0, 0, [], rfl, rfl, Nat.le_refl _, by omega, fun M hM => ⟨fun e he => by simp at he, .inl ⟨none, 0, rfl, fun j hj => by simp at hj⟩⟩, fun e he => by simp at he⟩
  · cases hcs
    have key : ∀ i, ∃ E : Jb, i < len → (∀ j, j < 2 → readG w (a.add (i * 2 + j)) = E.cells[j]?) ∧ InRow (readG w) .i64 E.kv E.kids := by
      intro i
      by_cases hlt : i < len
      · have hlm : i < m := by rw [hmm]; split <;> omega
        obtain ⟨cs', hc, ht'⟩ := hi i hlm
        rw [T.ce] at hc
        obtain ⟨E, k1, k2, k3⟩ := jb_of T ht'
        obtain ⟨_, hcl, hat⟩ := World.cells?_some hc
        refine ⟨E, fun _ => ⟨fun j hj => ?_, k3⟩⟩
        have hcell := hat j hj
        have hv : cs'[j]? = some (cs'[j]'(by omega)) := List.getElem?_eq_getElem (by omega)
        obtain ⟨x, hx, hE⟩ := k2 j _ hv
        rw [hE]
        refine readG_at ?_ hx
        rw [← Go.Deep.add_add, hcell, hv]
      · exact ⟨dJ, fun h => absurd h hlt⟩
    refine ⟨some a, len, cap, (List.range len).map fun i => (key i).choose, rfl, by simp, hl, by omega, fun M hM => ⟨fun e he => ?_, .inl ⟨some a, cap, by simp, fun j hj => ⟨a, rfl, ?_⟩⟩⟩, fun e he => ?_⟩
    · simp only [List.map_map, List.mem_map, List.mem_range, Function.comp] at he
      obtain ⟨i, hi, rfl⟩ := he
      rfl
    · have hE : Els 2 (((List.range len).map fun i => (key i).choose).map Jb.cells) := fun e he => by
        simp only [List.map_map, List.mem_map, List.mem_range, Function.comp] at he
        obtain ⟨i, hi, rfl⟩ := he
        rfl
      have hj' : j < len * 2 := by simpa using hj
      have hq : j / 2 < len := by omega
      have hjd : j = (j / 2) * 2 + j % 2 := by omega
      have h1 := hE.at_ (i := j / 2) (o := j % 2) (by simpa using hq) (by omega)
      rw [← hjd] at h1
      rw [h1, hM]
      have h2 := ((key (j / 2)).choose_spec hq).1 (j % 2) (by omega)
      rw [← hjd] at h2
      rw [h2]
      simp
    · simp only [List.mem_map, List.mem_range] at he
      obtain ⟨i, hi, rfl⟩ := he
      exact ((key i).choose_spec hi).2
end
end Go.Proofs.Ytmaldkpkodcggaa.grf
