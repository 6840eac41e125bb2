/- What came in: acts in a row. -/
import Derived.Test.YtbjipmhdncfodaaTpLaw
import Derived.Test.YtbjipmhdncfodaaVx19
import Derived.WalkKit
import Derived.Lib.SmallJoins
namespace Go.Proofs.Ytbjipmhdncfodaa.grf
open Go Go.ChangeShapes Go.WideShapes Go.Deep Go.Joins Go.Vx
section
variable {H : Type} {enc : TypeId × Value → H} {P : Program} {w : World} {base : Nat} {spare : Nat → Bool} {held : Bool}
/-- the layout of an act -/
structure AcT (P : Program) (t e : TypeId) (f0 f1 f2 f3 : Field) : Prop where
  ut : P.underlying t = some (.slice e)
  ue : P.underlying e = some (.struct #[f0, f1, f2, f3])
  ce : P.cellsOf e = 4
  o : f0.offset = 0 ∧ f1.offset = 1 ∧ f2.offset = 2 ∧ f3.offset = 3
  cc : P.cellsOf f0.type = 1 ∧ P.cellsOf f1.type = 1 ∧ P.cellsOf f2.type = 1 ∧ P.cellsOf f3.type = 1
  u0 : P.underlying f0.type = some (.int .u8)
  u1 : P.underlying f1.type = some (.int .i64)
  u2 : P.underlying f2.type = some (.int .u64)
  u3 : P.underlying f3.type = some (.int .i64)
variable {t e : TypeId} {f0 f1 f2 f3 : Field}
theorem ac_of (T : AcT P t e f0 f1 f2 f3) {fuel : Nat} {cs : List Value} {x : DataW H × List MemPlace} (h : DataW.trod enc P w base spare held fuel e cs = some x) :
    ∃ E : Ac, (eAc E).length = cs.length ∧ ∀ (j : Nat) v, cs[j]? = some v → ∃ a, ofR v = some a ∧ (eAc E)[j]? = some a := by
  obtain ⟨xs, n, _, _, hl, hlen, hf⟩ := DataW.trod_struct T.ue h
  rw [T.ce] at hl
  obtain ⟨o0, o1, o2, o3⟩ := T.o
  obtain ⟨c0, c1, c2, c3⟩ := T.cc
  match cs, hl, xs, hlen with
  | [v0, v1, v2, v3], _, [y0, y1, y2, y3], _ =>
    have k0 : DataW.trod enc P w base spare held n f0.type [v0] = some y0 := by simpa [o0, c0] using hf 0 f0 rfl
    have k1 : DataW.trod enc P w base spare held n f1.type [v1] = some y1 := by simpa [o1, c1] using hf 1 f1 rfl
    have k2 : DataW.trod enc P w base spare held n f2.type [v2] = some y2 := by simpa [o2, c2] using hf 2 f2 rfl
    have k3 : DataW.trod enc P w base spare held n f3.type [v3] = some y3 := by simpa [o3, c3] using hf 3 f3 rfl
    obtain ⟨n0, e0, _⟩ := DataW.trod_int T.u0 k0
    obtain ⟨n1, e1, _⟩ := DataW.trod_int T.u1 k1
    obtain ⟨n2, e2, _⟩ := DataW.trod_int T.u2 k2
    obtain ⟨n3, e3, _⟩ := DataW.trod_int T.u3 k3
    cases e0; cases e1; cases e2; cases e3
    refine ⟨⟨n0, n1, n2, n3⟩, rfl, fun j v hj => ?_⟩
    have hj10 := (List.getElem?_eq_some_iff.1 hj).1
    simp only [List.length_cons, List.length_nil] at hj10
    match j, hj10 with
    | 0, _ => cases hj; exact ⟨_, rfl, rfl⟩
    | 1, _ => cases hj; exact ⟨_, rfl, rfl⟩
    | 2, _ => cases hj; exact ⟨_, rfl, rfl⟩
    | 3, _ => cases hj; exact ⟨_, rfl, rfl⟩
theorem acts_of (T : AcT P t e f0 f1 f2 f3) {fuel : Nat} {v : Value} {x : DataW H × List MemPlace} (h : DataW.trod enc P w base spare held fuel t [v] = some x) :
    ∃ (a : Option Addr) (n c : Nat) (js : List Ac), v = .slice a n c ∧ js.length = n ∧ ActsIn (readG w) (.rslice a n c) js := by
  rcases open_slice T.ut h with ⟨h0, _⟩ | ⟨a, len, cap, m, n, D, Pl, hcs, hb, hl, hm, hmm, hx, hi⟩
  · cases h0
    exact ⟨none, 0, 0, [], rfl, rfl, none, 0, rfl, fun i hi => by simp at hi⟩
  · cases hcs
    have key : ∀ i, ∃ E : Ac, i < len → ∀ j, j < 4 → readG w (a.add (i * 4 + j)) = (eAc E)[j]? := by
      intro i
      by_cases hlt : i < len
      · have hlm : i < m := by rw [hmm]; split <;> omega
        obtain ⟨cs', hc, ht'⟩ := hi i hlm
        rw [T.ce] at hc
        obtain ⟨E, k1, k2⟩ := ac_of T ht'
        obtain ⟨_, hcl, hat⟩ := World.cells?_some hc
        refine ⟨E, fun _ j hj => ?_⟩
        have hcell := hat j hj
        have hv : cs'[j]? = some (cs'[j]'(by omega)) := List.getElem?_eq_getElem (by omega)
        obtain ⟨x, hx, hE⟩ := k2 j _ hv
        rw [hE]
        refine readG_at ?_ hx
        rw [← Go.Deep.add_add, hcell, hv]
      · exact ⟨dAc, fun h => absurd h hlt⟩
    refine ⟨some a, len, cap, (List.range len).map fun i => (key i).choose, rfl, by simp, some a, cap, by simp, fun i hi => ⟨a, rfl, fun o ho => ?_⟩⟩
    have hi' : i < len := by simpa using hi
    rw [(key i).choose_spec hi' o ho, List.getD_eq_getElem?_getD, List.getElem?_map, List.getElem?_range hi']
    rfl
end
end Go.Proofs.Ytbjipmhdncfodaa.grf
