/- What came in, as our machine reads it: rows of numbers, rows of results. -/
import Derived.Test.YtpbejdlpkpehlaaVx18
import Derived.ChangeSlices
import Derived.ChangeSame
import Derived.Deep.Slices
import Derived.Deep.Fields
import Derived.Lib.SmallJoins
namespace Go.Vx
open Go.ChangeShapes Go.WideShapes Go.Deep Go.Joins

section
variable {H : Type} {enc : TypeId × Value → H} {P : Program} {w : World} {base : Nat} {spare : Nat → Bool} {held : Bool}
theorem openRows {t e : TypeId} {fs : Array Field} {fuel : Nat} {cs : List Value} {x : DataW H × List MemPlace} (ht : P.underlying t = some (.slice e)) (he : P.underlying e = some (.struct fs))
    (hone : oneCellFields P fs = true) (hC : P.cellsOf e = fs.size) (h : DataW.trod enc P w base spare held fuel t cs = some x) :
    cs = [.slice none 0 0] ∨
    ∃ (a : Addr) (len cap : Nat), cs = [.slice (some a) len cap] ∧ len ≤ cap ∧ cap ≤ maxLen ∧
      ∀ i, i < len → ∃ (n : Nat), ∀ (j : Nat) (f : Field), fs[j]? = some f → ∃ (v : Value) (y : DataW H × List MemPlace), w.cell? (a.add (i * fs.size + j)) = some v ∧ DataW.trod enc P w base spare held n f.type [v] = some y := by
  rcases open_slice ht h with ⟨h0, _⟩ | ⟨a, len, cap, m, n, D, Pl, hcs, hb, hl, hm, hmm, hx, hi⟩
  · exact .inl h0
  · refine .inr ⟨a, len, cap, hcs, hl, hm, fun i him => ?_⟩
    have hlm : i < m := by rw [hmm]; split <;> omega
    obtain ⟨cs', hc, ht'⟩ := hi i hlm
    rw [hC] at hc
    obtain ⟨ys, n', hn', hy, hlen, hyl, hf⟩ := DataW.trod_struct he ht'
    obtain ⟨_, hcl, hat⟩ := World.cells?_some hc
    refine ⟨n', fun j f hj => ?_⟩
    obtain ⟨ho, hk⟩ := hone_of hone j f hj
    have hjl : j < fs.size := (Array.getElem?_eq_some_iff.1 hj).1
    have hcell := hat j hjl
    have hv : cs'[j]? = some (cs'[j]'(by omega)) := List.getElem?_eq_getElem (by omega)
    have h1 := hf j f hj
    rw [ho, hk] at h1
    have hone' : (cs'.drop j).take 1 = [cs'[j]'(by omega)] := by
      rw [List.drop_eq_getElem_cons (by omega)]
      rfl
    rw [hone'] at h1
    have hys : ys[j]? = some (ys[j]'(by omega)) := List.getElem?_eq_getElem (by omega)
    refine ⟨_, _, ?_, h1.trans hys⟩
    rw [← Go.Deep.add_add, hcell, hv]
/-- A row of numbers. -/
theorem rdI_of {t e : TypeId} {k : IntKind} {fuel : Nat} {v : Value} {x : DataW H × List MemPlace} (ht : P.underlying t = some (.slice e)) (he : P.underlying e = some (.int k)) (hc : P.cellsOf e = 1)
    (h : DataW.trod enc P w base spare held fuel t [v] = some x) : ∃ a n c f, v = .slice a n c ∧ RdI (readG w) k (.rslice a n c) n f ∧ n ≤ maxLen := by
  rcases open_ints ht he hc h with ⟨h0, _⟩ | ⟨a, len, cap, zs, hcs, hb, hl, hm, hlen, hx, hcell, hwf⟩
  · cases h0
    exact ⟨none, 0, 0, fun _ => 0, rfl, ⟨none, 0, rfl, fun i hi => by omega⟩, by omega⟩
  · cases hcs
    refine ⟨some a, len, cap, fun i => zs.getD i 0, rfl, ⟨some a, cap, rfl, fun i hi => ⟨a, rfl, readG_at (hcell i (by rw [hlen]; split <;> omega)) rfl⟩⟩, by omega⟩
end
/-- Results that came in, in a row: codes, values, lists. -/
def RdR (G : Addr → Option AV) (v : AV) (n : Nat) (cd vl : Nat → Int) (l : Nat → AV) (ln : Nat → Nat) (lf : Nat → Nat → Int) : Prop :=
  ∃ a c, v = .rslice a n c ∧ ∀ i, i < n → ∃ p, a = some p ∧ G (p.add (i * 3)) = some (.int .i64 (cd i)) ∧ G ((p.add (i * 3)).add 1) = some (.int .u64 (vl i)) ∧ G ((p.add (i * 3)).add 2) = some (l i) ∧ RdI G .u64 (l i) (ln i) (lf i)
theorem rdR_of {H : Type} {enc : TypeId × Value → H} {P : Program} {w : World} {base : Nat} {spare : Nat → Bool} {held : Bool} {t e tc tv tl te : TypeId} {fc fv fl : Field} {fuel : Nat} {v : Value} {x : DataW H × List MemPlace}
    (ht : P.underlying t = some (.slice e)) (he : P.underlying e = some (.struct #[fc, fv, fl])) (hone : oneCellFields P #[fc, fv, fl] = true) (hC : P.cellsOf e = 3)
    (hc : fc.type = tc) (hv : fv.type = tv) (hl : fl.type = tl) (uc : P.underlying tc = some (.int .i64)) (uv : P.underlying tv = some (.int .u64)) (ul : P.underlying tl = some (.slice te)) (ue : P.underlying te = some (.int .u64)) (ce : P.cellsOf te = 1)
    (h : DataW.trod enc P w base spare held fuel t [v] = some x) : ∃ a n c cd vl l ln lf, v = .slice a n c ∧ RdR (readG w) (.rslice a n c) n cd vl l ln lf ∧ n ≤ maxLen := by
  subst hc; subst hv; subst hl
  rcases openRows ht he hone (by rw [hC]; rfl) h with h0 | ⟨a, len, cap, hcs, h1, h2, hi⟩
  · cases h0
    exact ⟨none, 0, 0, fun _ => 0, fun _ => 0, fun _ => .nilFunc, fun _ => 0, fun _ _ => 0, rfl, ⟨none, 0, rfl, fun i hi => by omega⟩, by omega⟩
  · cases hcs
    have key : ∀ i, ∃ (c u : Int) (l : AV) (n : Nat) (f : Nat → Int), i < len → readG w (a.add (i * 3)) = some (.int .i64 c) ∧ readG w ((a.add (i * 3)).add 1) = some (.int .u64 u) ∧ readG w ((a.add (i * 3)).add 2) = some l ∧ RdI (readG w) .u64 l n f := by
      intro i
      by_cases hlt : i < len
      · obtain ⟨n, hf⟩ := hi i hlt
        obtain ⟨v0, y0, k0, t0⟩ := hf 0 fc rfl
        obtain ⟨v1, y1, k1, t1⟩ := hf 1 fv rfl
        obtain ⟨v2, y2, k2, t2⟩ := hf 2 fl rfl
        obtain ⟨c, e0, _, _⟩ := DataW.trod_int uc t0
        obtain ⟨u, e1, _, _⟩ := DataW.trod_int uv t1
        cases e0; cases e1
        obtain ⟨b, m, cp, f, e2, hr, _⟩ := rdI_of ul ue ce t2
        subst e2
        have k1' : w.cell? ((a.add (i * 3)).add 1) = some (.int .u64 u) := by rw [Go.Deep.add_add]; exact k1
        have k2' : w.cell? ((a.add (i * 3)).add 2) = some (.slice b m cp) := by rw [Go.Deep.add_add]; exact k2
        exact ⟨c, u, .rslice b m cp, m, f, fun _ => ⟨readG_at k0 rfl, readG_at k1' rfl, readG_at k2' rfl, hr⟩⟩
      · exact ⟨0, 0, .nilFunc, 0, fun _ => 0, fun h => absurd h hlt⟩
    refine ⟨some a, len, cap, fun i => (key i).choose, fun i => (key i).choose_spec.choose, fun i => (key i).choose_spec.choose_spec.choose, fun i => (key i).choose_spec.choose_spec.choose_spec.choose, fun i => (key i).choose_spec.choose_spec.choose_spec.choose_spec.choose, rfl,
      ⟨some a, cap, rfl, fun i hi => ⟨a, rfl, (key i).choose_spec.choose_spec.choose_spec.choose_spec.choose_spec hi⟩⟩, by omega⟩
end Go.Vx
