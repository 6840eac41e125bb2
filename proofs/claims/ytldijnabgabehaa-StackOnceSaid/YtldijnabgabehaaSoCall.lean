/- The calls whose answers are known: those of a walk, and the deeds of cells, whatever else is in the memory. -/
import Derived.Test.YtldijnabgabehaaSoW
namespace Go.Proofs.Ytldijnabgabehaa.so
open Go Go.Vx
abbrev P0 : AV := .ptr (some (0, 0))
def Ask (f : FuncId) (xs : List AV) (S S' : List ABlk) (r : AV) : Prop := ∀ g, ∃ way σ owe, stepO runW 400 way f (P0 :: xs) S g (fun _ => [P0]) = some (r, σ, S', [P0], owe) ∧ ∀ p ∈ owe, p.1 = p.2
theorem ask_of {f : FuncId} {xs : List AV} {S S' S0 : List ABlk} {r r0 : AV} {way : List (Nat × Bool)} {σ : List Nat} {owe : List (Bool × Bool)} (h : ∀ g, stepO runW 400 way f (P0 :: xs) S g (fun _ => [P0]) = some (r0, σ, S0, [P0], owe))
    (hr : r0 = r) (hs : S0 = S') (ho : ∀ p ∈ owe, p.1 = p.2) : Ask f xs S S' r := fun g => ⟨way, σ, owe, by rw [h g, hr, hs], ho⟩
def served (f : FuncId) : Bool := [12, 13, 58, 40, 46, 43, 59, 60, 61, 41, 9, 44, 23, 28, 24, 25, 26].contains f
def frm : FuncId → List AV → AMem → Option (AV × AMem) := frameX 400 served (callF noT code 100000 60)
def tblS (f : FuncId) (args : List AV) (M : AMem) : Option (AV × AMem) := match (match tbl0 f args with
    | some r => some (r, M)
    | none => none) with
  | some q => some q
  | none => frm f args M
theorem served_ne {f : FuncId} (h : served f = true) : f ≠ 4 := by
  rintro rfl; exact absurd h (by decide)
theorem callS {f : FuncId} {args : List AV} {M : AMem} {r : AV × AMem} (hs : served f = true) (h : frm f args M = some r) (d : Nat) : callF tblS code 100000 (d + 1) f args M = some r := by
  have e : tblS f args M = some r := by
    unfold tblS tbl0
    rw [if_neg (served_ne hs)]
    exact h
  simp only [callF, e]
theorem tblS_none {f : FuncId} (h : f ≠ 4 ∧ served f = false) (a : List AV) : ∀ M, tblS f a M = none := fun M => by
  unfold tblS tbl0 frm frameX
  rw [if_neg h.1, if_neg (by rw [h.2]; decide)]
theorem sound : SoundO runW (callF noT code 100000 60) := callFO_ok noT code 100000 60
theorem awakeS (d : Nat) (M : AMem) : callF tblS code 100000 (d + 1) 4 [] M = some (.bool true, M) := by
  have e : tblS 4 [] M = some (.bool true, M) := by
    unfold tblS tbl0
    rw [if_pos rfl]
  simp only [callF, e]

/-! What is seen of a machine that a pointer leads to. -/
def Seen (M : AMem) (b : Nat) (ρ : List Nat) (S : List ABlk) : Prop := view 400 M [.ptr (some (b, 0))] = some (ρ, S, [P0])
theorem Seen.same {M M' : AMem} {b : Nat} {ρ : List Nat} {S : List ABlk} (h : Seen M b ρ S) (hs : ∀ c ∈ ρ, M'.get c = M.get c) : Seen M' b ρ S := view_same h hs
theorem refsL_nil {xs : List AV} (h : AV.refsL xs = []) (f : Nat → Nat) : AV.rens f xs = xs := by
  rw [rens_eq f (fun b => b) xs (by rw [h]; simp), rens_id]
theorem Seen.args {M : AMem} {b : Nat} {ρ : List Nat} {S : List ABlk} (h : Seen M b ρ S) {xs : List AV} (hx : AV.refsL xs = []) : view 400 M (.ptr (some (b, 0)) :: xs) = some (ρ, S, P0 :: xs) := by
  unfold Seen view at h
  unfold view
  have e1 : AV.refsL (.ptr (some (b, 0)) :: xs) = AV.refsL [.ptr (some (b, 0))] := by simp only [AV.refsL, hx]
  have e2 : ∀ f, AV.rens f (.ptr (some (b, 0)) :: xs) = AV.ren f (.ptr (some (b, 0))) :: xs := fun f => by simp only [AV.rens, refsL_nil hx]
  simp only [e1, e2] at h ⊢
  split at h
  · rename_i l hl
    split at h
    · rename_i hr
      simp only [Option.some.injEq, Prod.mk.injEq, AV.rens, List.cons.injEq, and_true] at h
      obtain ⟨rfl, rfl, h3⟩ := h
      rw [if_pos hr, h3]
    · cases h
  · cases h
theorem Seen.root {M : AMem} {b : Nat} {ρ : List Nat} {S : List ABlk} (h : Seen M b ρ S) (n : Nat) : extN ρ n 0 = b := by
  have V := viewed_of h
  have hb : b ∈ ρ := V.refs b (by simp [AV.refsL, AV.refs])
  have h0 : ρ.idxOf b = 0 := by
    have := V.args
    simp only [AV.rens, AV.ren, List.cons.injEq, AV.ptr.injEq, Option.some.injEq, Prod.mk.injEq, and_true] at this
    exact this.symm
  rw [← h0]
  exact extN_at hb
theorem extN_in {ρ : List Nat} {n i : Nat} : extN ρ n i ∈ ρ ∨ n ≤ extN ρ n i := by
  by_cases h : i < ρ.length
  · exact .inl (List.mem_of_getElem? (extN_lt h))
  · rw [extN_ge (by omega)]; exact .inr (Nat.le_add_right _ _)
structure Moved (M M' : AMem) (b : Nat) (ρ : List Nat) (S' : List ABlk) (ρ' : List Nat) : Prop where
  after : After M ρ M'
  seen : Seen M' b ρ' S'
  own : ∀ c ∈ ρ', c ∈ ρ ∨ M.n ≤ c
theorem call_ask {f : FuncId} {xs : List AV} {S S' : List ABlk} {r : AV} (h : Ask f xs S S' r) {M : AMem} {b : Nat} {ρ : List Nat} (hok : Okg M) (hv : Seen M b ρ S) (hx : AV.refsL xs = []) (hs : served f = true) (d : Nat) :
    ∃ M' ρ', callF tblS code 100000 (d + 1) f (.ptr (some (b, 0)) :: xs) M = some (r.ren (extN ρ M.n), M') ∧ Moved M M' b ρ S' ρ' := by
  obtain ⟨way, σ, owe, h1, h2⟩ := h M.g
  obtain ⟨M', k1, k2, k3⟩ := stepO_frame sound (fs := served) hs hok (hv.args hx) h1 h2
  refine ⟨M', σ.map (extN ρ M.n), callS hs k1 d, k2, ?_, fun c hc => ?_⟩
  · simp only [AV.rens, AV.ren, hv.root] at k3
    exact k3
  · obtain ⟨i, _, rfl⟩ := List.mem_map.1 hc
    exact extN_in
theorem ren_int {f : Nat → Nat} {a : AV} {k : IntKind} {x : Int} (h : a.ren f = .int k x) : a = .int k x := by
  unfold AV.ren at h
  split at h <;> first | (cases h; done) | exact h
/-- a first call: out of numbers -/
def AskNew (f : FuncId) (xs : List AV) (S : List ABlk) : Prop := ∀ g, ∃ way σ owe k, stepO runW 400 way f xs [] g (fun r => [r]) = some (.ptr (some (k, 0)), σ, S, [P0], owe) ∧ ∀ p ∈ owe, p.1 = p.2
theorem view_nil {M : AMem} {xs : List AV} (hx : AV.refsL xs = []) : view 400 M xs = some ([], [], xs) := by
  unfold view
  simp only [hx, refsL_nil hx]
  rfl
theorem call_new {f : FuncId} {xs : List AV} {S : List ABlk} (h : AskNew f xs S) {M : AMem} (hok : Okg M) (hx : AV.refsL xs = []) (hs : served f = true) (d : Nat) :
    ∃ M' b ρ', callF tblS code 100000 (d + 1) f xs M = some (.ptr (some (b, 0)), M') ∧ After M [] M' ∧ Seen M' b ρ' S ∧ ∀ c ∈ ρ', M.n ≤ c := by
  obtain ⟨way, σ, owe, k, h1, h2⟩ := h M.g
  obtain ⟨M', k1, k2, k3⟩ := stepO_frame sound (fs := served) hs hok (view_nil hx) h1 h2
  refine ⟨M', extN [] M.n k, σ.map (extN [] M.n), callS hs k1 d, k2, k3, fun c hc => ?_⟩
  obtain ⟨i, _, rfl⟩ := List.mem_map.1 hc
  rcases extN_in (ρ := []) (n := M.n) (i := i) with h | h
  · simp at h
  · exact h
/-- a call that answers by what is seen, and makes nothing -/
theorem call_flat {f : FuncId} {args a : List AV} {l : List ABlk} {ρ : List Nat} {r : AV} {M : AMem} (hok : Okg M) (hv : view 400 M args = some (ρ, l, a)) (h : ∃ way σ S a2 owe, stepO runW 400 way f a l M.g (fun r => [r]) = some (r, σ, S, a2, owe) ∧ ∀ p ∈ owe, p.1 = p.2) (hr : r.refs = []) (hs : served f = true) (d : Nat) :
    ∃ M', callF tblS code 100000 (d + 1) f args M = some (r, M') ∧ After M ρ M' := by
  obtain ⟨way, σ, S, a2, owe, h1, h2⟩ := h
  obtain ⟨M', k1, k2, _⟩ := stepO_frame sound (fs := served) hs hok hv h1 h2
  have : r.ren (extN ρ M.n) = r := by rw [ren_eq _ (fun b => b) r (by rw [hr]; simp), ren_id]
  rw [this] at k1
  exact ⟨M', callS hs k1 d, k2⟩
end Go.Proofs.Ytldijnabgabehaa.so
