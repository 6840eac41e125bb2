/- The calls whose answers are known: awake, and the library's sort. -/
import Derived.Test.YtgjamfkmaccgaaaT
import Derived.Test.YtgjamfkmaccgaaaVx23
import Derived.Sort.AssemblyPlain
import Derived.Lib.BitFns
import Derived.Lib.Small
namespace Go.Proofs.Ytgjamfkmaccgaaa.diary
open Go Go.Vx

/-- an edge's order -/
def cfE (x y : Int × Bool) : Int := if x.1 ≠ y.1 then Lib.compareInt x.1 y.1 else if x.2 = y.2 then 0 else if x.2 then 1 else -1
def ltE (x y : Int × Bool) : Bool := decide (cfE x y < 0)
theorem ltE_iff {x y : Int × Bool} : ltE x y = true ↔ x.1 < y.1 ∨ (x.1 = y.1 ∧ x.2 = false ∧ y.2 = true) := by
  unfold ltE cfE Lib.compareInt
  rw [decide_eq_true_iff]
  obtain ⟨a, p⟩ := x
  obtain ⟨b, q⟩ := y
  simp only
  split
  · split
    · simp; omega
    · split
      · simp; omega
      · simp; omega
  · cases p <;> cases q <;> simp <;> omega
theorem swoE : Sort.SWO ltE where
  irrefl x := by
    cases h : ltE x x with
    | false => rfl
    | true =>
      rcases ltE_iff.1 h with h | ⟨_, h1, h2⟩
      · omega
      · rw [h1] at h2; cases h2
  trans x y z h k := by
    rw [ltE_iff] at h k ⊢
    rcases h with h | ⟨h1, h2, h3⟩ <;> rcases k with k | ⟨k1, k2, k3⟩
    · exact .inl (by omega)
    · exact .inl (by omega)
    · exact .inl (by omega)
    · rw [h3] at k2; cases k2
  ntrans x y z h k := by
    rw [← Bool.not_eq_true, ltE_iff] at h k ⊢
    intro hz
    rcases hz with hz | ⟨z1, z2, z3⟩
    · have : ¬ x.1 < y.1 := fun h' => h (.inl h')
      have : ¬ y.1 < z.1 := fun h' => k (.inl h')
      omega
    · have h1 : ¬ x.1 < y.1 := fun h' => h (.inl h')
      have h2 : ¬ y.1 < z.1 := fun h' => k (.inl h')
      have e1 : x.1 = y.1 := by omega
      have e2 : y.1 = z.1 := by omega
      cases hy : y.2 with
      | true => exact h (.inr ⟨e1, z2, hy⟩)
      | false => exact k (.inr ⟨e2, hy, z3⟩)
def encA (x : Int × Bool) : List AV := [.int .i64 x.1, .bool x.2]
def encV (x : Int × Bool) : List Value := [.int .i64 x.1, .bool x.2]
/-- the sorted list, as the library's sort lays it -/
def sortE (d : List (Int × Bool)) : List (Int × Bool) := (Sort.pdq ltE d.toArray 0 d.length (Lib.bitLen d.length) true true).toList
theorem sortE_spec (d : List (Int × Bool)) : Sort.PermIn 0 d.length d.toArray (sortE d).toArray ∧ Sort.SortedIn ltE 0 d.length (sortE d).toArray := by
  have := Sort.pdq_sorts ltE swoE d.toArray 0 d.length (Lib.bitLen d.length) true true (Nat.zero_le _) (by simp) (Or.inl rfl)
  simpa [sortE] using this
theorem sortE_len (d : List (Int × Bool)) : (sortE d).length = d.length := by
  have := (sortE_spec d).1.1
  simpa using this
def decE : List AV → Option (List (Int × Bool))
  | [] => some []
  | .int .i64 a :: .bool b :: r => match decE r with
    | some d => some ((a, b) :: d)
    | none => none
  | _ => none
theorem decE_enc : ∀ d : List (Int × Bool), decE (d.flatMap encA) = some d
  | [] => rfl
  | (a, b) :: d => by
    rw [List.flatMap_cons]
    show (match decE (d.flatMap encA) with
      | some d => some ((a, b) :: d)
      | none => none) = _
    rw [decE_enc d]
theorem decE_some : ∀ (cs : List AV) (d : List (Int × Bool)), decE cs = some d → cs = d.flatMap encA := by
  intro cs
  induction cs using decE.induct with
  | case1 => intro d h; simp [decE] at h; subst h; rfl
  | case2 a b r d' hr ih =>
    intro d h
    simp only [decE, hr, Option.some.injEq] at h
    subst h
    rw [List.flatMap_cons, ← ih d' hr]; rfl
  | case3 a b r hr ih =>
    intro d h
    simp only [decE, hr] at h
    cases h
  | case4 cs h1 h2 =>
    intro d h
    unfold decE at h
    split at h
    · exact absurd rfl h1
    · rename_i a b r; exact absurd rfl (h2 a b r)
    · cases h
def decB (cs : List AV) : Option (List (Int × Bool)) := match decE cs with
  | some d => if d.length < 4611686018427387904 then some d else none
  | none => none
theorem decB_some {cs : List AV} {d : List (Int × Bool)} (h : decB cs = some d) : cs = d.flatMap encA ∧ d.length < 4611686018427387904 := by
  unfold decB at h
  cases hd : decE cs with
  | none => rw [hd] at h; cases h
  | some d' =>
    rw [hd] at h
    simp only at h
    split at h
    · cases h; exact ⟨decE_some cs d hd, by assumption⟩
    · cases h
def tbl0 (f : FuncId) (args : List AV) : Option AV :=
  if f = 4 then match args with
    | [] => some (.bool true)
    | _ => none
  else if f = 13 then match args with
    | [.slice none 0 0 false, .func (.func g) [] []] => if g = 14 then some (.tuple []) else none
    | _ => none
  else none
def tbl (f : FuncId) (args : List AV) (M : AMem) : Option (AV × AMem) := match (match tbl0 f args with
    | some r => some (r, M)
    | none => none) with
  | some q => some q
  | none => sortX 13 14 decB encA sortE f args M
theorem tbl_none {f : FuncId} (h : f ≠ 4 ∧ f ≠ 13) (a : List AV) : ∀ M, tbl f a M = none := fun M => by
  unfold tbl tbl0 sortX
  rw [if_neg h.1, if_neg h.2, if_neg h.2]
end Go.Proofs.Ytgjamfkmaccgaaa.diary
