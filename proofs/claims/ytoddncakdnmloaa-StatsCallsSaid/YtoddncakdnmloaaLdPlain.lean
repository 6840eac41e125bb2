/- How many spans are open: the plain law. -/
import Derived.Test.YtoddncakdnmloaaDiPlain
namespace Go.Proofs.Ytoddncakdnmloaa.diary
open Go Go.Vx

/-- a number of a row, and more -/
def addAt (m : List Int) (k : Nat) (x : Int) : List Int := m.set k (m.getD k 0 + x)
theorem addAt_len {m : List Int} {k : Nat} {x : Int} : (addAt m k x).length = m.length := by simp [addAt]
theorem addAt_getD {m : List Int} {k j : Nat} {x : Int} (hk : k < m.length) : (addAt m k x).getD j 0 = m.getD j 0 + if k = j then x else 0 := by
  unfold addAt
  rw [getD_set hk]
  split
  · rename_i h; subst h; rfl
  · omega
theorem take_succ_sum {m : List Int} {i : Nat} (hi : i < m.length) : (m.take (i + 1)).sum = (m.take i).sum + m.getD i 0 := by
  rw [List.take_add_one, List.sum_append, List.getD_eq_getElem?_getD, List.getElem?_eq_getElem hi]
  simp
theorem addAt_sum {m : List Int} {k : Nat} {x : Int} (hk : k < m.length) : ∀ {i : Nat}, i ≤ m.length → ((addAt m k x).take i).sum = (m.take i).sum + if k < i then x else 0
  | 0, _ => by simp
  | i + 1, hi => by
    rw [take_succ_sum (by rw [addAt_len]; omega), take_succ_sum (by omega), addAt_sum hk (by omega), addAt_getD hk]
    by_cases h1 : k < i
    · rw [if_pos h1, if_neg (by omega), if_pos (by omega)]; omega
    · by_cases h2 : k = i
      · rw [if_neg h1, if_pos h2, if_pos (by omega)]; omega
      · rw [if_neg h1, if_neg h2, if_neg (by omega)]; omega
/-- a place's step -/
def stp (es : List Ev) (i : Int) : Int := (ev es i.toNat).step
def lenS (es : List Ev) : Int := (ev es (es.length - 1)).step - (ev es 0).step
/-- a span counted in -/
def moreS (es : List Ev) (m : List Int) (s : Sp) : List Int :=
  if s.to ≥ 0 then addAt (addAt m (stp es s.from_ - stp es 0).toNat 1) (stp es s.to - stp es 0).toNat (-1) else addAt m (stp es s.from_ - stp es 0).toNat 1
def moreP (es : List Ev) (sps : List Sp) : List Int := sps.foldl (moreS es) (List.replicate ((lenS es).toNat + 1) 0)
def loadP (es : List Ev) (sps : List Sp) : List Int := (List.range (lenS es).toNat).map fun i => ((moreP es sps).take (i + 1)).sum
/-- is a span open at a step? -/
def openAt (es : List Ev) (at_ : Int) (s : Sp) : Bool := decide (stp es s.from_ ≤ at_) && (decide (s.to < 0) || decide (stp es s.to > at_))
def loadD (es : List Ev) (sps : List Sp) (n : Nat) : List Int := (List.range n).map fun i : Nat => ((sps.countP (openAt es (stp es 0 + (i : Int))) : Nat) : Int)
/-- a span's places -/
def SpIn (es : List Ev) (s : Sp) : Prop := ∃ i : Nat, i < es.length ∧ s.from_ = i ∧ (s.to = -1 ∨ ∃ k : Nat, i < k ∧ k < es.length ∧ s.to = k)
def Sorted (es : List Ev) : Prop := ∀ i j, i ≤ j → j < es.length → (ev es i).step ≤ (ev es j).step
theorem sorted_of {es : List Ev} (h : ∀ i, i < es.length → StepAt es i) : Sorted es := by
  intro i j hij
  induction j with
  | zero => intro _; rw [show i = 0 by omega]; exact Int.le_refl _
  | succ j ih =>
    intro hj
    rcases Nat.lt_or_ge j i with h1 | h1
    · rw [show i = j + 1 by omega]; exact Int.le_refl _
    · have := ih h1 (by omega)
      have := (h (j + 1) hj).2.1 j rfl
      omega
theorem spanTo_in {es : List Ev} {i : Nat} (hi : i < es.length) : ∀ m, i + m < es.length → SpIn es (spanTo es i m) ∧ (spanTo es i m).from_ = i
  | 0, _ => ⟨⟨i, hi, rfl, .inl rfl⟩, rfl⟩
  | m + 1, hm => by
    obtain ⟨⟨j, h1, h2, h3⟩, h4⟩ := spanTo_in hi m (by omega)
    have hji : j = i := by omega
    subst hji
    show SpIn es (updS es _ _) ∧ (updS es _ _).from_ = _
    unfold updS
    split
    · exact ⟨⟨j, h1, h2, .inr ⟨j + 1 + m, by omega, by omega, rfl⟩⟩, h4⟩
    · exact ⟨⟨j, h1, h2, h3⟩, h4⟩
theorem refSp_in {es : List Ev} : ∀ n, n ≤ es.length → ∀ s ∈ refSp es n, SpIn es s
  | 0, _, s, hs => by simp [refSp] at hs
  | n + 1, hn, s, hs => by
    unfold refSp at hs
    split at hs
    · exact refSp_in n (by omega) s hs
    · rcases List.mem_append.1 hs with hs | hs
      · exact refSp_in n (by omega) s hs
      · simp only [List.mem_singleton] at hs
        subst hs
        exact (spanTo_in (by omega) _ (by omega)).1
theorem stp_nat {es : List Ev} {i : Nat} : stp es (i : Int) = (ev es i).step := by unfold stp; rw [Int.toNat_natCast]
theorem stp_zero {es : List Ev} : stp es 0 = (ev es 0).step := rfl
/-- a step's place in the row -/
theorem place_lt {es : List Ev} (hs : Sorted es) {i : Nat} (hi : i < es.length) : 0 ≤ (ev es i).step - (ev es 0).step ∧ (ev es i).step - (ev es 0).step ≤ lenS es := by
  have h1 := hs 0 i (by omega) hi
  have h2 := hs i (es.length - 1) (by omega) (by omega)
  unfold lenS
  omega
theorem moreS_len {es : List Ev} {m : List Int} {s : Sp} : (moreS es m s).length = m.length := by
  unfold moreS
  split <;> simp [addAt_len]
theorem foldS_len {es : List Ev} : ∀ {sps : List Sp} {m : List Int}, (sps.foldl (moreS es) m).length = m.length
  | [], _ => rfl
  | s :: sps, m => by rw [List.foldl_cons, foldS_len, moreS_len]
theorem moreP_len {es : List Ev} {sps : List Sp} : (moreP es sps).length = (lenS es).toNat + 1 := by
  unfold moreP; rw [foldS_len, List.length_replicate]
theorem moreS_sum {es : List Ev} (hs : Sorted es) {m : List Int} (hm : m.length = (lenS es).toNat + 1) {s : Sp} (hin : SpIn es s) {i : Nat} (hi : i < m.length) :
    ((moreS es m s).take (i + 1)).sum = (m.take (i + 1)).sum + if openAt es (stp es 0 + i) s then 1 else 0 := by
  obtain ⟨a, ha, hf, ht⟩ := hin
  obtain ⟨p1, p2⟩ := place_lt hs ha
  have ef : stp es s.from_ = (ev es a).step := by rw [hf, stp_nat]
  rcases ht with ht | ⟨b, hab, hb, ht⟩
  · unfold moreS openAt
    rw [if_neg (by omega), addAt_sum (by rw [ef, stp_zero]; omega) (by omega), ef, stp_zero]
    have : decide (s.to < 0) = true := by simp; omega
    rw [this, Bool.true_or, Bool.and_true]
    by_cases h : (ev es a).step ≤ (ev es 0).step + i
    · rw [if_pos (by omega), if_pos (by simpa using h)]
    · rw [if_neg (by omega), if_neg (by simpa using h)]
  · obtain ⟨q1, q2⟩ := place_lt hs hb
    have hle := hs a b (by omega) hb
    have et : stp es s.to = (ev es b).step := by rw [ht, stp_nat]
    unfold moreS openAt
    rw [if_pos (by omega), addAt_sum (by rw [addAt_len, et, stp_zero]; omega) (by rw [addAt_len]; omega), addAt_sum (by rw [ef, stp_zero]; omega) (by omega), ef, et, stp_zero]
    have : decide (s.to < 0) = false := by simp; omega
    rw [this, Bool.false_or]
    by_cases h : (ev es a).step ≤ (ev es 0).step + i
    · by_cases h2 : (ev es b).step ≤ (ev es 0).step + i
      · have e2 : decide ((ev es b).step > (ev es 0).step + i) = false := by simp; omega
        rw [if_pos (by omega), if_pos (by omega), e2, Bool.and_false, if_neg (by simp)]; omega
      · have e1 : decide ((ev es a).step ≤ (ev es 0).step + i) = true := by simp; omega
        have e2 : decide ((ev es b).step > (ev es 0).step + i) = true := by simp; omega
        rw [if_pos (by omega), if_neg (by omega), e1, e2, if_pos (by simp)]; omega
    · have e1 : decide ((ev es a).step ≤ (ev es 0).step + i) = false := by simp; omega
      rw [if_neg (by omega), if_neg (by omega), e1, Bool.false_and, if_neg (by simp)]; omega
theorem foldS_sum {es : List Ev} (hs : Sorted es) : ∀ {sps : List Sp} {m : List Int}, m.length = (lenS es).toNat + 1 → (∀ s ∈ sps, SpIn es s) → ∀ {i : Nat}, i < m.length →
    ((sps.foldl (moreS es) m).take (i + 1)).sum = (m.take (i + 1)).sum + (sps.countP (openAt es (stp es 0 + i)) : Nat)
  | [], m, _, _, i, _ => by simp
  | s :: sps, m, hm, hin, i, hi => by
    rw [List.foldl_cons, foldS_sum hs (by rw [moreS_len, hm]) (fun x hx => hin x (List.mem_cons_of_mem _ hx)) (by rw [moreS_len]; exact hi), moreS_sum hs hm (hin s List.mem_cons_self) hi, List.countP_cons]
    by_cases h : openAt es (stp es 0 + i) s = true
    · rw [if_pos h, if_pos h]; omega
    · rw [if_neg h, if_neg h]; omega
theorem zeros_sum : ∀ (n i : Nat), ((List.replicate n (0 : Int)).take i).sum = 0
  | 0, i => by simp
  | n + 1, 0 => by simp
  | n + 1, i + 1 => by rw [List.replicate_succ, List.take_succ_cons, List.sum_cons, zeros_sum n i]; rfl
theorem load_law {es : List Ev} (hs : Sorted es) {sps : List Sp} (hin : ∀ s ∈ sps, SpIn es s) : loadP es sps = loadD es sps (lenS es).toNat := by
  unfold loadP loadD
  apply List.map_congr_left
  intro i hi
  rw [List.mem_range] at hi
  unfold moreP
  rw [foldS_sum hs (by rw [List.length_replicate]) hin (by rw [List.length_replicate]; omega), zeros_sum]
  omega
theorem loadP_len {es : List Ev} {sps : List Sp} : (loadP es sps).length = (lenS es).toNat := by simp [loadP]
/-- the numbers stay small -/
def Small (B : Int) (m : List Int) : Prop := ∀ k, -B ≤ m.getD k 0 ∧ m.getD k 0 ≤ B
theorem Small.add {B : Int} {m : List Int} (h : Small B m) {k : Nat} (hk : k < m.length) {x : Int} (hx : -1 ≤ x ∧ x ≤ 1) : Small (B + 1) (addAt m k x) := fun j => by
  rw [addAt_getD hk]
  have := h j
  split <;> omega
theorem Small.zeros {n : Nat} : Small 0 (List.replicate n 0) := fun k => by
  rw [List.getD_eq_getElem?_getD, List.getElem?_replicate]
  split <;> simp
theorem Small.sum {B : Int} {m : List Int} (h : Small B m) (hB : 0 ≤ B) : ∀ {i : Nat}, i ≤ m.length → -(i * B) ≤ (m.take i).sum ∧ (m.take i).sum ≤ i * B
  | 0, _ => by simp
  | i + 1, hi => by
    rw [take_succ_sum (by omega)]
    have h1 := Small.sum h hB (i := i) (by omega)
    have h2 := h i
    have : ((i + 1 : Nat) : Int) * B = i * B + B := by
      rw [Int.natCast_add, Int.add_mul]; simp
    omega
end Go.Proofs.Ytoddncakdnmloaa.diary
