/- Heaps as container/heap keeps them: plain lists. -/
import Derived.Test.YtpbejdlpkpehlaaVx22
namespace Go.Vx

/-- two places' contents exchanged -/
def swapL {α : Type} (d : α) (l : List α) (i j : Nat) : List α := (l.set i (l.getD j d)).set j (l.getD i d)
section
variable {α : Type} {d : α} {l : List α} {i j k n e : Nat}
theorem swapL_len : (swapL d l i j).length = l.length := by simp [swapL]
theorem getD_set' {x : α} (h : i < l.length) : (l.set i x).getD j d = if i = j then x else l.getD j d := by
  rw [List.getD_eq_getElem?_getD, List.getD_eq_getElem?_getD, List.getElem?_set]
  split
  · first | rfl | (rw [if_pos h]; rfl)
  · rfl
theorem swapL_get (hi : i < l.length) (hj : j < l.length) : (swapL d l i j).getD k d = if k = j then l.getD i d else if k = i then l.getD j d else l.getD k d := by
  unfold swapL
  rw [getD_set' (by rw [List.length_set]; exact hj), getD_set' hi]
  by_cases h1 : j = k
  · subst h1; simp
  · by_cases h2 : i = k
    · subst h2
      rw [if_neg h1, if_pos rfl, if_neg (fun h => h1 h.symm)]
    · rw [if_neg h1, if_neg h2, if_neg (fun h => h1 h.symm), if_neg (fun h => h2 h.symm)]
theorem swapL_perm (hi : i < l.length) (hj : j < l.length) : (swapL d l i j).Perm l := by
  unfold swapL
  rw [List.getD_eq_getElem?_getD, List.getD_eq_getElem?_getD, List.getElem?_eq_getElem hi, List.getElem?_eq_getElem hj]
  exact List.set_set_perm hi hj

/-- what an order must be -/
structure WO (lt : α → α → Bool) : Prop where
  asymm : ∀ a b, lt a b = true → lt b a = false
  ntrans : ∀ a b c, lt b a = false → lt c b = false → lt c a = false
variable {lt : α → α → Bool}
theorem WO.irr (h : WO lt) (a : α) : lt a a = false := by
  cases hl : lt a a with
  | false => rfl
  | true => have := h.asymm a a hl; rw [hl] at this; exact this
def par (i : Nat) : Nat := (i - 1) / 2
/-- is a place not ahead of the one above it? -/
def InOrd (lt : α → α → Bool) (d : α) (l : List α) (c : Nat) : Prop := lt (l.getD c d) (l.getD (par c) d) = false
def HeapN (lt : α → α → Bool) (d : α) (l : List α) (n : Nat) : Prop := ∀ c, 0 < c → c < n → InOrd lt d l c
structure UpI (lt : α → α → Bool) (d : α) (l : List α) (n j : Nat) : Prop where
  o : ∀ c, 0 < c → c < n → c ≠ j → InOrd lt d l c
  g : ∀ c, 0 < c → c < n → par c = j → 0 < j → lt (l.getD c d) (l.getD (par j) d) = false
theorem UpI.zero (h : UpI lt d l n 0) : HeapN lt d l n := fun c h0 hc => h.o c h0 hc (by omega)
theorem UpI.exit (h : UpI lt d l n j) (ho : InOrd lt d l j) : HeapN lt d l n := fun c h0 hc => by
  by_cases hcj : c = j
  · subst hcj; exact ho
  · exact h.o c h0 hc hcj
theorem UpI.step (hw : WO lt) (h : UpI lt d l n j) (hj0 : 0 < j) (hjn : j < n) (hn : n ≤ l.length) (hlt : lt (l.getD j d) (l.getD (par j) d) = true) : UpI lt d (swapL d l (par j) j) n (par j) := by
  have hpj : par j < j := by unfold par; omega
  have get : ∀ k, (swapL d l (par j) j).getD k d = if k = j then l.getD (par j) d else if k = par j then l.getD j d else l.getD k d := fun k => swapL_get (by omega) (by omega)
  have has := hw.asymm _ _ hlt
  refine ⟨fun c h0 hc hne => ?_, fun c h0 hc hp hpos => ?_⟩
  · unfold InOrd
    rw [get, get]
    have hpc : par c < c := by unfold par; omega
    by_cases c1 : c = j
    · subst c1
      rw [if_pos rfl, if_neg (by omega), if_pos rfl]
      exact has
    · rw [if_neg c1, if_neg hne]
      by_cases c2 : par c = j
      · rw [if_pos c2]
        exact h.g c h0 hc c2 hj0
      · rw [if_neg c2]
        by_cases c3 : par c = par j
        · rw [if_pos c3]
          have := h.o c h0 hc c1
          unfold InOrd at this
          rw [c3] at this
          exact hw.ntrans _ _ _ has this
        · rw [if_neg c3]
          exact h.o c h0 hc c1
  · rw [get, get]
    have hpp : par (par j) < par j := by unfold par at *; omega
    rw [if_neg (show par (par j) ≠ j by omega), if_neg (show par (par j) ≠ par j by omega)]
    have hoi := h.o (par j) hpos (by omega) (by omega)
    by_cases c1 : c = j
    · rw [if_pos c1]; exact hoi
    · have hpc : par c < c := by unfold par; omega
      rw [if_neg c1, if_neg (by omega)]
      have hoc := h.o c h0 hc c1
      unfold InOrd at hoc
      rw [hp] at hoc
      exact hw.ntrans _ _ _ hoi hoc
structure DnI (lt : α → α → Bool) (d : α) (l : List α) (n i e : Nat) : Prop where
  o : ∀ c, 0 < c → c < n → par c ≠ i → c ≠ e → InOrd lt d l c
  g : ∀ c, 0 < c → c < n → par c = i → 0 < i → lt (l.getD c d) (l.getD (par i) d) = false
theorem DnI.exit (h : DnI lt d l n i e) (hc : ∀ c, 0 < c → c < n → par c = i → InOrd lt d l c) : ∀ c, 0 < c → c < n → c ≠ e → InOrd lt d l c := fun c h0 hcn hne => by
  by_cases hp : par c = i
  · exact hc c h0 hcn hp
  · exact h.o c h0 hcn hp hne
theorem DnI.step (hw : WO lt) (h : DnI lt d l n i e) (he : e = i ∨ e = n) (hj0 : 0 < j) (hjn : j < n) (hpj : par j = i) (hn : n ≤ l.length) (hlt : lt (l.getD j d) (l.getD i d) = true)
    (hmin : ∀ c, 0 < c → c < n → par c = i → lt (l.getD c d) (l.getD j d) = false) : DnI lt d (swapL d l i j) n j n := by
  have hij : i < j := by rw [← hpj]; unfold par; omega
  have get : ∀ k, (swapL d l i j).getD k d = if k = j then l.getD i d else if k = i then l.getD j d else l.getD k d := fun k => swapL_get (by omega) (by omega)
  have has := hw.asymm _ _ hlt
  refine ⟨fun c h0 hc hp _ => ?_, fun c h0 hc hp _ => ?_⟩
  · unfold InOrd
    rw [get, get]
    have hpc : par c < c := by unfold par; omega
    rw [if_neg hp]
    by_cases c1 : c = j
    · subst c1
      rw [if_pos rfl, if_pos hpj]
      exact has
    · rw [if_neg c1]
      by_cases c2 : c = i
      · rw [if_pos c2, if_neg (by omega), c2]
        exact h.g j hj0 hjn hpj (by omega)
      · rw [if_neg c2]
        by_cases c3 : par c = i
        · rw [if_pos c3]
          exact hmin c h0 hc c3
        · rw [if_neg c3]
          exact h.o c h0 hc c3 (by rcases he with he | he <;> omega)
  · rw [get, get]
    have hpc : par c < c := by unfold par; omega
    rw [if_neg (by omega), if_neg (by omega), hpj, if_neg (by omega), if_pos rfl]
    have := h.o c h0 hc (by omega) (by rcases he with he | he <;> omega)
    unfold InOrd at this
    rw [hp] at this
    exact this
theorem heap_min (hw : WO lt) (h : HeapN lt d l n) : ∀ c, c < n → lt (l.getD c d) (l.getD 0 d) = false := by
  intro c
  induction c using Nat.strongRecOn with
  | ind c ih =>
    intro hc
    by_cases h0 : c = 0
    · subst h0; exact hw.irr _
    · have hp : par c < c := by unfold par; omega
      exact hw.ntrans _ _ _ (ih (par c) hp (by omega)) (h c (by omega) hc)
/-- one more, behind -/
theorem UpI.push {x : α} (h : HeapN lt d l l.length) : UpI lt d (l ++ [x]) (l.length + 1) l.length := by
  have get : ∀ k, k < l.length → (l ++ [x]).getD k d = l.getD k d := fun k hk => by
    rw [List.getD_eq_getElem?_getD, List.getD_eq_getElem?_getD, List.getElem?_append_left hk]
  refine ⟨fun c h0 hc hne => ?_, fun c h0 hc hp _ => by unfold par at hp; omega⟩
  have hp : par c < c := by unfold par; omega
  unfold InOrd
  rw [get c (by omega), get _ (by omega)]
  exact h c h0 (by omega)
/-- the last one laid at a place -/
theorem DnI.start (hw : WO lt) (h : HeapN lt d l (n + 1)) (hn : n + 1 = l.length) (hi : i < n) : DnI lt d (swapL d l i n) n i i := by
  have get : ∀ k, (swapL d l i n).getD k d = if k = n then l.getD i d else if k = i then l.getD n d else l.getD k d := fun k => swapL_get (by omega) (by omega)
  refine ⟨fun c h0 hc hp hne => ?_, fun c h0 hc hp hpos => ?_⟩
  · have hpc : par c < c := by unfold par; omega
    unfold InOrd
    rw [get, get, if_neg (by omega), if_neg hne, if_neg (by omega), if_neg hp]
    exact h c h0 (by omega)
  · have hpc : par c < c := by unfold par; omega
    have hpi : par i < i := by unfold par; omega
    rw [get, get, if_neg (by omega), if_neg (by omega), if_neg (by omega), if_neg (by omega)]
    have h1 := h c h0 (by omega)
    unfold InOrd at h1
    rw [hp] at h1
    exact hw.ntrans _ _ _ (h i hpos (by omega)) h1
/-- a place that did not sink may rise -/
theorem DnI.rise (h : DnI lt d l n i i) (ho : ∀ c, 0 < c → c < n → c ≠ i → InOrd lt d l c) : UpI lt d l n i := ⟨ho, h.g⟩
theorem HeapN.take {m : Nat} (h : HeapN lt d l n) (hm : n ≤ m) : HeapN lt d (l.take m) n := fun c h0 hc => by
  have get : ∀ k, k < m → (l.take m).getD k d = l.getD k d := fun k hk => by
    rw [List.getD_eq_getElem?_getD, List.getD_eq_getElem?_getD, List.getElem?_take_of_lt hk]
  have hp : par c < c := by unfold par; omega
  unfold InOrd
  rw [get c (by omega), get _ (by omega)]
  exact h c h0 hc
/-- the last one split off -/
theorem take_last (h : l.length = n + 1) : l = l.take n ++ [l.getD n d] := by
  conv => lhs; rw [← List.take_append_drop n l]
  congr 1
  apply List.ext_getElem
  · simp [h]
  · intro k h1 h2
    simp only [List.length_singleton] at h2
    obtain rfl : k = 0 := by omega
    simp [List.getD_eq_getElem?_getD, List.getElem?_eq_getElem (show n < l.length by omega)]
end
end Go.Vx
