/- What was pushed came out once, or is in it: counted. -/
import Derived.Test.YtldijnabgabehaaSoPlay
namespace Go.Proofs.Ytldijnabgabehaa.so
def noms (ds : List Deed) : List Nat := (ds.filter fun d => d.put && d.code == 7).map (·.v)
def oks (ds : List Deed) : List Nat := (ds.filter fun d => d.put && d.code == 0).map (·.v)
def pops (ds : List Deed) : List Nat := (ds.filter fun d => !d.put && d.code == 0).map (·.v)
theorem count_res {x : Nat} : ∀ (ds : List Deed), (∀ d ∈ ds, ∃ i, d.to = some i) → (ds.flatMap resD).count x = (noms ds).count x + (pops ds).count x
  | [], _ => rfl
  | d :: ds, h => by
    have ih := count_res (x := x) ds fun e he => h e (by simp [he])
    obtain ⟨i, hi⟩ := h d (by simp)
    rw [List.flatMap_cons, List.count_append, ih]
    unfold noms pops resD
    rw [hi]
    simp only [List.filter_cons]
    cases hp : d.put
    · by_cases hc : d.code = 0
      · simp [hc, List.count_cons]; omega
      · simp [hc]
    · by_cases hc : d.code = 7
      · simp [hc, List.count_cons]; omega
      · simp [hc]
theorem count_puts {x : Nat} : ∀ (ds : List Deed), (∀ d ∈ ds, d.put = true → d.code = 0 ∨ d.code = 7) → ((ds.filter (·.put)).map (·.v)).count x = (noms ds).count x + (oks ds).count x
  | [], _ => rfl
  | d :: ds, h => by
    have ih := count_puts (x := x) ds fun e he => h e (by simp [he])
    have hd := h d (by simp)
    unfold noms oks at *
    simp only [List.filter_cons]
    cases hp : d.put
    · simpa [hp] using ih
    · rcases hd hp with hc | hc
      · simp [hc, List.count_cons, ih]; omega
      · simp [hc, List.count_cons, ih]; omega
/-- what is in it, and what came out -/
def allOut (s : PS) (S : List Nat) : List Nat := S.map s.m.task ++ pops s.deeds
theorem out_perm {n : Nat} {s : PS} (h : PI n s) (he : ∀ d ∈ s.deeds, ∃ i, d.to = some i) {S : List Nat}
    (hv : ∀ x, (S.map s.m.task).count x + (s.deeds.flatMap resD).count x = if 1 ≤ x ∧ x < s.next then 1 else 0) : (allOut s S).Perm (oks s.deeds) ∧ (allOut s S).Nodup := by
  have hd : ∀ d ∈ s.deeds, (d.put = true → d.code = 0 ∨ d.code = 7) ∧ (d.put = false → d.code = 0 ∨ d.code = 5) := fun d hd => by
    obtain ⟨k, hk, rfl⟩ := List.getElem_of_mem hd
    obtain ⟨i, hi⟩ := he _ hd
    exact h.done k _ i (List.getElem?_eq_getElem hk) hi
  have key : ∀ x, (allOut s S).count x = (oks s.deeds).count x ∧ (oks s.deeds).count x ≤ 1 := fun x => by
    have h1 := hv x
    rw [count_res _ he] at h1
    have h2 := count_puts (x := x) s.deeds fun d hd' => (hd d hd').1
    rw [h.puts] at h2
    have h3 : (List.range' 1 (s.next - 1)).count x = if 1 ≤ x ∧ x < s.next then 1 else 0 := by
      have hn := List.nodup_iff_count.1 (List.nodup_range' (s := 1) (n := s.next - 1)) x
      have hnx := h.next
      by_cases hx : 1 ≤ x ∧ x < s.next
      · rw [if_pos hx]
        have : x ∈ List.range' 1 (s.next - 1) := by rw [List.mem_range'_1]; omega
        have := pos_of_mem this
        omega
      · rw [if_neg hx]
        exact List.count_eq_zero.2 (by rw [List.mem_range'_1]; omega)
    unfold allOut
    rw [List.count_append]
    have h4 : (if 1 ≤ x ∧ x < s.next then 1 else 0) ≤ 1 := by split <;> omega
    omega
  exact ⟨List.perm_iff_count.2 fun x => (key x).1, List.nodup_iff_count.2 fun x => by rw [(key x).1]; exact (key x).2⟩
theorem codes {n : Nat} {s : PS} (h : PI n s) (he : ∀ d ∈ s.deeds, ∃ i, d.to = some i) : ∀ d ∈ s.deeds, (d.put = true → d.code = 0 ∨ d.code = 7) ∧ (d.put = false → d.code = 0 ∨ d.code = 5) := fun d hd => by
  obtain ⟨k, hk, rfl⟩ := List.getElem_of_mem hd
  obtain ⟨i, hi⟩ := he _ hd
  exact h.done k _ i (List.getElem?_eq_getElem hk) hi
end Go.Proofs.Ytldijnabgabehaa.so
