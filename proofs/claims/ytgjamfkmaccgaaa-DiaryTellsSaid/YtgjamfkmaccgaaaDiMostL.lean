/- The plain law of the most at once: sorted edges say what counting at each beginning says. -/
import Derived.Test.YtgjamfkmaccgaaaDiOf
namespace Go.Proofs.Ytgjamfkmaccgaaa.diary
open Go Go.Vx

theorem sortE_perm' (d : List (Int × Bool)) : (sortE d).Perm d := by
  have h := (sortE_spec d).1.2.2
  have hl := sortE_len d
  have e1 : ((sortE d).toArray.extract 0 d.length).toList = sortE d := by
    rw [show d.length = (sortE d).toArray.size by simp [hl]]; simp
  have e2 : (d.toArray.extract 0 d.length).toList = d := by simp
  rwa [e1, e2] at h
theorem sortE_sorted' (d : List (Int × Bool)) : (sortE d).Pairwise fun x y => ltE y x = false := by
  rw [List.pairwise_iff_getElem]
  intro i j hi hj hij
  have h := (sortE_spec d).2 i j (Nat.zero_le _) hij (by rw [sortE_len] at hj; exact hj)
  rw [getElem!_pos (sortE d).toArray j (by simpa using hj), getElem!_pos (sortE d).toArray i (by simpa using hi)] at h
  simpa using h
/-- begun till a place, and ended before it -/
def upE (d : List (Int × Bool)) (p : Int) : Nat := d.countP fun x => !x.2 && decide (x.1 ≤ p)
def dnE (d : List (Int × Bool)) (p : Int) : Nat := d.countP fun x => x.2 && decide (x.1 < p)
theorem upE_cons (x : Int × Bool) (d : List (Int × Bool)) (p : Int) : upE (x :: d) p = upE d p + if x.2 = false ∧ x.1 ≤ p then 1 else 0 := by
  unfold upE
  rw [List.countP_cons]
  cases h : x.2 <;> by_cases c : x.1 ≤ p <;> simp [c]
theorem dnE_cons (x : Int × Bool) (d : List (Int × Bool)) (p : Int) : dnE (x :: d) p = dnE d p + if x.2 = true ∧ x.1 < p then 1 else 0 := by
  unfold dnE
  rw [List.countP_cons]
  cases h : x.2 <;> by_cases c : x.1 < p <;> simp [c]
theorem fold_law : ∀ (d : List (Int × Bool)), d.Pairwise (fun x y => ltE y x = false) → ∀ c m : Int,
    m ≤ (d.foldl cnt (c, m)).2 ∧ (∀ p, (p, false) ∈ d → c + upE d p - dnE d p ≤ (d.foldl cnt (c, m)).2) ∧ ((d.foldl cnt (c, m)).2 = m ∨ ∃ p, (p, false) ∈ d ∧ (d.foldl cnt (c, m)).2 ≤ c + upE d p - dnE d p)
  | [], _, c, m => ⟨Int.le_refl _, fun p hp => by simp at hp, .inl rfl⟩
  | (q, b) :: d, hs, c, m => by
    rw [List.pairwise_cons] at hs
    obtain ⟨h1, h2⟩ := hs
    rw [List.foldl_cons]
    cases b with
    | true =>
      have hlow : ∀ p, (p, false) ∈ d → q < p := fun p hp => by
        have := h1 _ hp
        rw [← Bool.not_eq_true, ltE_iff] at this
        simp only [and_self, and_true] at this
        omega
      obtain ⟨i1, i2, i3⟩ := fold_law d h2 (c - 1) m
      have hc : cnt (c, m) (q, true) = (c - 1, m) := rfl
      rw [hc]
      refine ⟨i1, fun p hp => ?_, ?_⟩
      · have hp' : (p, false) ∈ d := by simpa using hp
        have k := i2 p hp'
        have hl := hlow p hp'
        rw [upE_cons, dnE_cons, if_neg (by simp), if_pos ⟨rfl, hl⟩]
        omega
      · rcases i3 with h | ⟨p, hp, k⟩
        · exact .inl h
        · refine .inr ⟨p, List.mem_cons_of_mem _ hp, ?_⟩
          rw [upE_cons, dnE_cons, if_neg (by simp), if_pos ⟨rfl, hlow p hp⟩]
          omega
    | false =>
      have hlow : ∀ y ∈ d, q ≤ y.1 := fun y hp => by
        have := h1 _ hp
        rw [← Bool.not_eq_true, ltE_iff] at this
        simp only at this
        omega
      obtain ⟨i1, i2, i3⟩ := fold_law d h2 (c + 1) (max m (c + 1))
      have hc : cnt (c, m) (q, false) = (c + 1, max m (c + 1)) := rfl
      rw [hc]
      have hd0 : dnE d q = 0 := by
        unfold dnE
        rw [List.countP_eq_zero]
        intro y hy
        have := hlow y hy
        simp only [Bool.and_eq_true, decide_eq_true_eq]
        omega
      refine ⟨by omega, fun p hp => ?_, ?_⟩
      · have hup : q ≤ p := by
          rcases List.mem_cons.1 hp with h | h
          · cases h; exact Int.le_refl _
          · exact hlow _ h
        rw [upE_cons, dnE_cons, if_pos ⟨rfl, hup⟩, if_neg (by simp)]
        by_cases hin : (p, false) ∈ d
        · have := i2 p hin
          omega
        · have : p = q := by
            rcases List.mem_cons.1 hp with h | h
            · cases h; rfl
            · exact absurd h hin
          subst this
          have hu0 : upE d p = 0 := by
            unfold upE
            rw [List.countP_eq_zero]
            intro y hy
            have hl := hlow y hy
            obtain ⟨y1, y2⟩ := y
            simp only [Bool.and_eq_true, decide_eq_true_eq, Bool.not_eq_true']
            rintro ⟨rfl, hyp⟩
            simp only at hl
            have : y1 = p := by omega
            subst this
            exact hin hy
          omega
      · rcases i3 with h | ⟨p, hp, k⟩
        · rcases Int.le_total (c + 1) m with hm | hm
          · exact .inl (by omega)
          · refine .inr ⟨q, List.mem_cons_self, ?_⟩
            rw [upE_cons, dnE_cons, if_pos ⟨rfl, Int.le_refl _⟩, if_neg (by simp), hd0]
            omega
        · refine .inr ⟨p, List.mem_cons_of_mem _ hp, ?_⟩
          rw [upE_cons, dnE_cons, if_pos ⟨rfl, hlow _ hp⟩, if_neg (by simp)]
          omega
theorem up_dn (l : List Sp) (p : Int) : upE (edges l) p = hcN l p + dnE (edges l) p := by
  induction l with
  | nil => rfl
  | cons s l ih =>
    unfold upE dnE hcN edges at ih ⊢
    rw [List.flatMap_cons, List.countP_append, List.countP_append, List.countP_cons, ih]
    have : List.countP (fun x => !x.2 && decide (x.1 ≤ p)) (edge1 s) = (if hasB s p = true then 1 else 0) + List.countP (fun x => x.2 && decide (x.1 < p)) (edge1 s) := by
      unfold edge1 hasB
      by_cases c1 : s.from_ < 0 ∨ (s.to ≥ 0 ∧ s.to < s.from_)
      · rw [if_pos c1, if_neg (by simp only [decide_eq_true_eq]; omega)]; rfl
      · rw [if_neg c1]
        by_cases c2 : s.to ≥ 0
        · rw [if_pos c2]
          simp only [List.countP_cons, List.countP_nil]
          by_cases c3 : s.from_ ≤ p <;> by_cases c4 : s.to < p <;> simp [c3, c4] <;> omega
        · rw [if_neg c2]
          simp only [List.countP_cons, List.countP_nil]
          by_cases c3 : s.from_ ≤ p <;> simp [c3] <;> omega
    omega
theorem edge_mem {l : List Sp} {p : Int} : (p, false) ∈ edges l ↔ ∃ s ∈ l, s.from_ = p ∧ hasB s p = true := by
  unfold edges
  rw [List.mem_flatMap]
  constructor
  · rintro ⟨s, hs, h⟩
    unfold edge1 at h
    split at h
    · simp at h
    · rename_i hc
      refine ⟨s, hs, ?_⟩
      have : s.from_ = p := by
        rcases List.mem_cons.1 h with h | h
        · cases h; rfl
        · split at h <;> simp at h
      refine ⟨this, ?_⟩
      unfold hasB
      rw [decide_eq_true_eq]; omega
  · rintro ⟨s, hs, h1, h2⟩
    refine ⟨s, hs, ?_⟩
    unfold hasB at h2
    rw [decide_eq_true_eq] at h2
    unfold edge1
    rw [if_neg (by omega), h1]
    exact List.mem_cons_self
theorem refM_law (l : List Sp) : ∀ r : List Sp, 0 ≤ refM l r ∧ (∀ s ∈ r, (hcAt l s : Int) ≤ refM l r) ∧ (refM l r = 0 ∨ ∃ s ∈ r, refM l r = hcAt l s)
  | [] => ⟨Int.le_refl _, fun s hs => by simp at hs, .inl rfl⟩
  | s :: r => by
    obtain ⟨h1, h2, h3⟩ := refM_law l r
    have hu : refM l (s :: r) = max (refM l r) (hcAt l s) := rfl
    rw [hu]
    refine ⟨by omega, fun y hy => ?_, ?_⟩
    · rcases List.mem_cons.1 hy with rfl | hy
      · omega
      · have := h2 y hy; omega
    · rcases Int.le_total (refM l r) (hcAt l s) with hm | hm
      · exact .inr ⟨s, List.mem_cons_self, by omega⟩
      · rcases h3 with h | ⟨y, hy, h⟩
        · exact .inl (by omega)
        · exact .inr ⟨y, List.mem_cons_of_mem _ hy, by omega⟩
theorem most_law (l : List Sp) : mostP l = refMT l l.length := by
  unfold mostP refMT
  rw [List.take_length]
  obtain ⟨a1, a2, a3⟩ := fold_law _ (sortE_sorted' (edges l)) 0 0
  obtain ⟨b1, b2, b3⟩ := refM_law l l.reverse
  have hp := sortE_perm' (edges l)
  have hu : ∀ p, upE (sortE (edges l)) p = upE (edges l) p := fun p => hp.countP_eq _
  have hd : ∀ p, dnE (sortE (edges l)) p = dnE (edges l) p := fun p => hp.countP_eq _
  have key : ∀ p, (0 : Int) + upE (sortE (edges l)) p - dnE (sortE (edges l)) p = hcN l p := fun p => by
    have := up_dn l p
    rw [hu, hd]; omega
  apply Int.le_antisymm
  · rcases a3 with h | ⟨p, hm, h⟩
    · rw [h]; exact b1
    · rw [key] at h
      obtain ⟨s, hs, e1, e2⟩ := edge_mem.1 (hp.mem_iff.1 hm)
      have := b2 s (by simpa using hs)
      unfold hcAt at this
      rw [e1, if_pos e2] at this
      omega
  · rcases b3 with h | ⟨s, hs, h⟩
    · rw [h]; exact a1
    · rw [h]
      unfold hcAt
      split
      · rename_i hb
        have := a2 s.from_ (hp.mem_iff.2 (edge_mem.2 ⟨s, by simpa using hs, rfl, hb⟩))
        rw [key] at this
        omega
      · omega
end Go.Proofs.Ytgjamfkmaccgaaa.diary
