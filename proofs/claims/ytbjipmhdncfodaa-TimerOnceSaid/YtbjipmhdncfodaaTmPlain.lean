/- What is gone, and what waits: plain. -/
import Derived.Test.YtbjipmhdncfodaaTmNew
namespace Go.Proofs.Ytbjipmhdncfodaa.grf
open Go Go.Vx

/-- the entries are those numbers that aren't gone, at their times -/
structure Inv (A : List Int) (G : List Bool) (l : List En) : Prop where
  len : G.length = A.length
  mem : ∀ k : Nat, k < A.length → (G.getD k false = false ↔ ∃ x ∈ l, x.n = k)
  ex : ∀ x ∈ l, ∃ k : Nat, k < A.length ∧ x.n = k ∧ x.task = k ∧ A.getD k 0 = x.at_
  ns : (l.map (·.n)).Nodup
theorem Inv.drop {A : List Int} {G : List Bool} {l l' : List En} {x : En} {k : Nat} (h : Inv A G l) (hk : x.n = k) (hp : l.Perm (x :: l')) : k < A.length ∧ G.getD k false = false ∧ A.getD k 0 = x.at_ ∧ x.task = k ∧ Inv A (G.set k true) l' := by
  have hx : x ∈ l := hp.mem_iff.2 List.mem_cons_self
  obtain ⟨k', h1, h2, h3, h4⟩ := h.ex x hx
  have hkk : k' = k := by omega
  subst hkk
  have hns : ((x :: l').map (·.n)).Nodup := (hp.map _).nodup_iff.1 h.ns
  rw [List.map_cons, List.nodup_cons] at hns
  refine ⟨h1, (h.mem _ h1).2 ⟨x, hx, hk⟩, h4, h3, by rw [List.length_set]; exact h.len, fun j hj => ?_, fun y hy => h.ex y (hp.mem_iff.2 (List.mem_cons_of_mem _ hy)), hns.2⟩
  rw [getD_set' (by rw [h.len]; exact h1)]
  by_cases hjk : k' = j
  · subst hjk
    rw [if_pos rfl]
    constructor
    · intro he; cases he
    · rintro ⟨y, hy, he⟩
      exact absurd (List.mem_map.2 ⟨y, hy, by omega⟩) hns.1
  · rw [if_neg hjk, h.mem j hj]
    constructor
    · rintro ⟨y, hy, he⟩
      rcases List.mem_cons.1 (hp.mem_iff.1 hy) with rfl | hy'
      · omega
      · exact ⟨y, hy', he⟩
    · rintro ⟨y, hy, he⟩
      exact ⟨y, hp.mem_iff.2 (List.mem_cons_of_mem _ hy), he⟩
theorem Inv.count {A : List Int} : ∀ (n : Nat) {G : List Bool} {l : List En}, l.length = n → Inv A G l → G.countP (fun b => !b) = l.length
  | 0, G, l, hl, h => by
    rw [hl, List.countP_eq_zero]
    intro b hb
    obtain ⟨k, hk, rfl⟩ := List.mem_iff_getElem.1 hb
    have := h.mem k (by rw [← h.len]; exact hk)
    rw [List.length_eq_zero_iff.1 hl] at this
    rw [List.getD_eq_getElem?_getD, List.getElem?_eq_getElem hk] at this
    simp at this
    simp [this]
  | n + 1, G, l, hl, h => by
    obtain ⟨x, l', rfl⟩ : ∃ x l', l = x :: l' := by
      cases l with
      | nil => simp at hl
      | cons x l' => exact ⟨x, l', rfl⟩
    obtain ⟨k, h1, h2, _⟩ := h.ex x List.mem_cons_self
    obtain ⟨_, g1, _, _, h'⟩ := h.drop h2 (.refl _)
    have ih := Inv.count n (by simpa using hl) h'
    have hk : k < G.length := by rw [h.len]; exact h1
    have hGk : G[k] = false := by rw [List.getD_eq_getElem?_getD, List.getElem?_eq_getElem hk] at g1; exact g1
    rw [List.length_cons, ← ih]
    have e1 : G = G.take k ++ G[k] :: G.drop (k + 1) := by rw [← List.drop_eq_getElem_cons hk, List.take_append_drop]
    have e2 : G.set k true = G.take k ++ true :: G.drop (k + 1) := by rw [List.set_eq_take_append_cons_drop, if_pos hk]
    rw [e2]
    conv => lhs; rw [e1]
    rw [hGk]
    simp [List.countP_append]
    omega
theorem Inv.add {A : List Int} {l l' : List En} {x : En} (h : Inv A (List.replicate A.length false) l) (hn : x.n = A.length) (ht : x.task = A.length) (hp : l'.Perm (l ++ [x])) : Inv (A ++ [x.at_]) (List.replicate (A ++ [x.at_]).length false) l' := by
  have hlt : ∀ y ∈ l, ∃ k : Nat, k < A.length ∧ y.n = k := fun y hy => by
    obtain ⟨k, h1, h2, _⟩ := h.ex y hy; exact ⟨k, h1, h2⟩
  refine ⟨by simp, fun k hk => ⟨fun _ => ?_, fun _ => ?_⟩, fun y hy => ?_, ?_⟩
  · rw [List.length_append, List.length_singleton] at hk
    rcases Nat.lt_or_ge k A.length with hlt' | hge
    · obtain ⟨y, hy, he⟩ := (h.mem k hlt').1 (by rw [List.getD_eq_getElem?_getD, List.getElem?_replicate, if_pos hlt']; rfl)
      exact ⟨y, hp.mem_iff.2 (List.mem_append_left _ hy), he⟩
    · exact ⟨x, hp.mem_iff.2 (List.mem_append_right _ (List.mem_singleton.2 rfl)), by omega⟩
  · rw [List.getD_eq_getElem?_getD, List.getElem?_replicate, if_pos hk]; rfl
  · rcases List.mem_append.1 (hp.mem_iff.1 hy) with hy | hy
    · obtain ⟨k, h1, h2, h3, h4⟩ := h.ex y hy
      refine ⟨k, by simp; omega, h2, h3, ?_⟩
      rw [List.getD_eq_getElem?_getD, List.getElem?_append_left h1, ← List.getD_eq_getElem?_getD]; exact h4
    · simp at hy
      subst hy
      refine ⟨A.length, by simp, hn, ht, ?_⟩
      rw [List.getD_eq_getElem?_getD, List.getElem?_append_right (Nat.le_refl _), Nat.sub_self]; rfl
  · refine (hp.map _).nodup_iff.2 ?_
    rw [List.map_append, List.nodup_append]
    refine ⟨h.ns, by simp, fun a ha b hb => ?_⟩
    simp at hb
    subst hb
    obtain ⟨y, hy, rfl⟩ := List.mem_map.1 ha
    obtain ⟨k, h1, h2⟩ := hlt y hy
    omega
end Go.Proofs.Ytbjipmhdncfodaa.grf
