/- Each job ahead of its kids: the plain part. -/
import Derived.Test.YtmaldkpkodcggaaGrSt
namespace Go.Proofs.Ytmaldkpkodcggaa.grf
open Go Go.Vx

/-- how often a job is a kid of the first m that are not out -/
def Wn (js : List Jb) (out : List Int) : Nat → Int → Nat
  | 0, _ => 0
  | m + 1, k => Wn js out m k + if (m : Int) ∈ out then 0 else (jb js m).kids.count k
theorem Wn_out {js : List Jb} {out : List Int} {i : Nat} (hi : (i : Int) ∉ out) : ∀ {m : Nat} {k : Int}, i < m → Wn js (out ++ [(i : Int)]) m k + (jb js i).kids.count k = Wn js out m k
  | m + 1, k, hm => by
    unfold Wn
    by_cases h : i = m
    · subst h
      have : ∀ m, m ≤ i → Wn js (out ++ [(i : Int)]) m k = Wn js out m k := by
        intro m
        induction m with
        | zero => intro _; rfl
        | succ m ih =>
          intro hmi
          unfold Wn
          rw [ih (by omega)]
          have : ((m : Int) ∈ out ++ [(i : Int)]) ↔ (m : Int) ∈ out := by
            rw [List.mem_append, List.mem_singleton]
            constructor
            · rintro (h | h)
              · exact h
              · omega
            · exact .inl
          simp only [this]
      rw [this i (Nat.le_refl _), if_pos (by simp), if_neg hi]
      omega
    · have ih := Wn_out (js := js) hi (m := m) (k := k) (by omega)
      have : ((m : Int) ∈ out ++ [(i : Int)]) ↔ (m : Int) ∈ out := by
        rw [List.mem_append, List.mem_singleton]
        constructor
        · rintro (h | h)
          · exact h
          · omega
        · exact .inl
      simp only [this]
      omega
theorem Wn_zero {js : List Jb} {out : List Int} {k : Int} : ∀ {m : Nat}, Wn js out m k = 0 → ∀ i, i < m → (i : Int) ∉ out → k ∉ (jb js i).kids
  | m + 1, h, i, hi, ho => by
    unfold Wn at h
    by_cases hm : i = m
    · subst hm
      rw [if_neg ho] at h
      exact List.count_eq_zero.1 (by omega)
    · exact Wn_zero (m := m) (by omega) i (by omega) ho
theorem Wn_pos {js : List Jb} {out : List Int} {k : Int} : ∀ {m : Nat}, Wn js out m k ≠ 0 → ∃ i, i < m ∧ (i : Int) ∉ out ∧ k ∈ (jb js i).kids
  | 0, h => by simp [Wn] at h
  | m + 1, h => by
    unfold Wn at h
    by_cases h1 : Wn js out m k = 0
    · by_cases ho : (m : Int) ∈ out
      · rw [if_pos ho] at h; omega
      · rw [if_neg ho] at h
        exact ⟨m, by omega, ho, List.count_pos_iff.1 (by omega)⟩
    · obtain ⟨i, h2, h3, h4⟩ := Wn_pos h1
      exact ⟨i, by omega, h3, h4⟩
theorem Wn_le {js : List Jb} {out : List Int} {k : Int} {B : Nat} : ∀ {m : Nat}, (∀ i, i < m → (jb js i).kids.length ≤ B) → Wn js out m k ≤ m * B
  | 0, _ => by simp [Wn]
  | m + 1, h => by
    unfold Wn
    have h1 := Wn_le (out := out) (k := k) (m := m) (fun i hi => h i (by omega))
    have h2 := h m (by omega)
    have h3 := List.count_le_length (a := k) (l := (jb js m).kids)
    rw [Nat.succ_mul]
    split <;> omega
/-- numbers in a range, none twice, are no more than the range -/
theorem nodup_le : ∀ (n : Nat) {l : List Int}, l.Nodup → (∀ x ∈ l, 0 ≤ x ∧ x < n) → l.length ≤ n
  | 0, l, _, h => by
    cases l with
    | nil => simp
    | cons x l => have := h x List.mem_cons_self; omega
  | n + 1, l, hn, h => by
    have h1 := nodup_le n (l := l.erase (n : Int)) (hn.erase _) fun x hx => by
      have hx' := (hn.mem_erase_iff).1 hx
      have := h x hx'.2
      omega
    by_cases hm : (n : Int) ∈ l
    · rw [List.length_erase_of_mem hm] at h1; omega
    · rw [List.erase_of_not_mem hm] at h1; omega
/-- What came out, when none waits alone. -/
structure Done (js : List Jb) (out : List Int) : Prop where
  nodup : out.Nodup
  rng : ∀ x ∈ out, 0 ≤ x ∧ x < js.length
  topo : ∀ p, p < out.length → ∀ i, i < js.length → out.getD p 0 ∈ (jb js i).kids → (i : Int) ∈ out.take p
  stuck : ∀ k : Nat, k < js.length → (k : Int) ∉ out → ∃ i, i < js.length ∧ (i : Int) ∉ out ∧ (k : Int) ∈ (jb js i).kids
/-- while it goes on -/
structure Going (js : List Jb) (ws l out : List Int) : Prop where
  nodup : out.Nodup
  rng : ∀ x ∈ out, 0 ≤ x ∧ x < js.length
  topo : ∀ p, p < out.length → ∀ i, i < js.length → out.getD p 0 ∈ (jb js i).kids → (i : Int) ∈ out.take p
  lnd : l.Nodup
  wl : ws.length = js.length
  w : ∀ k : Nat, k < js.length → ws.getD k 0 = (Wn js out js.length k : Int)
  mem : ∀ x, x ∈ l ↔ ∃ k : Nat, x = k ∧ k < js.length ∧ (k : Int) ∉ out ∧ Wn js out js.length k = 0
  oz : ∀ x ∈ out, Wn js out js.length x = 0
/-- within a round: a job is out, some of its kids are through -/
structure Round (js : List Jb) (ws l out : List Int) (i q : Nat) : Prop where
  nodup : (out ++ [(i : Int)]).Nodup
  rng : ∀ x ∈ out ++ [(i : Int)], 0 ≤ x ∧ x < js.length
  topo : ∀ p, p < (out ++ [(i : Int)]).length → ∀ m, m < js.length → (out ++ [(i : Int)]).getD p 0 ∈ (jb js m).kids → (m : Int) ∈ (out ++ [(i : Int)]).take p
  lnd : l.Nodup
  wl : ws.length = js.length
  w : ∀ k : Nat, k < js.length → ws.getD k 0 = ((Wn js (out ++ [(i : Int)]) js.length k + ((jb js i).kids.drop q).count (k : Int) : Nat) : Int)
  mem : ∀ x, x ∈ l ↔ ∃ k : Nat, x = k ∧ k < js.length ∧ (k : Int) ∉ out ++ [(i : Int)] ∧ ws.getD k 0 = 0
  oz : ∀ x ∈ out ++ [(i : Int)], Wn js (out ++ [(i : Int)]) js.length x = 0 ∧ x ∉ (jb js i).kids
theorem getD_snoc {α : Type} {d x : α} {l : List α} {p : Nat} : (l ++ [x]).getD p d = if p < l.length then l.getD p d else if p = l.length then x else d := by
  rw [List.getD_eq_getElem?_getD, List.getD_eq_getElem?_getD]
  split
  · rename_i h; rw [List.getElem?_append_left h]
  · rename_i h
    rw [List.getElem?_append_right (by omega)]
    split
    · rename_i h2; subst h2; simp
    · rw [List.getElem?_eq_none (by simp; omega)]; rfl
theorem Going.pop {js : List Jb} {ws l l' out : List Int} (h : Going js ws l out) {x : Int} (hp : l.Perm (x :: l')) : ∃ i : Nat, x = i ∧ i < js.length ∧ (i : Int) ∉ out ∧ Round js ws l' out i 0 := by
  obtain ⟨i, hx, hi, hio, hw⟩ := (h.mem x).1 (hp.mem_iff.2 List.mem_cons_self)
  have hnd := hp.nodup_iff.1 h.lnd
  rw [List.nodup_cons] at hnd
  have hW : ∀ k, Wn js (out ++ [(i : Int)]) js.length k + (jb js i).kids.count k = Wn js out js.length k := fun k => Wn_out hio hi
  refine ⟨i, hx, hi, hio, ?_, ?_, ?_, hnd.2, h.wl, ?_, ?_, ?_⟩
  · rw [List.nodup_append]
    exact ⟨h.nodup, by simp, fun a ha b hb => by simp at hb; subst hb; exact fun he => hio (he ▸ ha)⟩
  · intro y hy
    rcases List.mem_append.1 hy with hy | hy
    · exact h.rng y hy
    · simp at hy; omega
  · intro p hp' m hm hk
    rw [List.length_append, List.length_singleton] at hp'
    rw [getD_snoc] at hk
    by_cases hpl : p < out.length
    · rw [if_pos hpl] at hk
      rw [List.take_append_of_le_length (by omega)]
      exact h.topo p hpl m hm hk
    · obtain rfl : p = out.length := by omega
      rw [if_neg (by omega), if_pos rfl] at hk
      rw [List.take_append_of_le_length (by omega), List.take_of_length_le (Nat.le_refl _)]
      exact Decidable.byContradiction fun hc => Wn_zero hw m hm hc hk
  · intro k hk
    rw [h.w k hk, List.drop_zero]
    rw [hW k]
  · intro y
    constructor
    · intro hy
      obtain ⟨k, e, hk, hko, hwk⟩ := (h.mem y).1 (hp.mem_iff.2 (List.mem_cons_of_mem _ hy))
      refine ⟨k, e, hk, ?_, by rw [h.w k hk, hwk]; rfl⟩
      rw [List.mem_append, List.mem_singleton]
      rintro (h1 | h1)
      · exact hko h1
      · exact hnd.1 (by rw [hx, ← h1, ← e]; exact hy)
    · rintro ⟨k, e, hk, hko, hwk⟩
      rw [List.mem_append, List.mem_singleton] at hko
      have hy : y ∈ l := (h.mem y).2 ⟨k, e, hk, fun h1 => hko (.inl h1), by have := h.w k hk; omega⟩
      rcases List.mem_cons.1 (hp.mem_iff.1 hy) with h1 | h1
      · exact absurd (show (k : Int) = i by omega) (fun h2 => hko (.inr h2))
      · exact h1
  · intro y hy
    have hz : Wn js out js.length y = 0 := by
      rcases List.mem_append.1 hy with hy | hy
      · exact h.oz y hy
      · simp at hy; subst hy; exact hw
    have := hW y
    exact ⟨by omega, List.count_eq_zero.1 (by omega)⟩
theorem Round.done {js : List Jb} {ws l out : List Int} {i : Nat} (h : Round js ws l out i (jb js i).kids.length) : Going js ws l (out ++ [(i : Int)]) := by
  have hw : ∀ k : Nat, k < js.length → ws.getD k 0 = (Wn js (out ++ [(i : Int)]) js.length k : Int) := fun k hk => by
    rw [h.w k hk, List.drop_of_length_le (Nat.le_refl _)]; simp
  refine ⟨h.nodup, h.rng, h.topo, h.lnd, h.wl, hw, fun x => ?_, fun x hx => (h.oz x hx).1⟩
  rw [h.mem x]
  constructor
  · rintro ⟨k, e, hk, h1, h2⟩
    exact ⟨k, e, hk, h1, by have := hw k hk; omega⟩
  · rintro ⟨k, e, hk, h1, h2⟩
    exact ⟨k, e, hk, h1, by rw [hw k hk, h2]; rfl⟩
/-- one kid -/
theorem Round.kid {js : List Jb} {ws l out : List Int} {i q : Nat} (h : Round js ws l out i q) (hq : q < (jb js i).kids.length) {k : Nat} (hk : k < js.length) (he : (jb js i).kids.getD q 0 = k) :
    0 < ws.getD k 0 ∧ ((ws.getD k 0 - 1 ≠ 0 → Round js (ws.set k (ws.getD k 0 - 1)) l out i (q + 1)) ∧ (ws.getD k 0 - 1 = 0 → ∀ l', l'.Perm (l ++ [(k : Int)]) → Round js (ws.set k (ws.getD k 0 - 1)) l' out i (q + 1))) := by
  have hdrop : (jb js i).kids.drop q = (k : Int) :: (jb js i).kids.drop (q + 1) := by
    rw [List.drop_eq_getElem_cons hq]
    congr 1
    rw [← he, List.getD_eq_getElem?_getD, List.getElem?_eq_getElem hq]; rfl
  have hwk := h.w k hk
  rw [hdrop, List.count_cons_self] at hwk
  have hpos : 0 < ws.getD k 0 := by omega
  have hmem : (k : Int) ∈ (jb js i).kids := by
    have : (k : Int) ∈ (jb js i).kids.drop q := by rw [hdrop]; exact List.mem_cons_self
    exact List.mem_of_mem_drop this
  have hko : (k : Int) ∉ out ++ [(i : Int)] := fun hc => (h.oz _ hc).2 hmem
  have hkl : (k : Int) ∉ l := fun hc => by
    obtain ⟨k', e, _, _, h0⟩ := (h.mem _).1 hc
    have : k = k' := by omega
    subst this; omega
  have hget : ∀ m : Nat, (ws.set k (ws.getD k 0 - 1)).getD m 0 = if k = m then ws.getD k 0 - 1 else ws.getD m 0 := fun m => getD_set' (by rw [h.wl]; exact hk)
  have hw' : ∀ m : Nat, m < js.length → (ws.set k (ws.getD k 0 - 1)).getD m 0 = ((Wn js (out ++ [(i : Int)]) js.length m + ((jb js i).kids.drop (q + 1)).count (m : Int) : Nat) : Int) := fun m hm => by
    rw [hget]
    by_cases hkm : k = m
    · subst hkm; rw [if_pos rfl]; omega
    · rw [if_neg hkm, h.w m hm, hdrop, List.count_cons_of_ne (by omega)]
  refine ⟨hpos, fun hnz => ⟨h.nodup, h.rng, h.topo, h.lnd, by rw [List.length_set]; exact h.wl, hw', fun x => ?_, h.oz⟩, fun hz l' hp => ⟨h.nodup, h.rng, h.topo, ?_, by rw [List.length_set]; exact h.wl, hw', fun x => ?_, h.oz⟩⟩
  · rw [h.mem x]
    constructor
    · rintro ⟨m, e, hm, h1, h2⟩
      refine ⟨m, e, hm, h1, ?_⟩
      rw [hget, if_neg (fun hkm => by subst hkm; omega)]; exact h2
    · rintro ⟨m, e, hm, h1, h2⟩
      rw [hget] at h2
      split at h2
      · exact absurd h2 hnz
      · exact ⟨m, e, hm, h1, h2⟩
  · rw [hp.nodup_iff, List.nodup_append]
    exact ⟨h.lnd, by simp, fun a ha b hb => by simp at hb; subst hb; exact fun he => hkl (he ▸ ha)⟩
  · rw [hp.mem_iff, List.mem_append, List.mem_singleton, h.mem x]
    constructor
    · rintro (⟨m, e, hm, h1, h2⟩ | hx)
      · refine ⟨m, e, hm, h1, ?_⟩
        rw [hget, if_neg (fun hkm => by subst hkm; omega)]; exact h2
      · refine ⟨k, hx, hk, hko, ?_⟩
        rw [hget, if_pos rfl]; exact hz
    · rintro ⟨m, e, hm, h1, h2⟩
      by_cases hkm : k = m
      · subst hkm; exact .inr e
      · rw [hget, if_neg hkm] at h2
        exact .inl ⟨m, e, hm, h1, h2⟩
theorem Going.done {js : List Jb} {ws out : List Int} (h : Going js ws [] out) : Done js out := by
  refine ⟨h.nodup, h.rng, h.topo, fun k hk ho => ?_⟩
  by_cases hz : Wn js out js.length k = 0
  · have := (h.mem k).2 ⟨k, rfl, hk, ho, hz⟩
    simp at this
  · obtain ⟨i, h1, h2, h3⟩ := Wn_pos hz
    exact ⟨i, h1, h2, h3⟩
end Go.Proofs.Ytmaldkpkodcggaa.grf
