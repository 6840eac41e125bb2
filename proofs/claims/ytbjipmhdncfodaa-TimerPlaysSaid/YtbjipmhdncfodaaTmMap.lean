/- A timer: its entries by their numbers. -/
import Derived.Test.YtbjipmhdncfodaaTmOps
namespace Go.Proofs.Ytbjipmhdncfodaa.grf
open Go Go.Vx

theorem mapErase {α β : Type} {f : α → β} {l : List α} {j : Nat} : (l.map f).eraseIdx j = (l.eraseIdx j).map f := by
  rw [List.eraseIdx_eq_take_drop_succ, List.eraseIdx_eq_take_drop_succ, List.map_append, List.map_take, List.map_drop]
def keysN (es : List (Int × AV)) : Prop := (es.map (·.1)).Nodup
theorem asg_mem {x : Int} {v : AV} : ∀ {es : List (Int × AV)}, keysN es → (asg x es = some v ↔ (x, v) ∈ es)
  | [], _ => by simp [asg]
  | (y, w) :: es, h => by
    unfold keysN at h
    rw [List.map_cons, List.nodup_cons] at h
    have ih := asg_mem (x := x) (v := v) (es := es) h.2
    by_cases hxy : x = y
    · subst hxy
      simp only [asg, if_true, Option.some.injEq, List.mem_cons, Prod.mk.injEq, true_and]
      constructor
      · exact fun he => .inl he.symm
      · rintro (he | he)
        · exact he.symm
        · exact absurd (List.mem_map.2 ⟨_, he, rfl⟩) h.1
    · simp only [asg, List.mem_cons, Prod.mk.injEq, hxy, false_and, false_or]
      exact ih
/-- the map tells each entry by its number -/
structure MapT (M : AMem) (mb : Nat) (l : List En) : Prop where
  ex : ∃ es, M.get mb = some (.map (ents .i64 es)) ∧ keysN es ∧ ∀ e, e ∈ es ↔ ∃ x ∈ l, e = (x.n, pP x)
  ns : (l.map (·.n)).Nodup
theorem ns_inj {l : List En} (h : (l.map (·.n)).Nodup) {x y : En} (hx : x ∈ l) (hy : y ∈ l) (he : x.n = y.n) : x = y := by
  obtain ⟨i, hi, rfl⟩ := List.mem_iff_getElem.1 hx
  obtain ⟨j, hj, rfl⟩ := List.mem_iff_getElem.1 hy
  have := (List.getElem_inj (h₀ := by rw [List.length_map]; exact hi) (h₁ := by rw [List.length_map]; exact hj) h).1 (by rw [List.getElem_map, List.getElem_map]; exact he)
  subst this; rfl
section
variable {M0 M : AMem} {mb : Nat} {l : List En}
theorem MapT.frame {M' : AMem} {ids : Nat → Prop} (h : MapT M mb l) (hf : Fr M M' ids) (hi : ¬ ids mb) : MapT M' mb l := by
  obtain ⟨es, h1, h2⟩ := h.ex
  exact ⟨⟨es, hf mb _ h1 hi, h2⟩, h.ns⟩
theorem MapT.find (h : MapT M mb l) {x : En} (hx : x ∈ l) : opI (.lookup 0 true (.ptr none)) [.map (some mb), .int .i64 x.n] M = some (.val (.tuple [pP x, .bool true]) M) := by
  obtain ⟨es, h1, h2, h3⟩ := h.ex
  rw [lookup_own h1, (asg_mem h2).2 ((h3 _).2 ⟨x, hx, rfl⟩)]
  rfl
theorem MapT.lost (h : MapT M mb l) {n : Int} (hn : ∀ x ∈ l, x.n ≠ n) : opI (.lookup 0 true (.ptr none)) [.map (some mb), .int .i64 n] M = some (.val (.tuple [.ptr none, .bool false]) M) := by
  obtain ⟨es, h1, h2, h3⟩ := h.ex
  have : asg n es = none := by
    cases ha : asg n es with
    | none => rfl
    | some v =>
      obtain ⟨x, hx, he⟩ := (h3 _).1 ((asg_mem h2).1 ha)
      cases he
      exact absurd rfl (hn x hx)
  rw [lookup_own h1, this]
  rfl
theorem MapT.put (hs : Step M0 M) (hb : M0.n ≤ mb) (h : MapT M mb l) {x : En} (hn : ∀ y ∈ l, y.n ≠ x.n) : ∃ M', opI (.mapUpdate 0) [.map (some mb), .int .i64 x.n, pP x] M = some (.val (.tuple []) M') ∧ Step M0 M' ∧ Fr M M' (· = mb) ∧ M'.n = M.n ∧ MapT M' mb (l ++ [x]) := by
  obtain ⟨es, h1, h2, h3⟩ := h.ex
  have he : M.entries mb = some (ents .i64 es) := by simp only [AMem.entries, h1]
  have hnk : ∀ e ∈ es, e.1 ≠ x.n := fun e hm => by
    obtain ⟨y, hy, rfl⟩ := (h3 e).1 hm
    exact hn y hy
  rcases findK_ents (k := .i64) (x := x.n) (es := es) (i := 0) with ⟨k1, k2⟩ | ⟨j, w, k1, k2, k3, k4, k5⟩
  · refine ⟨M.set mb (.map (ents .i64 (es ++ [(x.n, pP x)]))), ?_, hs.set hb h1 (fun _ _ _ _ he => by cases he), Fr.set h1, rfl, ⟨⟨es ++ [(x.n, pP x)], by rw [get_set_mem h1, if_pos rfl], ?_, fun e => ?_⟩, ?_⟩⟩
    · simp only [opI, updateI, he, k1]
      simp [ents]
    · unfold keysN
      rw [List.map_append, List.nodup_append]
      refine ⟨h2, by simp, fun a ha b hb' => ?_⟩
      simp at hb'
      subst hb'
      obtain ⟨e, hm, rfl⟩ := List.mem_map.1 ha
      exact hnk e hm
    · rw [List.mem_append, List.mem_singleton, h3]
      constructor
      · rintro (⟨y, hy, rfl⟩ | rfl)
        · exact ⟨y, List.mem_append_left _ hy, rfl⟩
        · exact ⟨x, List.mem_append_right _ (List.mem_singleton.2 rfl), rfl⟩
      · rintro ⟨y, hy, rfl⟩
        rcases List.mem_append.1 hy with hy | hy
        · exact .inl ⟨y, hy, rfl⟩
        · simp at hy; subst hy; exact .inr rfl
    · rw [List.map_append, List.nodup_append]
      refine ⟨h.ns, by simp, fun a ha b hb' => ?_⟩
      simp at hb'
      subst hb'
      obtain ⟨y, hy, rfl⟩ := List.mem_map.1 ha
      exact hn y hy
  · exact absurd rfl (hnk _ (List.mem_of_getElem? k4))
theorem MapT.drop (hs : Step M0 M) (hb : M0.n ≤ mb) (h : MapT M mb l) {x : En} {l' : List En} (hp : l.Perm (x :: l')) : ∃ M', opI (.delete 0) [.map (some mb), .int .i64 x.n] M = some (.val (.tuple []) M') ∧ Step M0 M' ∧ Fr M M' (· = mb) ∧ M'.n = M.n ∧ MapT M' mb l' := by
  obtain ⟨es, h1, h2, h3⟩ := h.ex
  have he : M.entries mb = some (ents .i64 es) := by simp only [AMem.entries, h1]
  have hx : x ∈ l := hp.mem_iff.2 (List.mem_cons_self)
  have hns : ((x :: l').map (·.n)).Nodup := (hp.map _).nodup_iff.1 h.ns
  rw [List.map_cons, List.nodup_cons] at hns
  have hmem := (h3 _).2 ⟨x, hx, rfl⟩
  rcases findK_ents (k := .i64) (x := x.n) (es := es) (i := 0) with ⟨k1, k2⟩ | ⟨j, w, k1, k2, k3, k4, k5⟩
  · rw [(asg_mem h2).2 hmem] at k2; cases k2
  · have hkey : ∀ i (hi : i < es.length), (es[i]).1 = x.n → i = j := fun i hi hk => by
      have e2 : es[j] = (x.n, w) := by rw [List.getElem?_eq_getElem k3] at k4; exact Option.some.inj k4
      exact (List.getElem_inj (h₀ := by rw [List.length_map]; exact hi) (h₁ := by rw [List.length_map]; exact k3) h2).1 (by rw [List.getElem_map, List.getElem_map, hk, e2])
    refine ⟨M.set mb (.map (ents .i64 (es.eraseIdx j))), ?_, hs.set hb h1 (fun _ _ _ _ he => by cases he), Fr.set h1, rfl, ⟨⟨es.eraseIdx j, by rw [get_set_mem h1, if_pos rfl], ?_, fun e => ?_⟩, hns.2⟩⟩
    · simp only [opI, deleteI, he, k1, Nat.zero_add]
      simp [ents, mapErase]
    · unfold keysN
      exact h2.sublist ((List.eraseIdx_sublist es j).map _)
    · rw [List.mem_eraseIdx_iff_getElem]
      constructor
      · rintro ⟨i, hi, hij, rfl⟩
        obtain ⟨y, hy, he⟩ := (h3 _).1 (List.getElem_mem hi)
        rcases List.mem_cons.1 (hp.mem_iff.1 hy) with rfl | hy'
        · exact absurd (hkey i hi (by rw [he])) hij
        · exact ⟨y, hy', he⟩
      · rintro ⟨y, hy, rfl⟩
        obtain ⟨i, hi, he⟩ := List.mem_iff_getElem.1 ((h3 _).2 ⟨y, hp.mem_iff.2 (List.mem_cons_of_mem _ hy), rfl⟩)
        refine ⟨i, hi, fun hij => ?_, he⟩
        subst hij
        have e2 : es[i] = (x.n, w) := by rw [List.getElem?_eq_getElem k3] at k4; exact Option.some.inj k4
        rw [e2] at he
        have : x.n = y.n := congrArg Prod.fst he
        exact hns.1 (List.mem_map.2 ⟨y, hy, this.symm⟩)
end
end Go.Proofs.Ytbjipmhdncfodaa.grf
