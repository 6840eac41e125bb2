/- What holds between two acts: the timer, the document's, and that they are alike. -/
import Derived.Test.YtbjipmhdncfodaaTpEven
namespace Go.Proofs.Ytbjipmhdncfodaa.grf
open Go Go.Vx
theorem Like.nodup {l D : List En} (h : Like l D) : (D.map (·.n)).Nodup := (h.perm.map _).nodup_iff.1 h.ns
theorem Like.add {l l' D : List En} {x : En} (h : Like l D) (hp : l'.Perm (l ++ [x])) (hn : ∀ y ∈ l, y.n < x.n) : Like l' (D.take (lead x.at_ D) ++ [x] ++ D.drop (lead x.at_ D)) := by
  have hll := lead_le x.at_ D
  have hlt : ∀ y ∈ D, y.n < x.n := fun y hy => hn y (h.perm.mem_iff.2 hy)
  refine ⟨?_, ?_, ?_⟩
  · refine hp.trans ((h.perm.append_right [x]).trans ?_)
    have e : D = D.take (lead x.at_ D) ++ D.drop (lead x.at_ D) := (List.take_append_drop _ D).symm
    conv => lhs; rw [e]
    rw [List.append_assoc, List.append_assoc]
    exact List.Perm.append_left _ List.perm_append_comm
  · have hD := h.ord
    have htake : ∀ y ∈ D.take (lead x.at_ D), y.at_ ≤ x.at_ := fun y hy => by
      obtain ⟨i, hi, rfl⟩ := List.mem_iff_getElem.1 hy
      rw [List.length_take] at hi
      obtain ⟨_, h'⟩ := lead_get x.at_ D i (by omega)
      rw [List.getElem_take]; exact h'
    have hdrop : ∀ y ∈ D.drop (lead x.at_ D), x.at_ < y.at_ := fun y hy => by
      obtain ⟨i, hi, rfl⟩ := List.mem_iff_getElem.1 hy
      rw [List.length_drop] at hi
      rw [List.getElem_drop]
      have h1 := lead_stop x.at_ D (by omega)
      rcases Nat.eq_zero_or_pos i with rfl | hpos
      · simpa using h1
      · have := List.pairwise_iff_getElem.1 hD (lead x.at_ D) (lead x.at_ D + i) (by omega) (by omega) (by omega)
        simp only [ltE, decide_eq_false_iff_not] at this
        omega
    rw [List.pairwise_append, List.pairwise_append]
    refine ⟨⟨hD.sublist (List.take_sublist _ _), List.pairwise_singleton _ _, fun a ha b hb => ?_⟩, hD.sublist (List.drop_sublist _ _), fun a ha b hb => ?_⟩
    · simp at hb
      subst hb
      have h1 := htake a ha
      have h2 := hlt a (List.mem_of_mem_take ha)
      simp only [ltE, decide_eq_false_iff_not]
      omega
    · rcases List.mem_append.1 ha with ha | ha
      · have e : D = D.take (lead x.at_ D) ++ D.drop (lead x.at_ D) := (List.take_append_drop _ D).symm
        rw [e] at hD
        exact (List.pairwise_append.1 hD).2.2 a ha b hb
      · simp at ha
        subst ha
        have := hdrop b hb
        simp only [ltE, decide_eq_false_iff_not]
        omega
  · refine (hp.map _).nodup_iff.2 ?_
    rw [List.map_append, List.nodup_append]
    refine ⟨h.ns, by simp, fun a ha b hb => ?_⟩
    simp at hb
    subst hb
    obtain ⟨y, hy, rfl⟩ := List.mem_map.1 ha
    have := hn y hy
    omega
theorem Like.drop {l l' D : List En} {x : En} {i : Nat} (h : Like l D) (hp : l.Perm (x :: l')) (hi : i < D.length) (hn : (D.getD i dEn).n = x.n) : Like l' (D.take i ++ D.drop (i + 1)) := by
  have hx : x ∈ l := hp.mem_iff.2 List.mem_cons_self
  have hDi : D[i] = x := by
    refine ns_inj h.ns (h.perm.mem_iff.2 (List.getElem_mem hi)) hx ?_
    rw [← getD_get hi]; exact hn
  have e : D.Perm (x :: (D.take i ++ D.drop (i + 1))) := by
    have : D = D.take i ++ (D[i] :: D.drop (i + 1)) := by rw [List.getElem_cons_drop]; exact (List.take_append_drop i D).symm
    conv => lhs; rw [this]
    rw [hDi]
    exact List.perm_middle
  have hsub : (D.take i ++ D.drop (i + 1)).Sublist D := by
    have : D = D.take i ++ (D[i] :: D.drop (i + 1)) := by rw [List.getElem_cons_drop]; exact (List.take_append_drop i D).symm
    conv => rhs; rw [this]
    exact List.Sublist.append_left (List.sublist_cons_self _ _) _
  have hns : ((x :: l').map (·.n)).Nodup := (hp.map _).nodup_iff.1 h.ns
  rw [List.map_cons, List.nodup_cons] at hns
  exact ⟨List.Perm.cons_inv ((hp.symm.trans h.perm).trans e), h.ord.sublist hsub, hns.2⟩
theorem Like.due {l l' out D : List En} {z : Int} (h : Like l D) (hp : l.Perm (out ++ l')) (ho : out.Pairwise (fun a b => ltE b a = false)) (hle : ∀ y ∈ out, y.at_ ≤ z) (hgt : ∀ y ∈ l', z < y.at_) : out = D.take (lead z D) ∧ Like l' (D.drop (lead z D)) := by
  have hll := lead_le z D
  have hD := h.ord
  have htake : ∀ y ∈ D.take (lead z D), y.at_ ≤ z := fun y hy => by
    obtain ⟨i, hi, rfl⟩ := List.mem_iff_getElem.1 hy
    rw [List.length_take] at hi
    obtain ⟨_, h'⟩ := lead_get z D i (by omega)
    rw [List.getElem_take]; exact h'
  have hdrop : ∀ y ∈ D.drop (lead z D), z < y.at_ := fun y hy => by
    obtain ⟨i, hi, rfl⟩ := List.mem_iff_getElem.1 hy
    rw [List.length_drop] at hi
    rw [List.getElem_drop]
    have h1 := lead_stop z D (by omega)
    rcases Nat.eq_zero_or_pos i with rfl | hpos
    · simpa using h1
    · have := List.pairwise_iff_getElem.1 hD (lead z D) (lead z D + i) (by omega) (by omega) (by omega)
      simp only [ltE, decide_eq_false_iff_not] at this
      omega
  have e : D = D.take (lead z D) ++ D.drop (lead z D) := (List.take_append_drop _ D).symm
  have hp2 : (out ++ l').Perm (D.take (lead z D) ++ D.drop (lead z D)) := by rw [← e]; exact hp.symm.trans h.perm
  have f1 := hp2.filter (fun y => decide (y.at_ ≤ z))
  have f2 := hp2.filter (fun y => decide (z < y.at_))
  rw [List.filter_append, List.filter_append] at f1 f2
  have a1 : out.filter (fun y => decide (y.at_ ≤ z)) = out := List.filter_eq_self.2 fun y hy => decide_eq_true (hle y hy)
  have a2 : l'.filter (fun y => decide (y.at_ ≤ z)) = [] := List.filter_eq_nil_iff.2 fun y hy => by have := hgt y hy; simp; omega
  have a3 : (D.take (lead z D)).filter (fun y => decide (y.at_ ≤ z)) = D.take (lead z D) := List.filter_eq_self.2 fun y hy => decide_eq_true (htake y hy)
  have a4 : (D.drop (lead z D)).filter (fun y => decide (y.at_ ≤ z)) = [] := List.filter_eq_nil_iff.2 fun y hy => by have := hdrop y hy; simp; omega
  have b1 : out.filter (fun y => decide (z < y.at_)) = [] := List.filter_eq_nil_iff.2 fun y hy => by have := hle y hy; simp; omega
  have b2 : l'.filter (fun y => decide (z < y.at_)) = l' := List.filter_eq_self.2 fun y hy => decide_eq_true (hgt y hy)
  have b3 : (D.take (lead z D)).filter (fun y => decide (z < y.at_)) = [] := List.filter_eq_nil_iff.2 fun y hy => by have := htake y hy; simp; omega
  have b4 : (D.drop (lead z D)).filter (fun y => decide (z < y.at_)) = D.drop (lead z D) := List.filter_eq_self.2 fun y hy => decide_eq_true (hdrop y hy)
  rw [a1, a2, a3, a4, List.append_nil, List.append_nil] at f1
  rw [b1, b2, b3, b4, List.nil_append, List.nil_append] at f2
  have hns : ((out ++ l').map (·.n)).Nodup := (hp.map _).nodup_iff.1 h.ns
  rw [List.map_append, List.nodup_append] at hns
  exact ⟨sorted_eq f1 hns.1 ho (hD.sublist (List.take_sublist _ _)), f2, hD.sublist (List.drop_sublist _ _), hns.2.1⟩

/-- the document's row, apart from the timer's own blocks and from m4 -/
def RowL (M : AMem) (J : Nat → Prop) (m4 : Nat) (w : AV) (D : List En) : Prop := (∃ δ, ¬ J δ ∧ δ ≠ m4 ∧ δ < M.n ∧ RowN M 3 δ w (D.map eD)) ∨ (w = .slice none 0 0 false ∧ D = [])
section
variable {M0 M M' : AMem} {J J' : Nat → Prop} {tb mb m4 : Nat} {w : AV} {D : List En}
theorem RowL.any (h : RowL M J m4 w D) : ∃ δ, RowN M 3 δ w (D.map eD) ∧ ((¬ J δ ∧ δ ≠ m4 ∧ δ < M.n) ∨ (w = .slice none 0 0 false ∧ D = [])) := by
  rcases h with ⟨δ, h1, h2, h3, h4⟩ | ⟨rfl, rfl⟩
  · exact ⟨δ, h4, .inl ⟨h1, h2, h3⟩⟩
  · exact ⟨0, ⟨fun e he => by simp at he, rfl, .inl ⟨rfl, rfl⟩⟩, .inr ⟨rfl, rfl⟩⟩
theorem RowL.frame {ids : Nat → Prop} (h : RowL M J m4 w D) (hf : Fr M M' ids) (hi : ∀ δ, ¬ J δ → δ ≠ m4 → ¬ ids δ) (hn : M.n ≤ M'.n) (hJ : ∀ i, J' i → J i ∨ M.n ≤ i) : RowL M' J' m4 w D := by
  rcases h with ⟨δ, h1, h2, h3, h4⟩ | h
  · refine .inl ⟨δ, fun hj => ?_, h2, by omega, h4.frame hf (hi δ h1 h2) hn⟩
    rcases hJ δ hj with hj | hj
    · exact h1 hj
    · omega
  · exact .inr h
theorem RowL.grow (h : RowL M J m4 w D) (hok : Ok M) (hg : Grow M M') : RowL M' J m4 w D :=
  h.frame (ids := fun _ => False) (Fr.grow hok hg) (fun _ _ _ hh => hh) hg.n (fun _ hj => .inl hj)
theorem RowL.own (ho : OwnE M M' 3 w (D.map eD)) (hok : Okg M') (hJ : ∀ i, J i → i < M.n) (hm : m4 < M.n) : RowL M' J m4 w D := by
  obtain ⟨δ, h1, h2, h3⟩ := OwnE.rowN ho hok
  exact .inl ⟨δ, fun hj => by have := hJ δ hj; omega, by omega, h2, h3⟩
/-- What holds between two acts. -/
def LI (M0 M : AMem) (tb mb m4 cnt : Nat) : Prop := ∃ (l D : List En) (J : Nat → Prop) (w : AV) (nn now : Int), TS M0 M J tb mb l nn now ∧ M0.n ≤ m4 ∧ M.get m4 = some (.cells (tA w nn now) 0 true none) ∧ ¬ J m4 ∧ RowL M J m4 w D ∧ Like l D ∧ l.length ≤ cnt ∧ 0 ≤ nn ∧ nn ≤ cnt
/-- The document's answer is laid into a block that may have been made early, and from there into its variable. -/
theorem tell3 {B M2 : AMem} (hB : Okg B) (s2 : Step (B.push .held) M2) (nn now : Int) (hw : w.one = true) : ∃ M4,
    fillI (.new [.slice none 0 0 false, .int .i64 0, .int .i64 0]) [] B.n M2 = some (.ptr (some (B.n, 0)), M2.set B.n (.cells [.slice none 0 0 false, .int .i64 0, .int .i64 0] 0 true none)) ∧
    opI (.store 3) [.ptr (some (B.n, 0)), .agg (tA w nn now)] (M2.set B.n (.cells [.slice none 0 0 false, .int .i64 0, .int .i64 0] 0 true none)) = some (.val (.tuple []) M4) ∧
    Step B M4 ∧ M4.get B.n = some (.cells (tA w nn now) 0 true none) ∧ (∀ c, c ≠ B.n → M4.get c = M2.get c) ∧ M4.n = M2.n ∧ isHeld ((B.push .held).get B.n) = true ∧ isHeld (M2.get B.n) = true ∧ isHeld ((M2.set B.n (.cells [.slice none 0 0 false, .int .i64 0, .int .i64 0] 0 true none)).get B.n) = false := by
  have gn0 : (B.push .held).get B.n = some .held := get_push_self hB.1
  have g2 : M2.get B.n = some .held := (s2.grow.get _ (by rw [push_n]; omega)).trans gn0
  have s3 := Step.fill hB s2 [.slice none 0 0 false, .int .i64 0, .int .i64 0]
  have g3 : (M2.set B.n (.cells [.slice none 0 0 false, .int .i64 0, .int .i64 0] 0 true none)).get B.n = some (.cells [.slice none 0 0 false, .int .i64 0, .int .i64 0] 0 true none) := by rw [get_set_mem g2, if_pos rfl]
  obtain ⟨e4, s4, g4, k4⟩ := store_all (n := 3) (new := tA w nn now) s3 (Nat.le_refl _) g3 rfl rfl (by simp only [List.all_cons, hw]; rfl)
  refine ⟨_, ?_, e4, s4, g4, fun c hc => ?_, rfl, by rw [gn0]; rfl, by rw [g2]; rfl, by rw [g3]; rfl⟩
  · unfold fillI
    rw [g2]; rfl
  · rw [k4 c hc, get_set_mem g2, if_neg hc]
end
end Go.Proofs.Ytbjipmhdncfodaa.grf
