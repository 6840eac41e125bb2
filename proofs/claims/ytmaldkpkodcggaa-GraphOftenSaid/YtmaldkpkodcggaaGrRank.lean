/- Ranks: the plain law. -/
import Derived.Test.YtmaldkpkodcggaaGrOrder
namespace Go.Proofs.Ytmaldkpkodcggaa.grf
open Go Go.Vx

/-! the program's way: in the order's reverse -/
def relax (i : Nat) (r : List Int) (k : Int) : List Int := r.set i (max (r.getD i 0) (r.getD k.toNat 0 + 1))
def rankS (js : List Jb) (out : List Int) : Nat → List Int
  | 0 => List.replicate js.length 0
  | j + 1 => (jb js (out.getD (out.length - 1 - j) 0).toNat).kids.foldl (relax (out.getD (out.length - 1 - j) 0).toNat) (rankS js out j)
/-! the document's way: by rounds -/
def stepK (i : Nat) (st : List Int × Bool) (k : Int) : List Int × Bool := if st.1.getD k.toNat 0 + 1 > st.1.getD i 0 then (st.1.set i (st.1.getD k.toNat 0 + 1), true) else st
def stepI (js : List Jb) (st : List Int × Bool) (i : Nat) : List Int × Bool := (jb js i).kids.foldl (stepK i) st
def roundP (js : List Jb) (xs : List Int) : List Int × Bool := (List.range js.length).foldl (stepI js) (xs, false)
def ranksP (js : List Jb) : Nat → List Int → Option (List Int)
  | 0, _ => none
  | f + 1, xs => if (roundP js xs).2 then ranksP js f (roundP js xs).1 else some (roundP js xs).1

/-- what ranks are -/
structure IsRank (js : List Jb) (r : List Int) : Prop where
  len : r.length = js.length
  ge : ∀ i, i < js.length → ∀ k ∈ (jb js i).kids, r.getD k.toNat 0 + 1 ≤ r.getD i 0
  eq : ∀ i, i < js.length → r.getD i 0 = 0 ∨ ∃ k ∈ (jb js i).kids, r.getD i 0 = r.getD k.toNat 0 + 1
theorem kids_rng {js : List Jb} (hR : RightP js) {i : Nat} (hi : i < js.length) {k : Int} (hk : k ∈ (jb js i).kids) : 0 ≤ k ∧ k.toNat < js.length := by
  obtain ⟨q, hq, rfl⟩ := List.mem_iff_getElem.1 hk
  have := (hR.2 i hi).2 q hq
  unfold kid at this
  rw [List.getD_eq_getElem?_getD, List.getElem?_eq_getElem hq] at this
  simp only [Option.getD_some] at this
  omega
theorem relax_len {i : Nat} : ∀ {ks : List Int} {r : List Int}, (ks.foldl (relax i) r).length = r.length
  | [], _ => rfl
  | k :: ks, r => by rw [List.foldl_cons, relax_len]; simp [relax]
theorem rankS_len {js : List Jb} {out : List Int} : ∀ {j : Nat}, (rankS js out j).length = js.length
  | 0 => by simp [rankS]
  | j + 1 => by unfold rankS; rw [relax_len, rankS_len]
/-- the kids of one job, laid in -/
theorem relax_spec {i : Nat} {r0 : List Int} (hi : i < r0.length) : ∀ {ks : List Int} {r : List Int}, r.length = r0.length → (∀ k ∈ ks, k.toNat ≠ i) → (∀ m, m ≠ i → r.getD m 0 = r0.getD m 0) →
    (∀ m, m ≠ i → (ks.foldl (relax i) r).getD m 0 = r0.getD m 0) ∧ r.getD i 0 ≤ (ks.foldl (relax i) r).getD i 0 ∧ (∀ k ∈ ks, r0.getD k.toNat 0 + 1 ≤ (ks.foldl (relax i) r).getD i 0) ∧ ((ks.foldl (relax i) r).getD i 0 = r.getD i 0 ∨ ∃ k ∈ ks, (ks.foldl (relax i) r).getD i 0 = r0.getD k.toNat 0 + 1)
  | [], r, _, _, hm => ⟨hm, Int.le_refl _, fun k hk => by simp at hk, .inl rfl⟩
  | k :: ks, r, hl, hk, hm => by
    have hki : k.toNat ≠ i := hk k List.mem_cons_self
    have hr : (relax i r k).getD i 0 = max (r.getD i 0) (r0.getD k.toNat 0 + 1) := by
      unfold relax
      rw [getD_set' (by omega), if_pos rfl, hm _ hki]
    have hr2 : ∀ m, m ≠ i → (relax i r k).getD m 0 = r0.getD m 0 := fun m hne => by
      unfold relax
      rw [getD_set' (by omega), if_neg (fun h => hne h.symm), hm m hne]
    obtain ⟨h1, h2, h3, h4⟩ := relax_spec hi (ks := ks) (r := relax i r k) (by simp [relax, hl]) (fun x hx => hk x (List.mem_cons_of_mem _ hx)) hr2
    rw [List.foldl_cons]
    refine ⟨h1, by omega, fun x hx => ?_, ?_⟩
    · rcases List.mem_cons.1 hx with rfl | hx
      · omega
      · exact h3 x hx
    · rcases h4 with h4 | ⟨x, hx, h4⟩
      · rw [hr] at h4
        by_cases hle : r0.getD k.toNat 0 + 1 ≤ r.getD i 0
        · left; rw [h4]; omega
        · right; exact ⟨k, List.mem_cons_self, by rw [h4]; omega⟩
      · exact .inr ⟨x, List.mem_cons_of_mem _ hx, h4⟩
theorem getD_mem {out : List Int} {p : Nat} (hp : p < out.length) : out.getD p 0 ∈ out := by
  rw [List.getD_eq_getElem?_getD, List.getElem?_eq_getElem hp]; exact List.getElem_mem hp
theorem nodup_getD {out : List Int} (h : out.Nodup) {p q : Nat} (hp : p < out.length) (hq : q < out.length) (he : out.getD p 0 = out.getD q 0) : p = q := by
  rw [List.getD_eq_getElem?_getD, List.getElem?_eq_getElem hp, List.getD_eq_getElem?_getD, List.getElem?_eq_getElem hq] at he
  exact (List.getElem_inj h).1 he
/-- all are out -/
theorem all_out {js : List Jb} {out : List Int} (h : Done js out) (hl : out.length = js.length) {k : Nat} (hk : k < js.length) : ∃ p, p < out.length ∧ out.getD p 0 = (k : Int) := by
  have hm : (k : Int) ∈ out := by
    refine Decidable.byContradiction fun hc => ?_
    have h1 := nodup_le js.length (l := (k : Int) :: out) (List.nodup_cons.2 ⟨hc, h.nodup⟩) fun x hx => by
      rcases List.mem_cons.1 hx with rfl | hx
      · omega
      · exact h.rng x hx
    simp at h1; omega
  obtain ⟨p, hp, he⟩ := List.mem_iff_getElem.1 hm
  exact ⟨p, hp, by rw [List.getD_eq_getElem?_getD, List.getElem?_eq_getElem hp]; exact he⟩
/-- a kid stands behind -/
theorem kid_behind {js : List Jb} {out : List Int} (h : Done js out) {p p' : Nat} (hp : p < out.length) (hp' : p' < out.length) (hk : out.getD p' 0 ∈ (jb js (out.getD p 0).toNat).kids) : p < p' := by
  have hr := h.rng _ (getD_mem hp)
  have h1 := h.topo p' hp' (out.getD p 0).toNat (by omega) hk
  rw [Int.toNat_of_nonneg hr.1] at h1
  obtain ⟨m, hm, he⟩ := List.mem_iff_getElem.1 h1
  rw [List.length_take] at hm
  rw [List.getElem_take] at he
  have : m = p := nodup_getD h.nodup (by omega) hp (by rw [List.getD_eq_getElem?_getD, List.getElem?_eq_getElem (by omega)]; exact he)
  omega
theorem rank_some {js : List Jb} {out : List Int} (hR : RightP js) (h : Done js out) (hl : out.length = js.length) : ∀ j, j ≤ out.length →
    (∀ p, p < out.length → p + j < out.length → (rankS js out j).getD (out.getD p 0).toNat 0 = 0) ∧
    (∀ p, p < out.length → out.length ≤ p + j → (∀ k ∈ (jb js (out.getD p 0).toNat).kids, (rankS js out j).getD k.toNat 0 + 1 ≤ (rankS js out j).getD (out.getD p 0).toNat 0) ∧
      ((rankS js out j).getD (out.getD p 0).toNat 0 = 0 ∨ ∃ k ∈ (jb js (out.getD p 0).toNat).kids, (rankS js out j).getD (out.getD p 0).toNat 0 = (rankS js out j).getD k.toNat 0 + 1))
  | 0, _ => by
    refine ⟨fun p hp _ => ?_, fun p hp h2 => by omega⟩
    unfold rankS
    rw [List.getD_eq_getElem?_getD, List.getElem?_replicate]
    split <;> rfl
  | j + 1, hj => by
    obtain ⟨ih1, ih2⟩ := rank_some hR h hl j (by omega)
    have hp0 : out.length - 1 - j < out.length := by omega
    generalize hp0e : out.length - 1 - j = p0 at *
    have hr0 := h.rng _ (getD_mem hp0)
    have hlen : (rankS js out j).length = js.length := rankS_len
    have hne : ∀ k ∈ (jb js (out.getD p0 0).toNat).kids, k.toNat ≠ (out.getD p0 0).toNat := fun k hk he => by
      have hk0 := kids_rng hR (by omega) hk
      have hke : k = out.getD p0 0 := by omega
      have := kid_behind h hp0 hp0 (hke ▸ hk)
      omega
    have hS : rankS js out (j + 1) = (jb js (out.getD p0 0).toNat).kids.foldl (relax (out.getD p0 0).toNat) (rankS js out j) := by
      conv => lhs; unfold rankS
      rw [hp0e]
    have hother : ∀ p, p < out.length → p ≠ p0 → (out.getD p 0).toNat ≠ (out.getD p0 0).toNat := fun p hp hpp he => by
      have hr := h.rng _ (getD_mem hp)
      exact hpp (nodup_getD h.nodup hp hp0 (by omega))
    have hkne : ∀ p, p < out.length → p0 ≤ p → ∀ k ∈ (jb js (out.getD p 0).toNat).kids, k.toNat ≠ (out.getD p0 0).toNat := fun p hp hpp k hk he => by
      have hr := h.rng _ (getD_mem hp)
      have hk0 := kids_rng hR (i := (out.getD p 0).toNat) (by omega) hk
      have hke : k = out.getD p0 0 := by omega
      have := kid_behind h hp hp0 (hke ▸ hk)
      omega
    obtain ⟨s1, s2, s3, s4⟩ := relax_spec (i := (out.getD p0 0).toNat) (r0 := rankS js out j) (by omega) (ks := (jb js (out.getD p0 0).toNat).kids) (r := rankS js out j) rfl hne (fun _ _ => rfl)
    rw [← hS] at s1 s2 s3 s4
    refine ⟨fun p hp h2 => ?_, fun p hp h2 => ?_⟩
    · rw [s1 _ (hother p hp (by omega))]
      exact ih1 p hp (by omega)
    · by_cases hpp : p = p0
      · subst hpp
        refine ⟨fun k hk => ?_, ?_⟩
        · rw [s1 _ (hne k hk)]; exact s3 k hk
        · rcases s4 with s4 | ⟨k, hk, s4⟩
          · left; rw [s4]; exact ih1 p hp (by omega)
          · right; exact ⟨k, hk, by rw [s1 _ (hne k hk)]; exact s4⟩
      · have hkne' := hkne p hp (by omega)
        clear s2 s3 s4 ih1
        obtain ⟨a1, a2⟩ := ih2 p hp (by omega)
        rw [s1 _ (hother p hp hpp)]
        refine ⟨fun k hk => ?_, ?_⟩
        · rw [s1 _ (hkne' k hk)]; exact a1 k hk
        · rcases a2 with a2 | ⟨k, hk, a2⟩
          · exact .inl a2
          · exact .inr ⟨k, hk, by rw [s1 _ (hkne' k hk)]; exact a2⟩
theorem rank_is {js : List Jb} {out : List Int} (hR : RightP js) (h : Done js out) (hl : out.length = js.length) : IsRank js (rankS js out js.length) := by
  have key := (rank_some hR h hl js.length (by omega)).2
  refine ⟨rankS_len, fun i hi k hk => ?_, fun i hi => ?_⟩
  · obtain ⟨p, hp, he⟩ := all_out h hl hi
    have := (key p hp (by omega)).1
    rw [he, Int.toNat_natCast] at this
    exact this k hk
  · obtain ⟨p, hp, he⟩ := all_out h hl hi
    have := (key p hp (by omega)).2
    rwa [he, Int.toNat_natCast] at this
/-- ranks are what they are -/
theorem rank_nonneg {js : List Jb} {out r : List Int} (hR : RightP js) (h : Done js out) (hl : out.length = js.length) (hr : IsRank js r) : ∀ m p, p < out.length → out.length ≤ p + m → 0 ≤ r.getD (out.getD p 0).toNat 0
  | 0, p, hp, hm => by omega
  | m + 1, p, hp, hm => by
    have hrg := h.rng _ (getD_mem hp)
    rcases hr.eq (out.getD p 0).toNat (by omega) with h0 | ⟨k, hk, h0⟩
    · omega
    · have hk0 := kids_rng hR (i := (out.getD p 0).toNat) (by omega) hk
      obtain ⟨p', hp', he⟩ := all_out h hl (k := k.toNat) (by omega)
      have hke : out.getD p' 0 = k := by omega
      have hb := kid_behind h hp hp' (by rw [hke]; exact hk)
      have := rank_nonneg hR h hl hr m p' hp' (by omega)
      rw [he, Int.toNat_natCast] at this
      omega
theorem rank_le {js : List Jb} {out r r' : List Int} (hR : RightP js) (h : Done js out) (hl : out.length = js.length) (hr : IsRank js r) (hr' : IsRank js r') : ∀ m p, p < out.length → out.length ≤ p + m → r.getD (out.getD p 0).toNat 0 ≤ r'.getD (out.getD p 0).toNat 0
  | 0, p, hp, hm => by omega
  | m + 1, p, hp, hm => by
    have hrg := h.rng _ (getD_mem hp)
    rcases hr.eq (out.getD p 0).toNat (by omega) with h0 | ⟨k, hk, h0⟩
    · rw [h0]; exact rank_nonneg hR h hl hr' (m + 1) p hp hm
    · have hk0 := kids_rng hR (i := (out.getD p 0).toNat) (by omega) hk
      obtain ⟨p', hp', he⟩ := all_out h hl (k := k.toNat) (by omega)
      have hke : out.getD p' 0 = k := by omega
      have hb := kid_behind h hp hp' (by rw [hke]; exact hk)
      have h1 := rank_le hR h hl hr hr' m p' hp' (by omega)
      rw [he, Int.toNat_natCast] at h1
      have h2 := hr'.ge (out.getD p 0).toNat (by omega) k hk
      omega
theorem rank_uniq {js : List Jb} {out r r' : List Int} (hR : RightP js) (h : Done js out) (hl : out.length = js.length) (hr : IsRank js r) (hr' : IsRank js r') : r = r' := by
  apply List.ext_getElem
  · rw [hr.len, hr'.len]
  · intro i h1 h2
    obtain ⟨p, hp, he⟩ := all_out h hl (k := i) (by rw [← hr.len]; exact h1)
    have a := rank_le hR h hl hr hr' out.length p hp (by omega)
    have b := rank_le hR h hl hr' hr out.length p hp (by omega)
    rw [he, Int.toNat_natCast] at a b
    simp only [List.getD_eq_getElem?_getD, List.getElem?_eq_getElem h1, List.getElem?_eq_getElem h2, Option.getD_some] at a b
    omega

/-! rounds -/
/-- what a value rests on -/
structure Sup (js : List Jb) (xs : List Int) : Prop where
  len : xs.length = js.length
  nn : ∀ i, 0 ≤ xs.getD i 0
  sup : ∀ i, i < js.length → xs.getD i 0 = 0 ∨ ∃ k ∈ (jb js i).kids, xs.getD i 0 ≤ xs.getD k.toNat 0 + 1
theorem stepK_get {i : Nat} {st : List Int × Bool} {k : Int} (hi : i < st.1.length) (m : Nat) : st.1.getD m 0 ≤ (stepK i st k).1.getD m 0 ∧ (m ≠ i → (stepK i st k).1.getD m 0 = st.1.getD m 0) ∧ st.1.getD k.toNat 0 + 1 ≤ (stepK i st k).1.getD i 0 ∧ ((stepK i st k).1.getD i 0 = st.1.getD i 0 ∨ (stepK i st k).1.getD i 0 = st.1.getD k.toNat 0 + 1) := by
  unfold stepK
  split
  · rename_i hgt
    simp only
    rw [getD_set' hi, getD_set' hi, if_pos rfl]
    refine ⟨?_, fun hne => by rw [if_neg (fun h => hne h.symm)], Int.le_refl _, .inr rfl⟩
    split
    · rename_i h; subst h; omega
    · exact Int.le_refl _
  · rename_i hgt
    exact ⟨Int.le_refl _, fun _ => rfl, by omega, .inl rfl⟩
theorem stepK_len {i : Nat} {st : List Int × Bool} {k : Int} : (stepK i st k).1.length = st.1.length := by
  unfold stepK; split <;> simp
theorem Sup.step {js : List Jb} {st : List Int × Bool} (h : Sup js st.1) {i : Nat} (hi : i < js.length) {k : Int} (hk : k ∈ (jb js i).kids) : Sup js (stepK i st k).1 := by
  have hg := fun m => stepK_get (i := i) (st := st) (k := k) (by rw [h.len]; exact hi) m
  refine ⟨by rw [stepK_len, h.len], fun m => Int.le_trans (h.nn m) (hg m).1, fun m hm => ?_⟩
  by_cases hmi : m = i
  · subst hmi
    rcases (hg m).2.2.2 with he | he
    · rw [he]
      rcases h.sup m hm with h0 | ⟨k', hk', h0⟩
      · exact .inl h0
      · exact .inr ⟨k', hk', by have := (hg k'.toNat).1; omega⟩
    · exact .inr ⟨k, hk, by have := (hg k.toNat).1; omega⟩
  · rw [(hg m).2.1 hmi]
    rcases h.sup m hm with h0 | ⟨k', hk', h0⟩
    · exact .inl h0
    · exact .inr ⟨k', hk', by have := (hg k'.toNat).1; omega⟩
theorem Sup.fold {js : List Jb} {i : Nat} (hi : i < js.length) : ∀ {ks : List Int} {st : List Int × Bool}, (∀ k ∈ ks, k ∈ (jb js i).kids) → Sup js st.1 → Sup js (ks.foldl (stepK i) st).1
  | [], _, _, h => h
  | k :: ks, st, hk, h => Sup.fold hi (ks := ks) (fun x hx => hk x (List.mem_cons_of_mem _ hx)) (h.step hi (hk k List.mem_cons_self))
theorem Sup.fold2 {js : List Jb} : ∀ {l : List Nat} {st : List Int × Bool}, (∀ i ∈ l, i < js.length) → Sup js st.1 → Sup js (l.foldl (stepI js) st).1
  | [], _, _, h => h
  | i :: l, st, hl, h => Sup.fold2 (l := l) (fun x hx => hl x (List.mem_cons_of_mem _ hx)) (Sup.fold (hl i List.mem_cons_self) (fun _ h => h) h)
theorem Sup.round {js : List Jb} {xs : List Int} (h : Sup js xs) : Sup js (roundP js xs).1 := Sup.fold2 (fun i hi => List.mem_range.1 hi) h
theorem Sup.zeros {js : List Jb} : Sup js (List.replicate js.length 0) := by
  have hz : ∀ i, (List.replicate js.length (0 : Int)).getD i 0 = 0 := fun i => by
    rw [List.getD_eq_getElem?_getD, List.getElem?_replicate]; split <;> rfl
  exact ⟨by simp, fun i => by rw [hz]; exact Int.le_refl _, fun i _ => .inl (hz i)⟩
/-- no rise: nothing was turned, all is well -/
theorem fold_quiet {i : Nat} : ∀ {ks : List Int} {st : List Int × Bool}, (ks.foldl (stepK i) st).2 = false → ks.foldl (stepK i) st = st ∧ st.2 = false ∧ ∀ k ∈ ks, st.1.getD k.toNat 0 + 1 ≤ st.1.getD i 0
  | [], st, h => ⟨rfl, h, fun k hk => by simp at hk⟩
  | k :: ks, st, h => by
    rw [List.foldl_cons] at h ⊢
    obtain ⟨h1, h2, h3⟩ := fold_quiet h
    by_cases hgt : st.1.getD k.toNat 0 + 1 > st.1.getD i 0
    · unfold stepK at h2; rw [if_pos hgt] at h2; cases h2
    · have he : stepK i st k = st := by unfold stepK; rw [if_neg hgt]
      rw [he] at h1 h2 h3 ⊢
      refine ⟨h1, h2, fun x hx => ?_⟩
      rcases List.mem_cons.1 hx with rfl | hx
      · omega
      · exact h3 x hx
theorem fold_quiet2 {js : List Jb} : ∀ {l : List Nat} {st : List Int × Bool}, (l.foldl (stepI js) st).2 = false → l.foldl (stepI js) st = st ∧ st.2 = false ∧ ∀ i ∈ l, ∀ k ∈ (jb js i).kids, st.1.getD k.toNat 0 + 1 ≤ st.1.getD i 0
  | [], st, h => ⟨rfl, h, fun k hk => by simp at hk⟩
  | i :: l, st, h => by
    rw [List.foldl_cons] at h ⊢
    obtain ⟨h1, h2, h3⟩ := fold_quiet2 h
    obtain ⟨a1, a2, a3⟩ := fold_quiet (ks := (jb js i).kids) (i := i) (st := st) h2
    have he : stepI js st i = st := a1
    rw [he] at h1 h3 ⊢
    refine ⟨h1, a2, fun x hx => ?_⟩
    rcases List.mem_cons.1 hx with rfl | hx
    · exact a3
    · exact h3 x hx
theorem ranksP_some {js : List Jb} : ∀ {f : Nat} {xs ys : List Int}, Sup js xs → ranksP js f xs = some ys → Sup js ys ∧ ∀ i, i < js.length → ∀ k ∈ (jb js i).kids, ys.getD k.toNat 0 + 1 ≤ ys.getD i 0
  | f + 1, xs, ys, hs, h => by
    unfold ranksP at h
    split at h
    · exact ranksP_some hs.round h
    · rename_i hq
      cases h
      have hq' : (roundP js xs).2 = false := by simpa using hq
      obtain ⟨h1, _, h3⟩ := fold_quiet2 (js := js) (l := List.range js.length) (st := (xs, false)) hq'
      have he : (roundP js xs).1 = xs := by unfold roundP; rw [h1]
      rw [he]
      exact ⟨hs, fun i hi => h3 i (List.mem_range.2 hi)⟩
theorem ranksP_is {js : List Jb} {f : Nat} {xs ys : List Int} (hs : Sup js xs) (h : ranksP js f xs = some ys) : IsRank js ys := by
  obtain ⟨h1, h2⟩ := ranksP_some hs h
  refine ⟨h1.len, h2, fun i hi => ?_⟩
  rcases h1.sup i hi with h0 | ⟨k, hk, h0⟩
  · exact .inl h0
  · exact .inr ⟨k, hk, by have := h2 i hi k hk; omega⟩
theorem bounded (xs : List Int) : ∃ B : Nat, ∀ i, xs.getD i 0 ≤ B := by
  induction xs with
  | nil => exact ⟨0, fun i => by simp⟩
  | cons x xs ih =>
    obtain ⟨B, hB⟩ := ih
    refine ⟨B + x.toNat, fun i => ?_⟩
    cases i with
    | zero => simp; omega
    | succ i => have := hB i; simp only [List.getD_cons_succ]; omega
/-- jobs that are not even have no ranks -/
theorem odd_law {js : List Jb} {out : List Int} (h : Done js out) (hl : out.length ≠ js.length) {f : Nat} : ranksP js f (List.replicate js.length 0) = none := by
  cases hr : ranksP js f (List.replicate js.length 0) with
  | none => rfl
  | some ys =>
    exfalso
    obtain ⟨hs, hst⟩ := ranksP_some Sup.zeros hr
    have hlt : out.length < js.length := by
      have := nodup_le js.length h.nodup h.rng
      omega
    have hex : ∃ k : Nat, k < js.length ∧ (k : Int) ∉ out := by
      refine Decidable.byContradiction fun hc => ?_
      have hall : ∀ k : Nat, k < js.length → (k : Int) ∈ out := fun k hk => Decidable.byContradiction fun hn => hc ⟨k, hk, hn⟩
      have hsub : ∀ m, m ≤ js.length → m ≤ (out.filter fun x => decide (x < (m : Int))).length := by
        intro m
        induction m with
        | zero => intro _; omega
        | succ m ih =>
          intro hm
          have h1 := ih (by omega)
          have h2 : ((out.filter fun x => decide (x < (m : Int))).length) + 1 ≤ (out.filter fun x => decide (x < ((m + 1 : Nat) : Int))).length := by
            have hmem := hall m (by omega)
            obtain ⟨a, b, hab⟩ := List.append_of_mem hmem
            rw [hab]
            simp only [List.filter_append, List.filter_cons, List.length_append]
            have e1 : decide ((m : Int) < (m : Int)) = false := decide_eq_false (by omega)
            have e2 : decide ((m : Int) < ((m + 1 : Nat) : Int)) = true := decide_eq_true (by omega)
            rw [e1, e2]
            simp only [Bool.false_eq_true, if_false, if_true, List.length_cons]
            have mono : ∀ l : List Int, (l.filter fun x => decide (x < (m : Int))).length ≤ (l.filter fun x => decide (x < ((m + 1 : Nat) : Int))).length := fun l => by
              have hsl : ∀ l : List Int, (l.filter fun x => decide (x < (m : Int))).length = ((l.filter fun x => decide (x < ((m + 1 : Nat) : Int))).filter fun x => decide (x < (m : Int))).length := fun l => by
                rw [List.filter_filter]
                congr 1
                apply List.filter_congr
                intro x _
                by_cases hx : x < (m : Int)
                · rw [decide_eq_true hx, decide_eq_true (by omega)]; rfl
                · rw [decide_eq_false hx]; rfl
              rw [hsl l]
              exact List.length_filter_le _ _
            have ha := mono a
            have hb := mono b
            omega
          omega
      have h1 := hsub js.length (Nat.le_refl _)
      have h2 := List.length_filter_le (fun x => decide (x < (js.length : Int))) out
      omega
    obtain ⟨k0, hk0, hn0⟩ := hex
    have climb : ∀ j : Nat, ∃ k : Nat, k < js.length ∧ (k : Int) ∉ out ∧ (j : Int) ≤ ys.getD k 0 := by
      intro j
      induction j with
      | zero => exact ⟨k0, hk0, hn0, hs.nn k0⟩
      | succ j ih =>
        obtain ⟨k, hk, hn, hj⟩ := ih
        obtain ⟨i, hi, hin, hik⟩ := h.stuck k hk hn
        have := hst i hi _ hik
        rw [Int.toNat_natCast] at this
        exact ⟨i, hi, hin, by omega⟩
    obtain ⟨B, hB⟩ := bounded ys
    obtain ⟨k, _, _, hk⟩ := climb (B + 1)
    have := hB k
    omega

/-! even jobs: the rounds end in time -/
theorem fold_mono {i : Nat} : ∀ {ks : List Int} {st : List Int × Bool}, i < st.1.length → ∀ m, st.1.getD m 0 ≤ (ks.foldl (stepK i) st).1.getD m 0
  | [], st, _, m => Int.le_refl _
  | k :: ks, st, hi, m => Int.le_trans (stepK_get (k := k) hi m).1 (fold_mono (ks := ks) (st := stepK i st k) (by rw [stepK_len]; exact hi) m)
theorem fold_len {i : Nat} : ∀ {ks : List Int} {st : List Int × Bool}, (ks.foldl (stepK i) st).1.length = st.1.length
  | [], st => rfl
  | k :: ks, st => by rw [List.foldl_cons, fold_len, stepK_len]
theorem fold2_len {js : List Jb} : ∀ {l : List Nat} {st : List Int × Bool}, (l.foldl (stepI js) st).1.length = st.1.length
  | [], st => rfl
  | i :: l, st => by rw [List.foldl_cons, fold2_len]; exact fold_len
theorem fold2_mono {js : List Jb} : ∀ {l : List Nat} {st : List Int × Bool}, (∀ i ∈ l, i < st.1.length) → ∀ m, st.1.getD m 0 ≤ (l.foldl (stepI js) st).1.getD m 0
  | [], st, _, m => Int.le_refl _
  | i :: l, st, hl, m => Int.le_trans (fold_mono (ks := (jb js i).kids) (hl i List.mem_cons_self) m) (fold2_mono (l := l) (st := stepI js st i) (fun x hx => by unfold stepI; rw [fold_len]; exact hl x (List.mem_cons_of_mem _ hx)) m)
theorem fold_ge {i : Nat} : ∀ {ks : List Int} {st : List Int × Bool}, i < st.1.length → ∀ k ∈ ks, st.1.getD k.toNat 0 + 1 ≤ (ks.foldl (stepK i) st).1.getD i 0
  | k :: ks, st, hi, x, hx => by
    rw [List.foldl_cons]
    have hl : i < (stepK i st k).1.length := by rw [stepK_len]; exact hi
    rcases List.mem_cons.1 hx with rfl | hx
    · exact Int.le_trans (stepK_get (k := x) hi i).2.2.1 (fold_mono hl i)
    · have h1 := fold_ge (ks := ks) (st := stepK i st k) hl x hx
      have h2 := (stepK_get (k := k) hi x.toNat).1
      omega
section
variable {js : List Jb} {R : List Int}
theorem fold_up (hr : IsRank js R) {i : Nat} (hi : i < js.length) (hR : RightP js) : ∀ {ks : List Int} {st : List Int × Bool}, (∀ k ∈ ks, k ∈ (jb js i).kids) → st.1.length = js.length → (∀ m, m < js.length → st.1.getD m 0 ≤ R.getD m 0) → ∀ m, m < js.length → (ks.foldl (stepK i) st).1.getD m 0 ≤ R.getD m 0
  | [], st, _, _, hu => hu
  | k :: ks, st, hk, hl, hu => by
    rw [List.foldl_cons]
    refine fold_up hr hi hR (ks := ks) (fun x hx => hk x (List.mem_cons_of_mem _ hx)) (by rw [stepK_len]; exact hl) fun m hm => ?_
    have hki := hk k List.mem_cons_self
    have hg := stepK_get (i := i) (st := st) (k := k) (by omega) m
    by_cases hmi : m = i
    · subst hmi
      rcases hg.2.2.2 with he | he
      · rw [he]; exact hu m hm
      · rw [he]
        have := hr.ge m hm k hki
        have := hu k.toNat (kids_rng hR hm hki).2
        omega
    · rw [hg.2.1 hmi]; exact hu m hm
theorem fold2_up (hr : IsRank js R) (hR : RightP js) : ∀ {l : List Nat} {st : List Int × Bool}, (∀ i ∈ l, i < js.length) → st.1.length = js.length → (∀ m, m < js.length → st.1.getD m 0 ≤ R.getD m 0) → ∀ m, m < js.length → (l.foldl (stepI js) st).1.getD m 0 ≤ R.getD m 0
  | [], st, _, _, hu => hu
  | i :: l, st, hl, hn, hu => by
    rw [List.foldl_cons]
    exact fold2_up hr hR (l := l) (fun x hx => hl x (List.mem_cons_of_mem _ hx)) (by unfold stepI; rw [fold_len]; exact hn) (fold_up hr (hl i List.mem_cons_self) hR (fun _ h => h) hn hu)
/-- a job whose kids are final becomes final -/
theorem fold2_final (hr : IsRank js R) (hR : RightP js) {i : Nat} (hi : i < js.length) : ∀ {l : List Nat} {st : List Int × Bool}, (∀ i ∈ l, i < js.length) → st.1.length = js.length → (∀ m, 0 ≤ st.1.getD m 0) → (∀ m, m < js.length → st.1.getD m 0 ≤ R.getD m 0) → (∀ k ∈ (jb js i).kids, st.1.getD k.toNat 0 = R.getD k.toNat 0) → i ∈ l → (l.foldl (stepI js) st).1.getD i 0 = R.getD i 0
  | j :: l, st, hl, hn, h0, hu, hk, hil => by
    have hlen : (stepI js st j).1.length = js.length := by unfold stepI; rw [fold_len]; exact hn
    have hj := hl j List.mem_cons_self
    have hmono : ∀ m, st.1.getD m 0 ≤ (stepI js st j).1.getD m 0 := fold_mono (by omega)
    have hup : ∀ m, m < js.length → (stepI js st j).1.getD m 0 ≤ R.getD m 0 := fold_up hr hj hR (fun _ h => h) hn hu
    have hl' : ∀ x ∈ l, x < js.length := fun x hx => hl x (List.mem_cons_of_mem _ hx)
    rw [List.foldl_cons]
    by_cases hij : i = j
    · subst hij
      have h1 : R.getD i 0 ≤ (stepI js st i).1.getD i 0 := by
        rcases hr.eq i hi with h | ⟨k, hk', h⟩
        · rw [h]; exact Int.le_trans (h0 i) (hmono i)
        · rw [h, ← hk k hk']
          exact fold_ge (by omega) k hk'
      have h2 := fold2_mono (js := js) (l := l) (st := stepI js st i) (fun x hx => by rw [hlen]; exact hl' x hx) i
      have h3 := fold2_up hr hR (l := l) (st := stepI js st i) hl' hlen hup i hi
      omega
    · refine fold2_final hr hR hi (l := l) hl' hlen (fun m => Int.le_trans (h0 m) (hmono m)) hup (fun k hk' => ?_) ?_
      · have a := hmono k.toNat
        have b := hup k.toNat (kids_rng hR hi hk').2
        rw [hk k hk'] at a
        omega
      · rcases List.mem_cons.1 hil with h | h
        · exact absurd h hij
        · exact h
theorem fold_still {i : Nat} : ∀ {ks : List Int} {st : List Int × Bool}, (∀ k ∈ ks, st.1.getD k.toNat 0 + 1 ≤ st.1.getD i 0) → ks.foldl (stepK i) st = st
  | [], st, _ => rfl
  | k :: ks, st, h => by
    have he : stepK i st k = st := by unfold stepK; rw [if_neg (by have := h k List.mem_cons_self; omega)]
    rw [List.foldl_cons, he]
    exact fold_still fun x hx => h x (List.mem_cons_of_mem _ hx)
theorem fold2_still : ∀ {l : List Nat} {st : List Int × Bool}, (∀ i ∈ l, ∀ k ∈ (jb js i).kids, st.1.getD k.toNat 0 + 1 ≤ st.1.getD i 0) → l.foldl (stepI js) st = st
  | [], st, _ => rfl
  | i :: l, st, h => by
    have he : stepI js st i = st := fold_still (h i List.mem_cons_self)
    rw [List.foldl_cons, he]
    exact fold2_still fun x hx => h x (List.mem_cons_of_mem _ hx)
theorem ranksP_ends {out : List Int} (hr : IsRank js R) (hR : RightP js) (h : Done js out) (hl : out.length = js.length) : ∀ (f r : Nat) (xs : List Int), xs.length = js.length → (∀ m, 0 ≤ xs.getD m 0) → (∀ m, m < js.length → xs.getD m 0 ≤ R.getD m 0) →
    (∀ p, p < out.length → out.length ≤ p + r → xs.getD (out.getD p 0).toNat 0 = R.getD (out.getD p 0).toNat 0) → js.length + 1 ≤ r + f → 0 < f → ∃ ys, ranksP js f xs = some ys
  | f + 1, r, xs, hn, h0, hu, hf, hrf, _ => by
    unfold ranksP
    cases hq : (roundP js xs).2 with
    | false => exact ⟨_, rfl⟩
    | true =>
      rw [if_pos rfl]
      have hlt : ∀ i ∈ List.range js.length, i < js.length := fun i hi => List.mem_range.1 hi
      by_cases hf0 : f = 0
      · exfalso
        have hall : ∀ i, i < js.length → xs.getD i 0 = R.getD i 0 := fun i hi => by
          obtain ⟨p, hp, he⟩ := all_out h hl hi
          have := hf p hp (by omega)
          rwa [he, Int.toNat_natCast] at this
        have := fold2_still (js := js) (l := List.range js.length) (st := (xs, false)) fun i hi k hk => by
          have hi' := hlt i hi
          show xs.getD k.toNat 0 + 1 ≤ xs.getD i 0
          rw [hall i hi', hall _ (kids_rng hR hi' hk).2]
          exact hr.ge i hi' k hk
        unfold roundP at hq
        rw [this] at hq
        cases hq
      · refine ranksP_ends hr hR h hl f (r + 1) _ (by unfold roundP; rw [fold2_len]; exact hn) (fun m => ?_) (fold2_up hr hR hlt hn hu) (fun p hp hpr => ?_) (by omega) (by omega)
        · exact Int.le_trans (h0 m) (fold2_mono (js := js) (l := List.range js.length) (st := (xs, false)) (fun i hi => by show i < xs.length; rw [hn]; exact hlt i hi) m)
        · have hrg := h.rng _ (getD_mem hp)
          refine fold2_final hr hR (by omega) hlt hn h0 hu (fun k hk => ?_) (List.mem_range.2 (by omega))
          have hk0 := kids_rng hR (i := (out.getD p 0).toNat) (by omega) hk
          obtain ⟨p', hp', he⟩ := all_out h hl (k := k.toNat) (by omega)
          have hke : out.getD p' 0 = k := by omega
          have hb := kid_behind h hp hp' (by rw [hke]; exact hk)
          have := hf p' hp' (by omega)
          rwa [hke] at this
end
/-- even jobs have the same ranks either way -/
theorem even_law {js : List Jb} {out : List Int} (hR : RightP js) (h : Done js out) (hl : out.length = js.length) : ranksP js (js.length + 1) (List.replicate js.length 0) = some (rankS js out js.length) := by
  have hr := rank_is hR h hl
  have hz : ∀ i, (List.replicate js.length (0 : Int)).getD i 0 = 0 := fun i => by
    rw [List.getD_eq_getElem?_getD, List.getElem?_replicate]; split <;> rfl
  obtain ⟨ys, hy⟩ := ranksP_ends hr hR h hl (js.length + 1) 0 (List.replicate js.length 0) (by simp) (fun m => by rw [hz]; exact Int.le_refl _) (fun m hm => by
    rw [hz]
    obtain ⟨p, hp, he⟩ := all_out h hl hm
    have := rank_nonneg hR h hl hr out.length p hp (by omega)
    rwa [he, Int.toNat_natCast] at this) (fun p hp hpr => by omega) (by omega) (by omega)
  rw [hy, rank_uniq hR h hl (ranksP_is Sup.zeros hy) hr]
end Go.Proofs.Ytmaldkpkodcggaa.grf
