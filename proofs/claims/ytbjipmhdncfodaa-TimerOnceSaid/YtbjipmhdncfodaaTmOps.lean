/- A timer: what stands in it, and the heap's Push, Pop and Remove on it. -/
import Derived.Test.YtbjipmhdncfodaaTmSt
namespace Go.Proofs.Ytbjipmhdncfodaa.grf
open Go Go.Vx

/-- a timer's heap; J: the blocks that are its own -/
structure TSh (M0 M : AMem) (J : Nat → Prop) (tb mb : Nat) (l : List En) (nn now : Int) : Prop where
  step : Step M0 M
  jlo : ∀ i, J i → M0.n ≤ i ∧ i < M.n
  jt : J tb
  jm : J mb
  ne : tb ≠ mb
  jx : ∀ x ∈ l, J x.b ∧ x.b ≠ tb ∧ x.b ≠ mb
  nb : (l.map (·.b)).Nodup
  ents : EntsAt M l
  row : ∃ v γ, M.get tb = some (.cells (tC v (.map (some mb)) nn now) 0 true none) ∧ RowI M0 M 1 γ v (l.map eR) ∧ ((v = .slice none 0 0 false ∧ l = []) ∨ (J γ ∧ γ ≠ tb ∧ γ ≠ mb ∧ ∀ x ∈ l, x.b ≠ γ))
  heap : HeapN ltE dEn l l.length
  len : l.length ≤ 1000
section
variable {M0 M : AMem} {J : Nat → Prop} {tb mb : Nat} {l : List En} {nn now : Int}
theorem TSh.frame {M' : AMem} {ids : Nat → Prop} (h : TSh M0 M J tb mb l nn now) (hs : Step M0 M') (hn : M.n ≤ M'.n) (hf : Fr M M' ids) (hi : ∀ i, J i → i ≠ mb → ¬ ids i) : TSh M0 M' J tb mb l nn now := by
  obtain ⟨v, γ, g1, g2, g3⟩ := h.row
  refine ⟨hs, fun i hi => ⟨(h.jlo i hi).1, Nat.lt_of_lt_of_le (h.jlo i hi).2 hn⟩, h.jt, h.jm, h.ne, h.jx, h.nb, h.ents.frame hf (fun x hx => hi _ (h.jx x hx).1 (h.jx x hx).2.2), ⟨v, γ, hf tb _ g1 (hi _ h.jt h.ne), ?_, g3⟩, h.heap, h.len⟩
  rcases g3 with ⟨rfl, rfl⟩ | ⟨j, _, j2, _⟩
  · exact .inl ⟨rfl, rfl⟩
  · exact g2.frame hf (hi _ j j2)
/-- its row, by a block that nobody else has -/
theorem TSh.row' (h : TSh M0 M J tb mb l nn now) : ∃ v γ, M.get tb = some (.cells (tC v (.map (some mb)) nn now) 0 true none) ∧ RowI M0 M 1 γ v (l.map eR) ∧ M0.n ≤ γ ∧ γ ≠ tb ∧ γ ≠ mb ∧ (∀ x ∈ l, x.b ≠ γ) ∧ (J γ ∨ (γ = M.n ∧ l = [])) := by
  obtain ⟨v, γ, g1, g2, ⟨rfl, rfl⟩ | ⟨j, j1, j2, j3⟩⟩ := h.row
  · exact ⟨_, M.n, g1, .inl ⟨rfl, rfl⟩, h.step.grow.n, by have := (h.jlo _ h.jt).2; omega, by have := (h.jlo _ h.jm).2; omega, fun x hx => by simp at hx, .inr ⟨rfl, rfl⟩⟩
  · exact ⟨v, γ, g1, g2, (h.jlo _ j).1, j1, j2, j3, .inl j⟩
theorem TSh.hlen (h : TSh M0 M J tb mb l nn now) : ∃ v, opI (.load false 1) [.ptr (some (tb, 0))] M = some (.val v M) ∧ opI .lenS [v] M = some (.val (.int .i64 l.length) M) ∧ ∀ i, i < l.length → (∀ M', opI (.indexAddrS 1) [v, .int .i64 i] M' = some (.val (rowp v 1 i) M')) ∧ opI (.load false 1) [rowp v 1 i] M = some (.val (pP (l.getD i dEn)) M) := by
  obtain ⟨v, γ, g1, g2, _⟩ := h.row
  exact ⟨v, load_own (o := 0) g1 rfl, rowT_len g2 h.step.ok.1, fun i hi => rowT_at g2 h.step.ok.1 hi⟩
theorem TSh.rep (h : TSh M0 M J tb mb l nn now) {v : AV} {γ : Nat} (g1 : M.get tb = some (.cells (tC v (.map (some mb)) nn now) 0 true none)) (g2 : RowI M0 M 1 γ v (l.map eR)) (g4 : γ ≠ tb) (g6 : ∀ x ∈ l, x.b ≠ γ) : TRep M0 M tb γ (.map (some mb)) nn now (fun i => ∃ x ∈ l, i = x.b) l M l :=
  ⟨h.step, Nat.le_refl _, Fr.refl, ⟨(h.jlo _ h.jt).1, fun he => g4 he.symm, fun ⟨x, hx, he⟩ => (h.jx x hx).2.1 he.symm, fun ⟨x, hx, he⟩ => g6 x hx he.symm⟩, by have := h.len; omega, h.nb, fun x hx => ⟨⟨x, hx, rfl⟩, (h.jlo _ (h.jx x hx).1).1⟩, h.ents,
    ⟨fun x hx => ⟨⟨x, hx, rfl⟩, by
      obtain ⟨i, hi, rfl⟩ := List.mem_iff_getElem.1 hx
      have := h.ents i hi
      rw [show l.getD i dEn = l[i] by rw [List.getD_eq_getElem?_getD, List.getElem?_eq_getElem hi]; rfl] at this
      exact ⟨_, this⟩⟩, fun x hx y hy hb => by
      obtain ⟨i, hi, rfl⟩ := List.mem_iff_getElem.1 hx
      obtain ⟨j, hj, rfl⟩ := List.mem_iff_getElem.1 hy
      have e1 : l.getD i dEn = l[i] := by rw [List.getD_eq_getElem?_getD, List.getElem?_eq_getElem hi]; rfl
      have e2 : l.getD j dEn = l[j] := by rw [List.getD_eq_getElem?_getD, List.getElem?_eq_getElem hj]; rfl
      have := nodup_b h.nb hi hj (by rw [e1, e2]; exact hb)
      subst this; rfl⟩, v, g1, g2⟩
/-- The first one comes out. -/
theorem TSh.pop (h : TSh M0 M J tb mb l nn now) (d : Nat) (h0 : 0 < l.length) :
    Ans (callF tbl code 100000 (d + 6)) 20 [hvT tb] M fun r M' => r = encT (l.getD 0 dEn) ∧ Step M0 M' ∧ M.n ≤ M'.n ∧ Fr M M' (fun i => J i ∧ i ≠ mb) ∧ (∃ p : Int, M'.get (l.getD 0 dEn).b = some (.cells (eC (l.getD 0 dEn) p) 0 true none)) ∧
      ∃ l', TSh M0 M' J tb mb l' nn now ∧ l.Perm (l.getD 0 dEn :: l') ∧ ∀ x ∈ l', ltE x (l.getD 0 dEn) = false := by
  obtain ⟨v, γ, g1, g2, g3, g4, g5, g6, g7⟩ := h.row'
  have hJ : J γ := by
    rcases g7 with g | ⟨_, rfl⟩
    · exact g
    · simp at h0
  have hr := h.rep g1 g2 g4 g6
  obtain ⟨r2, M2, c2, hr2, l', ⟨k1, k2, k3, k4, k5, k6, k7, k8, ⟨k9, k10⟩, v2, k11, k12⟩, q1, q2⟩ := pop_ok heapT woE d hr h.heap h0 (by have := h.len; omega)
  have hsub : ∀ x ∈ l', x ∈ l := fun x hx => q1.mem_iff.2 (List.mem_cons_of_mem _ hx)
  have hll := q1.length_eq
  rw [List.length_cons] at hll
  refine ⟨r2, M2, c2, hr2, k1, k2, k3.mono ?_, (k9 _ (getD_mem h0)).2, l', ⟨k1, fun i hi => ⟨(h.jlo i hi).1, Nat.lt_of_lt_of_le (h.jlo i hi).2 k2⟩, h.jt, h.jm, h.ne, fun x hx => h.jx x (hsub x hx), k6, k8, ⟨v2, γ, k11, k12, .inr ⟨hJ, g4, g5, fun x hx => g6 x (hsub x hx)⟩⟩, q2, by have := h.len; omega⟩, q1, fun x hx => ?_⟩
  · rintro i (rfl | rfl | ⟨x, hx, rfl⟩)
    · exact ⟨h.jt, h.ne⟩
    · exact ⟨hJ, g5⟩
    · exact ⟨(h.jx x hx).1, (h.jx x hx).2.2⟩
  · obtain ⟨c, hcl, he⟩ := List.mem_iff_getElem.1 (hsub x hx)
    have := heap_min woE h.heap c hcl
    rwa [show l.getD c dEn = x by rw [List.getD_eq_getElem?_getD, List.getElem?_eq_getElem hcl]; exact he] at this
/-- One is struck, by its place. -/
theorem TSh.remove (h : TSh M0 M J tb mb l nn now) (d : Nat) {i : Nat} (hi : i < l.length) :
    Ans (callF tbl code 100000 (d + 6)) 19 [hvT tb, .int .i64 i] M fun _ M' => Step M0 M' ∧ M.n ≤ M'.n ∧ Fr M M' (fun i => J i ∧ i ≠ mb) ∧
      ∃ l', TSh M0 M' J tb mb l' nn now ∧ l.Perm (l.getD i dEn :: l') := by
  obtain ⟨v, γ, g1, g2, g3, g4, g5, g6, g7⟩ := h.row'
  have hJ : J γ := by
    rcases g7 with g | ⟨_, rfl⟩
    · exact g
    · simp at hi
  have hr := h.rep g1 g2 g4 g6
  obtain ⟨r2, M2, c2, l', ⟨k1, k2, k3, k4, k5, k6, k7, k8, ⟨k9, k10⟩, v2, k11, k12⟩, q1, q2⟩ := remove_ok heapT woE d hr h.heap hi (by have := h.len; omega)
  have hsub : ∀ x ∈ l', x ∈ l := fun x hx => q1.mem_iff.2 (List.mem_cons_of_mem _ hx)
  have hll := q1.length_eq
  rw [List.length_cons] at hll
  refine ⟨r2, M2, c2, k1, k2, k3.mono ?_, l', ⟨k1, fun i hi => ⟨(h.jlo i hi).1, Nat.lt_of_lt_of_le (h.jlo i hi).2 k2⟩, h.jt, h.jm, h.ne, fun x hx => h.jx x (hsub x hx), k6, k8, ⟨v2, γ, k11, k12, .inr ⟨hJ, g4, g5, fun x hx => g6 x (hsub x hx)⟩⟩, q2, by have := h.len; omega⟩, q1⟩
  rintro i (rfl | rfl | ⟨x, hx, rfl⟩)
  · exact ⟨h.jt, h.ne⟩
  · exact ⟨hJ, g5⟩
  · exact ⟨(h.jx x hx).1, (h.jx x hx).2.2⟩
/-- One comes in: its block is new. -/
theorem TSh.push (h : TSh M0 M J tb mb l nn now) (d : Nat) (hl : l.length < 1000) {x : En} {p : Int} (hx : M.get x.b = some (.cells (eC x p) 0 true none)) (hx0 : M0.n ≤ x.b) (hxJ : ¬ J x.b) :
    Ans (callF tbl code 100000 (d + 6)) 18 [hvT tb, encT x] M fun _ M' => Step M0 M' ∧ M.n ≤ M'.n ∧ Fr M M' (fun i => (J i ∧ i ≠ mb) ∨ i = x.b) ∧ (∃ p : Int, M'.get x.b = some (.cells (eC x p) 0 true none)) ∧
      ∃ l', TSh M0 M' (fun i => J i ∨ i = x.b ∨ (M.n ≤ i ∧ i < M'.n)) tb mb l' nn now ∧ l'.Perm (l ++ [x]) := by
  obtain ⟨v, γ, g1, g2, g3, g4, g5, g6, g7⟩ := h.row'
  have hxt : x.b ≠ tb := fun he => hxJ (he ▸ h.jt)
  have hxm : x.b ≠ mb := fun he => hxJ (he ▸ h.jm)
  have hxn := get_lt h.step.ok.1 hx
  have hxg : x.b ≠ γ := fun he => by
    rcases g7 with g | ⟨g, _⟩
    · exact hxJ (he ▸ g)
    · omega
  obtain ⟨r1, M1, c1, s1, γ', g', ⟨v1, a1, b1⟩, x1, f1, n1⟩ := pushT_ok (d + 4) h.step (h.jlo _ h.jt).1 (fun he => g4 he.symm) g1 g2 (by have := h.len; omega) hx hx0 hxt hxg
  have hγ : γ' ≠ tb ∧ γ' ≠ mb ∧ (∀ y ∈ l ++ [x], y.b ≠ γ') := by
    have t1 := (h.jlo _ h.jt).2
    have t2 := (h.jlo _ h.jm).2
    rcases g' with rfl | g'
    · exact ⟨g4, g5, fun y hy => by
        rcases List.mem_append.1 hy with hy | hy
        · exact g6 y hy
        · simp at hy; subst hy; exact hxg⟩
    · exact ⟨by omega, by omega, fun y hy => by
        rcases List.mem_append.1 hy with hy | hy
        · have := (h.jlo _ (h.jx y hy).1).2; omega
        · simp at hy; subst hy; omega⟩
  have he1 : EntsAt M1 (l ++ [x]) := by
    have hf := h.ents.frame f1 (fun y hy hh => by
      rcases hh with hh | hh | hh
      · exact (h.jx y hy).2.1 hh
      · exact g6 y hy hh
      · exact hxJ (hh ▸ (h.jx y hy).1))
    intro i hi
    rw [List.length_append, List.length_singleton] at hi
    rcases Nat.lt_or_ge i l.length with hil | hil
    · have e : (l ++ [x]).getD i dEn = l.getD i dEn := by
        rw [List.getD_eq_getElem?_getD, List.getElem?_append_left hil, ← List.getD_eq_getElem?_getD]
      rw [e]; exact hf i hil
    · have hi' : i = l.length := by omega
      subst hi'
      have e : (l ++ [x]).getD l.length dEn = x := by
        rw [List.getD_eq_getElem?_getD, List.getElem?_append_right (Nat.le_refl _), Nat.sub_self]; rfl
      rw [e]; exact x1
  have hnb : ((l ++ [x]).map (·.b)).Nodup := by
    rw [List.map_append, List.nodup_append]
    refine ⟨h.nb, by simp, fun a ha b hb => ?_⟩
    simp at hb
    subst hb
    obtain ⟨y, hy, rfl⟩ := List.mem_map.1 ha
    exact fun he => hxJ (he ▸ (h.jx y hy).1)
  have hlo : ∀ y ∈ l ++ [x], M0.n ≤ y.b ∧ y.b ≠ tb := fun y hy => by
    rcases List.mem_append.1 hy with hy | hy
    · exact ⟨(h.jlo _ (h.jx y hy).1).1, (h.jx y hy).2.1⟩
    · simp at hy; subst hy; exact ⟨hx0, hxt⟩
  have hr : TRep M0 M1 tb γ' (.map (some mb)) nn now (fun i => ∃ y ∈ l ++ [x], i = y.b) [x] M1 (l ++ [x]) := ⟨s1, Nat.le_refl _, Fr.refl, ⟨(h.jlo _ h.jt).1, fun he => hγ.1 he.symm, fun ⟨y, hy, he⟩ => (hlo y hy).2 he.symm, fun ⟨y, hy, he⟩ => hγ.2.2 y hy he.symm⟩, by simp; omega, hnb, fun y hy => ⟨⟨y, hy, rfl⟩, (hlo y hy).1⟩, he1,
    ⟨fun y hy => by simp at hy; subst hy; exact ⟨⟨_, List.mem_append_right _ (List.mem_singleton.2 rfl), rfl⟩, _, x1⟩, fun y hy z hz hb => by
      simp at hy; subst hy
      rcases List.mem_append.1 hz with hz | hz
      · exact absurd (hb ▸ (h.jx z hz).1) hxJ
      · simp at hz; exact hz.symm⟩, v1, a1, b1⟩
  have i1 : opI (.invoke [(66, 76)] []) [hvT tb, encT x] M = some (.call 76 [.ptr (some (tb, 0)), encT x]) := by simp [opI, invokeI, List.lookup]
  obtain ⟨r2, M2, c2, l', ⟨k1, k2, k3, k4, k5, k6, k7, k8, ⟨k9, k10⟩, v2, k11, k12⟩, q1, q2⟩ := push_ok heapT woE d i1 c1 hr h.heap (by have := h.len; omega)
  have hγn : γ' < M2.n := by
    have := b1.id_lt s1.ok (by simp)
    omega
  have hx2n : x.b < M2.n := by omega
  refine ⟨r2, M2, c2, k1, by omega, fun c k hc hid => ?_, (k9 x (List.mem_singleton.2 rfl)).2, l', ⟨k1, ?_, .inl h.jt, .inl h.jm, h.ne, fun y hy => ?_, k6, k8, ⟨v2, γ', k11, k12, .inr ⟨?_, hγ.1, hγ.2.1, fun y hy => hγ.2.2 y (q1.mem_iff.1 hy)⟩⟩, q2, by rw [q1.length_eq]; simp; omega⟩, q1⟩
  · have hgn := gid_le h.step.ok hc
    refine k3 c k (f1 c k hc ?_) ?_
    · rintro (hh | hh | hh)
      · exact hid (.inl ⟨hh ▸ h.jt, hh ▸ h.ne⟩)
      · rcases g7 with g | ⟨g, _⟩
        · exact hid (.inl ⟨hh ▸ g, hh ▸ g5⟩)
        · omega
      · exact hid (.inr hh)
    · rintro (hh | hh | ⟨y, hy, hh⟩)
      · exact hid (.inl ⟨hh ▸ h.jt, hh ▸ h.ne⟩)
      · rcases g' with rfl | g'
        · rcases g7 with g | ⟨g, _⟩
          · exact hid (.inl ⟨hh ▸ g, hh ▸ g5⟩)
          · omega
        · omega
      · rcases List.mem_append.1 hy with hy | hy
        · exact hid (.inl ⟨hh ▸ (h.jx y hy).1, hh ▸ (h.jx y hy).2.2⟩)
        · simp at hy; subst hy; exact hid (.inr hh)
  · rintro i (hi | rfl | ⟨h1, h2⟩)
    · have := h.jlo i hi; omega
    · exact ⟨hx0, hx2n⟩
    · have := h.step.grow.n; omega
  · rcases List.mem_append.1 (q1.mem_iff.1 hy) with hy | hy
    · exact ⟨.inl (h.jx y hy).1, (h.jx y hy).2.1, (h.jx y hy).2.2⟩
    · simp at hy; subst hy; exact ⟨.inr (.inl rfl), hxt, hxm⟩
  · rcases g' with rfl | g'
    · rcases g7 with g | ⟨g, _⟩
      · exact .inl g
      · exact .inr (.inr ⟨by omega, hγn⟩)
    · exact .inr (.inr ⟨g', hγn⟩)
end
end Go.Proofs.Ytbjipmhdncfodaa.grf
