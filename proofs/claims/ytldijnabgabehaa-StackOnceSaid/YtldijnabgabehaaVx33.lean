/- A step of something that is seen through a few blocks: run at numbers that are not known, over these blocks alone; what is seen of it behind the step. -/
import Derived.Test.YtldijnabgabehaaVx32
namespace Go.Vx

/-- one step: the answer, what is seen behind it, and what must hold -/
def stepO (cO : CallO) (fuel : Nat) (way : List (Nat × Bool)) (f : FuncId) (a : List AV) (l : List ABlk) (g : Addr → Option AV) (roots : AV → List AV) : Option (AV × List Nat × List ABlk × List AV × List (Bool × Bool)) :=
  match cO f a (memOf l g) ⟨way, []⟩ with
  | some (r, m, s) => if okM (clean fuel m (a ++ [r])) && Nat.ble l.length m.n then match view fuel (clean fuel m (a ++ [r])) (roots r) with
      | some (σ, l2, a2) => some (r, σ, l2, a2, s.owe)
      | none => none
    else none
  | none => none
/-- What others have stands as it stood. -/
structure After (M : AMem) (ρ : List Nat) (M' : AMem) : Prop where
  n : M.n ≤ M'.n
  g : M'.g = M.g
  same : ∀ b, b < M.n → b ∉ ρ → M'.get b = M.get b
  ok : Okg M → Okg M'
  nh : ∀ b, isHeld (M.get b) = false → isHeld (M'.get b) = false
theorem view_lt {fuel : Nat} {M : AMem} {args : List AV} {ρ : List Nat} {l : List ABlk} {a : List AV} (h : view fuel M args = some (ρ, l, a)) (hok : Ok M) : ∀ b ∈ ρ, b < M.n := by
  intro b hb
  obtain ⟨i, hi, rfl⟩ := List.getElem_of_mem hb
  obtain ⟨k, hk, _⟩ := (viewed_of h).at_ i _ (List.getElem?_eq_getElem hi)
  exact get_lt hok hk
theorem ren_held {f : Nat → Nat} {k : ABlk} (h : k ≠ .held) : k.ren f ≠ .held := by cases k <;> simp_all [ABlk.ren]
theorem isHeld_of {k : Option ABlk} (h : ∀ x, k = some x → x ≠ .held) : isHeld k = false := by
  cases k with
  | none => rfl
  | some x => cases x <;> first | rfl | exact absurd rfl (h _ rfl)
theorem after_glue {M : AMem} {ρ : List Nat} {m : AMem} (hok : Ok M) (hm : m.t.Full m.n) (hn : ρ.length ≤ m.n) (ho : okM m = true) : After M ρ (glue M ρ m) := by
  have hblk : ∀ i, i < m.n → ∃ k, m.get i = some k ∧ (∀ cs sz wr gr, k = .cells cs sz wr gr → gr = none) ∧ k ≠ .held := by
    intro i hi
    obtain ⟨k, hk⟩ := Option.isSome_iff_exists.1 (show (m.get i).isSome = true from (hm i).2 hi)
    exact ⟨k, hk, okM_grp ho hi hk, okM_held ho hi hk⟩
  have hcase : ∀ b k, (glue M ρ m).get b = some k → (b < M.n ∧ M.get b = some k) ∨ ∃ k1 : ABlk, k = k1.ren (extN ρ M.n) ∧ (∀ cs sz wr gr, k1 = .cells cs sz wr gr → gr = none) ∧ k1 ≠ .held := by
    intro b k hk
    rw [glue_get] at hk
    split at hk
    rotate_left
    · cases hk
    cases hk
    unfold blkAt
    split
    · rename_i hb
      split
      · rename_i hc
        right
        have hc' : b ∈ ρ := by simpa using hc
        have hi := List.idxOf_lt_length_iff.2 hc'
        obtain ⟨k1, h1, h2, h3⟩ := hblk (ρ.idxOf b) (by omega)
        exact ⟨k1, by rw [h1]; rfl, h2, h3⟩
      · left
        refine ⟨hb, ?_⟩
        obtain ⟨k1, h1⟩ := Option.isSome_iff_exists.1 (show (M.get b).isSome = true from (hok b).2 hb)
        rw [h1]; rfl
    · right
      obtain ⟨k1, h1, h2, h3⟩ := hblk (b - M.n + ρ.length) (by omega)
      exact ⟨k1, by rw [h1]; rfl, h2, h3⟩
  refine ⟨by rw [glue_n]; omega, rfl, fun b hb hne => ?_, fun hg => ⟨fun b => ?_, fun b cs sz wr gr hk => ?_⟩, fun b hh => ?_⟩
  · rw [glue_get, if_pos (by omega)]
    unfold blkAt
    rw [if_pos hb, if_neg (by simpa using hne)]
    obtain ⟨k1, h1⟩ := Option.isSome_iff_exists.1 (show (M.get b).isSome = true from (hok b).2 hb)
    rw [h1]; rfl
  · show ((glue M ρ m).get b).isSome = true ↔ _
    rw [glue_get, glue_n]
    split <;> simp_all
  · rcases hcase b _ hk with ⟨_, h1⟩ | ⟨k1, h1, h2, _⟩
    · exact hg.2 b cs sz wr gr h1
    · cases k1 with
      | cells cs' sz' wr' gr' =>
        obtain rfl := h2 _ _ _ _ rfl
        simp only [ABlk.ren, Option.map_none, ABlk.cells.injEq] at h1
        cases h1.2.2.2
      | dead => cases h1
      | held => cases h1
      | map es => cases h1
  · refine isHeld_of fun x hx => ?_
    rcases hcase b _ hx with ⟨_, h1⟩ | ⟨k1, rfl, _, h3⟩
    · rintro rfl
      rw [h1] at hh; cases hh
    · exact ren_held h3
/-- **The step of something that is seen.** -/
theorem stepO_frame {cO : CallO} {c : FuncId → List AV → AMem → Option (AV × AMem)} (hc : SoundO cO c) {fuel : Nat} {fs : FuncId → Bool} {way : List (Nat × Bool)} {f : FuncId} {args : List AV} {M : AMem} {ρ : List Nat} {l : List ABlk} {a : List AV} {roots : AV → List AV} {r : AV} {σ : List Nat} {l2 : List ABlk} {a2 : List AV} {owe : List (Bool × Bool)}
    (hf : fs f = true) (hok : Okg M) (hv : view fuel M args = some (ρ, l, a)) (hs : stepO cO fuel way f a l M.g roots = some (r, σ, l2, a2, owe)) (howe : ∀ p ∈ owe, p.1 = p.2) :
    ∃ M', frameX fuel fs c f args M = some (r.ren (extN ρ M.n), M') ∧ After M ρ M' ∧ view fuel M' (AV.rens (extN ρ M.n) (roots r)) = some (σ.map (extN ρ M.n), l2, a2) := by
  have V := viewed_of hv
  have hlt := view_lt hv hok.1
  unfold stepO at hs
  split at hs
  rotate_left
  · cases hs
  rename_i r1 m s h1
  split at hs
  rotate_left
  · cases hs
  rename_i h2
  simp only [Bool.and_eq_true] at h2
  obtain ⟨h2, h4⟩ := h2
  have h4 := Nat.le_of_ble_eq_true h4
  rw [V.len] at h4
  split at hs
  rotate_left
  · cases hs
  rename_i σ1 l21 a21 h5
  cases hs
  have hfull : (clean fuel m (a ++ [r])).t.Full (clean fuel m (a ++ [r])).n := clean_full
  have hrun := (hc _ _ _ _ _ _ _ h1).2 howe
  refine ⟨glue M ρ (clean fuel m (a ++ [r])), ?_, after_glue hok.1 hfull h4 h2, view_map (extN_inj V.nodup hlt) (glue_at V.nodup hlt hfull h4) h5⟩
  unfold frameX
  rw [if_pos hf, hv]
  simp only [hrun, h2, if_true]
end Go.Vx
