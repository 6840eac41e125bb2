/- What a piece of the run leaves alone, and what is seen behind it. -/
import Derived.Test.YtldijnabgabehaaSoCall
namespace Go.Proofs.Ytldijnabgabehaa.so
open Go Go.Vx
def NH (M : AMem) : Prop := ∀ b, isHeld (M.get b) = false
abbrev N0 (M : AMem) : AMem := ⟨.nil, 0, M.g⟩
theorem step0 {M : AMem} (h : Okg M) (hh : NH M) : Step (N0 M) M :=
  ⟨⟨Nat.zero_le _, fun _ hb => absurd hb (Nat.not_lt_zero _), rfl, fun _ => h.1⟩, h, fun b _ => hh b⟩
theorem step_nh {A M : AMem} (h : Step A M) (hn : A.n = 0) : NH M := fun b => h.nh b (by omega)
/-- All but the blocks in X stand as they stood (but for those that others may share). -/
structure Ev (A B : AMem) (X : Nat → Prop) : Prop where
  n : A.n ≤ B.n
  g : B.g = A.g
  same : ∀ b k, A.get b = some k → grpOf k = none → ¬ X b → B.get b = some k
  ok : Okg B
  nh : NH B
theorem Ev.refl {A : AMem} (h : Okg A) (hh : NH A) (X : Nat → Prop) : Ev A A X := ⟨Nat.le_refl _, rfl, fun _ _ h _ _ => h, h, hh⟩
theorem Ev.trans {A B C : AMem} {X Y Z : Nat → Prop} (h : Ev A B X) (k : Ev B C Y) (hx : ∀ b, X b → Z b) (hy : ∀ b, b < A.n → Y b → Z b) (hok : Ok A) : Ev A C Z :=
  ⟨Nat.le_trans h.n k.n, k.g.trans h.g, fun b x hb hg hz => k.same b x (h.same b x hb hg fun hx' => hz (hx b hx')) hg fun hy' => hz (hy b (get_lt hok hb) hy'), k.ok, k.nh⟩
theorem Ev.mono {A B : AMem} {X Z : Nat → Prop} (h : Ev A B X) (hx : ∀ b, X b → Z b) : Ev A B Z := ⟨h.n, h.g, fun b k hb hg hz => h.same b k hb hg fun hx' => hz (hx b hx'), h.ok, h.nh⟩
/-- the same, of all blocks -/
structure EvA (A B : AMem) (X : Nat → Prop) : Prop where
  n : A.n ≤ B.n
  g : B.g = A.g
  same : ∀ b, b < A.n → ¬ X b → B.get b = A.get b
  ok : Okg B
  nh : NH B
theorem EvA.ev {A B : AMem} {X : Nat → Prop} (h : EvA A B X) (hok : Ok A) : Ev A B X := ⟨h.n, h.g, fun b k hb _ hx => by rw [h.same b (get_lt hok hb) hx, hb], h.ok, h.nh⟩
theorem EvA.trans {A B C : AMem} {X Y Z : Nat → Prop} (h : EvA A B X) (k : EvA B C Y) (hx : ∀ b, X b → Z b) (hy : ∀ b, b < A.n → Y b → Z b) : EvA A C Z :=
  ⟨Nat.le_trans h.n k.n, k.g.trans h.g, fun b hb hz => (k.same b (Nat.lt_of_lt_of_le hb h.n) fun hy' => hz (hy b hb hy')).trans (h.same b hb fun hx' => hz (hx b hx')), k.ok, k.nh⟩
theorem EvA.of_step {A B : AMem} (h : Step A B) (hA : NH A) (X : Nat → Prop) : EvA A B X :=
  ⟨h.grow.n, h.grow.g, fun b hb _ => h.grow.get b hb, h.ok, fun b => by
    by_cases hlt : b < A.n
    · rw [h.grow.get b hlt]; exact hA b
    · exact h.nh b (by omega)⟩
theorem EvA.of_after {A B : AMem} {ρ : List Nat} (h : After A ρ B) (hok : Okg A) (hA : NH A) : EvA A B (· ∈ ρ) :=
  ⟨h.n, h.g, h.same, h.ok hok, fun b => h.nh b (hA b)⟩
/-- a number that was kept is filled, behind a call -/
theorem EvA.fill {A H : AMem} {ρ : List Nat} (hok : Okg A) (hA : NH A) (h : After (A.push .held) ρ H) (hρ : ∀ c ∈ ρ, c < A.n) (cs : List AV) :
    H.get A.n = some .held ∧ EvA A (H.set A.n (.cells cs 0 true none)) (· ∈ ρ) ∧ (H.set A.n (.cells cs 0 true none)).get A.n = some (.cells cs 0 true none) ∧ (∀ c, c ≠ A.n → (H.set A.n (.cells cs 0 true none)).get c = H.get c) ∧ A.n < H.n := by
  have hn : (A.push .held).n = A.n + 1 := push_n
  have h1 : H.get A.n = some .held := (h.same A.n (by omega) fun hc => Nat.lt_irrefl _ (hρ _ hc)).trans (get_push_self hok.1)
  have hget : ∀ c, (H.set A.n (.cells cs 0 true none)).get c = if c = A.n then some (.cells cs 0 true none) else H.get c := fun c => get_set_mem h1
  have hokH := h.ok hok.held
  have hge := h.n
  refine ⟨h1, ⟨by rw [set_n]; omega, h.g, fun b hb hx => ?_, ⟨hokH.1.set _ _, fun b cs' sz wr g hb => ?_⟩, fun b => ?_⟩, by rw [hget, if_pos rfl], fun c hc => by rw [hget, if_neg hc], by omega⟩
  · rw [hget, if_neg (by omega), h.same b (by omega) hx, get_push_old hok.1 hb]
  · rw [hget] at hb
    split at hb
    · cases hb
    · exact hokH.2 b cs' sz wr g hb
  · rw [hget]
    split
    · rfl
    · rename_i hne
      refine h.nh b ?_
      by_cases hlt : b < A.n
      · rw [get_push_old hok.1 hlt]; exact hA b
      · exact held_ge hok.held.1 (by omega)
theorem Ev.of_keeps {A B : AMem} {s : AV} (h : Step (N0 A) B) (hk : Keeps A B s) (hn : A.n ≤ B.n) : Ev A B (fun c => sbOf s = some c) :=
  ⟨hn, h.grow.g, fun b k hb hg hx => hk b k hb hg hx, h.ok, step_nh h rfl⟩
theorem Seen.blk {M : AMem} {b : Nat} {ρ : List Nat} {S : List ABlk} (h : Seen M b ρ S) {c : Nat} (hc : c ∈ ρ) : ∃ k, M.get c = some k ∧ grpOf k = none := by
  obtain ⟨i, hi, rfl⟩ := List.getElem_of_mem hc
  obtain ⟨k, h1, h2, _⟩ := (viewed_of h).at_ i _ (List.getElem?_eq_getElem hi)
  refine ⟨k, h1, ?_⟩
  have := okB_grp h2
  cases k with
  | cells cs sz wr g => exact this _ _ _ _ rfl
  | _ => rfl
theorem Seen.keep {A B : AMem} {X : Nat → Prop} {b : Nat} {ρ : List Nat} {S : List ABlk} (h : Seen A b ρ S) (e : Ev A B X) (hx : ∀ c ∈ ρ, ¬ X c) : Seen B b ρ S :=
  h.same fun c hc => by
    obtain ⟨k, h1, h2⟩ := h.blk hc
    rw [e.same c k h1 h2 (hx c hc), h1]
theorem Seen.lt {M : AMem} {b : Nat} {ρ : List Nat} {S : List ABlk} (h : Seen M b ρ S) (hok : Ok M) : ∀ c ∈ ρ, c < M.n := view_lt h hok
/-- a new struct, laid and filled -/
theorem fill_new {M : AMem} {z new : List AV} {n : Nat} (hok : Okg M) (hh : NH M) (hz : z.length = n) (hl : new.length = n) (hone : new.all AV.one = true) :
    ∃ M', opI (.store n) [.ptr (some (M.n, 0)), .agg new] (M.push (.cells z 0 true none)) = some (.val (.tuple []) M') ∧ EvA M M' (fun _ => False) ∧ M'.get M.n = some (.cells new 0 true none) ∧ M.n < M'.n := by
  have s1 : Step M (M.push (.cells z 0 true none)) := (Step.refl hok).push (fun _ _ _ _ he => by cases he)
  obtain ⟨h1, h2, h3, _⟩ := store_all s1 (Nat.le_refl _) (get_push_self hok.1) hl hz hone
  exact ⟨_, h1, EvA.of_step h2 hh _, h3, by rw [set_n, push_n]; omega⟩
end Go.Proofs.Ytldijnabgabehaa.so
