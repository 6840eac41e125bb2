/- A range over a function whose iterator writes one captured cell of its own between two yields. -/
import Derived.Test.YtphdlmmllahgkaaDoorT
import Derived.RangeFuncNested
import Derived.RangeFuncBox
import Derived.RangeFuncLeaves
import Derived.WalkKit
namespace Go.Vx
open Go Go.RowKit
theorem wpIn_rangeFunc_box {α : Type} {F : Fence} {n : Nat} {P : Program} {g : Operand} {ps : Array Tmp} {assign body : Code} {Q : Exit → Act → World → Prop} {a : Act} {w : World}
    (hro : F.round = none) (h1 : 1 ≤ n) {gf : Nat} {lb : Array Value} (hg : a.eval g = .func (.func gf) #[] lb) (hFg : F.fn gf) (eg : ∀ args w, (callFunc gf args).run P w = .ok (.enter gf args) w)
    {encs : α → Array Value} {S : List α → Prop} {N sB : Nat} {K : Nat → Prop} (hsB : sB < w.heap.size) (hps : ∀ x, (encs x).size = ps.size)
    (I : List α → World → Prop) (hI : OwnFrom w.heap.size I) (hIs : ∀ s W v, I s W → I s (W.setCell ⟨sB, 0, none⟩ v)) (h0 : I [] w) (a₁ : α → Act)
    (hseq : ∀ (l : Nat) (J : List α → World → Prop) (W : World), Below w.heap.size w W → (∀ s W v, J s W → J s (W.setCell ⟨sB, 0, none⟩ v)) →
      (∀ pre x W1, J pre W1 → pre.length < N → YieldAt F (n - 1 - 1) P l (encs x) W1 fun e W' => e = .returned (.bool true) ∧ J (pre ++ [x]) W' ∧ ∀ k, K k → W'.heap[k]? = W1.heap[k]?) → J [] W →
      CallsIn F (n - 1) P gf (#[.func (.yield l) #[] #[]] ++ lb) W fun e W' => (∃ v, e = .returned v) ∧ ∃ xs, S xs ∧ J xs W')
    (hK : ∀ k, K k → k < w.heap.size)
    (hassign : ∀ (l : Nat) (x : α) (W : World) (K : Act → World → Prop), K (a₁ x) W →
      assign.wpIn (F.inRound l) (n - 1 - 1) P (Exit.then K (fun _ _ _ => False)) { tmps := (ps.zip (encs x)).foldl (fun t (p, v) => t.setIfInBounds p v) a.tmps, defers := [] } W)
    (hbody : ∀ (l : Nat) (pre : List α) (x : α) (W : World), I pre W → pre.length < N → body.wpIn (F.inRound l) (n - 1 - 1) P (fun e _ W' => e = .normal ∧ KeepsFrom w.heap.size W W' ∧ I (pre ++ [x]) W' ∧ ∀ k, K k → W'.heap[k]? = W.heap[k]?) (a₁ x) W)
    (hdone : ∀ (D : Nat) (xs : List α) (W : World), w.heap.size ≤ D → S xs → I xs W → W.heap[D]? = some (.deferred (some [])) → Q .normal { a with defers := { target := .collected D, args := #[] } :: a.defers } W) :
    (Code.rangeFunc g ps assign body).wpIn F n P Q a w := by
  refine wpIn_rangeFunc ?_
  intro fn hfn
  rw [hro]
  obtain ⟨rec, hrec⟩ : ∃ rec : LoopState → Option Code → Loop, rec = fun st pe => { state := st, pending := pe, fn, tmps := a.tmps, params := ps, assign, body, defers := w.heap.size } := ⟨_, rfl⟩
  obtain ⟨W1, hW1⟩ : ∃ W1, (w.alloc (.deferred (some []))).alloc (.loop (rec .ready none)) = W1 := ⟨_, rfl⟩
  have hL1 : W1.heap[w.heap.size + 1]? = some (.loop (rec .ready none)) := by
    rw [← hW1]; have := World.alloc_heap_new (w.alloc (.deferred (some []))) (.loop (rec .ready none)); rwa [World.size_alloc] at this
  have hK1 : W1.heap[w.heap.size]? = some (.deferred (some [])) := by
    rw [← hW1]; exact (Below.heap_alloc _ _ _ (by simp)).trans (World.alloc_heap_new w _)
  have hI1 : I [] W1 := by rw [← hW1]; exact hI.alloc _ (hI.alloc _ h0)
  have hb1 : Below w.heap.size w W1 := by
    rw [← hW1]; exact ((Below.refl _ w).alloc (Nat.le_refl _) _).alloc (by simp) _
  refine ⟨w.heap.size + 1, [{ target := .collected w.heap.size, args := #[] }], W1, { target := .fn (.func gf) lb, args := #[.func (.yield (w.heap.size + 1)) #[] #[]] }, W1, gf,
    #[.func (.yield (w.heap.size + 1)) #[] #[]] ++ lb, W1, ?_, ?_, ?_, ?_, fun _ => h1, ?_⟩
  · rw [← hW1, hrec]; exact run_enterLoop_outer _ _ _ _ _
  · simp only [resolve, hg]
    simp [go_sem]
  · intro f' hf'; simp [Target.leads] at hf'; subst hf'; exact hFg
  · simp [invoke, go_sem, eg]
  · refine (hseq (w.heap.size + 1) (fun pre W => I pre W ∧ W.heap[w.heap.size + 1]? = some (.loop (rec .ready none)) ∧ W.heap[w.heap.size]? = some (.deferred (some []))) W1 hb1
      (fun s W v hs => ⟨hIs s W v hs.1, (Below.heap_setCell W ⟨sB, 0, none⟩ v _ (by show w.heap.size + 1 ≠ sB; omega)).trans hs.2.1, (Below.heap_setCell W ⟨sB, 0, none⟩ v _ (by show w.heap.size ≠ sB; omega)).trans hs.2.2⟩)
      ?_ ⟨hI1, hL1, hK1⟩).mono ?_
    · rintro pre x W ⟨hi, hl, hk⟩ hlen
      have hlt : w.heap.size + 1 < W.heap.size := (Array.getElem?_eq_some_iff.1 hl).1
      have hy := run_yield (P := P) (args := encs x) hl (by rw [hrec]; exact hps x)
      rw [hrec] at hy
      refine ⟨fn, _, assign, body, hy, roundIn_of_wpIn hfn (hassign _ x W _ ?_)⟩
      refine ⟨_, run_beginRound hl (by rw [hrec]), ?_⟩
      have hl2 : (W.putObj (w.heap.size + 1) (.loop { rec .ready none with state := .busy })).heap[w.heap.size + 1]? = some (.loop { rec .ready none with state := .busy }) := World.putObj_heap_same hlt
      have hk2 : (W.putObj (w.heap.size + 1) (.loop { rec .ready none with state := .busy })).heap[w.heap.size]? = some (.deferred (some [])) := (World.putObj_heap_other (by omega)).trans hk
      refine wpIn_mono (hbody _ pre x _ (hI.putObj _ hi (by omega) hl rfl) hlen) ?_
      rintro e a3 W3 ⟨rfl, hk3, hi3, hkk⟩
      have hl3 := hk3.same _ _ (by omega) hl2 rfl
      have hend := run_endRound (P := P) none hl3
      rw [hrec] at hend
      refine ⟨_, _, hend, ?_⟩
      rw [hrec] at hl3
      refine ⟨rfl, ⟨hI.putObj _ hi3 (by omega) hl3 rfl, ?_, (World.putObj_heap_other (by omega)).trans (hk3.same _ _ (Nat.le_refl _) hk2 rfl)⟩, fun k hkK => ?_⟩
      · rw [World.putObj_heap_same (Array.getElem?_eq_some_iff.1 hl3).1, hrec]; rfl
      · have := hK k hkK
        rw [World.putObj_heap_other (by omega), hkk k hkK, World.putObj_heap_other (by omega)]
    · rintro e W2 ⟨⟨v, rfl⟩, xs, hS, hi, hl, hk⟩
      exact ⟨none, _, by have := run_endLoop (P := P) hl (by rw [hrec]; simp); rw [hrec] at this; exact this, hdone _ xs _ (Nat.le_refl _) hS (hI.putObj _ hi (by omega) hl rfl) ((World.putObj_heap_other (by omega)).trans hk)⟩
/-- A block that was made by others, of the world's later ones. -/
theorem MR.madeN [Val] {B : Nat → Prop} {w0 w w' : World} {e : Env} {M : AMem} (h : MR B w0 e M w) {p d sz : Nat} {cs : List AV} {vs : List Value} {arr : Array Value} {T : TypeId} (hb : RowKit.Below w.heap.size w w') (hp : w.heap.size ≤ p) (hblk : w'.heap[p]? = some (.cells arr T (0, 0)))
    (hc : concs e cs = some vs) (hsz : cs.length + d * sz ≤ arr.size) (hval : ∀ (i : Nat) (v : Value), vs[i]? = some v → arr[i]? = some v) (g : Option Nat) : MR B w0 (e.set M.n ⟨p, 0, d⟩) (M.push (.cells cs sz true g)) w' := by
  have h' := h.outside hb
  have hpl : p < w'.heap.size := (Array.getElem?_eq_some_iff.1 hblk).1
  have hget : ∀ m, (M.push (.cells cs sz true g)).get m = if m = M.n then some (.cells cs sz true g) else M.get m := fun m => Tr.get_push M.t M.n _ m h.full
  refine ⟨fun b hb => by simp only [AMem.push] at hb; unfold Env.set; rw [if_neg (by omega)]; exact h.fresh b (by omega), Tr.full_push h.full _, h'.below, h'.base, ?_, ?_, ?_, ?_, h.ro⟩
  · intro b j x hj hx
    rw [hget] at hj
    rcases Env.set_get hx with ⟨hb, hx'⟩ | ⟨rfl, rfl⟩
    · rw [if_neg hb] at hj
      exact (h'.blocks b j x hj hx').ext (h.one _)
    · rw [if_pos rfl] at hj; cases hj
      exact ⟨arr, T, (0, 0), vs, hblk, fun _ => rfl, by simpa using hsz, (h.one _).concs hc, by intro i v hv; simpa using hval i v hv⟩
  · intro b j x hj hx hw
    rw [hget] at hj
    rcases Env.set_get hx with ⟨hb, hx'⟩ | ⟨rfl, rfl⟩
    · rw [if_neg hb] at hj
      exact h.own b j x hj hx' hw
    · exact fun hb => absurd (h.base _ hb) (by show ¬ p < _; omega)
  · intro b b' j j' x x' hne hj hj' hx hx' he
    rw [hget] at hj hj'
    rcases Env.set_get hx with ⟨hb, hx1⟩ | ⟨rfl, rfl⟩
    · rw [if_neg hb] at hj
      rcases Env.set_get hx' with ⟨hb', hx1'⟩ | ⟨rfl, rfl⟩
      · rw [if_neg hb'] at hj'
        exact h.sep b b' j j' x x' hne hj hj' hx1 hx1' he
      · have := h.room b x hx1
        simp only at he; omega
    · rcases Env.set_get hx' with ⟨hb', hx1'⟩ | ⟨rfl, rfl⟩
      · have := h.room b' x' hx1'
        simp only at he; omega
      · exact absurd rfl hne
  · intro b x hx
    rcases Env.set_get hx with ⟨hb, hx'⟩ | ⟨rfl, rfl⟩
    · exact h'.room b x hx'
    · exact hpl
end Go.Vx
