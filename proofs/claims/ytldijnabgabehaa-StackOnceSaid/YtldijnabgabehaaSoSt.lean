/- The states of a walk: which goes with which plain one; what it wants, what it becomes. -/
import Derived.Test.YtldijnabgabehaaSoMem
import Derived.Test.YtldijnabgabehaaSoPlay
namespace Go.Proofs.Ytldijnabgabehaa.so
open Go Go.Vx
/-- a pair in one word -/
def pr (t i : Nat) : Nat := t * 4294967296 + i
theorem wi {x : Int} (h1 : -9223372036854775808 ≤ x) (h2 : x ≤ 9223372036854775807) : wrapF .i64 x = x := by unfold wrapF; simp only; omega
theorem wu {x : Int} (h1 : 0 ≤ x) (h2 : x ≤ 18446744073709551615) : wrapF .u64 x = x := by unfold wrapF; simp only; omega
theorem w3 {x : Int} (h1 : 0 ≤ x) (h2 : x < 4294967296) : wrapF .u32 x = x := by unfold wrapF; simp only; omega
theorem lo_pr {t i : Nat} (h : i < 4294967296) : wrapF .u32 ((pr t i : Nat) : Int) = (i : Int) := by unfold wrapF pr; simp only; omega
theorem hi_pr {t i : Nat} (h : i < 4294967296) : ((pr t i : Nat) : Int).fdiv 4294967296 = (t : Int) := by
  unfold pr; rw [Int.fdiv_eq_ediv_of_nonneg _ (by decide)]; omega
theorem orr {x y : Int} (h1 : 0 ≤ x) (h2 : x < 4294967296) (h3 : 0 ≤ y) (h4 : y < 4294967296) : ((BitVec.ofInt 64 (x * 4294967296) ||| BitVec.ofInt 64 y).toNat : Int) = x * 4294967296 + y := by
  obtain ⟨a, rfl⟩ : ∃ a : Nat, x = a := ⟨x.toNat, by omega⟩
  obtain ⟨b, rfl⟩ : ∃ b : Nat, y = b := ⟨y.toNat, by omega⟩
  rw [BitVec.toNat_or, BitVec.toNat_ofInt, BitVec.toNat_ofInt]
  have e1 : ((a : Int) * 4294967296 % ((2 ^ 64 : Nat) : Int)).toNat = a <<< 32 := by
    rw [Nat.shiftLeft_eq]; omega
  have e2 : ((b : Int) % ((2 ^ 64 : Nat) : Int)).toNat = b := by omega
  rw [e1, e2, ← Nat.shiftLeft_add_eq_or_of_lt (by omega), Nat.shiftLeft_eq]
  omega
theorem pair {t y : Nat} (ht : t + 1 < 4294967296) (hy : y < 4294967296) : wrapF .u64 ((BitVec.ofInt 64 (wrapF .u64 (wrapF .u64 (wrapF .u32 (wrapF .u32 (t : Int) + 1)) * 4294967296)) ||| BitVec.ofInt 64 (y : Int)).toNat : Int) = ((pr (t + 1) y : Nat) : Int) := by
  rw [w3 (x := (t : Int)) (by omega) (by omega), w3 (by omega) (by omega), wu (x := (t : Int) + 1) (by omega) (by omega), wu (x := ((t : Int) + 1) * 4294967296) (by omega) (by omega), orr (by omega) (by omega) (by omega) (by omega), wu (by omega) (by omega)]
  unfold pr; omega

/-! Bounds. -/
structure Bd (n V T : Nat) (m : Mem) : Prop where
  tt : m.tt ≤ T
  ht : m.ht ≤ T
  ti : m.ti ≤ n
  hi : m.hi ≤ n
  link : ∀ i, m.link i ≤ n
  below : ∀ i, m.below i ≤ n
  task : ∀ i, m.task i ≤ V
def BdW (n V T : Nat) : Wk → Prop
  | .t1 v => v ≤ V
  | .t2 v h => v ≤ V ∧ h.1 ≤ T ∧ 1 ≤ h.2 ∧ h.2 ≤ n
  | .t3 v h l => v ≤ V ∧ h.1 ≤ T ∧ 1 ≤ h.2 ∧ h.2 ≤ n ∧ l ≤ n
  | .p2 v i | .p3 v i | .u1 v i => v ≤ V ∧ 1 ≤ i ∧ i ≤ n
  | .p4 v i t | .p5 v i t | .u2 v i t | .u3 v i t => v ≤ V ∧ 1 ≤ i ∧ i ≤ n ∧ t.1 ≤ T ∧ t.2 ≤ n
  | .q2 t => t.1 ≤ T ∧ 1 ≤ t.2 ∧ t.2 ≤ n
  | .q3 t b => t.1 ≤ T ∧ 1 ≤ t.2 ∧ t.2 ≤ n ∧ b ≤ n
  | .q4 i => 1 ≤ i ∧ i ≤ n
  | .popped v => v ≤ V
  | _ => True
theorem upd_le {f : Nat → Nat} {i x n : Nat} (h : ∀ j, f j ≤ n) (hx : x ≤ n) : ∀ j, upd f i x j ≤ n := fun j => by
  unfold upd; split
  · exact hx
  · exact h j
theorem BdW.mono {n V T V' T' : Nat} {w : Wk} (h : BdW n V T w) (hv : V ≤ V') (ht : T ≤ T') : BdW n V' T' w := by
  cases w <;> simp only [BdW] at h ⊢ <;> omega
theorem Bd.mono {n V T V' T' : Nat} {m : Mem} (h : Bd n V T m) (hv : V ≤ V') (ht : T ≤ T') : Bd n V' T' m :=
  ⟨Nat.le_trans h.tt ht, Nat.le_trans h.ht ht, h.ti, h.hi, h.link, h.below, fun i => Nat.le_trans (h.task i) hv⟩
theorem head1_bd {n V T : Nat} {m : Mem} {v : Nat} (h : Bd n V T m) (hv : v ≤ V) : BdW n V T (head1 m v) := by
  unfold head1
  split
  · trivial
  · exact ⟨hv, h.ht, by omega, h.hi⟩
theorem top1_bd {n V T : Nat} {m : Mem} (h : Bd n V T m) : BdW n V T (top1 m) := by
  unfold top1
  split
  · trivial
  · exact ⟨h.tt, by omega, h.ti⟩
theorem step_bd {n V T : Nat} {m : Mem} {w : Wk} (h : Bd n V T m) (hw : BdW n V T w) : Bd n V (T + 1) (step m w).1 ∧ BdW n V (T + 1) (step m w).2 := by
  have hm := h.mono (Nat.le_refl V) (Nat.le_succ T)
  have hm' := hw.mono (Nat.le_refl V) (Nat.le_succ T)
  cases w with
  | t1 v => exact ⟨hm, (head1_bd h hw).mono (Nat.le_refl _) (Nat.le_succ _)⟩
  | t2 v h2 => exact ⟨hm, by simp only [BdW] at hm'; exact ⟨hm'.1, hm'.2.1, hm'.2.2.1, hm'.2.2.2, h.link _⟩⟩
  | t3 v h2 l =>
    simp only [BdW] at hw
    by_cases he : (m.ht, m.hi) = h2
    · have e : step m (.t3 v h2 l) = ({ m with ht := h2.1 + 1, hi := l }, .p2 v h2.2) := if_pos he
      rw [e]
      exact ⟨⟨hm.tt, by simp only; omega, hm.ti, hw.2.2.2.2, hm.link, hm.below, hm.task⟩, ⟨hw.1, hw.2.2.1, hw.2.2.2.1⟩⟩
    · have e : step m (.t3 v h2 l) = (m, head1 m v) := if_neg he
      rw [e]
      exact ⟨hm, (head1_bd h hw.1).mono (Nat.le_refl _) (Nat.le_succ _)⟩
  | p2 v i => exact ⟨⟨hm.tt, hm.ht, hm.ti, hm.hi, hm.link, hm.below, upd_le hm.task hw.1⟩, hw⟩
  | p3 v i => exact ⟨hm, hw.1, hw.2.1, hw.2.2, hm.tt, hm.ti⟩
  | p4 v i t => exact ⟨⟨hm.tt, hm.ht, hm.ti, hm.hi, hm.link, upd_le hm.below hw.2.2.2.2, hm.task⟩, hm'⟩
  | p5 v i t =>
    simp only [BdW] at hw
    by_cases he : (m.tt, m.ti) = t
    · have e : step m (.p5 v i t) = ({ m with tt := t.1 + 1, ti := i }, .pushed v) := if_pos he
      rw [e]
      exact ⟨⟨by simp only; omega, hm.ht, hw.2.2.1, hm.hi, hm.link, hm.below, hm.task⟩, trivial⟩
    · have e : step m (.p5 v i t) = (m, .p4 v i (m.tt, m.ti)) := if_neg he
      rw [e]
      exact ⟨hm, hw.1, hw.2.1, hw.2.2.1, hm.tt, hm.ti⟩
  | q1 => exact ⟨hm, (top1_bd h).mono (Nat.le_refl _) (Nat.le_succ _)⟩
  | q2 t => exact ⟨hm, hm'.1, hm'.2.1, hm'.2.2, h.below _⟩
  | q3 t b =>
    simp only [BdW] at hw
    by_cases he : (m.tt, m.ti) = t
    · have e : step m (.q3 t b) = ({ m with tt := t.1 + 1, ti := b }, .q4 t.2) := if_pos he
      rw [e]
      exact ⟨⟨by simp only; omega, hm.ht, hw.2.2.2, hm.hi, hm.link, hm.below, hm.task⟩, hw.2.1, hw.2.2.1⟩
    · have e : step m (.q3 t b) = (m, top1 m) := if_neg he
      rw [e]
      exact ⟨hm, (top1_bd h).mono (Nat.le_refl _) (Nat.le_succ _)⟩
  | q4 i => exact ⟨hm, hm.task _, hw.1, hw.2⟩
  | u1 v i => exact ⟨hm, hw.1, hw.2.1, hw.2.2, hm.ht, hm.hi⟩
  | u2 v i t => exact ⟨⟨hm.tt, hm.ht, hm.ti, hm.hi, upd_le hm.link hw.2.2.2.2, hm.below, hm.task⟩, hm'⟩
  | u3 v i t =>
    simp only [BdW] at hw
    by_cases he : (m.ht, m.hi) = t
    · have e : step m (.u3 v i t) = ({ m with ht := t.1 + 1, hi := i }, .popped v) := if_pos he
      rw [e]
      exact ⟨⟨hm.tt, by simp only; omega, hm.ti, hw.2.2.1, hm.link, hm.below, hm.task⟩, hw.1⟩
    · have e : step m (.u3 v i t) = (m, .u2 v i (m.ht, m.hi)) := if_neg he
      rw [e]
      exact ⟨hm, hw.1, hw.2.1, hw.2.2.1, hm.ht, hm.hi⟩
  | _ => exact ⟨hm, hm'⟩

/-! The cells. -/
def cellsOf (n : Nat) (m : Mem) : List Nat := (List.range (3 * n + 2)).map fun k => if k = 0 then pr m.tt m.ti else if k = 1 then pr m.ht m.hi else if k ≤ n + 1 then m.link (k - 1) else if k ≤ 2 * n + 1 then m.task (k - 1 - n) else m.below (k - 1 - 2 * n)
/-- what is wanted: the kind, the cell, two words -/
def want (n : Nat) : Wk → Nat × Nat × Nat × Nat
  | .t1 _ => (1, 1, 0, 0)
  | .t2 _ h => (1, 1 + h.2, 0, 0)
  | .t3 _ h l => (3, 1, pr h.1 h.2, pr (h.1 + 1) l)
  | .p2 v i => (2, 1 + n + i, v, 0)
  | .p3 _ _ => (1, 0, 0, 0)
  | .p4 _ i t => (2, 1 + 2 * n + i, t.2, 0)
  | .p5 _ i t => (3, 0, pr t.1 t.2, pr (t.1 + 1) i)
  | .q1 => (1, 0, 0, 0)
  | .q2 t => (1, 1 + 2 * n + t.2, 0, 0)
  | .q3 t b => (3, 0, pr t.1 t.2, pr (t.1 + 1) b)
  | .q4 i => (1, 1 + n + i, 0, 0)
  | .u1 _ _ => (1, 1, 0, 0)
  | .u2 _ i h => (2, 1 + i, h.2, 0)
  | .u3 _ i h => (3, 1, pr h.1 h.2, pr (h.1 + 1) i)
  | _ => (0, 0, 0, 0)
/-- an access -/
def doL (a : Nat × Nat × Nat × Nat) (L : List Nat) : Nat × Bool × List Nat :=
  if a.1 = 1 then (L.getD a.2.1 0, true, L) else if a.1 = 2 then (L.getD a.2.1 0, true, L.set a.2.1 a.2.2.1)
  else if L.getD a.2.1 0 = a.2.2.1 then (L.getD a.2.1 0, true, L.set a.2.1 a.2.2.2) else (L.getD a.2.1 0, false, L)
/-- what is told -/
def told (m : Mem) : Wk → Nat × Bool
  | .t1 _ => (pr m.ht m.hi, true)
  | .t2 _ h => (m.link h.2, true)
  | .t3 _ h _ => (pr m.ht m.hi, decide ((m.ht, m.hi) = h))
  | .p2 _ i => (m.task i, true)
  | .p3 _ _ => (pr m.tt m.ti, true)
  | .p4 _ i _ => (m.below i, true)
  | .p5 _ _ t => (pr m.tt m.ti, decide ((m.tt, m.ti) = t))
  | .q1 => (pr m.tt m.ti, true)
  | .q2 t => (m.below t.2, true)
  | .q3 t _ => (pr m.tt m.ti, decide ((m.tt, m.ti) = t))
  | .q4 i => (m.task i, true)
  | .u1 _ _ => (pr m.ht m.hi, true)
  | .u2 _ i _ => (m.link i, true)
  | .u3 _ _ h => (pr m.ht m.hi, decide ((m.ht, m.hi) = h))
  | _ => (0, true)
theorem cells_len {n : Nat} {m : Mem} : (cellsOf n m).length = 3 * n + 2 := by simp [cellsOf]
theorem cells_get {n k : Nat} {m : Mem} (h : k < 3 * n + 2) : (cellsOf n m).getD k 0 = if k = 0 then pr m.tt m.ti else if k = 1 then pr m.ht m.hi else if k ≤ n + 1 then m.link (k - 1) else if k ≤ 2 * n + 1 then m.task (k - 1 - n) else m.below (k - 1 - 2 * n) := by
  unfold cellsOf
  rw [List.getD_eq_getElem?_getD, List.getElem?_map, List.getElem?_range h]; rfl
theorem cells_set {n k x : Nat} {m m' : Mem} (h : k < 3 * n + 2) (h1 : ∀ j, j < 3 * n + 2 → (cellsOf n m').getD j 0 = if j = k then x else (cellsOf n m).getD j 0) : (cellsOf n m).set k x = cellsOf n m' := by
  apply List.ext_getElem
  · rw [List.length_set, cells_len, cells_len]
  · intro j hj hj'
    rw [cells_len] at hj'
    have := h1 j hj'
    rw [List.getD_eq_getElem?_getD, List.getD_eq_getElem?_getD, List.getElem?_eq_getElem (by rw [cells_len]; omega), List.getElem?_eq_getElem (by rw [cells_len]; omega)] at this
    simp only [Option.getD_some] at this
    rw [this, List.getElem_set]
    by_cases e : k = j
    · rw [if_pos e, if_pos e.symm]
    · rw [if_neg e, if_neg (Ne.symm e)]
theorem pr_inj {t i t' i' : Nat} (h : i < 4294967296) (h' : i' < 4294967296) : pr t i = pr t' i' ↔ (t, i) = (t', i') := by
  unfold pr
  rw [Prod.mk.injEq]
  omega
end Go.Proofs.Ytldijnabgabehaa.so
