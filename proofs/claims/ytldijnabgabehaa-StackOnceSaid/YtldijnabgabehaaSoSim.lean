/- Each step of a walk over the cells is a plain step. -/
import Derived.Test.YtldijnabgabehaaSoSt
namespace Go.Proofs.Ytldijnabgabehaa.so
open Go Go.Vx
/-- what is done to the cells is what is done plainly -/
theorem step_do {n V T : Nat} {m : Mem} {w : Wk} (h : Bd n V T m) (hw : BdW n V T w) (ho : over w = false) (hn : n ≤ 4096) : doL (want n w) (cellsOf n m) = ((told m w).1, (told m w).2, cellsOf n (step m w).1) := by
  have hti := h.ti
  have hhi := h.hi
  have nl : ∀ k, k < 3 * n + 2 → (k = 0 ∨ k = 1 ∨ (2 ≤ k ∧ k ≤ n + 1) ∨ (n + 2 ≤ k ∧ k ≤ 2 * n + 1) ∨ (2 * n + 2 ≤ k)) := fun k hk => by omega
  have g0 : (cellsOf n m).getD 0 0 = pr m.tt m.ti := by rw [cells_get (by omega), if_pos rfl]
  have g1 : (cellsOf n m).getD 1 0 = pr m.ht m.hi := by rw [cells_get (by omega), if_neg (by omega), if_pos rfl]
  have gl : ∀ i, 1 ≤ i → i ≤ n → (cellsOf n m).getD (1 + i) 0 = m.link i := fun i h1 h2 => by
    rw [cells_get (by omega), if_neg (by omega), if_neg (by omega), if_pos (by omega)]; congr 1; omega
  have gt : ∀ i, 1 ≤ i → i ≤ n → (cellsOf n m).getD (1 + n + i) 0 = m.task i := fun i h1 h2 => by
    rw [cells_get (by omega), if_neg (by omega), if_neg (by omega), if_neg (by omega), if_pos (by omega)]; congr 1; omega
  have gb : ∀ i, 1 ≤ i → i ≤ n → (cellsOf n m).getD (1 + 2 * n + i) 0 = m.below i := fun i h1 h2 => by
    rw [cells_get (by omega), if_neg (by omega), if_neg (by omega), if_neg (by omega), if_neg (by omega)]; congr 1; omega
  have s0 : ∀ t i, (cellsOf n m).set 0 (pr t i) = cellsOf n { m with tt := t, ti := i } := fun t i => cells_set (by omega) fun j hj => by
    rw [cells_get hj, cells_get hj]
    simp only
    (repeat' split) <;> first | (exfalso; omega) | rfl
  have s1 : ∀ t i, (cellsOf n m).set 1 (pr t i) = cellsOf n { m with ht := t, hi := i } := fun t i => cells_set (by omega) fun j hj => by
    rw [cells_get hj, cells_get hj]
    simp only
    (repeat' split) <;> first | (exfalso; omega) | rfl
  have sl : ∀ i x, 1 ≤ i → i ≤ n → (cellsOf n m).set (1 + i) x = cellsOf n { m with link := upd m.link i x } := fun i x h1 h2 => cells_set (by omega) fun j hj => by
    rw [cells_get hj, cells_get hj]
    simp only [upd]
    (repeat' split) <;> first | (exfalso; omega) | rfl
  have st : ∀ i x, 1 ≤ i → i ≤ n → (cellsOf n m).set (1 + n + i) x = cellsOf n { m with task := upd m.task i x } := fun i x h1 h2 => cells_set (by omega) fun j hj => by
    rw [cells_get hj, cells_get hj]
    simp only [upd]
    (repeat' split) <;> first | (exfalso; omega) | rfl
  have sb : ∀ i x, 1 ≤ i → i ≤ n → (cellsOf n m).set (1 + 2 * n + i) x = cellsOf n { m with below := upd m.below i x } := fun i x h1 h2 => cells_set (by omega) fun j hj => by
    rw [cells_get hj, cells_get hj]
    simp only [upd]
    (repeat' split) <;> first | (exfalso; omega) | rfl
  have c0 : ∀ t : Nat × Nat, t.2 ≤ n → (pr m.tt m.ti = pr t.1 t.2 ↔ (m.tt, m.ti) = t) := fun t ht => pr_inj (by omega) (by omega)
  have c1 : ∀ t : Nat × Nat, t.2 ≤ n → (pr m.ht m.hi = pr t.1 t.2 ↔ (m.ht, m.hi) = t) := fun t ht => pr_inj (by omega) (by omega)
  unfold doL
  cases w with
  | t1 v => simp only [want, told, step, if_true, g1]
  | t2 v h2 => simp only [BdW] at hw; simp only [want, told, step, if_true, gl h2.2 hw.2.2.1 hw.2.2.2]
  | t3 v h2 l =>
    simp only [BdW] at hw
    simp only [want, told, step, g1, s1, Nat.reduceEqDiff, if_false, c1 h2 hw.2.2.2.1]
    by_cases he : (m.ht, m.hi) = h2
    · simp only [he, if_true, decide_true]
    · simp only [he, if_false, decide_false]
  | p2 v i => simp only [BdW] at hw; simp only [want, told, step, Nat.reduceEqDiff, if_false, if_true, gt i hw.2.1 hw.2.2, st i _ hw.2.1 hw.2.2]
  | p3 v i => simp only [want, told, step, if_true, g0]
  | p4 v i t => simp only [BdW] at hw; simp only [want, told, step, Nat.reduceEqDiff, if_false, if_true, gb i hw.2.1 hw.2.2.1, sb i _ hw.2.1 hw.2.2.1]
  | p5 v i t =>
    simp only [BdW] at hw
    simp only [want, told, step, g0, s0, Nat.reduceEqDiff, if_false, c0 t hw.2.2.2.2]
    by_cases he : (m.tt, m.ti) = t
    · simp only [he, if_true, decide_true]
    · simp only [he, if_false, decide_false]
  | q1 => simp only [want, told, step, if_true, g0]
  | q2 t => simp only [BdW] at hw; simp only [want, told, step, if_true, gb t.2 hw.2.1 hw.2.2]
  | q3 t b =>
    simp only [BdW] at hw
    simp only [want, told, step, g0, s0, Nat.reduceEqDiff, if_false, c0 t hw.2.2.1]
    by_cases he : (m.tt, m.ti) = t
    · simp only [he, if_true, decide_true]
    · simp only [he, if_false, decide_false]
  | q4 i => simp only [BdW] at hw; simp only [want, told, step, if_true, gt i hw.1 hw.2]
  | u1 v i => simp only [want, told, step, if_true, g1]
  | u2 v i t => simp only [BdW] at hw; simp only [want, told, step, Nat.reduceEqDiff, if_false, if_true, gl i hw.2.1 hw.2.2.1, sl i _ hw.2.1 hw.2.2.1]
  | u3 v i t =>
    simp only [BdW] at hw
    simp only [want, told, step, g1, s1, Nat.reduceEqDiff, if_false, c1 t hw.2.2.2.2]
    by_cases he : (m.ht, m.hi) = t
    · simp only [he, if_true, decide_true]
    · simp only [he, if_false, decide_false]
  | _ => cases ho

/-! The states. -/
def St (n : Nat) : Wk → List ABlk → Prop
  | .t1 v, S => S = W0 (n : Int) (v : Int)
  | .nomem _, S => S = W2
  | .t2 v h, S => S = W3 ((1 + h.2 : Nat) : Int) n (pr h.1 h.2 : Nat) v
  | .t3 v h l, S => S = W6 (pr h.1 h.2 : Nat) (pr (h.1 + 1) l : Nat) n v
  | .p2 v i, S => S = W8 ((1 + n + i : Nat) : Int) v n i
  | .p3 v i, S => S = W11 n i v
  | .p4 v i t, S => S = W13 ((1 + 2 * n + i : Nat) : Int) t.2 n (pr t.1 t.2 : Nat) i v
  | .p5 v i t, S => S = W15 (pr t.1 t.2 : Nat) (pr (t.1 + 1) i : Nat) n i v
  | .pushed _, S => ∃ x y, S = W17 x y
  | .q1, S => S = W1 n
  | .empty, S => S = W4 ∨ ∃ x y, S = W10 x y
  | .q2 t, S => S = W5 ((1 + 2 * n + t.2 : Nat) : Int) n (pr t.1 t.2 : Nat) t.2
  | .q3 t b, S => S = W7 (pr t.1 t.2 : Nat) (pr (t.1 + 1) b : Nat) n t.2
  | .q4 i, S => ∃ x, S = W9 ((1 + n + i : Nat) : Int) n x i
  | .u1 v i, S => ∃ c x, S = W12 c n i x i v
  | .u2 v i h, S => ∃ c x, S = W14 c ((1 + i : Nat) : Int) h.2 n i (pr h.1 h.2 : Nat) x i v
  | .u3 v i h, S => ∃ c x, S = W16 c (pr h.1 h.2 : Nat) (pr (h.1 + 1) i : Nat) n i x i v
  | .popped v, S => ∃ x, S = W18 x v
abbrev fW : FuncId := 58
abbrev fR : FuncId := 40
abbrev fG : FuncId := 46
def acc (a : Nat × Nat × Nat × Nat) : AV := .agg [.int .i64 a.1, .int .i64 a.2.1, .int .u64 a.2.2.1, .int .u64 a.2.2.2]
def resV (r : Nat × Nat) : AV := .agg [.int .i64 r.1, .int .u64 r.2, .slice none 0 0 false]
def Goes (S : List ABlk) (u : Nat) (w : Bool) (S' : List ABlk) : Prop := Ask fG [.int .u64 u, .bool w] S S' (.tuple [])
theorem st_shows {n : Nat} {w : Wk} {S : List ABlk} (h : St n w S) : (over w = false → Ask fW [] S S (.tuple [acc (want n w), .bool true]) ∧ Ask fR [] S S (.tuple [resV (0, 0), .bool false])) ∧ (over w = true → Ask fR [] S S (.tuple [resV (res w), .bool true])) := by
  cases w with
  | t1 v =>
    obtain rfl := h
    refine ⟨fun _ => ⟨ask_of (fun g => W0_want g _ _) rfl rfl (by simp), ask_of (fun g => W0_res g _ _) rfl rfl (by simp)⟩, fun h => by cases h⟩
  | nomem v =>
    obtain rfl := h
    refine ⟨fun h => (by cases h), fun _ => ask_of (fun g => W2_res g ) rfl rfl (by simp)⟩
  | t2 v t =>
    obtain rfl := h
    refine ⟨fun _ => ⟨ask_of (fun g => W3_want g _ _ _ _) rfl rfl (by simp), ask_of (fun g => W3_res g _ _ _ _) rfl rfl (by simp)⟩, fun h => by cases h⟩
  | t3 v t l =>
    obtain rfl := h
    refine ⟨fun _ => ⟨ask_of (fun g => W6_want g _ _ _ _) rfl rfl (by simp), ask_of (fun g => W6_res g _ _ _ _) rfl rfl (by simp)⟩, fun h => by cases h⟩
  | p2 v i =>
    obtain rfl := h
    refine ⟨fun _ => ⟨ask_of (fun g => W8_want g _ _ _ _) rfl rfl (by simp), ask_of (fun g => W8_res g _ _ _ _) rfl rfl (by simp)⟩, fun h => by cases h⟩
  | p3 v i =>
    obtain rfl := h
    refine ⟨fun _ => ⟨ask_of (fun g => W11_want g _ _ _) rfl rfl (by simp), ask_of (fun g => W11_res g _ _ _) rfl rfl (by simp)⟩, fun h => by cases h⟩
  | p4 v i t =>
    obtain rfl := h
    refine ⟨fun _ => ⟨ask_of (fun g => W13_want g _ _ _ _ _ _) rfl rfl (by simp), ask_of (fun g => W13_res g _ _ _ _ _ _) rfl rfl (by simp)⟩, fun h => by cases h⟩
  | p5 v i t =>
    obtain rfl := h
    refine ⟨fun _ => ⟨ask_of (fun g => W15_want g _ _ _ _ _) rfl rfl (by simp), ask_of (fun g => W15_res g _ _ _ _ _) rfl rfl (by simp)⟩, fun h => by cases h⟩
  | pushed v =>
    obtain ⟨_, _, rfl⟩ := h
    refine ⟨fun h => (by cases h), fun _ => ask_of (fun g => W17_res g _ _) rfl rfl (by simp)⟩
  | q1 =>
    obtain rfl := h
    refine ⟨fun _ => ⟨ask_of (fun g => W1_want g _) rfl rfl (by simp), ask_of (fun g => W1_res g _) rfl rfl (by simp)⟩, fun h => by cases h⟩
  | empty =>
    rcases h with rfl | ⟨_, _, rfl⟩
    · refine ⟨fun h => (by cases h), fun _ => ask_of (fun g => W4_res g ) rfl rfl (by simp)⟩
    · refine ⟨fun h => (by cases h), fun _ => ask_of (fun g => W10_res g _ _) rfl rfl (by simp)⟩
  | q2 t =>
    obtain rfl := h
    refine ⟨fun _ => ⟨ask_of (fun g => W5_want g _ _ _ _) rfl rfl (by simp), ask_of (fun g => W5_res g _ _ _ _) rfl rfl (by simp)⟩, fun h => by cases h⟩
  | q3 t b =>
    obtain rfl := h
    refine ⟨fun _ => ⟨ask_of (fun g => W7_want g _ _ _ _) rfl rfl (by simp), ask_of (fun g => W7_res g _ _ _ _) rfl rfl (by simp)⟩, fun h => by cases h⟩
  | q4 i =>
    obtain ⟨_, rfl⟩ := h
    refine ⟨fun _ => ⟨ask_of (fun g => W9_want g _ _ _ _) rfl rfl (by simp), ask_of (fun g => W9_res g _ _ _ _) rfl rfl (by simp)⟩, fun h => by cases h⟩
  | u1 v i =>
    obtain ⟨_, _, rfl⟩ := h
    refine ⟨fun _ => ⟨ask_of (fun g => W12_want g _ _ _ _ _ _) rfl rfl (by simp), ask_of (fun g => W12_res g _ _ _ _ _ _) rfl rfl (by simp)⟩, fun h => by cases h⟩
  | u2 v i t =>
    obtain ⟨_, _, rfl⟩ := h
    refine ⟨fun _ => ⟨ask_of (fun g => W14_want g _ _ _ _ _ _ _ _ _) rfl rfl (by simp), ask_of (fun g => W14_res g _ _ _ _ _ _ _ _ _) rfl rfl (by simp)⟩, fun h => by cases h⟩
  | u3 v i t =>
    obtain ⟨_, _, rfl⟩ := h
    refine ⟨fun _ => ⟨ask_of (fun g => W16_want g _ _ _ _ _ _ _ _) rfl rfl (by simp), ask_of (fun g => W16_res g _ _ _ _ _ _ _ _) rfl rfl (by simp)⟩, fun h => by cases h⟩
  | popped v =>
    obtain ⟨_, rfl⟩ := h
    refine ⟨fun h => (by cases h), fun _ => ask_of (fun g => W18_res g _ _) rfl rfl (by simp)⟩
end Go.Proofs.Ytldijnabgabehaa.so
