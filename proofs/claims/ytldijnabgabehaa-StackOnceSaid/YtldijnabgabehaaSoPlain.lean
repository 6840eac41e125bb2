/- A stack of nodes that many push to and pop from, step by step, in plain words: what holds at each step. -/
namespace Go.Proofs.Ytldijnabgabehaa.so
/-- tops and heads: how often they turned, and a node -/
structure Mem where
  tt : Nat
  ti : Nat
  ht : Nat
  hi : Nat
  link : Nat → Nat
  below : Nat → Nat
  task : Nat → Nat
/-- where a walk is -/
inductive Wk where
  | t1 (v : Nat)
  | t2 (v : Nat) (h : Nat × Nat)
  | t3 (v : Nat) (h : Nat × Nat) (l : Nat)
  | p2 (v i : Nat)
  | p3 (v i : Nat)
  | p4 (v i : Nat) (t : Nat × Nat)
  | p5 (v i : Nat) (t : Nat × Nat)
  | q1
  | q2 (t : Nat × Nat)
  | q3 (t : Nat × Nat) (b : Nat)
  | q4 (i : Nat)
  | u1 (v i : Nat)
  | u2 (v i : Nat) (h : Nat × Nat)
  | u3 (v i : Nat) (h : Nat × Nat)
  | nomem (v : Nat)
  | pushed (v : Nat)
  | empty
  | popped (v : Nat)
  deriving DecidableEq
def upd (f : Nat → Nat) (i x : Nat) : Nat → Nat := fun j => if j = i then x else f j
def head1 (m : Mem) (v : Nat) : Wk := if m.hi = 0 then .nomem v else .t2 v (m.ht, m.hi)
def top1 (m : Mem) : Wk := if m.ti = 0 then .empty else .q2 (m.tt, m.ti)
/-- one step -/
def step (m : Mem) : Wk → Mem × Wk
  | .t1 v => (m, head1 m v)
  | .t2 v h => (m, .t3 v h (m.link h.2))
  | .t3 v h l => if (m.ht, m.hi) = h then ({ m with ht := h.1 + 1, hi := l }, .p2 v h.2) else (m, head1 m v)
  | .p2 v i => ({ m with task := upd m.task i v }, .p3 v i)
  | .p3 v i => (m, .p4 v i (m.tt, m.ti))
  | .p4 v i t => ({ m with below := upd m.below i t.2 }, .p5 v i t)
  | .p5 v i t => if (m.tt, m.ti) = t then ({ m with tt := t.1 + 1, ti := i }, .pushed v) else (m, .p4 v i (m.tt, m.ti))
  | .q1 => (m, top1 m)
  | .q2 t => (m, .q3 t (m.below t.2))
  | .q3 t b => if (m.tt, m.ti) = t then ({ m with tt := t.1 + 1, ti := b }, .q4 t.2) else (m, top1 m)
  | .q4 i => (m, .u1 (m.task i) i)
  | .u1 v i => (m, .u2 v i (m.ht, m.hi))
  | .u2 v i h => ({ m with link := upd m.link i h.2 }, .u3 v i h)
  | .u3 v i h => if (m.ht, m.hi) = h then ({ m with ht := h.1 + 1, hi := i }, .popped v) else (m, .u2 v i (m.ht, m.hi))
  | w => (m, w)
/-- nodes one below the other -/
def Chain (nx : Nat → Nat) : Nat → List Nat → Prop
  | i, [] => i = 0
  | i, x :: r => i = x ∧ x ≠ 0 ∧ Chain nx (nx x) r
theorem Chain.congr {f g : Nat → Nat} : ∀ {l : List Nat} {i : Nat}, Chain f i l → (∀ x ∈ l, g x = f x) → Chain g i l
  | [], _, h, _ => h
  | x :: r, _, ⟨h1, h2, h3⟩, hs => ⟨h1, h2, by rw [hs x (by simp)]; exact h3.congr fun y hy => hs y (by simp [hy])⟩
/-- the node that a walk has for itself -/
def own : Wk → List Nat
  | .p2 _ i | .p3 _ i | .p4 _ i _ | .p5 _ i _ | .q4 i | .u1 _ i | .u2 _ i _ | .u3 _ i _ => [i]
  | _ => []
/-- the task that it has for itself, on its way in -/
def ins : Wk → List Nat
  | .t1 v | .t2 v _ | .t3 v _ _ | .p2 v _ | .p3 v _ | .p4 v _ _ | .p5 v _ _ => [v]
  | _ => []
/-- on its way out -/
def outs (m : Mem) : Wk → List Nat
  | .q4 i => [m.task i]
  | .u1 v _ | .u2 v _ _ | .u3 v _ _ => [v]
  | _ => []
/-- the tasks that are with a walk, or that it was refused, or handed out -/
def live (m : Mem) (w : Wk) : List Nat := ins w ++ outs m w ++ match w with
  | .nomem v => [v]
  | .popped v => [v]
  | _ => []
/-- what it has loaded is as it was, or the top (the head) has turned since -/
def Fresh (m : Mem) : Wk → Prop
  | .t2 _ h => h.2 ≠ 0 ∧ (h.1 < m.ht ∨ (m.ht, m.hi) = h)
  | .t3 _ h l => h.2 ≠ 0 ∧ (h.1 < m.ht ∨ (m.ht, m.hi) = h ∧ m.link h.2 = l)
  | .p3 v i => m.task i = v
  | .p4 v i t => m.task i = v ∧ (t.1 < m.tt ∨ (m.tt, m.ti) = t)
  | .p5 v i t => m.task i = v ∧ m.below i = t.2 ∧ (t.1 < m.tt ∨ (m.tt, m.ti) = t)
  | .q2 t => t.2 ≠ 0 ∧ (t.1 < m.tt ∨ (m.tt, m.ti) = t)
  | .q3 t b => t.2 ≠ 0 ∧ (t.1 < m.tt ∨ (m.tt, m.ti) = t ∧ m.below t.2 = b)
  | .u2 _ _ h => h.1 < m.ht ∨ (m.ht, m.hi) = h
  | .u3 _ i h => m.link i = h.2 ∧ (h.1 < m.ht ∨ (m.ht, m.hi) = h)
  | _ => True
/-- All is well: the free nodes, the nodes of the stack, and those that walks have: each node once. -/
structure Inv (n : Nat) (m : Mem) (ws : List Wk) (F S : List Nat) : Prop where
  free : Chain m.link m.hi F
  stack : Chain m.below m.ti S
  once : ∀ x, F.count x + S.count x + (ws.flatMap own).count x = if 1 ≤ x ∧ x ≤ n then 1 else 0
  fresh : ∀ w ∈ ws, Fresh m w
theorem count_one {x i : Nat} : [i].count x = if x = i then 1 else 0 := by
  by_cases h : x = i
  · subst h; simp
  · simp [h, Ne.symm h]
theorem count_cons' {x i : Nat} {l : List Nat} : (i :: l).count x = (if x = i then 1 else 0) + l.count x := by
  by_cases h : x = i
  · subst h; simp; omega
  · simp [h, Ne.symm h]
theorem pos_of_mem {x : Nat} {l : List Nat} (h : x ∈ l) : 1 ≤ l.count x := List.one_le_count_iff.2 h
/-- Others' walks are as fresh behind a step of one. -/
theorem fresh_other {n : Nat} {m : Mem} {A B : List Wk} {w w2 : Wk} {F S : List Nat} (h : Inv n m (A ++ w :: B) F S) (hw : w2 ∈ A ++ B) : Fresh (step m w).1 w2 := by
  have hf2 := h.fresh w2 (by rcases List.mem_append.1 hw with h | h <;> simp [h])
  have hf := h.fresh w (by simp)
  have hone : ∀ x, x ∈ own w → x ∉ F ∧ x ∉ S ∧ x ∉ own w2 := by
    intro x hx
    have h1 := h.once x
    have c1 := pos_of_mem hx
    have e : ((A ++ w :: B).flatMap own).count x = (own w).count x + ((A ++ B).flatMap own).count x := by
      simp only [List.flatMap_append, List.flatMap_cons, List.count_append]; omega
    rw [e] at h1
    have hle : (own w2).count x ≤ ((A ++ B).flatMap own).count x := by
      obtain ⟨s, t, hst⟩ := List.append_of_mem hw
      rw [hst]
      simp only [List.flatMap_append, List.flatMap_cons, List.count_append]; omega
    have hb : (if 1 ≤ x ∧ x ≤ n then 1 else 0) ≤ 1 := by split <;> omega
    refine ⟨fun hm => ?_, fun hm => ?_, fun hm => ?_⟩
    · have := pos_of_mem hm; omega
    · have := pos_of_mem hm; omega
    · have := pos_of_mem hm; omega
  have hF : ∀ i, i ∉ F → i = m.hi → m.hi = 0 := by
    intro i hi he
    have hc := h.free
    cases F with
    | nil => exact hc
    | cons x r => exact absurd (by rw [he, hc.1]; simp) hi
  have hS : ∀ i, i ∉ S → i = m.ti → m.ti = 0 := by
    intro i hi he
    have hc := h.stack
    cases S with
    | nil => exact hc
    | cons x r => exact absurd (by rw [he, hc.1]; simp) hi
  have turnH : ∀ {h : Nat × Nat} {a : Nat}, (m.ht, m.hi) = h → ∀ {h' : Nat × Nat} {P : Prop}, (h'.1 < m.ht ∨ P) → (P → (m.ht, m.hi) = h') → (h'.1 < h.1 + 1 ∨ (h.1 + 1, a) = h') := by
    rintro h a rfl h' P (h1 | h1) hp
    · exact .inl (by simp only; omega)
    · have := hp h1
      rw [← this]
      exact .inl (by simp only; omega)
  have turnT : ∀ {h : Nat × Nat} {a : Nat}, (m.tt, m.ti) = h → ∀ {h' : Nat × Nat} {P : Prop}, (h'.1 < m.tt ∨ P) → (P → (m.tt, m.ti) = h') → (h'.1 < h.1 + 1) := by
    rintro h a rfl h' P (h1 | h1) hp
    · simp only; omega
    · have := hp h1
      rw [← this]
      simp only; omega
  cases w with
  | t3 v h l =>
    simp only [step]
    split
    · rename_i he
      cases w2 <;> simp only [Fresh] at hf2 ⊢
      · exact ⟨hf2.1, turnH he hf2.2 id⟩
      · refine ⟨hf2.1, .inl ?_⟩
        rcases hf2.2 with h1 | h1
        · rw [← he]; simp only; omega
        · rw [← he, ← h1.1]; simp only; omega
      all_goals first | exact hf2 | skip
      · exact turnH he hf2 id
      · exact ⟨hf2.1, turnH he hf2.2 id⟩
    · exact hf2
  | u3 v i h =>
    simp only [step]
    split
    · rename_i he
      cases w2 <;> simp only [Fresh] at hf2 ⊢
      · exact ⟨hf2.1, turnH he hf2.2 id⟩
      · refine ⟨hf2.1, .inl ?_⟩
        rcases hf2.2 with h1 | h1
        · rw [← he]; simp only; omega
        · rw [← he, ← h1.1]; simp only; omega
      all_goals first | exact hf2 | skip
      · exact turnH he hf2 id
      · exact ⟨hf2.1, turnH he hf2.2 id⟩
    · exact hf2
  | p5 v i t =>
    simp only [step]
    split
    · rename_i he
      cases w2 <;> simp only [Fresh] at hf2 ⊢
      all_goals first | exact hf2 | skip
      · exact ⟨hf2.1, .inl (turnT (a := 0) he hf2.2 id)⟩
      · exact ⟨hf2.1, hf2.2.1, .inl (turnT (a := 0) he hf2.2.2 id)⟩
      · exact ⟨hf2.1, .inl (turnT (a := 0) he hf2.2 id)⟩
      · exact ⟨hf2.1, .inl (turnT (a := 0) he hf2.2 And.left)⟩
    · exact hf2
  | q3 t b =>
    simp only [step]
    split
    · rename_i he
      cases w2 <;> simp only [Fresh] at hf2 ⊢
      all_goals first | exact hf2 | skip
      · exact ⟨hf2.1, .inl (turnT (a := 0) he hf2.2 id)⟩
      · exact ⟨hf2.1, hf2.2.1, .inl (turnT (a := 0) he hf2.2.2 id)⟩
      · exact ⟨hf2.1, .inl (turnT (a := 0) he hf2.2 id)⟩
      · exact ⟨hf2.1, .inl (turnT (a := 0) he hf2.2 And.left)⟩
    · exact hf2
  | p2 v i =>
    have ho := (hone i (by simp [own])).2.2
    cases w2 <;> simp only [Fresh, step] at hf2 ⊢
    all_goals first | exact hf2 | skip
    · rename_i j
      have hj : j ≠ i := fun e => ho (by simp [own, e])
      simp only [upd, if_neg hj]
      exact hf2
    all_goals
      rename_i j _
      have hj : j ≠ i := fun e => ho (by simp [own, e])
      simp only [upd, if_neg hj]
      exact hf2
  | p4 v i t =>
    have ho := hone i (by simp [own])
    cases w2 <;> simp only [Fresh, step] at hf2 ⊢
    all_goals first | exact hf2 | skip
    · rename_i j _
      have hj : j ≠ i := fun e => ho.2.2 (by simp [own, e])
      simp only [upd, if_neg hj]
      exact hf2
    · rename_i t' b
      refine ⟨hf2.1, hf2.2.imp id fun ⟨h1, h2⟩ => ⟨h1, ?_⟩⟩
      have hj : t'.2 ≠ i := fun e => by
        have h3 : t'.2 = m.ti := by rw [← h1]
        exact hf2.1 (by rw [h3]; exact hS i ho.2.1 (by rw [← e, h3]))
      simp only [upd, if_neg hj]
      exact h2
  | u2 v i h' =>
    have ho := hone i (by simp [own])
    cases w2 <;> simp only [Fresh, step] at hf2 ⊢
    all_goals first | exact hf2 | skip
    · rename_i t' b
      refine ⟨hf2.1, hf2.2.imp id fun ⟨h1, h2⟩ => ⟨h1, ?_⟩⟩
      have hj : t'.2 ≠ i := fun e => by
        have h3 : t'.2 = m.hi := by rw [← h1]
        exact hf2.1 (by rw [h3]; exact hF i ho.1 (by rw [← e, h3]))
      simp only [upd, if_neg hj]
      exact h2
    · rename_i j _
      have hj : j ≠ i := fun e => ho.2.2 (by simp [own, e])
      simp only [upd, if_neg hj]
      exact hf2
  | _ => exact hf2
theorem flat_count {f : Wk → List Nat} {A B : List Wk} {w : Wk} {x : Nat} : ((A ++ w :: B).flatMap f).count x = (f w).count x + ((A ++ B).flatMap f).count x := by
  simp only [List.flatMap_append, List.flatMap_cons, List.count_append]; omega
theorem head1_own (m : Mem) (v : Nat) : own (head1 m v) = [] := by unfold head1; split <;> rfl
theorem top1_own (m : Mem) : own (top1 m) = [] := by unfold top1; split <;> rfl
theorem head1_fresh (m : Mem) (v : Nat) : Fresh m (head1 m v) := by
  unfold head1
  split
  · trivial
  · rename_i h; exact ⟨h, .inr rfl⟩
theorem top1_fresh (m : Mem) : Fresh m (top1 m) := by
  unfold top1
  split
  · trivial
  · rename_i h; exact ⟨h, .inr rfl⟩
theorem flatMap_congr' {f g : Wk → List Nat} : ∀ {l : List Wk}, (∀ w ∈ l, f w = g w) → l.flatMap f = l.flatMap g
  | [], _ => rfl
  | w :: l, h => by rw [List.flatMap_cons, List.flatMap_cons, h w (by simp), flatMap_congr' fun w2 hw => h w2 (by simp [hw])]
theorem head1_live (m : Mem) (v : Nat) : live m (head1 m v) = [v] := by unfold head1; split <;> rfl
theorem top1_live (m : Mem) : live m (top1 m) = [] := by unfold top1; split <;> rfl
/-- A step of one leaves all well. -/
theorem step_inv {n : Nat} {m : Mem} {A B : List Wk} {w : Wk} {F S : List Nat} (h : Inv n m (A ++ w :: B) F S) : ∃ F' S', Inv n (step m w).1 (A ++ (step m w).2 :: B) F' S' ∧ ∀ x, (S'.map (step m w).1.task).count x + ((A ++ (step m w).2 :: B).flatMap (live (step m w).1)).count x = (S.map m.task).count x + ((A ++ w :: B).flatMap (live m)).count x := by
  have hf := h.fresh w (by simp)
  have ho : ∀ w2 ∈ A ++ B, Fresh (step m w).1 w2 := fun w2 hw => fresh_other h hw
  have hall : Fresh (step m w).1 (step m w).2 → ∀ w2 ∈ A ++ (step m w).2 :: B, Fresh (step m w).1 w2 := by
    intro h1 w2 hw
    rcases List.mem_append.1 hw with hw | hw
    · exact ho w2 (List.mem_append_left _ hw)
    · rcases List.mem_cons.1 hw with rfl | hw
      · exact h1
      · exact ho w2 (List.mem_append_right _ hw)
  have honce : ∀ x, F.count x + S.count x + ((own w).count x + ((A ++ B).flatMap own).count x) = if 1 ≤ x ∧ x ≤ n then 1 else 0 := fun x => by rw [← flat_count]; exact h.once x
  have hind : ∀ x, (if 1 ≤ x ∧ x ≤ n then 1 else 0) ≤ 1 := fun x => by split <;> omega
  have mine : ∀ i, own w = [i] → i ∉ F ∧ i ∉ S ∧ i ≠ 0 := by
    intro i hi
    have h1 := honce i
    rw [hi, count_one, if_pos rfl] at h1
    refine ⟨fun hm => ?_, fun hm => ?_, fun hz => ?_⟩
    · have := pos_of_mem hm; have := hind i; omega
    · have := pos_of_mem hm; have := hind i; omega
    · subst hz
      rw [if_neg (by omega)] at h1
      omega
  -- nothing but the walk itself turns
  have same : (step m w).1 = m → own (step m w).2 = own w → Fresh m (step m w).2 → live m (step m w).2 = live m w → ∃ F' S', Inv n (step m w).1 (A ++ (step m w).2 :: B) F' S' ∧ ∀ x, (S'.map (step m w).1.task).count x + ((A ++ (step m w).2 :: B).flatMap (live (step m w).1)).count x = (S.map m.task).count x + ((A ++ w :: B).flatMap (live m)).count x := by
    intro h1 h2 h3 h4
    refine ⟨F, S, ⟨by rw [h1]; exact h.free, by rw [h1]; exact h.stack, fun x => ?_, hall (by rw [h1]; exact h3)⟩, fun x => ?_⟩
    · rw [flat_count, h2]
      exact honce x
    · rw [h1, flat_count, flat_count, h4]
  cases w with
  | t1 v => exact same rfl (head1_own m v) (head1_fresh m v) (head1_live m v)
  | t2 v hh => exact same rfl rfl ⟨hf.1, hf.2.imp id fun e => ⟨e, rfl⟩⟩ rfl
  | t3 v hh l =>
    simp only [step] at same hall ⊢
    split
    · rename_i he
      obtain ⟨h0, h1⟩ := hf
      rcases h1 with h1 | ⟨_, h1⟩
      · rw [← he] at h1; simp only at h1; omega
      have hc := h.free
      subst he
      cases F with
      | nil => exact absurd hc h0
      | cons x r =>
        obtain ⟨c1, c2, c3⟩ := hc
        try simp only at h0 h1 c1
        subst c1
        rw [if_pos rfl] at hall
        refine ⟨r, S, ⟨by rw [← h1]; exact c3, h.stack, fun x => ?_, hall trivial⟩, fun x => by rw [flat_count, flat_count]; rfl⟩
        have := honce x
        rw [flat_count]
        simp only [own, count_cons', List.count_nil] at this ⊢
        omega
    · rename_i he
      rw [if_neg he] at same
      exact same rfl (head1_own m v) (head1_fresh m v) (head1_live m v)
  | p2 v i =>
    obtain ⟨m1, m2, m3⟩ := mine i rfl
    refine ⟨F, S, ⟨h.free, h.stack, fun x => ?_, hall ?_⟩, fun x => ?_⟩
    · rw [flat_count]; exact honce x
    · simp [step, Fresh, upd]
    · have e1 : S.map (upd m.task i v) = S.map m.task := List.map_congr_left fun y hy => by
        have : y ≠ i := fun e => m2 (e ▸ hy)
        simp [upd, this]
      have e2 : (A ++ B).flatMap (live (step m (.p2 v i)).1) = (A ++ B).flatMap (live m) := flatMap_congr' fun w2 hw2 => by
        have ho2 : i ∉ own w2 := fun hm => by
          have h1 := honce i
          have hle : (own w2).count i ≤ ((A ++ B).flatMap own).count i := by
            obtain ⟨s, t, hst⟩ := List.append_of_mem hw2
            rw [hst]
            simp only [List.flatMap_append, List.flatMap_cons, List.count_append]; omega
          have := pos_of_mem hm
          have := hind i
          simp only [own, count_one, if_true] at h1
          omega
        cases w2 <;> simp only [live, ins, outs, step] <;> try rfl
        rename_i j
        have : j ≠ i := fun e => ho2 (by simp [own, e])
        simp [upd, this]
      rw [flat_count, flat_count, e2]
      show (S.map (upd m.task i v)).count x + _ = _
      rw [e1]
      rfl
  | p3 v i => exact same rfl rfl ⟨hf, .inr rfl⟩ rfl
  | p4 v i t =>
    obtain ⟨m1, m2, m3⟩ := mine i rfl
    refine ⟨F, S, ⟨h.free, h.stack.congr fun x hx => ?_, fun x => ?_, hall ?_⟩, fun x => by rw [flat_count, flat_count]; rfl⟩
    · have : x ≠ i := fun e => m2 (e ▸ hx)
      simp [step, upd, this]
    · rw [flat_count]; exact honce x
    · exact ⟨hf.1, by simp [step, upd], hf.2⟩
  | p5 v i t =>
    obtain ⟨m1, m2, m3⟩ := mine i rfl
    simp only [step] at same hall ⊢
    split
    · rename_i he
      rw [if_pos he] at hall
      subst he
      refine ⟨F, i :: S, ⟨h.free, ⟨rfl, m3, by rw [hf.2.1]; exact h.stack⟩, fun x => ?_, hall trivial⟩, fun x => ?_⟩
      · have := honce x
        rw [flat_count]
        simp only [own, count_cons', List.count_nil] at this ⊢
        omega
      · rw [flat_count, flat_count]
        have : m.task i = v := hf.1
        simp only [List.map_cons, this, live, ins, outs, List.append_nil, count_cons', List.count_nil]
        show _ + (0 + ((A ++ B).flatMap (live m)).count x) = _
        omega
    · rename_i he
      rw [if_neg he] at same
      exact same rfl rfl ⟨hf.1, .inr rfl⟩ rfl
  | q1 => exact same rfl (top1_own m) (top1_fresh m) (top1_live m)
  | q2 t => exact same rfl rfl ⟨hf.1, hf.2.imp id fun e => ⟨e, rfl⟩⟩ rfl
  | q3 t b =>
    simp only [step] at same hall ⊢
    split
    · rename_i he
      obtain ⟨h0, h1⟩ := hf
      rcases h1 with h1 | ⟨_, h1⟩
      · rw [← he] at h1; simp only at h1; omega
      have hc := h.stack
      subst he
      cases S with
      | nil => exact absurd hc h0
      | cons x r =>
        obtain ⟨c1, c2, c3⟩ := hc
        try simp only at h0 h1 c1
        subst c1
        rw [if_pos rfl] at hall
        refine ⟨F, r, ⟨h.free, by rw [← h1]; exact c3, fun x => ?_, hall trivial⟩, fun x => ?_⟩
        · have := honce x
          rw [flat_count]
          simp only [own, count_cons', List.count_nil] at this ⊢
          omega
        · rw [flat_count, flat_count]
          simp only [List.map_cons, live, ins, outs, List.append_nil, List.nil_append, count_cons', List.count_nil]
          show _ + (_ + ((A ++ B).flatMap (live m)).count x) = _
          omega
    · rename_i he
      rw [if_neg he] at same
      exact same rfl (top1_own m) (top1_fresh m) (top1_live m)
  | q4 i => exact same rfl rfl trivial rfl
  | u1 v i => exact same rfl rfl (.inr rfl) rfl
  | u2 v i hh =>
    obtain ⟨m1, m2, m3⟩ := mine i rfl
    refine ⟨F, S, ⟨h.free.congr fun x hx => ?_, h.stack, fun x => ?_, hall ?_⟩, fun x => by rw [flat_count, flat_count]; rfl⟩
    · have : x ≠ i := fun e => m1 (e ▸ hx)
      simp [step, upd, this]
    · rw [flat_count]; exact honce x
    · exact ⟨by simp [step, upd], hf⟩
  | u3 v i hh =>
    obtain ⟨m1, m2, m3⟩ := mine i rfl
    simp only [step] at same hall ⊢
    split
    · rename_i he
      rw [if_pos he] at hall
      subst he
      refine ⟨i :: F, S, ⟨⟨rfl, m3, by rw [hf.1]; exact h.free⟩, h.stack, fun x => ?_, hall trivial⟩, fun x => by rw [flat_count, flat_count]; rfl⟩
      have := honce x
      rw [flat_count]
      simp only [own, count_cons', List.count_nil] at this ⊢
      omega
    · rename_i he
      rw [if_neg he] at same
      exact same rfl rfl (.inr rfl) rfl
  | nomem v => exact same rfl rfl trivial rfl
  | pushed v => exact same rfl rfl trivial rfl
  | empty => exact same rfl rfl trivial rfl
  | popped v => exact same rfl rfl trivial rfl
/-- has it ended? -/
def over : Wk → Bool
  | .nomem _ | .pushed _ | .empty | .popped _ => true
  | _ => false
/-- how many steps are left at most, while nobody else steps -/
def mu (m : Mem) : Wk → Nat
  | .t1 _ => 20
  | .t2 _ h => if (m.ht, m.hi) = h then 18 else 30
  | .t3 _ h _ => if (m.ht, m.hi) = h then 17 else 29
  | .p2 _ _ => 10
  | .p3 _ _ => 9
  | .p4 _ _ t => if (m.tt, m.ti) = t then 7 else 12
  | .p5 _ _ t => if (m.tt, m.ti) = t then 6 else 11
  | .q1 => 20
  | .q2 t => if (m.tt, m.ti) = t then 18 else 30
  | .q3 t _ => if (m.tt, m.ti) = t then 17 else 29
  | .q4 _ => 10
  | .u1 _ _ => 9
  | .u2 _ _ h => if (m.ht, m.hi) = h then 7 else 12
  | .u3 _ _ h => if (m.ht, m.hi) = h then 6 else 11
  | .nomem _ | .pushed _ | .empty | .popped _ => 0
theorem mu_le (m : Mem) (w : Wk) : mu m w ≤ 30 := by cases w <;> simp only [mu] <;> first | omega | (split <;> omega)
theorem head1_mu (m : Mem) (v : Nat) : mu m (head1 m v) ≤ 18 := by
  unfold head1
  split
  · exact Nat.zero_le _
  · show (if (m.ht, m.hi) = (m.ht, m.hi) then 18 else 30) ≤ 18
    rw [if_pos rfl]; exact Nat.le_refl _
theorem top1_mu (m : Mem) : mu m (top1 m) ≤ 18 := by
  unfold top1
  split
  · exact Nat.zero_le _
  · show (if (m.tt, m.ti) = (m.tt, m.ti) then 18 else 30) ≤ 18
    rw [if_pos rfl]; exact Nat.le_refl _
theorem mu_step (m : Mem) (w : Wk) (h : over w = false) : mu (step m w).1 (step m w).2 < mu m w := by
  cases w with
  | t1 v =>
    have := head1_mu m v
    show mu m (head1 m v) < 20
    omega
  | t2 v hh =>
    show (if (m.ht, m.hi) = hh then 17 else 29) < if (m.ht, m.hi) = hh then 18 else 30
    split <;> omega
  | t3 v hh l =>
    by_cases he : (m.ht, m.hi) = hh
    · have e : step m (.t3 v hh l) = ({ m with ht := hh.1 + 1, hi := l }, .p2 v hh.2) := if_pos he
      rw [e]
      show 10 < if (m.ht, m.hi) = hh then 17 else 29
      rw [if_pos he]; omega
    · have e : step m (.t3 v hh l) = (m, head1 m v) := if_neg he
      rw [e]
      have := head1_mu m v
      show mu m (head1 m v) < if (m.ht, m.hi) = hh then 17 else 29
      rw [if_neg he]; omega
  | p2 v i => show 9 < 10; omega
  | p3 v i =>
    show (if (m.tt, m.ti) = (m.tt, m.ti) then 7 else 12) < 9
    rw [if_pos rfl]; omega
  | p4 v i t =>
    show (if (m.tt, m.ti) = t then 6 else 11) < if (m.tt, m.ti) = t then 7 else 12
    split <;> omega
  | p5 v i t =>
    by_cases he : (m.tt, m.ti) = t
    · have e : step m (.p5 v i t) = ({ m with tt := t.1 + 1, ti := i }, .pushed v) := if_pos he
      rw [e]
      show 0 < if (m.tt, m.ti) = t then 6 else 11
      rw [if_pos he]; omega
    · have e : step m (.p5 v i t) = (m, .p4 v i (m.tt, m.ti)) := if_neg he
      rw [e]
      show (if (m.tt, m.ti) = (m.tt, m.ti) then 7 else 12) < if (m.tt, m.ti) = t then 6 else 11
      rw [if_pos rfl, if_neg he]; omega
  | q1 =>
    have := top1_mu m
    show mu m (top1 m) < 20
    omega
  | q2 t =>
    show (if (m.tt, m.ti) = t then 17 else 29) < if (m.tt, m.ti) = t then 18 else 30
    split <;> omega
  | q3 t b =>
    by_cases he : (m.tt, m.ti) = t
    · have e : step m (.q3 t b) = ({ m with tt := t.1 + 1, ti := b }, .q4 t.2) := if_pos he
      rw [e]
      show 10 < if (m.tt, m.ti) = t then 17 else 29
      rw [if_pos he]; omega
    · have e : step m (.q3 t b) = (m, top1 m) := if_neg he
      rw [e]
      have := top1_mu m
      show mu m (top1 m) < if (m.tt, m.ti) = t then 17 else 29
      rw [if_neg he]; omega
  | q4 i => show 9 < 10; omega
  | u1 v i =>
    show (if (m.ht, m.hi) = (m.ht, m.hi) then 7 else 12) < 9
    rw [if_pos rfl]; omega
  | u2 v i hh =>
    show (if (m.ht, m.hi) = hh then 6 else 11) < if (m.ht, m.hi) = hh then 7 else 12
    split <;> omega
  | u3 v i hh =>
    by_cases he : (m.ht, m.hi) = hh
    · have e : step m (.u3 v i hh) = ({ m with ht := hh.1 + 1, hi := i }, .popped v) := if_pos he
      rw [e]
      show 0 < if (m.ht, m.hi) = hh then 6 else 11
      rw [if_pos he]; omega
    · have e : step m (.u3 v i hh) = (m, .u2 v i (m.ht, m.hi)) := if_neg he
      rw [e]
      show (if (m.ht, m.hi) = (m.ht, m.hi) then 7 else 12) < if (m.ht, m.hi) = hh then 6 else 11
      rw [if_pos rfl, if_neg he]; omega
  | nomem v => cases h
  | pushed v => cases h
  | empty => cases h
  | popped v => cases h
end Go.Proofs.Ytldijnabgabehaa.so
