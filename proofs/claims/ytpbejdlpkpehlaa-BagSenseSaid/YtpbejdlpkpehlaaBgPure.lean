/- Both ways of counting agree. -/
import Derived.Test.YtpbejdlpkpehlaaBgRef
namespace Go.Proofs.Ytpbejdlpkpehlaa.bag
open Go Go.Vx
def skipB (s : Sn) : Bool := s.kind != 2 || (decide (s.to < 0) || s.code != 5)
def waitB (r s : Sn) : Bool := s.kind == 2 && (decide (s.to < 0) && decide (s.from_ < r.to))
def waitN (r : Sn) (l : List Sn) : Nat := l.countP (waitB r)
theorem waitN_add (r s : Sn) (l : List Sn) : waitN r (l ++ [s]) = waitN r l + if waitB r s then 1 else 0 := by
  unfold waitN
  rw [List.countP_append, List.countP_singleton]
theorem waitN_le (r : Sn) (l : List Sn) : waitN r l ≤ l.length := List.countP_le_length
def tasksN (l : List Sn) : List Int := l.foldl (fun ks s => if addB s then kadd ks s.task else ks) []
theorem tasksN_add (s : Sn) (l : List Sn) : tasksN (l ++ [s]) = if addB s then kadd (tasksN l) s.task else tasksN l := by unfold tasksN; rw [List.foldl_append]; rfl
/-- from the end -/
theorem snoc {P : List Sn → Prop} (h0 : P []) (h1 : ∀ l s, P l → P (l ++ [s])) (l : List Sn) : P l := by
  rw [← List.reverse_reverse l]
  generalize l.reverse = m
  induction m with
  | nil => exact h0
  | cons a m ih => rw [List.reverse_cons]; exact h1 _ _ ih
theorem tasksN_nodup (l : List Sn) : (tasksN l).Nodup := by
  refine snoc (P := fun l => (tasksN l).Nodup) List.nodup_nil (fun l s ih => ?_) l
  rw [tasksN_add]
  split
  · exact kadd_nodup ih
  · exact ih
theorem tasksN_len (l : List Sn) : (tasksN l).length ≤ l.length := by
  refine snoc (P := fun l => (tasksN l).length ≤ l.length) (Nat.le_refl _) (fun l s ih => ?_) l
  rw [tasksN_add, List.length_append]
  unfold kadd
  (repeat' split) <;> simp <;> omega
theorem tasksN_mem {x : Int} (l : List Sn) : x ∈ tasksN l ↔ ∃ s ∈ l, addB s = true ∧ s.task = x := by
  refine snoc (P := fun l => x ∈ tasksN l ↔ ∃ s ∈ l, addB s = true ∧ s.task = x) ?_ (fun l s ih => ?_) l
  · simp [tasksN]
  · rw [tasksN_add]
    constructor
    · intro h
      split at h
      · rename_i ha
        rcases kadd_mem.1 h with h | h
        · obtain ⟨y, h1, h2⟩ := ih.1 h
          exact ⟨y, List.mem_append_left _ h1, h2⟩
        · exact ⟨s, by simp, ha, h.symm⟩
      · obtain ⟨y, h1, h2⟩ := ih.1 h
        exact ⟨y, List.mem_append_left _ h1, h2⟩
    · rintro ⟨y, h1, h2, h3⟩
      rcases List.mem_append.1 h1 with h1 | h1
      · have := ih.2 ⟨y, h1, h2, h3⟩
        split
        · exact kadd_mem.2 (.inl this)
        · exact this
      · rw [List.mem_singleton.1 h1] at h2 h3
        rw [if_pos h2]
        exact kadd_mem.2 (.inr h3.symm)
def posS (f : Int → Int) (ks : List Int) : Int := ks.foldl (fun n x => n + max (f x) 0) 0
theorem posS_from (f : Int → Int) : ∀ (ks : List Int) (n : Int), ks.foldl (fun n x => n + max (f x) 0) n = n + posS f ks
  | [], n => by simp [posS]
  | x :: ks, n => by
    have h1 := posS_from f ks (n + max (f x) 0)
    have h2 := posS_from f ks (0 + max (f x) 0)
    unfold posS
    rw [List.foldl_cons, List.foldl_cons, h1, h2]
    omega
theorem posS_cons (f : Int → Int) (x : Int) (ks : List Int) : posS f (x :: ks) = max (f x) 0 + posS f ks := by
  have := posS_from f ks (0 + max (f x) 0)
  unfold posS at *
  rw [List.foldl_cons, this]
  omega
theorem posS_add (f : Int → Int) (ks : List Int) (x : Int) : posS f (ks ++ [x]) = posS f ks + max (f x) 0 := by unfold posS; rw [List.foldl_append]; rfl
theorem posS_le {f : Int → Int} {c : Nat} (h : ∀ x, f x ≤ c) : ∀ ks : List Int, 0 ≤ posS f ks ∧ posS f ks ≤ ks.length * c
  | [] => by simp [posS]
  | x :: ks => by
    have h1 := posS_le h ks
    have h2 := h x
    rw [posS_cons, List.length_cons]
    have : ((ks.length + 1 : Nat) : Int) * c = ks.length * c + c := by rw [Int.natCast_add]; simp [Int.add_mul]
    omega
theorem posS_filter (f : Int → Int) : ∀ ks : List Int, posS f ks = posS f (ks.filter fun x => decide (f x > 0))
  | [] => rfl
  | x :: ks => by
    rw [posS_cons, List.filter_cons, posS_filter f ks]
    split
    · rw [posS_cons]
    · rename_i h
      have : ¬ f x > 0 := by simpa using h
      omega
theorem posS_perm {f : Int → Int} {a b : List Int} (h : a.Perm b) : posS f a = posS f b := by
  unfold posS
  exact h.foldl_eq' (fun x _ y _ z => by omega) 0
theorem posS_same {f : Int → Int} {a b : List Int} (ha : a.Nodup) (hb : b.Nodup) (h1 : ∀ x, f x > 0 → x ∈ a) (h2 : ∀ x, f x > 0 → x ∈ b) : posS f a = posS f b := by
  rw [posS_filter f a, posS_filter f b]
  refine posS_perm ((List.perm_ext_iff_of_nodup (ha.filter _) (hb.filter _)).2 fun x => ?_)
  simp only [List.mem_filter, decide_eq_true_eq]
  exact ⟨fun h => ⟨h2 x h.2, h.2⟩, fun h => ⟨h1 x h.2, h.2⟩⟩
theorem keysN_nodup (r : Sn) (l : List Sn) : (keysN r l).Nodup := by
  refine snoc (P := fun l => (keysN r l).Nodup) List.nodup_nil (fun l s ih => ?_) l
  rw [keysN_add]
  split
  · exact kadd_nodup ih
  · split
    · exact kadd_nodup ih
    · exact ih
theorem left_key {r : Sn} {x : Int} (l : List Sn) : leftN r l x ≠ 0 → x ∈ keysN r l := by
  refine snoc (P := fun l => leftN r l x ≠ 0 → x ∈ keysN r l) (fun h => absurd rfl h) (fun l s ih => ?_) l
  rw [leftN_add, keysN_add]
  intro h
  unfold bump at h
  split at h
  · rename_i h1
    rw [if_pos h1]
    refine kadd_mem.2 ?_
    by_cases hx : x = s.task
    · exact .inr hx
    · rw [if_neg hx] at h
      exact .inl (ih (by omega))
  · rename_i h1
    rw [if_neg h1]
    split at h
    · rename_i h2
      rw [if_pos h2]
      refine kadd_mem.2 ?_
      by_cases hx : x = s.v
      · exact .inr hx
      · rw [if_neg hx] at h
        exact .inl (ih (by omega))
    · rename_i h2
      rw [if_neg h2]
      exact ih (by omega)
theorem left_task {r : Sn} {x : Int} (l : List Sn) : leftN r l x > 0 → x ∈ tasksN l := by
  refine snoc (P := fun l => leftN r l x > 0 → x ∈ tasksN l) (fun h => by simp [leftN] at h) (fun l s ih => ?_) l
  rw [leftN_add, tasksN_add]
  intro h
  by_cases h0 : leftN r l x > 0
  · have := ih h0
    split
    · exact kadd_mem.2 (.inl this)
    · exact this
  · unfold bump at h
    split at h
    · rename_i h1
      split at h
      · rename_i hx
        rw [if_pos (by simp only [Bool.and_eq_true] at h1; exact h1.1)]
        exact kadd_mem.2 (.inr hx)
      · omega
    · split at h
      · split at h <;> omega
      · omega
def refN (r : Sn) (l : List Sn) (k : Nat) : Int := posS (leftN r l) (tasksN (l.take k)) - waitN r (l.take k)
def firstB (l : List Sn) (k : Nat) (x : Int) : Bool := !(l.take k).any fun s => addB s && s.task == x
theorem firstB_mem {l : List Sn} {k : Nat} {x : Int} : firstB l k x = true ↔ x ∉ tasksN (l.take k) := by
  unfold firstB
  rw [Bool.not_eq_true', tasksN_mem, ← Bool.not_eq_true, List.any_eq_true]
  simp
theorem refN_succ {r : Sn} {l : List Sn} {k : Nat} (h : k < l.length) : refN r l (k + 1) = refN r l k + (if addB l[k] && firstB l k l[k].task then max (leftN r l l[k].task) 0 else 0) - (if waitB r l[k] then 1 else 0) := by
  have htk : l.take (k + 1) = l.take k ++ [l[k]] := by rw [List.take_add_one, List.getElem?_eq_getElem h]; rfl
  unfold refN
  rw [htk, tasksN_add, waitN_add]
  have key : posS (leftN r l) (if addB l[k] then kadd (tasksN (l.take k)) l[k].task else tasksN (l.take k)) = posS (leftN r l) (tasksN (l.take k)) + (if addB l[k] && firstB l k l[k].task then max (leftN r l l[k].task) 0 else 0) := by
    cases h1 : addB l[k] with
    | false => simp
    | true =>
      simp only [if_true, Bool.true_and]
      unfold kadd
      cases h2 : firstB l k l[k].task with
      | true =>
        rw [if_neg (firstB_mem.1 h2), posS_add, if_pos rfl]
      | false =>
        have : l[k].task ∈ tasksN (l.take k) := by
          refine Classical.byContradiction fun hc => ?_
          rw [firstB_mem.2 hc] at h2
          cases h2
        rw [if_pos this]
        simp
  rw [key]
  split <;> split <;> simp <;> omega
theorem refN_bd {r : Sn} {l : List Sn} {k : Nat} (hn : l.length ≤ 1000) (hk : k ≤ l.length) : -1000 ≤ refN r l k ∧ refN r l k ≤ 1000000 := by
  unfold refN
  have h1 := posS_le (f := leftN r l) (c := 1000) (fun x => by have := leftN_le r x l; omega) (tasksN (l.take k))
  have h2 := tasksN_len (l.take k)
  have h3 := waitN_le r (l.take k)
  rw [List.length_take] at h2 h3
  omega
theorem ref_eq (r : Sn) (l : List Sn) : decide (refN r l l.length > 0) = decide (lackN r l > waitN r l) := by
  unfold refN
  rw [List.take_length]
  have : lackN r l = posS (leftN r l) (tasksN l) := posS_same (keysN_nodup r l) (tasksN_nodup l) (fun x h => left_key l (by omega)) (fun x h => left_task l h)
  rw [this]
  exact decide_eq_decide.2 (by omega)
def onAt (l : List Sn) (p : Sn → Bool) (i : Nat) : Bool := match l[i]? with
  | some s => p s
  | none => false
theorem onAt_get {l : List Sn} {p : Sn → Bool} {i : Nat} (h : i < l.length) : onAt l p i = p l[i] := by
  unfold onAt
  rw [List.getElem?_eq_getElem h]
def FirstAt (bad : Nat → Bool) (n : Nat) (z : Int) : Prop := (z = -1 ∧ ∀ j, j < n → bad j = false) ∨ ∃ i : Nat, i < n ∧ z = i ∧ bad i = true ∧ ∀ j, j < i → bad j = false
theorem FirstAt.uniq {bad : Nat → Bool} {n : Nat} {z z' : Int} (h : FirstAt bad n z) (k : FirstAt bad n z') : z = z' := by
  rcases h with ⟨rfl, h⟩ | ⟨i, h1, rfl, h2, h3⟩ <;> rcases k with ⟨rfl, k⟩ | ⟨j, k1, rfl, k2, k3⟩
  · rfl
  · rw [h j k1] at k2; cases k2
  · rw [k i h1] at h2; cases h2
  · rcases Nat.lt_trichotomy i j with q | q | q
    · rw [k3 i q] at h2; cases h2
    · rw [q]
    · rw [h3 j q] at k2; cases k2
def refP (l : List Sn) (r : Sn) : Bool := !skipB r && decide (refN r l l.length > 0)
def bagP (l : List Sn) (r : Sn) : Bool := !skipB r && decide (lackN r l > waitN r l)
theorem refP_eq (l : List Sn) : refP l = bagP l := by
  funext r
  unfold refP bagP
  rw [ref_eq]
end Go.Proofs.Ytpbejdlpkpehlaa.bag
