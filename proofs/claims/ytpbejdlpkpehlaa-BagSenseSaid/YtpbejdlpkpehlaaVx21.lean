/- Rows of numbers in our machine's memory: read, laid behind each other. -/
import Derived.Test.YtpbejdlpkpehlaaVx18
namespace Go.Vx

abbrev U (xs : List Int) : List AV := xs.map (AV.int .u64 ·)
/-- A block's group is no later than the block. -/
def GrpOk (M : AMem) : Prop := ∀ b cs sz wr g, M.get b = some (.cells cs sz wr (some g)) → g ≤ b
def Okg (M : AMem) : Prop := Ok M ∧ GrpOk M
theorem get_lt {M : AMem} (h : Ok M) {b : Nat} {k : ABlk} (hb : M.get b = some k) : b < M.n := (h b).1 (by show (M.get b).isSome = true; rw [hb]; rfl)
/-- What was there is there as before; all is well. -/
structure Step (M M' : AMem) : Prop where
  grow : Grow M M'
  ok : Okg M'
  nh : ∀ b, M.n ≤ b → isHeld (M'.get b) = false
theorem held_ge {M : AMem} (h : Ok M) {b : Nat} (hb : M.n ≤ b) : isHeld (M.get b) = false := by
  have : M.get b = none := by
    cases hg : M.get b with
    | none => rfl
    | some k => have := get_lt h hg; omega
  rw [this]; rfl
theorem Step.refl {M : AMem} (h : Okg M) : Step M M := ⟨Grow.refl M, h, fun _ hb => held_ge h.1 hb⟩
theorem Step.trans {A B C : AMem} (h : Step A B) (k : Step B C) : Step A C := ⟨h.grow.trans k.grow, k.ok, fun b hb => by
  by_cases hlt : b < B.n
  · rw [k.grow.get b hlt]; exact h.nh b hb
  · exact k.nh b (by omega)⟩
theorem Okg.nil {g : Addr → Option AV} : Okg ⟨.nil, 0, g⟩ := ⟨Ok.nil, fun b cs sz wr g h => by simp [AMem.get, Tr.get] at h⟩
theorem Step.push {M0 M : AMem} (h : Step M0 M) {k : ABlk} (hk : ∀ cs sz wr g, k = .cells cs sz wr (some g) → g ≤ M.n) (hh : isHeld (some k) = false := by rfl) : Step M0 (M.push k) :=
  ⟨h.grow.trans (Grow.push h.ok.1 k), ⟨h.ok.1.push k, fun b cs sz wr g hb => by
    by_cases hlt : b < M.n
    · rw [get_push_old h.ok.1 hlt] at hb; exact h.ok.2 b cs sz wr g hb
    · have := get_lt (h.ok.1.push k) hb
      have : b = M.n := by simp only [push_n] at this; omega
      subst this
      rw [get_push_self h.ok.1] at hb
      cases hb
      exact hk cs sz wr g rfl⟩, fun b hb => by
    by_cases hlt : b < M.n
    · rw [get_push_old h.ok.1 hlt]; exact h.nh b hb
    · by_cases he : b = M.n
      · subst he; rw [get_push_self h.ok.1]; exact hh
      · exact held_ge (h.ok.1.push k) (by rw [push_n]; omega)⟩
/-- a group's other blocks are known no more -/
theorem Step.kill {M0 M : AMem} (h : Step M0 M) {g b : Nat} (hg : M0.n ≤ g) : Step M0 (M.kill g b) := by
  have hget : ∀ m, (M.kill g b).get m = (M.get m).map (killOf g b m) := fun m => by
    letI : Val := ⟨fun _ => 0, fun _ => undef, fun _ => none⟩
    exact AMem.get_kill
  have hkeep : ∀ m k, M.get m = some k → (∀ cs sz wr g', k = .cells cs sz wr (some g') → g' ≠ g) → killOf g b m k = k := by
    intro m k _ hne
    unfold killOf
    split
    · rfl
    · split
      · rename_i g' 
        rw [if_neg (hne _ _ _ _ rfl)]
      · rfl
  refine ⟨⟨h.grow.n, fun c hc => ?_, h.grow.g, fun _ => Tr.full_mapI h.ok.1 _ _ _⟩, ⟨Tr.full_mapI h.ok.1 _ _ _, fun m cs sz wr g' hm => ?_⟩, fun m hm => ?_⟩
  · rw [hget, ← h.grow.get c hc]
    cases hk : M.get c with
    | none => rfl
    | some k =>
      rw [Option.map_some, hkeep c k hk]
      intro cs sz wr g' he heq
      subst he; subst heq
      have := h.ok.2 c cs sz wr g' hk
      omega
  · rw [hget] at hm
    cases hk : M.get m with
    | none => rw [hk] at hm; cases hm
    | some k =>
      rw [hk] at hm
      simp only [Option.map_some, Option.some.injEq] at hm
      have : k = .cells cs sz wr (some g') := by
        unfold killOf at hm
        split at hm
        · exact hm
        · split at hm
          · split at hm
            · cases hm
            · exact hm
          · exact hm
      subst this
      exact h.ok.2 m cs sz wr g' hk
  · have := h.nh m hm
    rw [hget]
    cases hk : M.get m with
    | none => rfl
    | some k =>
      rw [hk] at this
      rw [Option.map_some]
      unfold killOf
      split
      · exact this
      · split
        · split
          · rfl
          · exact this
        · exact this
theorem Step.set {M0 M : AMem} (h : Step M0 M) {b : Nat} {k k' : ABlk} (hb : M0.n ≤ b) (hg : M.get b = some k') (hk : ∀ cs sz wr g, k = .cells cs sz wr (some g) → g ≤ b) (hh : isHeld (some k) = false := by rfl) : Step M0 (M.set b k) :=
  ⟨h.grow.set hb hg k, ⟨h.ok.1.set b k, fun m cs sz wr g hm => by
    rw [get_set_mem hg] at hm
    split at hm
    · rename_i he; subst he; cases hm; exact hk _ _ _ _ rfl
    · exact h.ok.2 m cs sz wr g hm⟩, fun m hm => by
    rw [get_set_mem hg]
    split
    · exact hh
    · exact h.nh m hm⟩

/-- A row that can be read. -/
def Row (M : AMem) (v : AV) (xs : List Int) : Prop :=
  (∃ a c, v = .rslice a xs.length c ∧ ∀ i, i < xs.length → ∃ p, a = some p ∧ M.g (p.add i) = (U xs)[i]?) ∨
  (v = .slice none 0 0 false ∧ xs = []) ∨
  (∃ b o c gr cs sz wr g, v = .slice (some (b, o)) xs.length c gr ∧ M.get b = some (.cells cs sz wr g) ∧ b < M.n ∧ o + xs.length ≤ cs.length ∧ (cs.drop o).take xs.length = U xs)
theorem Row.grow {M M' : AMem} {v : AV} {xs : List Int} (h : Row M v xs) (hg : Grow M M') : Row M' v xs := by
  rcases h with ⟨a, c, rfl, h⟩ | h | ⟨b, o, c, gr, cs, sz, wr, g, rfl, h1, h2, h3, h4⟩
  · exact .inl ⟨a, c, rfl, fun i hi => by rw [hg.g]; exact h i hi⟩
  · exact .inr (.inl h)
  · exact .inr (.inr ⟨b, o, c, gr, cs, sz, wr, g, rfl, (hg.get b h2).trans h1, Nat.lt_of_lt_of_le h2 hg.n, h3, h4⟩)
theorem Row.len {M : AMem} {v : AV} {xs : List Int} (h : Row M v xs) : opI .lenS [v] M = some (.val (.int .i64 xs.length) M) := by
  rcases h with ⟨a, c, rfl, h⟩ | ⟨rfl, rfl⟩ | ⟨b, o, c, gr, cs, sz, wr, g, rfl, h1, h2, h3, h4⟩ <;> rfl
theorem Row.at_ {M : AMem} {v : AV} {xs : List Int} (h : Row M v xs) {i : Nat} (hi : i < xs.length) :
    ∃ p, opI (.indexAddrS 1) [v, .int .i64 i] M = some (.val p M) ∧ opI (.load false 1) [p] M = some (.val (.int .u64 xs[i]) M) := by
  rcases h with ⟨a, c, rfl, h⟩ | ⟨rfl, rfl⟩ | ⟨b, o, c, gr, cs, sz, wr, g, rfl, h1, h2, h3, h4⟩
  · obtain ⟨p, rfl, hp⟩ := h i hi
    have e1 := index_in (M := M) (sz := 1) (a := p) (c := c) hi
    rw [Nat.mul_one] at e1
    refine ⟨_, e1, load_in ?_⟩
    rw [hp]; simp [U, hi]
  · simp at hi
  · refine ⟨.ptr (some (b, o + i)), ?_, load_own h1 ?_⟩
    · simp only [opI]
      rw [if_pos ⟨by omega, by omega⟩]
      simp
    · have hget : ((cs.drop o).take xs.length)[i]? = cs[o + i]? := by
        rw [List.getElem?_take_of_lt hi, List.getElem?_drop]
      rw [h4] at hget
      rw [← hget]; simp [U, hi]
theorem Row.cells {M : AMem} {v : AV} {xs : List Int} (h : Row M v xs) : M.sliceCells 1 v = some (xs.length, U xs) := by
  rcases h with ⟨a, c, rfl, h⟩ | ⟨rfl, rfl⟩ | ⟨b, o, c, gr, cs, sz, wr, g, rfl, h1, h2, h3, h4⟩
  · by_cases hx : xs = []
    · subst hx
      cases a with
      | none => rfl
      | some p => rfl
    · obtain ⟨p, rfl, _⟩ := h 0 (by cases xs; exact absurd rfl hx; simp)
      have hl : M.loadG p (xs.length * 1) = some (U xs) := by
        rw [Nat.mul_one]
        unfold AMem.loadG
        have key : ∀ (is : List Nat), (∀ i ∈ is, i < xs.length) → mapO (fun j => M.g (p.add j)) is = some (is.map fun i => (U xs).getD i .nilFunc) := by
          intro is
          induction is with
          | nil => intro _; rfl
          | cons i is ih =>
            intro hall
            have hi := hall i List.mem_cons_self
            obtain ⟨p', hp', hg⟩ := h i hi
            cases hp'
            simp only [mapO, hg]
            have hsome : (U xs)[i]? = some (.int .u64 xs[i]) := by simp [U, hi]
            rw [hsome, ih (fun j hj => hall j (List.mem_cons_of_mem _ hj))]
            simp [List.getD_eq_getElem?_getD, hi]
        rw [key _ (fun i hi => List.mem_range.1 hi)]
        congr 1
        apply List.ext_getElem?
        intro i
        by_cases hi : i < xs.length
        · simp [hi, U]
        · simp [hi, U]
      cases xs with
      | nil => exact absurd rfl hx
      | cons x xs => simp only [AMem.sliceCells, List.length_cons] at hl ⊢; rw [hl]
  · rfl
  · simp only [AMem.sliceCells, AMem.loadCells, h1, Nat.mul_one]
    rw [if_pos h3, h4]
theorem U_one (xs : List Int) : (U xs).all AV.one = true := by
  induction xs with
  | nil => rfl
  | cons x xs ih => simp only [U, List.map_cons, List.all_cons]; rw [show (AV.int .u64 x).one = true from rfl]; exact ih
theorem U_length (xs : List Int) : (U xs).length = xs.length := by simp [U]
theorem U_append (xs ys : List Int) : U (xs ++ ys) = U xs ++ U ys := by simp [U]

/-- A row of our own, behind 'M0': it may be written; behind it no room is known. -/
def Own (M0 M : AMem) (v : AV) (xs : List Int) : Prop :=
  ∃ b gr sz g, v = .slice (some (b, 0)) xs.length xs.length gr ∧ M0.n ≤ b ∧ M.get b = some (.cells (U xs) sz true g) ∧ (gr = true → sz = 1) ∧ (∀ g', g = some g' → M0.n ≤ g')
theorem Own.row {M0 M : AMem} {v : AV} {xs : List Int} (h : Own M0 M v xs) (hok : Ok M) : Row M v xs := by
  obtain ⟨b, gr, sz, g, rfl, h1, h2, h3, h4⟩ := h
  exact .inr (.inr ⟨b, 0, xs.length, gr, U xs, sz, true, g, rfl, h2, get_lt hok h2, by simp, by rw [List.drop_zero]; exact List.take_of_length_le (by simp)⟩)
theorem Own.grow {M0 M M' : AMem} {v : AV} {xs : List Int} (h : Own M0 M v xs) (hok : Ok M) (hg : Grow M M') : Own M0 M' v xs := by
  obtain ⟨b, gr, sz, g, rfl, h1, h2, h3, h4⟩ := h
  exact ⟨b, gr, sz, g, rfl, h1, (hg.get b (get_lt hok h2)).trans h2, h3, h4⟩
/-- Nothing laid behind a row. -/
theorem append_noneC {M0 M : AMem} {s v : AV} {xs : List Int} (h : Step M0 M) (hs : Own M0 M s xs) (hc : M.sliceCells 1 v = some (0, [])) :
    ∃ M', opI (.append 1 8) [s, v] M = some (.val s M') ∧ Step M0 M' ∧ Own M0 M' s xs := by
  obtain ⟨b, gr, sz, g, rfl, h1, h2, h3, h4⟩ := hs
  have hst : ∀ o, o ≤ xs.length → M.storeCells b o [] = some ((match g with | none => M | some g => M.kill g b).set b (.cells (U xs) sz true g)) := by
    intro o ho
    simp only [AMem.storeCells, h2]
    rw [if_pos ⟨by simp; omega, rfl⟩]
    have : splice (U xs) o [] = U xs := by simp [splice]
    rw [this]
    cases g <;> rfl
  have hrun : ∀ M', M.storeCells b xs.length [] = some M' → opI (.append 1 8) [.slice (some (b, 0)) xs.length xs.length gr, v] M = some (.val (.slice (some (b, 0)) xs.length xs.length gr) M') := by
    intro M' hM
    simp only [opI, hc, AMem.append, AMem.append0, List.length_nil, Nat.add_zero, Nat.le_refl, if_true, Nat.zero_add, Nat.mul_one]
    rw [hM]
  cases g with
  | none =>
    refine ⟨M.set b (.cells (U xs) sz true none), hrun _ (hst _ (Nat.le_refl _)), h.set h1 h2 (fun _ _ _ _ he => by cases he), b, gr, sz, none, rfl, h1, ?_, h3, h4⟩
    rw [get_set_mem h2, if_pos rfl]
  | some g =>
    have hk : (M.kill g b).get b = some (.cells (U xs) sz true (some g)) := by
      letI : Val := ⟨fun _ => 0, fun _ => undef, fun _ => none⟩
      rw [AMem.get_kill, h2]; simp [killOf]
    refine ⟨(M.kill g b).set b (.cells (U xs) sz true (some g)), hrun _ (hst _ (Nat.le_refl _)), (h.kill (h4 g rfl)).set h1 hk (fun _ _ _ _ he => by cases he; exact h.ok.2 _ _ _ _ _ h2), b, gr, sz, some g, rfl, h1, ?_, h3, h4⟩
    rw [get_set_mem hk, if_pos rfl]
theorem append_none {M0 M : AMem} {s v : AV} {xs : List Int} (h : Step M0 M) (hs : Own M0 M s xs) (hv : Row M v []) :
    ∃ M', opI (.append 1 8) [s, v] M = some (.val s M') ∧ Step M0 M' ∧ Own M0 M' s xs := append_noneC h hs hv.cells
/-- Some numbers laid behind a row. -/
theorem append_someC {M0 M : AMem} {s v : AV} {xs ys : List Int} (h : Step M0 M) (hs : Own M0 M s xs) (hc : M.sliceCells 1 v = some (ys.length, U ys)) (hn : xs.length + ys.length ≤ 1000000) (hne : ys ≠ []) :
    ∃ r M', opI (.append 1 8) [s, v] M = some (.val r M') ∧ Step M0 M' ∧ Own M0 M' r (xs ++ ys) := by
  obtain ⟨b, gr, sz, g, rfl, h1, h2, h3, h4⟩ := hs
  have hl : ys.length ≠ 0 := by cases ys; exact absurd rfl hne; simp
  have hall : ((U xs).drop 0).take (xs.length * 1) ++ U ys = U (xs ++ ys) := by
    rw [List.drop_zero, Nat.mul_one, List.take_of_length_le (by simp), U_append]
  cases gr with
  | false =>
    refine ⟨.slice (some (M.n, 0)) (xs ++ ys).length (xs ++ ys).length true, M.push (.cells (U (xs ++ ys)) 1 true none), ?_, h.push (fun _ _ _ _ he => by cases he), M.n, true, 1, none, rfl, h.grow.n, get_push_self h.ok.1, fun _ => rfl, fun g' he => by cases he⟩
    simp only [opI, hc, AMem.append, AMem.append0]
    rw [if_neg (by omega), if_pos ⟨by omega, by omega, by simp⟩, h2]
    simp only [Nat.zero_add, Nat.mul_one, U_length, Nat.le_refl, if_true, Bool.false_eq_true, if_false]
    rw [Nat.mul_one] at hall
    rw [hall]; simp
  | true =>
    obtain rfl := h3 rfl
    have hgb : g.getD b ≤ b := by
      cases g with
      | none => exact Nat.le_refl _
      | some g => exact h.ok.2 _ _ _ _ _ h2
    have hg0 : M0.n ≤ g.getD b := by
      cases g with
      | none => exact h1
      | some g => exact h4 g rfl
    have hlt := get_lt h.ok.1 h2
    have hk : (M.kill (g.getD b) b).get b = some (.cells (U xs) 1 true g) := by
      letI : Val := ⟨fun _ => 0, fun _ => undef, fun _ => none⟩
      rw [AMem.get_kill, h2]; simp [killOf]
    have s1 := (h.kill hg0 (b := b)).set (k := .cells (U xs) 1 true (some (g.getD b))) h1 hk (fun _ _ _ _ he => by cases he; exact hgb)
    refine ⟨.slice (some (M.n, 0)) (xs ++ ys).length (xs ++ ys).length true, M.grow b (U xs) 1 g (U (xs ++ ys)), ?_, s1.push (fun _ _ _ _ he => by cases he; show g.getD b ≤ M.n; omega), M.n, true, 1, some (g.getD b), rfl, h.grow.n, get_push_self s1.ok.1, fun _ => rfl, fun g' he => by cases he; exact hg0⟩
    simp only [opI, hc, AMem.append, AMem.append0]
    rw [if_neg (by omega), if_pos ⟨by omega, by omega, by simp⟩, h2]
    simp only [Nat.zero_add, Nat.mul_one, U_length, Nat.le_refl, if_true, U_one, and_self]
    rw [Nat.mul_one] at hall
    rw [hall]; simp
theorem append_some {M0 M : AMem} {s v : AV} {xs ys : List Int} (h : Step M0 M) (hs : Own M0 M s xs) (hv : Row M v ys) (hn : xs.length + ys.length ≤ 1000000) (hne : ys ≠ []) :
    ∃ r M', opI (.append 1 8) [s, v] M = some (.val r M') ∧ Step M0 M' ∧ Own M0 M' r (xs ++ ys) := append_someC h hs hv.cells hn hne
/-- Any numbers laid behind a row. -/
theorem append_anyC {M0 M : AMem} {s v : AV} {xs ys : List Int} (h : Step M0 M) (hs : Own M0 M s xs) (hc : M.sliceCells 1 v = some (ys.length, U ys)) (hn : xs.length + ys.length ≤ 1000000) :
    ∃ r M', opI (.append 1 8) [s, v] M = some (.val r M') ∧ Step M0 M' ∧ Own M0 M' r (xs ++ ys) := by
  by_cases he : ys = []
  · subst he
    obtain ⟨M', e, s', o'⟩ := append_noneC h hs hc
    exact ⟨_, M', e, s', by rw [List.append_nil]; exact o'⟩
  · exact append_someC h hs hc hn he
/-- An empty row literal. -/
theorem lit_empty {M0 M : AMem} (h : Step M0 M) : ∃ M', opI (.sliceLit 0 [] []) [] M = some (.val (.slice (some (M.n, 0)) 0 0 false) M') ∧ Step M0 M' ∧ Own M0 M' (.slice (some (M.n, 0)) 0 0 false) [] ∧ M'.n = M.n + 1 :=
  ⟨M.push (.cells [] 0 true none), rfl, h.push (fun _ _ _ _ he => by cases he), ⟨M.n, false, 0, none, rfl, h.grow.n, get_push_self h.ok.1, (fun he => by cases he), (fun g' he => by cases he)⟩, rfl⟩
/-- A row literal of one number. -/
theorem lit_one {M0 M : AMem} (h : Step M0 M) (x : Int) : ∃ M', opI (.sliceLit 1 [.int .u64 0] [(0, 1)]) [.int .u64 x] M = some (.val (.slice (some (M.n, 0)) 1 1 false) M') ∧ Step M0 M' ∧ Own M0 M' (.slice (some (M.n, 0)) 1 1 false) [x] ∧ M'.n = M.n + 1 :=
  ⟨M.push (.cells [.int .u64 x] 0 true none), rfl, h.push (fun _ _ _ _ he => by cases he), ⟨M.n, false, 0, none, rfl, h.grow.n, get_push_self h.ok.1, (fun he => by cases he), (fun g' he => by cases he)⟩, rfl⟩
/-- A copy: an empty literal, and the row laid behind it. -/
theorem copy_ok {M0 M : AMem} {v : AV} {xs : List Int} (h : Step M0 M) (hv : Row M v xs) (hn : xs.length ≤ 1000000) :
    ∃ b0 M1 r M', opI (.sliceLit 0 [] []) [] M = some (.val b0 M1) ∧ opI (.append 1 8) [b0, v] M1 = some (.val r M') ∧ Step M0 M1 ∧ Step M0 M' ∧ Own M0 M' r xs ∧ (xs ≠ [] → ∃ b, r = .slice (some (b, 0)) xs.length xs.length true) := by
  obtain ⟨M1, e1, s1, o1, hn1⟩ := lit_empty h
  have hg : Grow M M1 := by
    have := (Step.refl h.ok).push (k := .cells [] 0 true none) (fun _ _ _ _ he => by cases he)
    have e : M1 = M.push (.cells [] 0 true none) := by
      have : opI (.sliceLit 0 [] []) [] M = some (.val (.slice (some (M.n, 0)) 0 0 false) (M.push (.cells [] 0 true none))) := rfl
      rw [this] at e1; cases e1; rfl
    rw [e]; exact this.grow
  have hv1 := hv.grow hg
  by_cases hx : xs = []
  · subst hx
    obtain ⟨M', e2, s2, o2⟩ := append_none s1 o1 hv1
    exact ⟨_, M1, _, M', e1, e2, s1, s2, o2, fun hne => absurd rfl hne⟩
  · obtain ⟨r, M', e2, s2, o2⟩ := append_some s1 o1 hv1 (by simpa using hn) hx
    refine ⟨_, M1, r, M', e1, e2, s1, s2, by simpa using o2, fun _ => ?_⟩
    have hc := hv1.cells
    obtain ⟨b, gr, sz, g, hb, h1, h2, h3, h4⟩ := o2
    simp only [List.nil_append] at hb
    cases gr with
    | true => exact ⟨b, hb⟩
    | false =>
      exfalso
      obtain ⟨b1, gr1, sz1, g1, hb1, k1, k2, k3, k4⟩ := o1
      cases hb1
      have hl : xs.length ≠ 0 := by cases xs; exact absurd rfl hx; simp
      have hU0 : (U ([] : List Int)) = [] := rfl
      rw [hU0] at k2
      simp only [opI, hc, AMem.append, AMem.append0] at e2
      rw [if_neg (by simp; omega), if_pos ⟨by simp; omega, by simp; omega, by simp⟩, k2] at e2
      simp at e2
      obtain ⟨e2, _⟩ := e2
      rw [← e2] at hb
      cases hb
/-- A row of our own, or nil. -/
def Fresh (M0 M : AMem) (v : AV) (xs : List Int) : Prop := Own M0 M v xs ∨ (v = .slice none 0 0 false ∧ xs = [])
theorem Fresh.row {M0 M : AMem} {v : AV} {xs : List Int} (h : Fresh M0 M v xs) (hok : Ok M) : Row M v xs := by
  rcases h with h | h
  · exact h.row hok
  · exact .inr (.inl h)
theorem Own.mono {A B M : AMem} {v : AV} {xs : List Int} (h : Own B M v xs) (hn : A.n ≤ B.n) : Own A M v xs := by
  obtain ⟨b, gr, sz, g, rfl, h1, h2, h3, h4⟩ := h
  exact ⟨b, gr, sz, g, rfl, Nat.le_trans hn h1, h2, h3, fun g' he => Nat.le_trans hn (h4 g' he)⟩
theorem Fresh.mono {A B M : AMem} {v : AV} {xs : List Int} (h : Fresh B M v xs) (hn : A.n ≤ B.n) : Fresh A M v xs := h.imp (fun h => h.mono hn) id
theorem Fresh.grow {M0 M M' : AMem} {v : AV} {xs : List Int} (h : Fresh M0 M v xs) (hok : Ok M) (hg : Grow M M') : Fresh M0 M' v xs := h.imp (fun h => h.grow hok hg) id
theorem append_fresh {M0 M : AMem} {s v : AV} {xs ys : List Int} (h : Step M0 M) (hs : Fresh M0 M s xs) (hv : Row M v ys) (hn : xs.length + ys.length ≤ 1000000) (hne : ys ≠ []) :
    ∃ r M', opI (.append 1 8) [s, v] M = some (.val r M') ∧ Step M0 M' ∧ Own M0 M' r (xs ++ ys) := by
  rcases hs with hs | ⟨rfl, rfl⟩
  · exact append_some h hs hv hn hne
  · have hc := hv.cells
    have hl : ys.length ≠ 0 := by cases ys; exact absurd rfl hne; simp
    simp only [List.length_nil, Nat.zero_add] at hn
    refine ⟨.slice (some (M.n, 0)) ys.length ys.length true, M.push (.cells (U ys) 1 true none), ?_, h.push (fun _ _ _ _ he => by cases he), M.n, true, 1, none, rfl, h.grow.n, get_push_self h.ok.1, (fun _ => rfl), (fun g' he => by cases he)⟩
    simp only [opI, hc, AMem.append, AMem.append0]
    rw [if_neg hl, if_pos ⟨by omega, by omega, by simp⟩]
/-- is a row nil? -/
theorem Row.isNil {M : AMem} {v : AV} {xs : List Int} (h : Row M v xs) : (opI (.eqNil 0 false) [v, .slice none 0 0 false] M = some (.val (.bool true) M) ∧ xs = []) ∨ opI (.eqNil 0 false) [v, .slice none 0 0 false] M = some (.val (.bool false) M) := by
  rcases h with ⟨a, c, rfl, h⟩ | ⟨rfl, rfl⟩ | ⟨b, o, c, gr, cs, sz, wr, g, rfl, h1, h2, h3, h4⟩
  · cases a with
    | none =>
      left
      refine ⟨rfl, ?_⟩
      cases xs with
      | nil => rfl
      | cons x xs => obtain ⟨p, hp, _⟩ := h 0 (by simp); cases hp
    | some p => exact .inr rfl
  · exact .inl ⟨rfl, rfl⟩
  · exact .inr rfl
/-- Cells of our own are written. -/
theorem store_cells {M0 M : AMem} {b o sz : Nat} {cs new : List AV} {g : Option Nat} (h : Step M0 M) (hb : M0.n ≤ b) (hg : M.get b = some (.cells cs sz true g)) (hgg : ∀ g', g = some g' → M0.n ≤ g') (hle : o + new.length ≤ cs.length) (hall : new.all AV.one = true) :
    ∃ M', M.storeCells b o new = some M' ∧ Step M0 M' ∧ M'.get b = some (.cells (splice cs o new) sz true g) ∧ M'.n = M.n := by
  cases g with
  | none =>
    refine ⟨M.set b (.cells (splice cs o new) sz true none), ?_, h.set hb hg (fun _ _ _ _ he => by cases he), by rw [get_set_mem hg, if_pos rfl], rfl⟩
    simp only [AMem.storeCells, hg]
    rw [if_pos ⟨hle, hall⟩]
  | some g =>
    have hk : (M.kill g b).get b = some (.cells cs sz true (some g)) := by
      letI : Val := ⟨fun _ => 0, fun _ => undef, fun _ => none⟩
      rw [AMem.get_kill, hg]; simp [killOf]
    refine ⟨(M.kill g b).set b (.cells (splice cs o new) sz true (some g)), ?_, (h.kill (hgg g rfl)).set hb hk (fun _ _ _ _ he => by cases he; exact h.ok.2 _ _ _ _ _ hg), by rw [get_set_mem hk, if_pos rfl], rfl⟩
    simp only [AMem.storeCells, hg]
    rw [if_pos ⟨hle, hall⟩]
/-- A row of our own that may be written; there may be more behind it. -/
def Mine (M0 M : AMem) (v : AV) (xs : List Int) : Prop :=
  ∃ b c gr cs sz g, v = .slice (some (b, 0)) xs.length c gr ∧ M0.n ≤ b ∧ M.get b = some (.cells cs sz true g) ∧ xs.length ≤ cs.length ∧ cs.take xs.length = U xs ∧ (∀ g', g = some g' → M0.n ≤ g')
theorem Own.mine {M0 M : AMem} {v : AV} {xs : List Int} (h : Own M0 M v xs) : Mine M0 M v xs := by
  obtain ⟨b, gr, sz, g, rfl, h1, h2, h3, h4⟩ := h
  exact ⟨b, _, gr, U xs, sz, g, rfl, h1, h2, by simp, List.take_of_length_le (by simp), h4⟩
theorem Mine.row {M0 M : AMem} {v : AV} {xs : List Int} (h : Mine M0 M v xs) (hok : Ok M) : Row M v xs := by
  obtain ⟨b, c, gr, cs, sz, g, rfl, h1, h2, h3, h4, h5⟩ := h
  exact .inr (.inr ⟨b, 0, c, gr, cs, sz, true, g, rfl, h2, get_lt hok h2, by omega, by rw [List.drop_zero]; exact h4⟩)
theorem Mine.mono {A B M : AMem} {v : AV} {xs : List Int} (h : Mine B M v xs) (hn : A.n ≤ B.n) : Mine A M v xs := by
  obtain ⟨b, c, gr, cs, sz, g, rfl, h1, h2, h3, h4, h5⟩ := h
  exact ⟨b, c, gr, cs, sz, g, rfl, Nat.le_trans hn h1, h2, h3, h4, fun g' he => Nat.le_trans hn (h5 g' he)⟩
theorem Mine.grow {M0 M M' : AMem} {v : AV} {xs : List Int} (h : Mine M0 M v xs) (hok : Ok M) (hg : Grow M M') : Mine M0 M' v xs := by
  obtain ⟨b, c, gr, cs, sz, g, rfl, h1, h2, h3, h4, h5⟩ := h
  exact ⟨b, c, gr, cs, sz, g, rfl, h1, (hg.get b (get_lt hok h2)).trans h2, h3, h4, h5⟩
/-- A row's number is taken out, as slices.Delete does it. -/
theorem del_ok {M0 M : AMem} {b i : Nat} {xs : List Int} {g : Option Nat} (h : Step M0 M) (hb : M0.n ≤ b) (hg : M.get b = some (.cells (U xs) 1 true g)) (hgg : ∀ g', g = some g' → M0.n ≤ g') (hi : i < xs.length) (hn : xs.length ≤ 90000) :
    ∃ w src M1 M2, opI (.slice 1 true true true) [.slice (some (b, 0)) xs.length xs.length true, .int .i64 i, .int .i64 (i + 1 : Nat), .int .i64 xs.length] M = some (.val w M) ∧
      opI (.slice 1 false true false) [.slice (some (b, 0)) xs.length xs.length true, .int .i64 i] M = some (.val (.slice (some (b, 0)) i xs.length true) M) ∧
      opI (.slice 1 true false false) [.slice (some (b, 0)) xs.length xs.length true, .int .i64 (i + 1 : Nat)] M = some (.val src M) ∧
      opI (.append 1 8) [.slice (some (b, 0)) i xs.length true, src] M = some (.val (.slice (some (b, 0)) (xs.length - 1) xs.length true) M1) ∧
      opI (.slice 1 true true false) [.slice (some (b, 0)) (xs.length - 1) xs.length true, .int .i64 (xs.length - 1 : Nat), .int .i64 xs.length] M1 = some (.val (.slice (some (b, xs.length - 1)) 1 1 true) M1) ∧
      opI (.clear 1 [.int .u64 0]) [.slice (some (b, xs.length - 1)) 1 1 true] M1 = some (.val (.tuple []) M2) ∧
      Step M0 M2 ∧ Mine M0 M2 (.slice (some (b, 0)) (xs.length - 1) xs.length true) (xs.eraseIdx i) := by
  have hpos : 0 < xs.length := by omega
  have hlen : (xs.eraseIdx i).length = xs.length - 1 := List.length_eraseIdx_of_lt hi
  -- what stands behind
  have hsrc : ∃ src, opI (.slice 1 true false false) [.slice (some (b, 0)) xs.length xs.length true, .int .i64 (i + 1 : Nat)] M = some (.val src M) ∧ M.sliceCells 1 src = some (xs.length - (i + 1), U (xs.drop (i + 1))) := by
    have hbd : boundsI xs.length xs.length (some (.int .i64 (i + 1 : Nat))) none none = some (i + 1, xs.length, xs.length) := by
      simp only [boundsI, bnd, Option.isSome_none, Bool.false_eq_true, if_false]
      rw [if_pos ⟨by omega, by omega⟩]
      simp
    by_cases hlt : i + 1 < xs.length
    · refine ⟨.slice (some (b, i + 1)) (xs.length - (i + 1)) (xs.length - (i + 1)) true, ?_, ?_⟩
      · simp only [opI, take3, take1, if_true, Bool.false_eq_true, if_false, sliceI, Nat.le_refl, hbd, Option.isNone_none, and_self, hlt]
        simp
      · simp only [AMem.sliceCells, AMem.loadCells, hg, Nat.mul_one, U_length]
        rw [if_pos (by omega)]
        have : (U xs).drop (i + 1) = U (xs.drop (i + 1)) := by simp [U, List.map_drop]
        rw [this, List.take_of_length_le (by simp)]
    · have he : i + 1 = xs.length := by omega
      refine ⟨.tail b 0 ((i + 1) * 1), ?_, ?_⟩
      · simp only [opI, take3, take1, if_true, Bool.false_eq_true, if_false, sliceI, Nat.le_refl, hbd, Option.isNone_none, and_self, hlt]
        rw [if_pos ⟨he, he.symm⟩]
      · simp only [AMem.sliceCells]
        rw [he, List.drop_length]; simp
  obtain ⟨src, hs1, hs2⟩ := hsrc
  have hdl : (xs.drop (i + 1)).length = xs.length - (i + 1) := by simp
  obtain ⟨M1, k1, k2, k3, k4⟩ := store_cells (o := i) (new := U (xs.drop (i + 1))) h hb hg hgg (by simp; omega) (U_one _)
  obtain ⟨M2, l1, l2, l3, l4⟩ := store_cells (o := xs.length - 1) (new := [.int .u64 0]) k2 hb k3 hgg (by rw [splice_length (by simp; omega)]; simp; omega) rfl
  refine ⟨.slice (some (b, if xs.length = i then 0 else 0 + i * 1)) (i + 1 - i) (xs.length - i) false, src, M1, M2, ?_, ?_, hs1, ?_, ?_, ?_, l2, b, xs.length, true, _, 1, g, by rw [hlen], hb, l3, ?_, ?_, hgg⟩
  · have hbd : boundsI xs.length xs.length (some (.int .i64 i)) (some (.int .i64 (i + 1 : Nat))) (some (.int .i64 xs.length)) = some (i, i + 1, xs.length) := by
      simp only [boundsI, bnd]
      rw [if_pos ⟨by omega, by omega⟩]
      simp only []
      rw [if_pos ⟨by omega, by omega⟩]
      simp only []
      rw [if_pos ⟨by omega, by omega⟩]
      simp
    simp only [opI, take3, take1, if_true, sliceI, Nat.le_refl, hbd, Option.isNone_some, Bool.false_eq_true, and_false, if_false]
  · have hbd : boundsI xs.length xs.length none (some (.int .i64 i)) none = some (0, i, xs.length) := by
      simp only [boundsI, bnd]
      rw [if_pos ⟨by omega, by omega⟩]
      simp
    simp only [opI, take3, take1, if_true, Bool.false_eq_true, if_false, sliceI, Nat.le_refl, hbd, Option.isNone_none, and_self, hpos]
    simp
  · simp only [opI, hs2, AMem.append, AMem.append0]
    rw [if_pos (by omega), Nat.zero_add, Nat.mul_one, k1]
    simp only []
    congr 3
    omega
  · have hbd : boundsI (xs.length - 1) xs.length (some (.int .i64 (xs.length - 1 : Nat))) (some (.int .i64 xs.length)) none = some (xs.length - 1, xs.length, xs.length) := by
      simp only [boundsI, bnd]
      rw [if_pos ⟨by omega, by omega⟩]
      simp only []
      rw [if_pos ⟨by omega, by omega⟩]
      simp
    simp only [opI, take3, take1, if_true, Bool.false_eq_true, if_false, sliceI, Nat.sub_le, hbd, Option.isNone_none, and_self]
    rw [if_pos (by omega)]
    have e1 : xs.length - (xs.length - 1) = 1 := by omega
    simp [e1]
  · simp only [opI]
    have : ((List.range (1 * 1)).map fun i => [AV.int .u64 0].getD (i % 1) (.tuple [])) = [.int .u64 0] := rfl
    rw [this, l1]
  · rw [hlen, splice_length (by rw [splice_length (by simp; omega)]; simp; omega), splice_length (by simp; omega), U_length]; omega
  · rw [hlen]
    have e1 : (splice (splice (U xs) i (U (xs.drop (i + 1)))) (xs.length - 1) [.int .u64 0]).take (xs.length - 1) = (splice (U xs) i (U (xs.drop (i + 1)))).take (xs.length - 1) := by
      have hl : (splice (U xs) i (U (xs.drop (i + 1)))).length = xs.length := by rw [splice_length (by simp; omega), U_length]
      generalize splice (U xs) i (U (xs.drop (i + 1))) = l at hl
      unfold splice
      rw [List.append_assoc, List.take_append_of_le_length (by simp; omega), List.take_take]
      congr 1; omega
    rw [e1]
    unfold splice
    have e2 : (U xs).take i ++ U (xs.drop (i + 1)) = U (xs.eraseIdx i) := by
      rw [List.eraseIdx_eq_take_drop_succ]; simp [U, List.map_take, List.map_drop]
    rw [e2, List.take_append_of_le_length (by simp; omega), List.take_of_length_le (by simp; omega)]
/-- a row of which a part may be taken -/
def Wide (v : AV) : Prop := match v with
  | .rslice _ n c => n ≤ c
  | .slice _ n c _ => n ≤ c
  | _ => False
theorem Own.wide {M0 M : AMem} {v : AV} {xs : List Int} (h : Own M0 M v xs) : Wide v := by
  obtain ⟨b, gr, sz, g, rfl, h1, h2, h3, h4⟩ := h
  exact Nat.le_refl _
theorem row_take {M : AMem} {v : AV} {xs : List Int} (h : Row M v xs) (hw : Wide v) {i : Nat} (hi : i < xs.length) :
    ∃ w, opI (.slice 1 false true false) [v, .int .i64 i] M = some (.val w M) ∧ M.sliceCells 1 w = some ((xs.take i).length, U (xs.take i)) := by
  have hbd : ∀ c, xs.length ≤ c → boundsI xs.length c none (some (.int .i64 i)) none = some (0, i, c) := by
    intro c hc
    simp only [boundsI, bnd]
    rw [if_pos ⟨by omega, by omega⟩]
    simp
  have hl : (xs.take i).length = i := by rw [List.length_take]; omega
  rcases h with ⟨a, c, rfl, h⟩ | ⟨rfl, rfl⟩ | ⟨b, o, c, gr, cs, sz, wr, g, rfl, h1, h2, h3, h4⟩
  · have hc : xs.length ≤ c := hw
    obtain ⟨p, rfl, _⟩ := h 0 (by omega)
    refine ⟨.rslice (some p) i c, ?_, ?_⟩
    · simp only [opI, take3, take1, if_true, Bool.false_eq_true, if_false, sliceI, hc, hbd c hc]
      rw [if_neg (by omega)]
      simp [addr_add0]
    · have : Row M (.rslice (some p) (xs.take i).length c) (xs.take i) := by
        refine .inl ⟨some p, c, rfl, fun j hj => ?_⟩
        rw [hl] at hj
        obtain ⟨q, hq, hg⟩ := h j (by omega)
        cases hq
        refine ⟨p, rfl, ?_⟩
        rw [hg]; simp [U, hj]
      rw [hl] at this ⊢
      rw [this.cells, hl]
  · simp at hi
  · have hc : xs.length ≤ c := hw
    refine ⟨.slice (some (b, o)) i c (if gr = true then true else false), ?_, ?_⟩
    · cases gr with
      | true =>
        simp only [opI, take3, take1, if_true, Bool.false_eq_true, if_false, sliceI, hc, hbd c hc, Option.isNone_none, and_self]
        rw [if_pos (by omega)]
        simp
      | false =>
        simp only [opI, take3, take1, if_true, Bool.false_eq_true, if_false, sliceI, hc, hbd c hc, false_and]
        rw [if_neg (by omega)]
        simp
    · have : Row M (.slice (some (b, o)) (xs.take i).length c (if gr = true then true else false)) (xs.take i) := by
        refine .inr (.inr ⟨b, o, c, _, cs, sz, wr, g, rfl, h1, h2, by rw [hl]; omega, ?_⟩)
        rw [hl]
        have : ((cs.drop o).take xs.length).take i = (U xs).take i := by rw [h4]
        rw [List.take_take, Nat.min_eq_left (by omega)] at this
        rw [this]; simp [U, List.map_take]
      rw [hl] at this ⊢
      rw [this.cells, hl]
theorem addr_add_add {a : Addr} {m n : Nat} : (a.add m).add n = a.add (m + n) := by
  obtain ⟨b, o, r⟩ := a
  unfold Addr.add
  by_cases hm : m = 0 <;> by_cases hn : n = 0 <;> simp [hm, hn, Nat.add_assoc]
theorem row_drop {M : AMem} {v : AV} {xs : List Int} (h : Row M v xs) (hw : Wide v) {i : Nat} (hi : 0 < i) (hle : i ≤ xs.length) :
    ∃ w, opI (.slice 1 true false false) [v, .int .i64 i] M = some (.val w M) ∧ M.sliceCells 1 w = some ((xs.drop i).length, U (xs.drop i)) := by
  have hbd : ∀ c, xs.length ≤ c → boundsI xs.length c (some (.int .i64 i)) none none = some (i, xs.length, c) := by
    intro c hc
    simp only [boundsI, bnd, Option.isSome_none, Bool.false_eq_true, if_false]
    rw [if_pos ⟨by omega, by omega⟩]
    simp
  have hl : (xs.drop i).length = xs.length - i := List.length_drop
  rcases h with ⟨a, c, rfl, h⟩ | ⟨rfl, rfl⟩ | ⟨b, o, c, gr, cs, sz, wr, g, rfl, h1, h2, h3, h4⟩
  · have hc : xs.length ≤ c := hw
    obtain ⟨p, rfl, _⟩ := h 0 (by omega)
    refine ⟨.rslice (if c = i then some p else some (p.add i)) (xs.length - i) (c - i), ?_, ?_⟩
    · simp only [opI, take3, take1, if_true, Bool.false_eq_true, if_false, sliceI, hc, hbd c hc, Nat.mul_one]
      rfl
    · have : Row M (.rslice (if c = i then some p else some (p.add i)) (xs.drop i).length (c - i)) (xs.drop i) := by
        refine .inl ⟨_, _, rfl, fun j hj => ?_⟩
        rw [hl] at hj
        rw [if_neg (by omega)]
        obtain ⟨q, hq, hg⟩ := h (i + j) (by omega)
        cases hq
        refine ⟨p.add i, rfl, ?_⟩
        rw [addr_add_add, hg]; simp [U, List.map_drop, List.getElem?_drop]
      rw [hl] at this ⊢
      rw [this.cells, hl]
  · simp only [List.length_nil] at hle; omega
  · have hc : xs.length ≤ c := hw
    by_cases ht : gr = true ∧ i = c
    · obtain ⟨rfl, rfl⟩ := ht
      have he : xs.length = i := by omega
      refine ⟨.tail b o (i * 1), ?_, ?_⟩
      · simp only [opI, take3, take1, if_true, Bool.false_eq_true, if_false, sliceI, hc, hbd i hc, Option.isNone_none, and_self, Nat.lt_irrefl]
        rw [if_pos ⟨trivial, he⟩]
      · rw [show xs.drop i = [] from by rw [← he, List.drop_length]]
        rfl
    · refine ⟨.slice (some (b, if gr = false ∧ c = i then o else o + i)) (xs.length - i) (c - i) (if gr = true then true else false), ?_, ?_⟩
      · cases gr with
        | true =>
          have hne : i ≠ c := fun h => ht ⟨rfl, h⟩
          simp only [opI, take3, take1, if_true, Bool.false_eq_true, if_false, sliceI, hc, hbd c hc, Option.isNone_none, and_self]
          rw [if_pos (by omega)]
          simp
        | false =>
          simp only [opI, take3, take1, if_true, Bool.false_eq_true, if_false, sliceI, hc, hbd c hc, false_and, Nat.mul_one, true_and]
      · have : Row M (.slice (some (b, if gr = false ∧ c = i then o else o + i)) (xs.drop i).length (c - i) (if gr = true then true else false)) (xs.drop i) := by
          by_cases hz : xs.length = i
          · refine .inr (.inr ⟨b, _, _, _, cs, sz, wr, g, rfl, h1, h2, ?_, ?_⟩)
            · rw [hl]; split <;> omega
            · rw [show xs.drop i = [] from by rw [← hz, List.drop_length]]; simp [U]
          · rw [if_neg (by omega)]
            refine .inr (.inr ⟨b, _, _, _, cs, sz, wr, g, rfl, h1, h2, by rw [hl]; omega, ?_⟩)
            have : ((cs.drop o).take xs.length).drop i = (U xs).drop i := by rw [h4]
            rw [List.drop_take, List.drop_drop] at this
            rw [hl, this]; simp [U, List.map_drop]
        rw [hl] at this ⊢
        rw [this.cells, hl]
/-! A region of open order, step by step. -/
def addR (r : Rec) : Option (List Rec × List AMem × Tr AV) → Option (List Rec × List AMem × Tr AV)
  | some (rs, ms, t) => some (r :: rs, ms, t)
  | none => none
def addE (r : Rec) (M : AMem) : Option (List Rec × List AMem × Tr AV) → Option (List Rec × List AMem × Tr AV)
  | some (rs, ms, t) => some (r :: rs, M :: ms, t)
  | none => none
theorem addR_some {r : Rec} {rs : List Rec} {ms : List AMem} {t : Tr AV} : addR r (some (rs, ms, t)) = some (r :: rs, ms, t) := rfl
theorem addE_some {r : Rec} {M : AMem} {rs : List Rec} {ms : List AMem} {t : Tr AV} : addE r M (some (rs, ms, t)) = some (r :: rs, M :: ms, t) := rfl
theorem trace_nil {call : FuncId → List AV → AMem → Option (AV × AMem)} {n0 : Nat} {t : Tr AV} {M : AMem} : trace call n0 [] t M = some ([], [M], t) := rfl
theorem trace_read {call : FuncId → List AV → AMem → Option (AV × AMem)} {n0 : Nat} {op : PI} {args : List PArg} {dst : Option Nat} {fl : Bool} {lo hi : Nat} {ds : List DInstr} {t : Tr AV} {M : AMem} :
    trace call n0 (⟨⟨op, args, dst, none⟩, false, fl, lo, hi⟩ :: ds) t M = match evalArgs t args with
      | some avs => match opI op avs M with
        | some (.val v M') => match sameN M'.n M.n with
          | true => addR ⟨⟨⟨op, args, dst, none⟩, false, fl, lo, hi⟩, some avs, v⟩ (trace call n0 ds (putT t dst v) M)
          | false => none
        | _ => none
      | none => none := by
  simp only [trace, wantedA, if_true, sameN, Bool.false_eq_true, if_false]
  cases evalArgs t args with
  | none => rfl
  | some avs =>
    simp only
    rcases opI op avs M with _ | ⟨v, M'⟩ | ⟨f, as⟩
    · rfl
    · simp only
      by_cases h : M'.n = M.n
      · rw [if_pos h, show (M'.n == M.n) = true by simpa using h]
        cases trace call n0 ds (putT t dst v) M <;> rfl
      · rw [if_neg h, show (M'.n == M.n) = false by simpa using h]
    · rfl
theorem trace_eff {call : FuncId → List AV → AMem → Option (AV × AMem)} {n0 : Nat} {op : PI} {args : List PArg} {dst : Option Nat} {lo hi : Nat} {ds : List DInstr} {t : Tr AV} {M : AMem} :
    trace call n0 (⟨⟨op, args, dst, none⟩, true, false, lo, hi⟩ :: ds) t M = match evalArgs t args with
      | some avs => match val1 call op avs M with
        | some (v, M') => match isHeld (M.get n0) && !isHeld (M'.get n0) with
          | true => none
          | false => addE ⟨⟨⟨op, args, dst, none⟩, true, false, lo, hi⟩, some avs, v⟩ M (trace call n0 ds (putT t dst v) M')
        | none => none
      | none => none := by
  simp only [trace, wantedA, if_true, step1, Bool.false_eq_true, if_false]
  cases evalArgs t args with
  | none => rfl
  | some avs =>
    simp only
    rcases val1 call op avs M with _ | ⟨v, M'⟩
    · rfl
    · simp only
      cases isHeld (M.get n0) && !isHeld (M'.get n0) with
      | true => rfl
      | false =>
        simp only [Bool.false_eq_true, if_false]
        cases trace call n0 ds (putT t dst v) M' <;> rfl
theorem trace_fl {call : FuncId → List AV → AMem → Option (AV × AMem)} {n0 : Nat} {op : PI} {args : List PArg} {dst : Option Nat} {lo hi : Nat} {ds : List DInstr} {t : Tr AV} {M : AMem} :
    trace call n0 (⟨⟨op, args, dst, none⟩, true, true, lo, hi⟩ :: ds) t M = match evalArgs t args with
      | some avs => match fillI op avs n0 M with
        | some (v, M') => addE ⟨⟨⟨op, args, dst, none⟩, true, true, lo, hi⟩, some avs, v⟩ M (trace call n0 ds (putT t dst v) M')
        | none => none
      | none => none := by
  simp only [trace, wantedA, if_true, step1]
  cases evalArgs t args with
  | none => rfl
  | some avs =>
    simp only
    rcases fillI op avs n0 M with _ | ⟨v, M'⟩
    · rfl
    · simp only
      cases trace call n0 ds (putT t dst v) M' <;> rfl
theorem W_trace {call : FuncId → List AV → AMem → Option (AV × AMem)} {N : Nat} {Q : PEx → Tr AV → AMem → Prop} {M M' : AMem} {ds : List DInstr} {t t' : Tr AV} {rs : List Rec} {ms : List AMem} (hf : ds.any (·.fl) = false)
    (h : trace call M.n ds t M = some (rs, ms, t')) (hc : rs.all (checkRec ms) = true) (hl : ms.getLast? = some M') (hQ : Q .normal t' M') : W (exec call N (.drawR ds) t M) Q := by
  refine W_drawR ?_ hQ
  simp only [runDraw, hf, Bool.false_eq_true, if_false, h, hc, if_true, hl]
theorem W_traceF {call : FuncId → List AV → AMem → Option (AV × AMem)} {N : Nat} {Q : PEx → Tr AV → AMem → Prop} {M M' : AMem} {ds : List DInstr} {t t' : Tr AV} {rs : List Rec} {ms : List AMem} (hf : ds.any (·.fl) = true)
    (h : trace call M.n ds t (M.push .held) = some (rs, ms, t')) (hc : rs.all (checkRec ms) = true) (hl : ms.getLast? = some M') (hQ : Q .normal t' M') : W (exec call N (.drawR ds) t M) Q := by
  refine W_drawR ?_ hQ
  simp only [runDraw, hf, if_true, h, hc, hl]
/-- A number kept for a block. -/
theorem Okg.held {M : AMem} (h : Okg M) : Okg (M.push .held) :=
  ⟨h.1.push _, fun b cs sz wr g hb => by
    by_cases hlt : b < M.n
    · rw [get_push_old h.1 hlt] at hb; exact h.2 b cs sz wr g hb
    · have := get_lt (h.1.push _) hb
      have : b = M.n := by simp only [push_n] at this; omega
      subst this
      rw [get_push_self h.1] at hb
      cases hb⟩
theorem Step.fill {B M : AMem} (hB : Okg B) (h : Step (B.push .held) M) (cs : List AV) : Step B (M.set B.n (.cells cs 0 true none)) := by
  have hg : M.get B.n = some .held := (h.grow.get B.n (by rw [push_n]; omega)).trans (get_push_self hB.1)
  refine ⟨((Grow.push hB.1 _).trans h.grow).set (Nat.le_refl _) hg _, ⟨h.ok.1.set _ _, fun m cs' sz wr g hm => ?_⟩, fun m hm => ?_⟩
  · rw [get_set_mem hg] at hm
    split at hm
    · cases hm
    · exact h.ok.2 m cs' sz wr g hm
  · rw [get_set_mem hg]
    split
    · rfl
    · exact h.nh m (by rw [push_n]; omega)
theorem runSeq_skip {call : FuncId → List AV → AMem → Option (AV × AMem)} {op : PI} {args : List PArg} {dst : Option Nat} {ps : List PInstr} {t : Tr AV} {M : AMem} {m : Nat} {want : Bool} (h : t.get m = some undefA) :
    runSeq call (⟨op, args, dst, some (m, want)⟩ :: ps) t M = runSeq call ps (putT t dst undefA) M := by
  simp only [runSeq, wantedA, h, undefA, Bool.false_eq_true, if_false]
theorem runPure_skip {op : PI} {args : List PArg} {dst : Option Nat} {ps : List PInstr} {t : Tr AV} {M : AMem} {m : Nat} {want : Bool} (h : t.get m = some undefA) :
    runPure M (⟨op, args, dst, some (m, want)⟩ :: ps) t = runPure M ps (putT t dst undefA) := by
  simp only [runPure, wantedA, h, undefA, Bool.false_eq_true, if_false]
/-- A number of a row of our own is written. -/
theorem mine_set {M0 M : AMem} {v : AV} {zs : List Int} (h : Step M0 M) (hm : Mine M0 M v zs) {i : Nat} (hi : i < zs.length) (x : Int) :
    ∃ p M', opI (.indexAddrS 1) [v, .int .i64 i] M = some (.val p M) ∧ opI (.load false 1) [p] M = some (.val (.int .u64 zs[i]) M) ∧ opI (.store 1) [p, .int .u64 x] M = some (.val (.tuple []) M') ∧ Step M0 M' ∧ Mine M0 M' v (zs.set i x) := by
  obtain ⟨b, c, gr, cs, sz, g, rfl, h1, h2, h3, h4, h5⟩ := hm
  obtain ⟨M', k1, k2, k3, k4⟩ := store_cells (o := i) (new := [.int .u64 x]) h h1 h2 h5 (by simp; omega) rfl
  have hcs : cs[i]? = some (.int .u64 zs[i]) := by
    have : (cs.take zs.length)[i]? = cs[i]? := List.getElem?_take_of_lt hi
    rw [← this, h4]; simp [U, hi]
  refine ⟨.ptr (some (b, i)), M', ?_, load_own h2 hcs, ?_, k2, b, c, gr, splice cs i [.int .u64 x], sz, g, by rw [List.length_set], h1, k3, ?_, ?_, h5⟩
  · simp only [opI]
    rw [if_pos ⟨by omega, by omega⟩]
    simp
  · simp only [opI, AV.cells, List.length_singleton, if_true, k1]
  · rw [splice_length (by simp; omega), List.length_set]; exact h3
  · rw [List.length_set]
    have hsp : splice cs i [AV.int .u64 x] = cs.set i (.int .u64 x) := by
      unfold splice
      rw [List.set_eq_take_append_cons_drop, if_pos (by omega)]
      simp
    rw [hsp, List.take_set, h4]
    simp [U, List.map_set]
end Go.Vx
