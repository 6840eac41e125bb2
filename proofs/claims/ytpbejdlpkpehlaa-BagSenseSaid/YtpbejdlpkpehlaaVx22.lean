/- Rows of elements of any cells in our machine's memory: read, written, laid behind each other. -/
import Derived.Test.YtpbejdlpkpehlaaVx21
namespace Go.Vx

/-- elements all of so many cells -/
def Els (sz : Nat) (els : List (List AV)) : Prop := ∀ e ∈ els, e.length = sz
theorem Els.len {sz : Nat} {els : List (List AV)} (h : Els sz els) : els.flatten.length = els.length * sz := by
  induction els with
  | nil => simp
  | cons e es ih =>
    have h1 := h e List.mem_cons_self
    have h2 := ih (fun x hx => h x (List.mem_cons_of_mem _ hx))
    rw [List.flatten_cons, List.length_append, h1, h2, List.length_cons, Nat.succ_mul]; omega
theorem Els.take {sz : Nat} {els : List (List AV)} (h : Els sz els) (i : Nat) : Els sz (els.take i) := fun e he => h e (List.mem_of_mem_take he)
theorem Els.drop {sz : Nat} {els : List (List AV)} (h : Els sz els) (i : Nat) : Els sz (els.drop i) := fun e he => h e (List.mem_of_mem_drop he)
theorem Els.append {sz : Nat} {a b : List (List AV)} (h : Els sz a) (k : Els sz b) : Els sz (a ++ b) := fun e he => by
  rcases List.mem_append.1 he with he | he
  · exact h e he
  · exact k e he
theorem Els.get {sz : Nat} {els : List (List AV)} (h : Els sz els) {i : Nat} (hi : i < els.length) : els[i].length = sz := h _ (List.getElem_mem hi)
theorem Els.set {sz : Nat} {els : List (List AV)} (h : Els sz els) (i : Nat) {e : List AV} (he : e.length = sz) : Els sz (els.set i e) := fun x hx => by
  rcases List.mem_or_eq_of_mem_set hx with hx | rfl
  · exact h x hx
  · exact he
theorem Els.split {sz : Nat} {els : List (List AV)} (h : Els sz els) {i : Nat} (hi : i < els.length) : els.flatten = (els.take i).flatten ++ (els[i] ++ (els.drop (i + 1)).flatten) ∧ (els.take i).flatten.length = i * sz := by
  constructor
  · have : els = els.take i ++ (els[i] :: els.drop (i + 1)) := by
      rw [List.getElem_cons_drop]; exact (List.take_append_drop i els).symm
    conv => lhs; rw [this]
    rw [List.flatten_append, List.flatten_cons]
  · rw [(h.take i).len, List.length_take, Nat.min_eq_left (by omega)]
theorem Els.at_ {sz : Nat} {els : List (List AV)} (h : Els sz els) {i o : Nat} (hi : i < els.length) (ho : o < sz) : els.flatten[i * sz + o]? = els[i][o]? := by
  obtain ⟨h1, h2⟩ := h.split hi
  have h3 := h.get hi
  rw [h1, List.getElem?_append_right (by omega), h2, Nat.add_sub_cancel_left, List.getElem?_append_left (by omega)]
theorem Els.part {sz : Nat} {els : List (List AV)} (h : Els sz els) {i : Nat} (hi : i < els.length) : (els.flatten.drop (i * sz)).take sz = els[i] := by
  obtain ⟨h1, h2⟩ := h.split hi
  have h3 := h.get hi
  rw [h1, ← h2, List.drop_left, ← h3, List.take_left]
theorem splice_mid {A B C new : List AV} {o : Nat} (h : o + new.length ≤ B.length) : splice (A ++ (B ++ C)) (A.length + o) new = A ++ (splice B o new ++ C) := by
  unfold splice
  have e1 : (A ++ (B ++ C)).take (A.length + o) = A ++ B.take o := by
    rw [List.take_append, List.take_of_length_le (by omega), Nat.add_sub_cancel_left, List.take_append_of_le_length (by omega)]
  have e2 : (A ++ (B ++ C)).drop (A.length + o + new.length) = B.drop (o + new.length) ++ C := by
    rw [List.drop_append, List.drop_of_length_le (by omega), List.nil_append, show A.length + o + new.length - A.length = o + new.length by omega, List.drop_append_of_le_length (by omega)]
  rw [e1, e2]
  simp [List.append_assoc]
theorem Els.splice {sz : Nat} {els : List (List AV)} (h : Els sz els) {i o : Nat} {new : List AV} (hi : i < els.length) (ho : o + new.length ≤ sz) : Vx.splice els.flatten (i * sz + o) new = (els.set i (Vx.splice els[i] o new)).flatten := by
  obtain ⟨h1, h2⟩ := h.split hi
  have h3 := h.get hi
  rw [h1, ← h2, splice_mid (by omega)]
  have : els.set i (Vx.splice els[i] o new) = els.take i ++ (Vx.splice els[i] o new :: els.drop (i + 1)) := by
    rw [List.set_eq_take_append_cons_drop, if_pos hi]
  rw [this, List.flatten_append, List.flatten_cons]

/-- an address, and a place behind it -/
def padd : AV → Nat → AV
  | .ptr (some (b, o)), n => .ptr (some (b, o + n))
  | .rptr (some a), n => .rptr (some (a.add n))
  | v, _ => v
def IsP : AV → Prop
  | .ptr (some _) => True
  | .rptr (some _) => True
  | _ => False
theorem opI_fieldQ {p : AV} {a o : Nat} {M : AMem} (h : IsP p) : opI (.fieldAddr o) [padd p a] M = some (.val (padd p (a + o)) M) := by
  match p, h with
  | .ptr (some (b, x)), _ => simp [padd, opI, Nat.add_assoc]
  | .rptr (some x), _ => simp [padd, opI, addr_add_add]
theorem padd_ptr {b o n : Nat} : padd (.ptr (some (b, o))) n = .ptr (some (b, o + n)) := rfl
theorem padd_padd {p : AV} {a b : Nat} (h : IsP p) : padd (padd p a) b = padd p (a + b) := by
  match p, h with
  | .ptr (some (b, x)), _ => simp [padd, Nat.add_assoc]
  | .rptr (some x), _ => simp [padd, addr_add_add]
theorem opI_fieldP0 {p : AV} {o : Nat} {M : AMem} (h : IsP p) : opI (.fieldAddr o) [p] M = some (.val (padd p o) M) := by
  match p, h with
  | .ptr (some (b, x)), _ => rfl
  | .rptr (some x), _ => rfl
theorem mapO_range {f : Nat → Option AV} {l : List AV} (h : ∀ j, j < l.length → f j = l[j]?) : mapO f (List.range l.length) = some l := by
  have key : ∀ is : List Nat, (∀ i ∈ is, i < l.length) → mapO f is = some (is.map fun i => l.getD i .nilFunc) := by
    intro is
    induction is with
    | nil => intro _; rfl
    | cons i is ih =>
      intro hall
      have hi := hall i List.mem_cons_self
      simp only [mapO, h i hi, List.getElem?_eq_getElem hi]
      rw [ih (fun j hj => hall j (List.mem_cons_of_mem _ hj))]
      simp [List.getD_eq_getElem?_getD, hi]
  rw [key _ (fun i hi => List.mem_range.1 hi)]
  congr 1
  apply List.ext_getElem?
  intro i
  by_cases hi : i < l.length
  · simp [hi]
  · simp [hi]
/-- A row of elements that can be read. -/
def RowE (M : AMem) (sz : Nat) (v : AV) (els : List (List AV)) : Prop := Els sz els ∧ (
  (∃ a c, v = .rslice a els.length c ∧ ∀ j, j < els.length * sz → ∃ p, a = some p ∧ M.g (p.add j) = els.flatten[j]?) ∨
  (v = .slice none 0 0 false ∧ els = []) ∨
  (∃ b o c gr cs sz' wr g, v = .slice (some (b, o)) els.length c gr ∧ M.get b = some (.cells cs sz' wr g) ∧ b < M.n ∧ o + els.length * sz ≤ cs.length ∧ (cs.drop o).take (els.length * sz) = els.flatten))
theorem RowE.grow {M M' : AMem} {sz : Nat} {v : AV} {els : List (List AV)} (h : RowE M sz v els) (hg : Grow M M') : RowE M' sz v els := by
  obtain ⟨he, ⟨a, c, rfl, h⟩ | h | ⟨b, o, c, gr, cs, sz', wr, g, rfl, h1, h2, h3, h4⟩⟩ := h
  · exact ⟨he, .inl ⟨a, c, rfl, fun i hi => by rw [hg.g]; exact h i hi⟩⟩
  · exact ⟨he, .inr (.inl h)⟩
  · exact ⟨he, .inr (.inr ⟨b, o, c, gr, cs, sz', wr, g, rfl, (hg.get b h2).trans h1, Nat.lt_of_lt_of_le h2 hg.n, h3, h4⟩)⟩
theorem RowE.len {M : AMem} {sz : Nat} {v : AV} {els : List (List AV)} (h : RowE M sz v els) : opI .lenS [v] M = some (.val (.int .i64 els.length) M) := by
  obtain ⟨he, ⟨a, c, rfl, h⟩ | ⟨rfl, rfl⟩ | ⟨b, o, c, gr, cs, sz', wr, g, rfl, h1, h2, h3, h4⟩⟩ := h <;> rfl
theorem RowE.one {M : AMem} {sz : Nat} {v : AV} {els : List (List AV)} (h : RowE M sz v els) : v.one = true := by
  obtain ⟨he, ⟨a, c, rfl, h⟩ | ⟨rfl, rfl⟩ | ⟨b, o, c, gr, cs, sz', wr, g, rfl, h1, h2, h3, h4⟩⟩ := h <;> rfl
theorem RowE.at_ {M : AMem} {sz : Nat} {v : AV} {els : List (List AV)} (h : RowE M sz v els) {i : Nat} (hi : i < els.length) (hs : 0 < sz) :
    ∃ p, IsP p ∧ opI (.indexAddrS sz) [v, .int .i64 i] M = some (.val (padd p 0) M) ∧ (∀ o n, o + n ≤ sz → opI (.load true n) [padd p o] M = some (.val (.agg ((els[i].drop o).take n)) M)) ∧ ∀ o x, els[i][o]? = some x → opI (.load false 1) [padd p o] M = some (.val x M) := by
  obtain ⟨he, h⟩ := h
  have hlen := he.get hi
  have hmul : i * sz + sz ≤ els.length * sz := by rw [← Nat.succ_mul]; exact Nat.mul_le_mul_right sz hi
  rcases h with ⟨a, c, rfl, h⟩ | ⟨rfl, rfl⟩ | ⟨b, o, c, gr, cs, sz', wr, g, rfl, h1, h2, h3, h4⟩
  · obtain ⟨p, rfl, _⟩ := h 0 (by omega)
    refine ⟨.rptr (some (p.add (i * sz))), trivial, ?_, fun o n hon => ?_, fun o x hx => ?_⟩
    · rw [index_in hi]; simp [padd, addr_add0]
    · have hl : ((els[i].drop o).take n).length = n := by rw [List.length_take, List.length_drop]; omega
      have : M.loadG ((p.add (i * sz)).add o) n = some ((els[i].drop o).take n) := by
        unfold AMem.loadG
        have := mapO_range (f := fun j => M.g (((p.add (i * sz)).add o).add j)) (l := (els[i].drop o).take n) fun j hj => ?_
        · rw [hl] at this; exact this
        · obtain ⟨q, hq, hg⟩ := h (i * sz + (o + j)) (by omega)
          cases hq
          rw [addr_add_add, addr_add_add, hg, he.at_ hi (by omega), List.getElem?_take_of_lt (by omega), List.getElem?_drop]
      simp only [padd, opI, if_true, this]
    · have ho : o < sz := by have := (List.getElem?_eq_some_iff.1 hx).1; omega
      obtain ⟨q, hq, hg⟩ := h (i * sz + o) (by omega)
      cases hq
      refine load_in ?_
      rw [addr_add_add, hg, he.at_ hi ho, hx]
  · simp at hi
  · have hat : ∀ j, j < sz → cs[o + i * sz + j]? = els[i][j]? := by
      intro j hj
      have : ((cs.drop o).take (els.length * sz))[i * sz + j]? = els[i][j]? := by rw [h4, he.at_ hi hj]
      rw [List.getElem?_take_of_lt (by omega), List.getElem?_drop] at this
      rw [← this, Nat.add_assoc]
    refine ⟨.ptr (some (b, o + i * sz)), trivial, ?_, fun x n hxn => ?_, fun x y hx => ?_⟩
    · simp only [opI]
      rw [if_pos ⟨by omega, by omega⟩]
      simp [padd]
    · have : (cs.drop (o + i * sz + x)).take n = (els[i].drop x).take n := by
        apply List.ext_getElem?
        intro j
        by_cases hj : j < n
        · rw [List.getElem?_take_of_lt hj, List.getElem?_drop, List.getElem?_take_of_lt hj, List.getElem?_drop, ← hat (x + j) (by omega), Nat.add_assoc]
        · rw [List.getElem?_eq_none (by rw [List.length_take]; omega), List.getElem?_eq_none (by rw [List.length_take]; omega)]
      show opI (.load true n) [.ptr (some (b, o + i * sz + x))] M = _
      rw [loads_own h1 (by omega), this]
    · have ho : x < sz := by have := (List.getElem?_eq_some_iff.1 hx).1; omega
      refine load_own h1 ?_
      rw [hat x ho, hx]
theorem RowE.cells {M : AMem} {sz : Nat} {v : AV} {els : List (List AV)} (h : RowE M sz v els) (hs : 0 < sz) : M.sliceCells sz v = some (els.length, els.flatten) := by
  obtain ⟨he, h⟩ := h
  rcases h with ⟨a, c, rfl, h⟩ | ⟨rfl, rfl⟩ | ⟨b, o, c, gr, cs, sz', wr, g, rfl, h1, h2, h3, h4⟩
  · cases els with
    | nil =>
      cases a with
      | none => rfl
      | some p => simp [AMem.sliceCells, AMem.loadG, mapO]
    | cons e es =>
      have hpos : 0 < (e :: es).length * sz := Nat.mul_pos (by simp) hs
      obtain ⟨p, rfl, _⟩ := h 0 hpos
      have : M.loadG p ((e :: es).length * sz) = some (e :: es).flatten := by
        unfold AMem.loadG
        rw [← he.len]
        refine mapO_range fun j hj => ?_
        obtain ⟨q, hq, hg⟩ := h j (by rw [← he.len]; exact hj)
        cases hq
        exact hg
      simp only [AMem.sliceCells, List.length_cons] at this ⊢
      rw [this]
  · rfl
  · simp only [AMem.sliceCells, AMem.loadCells, h1]
    rw [if_pos h3, h4]

/-- A row of numbers that can be read. -/
def IRow (M : AMem) (k : IntKind) (v : AV) (xs : List Int) : Prop := RowE M 1 v (xs.map fun x => [.int k x])
theorem IRow.grow {M M' : AMem} {k : IntKind} {v : AV} {xs : List Int} (h : IRow M k v xs) (hg : Grow M M') : IRow M' k v xs := RowE.grow h hg
theorem IRow.len {M : AMem} {k : IntKind} {v : AV} {xs : List Int} (h : IRow M k v xs) : opI .lenS [v] M = some (.val (.int .i64 xs.length) M) := by
  have := RowE.len h
  rwa [List.length_map] at this
theorem IRow.one {M : AMem} {k : IntKind} {v : AV} {xs : List Int} (h : IRow M k v xs) : v.one = true := RowE.one h
theorem IRow.at_ {M : AMem} {k : IntKind} {v : AV} {xs : List Int} (h : IRow M k v xs) {i : Nat} (hi : i < xs.length) :
    ∃ p, IsP p ∧ opI (.indexAddrS 1) [v, .int .i64 i] M = some (.val (padd p 0) M) ∧ opI (.load false 1) [padd p 0] M = some (.val (.int k xs[i]) M) := by
  obtain ⟨p, h0, h1, _, h2⟩ := RowE.at_ h (i := i) (by rw [List.length_map]; exact hi) (by omega)
  exact ⟨p, h0, h1, h2 0 _ (by simp)⟩
theorem IRow.nil {M : AMem} {k : IntKind} : IRow M k (.slice none 0 0 false) [] := ⟨fun e he => by simp at he, .inr (.inl ⟨rfl, rfl⟩)⟩

/-- a block's group -/
def grpOf : ABlk → Option Nat
  | .cells _ _ _ g => g
  | _ => none
/-- the block of a slice -/
def sbOf : AV → Option Nat
  | .slice (some (b, _)) _ _ _ => some b
  | _ => none
/-- Blocks of no group are kept, but for one slice's. -/
def Keeps (M M' : AMem) (s : AV) : Prop := ∀ c k, M.get c = some k → grpOf k = none → sbOf s ≠ some c → M'.get c = some k
/-- A row of our own, behind 'M0': it may be written; behind it no room is known. -/
def OwnE (M0 M : AMem) (sz : Nat) (v : AV) (els : List (List AV)) : Prop :=
  ∃ b gr sz' g, v = .slice (some (b, 0)) els.length els.length gr ∧ M0.n ≤ b ∧ M.get b = some (.cells els.flatten sz' true g) ∧ (gr = true → sz' = sz) ∧ (∀ g', g = some g' → M0.n ≤ g') ∧ Els sz els ∧ els.flatten.all AV.one = true
def FreshE (M0 M : AMem) (sz : Nat) (v : AV) (els : List (List AV)) : Prop := OwnE M0 M sz v els ∨ (v = .slice none 0 0 false ∧ els = [])
theorem OwnE.row {M0 M : AMem} {sz : Nat} {v : AV} {els : List (List AV)} (h : OwnE M0 M sz v els) (hok : Ok M) : RowE M sz v els := by
  obtain ⟨b, gr, sz', g, rfl, h1, h2, h3, h4, h5, h6⟩ := h
  refine ⟨h5, .inr (.inr ⟨b, 0, els.length, gr, els.flatten, sz', true, g, rfl, h2, get_lt hok h2, by rw [h5.len]; omega, ?_⟩)⟩
  rw [List.drop_zero]; exact List.take_of_length_le (by rw [h5.len]; omega)
theorem FreshE.row {M0 M : AMem} {sz : Nat} {v : AV} {els : List (List AV)} (h : FreshE M0 M sz v els) (hok : Ok M) : RowE M sz v els := by
  rcases h with h | ⟨rfl, rfl⟩
  · exact h.row hok
  · exact ⟨fun e he => by simp at he, .inr (.inl ⟨rfl, rfl⟩)⟩
theorem OwnE.grow {M0 M M' : AMem} {sz : Nat} {v : AV} {els : List (List AV)} (h : OwnE M0 M sz v els) (hok : Ok M) (hg : Grow M M') : OwnE M0 M' sz v els := by
  obtain ⟨b, gr, sz', g, rfl, h1, h2, h3⟩ := h
  exact ⟨b, gr, sz', g, rfl, h1, (hg.get b (get_lt hok h2)).trans h2, h3⟩
theorem FreshE.grow {M0 M M' : AMem} {sz : Nat} {v : AV} {els : List (List AV)} (h : FreshE M0 M sz v els) (hok : Ok M) (hg : Grow M M') : FreshE M0 M' sz v els := h.imp (fun h => h.grow hok hg) id
theorem OwnE.mono {A B M : AMem} {sz : Nat} {v : AV} {els : List (List AV)} (h : OwnE B M sz v els) (hn : A.n ≤ B.n) : OwnE A M sz v els := by
  obtain ⟨b, gr, sz', g, rfl, h1, h2, h3, h4, h5⟩ := h
  exact ⟨b, gr, sz', g, rfl, Nat.le_trans hn h1, h2, h3, fun g' he => Nat.le_trans hn (h4 g' he), h5⟩
theorem FreshE.mono {A B M : AMem} {sz : Nat} {v : AV} {els : List (List AV)} (h : FreshE B M sz v els) (hn : A.n ≤ B.n) : FreshE A M sz v els := h.imp (fun h => h.mono hn) id
theorem Keeps.push {M : AMem} (h : Ok M) (k : ABlk) (s : AV) : Keeps M (M.push k) s := fun c k' hc _ _ => by rw [get_push_old h (get_lt h hc), hc]
theorem Keeps.trans {A B C : AMem} {s t : AV} (h : Keeps A B s) (k : Keeps B C t) (hst : ∀ c k, A.get c = some k → sbOf s ≠ some c → sbOf t ≠ some c) : Keeps A C s := fun c x hc hg hs => k c x (h c x hc hg hs) hg (hst c x hc hs)
theorem Keeps.grow {M M' : AMem} (h : Ok M) (hg : Grow M M') (s : AV) : Keeps M M' s := fun c k hc _ _ => by rw [hg.get c (get_lt h hc), hc]
theorem get_kill {M : AMem} {g b m : Nat} : (M.kill g b).get m = (M.get m).map (killOf g b m) := by
  letI : Val := ⟨fun _ => 0, fun _ => undef, fun _ => none⟩
  exact AMem.get_kill
theorem killOf_none {g b m : Nat} {k : ABlk} (h : grpOf k = none) : killOf g b m k = k := by
  unfold killOf
  split
  · rfl
  · split
    · cases h
    · rfl
/-- Some elements, at least one, laid behind a row. -/
theorem append_els {M0 M : AMem} {sz bytes : Nat} {s v : AV} {xs ys : List (List AV)} (h : Step M0 M) (hs : FreshE M0 M sz s xs) (hv : RowE M sz v ys) (hz : 0 < sz) (hone : ys.flatten.all AV.one = true) (hn : (xs.length + ys.length) * bytes ≤ 70368744177664) (hn2 : xs.length + ys.length ≤ 1000000) (hne : ys ≠ []) :
    ∃ M', opI (.append sz bytes) [s, v] M = some (.val (.slice (some (M.n, 0)) (xs ++ ys).length (xs ++ ys).length true) M') ∧ Step M0 M' ∧ OwnE M0 M' sz (.slice (some (M.n, 0)) (xs ++ ys).length (xs ++ ys).length true) (xs ++ ys) ∧ Keeps M M' s ∧ M'.n = M.n + 1 ∧
      ∃ g, M'.get M.n = some (.cells (xs ++ ys).flatten sz true g) := by
  have hc := hv.cells hz
  have hl : 0 < ys.length := List.length_pos_iff.2 hne
  have hlen := hv.1.len
  rcases hs with ⟨b, gr, sz', g, rfl, h1, h2, h3, h4, h5, h6⟩ | ⟨rfl, rfl⟩
  · have hall : ((xs.flatten).drop 0).take (xs.length * sz) = xs.flatten := by
      rw [List.drop_zero]; exact List.take_of_length_le (by rw [h5.len]; omega)
    have hE := h5.append hv.1
    have hone' : (xs ++ ys).flatten.all AV.one = true := by rw [List.flatten_append, List.all_append, h6, hone]; rfl
    have hmul : 0 + xs.length * sz = xs.length * sz := by omega
    cases gr with
    | false =>
      refine ⟨M.push (.cells (xs ++ ys).flatten sz true none), ?_, h.push (fun _ _ _ _ he => by cases he), ⟨M.n, true, sz, none, rfl, h.grow.n, get_push_self h.ok.1, (fun _ => rfl), (fun g' he => by cases he), hE, hone'⟩, Keeps.push h.ok.1 _ _, rfl, none, get_push_self h.ok.1⟩
      simp only [opI, hc, AMem.append, AMem.append0]
      rw [if_neg (by omega), if_pos ⟨hn, by omega, hlen⟩, h2]
      simp only [hmul, h5.len, Nat.le_refl, if_true, Bool.false_eq_true, if_false, hall, List.length_append, List.flatten_append]
    | true =>
      obtain rfl := h3 rfl
      have hgb : g.getD b ≤ b := by
        cases g with
        | none => exact Nat.le_refl _
        | some g => exact h.ok.2 _ _ _ _ _ h2
      have hg0 : M0.n ≤ g.getD b := by
        cases g with
        | none => exact h1
        | some g => exact h4 g rfl
      have hlt := get_lt h.ok.1 h2
      have hk : (M.kill (g.getD b) b).get b = some (.cells xs.flatten sz' true g) := by
        rw [get_kill, h2]; simp [killOf]
      have s1 := (h.kill hg0 (b := b)).set (k := .cells xs.flatten sz' true (some (g.getD b))) h1 hk (fun _ _ _ _ he => by cases he; exact hgb)
      refine ⟨M.grow b xs.flatten sz' g (xs ++ ys).flatten, ?_, s1.push (fun _ _ _ _ he => by cases he; show g.getD b ≤ M.n; omega), ⟨M.n, true, sz', some (g.getD b), rfl, h.grow.n, get_push_self s1.ok.1, (fun _ => rfl), (fun g' he => by cases he; exact hg0), hE, hone'⟩, ?_, rfl, some (g.getD b), get_push_self s1.ok.1⟩
      · simp only [opI, hc, AMem.append, AMem.append0]
        rw [if_neg (by omega), if_pos ⟨hn, by omega, hlen⟩, h2]
        simp only [hmul, h5.len, Nat.le_refl, if_true, hall, hone, and_self, List.length_append, List.flatten_append]
      · intro c k hc' hgc hsb
        have hcb : c ≠ b := fun he => hsb (by rw [he]; rfl)
        have hlt' := get_lt h.ok.1 hc'
        show (AMem.push _ _).get c = _
        rw [get_push_old s1.ok.1 hlt', get_set_mem hk, if_neg hcb, get_kill, hc', Option.map_some, killOf_none hgc]
  · simp only [List.nil_append] at *
    simp only [List.length_nil, Nat.zero_add] at hn hn2
    refine ⟨M.push (.cells ys.flatten sz true none), ?_, h.push (fun _ _ _ _ he => by cases he), ⟨M.n, true, sz, none, rfl, h.grow.n, get_push_self h.ok.1, (fun _ => rfl), (fun g' he => by cases he), hv.1, hone⟩, Keeps.push h.ok.1 _ _, rfl, none, get_push_self h.ok.1⟩
    simp only [opI, hc, AMem.append, AMem.append0]
    rw [if_neg (by omega), if_pos ⟨hn, by omega, hlen⟩]
/-- A literal of one element. -/
theorem lit_el {M : AMem} {sz : Nat} {z : List AV} {x : AV} (hz : z.length = sz) (hx : x.cells.length = sz) : opI (.sliceLit 1 z [(0, sz)]) [x] M = some (.val (.slice (some (M.n, 0)) 1 1 false) (M.push (.cells x.cells 0 true none))) := by
  simp only [opI, fillA]
  rw [if_pos ⟨hx, by omega⟩]
  simp only [splice, List.take_zero, List.nil_append, Nat.zero_add, hx]
  rw [List.drop_of_length_le (by omega), List.append_nil]
theorem lit_row {M : AMem} {sz : Nat} {x : AV} (hok : Ok M) (hx : x.cells.length = sz) : RowE (M.push (.cells x.cells 0 true none)) sz (.slice (some (M.n, 0)) 1 1 false) [x.cells] := by
  refine ⟨fun e he => by simp at he; rw [he]; exact hx, .inr (.inr ⟨M.n, 0, 1, false, x.cells, 0, true, none, rfl, get_push_self hok, by rw [push_n]; omega, by simp [hx], ?_⟩)⟩
  simp [← hx]
/-- One element laid behind a row: the literal, and append. -/
theorem push_el {M0 M : AMem} {sz bytes : Nat} {s x : AV} {z : List AV} {xs : List (List AV)} (h : Step M0 M) (hs : FreshE M0 M sz s xs) (hz : z.length = sz) (hx : x.cells.length = sz) (h0 : 0 < sz) (hone : x.cells.all AV.one = true) (hn : (xs.length + 1) * bytes ≤ 70368744177664) (hn2 : xs.length + 1 ≤ 1000000) :
    ∃ M' g, opI (.sliceLit 1 z [(0, sz)]) [x] M = some (.val (.slice (some (M.n, 0)) 1 1 false) (M.push (.cells x.cells 0 true none))) ∧
      opI (.append sz bytes) [s, .slice (some (M.n, 0)) 1 1 false] (M.push (.cells x.cells 0 true none)) = some (.val (.slice (some (M.n + 1, 0)) (xs.length + 1) (xs.length + 1) true) M') ∧
      Step M0 M' ∧ OwnE M0 M' sz (.slice (some (M.n + 1, 0)) (xs.length + 1) (xs.length + 1) true) (xs ++ [x.cells]) ∧ Keeps M M' s ∧ M'.n = M.n + 2 ∧ M'.get (M.n + 1) = some (.cells (xs ++ [x.cells]).flatten sz true g) := by
  have s1 := h.push (k := .cells x.cells 0 true none) (fun _ _ _ _ he => by cases he)
  have g1 := Grow.push h.ok.1 (.cells x.cells 0 true none)
  obtain ⟨M', e, s2, o2, k2, n2, g, hg⟩ := append_els (bytes := bytes) s1 (hs.grow h.ok.1 g1) (lit_row h.ok.1 hx) h0 (by simpa using hone) (by simpa using hn) (by simpa using hn2) (by simp)
  simp only [push_n, List.length_append, List.length_singleton] at e o2 n2 hg
  refine ⟨M', g, lit_el hz hx, e, s2, o2, fun c k hc hgc hsb => k2 c k ?_ hgc hsb, n2, hg⟩
  rw [get_push_old h.ok.1 (get_lt h.ok.1 hc), hc]
/-- Cells of an element are written. -/
theorem store_el {M0 M : AMem} {sz : Nat} {v x : AV} {xs : List (List AV)} (h : Step M0 M) (hs : OwnE M0 M sz v xs) {i o n : Nat} (hi : i < xs.length) (hx : x.cells.length = n) (ho : o + n ≤ sz) (hone : x.cells.all AV.one = true) :
    ∃ p M', IsP p ∧ opI (.indexAddrS sz) [v, .int .i64 i] M = some (.val (padd p 0) M) ∧ opI (.store n) [padd p o, x] M = some (.val (.tuple []) M') ∧ Step M0 M' ∧ OwnE M0 M' sz v (xs.set i (splice xs[i] o x.cells)) ∧ Keeps M M' v ∧ M'.n = M.n ∧
      ∀ cs sz' wr g, M.get ((sbOf v).getD 0) = some (.cells cs sz' wr g) → ∃ cs', M'.get ((sbOf v).getD 0) = some (.cells cs' sz' wr g) := by
  obtain ⟨b, gr, sz', g, rfl, h1, h2, h3, h4, h5, h6⟩ := hs
  have hmul : i * sz + sz ≤ xs.length * sz := by rw [← Nat.succ_mul]; exact Nat.mul_le_mul_right sz hi
  have hel := h5.get hi
  obtain ⟨M', k1, k2, k3, k4⟩ := store_cells (o := i * sz + o) (new := x.cells) h h1 h2 h4 (by rw [h5.len]; omega) hone
  rw [h5.splice hi (by omega)] at k3
  have hsl : (splice xs[i] o x.cells).length = sz := by rw [splice_length (by omega), hel]
  refine ⟨.ptr (some (b, i * sz)), M', trivial, ?_, ?_, k2, ⟨b, gr, sz', g, by rw [List.length_set], h1, k3, h3, h4, h5.set i hsl, ?_⟩, ?_, k4, ?_⟩
  · simp only [opI]
    rw [if_pos ⟨by omega, by omega⟩]
    simp [padd]
  · simp only [padd, opI, hx, if_true, k1]
  · rw [List.all_eq_true]
    intro y hy
    obtain ⟨e, he, hye⟩ := List.mem_flatten.1 hy
    rcases List.mem_or_eq_of_mem_set he with he | rfl
    · exact List.all_eq_true.1 h6 y (List.mem_flatten.2 ⟨e, he, hye⟩)
    · have : y ∈ xs[i] ∨ y ∈ x.cells := by
        unfold splice at hye
        rcases List.mem_append.1 hye with hye | hye
        · rcases List.mem_append.1 hye with hye | hye
          · exact .inl (List.mem_of_mem_take hye)
          · exact .inr hye
        · exact .inl (List.mem_of_mem_drop hye)
      rcases this with hy | hy
      · exact List.all_eq_true.1 h6 y (List.mem_flatten.2 ⟨xs[i], List.getElem_mem hi, hy⟩)
      · exact List.all_eq_true.1 hone y hy
  · intro c k hc hgc hsb
    have hcb : c ≠ b := fun he => hsb (by rw [he]; rfl)
    simp only [AMem.storeCells, h2] at k1
    rw [if_pos ⟨by rw [h5.len]; omega, hone⟩] at k1
    cases k1
    cases g with
    | none => rw [get_set_mem h2, if_neg hcb, hc]
    | some g =>
      have hk : (M.kill g b).get b = some (.cells xs.flatten sz' true (some g)) := by rw [get_kill, h2]; simp [killOf]
      rw [get_set_mem hk, if_neg hcb, get_kill, hc, Option.map_some, killOf_none hgc]
  · intro cs sz1 wr g1 hb
    simp only [sbOf, Option.getD_some] at hb ⊢
    rw [h2] at hb; cases hb
    exact ⟨_, k3⟩
/-- A cell of a block of our own of no group is written. -/
theorem store_own {M0 M : AMem} {b o n sz : Nat} {cs : List AV} {x : AV} (h : Step M0 M) (hb : M0.n ≤ b) (hg : M.get b = some (.cells cs sz true none)) (hx : x.cells.length = n) (ho : o + n ≤ cs.length) (hone : x.cells.all AV.one = true) :
    opI (.store n) [.ptr (some (b, o)), x] M = some (.val (.tuple []) (M.set b (.cells (splice cs o x.cells) sz true none))) ∧ Step M0 (M.set b (.cells (splice cs o x.cells) sz true none)) := by
  refine ⟨?_, h.set hb hg (fun _ _ _ _ he => by cases he)⟩
  simp only [opI, hx, if_true, AMem.storeCells, hg]
  rw [if_pos ⟨ho, hone⟩]
theorem flat_one {k : IntKind} {xs : List Int} : (xs.map fun x => [AV.int k x]).flatten = xs.map (AV.int k ·) := by
  induction xs with
  | nil => rfl
  | cons x xs ih => simp only [List.map_cons, List.flatten_cons, List.singleton_append, ih]
theorem els_one {k : IntKind} {xs : List Int} : Els 1 (xs.map fun x => [AV.int k x]) := fun e he => by
  obtain ⟨x, _, rfl⟩ := List.mem_map.1 he
  rfl
theorem one_ints {k : IntKind} {xs : List Int} : (xs.map (AV.int k ·)).all AV.one = true := by
  rw [List.all_eq_true]
  intro y hy
  obtain ⟨x, _, rfl⟩ := List.mem_map.1 hy
  rfl
/-- A row of numbers that stands alone: a block of no group, or nil. -/
def Solo (M0 M : AMem) (k : IntKind) (v : AV) (xs : List Int) : Prop :=
  (v = .slice none 0 0 false ∧ xs = []) ∨ ∃ b gr sz, v = .slice (some (b, 0)) xs.length xs.length gr ∧ M0.n ≤ b ∧ M.get b = some (.cells (xs.map (AV.int k ·)) sz true none) ∧ (gr = true → sz = 1) ∧ (xs ≠ [] → sz = 1)
theorem Solo.row {M0 M : AMem} {k : IntKind} {v : AV} {xs : List Int} (h : Solo M0 M k v xs) (hok : Ok M) : IRow M k v xs := by
  rcases h with ⟨rfl, rfl⟩ | ⟨b, gr, sz, rfl, h1, h2, _⟩
  · exact IRow.nil
  · refine ⟨els_one, .inr (.inr ⟨b, 0, _, gr, _, sz, true, none, by rw [List.length_map], h2, get_lt hok h2, by simp, ?_⟩)⟩
    rw [flat_one, List.drop_zero]; exact List.take_of_length_le (by simp)
theorem Solo.mono {A B M : AMem} {k : IntKind} {v : AV} {xs : List Int} (h : Solo B M k v xs) (hn : A.n ≤ B.n) : Solo A M k v xs := h.imp id fun ⟨b, gr, sz, e, h1, h2⟩ => ⟨b, gr, sz, e, Nat.le_trans hn h1, h2⟩
theorem Solo.grow {M0 M M' : AMem} {k : IntKind} {v : AV} {xs : List Int} (h : Solo M0 M k v xs) (hok : Ok M) (hg : Grow M M') : Solo M0 M' k v xs := h.imp id fun ⟨b, gr, sz, e, h1, h2, h3⟩ => ⟨b, gr, sz, e, h1, (hg.get b (get_lt hok h2)).trans h2, h3⟩
theorem Solo.one {M0 M : AMem} {k : IntKind} {v : AV} {xs : List Int} (h : Solo M0 M k v xs) : v.one = true ∧ v.cells = [v] := by
  rcases h with ⟨rfl, rfl⟩ | ⟨b, gr, sz, rfl, h1, h2, _⟩ <;> exact ⟨rfl, rfl⟩
theorem IRow.one2 {M : AMem} {k : IntKind} {v : AV} {xs : List Int} (h : IRow M k v xs) : v.one = true ∧ v.cells = [v] := by
  obtain ⟨he, ⟨a, c, rfl, h⟩ | ⟨rfl, _⟩ | ⟨b, o, c, gr, cs, sz', wr, g, rfl, h1, h2, h3, h4⟩⟩ := h <;> exact ⟨rfl, rfl⟩
theorem Solo.keep {M0 M M' : AMem} {k : IntKind} {v s : AV} {xs : List Int} (h : Solo M0 M k v xs) (hk : Keeps M M' s) (hs : ∀ b cs sz, M.get b = some (.cells cs sz true none) → (cs = [] ∨ ∀ c ∈ cs, ∃ x, c = .int k x) → (cs ≠ [] → sz = 1) → sbOf s ≠ some b) : Solo M0 M' k v xs := by
  refine h.imp id fun ⟨b, gr, sz, e, h1, h2, h3, h4⟩ => ⟨b, gr, sz, e, h1, hk b _ h2 rfl (hs b _ sz h2 ?_ ?_), h3, h4⟩
  · right
    intro c hc
    obtain ⟨x, _, rfl⟩ := List.mem_map.1 hc
    exact ⟨x, rfl⟩
  · intro hne; exact h4 (by simpa using hne)
theorem Solo.other {M0 M M' : AMem} {k : IntKind} {v : AV} {xs : List Int} {b0 : Nat} (h : Solo M0 M k v xs) (hk : ∀ c, c ≠ b0 → M'.get c = M.get c) (hb : b0 < M0.n) : Solo M0 M' k v xs :=
  Or.imp id (fun ⟨b, gr, sz, e, p1, p2, p3⟩ => ⟨b, gr, sz, e, p1, (hk b (by omega)).trans p2, p3⟩) h
theorem one_int {k : IntKind} {x : Int} : (AV.int k x).one = true := rfl
theorem one_bool {x : Bool} : (AV.bool x).one = true := rfl
theorem one_nilS {n c : Nat} {g : Bool} : (AV.slice none n c g).one = true := rfl
/-- is a row nil? -/
theorem IRow.isNil {M : AMem} {k : IntKind} {v : AV} {xs : List Int} (h : IRow M k v xs) : (opI (.eqNil 0 false) [v, .slice none 0 0 false] M = some (.val (.bool true) M) ∧ xs = []) ∨ opI (.eqNil 0 false) [v, .slice none 0 0 false] M = some (.val (.bool false) M) := by
  obtain ⟨_, ⟨a, c, rfl, h⟩ | ⟨rfl, he⟩ | ⟨b, o, c, gr, cs, sz', wr, g, rfl, h1, h2, h3, h4⟩⟩ := h
  · cases a with
    | none =>
      left
      refine ⟨rfl, ?_⟩
      cases xs with
      | nil => rfl
      | cons x xs => obtain ⟨p, hp, _⟩ := h 0 (by simp); cases hp
    | some p => exact .inr rfl
  · exact .inl ⟨rfl, by simpa using he⟩
  · exact .inr rfl
/-- A row copied: behind an empty literal. -/
theorem clone_lit {M0 M : AMem} {k : IntKind} {v : AV} {xs : List Int} (h : Step M0 M) (hv : IRow M k v xs) (hn : xs.length ≤ 1000000) :
    ∃ r M', opI (.append 1 8) [.slice (some (M.n, 0)) 0 0 false, v] (M.push (.cells [] 0 true none)) = some (.val r M') ∧ Step M0 M' ∧ Step M M' ∧ Solo M M' k r xs := by
  have s1 := h.push (k := .cells [] 0 true none) (fun _ _ _ _ he => by cases he)
  have t1 := (Step.refl h.ok).push (k := .cells [] 0 true none) (fun _ _ _ _ he => by cases he)
  have hc := RowE.cells (hv.grow (Grow.push h.ok.1 (.cells [] 0 true none))) (by omega)
  rw [List.length_map, flat_one] at hc
  have hg := get_push_self (k := .cells [] 0 true none) h.ok.1
  by_cases hx : xs = []
  · subst hx
    refine ⟨.slice (some (M.n, 0)) 0 0 false, (M.push (.cells [] 0 true none)).set M.n (.cells [] 0 true none), ?_, s1.set h.grow.n hg (fun _ _ _ _ he => by cases he), t1.set (Nat.le_refl _) hg (fun _ _ _ _ he => by cases he), .inr ⟨M.n, false, 0, rfl, Nat.le_refl _, ?_, (fun he => by cases he), (fun he => absurd rfl he)⟩⟩
    · simp [opI, hc, AMem.append, AMem.append0, AMem.storeCells, hg, splice]
    · rw [get_set_mem hg, if_pos rfl]; rfl
  · have hl : 0 < xs.length := List.length_pos_iff.2 hx
    refine ⟨.slice (some (M.n + 1, 0)) xs.length xs.length true, (M.push (.cells [] 0 true none)).push (.cells (xs.map (AV.int k ·)) 1 true none), ?_, s1.push (fun _ _ _ _ he => by cases he), t1.push (fun _ _ _ _ he => by cases he), .inr ⟨M.n + 1, true, 1, rfl, by omega, get_push_self s1.ok.1, fun _ => rfl, fun _ => rfl⟩⟩
    simp only [opI, hc, AMem.append, AMem.append0]
    rw [if_neg (by omega), if_pos ⟨by omega, by omega, by simp⟩, hg]
    simp [push_n]
/-- A cell of a block is written. -/
theorem splice_one {cs : List AV} {o : Nat} {x : AV} (h : o < cs.length) : splice cs o [x] = cs.set o x := by
  unfold splice
  rw [List.set_eq_take_append_cons_drop, if_pos h]
  simp
theorem store1 {M0 M : AMem} {b o sz : Nat} {cs : List AV} {x : AV} (h : Step M0 M) (hb : M0.n ≤ b) (hg : M.get b = some (.cells cs sz true none)) (hx : x.one = true ∧ x.cells = [x]) (ho : o < cs.length) :
    opI (.store 1) [.ptr (some (b, o)), x] M = some (.val (.tuple []) (M.set b (.cells (cs.set o x) sz true none))) ∧ Step M0 (M.set b (.cells (cs.set o x) sz true none)) ∧ (M.set b (.cells (cs.set o x) sz true none)).get b = some (.cells (cs.set o x) sz true none) ∧ ∀ c, c ≠ b → (M.set b (.cells (cs.set o x) sz true none)).get c = M.get c := by
  obtain ⟨h1, h2⟩ := store_own (o := o) (n := 1) (x := x) h hb hg (by rw [hx.2]; rfl) ho (by rw [hx.2, List.all_cons, hx.1]; rfl)
  rw [hx.2, splice_one ho] at h1 h2
  exact ⟨h1, h2, by rw [get_set_mem hg, if_pos rfl], fun c hc => by rw [get_set_mem hg, if_neg hc]⟩
/-- All cells of a block are written. -/
theorem store_all {M0 M : AMem} {b n sz : Nat} {cs new : List AV} (h : Step M0 M) (hb : M0.n ≤ b) (hg : M.get b = some (.cells cs sz true none)) (hl : new.length = n) (ho : cs.length = n) (hone : new.all AV.one = true) :
    opI (.store n) [.ptr (some (b, 0)), .agg new] M = some (.val (.tuple []) (M.set b (.cells new sz true none))) ∧ Step M0 (M.set b (.cells new sz true none)) ∧ (M.set b (.cells new sz true none)).get b = some (.cells new sz true none) ∧ ∀ c, c ≠ b → (M.set b (.cells new sz true none)).get c = M.get c := by
  obtain ⟨h1, h2⟩ := store_own (o := 0) (n := n) (x := .agg new) h hb hg hl (by omega) hone
  have : splice cs 0 (AV.cells (.agg new)) = new := by
    unfold splice
    rw [cells_agg, List.take_zero, List.nil_append, List.drop_of_length_le (by omega), List.append_nil]
  rw [this] at h1 h2
  exact ⟨h1, h2, by rw [get_set_mem hg, if_pos rfl], fun c hc => by rw [get_set_mem hg, if_neg hc]⟩
theorem opI_nilP {a : Nat × Nat} {M : AMem} : opI .nilCheck [.ptr (some a)] M = some (.val (.ptr (some a)) M) := rfl
theorem opI_indexA {len sz b o : Nat} {k : IntKind} {i : Nat} {M : AMem} (h : i < len) : opI (.indexAddrA len sz) [.ptr (some (b, o)), .int k i] M = some (.val (.ptr (some (b, o + i * sz))) M) := by
  simp only [opI]
  rw [if_pos ⟨by omega, by omega⟩]
  simp
theorem fin_cell {t : Tr AV} {M : AMem} {i b n sz : Nat} {cs : List AV} {wr : Bool} {g : Option Nat} (h : t.get i = some (.ptr (some (b, 0)))) (hg : M.get b = some (.cells cs sz wr g)) (hl : cs.length = n) : resIs t M [.cell i true n] = some [.agg cs] := by
  simp only [resIs, resI, h, if_true, AMem.loadCells, hg]
  rw [if_pos (by omega)]
  simp [List.take_of_length_le (Nat.le_of_eq hl)]
/-- A block that was made by others, of the world's later ones. -/
theorem MR.made [Val] {B : Nat → Prop} {w0 w w' : World} {e : Env} {M : AMem} (h : MR B w0 e M w) {p d sz : Nat} {cs : List AV} {vs : List Value} {arr : Array Value} {T : TypeId} (hb : RowKit.Below w.heap.size w w') (hp : w.heap.size ≤ p) (hblk : w'.heap[p]? = some (.cells arr T (0, 0)))
    (hc : concs e cs = some vs) (hsz : cs.length + d * sz ≤ arr.size) (hval : ∀ (i : Nat) (v : Value), vs[i]? = some v → arr[i]? = some v) (g : Option Nat) : MR B w0 (e.set M.n ⟨p, 0, d⟩) (M.push (.cells cs sz true g)) w' := by
  have h' := h.outside hb
  have hpl : p < w'.heap.size := (Array.getElem?_eq_some_iff.1 hblk).1
  have hget : ∀ m, (M.push (.cells cs sz true g)).get m = if m = M.n then some (.cells cs sz true g) else M.get m := fun m => Tr.get_push M.t M.n _ m h.full
  refine ⟨fun b hb => by simp only [AMem.push] at hb; unfold Env.set; rw [if_neg (by omega)]; exact h.fresh b (by omega), Tr.full_push h.full _, h'.below, h'.base, ?_, ?_, ?_, ?_, h.ro⟩
  · intro b j x hj hx
    rw [hget] at hj
    rcases Env.set_get hx with ⟨hb, hx'⟩ | ⟨rfl, rfl⟩
    · rw [if_neg hb] at hj
      exact (h'.blocks b j x hj hx').ext (h.one _)
    · rw [if_pos rfl] at hj; cases hj
      exact ⟨arr, T, (0, 0), vs, hblk, fun _ => rfl, by simpa using hsz, (h.one _).concs hc, by intro i v hv; simpa using hval i v hv⟩
  · intro b j x hj hx hw
    rw [hget] at hj
    rcases Env.set_get hx with ⟨hb, hx'⟩ | ⟨rfl, rfl⟩
    · rw [if_neg hb] at hj
      exact h.own b j x hj hx' hw
    · exact fun hb => absurd (h.base _ hb) (by show ¬ p < _; omega)
  · intro b b' j j' x x' hne hj hj' hx hx' he
    rw [hget] at hj hj'
    rcases Env.set_get hx with ⟨hb, hx1⟩ | ⟨rfl, rfl⟩
    · rw [if_neg hb] at hj
      rcases Env.set_get hx' with ⟨hb', hx1'⟩ | ⟨rfl, rfl⟩
      · rw [if_neg hb'] at hj'
        exact h.sep b b' j j' x x' hne hj hj' hx1 hx1' he
      · have := h.room b x hx1
        simp only at he; omega
    · rcases Env.set_get hx' with ⟨hb', hx1'⟩ | ⟨rfl, rfl⟩
      · have := h.room b' x' hx1'
        simp only at he; omega
      · exact absurd rfl hne
  · intro b x hx
    rcases Env.set_get hx with ⟨hb, hx'⟩ | ⟨rfl, rfl⟩
    · exact h'.room b x hx'
    · exact hpl
end Go.Vx
