/- Rows of our own with room behind them, and what an operation leaves alone. -/
import Derived.Test.YtpbejdlpkpehlaaVx25
namespace Go.Vx

/-- a block's name: its group's, or its own -/
def gid (c : Nat) (k : ABlk) : Nat := (grpOf k).getD c
/-- blocks of other names are kept -/
def Fr (M M' : AMem) (ids : Nat → Prop) : Prop := ∀ c k, M.get c = some k → ¬ ids (gid c k) → M'.get c = some k
section
variable {M M' A B C : AMem} {ids ids' : Nat → Prop}
theorem Fr.refl : Fr M M ids := fun _ _ h _ => h
theorem Fr.trans (h : Fr A B ids) (k : Fr B C ids) : Fr A C ids := fun c x hc hi => k c x (h c x hc hi) hi
theorem Fr.mono (h : Fr A B ids) (hi : ∀ i, ids i → ids' i) : Fr A B ids' := fun c x hc hn => h c x hc (fun h' => hn (hi _ h'))
theorem Fr.push (h : Ok M) (k : ABlk) : Fr M (M.push k) ids := fun c x hc _ => by rw [get_push_old h (get_lt h hc), hc]
theorem Fr.grow (h : Ok M) (hg : Grow M M') : Fr M M' ids := fun c x hc _ => by rw [hg.get c (get_lt h hc), hc]
theorem Fr.set {b : Nat} {k k' : ABlk} (hg : M.get b = some k') : Fr M (M.set b k) (· = gid b k') := fun c x hc hi => by
  have hcb : c ≠ b := fun he => by subst he; rw [hg] at hc; cases hc; exact hi rfl
  rw [get_set_mem hg, if_neg hcb, hc]
theorem Fr.kill {g b : Nat} : Fr M (M.kill g b) (· = g) := fun c x hc hi => by
  rw [get_kill, hc, Option.map_some]
  congr 1
  unfold killOf
  split
  · rfl
  · split
    · rename_i g' 
      split
      · rename_i hgg
        exact absurd (show gid c _ = g from by simp only [gid, grpOf, Option.getD_some]; exact hgg) hi
      · rfl
    · rfl
theorem gid_le (h : Okg M) {c : Nat} {k : ABlk} (hc : M.get c = some k) : gid c k < M.n := by
  have hlt := get_lt h.1 hc
  cases k with
  | cells cs sz wr g =>
    cases g with
    | none => exact hlt
    | some g => have := h.2 _ _ _ _ _ hc; show g < _; omega
  | map _ => exact hlt
  | dead => exact hlt
  | held => exact hlt
/-- Cells of our own are written: other names are kept. -/
theorem store_cellsF {M0 M : AMem} {b o sz : Nat} {cs new : List AV} {g : Option Nat} (h : Step M0 M) (hb : M0.n ≤ b) (hg : M.get b = some (.cells cs sz true g)) (hgg : ∀ g', g = some g' → M0.n ≤ g') (hle : o + new.length ≤ cs.length) (hall : new.all AV.one = true) :
    ∃ M', M.storeCells b o new = some M' ∧ Step M0 M' ∧ M'.get b = some (.cells (splice cs o new) sz true g) ∧ M'.n = M.n ∧ Fr M M' (· = g.getD b) := by
  cases g with
  | none =>
    refine ⟨M.set b (.cells (splice cs o new) sz true none), ?_, h.set hb hg (fun _ _ _ _ he => by cases he), by rw [get_set_mem hg, if_pos rfl], rfl, Fr.set hg⟩
    simp only [AMem.storeCells, hg]
    rw [if_pos ⟨hle, hall⟩]
  | some g =>
    have hk : (M.kill g b).get b = some (.cells cs sz true (some g)) := by
      rw [get_kill, hg]; simp [killOf]
    refine ⟨(M.kill g b).set b (.cells (splice cs o new) sz true (some g)), ?_, (h.kill (hgg g rfl)).set hb hk (fun _ _ _ _ he => by cases he; exact h.ok.2 _ _ _ _ _ hg), by rw [get_set_mem hk, if_pos rfl], rfl, Fr.kill.trans (Fr.set hk)⟩
    simp only [AMem.storeCells, hg]
    rw [if_pos ⟨hle, hall⟩]
end
/-- A row of our own; there may be room behind it. -/
def RowI (M0 M : AMem) (sz γ : Nat) (v : AV) (els : List (List AV)) : Prop :=
  (v = .slice none 0 0 false ∧ els = []) ∨ ∃ b c gr cs sz' g, v = .slice (some (b, 0)) els.length c gr ∧ els.length ≤ c ∧ M0.n ≤ γ ∧ M0.n ≤ b ∧ M.get b = some (.cells cs sz' true g) ∧ cs.length = c * sz ∧ cs.take (els.length * sz) = els.flatten ∧ (gr = true → sz' = sz) ∧ g.getD b = γ ∧ Els sz els ∧ cs.all AV.one = true
section
variable {M0 M M' : AMem} {sz γ : Nat} {v : AV} {els : List (List AV)}
theorem RowI.nil : RowI M0 M sz γ (.slice none 0 0 false) [] := .inl ⟨rfl, rfl⟩
theorem RowI.frame {ids : Nat → Prop} (h : RowI M0 M sz γ v els) (hf : Fr M M' ids) (hi : ¬ ids γ) : RowI M0 M' sz γ v els := by
  refine h.imp id fun ⟨b, c, gr, cs, sz', g, e, h1, h2, h3, h4, h5, h6, h7, h8, h9, h10⟩ => ⟨b, c, gr, cs, sz', g, e, h1, h2, h3, hf b _ h4 ?_, h5, h6, h7, h8, h9, h10⟩
  show ¬ ids (g.getD b)
  rw [h8]; exact hi
theorem RowI.row (h : RowI M0 M sz γ v els) (hok : Ok M) : RowE M sz v els := by
  rcases h with ⟨rfl, rfl⟩ | ⟨b, c, gr, cs, sz', g, rfl, h1, h2, h3, h4, h5, h6, h7, h8, h9, h10⟩
  · exact ⟨fun e he => by simp at he, .inr (.inl ⟨rfl, rfl⟩)⟩
  · refine ⟨h9, .inr (.inr ⟨b, 0, c, gr, cs, sz', true, g, rfl, h4, get_lt hok h4, ?_, by rw [List.drop_zero]; exact h6⟩)⟩
    rw [h5, Nat.zero_add]; exact Nat.mul_le_mul_right sz h1
theorem RowI.one (h : RowI M0 M sz γ v els) : v.one = true ∧ v.cells = [v] := by
  rcases h with ⟨rfl, rfl⟩ | ⟨b, c, gr, cs, sz', g, rfl, _⟩ <;> exact ⟨rfl, rfl⟩
theorem RowI.id_lt (h : RowI M0 M sz γ v els) (hok : Okg M) (hne : els ≠ []) : γ < M.n := by
  rcases h with ⟨rfl, rfl⟩ | ⟨b, c, gr, cs, sz', g, rfl, h1, h2, h3, h4, h5, h6, h7, h8, h9, h10⟩
  · exact absurd rfl hne
  · have := gid_le hok h4
    rw [← h8]; exact this
/-- where an element lies -/
def rowp (v : AV) (sz i : Nat) : AV := match v with
  | .slice (some (b, o)) _ _ _ => .ptr (some (b, o + i * sz))
  | _ => .nilFunc
theorem RowI.idx (h : RowI M0 M sz γ v els) {i : Nat} (hi : i < els.length) (M' : AMem) : opI (.indexAddrS sz) [v, .int .i64 i] M' = some (.val (rowp v sz i) M') := by
  rcases h with ⟨rfl, rfl⟩ | ⟨b, c, gr, cs, sz', g, rfl, h1, h2⟩
  · simp at hi
  · simp only [opI]
    rw [if_pos ⟨by omega, by omega⟩]
    simp [rowp]
theorem RowI.isP (h : RowI M0 M sz γ v els) {i : Nat} (hi : i < els.length) : IsP (rowp v sz i) := by
  rcases h with ⟨rfl, rfl⟩ | ⟨b, c, gr, cs, sz', g, rfl, h1, h2⟩
  · simp at hi
  · trivial
theorem RowE.beq1 {M : AMem} {sz : Nat} {v : AV} {els : List (List AV)} (h : RowE M sz v els) : AV.beq v v = true := by
  obtain ⟨he, ⟨a, c, rfl, h⟩ | ⟨rfl, _⟩ | ⟨b, o, c, gr, cs, sz', wr, g, rfl, h1, h2, h3, h4⟩⟩ := h <;> simp [AV.beq]
theorem padd_z {p : AV} (h : IsP p) : padd p 0 = p := by
  match p, h with
  | .ptr (some (b, x)), _ => rfl
  | .rptr (some x), _ => simp [padd, addr_add0]
theorem RowI.ld (h : RowI M0 M sz γ v els) (hok : Ok M) (hs : 0 < sz) {i : Nat} (hi : i < els.length) :
    (∀ o n, o + n ≤ sz → opI (.load true n) [padd (rowp v sz i) o] M = some (.val (.agg ((els[i].drop o).take n)) M)) ∧ ∀ o x, els[i][o]? = some x → opI (.load false 1) [padd (rowp v sz i) o] M = some (.val x M) := by
  obtain ⟨p, pp, p1, p2, p3⟩ := (h.row hok).at_ hi hs
  have := h.idx hi M
  rw [p1] at this
  simp only [Option.some.injEq, SR.val.injEq, and_true] at this
  rw [padd_z pp] at this
  subst this
  exact ⟨p2, p3⟩
theorem all_splice {cs new : List AV} {o : Nat} (h : cs.all AV.one = true) (hn : new.all AV.one = true) : (splice cs o new).all AV.one = true := by
  rw [List.all_eq_true] at *
  intro y hy
  unfold splice at hy
  rcases List.mem_append.1 hy with hy | hy
  · rcases List.mem_append.1 hy with hy | hy
    · exact h y (List.mem_of_mem_take hy)
    · exact hn y hy
  · exact h y (List.mem_of_mem_drop hy)
theorem take_splice {cs new : List AV} {o n : Nat} (h : o + new.length ≤ n) (hn : n ≤ cs.length) : (splice cs o new).take n = splice (cs.take n) o new := by
  unfold splice
  rw [List.take_append, List.take_of_length_le (by simp; omega), List.take_take, Nat.min_eq_left (by omega), List.take_drop]
  congr 2
  simp; omega
/-- An element is written. -/
theorem RowI.put (h : Step M0 M) (hs : RowI M0 M sz γ v els) {i : Nat} (hi : i < els.length) {x : AV} (hx : x.cells.length = sz) (hone : x.cells.all AV.one = true) :
    ∃ M', opI (.store sz) [rowp v sz i, x] M = some (.val (.tuple []) M') ∧ Step M0 M' ∧ RowI M0 M' sz γ v (els.set i x.cells) ∧ Fr M M' (· = γ) ∧ M'.n = M.n := by
  rcases hs with ⟨rfl, rfl⟩ | ⟨b, c, gr, cs, sz', g, rfl, h1, h2, h3, h4, h5, h6, h7, h8, h9, h10⟩
  · simp at hi
  have hmul : i * sz + sz ≤ els.length * sz := by rw [← Nat.succ_mul]; exact Nat.mul_le_mul_right sz hi
  have hmul2 : els.length * sz ≤ c * sz := Nat.mul_le_mul_right sz h1
  have hel := h9.get hi
  obtain ⟨M', k1, k2, k3, k4, k5⟩ := store_cellsF (o := i * sz) (new := x.cells) h h3 h4 (fun g' he => by subst he; rw [← h8] at h2; exact h2) (by omega) hone
  refine ⟨M', ?_, k2, .inr ⟨b, c, gr, _, sz', g, by rw [List.length_set], by rw [List.length_set]; exact h1, h2, h3, k3, ?_, ?_, h7, h8, h9.set i hx, all_splice h10 hone⟩, by rw [← h8]; exact k5, k4⟩
  · simp only [rowp, opI, hx, if_true, Nat.zero_add, k1]
  · rw [splice_length (by omega), h5]
  · rw [List.length_set, take_splice (by omega) (by omega), h6]
    have := h9.splice (o := 0) (new := x.cells) hi (by omega)
    rw [Nat.add_zero] at this
    rw [this]
    congr 2
    unfold splice
    rw [List.take_zero, List.nil_append, List.drop_of_length_le (by omega), List.append_nil]
/-- The last one is struck. -/
theorem RowI.pop (hs : RowI M0 M sz γ v els) (hl : 0 < els.length) :
    ∃ v', opI (.slice sz false true false) [v, .int .i64 (els.length - 1 : Nat)] M = some (.val v' M) ∧ RowI M0 M sz γ v' (els.take (els.length - 1)) := by
  rcases hs with ⟨rfl, rfl⟩ | ⟨b, c, gr, cs, sz', g, rfl, h1, h2, h3, h4, h5, h6, h7, h8, h9, h10⟩
  · simp at hl
  have hbd : boundsI els.length c none (some (.int .i64 (els.length - 1 : Nat))) none = some (0, els.length - 1, c) := by
    simp only [boundsI, bnd]
    rw [if_pos ⟨by omega, by omega⟩]
    simp
  have hlen : (els.take (els.length - 1)).length = els.length - 1 := by rw [List.length_take]; omega
  refine ⟨.slice (some (b, 0)) (els.length - 1) c (if gr = true then true else false), ?_, .inr ⟨b, c, _, cs, sz', g, by rw [hlen], by omega, h2, h3, h4, h5, ?_, ?_, h8, h9.take _, h10⟩⟩
  · cases gr with
    | true =>
      simp only [opI, take3, take1, if_true, Bool.false_eq_true, if_false, sliceI, h1, hbd, Option.isNone_none, and_self]
      rw [if_pos (by omega)]
      simp
    | false =>
      simp only [opI, take3, take1, if_true, Bool.false_eq_true, if_false, sliceI, h1, hbd, false_and]
      rw [if_neg (by omega)]
      simp
  · rw [hlen]
    have e1 := (h9.take (els.length - 1)).len
    rw [hlen] at e1
    have h6' := h6
    have : cs.take ((els.length - 1) * sz) = (cs.take (els.length * sz)).take ((els.length - 1) * sz) := by
      rw [List.take_take, Nat.min_eq_left (Nat.mul_le_mul_right sz (by omega))]
    rw [this, h6]
    have e2 : els.flatten = (els.take (els.length - 1)).flatten ++ (els.drop (els.length - 1)).flatten := by rw [← List.flatten_append, List.take_append_drop]
    rw [e2, ← e1, List.take_left]
  · intro hg
    cases gr with
    | true => exact h7 rfl
    | false => simp at hg
/-- One more is laid behind. -/
theorem RowI.push {bytes : Nat} {x : AV} {z : List AV} (h : Step M0 M) (hs : RowI M0 M sz γ v els) (hz : z.length = sz) (hx : x.cells.length = sz) (h0 : 0 < sz) (hone : x.cells.all AV.one = true) (hn : (els.length + 1) * bytes ≤ 70368744177664) (hn2 : els.length + 1 ≤ 1000000) :
    ∃ M' v' γ', opI (.sliceLit 1 z [(0, sz)]) [x] M = some (.val (.slice (some (M.n, 0)) 1 1 false) (M.push (.cells x.cells 0 true none))) ∧
      opI (.append sz bytes) [v, .slice (some (M.n, 0)) 1 1 false] (M.push (.cells x.cells 0 true none)) = some (.val v' M') ∧ Step M0 M' ∧ RowI M0 M' sz γ' v' (els ++ [x.cells]) ∧ Fr M M' (· = γ) ∧ (γ' = γ ∨ M.n ≤ γ') ∧ M.n ≤ M'.n := by
  have s1 := h.push (k := .cells x.cells 0 true none) (fun _ _ _ _ he => by cases he)
  have hc := (lit_row h.ok.1 hx).cells h0
  simp only [List.length_singleton, List.flatten_singleton] at hc
  have hE : Els sz (els ++ [x.cells]) → True := fun _ => trivial
  clear hE
  have hE1 : Els sz [x.cells] := fun e he => by simp at he; rw [he]; exact hx
  have f1 : ∀ ids, Fr M (M.push (.cells x.cells 0 true none)) ids := fun ids => Fr.push h.ok.1 _
  rcases hs with ⟨rfl, rfl⟩ | ⟨b, c, gr, cs, sz', g, rfl, h1, h2, h3, h4, h5, h6, h7, h8, h9, h10⟩
  · refine ⟨(M.push (.cells x.cells 0 true none)).push (.cells x.cells sz true none), .slice (some (M.n + 1, 0)) 1 1 true, M.n + 1, lit_el hz hx, ?_, s1.push (fun _ _ _ _ he => by cases he), .inr ⟨M.n + 1, 1, true, x.cells, sz, none, rfl, Nat.le_refl _, by have := h.grow.n; omega, by have := h.grow.n; omega, get_push_self s1.ok.1, by omega, ?_, fun _ => rfl, rfl, hE1, hone⟩, (f1 _).trans (Fr.push s1.ok.1 _), .inr (by omega), by show M.n ≤ M.n + 1 + 1; omega⟩
    · simp only [opI, hc, AMem.append, AMem.append0]
      rw [if_neg (by omega), if_pos ⟨by simpa using hn, by omega, by omega⟩]
      rfl
    · simp only [List.nil_append, List.length_singleton, Nat.one_mul, List.flatten_singleton]
      exact List.take_of_length_le (by omega)
  have hg4 : (M.push (.cells x.cells 0 true none)).get b = some (.cells cs sz' true g) := by rw [get_push_old h.ok.1 (get_lt h.ok.1 h4), h4]
  have hgg : ∀ g', g = some g' → M0.n ≤ g' := fun g' he => by subst he; rw [← h8] at h2; exact h2
  have hlen := h9.len
  have hEa := h9.append hE1
  have hfl : (els ++ [x.cells]).flatten = els.flatten ++ x.cells := by simp
  by_cases hroom : els.length + 1 ≤ c
  · have hmul : (els.length + 1) * sz ≤ c * sz := Nat.mul_le_mul_right sz hroom
    rw [Nat.succ_mul] at hmul
    obtain ⟨M', k1, k2, k3, k4, k5⟩ := store_cellsF (o := els.length * sz) (new := x.cells) s1 h3 hg4 hgg (by omega) hone
    refine ⟨M', .slice (some (b, 0)) (els.length + 1) c gr, γ, lit_el hz hx, ?_, k2, .inr ⟨b, c, gr, _, sz', g, by simp, by simpa using hroom, h2, h3, k3, by rw [splice_length (by omega), h5], ?_, h7, h8, hEa, all_splice h10 hone⟩, (f1 _).trans (by rw [← h8]; exact k5), .inl rfl, by rw [k4]; show M.n ≤ M.n + 1; omega⟩
    · simp only [opI, hc, AMem.append, AMem.append0]
      rw [if_pos hroom, Nat.zero_add, k1]
    · rw [List.length_append, List.length_singleton, Nat.succ_mul, take_splice (by omega) (by omega), hfl]
      unfold splice
      rw [List.take_take, Nat.min_eq_left (by omega), h6, List.drop_of_length_le (by rw [List.length_take]; omega), List.append_nil]
  · have hcl : els.length = c := by omega
    subst hcl
    have hall : (cs.drop 0).take (els.length * sz) = els.flatten := by rw [List.drop_zero]; exact h6
    have hcs : cs = els.flatten := by rw [← h6]; exact (List.take_of_length_le (by omega)).symm
    have hone2 : (els ++ [x.cells]).flatten.all AV.one = true := by rw [hfl, List.all_append, ← hcs, h10, hone]; rfl
    have hl2 : (els ++ [x.cells]).flatten.length = (els.length + 1) * sz := by rw [hEa.len]; simp
    cases gr with
    | false =>
      refine ⟨(M.push (.cells x.cells 0 true none)).push (.cells (els ++ [x.cells]).flatten sz true none), .slice (some (M.n + 1, 0)) (els.length + 1) (els.length + 1) true, M.n + 1, lit_el hz hx, ?_, s1.push (fun _ _ _ _ he => by cases he), .inr ⟨M.n + 1, els.length + 1, true, _, sz, none, by simp, by simp, by have := h.grow.n; omega, by have := h.grow.n; omega, get_push_self s1.ok.1, hl2, List.take_of_length_le (by rw [hl2]; simp), fun _ => rfl, rfl, hEa, hone2⟩, (f1 _).trans (Fr.push s1.ok.1 _), .inr (by omega), by show M.n ≤ M.n + 1 + 1; omega⟩
      simp only [opI, hc, AMem.append, AMem.append0]
      rw [if_neg (by omega), if_pos ⟨by simpa using hn, by omega, by omega⟩, hg4]
      simp only [Nat.zero_add, h5, Nat.le_refl, if_true, Bool.false_eq_true, if_false, hall, hfl, push_n]
    | true =>
      obtain rfl := h7 rfl
      have hgb : g.getD b ≤ b := by
        cases g with
        | none => exact Nat.le_refl _
        | some g => exact h.ok.2 _ _ _ _ _ h4
      have hg0 : M0.n ≤ g.getD b := by rw [h8]; exact h2
      have hlt := get_lt h.ok.1 h4
      have hk : ((M.push (.cells x.cells 0 true none)).kill (g.getD b) b).get b = some (.cells cs sz' true g) := by
        rw [get_kill, hg4]; simp [killOf]
      have s2 := (s1.kill hg0 (b := b)).set (k := .cells cs sz' true (some (g.getD b))) h3 hk (fun _ _ _ _ he => by cases he; exact hgb)
      refine ⟨(M.push (.cells x.cells 0 true none)).grow b cs sz' g (els ++ [x.cells]).flatten, .slice (some (M.n + 1, 0)) (els.length + 1) (els.length + 1) true, γ, lit_el hz hx, ?_, s2.push (fun _ _ _ _ he => by cases he; show g.getD b ≤ M.n + 1; omega), .inr ⟨M.n + 1, els.length + 1, true, _, sz', some (g.getD b), by simp, by simp, h2, by have := h.grow.n; omega, get_push_self s2.ok.1, hl2, List.take_of_length_le (by rw [hl2]; simp), fun _ => rfl, by simpa using h8, hEa, hone2⟩, ?_, .inl rfl, by show M.n ≤ M.n + 1 + 1; omega⟩
      · simp only [opI, hc, AMem.append, AMem.append0]
        rw [if_neg (by omega), if_pos ⟨by simpa using hn, by omega, by omega⟩, hg4]
        simp only [Nat.zero_add, h5, Nat.le_refl, if_true, hall, hone, and_self, hfl, push_n]
      · rw [← h8]
        have hset : Fr ((M.push (.cells x.cells 0 true none)).kill (g.getD b) b) _ (· = g.getD b) := Fr.set (k := .cells cs sz' true (some (g.getD b))) hk
        exact (f1 _).trans (Fr.kill.trans (hset.trans (Fr.push s2.ok.1 _)))
end
end Go.Vx
