/- The parts Vx25, Vx26, Vx27 of the walk. -/
import Derived.Test.YtbjipmhdncfodaaVx22
/- Heaps as container/heap keeps them: plain lists. -/
namespace Go.Vx

/-- two places' contents exchanged -/
def swapL {α : Type} (d : α) (l : List α) (i j : Nat) : List α := (l.set i (l.getD j d)).set j (l.getD i d)
section
variable {α : Type} {d : α} {l : List α} {i j k n e : Nat}
theorem swapL_len : (swapL d l i j).length = l.length := by simp [swapL]
theorem getD_set' {x : α} (h : i < l.length) : (l.set i x).getD j d = if i = j then x else l.getD j d := by
  rw [List.getD_eq_getElem?_getD, List.getD_eq_getElem?_getD, List.getElem?_set]
  split
  · first | rfl | (rw [if_pos h]; rfl)
  · rfl
theorem swapL_get (hi : i < l.length) (hj : j < l.length) : (swapL d l i j).getD k d = if k = j then l.getD i d else if k = i then l.getD j d else l.getD k d := by
  unfold swapL
  rw [getD_set' (by rw [List.length_set]; exact hj), getD_set' hi]
  by_cases h1 : j = k
  · subst h1; simp
  · by_cases h2 : i = k
    · subst h2
      rw [if_neg h1, if_pos rfl, if_neg (fun h => h1 h.symm)]
    · rw [if_neg h1, if_neg h2, if_neg (fun h => h1 h.symm), if_neg (fun h => h2 h.symm)]
theorem swapL_perm (hi : i < l.length) (hj : j < l.length) : (swapL d l i j).Perm l := by
  unfold swapL
  rw [List.getD_eq_getElem?_getD, List.getD_eq_getElem?_getD, List.getElem?_eq_getElem hi, List.getElem?_eq_getElem hj]
  exact List.set_set_perm hi hj

/-- what an order must be -/
structure WO (lt : α → α → Bool) : Prop where
  asymm : ∀ a b, lt a b = true → lt b a = false
  ntrans : ∀ a b c, lt b a = false → lt c b = false → lt c a = false
variable {lt : α → α → Bool}
theorem WO.irr (h : WO lt) (a : α) : lt a a = false := by
  cases hl : lt a a with
  | false => rfl
  | true => have := h.asymm a a hl; rw [hl] at this; exact this
def par (i : Nat) : Nat := (i - 1) / 2
/-- is a place not ahead of the one above it? -/
def InOrd (lt : α → α → Bool) (d : α) (l : List α) (c : Nat) : Prop := lt (l.getD c d) (l.getD (par c) d) = false
def HeapN (lt : α → α → Bool) (d : α) (l : List α) (n : Nat) : Prop := ∀ c, 0 < c → c < n → InOrd lt d l c
structure UpI (lt : α → α → Bool) (d : α) (l : List α) (n j : Nat) : Prop where
  o : ∀ c, 0 < c → c < n → c ≠ j → InOrd lt d l c
  g : ∀ c, 0 < c → c < n → par c = j → 0 < j → lt (l.getD c d) (l.getD (par j) d) = false
theorem UpI.zero (h : UpI lt d l n 0) : HeapN lt d l n := fun c h0 hc => h.o c h0 hc (by omega)
theorem UpI.exit (h : UpI lt d l n j) (ho : InOrd lt d l j) : HeapN lt d l n := fun c h0 hc => by
  by_cases hcj : c = j
  · subst hcj; exact ho
  · exact h.o c h0 hc hcj
theorem UpI.step (hw : WO lt) (h : UpI lt d l n j) (hj0 : 0 < j) (hjn : j < n) (hn : n ≤ l.length) (hlt : lt (l.getD j d) (l.getD (par j) d) = true) : UpI lt d (swapL d l (par j) j) n (par j) := by
  have hpj : par j < j := by unfold par; omega
  have get : ∀ k, (swapL d l (par j) j).getD k d = if k = j then l.getD (par j) d else if k = par j then l.getD j d else l.getD k d := fun k => swapL_get (by omega) (by omega)
  have has := hw.asymm _ _ hlt
  refine ⟨fun c h0 hc hne => ?_, fun c h0 hc hp hpos => ?_⟩
  · unfold InOrd
    rw [get, get]
    have hpc : par c < c := by unfold par; omega
    by_cases c1 : c = j
    · subst c1
      rw [if_pos rfl, if_neg (by omega), if_pos rfl]
      exact has
    · rw [if_neg c1, if_neg hne]
      by_cases c2 : par c = j
      · rw [if_pos c2]
        exact h.g c h0 hc c2 hj0
      · rw [if_neg c2]
        by_cases c3 : par c = par j
        · rw [if_pos c3]
          have := h.o c h0 hc c1
          unfold InOrd at this
          rw [c3] at this
          exact hw.ntrans _ _ _ has this
        · rw [if_neg c3]
          exact h.o c h0 hc c1
  · rw [get, get]
    have hpp : par (par j) < par j := by unfold par at *; omega
    rw [if_neg (show par (par j) ≠ j by omega), if_neg (show par (par j) ≠ par j by omega)]
    have hoi := h.o (par j) hpos (by omega) (by omega)
    by_cases c1 : c = j
    · rw [if_pos c1]; exact hoi
    · have hpc : par c < c := by unfold par; omega
      rw [if_neg c1, if_neg (by omega)]
      have hoc := h.o c h0 hc c1
      unfold InOrd at hoc
      rw [hp] at hoc
      exact hw.ntrans _ _ _ hoi hoc
structure DnI (lt : α → α → Bool) (d : α) (l : List α) (n i e : Nat) : Prop where
  o : ∀ c, 0 < c → c < n → par c ≠ i → c ≠ e → InOrd lt d l c
  g : ∀ c, 0 < c → c < n → par c = i → 0 < i → lt (l.getD c d) (l.getD (par i) d) = false
theorem DnI.exit (h : DnI lt d l n i e) (hc : ∀ c, 0 < c → c < n → par c = i → InOrd lt d l c) : ∀ c, 0 < c → c < n → c ≠ e → InOrd lt d l c := fun c h0 hcn hne => by
  by_cases hp : par c = i
  · exact hc c h0 hcn hp
  · exact h.o c h0 hcn hp hne
theorem DnI.step (hw : WO lt) (h : DnI lt d l n i e) (he : e = i ∨ e = n) (hj0 : 0 < j) (hjn : j < n) (hpj : par j = i) (hn : n ≤ l.length) (hlt : lt (l.getD j d) (l.getD i d) = true)
    (hmin : ∀ c, 0 < c → c < n → par c = i → lt (l.getD c d) (l.getD j d) = false) : DnI lt d (swapL d l i j) n j n := by
  have hij : i < j := by rw [← hpj]; unfold par; omega
  have get : ∀ k, (swapL d l i j).getD k d = if k = j then l.getD i d else if k = i then l.getD j d else l.getD k d := fun k => swapL_get (by omega) (by omega)
  have has := hw.asymm _ _ hlt
  refine ⟨fun c h0 hc hp _ => ?_, fun c h0 hc hp _ => ?_⟩
  · unfold InOrd
    rw [get, get]
    have hpc : par c < c := by unfold par; omega
    rw [if_neg hp]
    by_cases c1 : c = j
    · subst c1
      rw [if_pos rfl, if_pos hpj]
      exact has
    · rw [if_neg c1]
      by_cases c2 : c = i
      · rw [if_pos c2, if_neg (by omega), c2]
        exact h.g j hj0 hjn hpj (by omega)
      · rw [if_neg c2]
        by_cases c3 : par c = i
        · rw [if_pos c3]
          exact hmin c h0 hc c3
        · rw [if_neg c3]
          exact h.o c h0 hc c3 (by rcases he with he | he <;> omega)
  · rw [get, get]
    have hpc : par c < c := by unfold par; omega
    rw [if_neg (by omega), if_neg (by omega), hpj, if_neg (by omega), if_pos rfl]
    have := h.o c h0 hc (by omega) (by rcases he with he | he <;> omega)
    unfold InOrd at this
    rw [hp] at this
    exact this
theorem heap_min (hw : WO lt) (h : HeapN lt d l n) : ∀ c, c < n → lt (l.getD c d) (l.getD 0 d) = false := by
  intro c
  induction c using Nat.strongRecOn with
  | ind c ih =>
    intro hc
    by_cases h0 : c = 0
    · subst h0; exact hw.irr _
    · have hp : par c < c := by unfold par; omega
      exact hw.ntrans _ _ _ (ih (par c) hp (by omega)) (h c (by omega) hc)
/-- one more, behind -/
theorem UpI.push {x : α} (h : HeapN lt d l l.length) : UpI lt d (l ++ [x]) (l.length + 1) l.length := by
  have get : ∀ k, k < l.length → (l ++ [x]).getD k d = l.getD k d := fun k hk => by
    rw [List.getD_eq_getElem?_getD, List.getD_eq_getElem?_getD, List.getElem?_append_left hk]
  refine ⟨fun c h0 hc hne => ?_, fun c h0 hc hp _ => by unfold par at hp; omega⟩
  have hp : par c < c := by unfold par; omega
  unfold InOrd
  rw [get c (by omega), get _ (by omega)]
  exact h c h0 (by omega)
/-- the last one laid at a place -/
theorem DnI.start (hw : WO lt) (h : HeapN lt d l (n + 1)) (hn : n + 1 = l.length) (hi : i < n) : DnI lt d (swapL d l i n) n i i := by
  have get : ∀ k, (swapL d l i n).getD k d = if k = n then l.getD i d else if k = i then l.getD n d else l.getD k d := fun k => swapL_get (by omega) (by omega)
  refine ⟨fun c h0 hc hp hne => ?_, fun c h0 hc hp hpos => ?_⟩
  · have hpc : par c < c := by unfold par; omega
    unfold InOrd
    rw [get, get, if_neg (by omega), if_neg hne, if_neg (by omega), if_neg hp]
    exact h c h0 (by omega)
  · have hpc : par c < c := by unfold par; omega
    have hpi : par i < i := by unfold par; omega
    rw [get, get, if_neg (by omega), if_neg (by omega), if_neg (by omega), if_neg (by omega)]
    have h1 := h c h0 (by omega)
    unfold InOrd at h1
    rw [hp] at h1
    exact hw.ntrans _ _ _ (h i hpos (by omega)) h1
/-- a place that did not sink may rise -/
theorem DnI.rise (h : DnI lt d l n i i) (ho : ∀ c, 0 < c → c < n → c ≠ i → InOrd lt d l c) : UpI lt d l n i := ⟨ho, h.g⟩
theorem HeapN.take {m : Nat} (h : HeapN lt d l n) (hm : n ≤ m) : HeapN lt d (l.take m) n := fun c h0 hc => by
  have get : ∀ k, k < m → (l.take m).getD k d = l.getD k d := fun k hk => by
    rw [List.getD_eq_getElem?_getD, List.getD_eq_getElem?_getD, List.getElem?_take_of_lt hk]
  have hp : par c < c := by unfold par; omega
  unfold InOrd
  rw [get c (by omega), get _ (by omega)]
  exact h c h0 hc
/-- the last one split off -/
theorem take_last (h : l.length = n + 1) : l = l.take n ++ [l.getD n d] := by
  conv => lhs; rw [← List.take_append_drop n l]
  congr 1
  apply List.ext_getElem
  · simp [h]
  · intro k h1 h2
    simp only [List.length_singleton] at h2
    obtain rfl : k = 0 := by omega
    simp [List.getD_eq_getElem?_getD, List.getElem?_eq_getElem (show n < l.length by omega)]
end
end Go.Vx
/- Rows of our own with room behind them, and what an operation leaves alone. -/
namespace Go.Vx

/-- a block's name: its group's, or its own -/
def gid (c : Nat) (k : ABlk) : Nat := (grpOf k).getD c
/-- blocks of other names are kept -/
def Fr (M M' : AMem) (ids : Nat → Prop) : Prop := ∀ c k, M.get c = some k → ¬ ids (gid c k) → M'.get c = some k
section
variable {M M' A B C : AMem} {ids ids' : Nat → Prop}
theorem Fr.refl : Fr M M ids := fun _ _ h _ => h
theorem Fr.trans (h : Fr A B ids) (k : Fr B C ids) : Fr A C ids := fun c x hc hi => k c x (h c x hc hi) hi
theorem Fr.mono (h : Fr A B ids) (hi : ∀ i, ids i → ids' i) : Fr A B ids' := fun c x hc hn => h c x hc (fun h' => hn (hi _ h'))
theorem Fr.push (h : Ok M) (k : ABlk) : Fr M (M.push k) ids := fun c x hc _ => by rw [get_push_old h (get_lt h hc), hc]
theorem Fr.grow (h : Ok M) (hg : Grow M M') : Fr M M' ids := fun c x hc _ => by rw [hg.get c (get_lt h hc), hc]
theorem Fr.set {b : Nat} {k k' : ABlk} (hg : M.get b = some k') : Fr M (M.set b k) (· = gid b k') := fun c x hc hi => by
  have hcb : c ≠ b := fun he => by subst he; rw [hg] at hc; cases hc; exact hi rfl
  rw [get_set_mem hg, if_neg hcb, hc]
theorem Fr.kill {g b : Nat} : Fr M (M.kill g b) (· = g) := fun c x hc hi => by
  rw [get_kill, hc, Option.map_some]
  congr 1
  unfold killOf
  split
  · rfl
  · split
    · rename_i g' 
      split
      · rename_i hgg
        exact absurd (show gid c _ = g from by simp only [gid, grpOf, Option.getD_some]; exact hgg) hi
      · rfl
    · rfl
theorem gid_le (h : Okg M) {c : Nat} {k : ABlk} (hc : M.get c = some k) : gid c k < M.n := by
  have hlt := get_lt h.1 hc
  cases k with
  | cells cs sz wr g =>
    cases g with
    | none => exact hlt
    | some g => have := h.2 _ _ _ _ _ hc; show g < _; omega
  | map _ => exact hlt
  | dead => exact hlt
  | held => exact hlt
/-- Cells of our own are written: other names are kept. -/
theorem store_cellsF {M0 M : AMem} {b o sz : Nat} {cs new : List AV} {g : Option Nat} (h : Step M0 M) (hb : M0.n ≤ b) (hg : M.get b = some (.cells cs sz true g)) (hgg : ∀ g', g = some g' → M0.n ≤ g') (hle : o + new.length ≤ cs.length) (hall : new.all AV.one = true) :
    ∃ M', M.storeCells b o new = some M' ∧ Step M0 M' ∧ M'.get b = some (.cells (splice cs o new) sz true g) ∧ M'.n = M.n ∧ Fr M M' (· = g.getD b) := by
  cases g with
  | none =>
    refine ⟨M.set b (.cells (splice cs o new) sz true none), ?_, h.set hb hg (fun _ _ _ _ he => by cases he), by rw [get_set_mem hg, if_pos rfl], rfl, Fr.set hg⟩
    simp only [AMem.storeCells, hg]
    rw [if_pos ⟨hle, hall⟩]
  | some g =>
    have hk : (M.kill g b).get b = some (.cells cs sz true (some g)) := by
      rw [get_kill, hg]; simp [killOf]
    refine ⟨(M.kill g b).set b (.cells (splice cs o new) sz true (some g)), ?_, (h.kill (hgg g rfl)).set hb hk (fun _ _ _ _ he => by cases he; exact h.ok.2 _ _ _ _ _ hg), by rw [get_set_mem hk, if_pos rfl], rfl, Fr.kill.trans (Fr.set hk)⟩
    simp only [AMem.storeCells, hg]
    rw [if_pos ⟨hle, hall⟩]
end
/-- A row of our own; there may be room behind it. -/
def RowI (M0 M : AMem) (sz γ : Nat) (v : AV) (els : List (List AV)) : Prop :=
  (v = .slice none 0 0 false ∧ els = []) ∨ ∃ b c gr cs sz' g, v = .slice (some (b, 0)) els.length c gr ∧ els.length ≤ c ∧ M0.n ≤ γ ∧ M0.n ≤ b ∧ M.get b = some (.cells cs sz' true g) ∧ cs.length = c * sz ∧ cs.take (els.length * sz) = els.flatten ∧ (gr = true → sz' = sz) ∧ g.getD b = γ ∧ Els sz els ∧ cs.all AV.one = true
section
variable {M0 M M' : AMem} {sz γ : Nat} {v : AV} {els : List (List AV)}
theorem RowI.nil : RowI M0 M sz γ (.slice none 0 0 false) [] := .inl ⟨rfl, rfl⟩
theorem RowI.frame {ids : Nat → Prop} (h : RowI M0 M sz γ v els) (hf : Fr M M' ids) (hi : ¬ ids γ) : RowI M0 M' sz γ v els := by
  refine h.imp id fun ⟨b, c, gr, cs, sz', g, e, h1, h2, h3, h4, h5, h6, h7, h8, h9, h10⟩ => ⟨b, c, gr, cs, sz', g, e, h1, h2, h3, hf b _ h4 ?_, h5, h6, h7, h8, h9, h10⟩
  show ¬ ids (g.getD b)
  rw [h8]; exact hi
theorem RowI.row (h : RowI M0 M sz γ v els) (hok : Ok M) : RowE M sz v els := by
  rcases h with ⟨rfl, rfl⟩ | ⟨b, c, gr, cs, sz', g, rfl, h1, h2, h3, h4, h5, h6, h7, h8, h9, h10⟩
  · exact ⟨fun e he => by simp at he, .inr (.inl ⟨rfl, rfl⟩)⟩
  · refine ⟨h9, .inr (.inr ⟨b, 0, c, gr, cs, sz', true, g, rfl, h4, get_lt hok h4, ?_, by rw [List.drop_zero]; exact h6⟩)⟩
    rw [h5, Nat.zero_add]; exact Nat.mul_le_mul_right sz h1
theorem RowI.one (h : RowI M0 M sz γ v els) : v.one = true ∧ v.cells = [v] := by
  rcases h with ⟨rfl, rfl⟩ | ⟨b, c, gr, cs, sz', g, rfl, _⟩ <;> exact ⟨rfl, rfl⟩
theorem RowI.id_lt (h : RowI M0 M sz γ v els) (hok : Okg M) (hne : els ≠ []) : γ < M.n := by
  rcases h with ⟨rfl, rfl⟩ | ⟨b, c, gr, cs, sz', g, rfl, h1, h2, h3, h4, h5, h6, h7, h8, h9, h10⟩
  · exact absurd rfl hne
  · have := gid_le hok h4
    rw [← h8]; exact this
/-- where an element lies -/
def rowp (v : AV) (sz i : Nat) : AV := match v with
  | .slice (some (b, o)) _ _ _ => .ptr (some (b, o + i * sz))
  | _ => .nilFunc
theorem RowI.idx (h : RowI M0 M sz γ v els) {i : Nat} (hi : i < els.length) (M' : AMem) : opI (.indexAddrS sz) [v, .int .i64 i] M' = some (.val (rowp v sz i) M') := by
  rcases h with ⟨rfl, rfl⟩ | ⟨b, c, gr, cs, sz', g, rfl, h1, h2⟩
  · simp at hi
  · simp only [opI]
    rw [if_pos ⟨by omega, by omega⟩]
    simp [rowp]
theorem RowI.isP (h : RowI M0 M sz γ v els) {i : Nat} (hi : i < els.length) : IsP (rowp v sz i) := by
  rcases h with ⟨rfl, rfl⟩ | ⟨b, c, gr, cs, sz', g, rfl, h1, h2⟩
  · simp at hi
  · trivial
theorem RowE.beq1 {M : AMem} {sz : Nat} {v : AV} {els : List (List AV)} (h : RowE M sz v els) : AV.beq v v = true := by
  obtain ⟨he, ⟨a, c, rfl, h⟩ | ⟨rfl, _⟩ | ⟨b, o, c, gr, cs, sz', wr, g, rfl, h1, h2, h3, h4⟩⟩ := h <;> simp [AV.beq]
theorem padd_z {p : AV} (h : IsP p) : padd p 0 = p := by
  match p, h with
  | .ptr (some (b, x)), _ => rfl
  | .rptr (some x), _ => simp [padd, addr_add0]
theorem RowI.ld (h : RowI M0 M sz γ v els) (hok : Ok M) (hs : 0 < sz) {i : Nat} (hi : i < els.length) :
    (∀ o n, o + n ≤ sz → opI (.load true n) [padd (rowp v sz i) o] M = some (.val (.agg ((els[i].drop o).take n)) M)) ∧ ∀ o x, els[i][o]? = some x → opI (.load false 1) [padd (rowp v sz i) o] M = some (.val x M) := by
  obtain ⟨p, pp, p1, p2, p3⟩ := (h.row hok).at_ hi hs
  have := h.idx hi M
  rw [p1] at this
  simp only [Option.some.injEq, SR.val.injEq, and_true] at this
  rw [padd_z pp] at this
  subst this
  exact ⟨p2, p3⟩
theorem all_splice {cs new : List AV} {o : Nat} (h : cs.all AV.one = true) (hn : new.all AV.one = true) : (splice cs o new).all AV.one = true := by
  rw [List.all_eq_true] at *
  intro y hy
  unfold splice at hy
  rcases List.mem_append.1 hy with hy | hy
  · rcases List.mem_append.1 hy with hy | hy
    · exact h y (List.mem_of_mem_take hy)
    · exact hn y hy
  · exact h y (List.mem_of_mem_drop hy)
theorem take_splice {cs new : List AV} {o n : Nat} (h : o + new.length ≤ n) (hn : n ≤ cs.length) : (splice cs o new).take n = splice (cs.take n) o new := by
  unfold splice
  rw [List.take_append, List.take_of_length_le (by simp; omega), List.take_take, Nat.min_eq_left (by omega), List.take_drop]
  congr 2
  simp; omega
/-- An element is written. -/
theorem RowI.put (h : Step M0 M) (hs : RowI M0 M sz γ v els) {i : Nat} (hi : i < els.length) {x : AV} (hx : x.cells.length = sz) (hone : x.cells.all AV.one = true) :
    ∃ M', opI (.store sz) [rowp v sz i, x] M = some (.val (.tuple []) M') ∧ Step M0 M' ∧ RowI M0 M' sz γ v (els.set i x.cells) ∧ Fr M M' (· = γ) ∧ M'.n = M.n := by
  rcases hs with ⟨rfl, rfl⟩ | ⟨b, c, gr, cs, sz', g, rfl, h1, h2, h3, h4, h5, h6, h7, h8, h9, h10⟩
  · simp at hi
  have hmul : i * sz + sz ≤ els.length * sz := by rw [← Nat.succ_mul]; exact Nat.mul_le_mul_right sz hi
  have hmul2 : els.length * sz ≤ c * sz := Nat.mul_le_mul_right sz h1
  have hel := h9.get hi
  obtain ⟨M', k1, k2, k3, k4, k5⟩ := store_cellsF (o := i * sz) (new := x.cells) h h3 h4 (fun g' he => by subst he; rw [← h8] at h2; exact h2) (by omega) hone
  refine ⟨M', ?_, k2, .inr ⟨b, c, gr, _, sz', g, by rw [List.length_set], by rw [List.length_set]; exact h1, h2, h3, k3, ?_, ?_, h7, h8, h9.set i hx, all_splice h10 hone⟩, by rw [← h8]; exact k5, k4⟩
  · simp only [rowp, opI, hx, if_true, Nat.zero_add, k1]
  · rw [splice_length (by omega), h5]
  · rw [List.length_set, take_splice (by omega) (by omega), h6]
    have := h9.splice (o := 0) (new := x.cells) hi (by omega)
    rw [Nat.add_zero] at this
    rw [this]
    congr 2
    unfold splice
    rw [List.take_zero, List.nil_append, List.drop_of_length_le (by omega), List.append_nil]
/-- The last one is struck. -/
theorem RowI.pop (hs : RowI M0 M sz γ v els) (hl : 0 < els.length) :
    ∃ v', opI (.slice sz false true false) [v, .int .i64 (els.length - 1 : Nat)] M = some (.val v' M) ∧ RowI M0 M sz γ v' (els.take (els.length - 1)) := by
  rcases hs with ⟨rfl, rfl⟩ | ⟨b, c, gr, cs, sz', g, rfl, h1, h2, h3, h4, h5, h6, h7, h8, h9, h10⟩
  · simp at hl
  have hbd : boundsI els.length c none (some (.int .i64 (els.length - 1 : Nat))) none = some (0, els.length - 1, c) := by
    simp only [boundsI, bnd]
    rw [if_pos ⟨by omega, by omega⟩]
    simp
  have hlen : (els.take (els.length - 1)).length = els.length - 1 := by rw [List.length_take]; omega
  refine ⟨.slice (some (b, 0)) (els.length - 1) c (if gr = true then true else false), ?_, .inr ⟨b, c, _, cs, sz', g, by rw [hlen], by omega, h2, h3, h4, h5, ?_, ?_, h8, h9.take _, h10⟩⟩
  · cases gr with
    | true =>
      simp only [opI, take3, take1, if_true, Bool.false_eq_true, if_false, sliceI, h1, hbd, Option.isNone_none, and_self]
      rw [if_pos (by omega)]
      simp
    | false =>
      simp only [opI, take3, take1, if_true, Bool.false_eq_true, if_false, sliceI, h1, hbd, false_and]
      rw [if_neg (by omega)]
      simp
  · rw [hlen]
    have e1 := (h9.take (els.length - 1)).len
    rw [hlen] at e1
    have h6' := h6
    have : cs.take ((els.length - 1) * sz) = (cs.take (els.length * sz)).take ((els.length - 1) * sz) := by
      rw [List.take_take, Nat.min_eq_left (Nat.mul_le_mul_right sz (by omega))]
    rw [this, h6]
    have e2 : els.flatten = (els.take (els.length - 1)).flatten ++ (els.drop (els.length - 1)).flatten := by rw [← List.flatten_append, List.take_append_drop]
    rw [e2, ← e1, List.take_left]
  · intro hg
    cases gr with
    | true => exact h7 rfl
    | false => simp at hg
/-- One more is laid behind. -/
theorem RowI.push {bytes : Nat} {x : AV} {z : List AV} (h : Step M0 M) (hs : RowI M0 M sz γ v els) (hz : z.length = sz) (hx : x.cells.length = sz) (h0 : 0 < sz) (hone : x.cells.all AV.one = true) (hn : (els.length + 1) * bytes ≤ 70368744177664) (hn2 : els.length + 1 ≤ 1000000) :
    ∃ M' v' γ', opI (.sliceLit 1 z [(0, sz)]) [x] M = some (.val (.slice (some (M.n, 0)) 1 1 false) (M.push (.cells x.cells 0 true none))) ∧
      opI (.append sz bytes) [v, .slice (some (M.n, 0)) 1 1 false] (M.push (.cells x.cells 0 true none)) = some (.val v' M') ∧ Step M0 M' ∧ RowI M0 M' sz γ' v' (els ++ [x.cells]) ∧ Fr M M' (· = γ) ∧ (γ' = γ ∨ M.n ≤ γ') ∧ M.n ≤ M'.n := by
  have s1 := h.push (k := .cells x.cells 0 true none) (fun _ _ _ _ he => by cases he)
  have hc := (lit_row h.ok.1 hx).cells h0
  simp only [List.length_singleton, List.flatten_singleton] at hc
  have hE : Els sz (els ++ [x.cells]) → True := fun _ => trivial
  clear hE
  have hE1 : Els sz [x.cells] := fun e he => by simp at he; rw [he]; exact hx
  have f1 : ∀ ids, Fr M (M.push (.cells x.cells 0 true none)) ids := fun ids => Fr.push h.ok.1 _
  rcases hs with ⟨rfl, rfl⟩ | ⟨b, c, gr, cs, sz', g, rfl, h1, h2, h3, h4, h5, h6, h7, h8, h9, h10⟩
  · refine ⟨(M.push (.cells x.cells 0 true none)).push (.cells x.cells sz true none), .slice (some (M.n + 1, 0)) 1 1 true, M.n + 1, lit_el hz hx, ?_, s1.push (fun _ _ _ _ he => by cases he), .inr ⟨M.n + 1, 1, true, x.cells, sz, none, rfl, Nat.le_refl _, by have := h.grow.n; omega, by have := h.grow.n; omega, get_push_self s1.ok.1, by omega, ?_, fun _ => rfl, rfl, hE1, hone⟩, (f1 _).trans (Fr.push s1.ok.1 _), .inr (by omega), by show M.n ≤ M.n + 1 + 1; omega⟩
    · simp only [opI, hc, AMem.append, AMem.append0]
      rw [if_neg (by omega), if_pos ⟨by simpa using hn, by omega, by omega⟩]
      rfl
    · simp only [List.nil_append, List.length_singleton, Nat.one_mul, List.flatten_singleton]
      exact List.take_of_length_le (by omega)
  have hg4 : (M.push (.cells x.cells 0 true none)).get b = some (.cells cs sz' true g) := by rw [get_push_old h.ok.1 (get_lt h.ok.1 h4), h4]
  have hgg : ∀ g', g = some g' → M0.n ≤ g' := fun g' he => by subst he; rw [← h8] at h2; exact h2
  have hlen := h9.len
  have hEa := h9.append hE1
  have hfl : (els ++ [x.cells]).flatten = els.flatten ++ x.cells := by simp
  by_cases hroom : els.length + 1 ≤ c
  · have hmul : (els.length + 1) * sz ≤ c * sz := Nat.mul_le_mul_right sz hroom
    rw [Nat.succ_mul] at hmul
    obtain ⟨M', k1, k2, k3, k4, k5⟩ := store_cellsF (o := els.length * sz) (new := x.cells) s1 h3 hg4 hgg (by omega) hone
    refine ⟨M', .slice (some (b, 0)) (els.length + 1) c gr, γ, lit_el hz hx, ?_, k2, .inr ⟨b, c, gr, _, sz', g, by simp, by simpa using hroom, h2, h3, k3, by rw [splice_length (by omega), h5], ?_, h7, h8, hEa, all_splice h10 hone⟩, (f1 _).trans (by rw [← h8]; exact k5), .inl rfl, by rw [k4]; show M.n ≤ M.n + 1; omega⟩
    · simp only [opI, hc, AMem.append, AMem.append0]
      rw [if_pos hroom, Nat.zero_add, k1]
    · rw [List.length_append, List.length_singleton, Nat.succ_mul, take_splice (by omega) (by omega), hfl]
      unfold splice
      rw [List.take_take, Nat.min_eq_left (by omega), h6, List.drop_of_length_le (by rw [List.length_take]; omega), List.append_nil]
  · have hcl : els.length = c := by omega
    subst hcl
    have hall : (cs.drop 0).take (els.length * sz) = els.flatten := by rw [List.drop_zero]; exact h6
    have hcs : cs = els.flatten := by rw [← h6]; exact (List.take_of_length_le (by omega)).symm
    have hone2 : (els ++ [x.cells]).flatten.all AV.one = true := by rw [hfl, List.all_append, ← hcs, h10, hone]; rfl
    have hl2 : (els ++ [x.cells]).flatten.length = (els.length + 1) * sz := by rw [hEa.len]; simp
    cases gr with
    | false =>
      refine ⟨(M.push (.cells x.cells 0 true none)).push (.cells (els ++ [x.cells]).flatten sz true none), .slice (some (M.n + 1, 0)) (els.length + 1) (els.length + 1) true, M.n + 1, lit_el hz hx, ?_, s1.push (fun _ _ _ _ he => by cases he), .inr ⟨M.n + 1, els.length + 1, true, _, sz, none, by simp, by simp, by have := h.grow.n; omega, by have := h.grow.n; omega, get_push_self s1.ok.1, hl2, List.take_of_length_le (by rw [hl2]; simp), fun _ => rfl, rfl, hEa, hone2⟩, (f1 _).trans (Fr.push s1.ok.1 _), .inr (by omega), by show M.n ≤ M.n + 1 + 1; omega⟩
      simp only [opI, hc, AMem.append, AMem.append0]
      rw [if_neg (by omega), if_pos ⟨by simpa using hn, by omega, by omega⟩, hg4]
      simp only [Nat.zero_add, h5, Nat.le_refl, if_true, Bool.false_eq_true, if_false, hall, hfl, push_n]
    | true =>
      obtain rfl := h7 rfl
      have hgb : g.getD b ≤ b := by
        cases g with
        | none => exact Nat.le_refl _
        | some g => exact h.ok.2 _ _ _ _ _ h4
      have hg0 : M0.n ≤ g.getD b := by rw [h8]; exact h2
      have hlt := get_lt h.ok.1 h4
      have hk : ((M.push (.cells x.cells 0 true none)).kill (g.getD b) b).get b = some (.cells cs sz' true g) := by
        rw [get_kill, hg4]; simp [killOf]
      have s2 := (s1.kill hg0 (b := b)).set (k := .cells cs sz' true (some (g.getD b))) h3 hk (fun _ _ _ _ he => by cases he; exact hgb)
      refine ⟨(M.push (.cells x.cells 0 true none)).grow b cs sz' g (els ++ [x.cells]).flatten, .slice (some (M.n + 1, 0)) (els.length + 1) (els.length + 1) true, γ, lit_el hz hx, ?_, s2.push (fun _ _ _ _ he => by cases he; show g.getD b ≤ M.n + 1; omega), .inr ⟨M.n + 1, els.length + 1, true, _, sz', some (g.getD b), by simp, by simp, h2, by have := h.grow.n; omega, get_push_self s2.ok.1, hl2, List.take_of_length_le (by rw [hl2]; simp), fun _ => rfl, by simpa using h8, hEa, hone2⟩, ?_, .inl rfl, by show M.n ≤ M.n + 1 + 1; omega⟩
      · simp only [opI, hc, AMem.append, AMem.append0]
        rw [if_neg (by omega), if_pos ⟨by simpa using hn, by omega, by omega⟩, hg4]
        simp only [Nat.zero_add, h5, Nat.le_refl, if_true, hall, hone, and_self, hfl, push_n]
      · rw [← h8]
        have hset : Fr ((M.push (.cells x.cells 0 true none)).kill (g.getD b) b) _ (· = g.getD b) := Fr.set (k := .cells cs sz' true (some (g.getD b))) hk
        exact (f1 _).trans (Fr.kill.trans (hset.trans (Fr.push s2.ok.1 _)))
end
end Go.Vx
/- Methods that a heap calls; maps of our own at numbers. -/
namespace Go.Vx

theorem opI_mul {k : IntKind} {a b : Int} {M : AMem} : opI (.bin .mul) [.int k a, .int k b] M = some (.val (.int k (wrapF k (a * b))) M) := by
  simp [opI, binI, intI]
theorem opI_half {k : Nat} {M : AMem} (h : k < 1000000) : opI (.bin .quo) [.int .i64 k, .int .i64 2] M = some (.val (.int .i64 (k / 2 : Nat)) M) := by
  simp only [opI, binI, intI]
  have : (2 : Int) ≠ 0 := by decide
  simp only [this, if_true, if_false]
  have e : (k : Int).tdiv 2 = ((k / 2 : Nat) : Int) := by
    rw [Int.tdiv_eq_ediv_of_nonneg (by omega)]; omega
  rw [e, wrapF_small (by omega) (by omega)]
theorem opI_mkIface {t : TypeId} {v : AV} {M : AMem} : opI (.mkIface t) [v] M = some (.val (.iface t v) M) := rfl
theorem wrapF_any {n : Int} (h1 : -9223372036854775808 ≤ n) (h2 : n < 9223372036854775808) : wrapF .i64 n = n := wrapF_id (by show (-9223372036854775808 : Int) ≤ n; omega) (by show n ≤ (9223372036854775807 : Int); omega)
/-- What the methods of a heap do, whatever it is. -/
structure HeapM {α : Type} (call : FuncId → List AV → AMem → Option (AV × AMem)) (iLess iSwap iLen iPop : PI) (hv : AV) (Rep : AMem → List α → Prop) (d0 : α) (enc : α → AV) (lt : α → α → Bool) : Prop where
  less : ∀ {M : AMem} {l : List α} {i j : Nat}, Rep M l → i < l.length → j < l.length → ∃ f vs M', opI iLess [hv, .int .i64 i, .int .i64 j] M = some (.call f vs) ∧ call f vs M = some (.bool (lt (l.getD i d0) (l.getD j d0)), M') ∧ Rep M' l
  swap : ∀ {M : AMem} {l : List α} {i j : Nat}, Rep M l → i < l.length → j < l.length → ∃ f vs r M', opI iSwap [hv, .int .i64 i, .int .i64 j] M = some (.call f vs) ∧ call f vs M = some (r, M') ∧ Rep M' (swapL d0 l i j)
  len : ∀ {M : AMem} {l : List α}, Rep M l → ∃ f vs M', opI iLen [hv] M = some (.call f vs) ∧ call f vs M = some (.int .i64 l.length, M') ∧ Rep M' l
  pop : ∀ {M : AMem} {l : List α}, Rep M l → 0 < l.length → ∃ f vs M', opI iPop [hv] M = some (.call f vs) ∧ call f vs M = some (enc (l.getD (l.length - 1) d0), M') ∧ Rep M' (l.take (l.length - 1))

/-! Maps of our own. -/
def ents (k : IntKind) (es : List (Int × AV)) : List (AV × AV) := es.map fun e => (.int k e.1, e.2)
/-- what stands at a key -/
def asg (x : Int) : List (Int × AV) → Option AV
  | [] => none
  | (y, v) :: es => if x = y then some v else asg x es
theorem findK_ents {k : IntKind} {x : Int} : ∀ {es : List (Int × AV)} {i : Nat}, (findK 0 (.int k x) (ents k es) i = some none ∧ asg x es = none) ∨ ∃ j v, findK 0 (.int k x) (ents k es) i = some (some (i + j, v)) ∧ asg x es = some v ∧ j < es.length ∧ es[j]? = some (x, v) ∧ ∀ m, m < j → ∀ e, es[m]? = some e → e.1 ≠ x
  | [], i => .inl ⟨rfl, rfl⟩
  | (y, v) :: es, i => by
    by_cases h : x = y
    · subst h
      refine .inr ⟨0, v, ?_, ?_, by simp, rfl, fun m hm => by omega⟩
      · simp [ents, findK, eqScalar]
      · simp [asg]
    · have h' : (x == y) = false := by simpa using h
      rcases findK_ents (k := k) (x := x) (es := es) (i := i + 1) with ⟨h1, h2⟩ | ⟨j, w, h1, h2, h3, h4, h5⟩
      · refine .inl ⟨?_, by simp [asg, h, h2]⟩
        simp only [ents, List.map_cons, findK, eqScalar, if_true, h']
        exact h1
      · refine .inr ⟨j + 1, w, ?_, by simp [asg, h, h2], by simp; omega, by simpa using h4, fun m hm e he => ?_⟩
        · simp only [ents, List.map_cons, findK, eqScalar, if_true, h']
          rw [show i + (j + 1) = i + 1 + j by omega]; exact h1
        · cases m with
          | zero => simp at he; subst he; exact fun h' => h h'.symm
          | succ m => exact h5 m (by omega) e (by simpa using he)
theorem asg_append {x y : Int} {v : AV} : ∀ {es : List (Int × AV)}, asg x es = none → asg y (es ++ [(x, v)]) = if y = x then some v else asg y es
  | [], _ => by simp [asg]
  | (z, w) :: es, h => by
    simp only [asg] at h
    split at h
    · cases h
    · rename_i hz
      simp only [List.cons_append, asg]
      rw [asg_append h]
      by_cases h1 : y = z
      · subst h1
        rw [if_pos rfl, if_pos rfl, if_neg (fun h => hz h.symm)]
      · rw [if_neg h1, if_neg h1]
theorem asg_set {x y : Int} {v : AV} : ∀ {es : List (Int × AV)} {j : Nat} {w : AV}, es[j]? = some (x, w) → (∀ m, m < j → ∀ e, es[m]? = some e → e.1 ≠ x) → asg y (es.set j (x, v)) = if y = x then some v else asg y es
  | [], j, w, h, _ => by simp at h
  | (z, u) :: es, 0, w, h, _ => by
    simp at h
    obtain ⟨rfl, rfl⟩ := h
    simp only [List.set_cons_zero, asg]
    by_cases h1 : y = z
    · rw [if_pos h1, if_pos h1]
    · rw [if_neg h1, if_neg h1, if_neg h1]
  | (z, u) :: es, j + 1, w, h, hm => by
    simp only [List.set_cons_succ, asg]
    rw [asg_set (by simpa using h) (fun m hmj e he => hm (m + 1) (by omega) e (by simpa using he))]
    have hz : z ≠ x := hm 0 (by omega) (z, u) rfl
    by_cases h1 : y = z
    · subst h1
      rw [if_pos rfl, if_pos rfl, if_neg hz]
    · rw [if_neg h1, if_neg h1]
theorem lookup_own {M : AMem} {mb : Nat} {k : IntKind} {es : List (Int × AV)} {ok : Bool} {z : AV} {x : Int} (h : M.get mb = some (.map (ents k es))) :
    opI (.lookup 0 ok z) [.map (some mb), .int k x] M = some (.val (match asg x es with | some v => resL ok v true | none => resL ok z false) M) := by
  have he : M.entries mb = some (ents k es) := by simp only [AMem.entries, h]
  rcases findK_ents (k := k) (x := x) (es := es) (i := 0) with ⟨h1, h2⟩ | ⟨j, v, h1, h2, _⟩
  · simp only [opI, lookupI, he, h1, h2]
  · simp only [opI, lookupI, he, h1, h2]
theorem update_own {M0 M : AMem} {mb : Nat} {k : IntKind} {es : List (Int × AV)} {x : Int} {v : AV} (hs : Step M0 M) (hb : M0.n ≤ mb) (h : M.get mb = some (.map (ents k es))) :
    ∃ es', opI (.mapUpdate 0) [.map (some mb), .int k x, v] M = some (.val (.tuple []) (M.set mb (.map (ents k es')))) ∧ (∀ y, asg y es' = if y = x then some v else asg y es) ∧ Step M0 (M.set mb (.map (ents k es'))) ∧ (M.set mb (.map (ents k es'))).get mb = some (.map (ents k es')) ∧ Fr M (M.set mb (.map (ents k es'))) (· = mb) := by
  have he : M.entries mb = some (ents k es) := by simp only [AMem.entries, h]
  have key : ∀ es', opI (.mapUpdate 0) [.map (some mb), .int k x, v] M = some (.val (.tuple []) (M.set mb (.map (ents k es')))) → (∀ y, asg y es' = if y = x then some v else asg y es) → _ := fun es' h1 h2 => (⟨es', h1, h2, hs.set hb h (fun _ _ _ _ he => by cases he), by rw [get_set_mem h, if_pos rfl], Fr.set h⟩ : ∃ es', opI (.mapUpdate 0) [.map (some mb), .int k x, v] M = some (.val (.tuple []) (M.set mb (.map (ents k es')))) ∧ (∀ y, asg y es' = if y = x then some v else asg y es) ∧ Step M0 (M.set mb (.map (ents k es'))) ∧ (M.set mb (.map (ents k es'))).get mb = some (.map (ents k es')) ∧ Fr M (M.set mb (.map (ents k es'))) (· = mb))
  rcases findK_ents (k := k) (x := x) (es := es) (i := 0) with ⟨h1, h2⟩ | ⟨j, w, h1, h2, h3, h4, h5⟩
  · refine key (es ++ [(x, v)]) ?_ fun y => asg_append h2
    simp only [opI, updateI, he, h1]
    simp [ents]
  · refine key (es.set j (x, v)) ?_ fun y => asg_set h4 h5
    simp only [opI, updateI, he, h1, Nat.zero_add]
    simp [ents, List.map_set]
theorem makeMap_own {M0 M : AMem} (hs : Step M0 M) : opI .makeMap [] M = some (.val (.map (some M.n)) (M.push (.map (ents .i64 [])))) ∧ Step M0 (M.push (.map (ents .i64 []))) ∧ (M.push (.map (ents .i64 []))).get M.n = some (.map (ents .i64 [])) :=
  ⟨rfl, hs.push (fun _ _ _ _ he => by cases he), get_push_self hs.ok.1⟩
theorem ents_nil {k k' : IntKind} : ents k [] = ents k' [] := rfl
end Go.Vx
