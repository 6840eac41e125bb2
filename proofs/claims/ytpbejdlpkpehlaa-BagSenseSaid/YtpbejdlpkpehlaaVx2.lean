/- The memory of our small machine, and what it is to stand for a world's. -/
import Derived.Test.YtpbejdlpkpehlaaVx1
namespace Go.Vx
open Go.RowKit (Below)

/-- A block ('held': to come; nobody knows it yet): cells ('sz': how many an element has; 'wr': may it be written; 'grp': the blocks that may lie at one place), a map, or nothing that is known any more. -/
inductive ABlk where
  | dead
  | held
  | cells (cs : List AV) (sz : Nat) (wr : Bool) (grp : Option Nat)
  | map (es : List (AV × AV))

structure AMem where
  t : Tr ABlk
  n : Nat
  g : Addr → Option AV

def AMem.get (M : AMem) (b : Nat) : Option ABlk := M.t.get b
def AMem.set (M : AMem) (b : Nat) (k : ABlk) : AMem := { M with t := M.t.set b k }
def AMem.push (M : AMem) (k : ABlk) : AMem := { M with t := M.t.push M.n k, n := M.n + 1 }
def killOf (g b : Nat) (i : Nat) (k : ABlk) : ABlk :=
  if i = b then k else match k with
  | .cells _ _ _ (some g') => if g' = g then .dead else k
  | _ => k
def AMem.kill (M : AMem) (g b : Nat) : AMem := { M with t := M.t.mapI (killOf g b) 0 1 }

def ABlk.wr : ABlk → Bool
  | .cells _ _ w _ => w
  | .map _ => true
  | .dead | .held => false
def ABlk.live : ABlk → Bool
  | .dead | .held => false
  | _ => true
/-- may two blocks stand for one? -/
def ABlk.share : ABlk → ABlk → Bool
  | .cells _ _ w g, .cells _ _ w' g' => (!w && !w') || (g.isSome && g == g')
  | .dead, _ | _, .dead => true
  | _, _ => false

/-- A map's entries were laid one behind the other: no two at once, none to come. -/
def Births (arr : Array MapEntry) (clock : Nat) : Prop := (∀ x ∈ arr.toList, x.born < clock) ∧ (arr.toList.map (·.born)).Nodup
def BR [Val] (e : Env) (w : World) (x : EB) : ABlk → Prop
  | .dead | .held => True
  | .cells cs sz wr _ => ∃ arr T fr vs, w.heap[x.blk]? = some (.cells arr T fr) ∧ (wr = true → fr = (0, 0)) ∧ x.o + cs.length + x.d * sz ≤ arr.size ∧
      concs e cs = some vs ∧ ∀ i v, vs[i]? = some v → arr[x.o + i]? = some v
  | .map es => ∃ arr clock ks vs, w.heap[x.blk]? = some (.map arr clock) ∧ concs e (es.map (·.1)) = some ks ∧ concs e (es.map (·.2)) = some vs ∧
      (arr.toList.map (·.key)) = ks ∧ (arr.toList.map (·.val)) = vs ∧ Births arr clock

/-- What is in B stands in w' as it stood in w; the streams are as they were. -/
structure BelowP (B : Nat → Prop) (w w' : World) : Prop where
  os : w'.os = w.os
  tape : w'.tape = w.tape
  output : w'.output = w.output
  size : w.heap.size ≤ w'.heap.size
  block : ∀ k, B k → w'.heap[k]? = w.heap[k]?
theorem BelowP.refl (B : Nat → Prop) (w : World) : BelowP B w w := ⟨rfl, rfl, rfl, Nat.le_refl _, fun _ _ => rfl⟩
theorem BelowP.trans {B : Nat → Prop} {a b c : World} (h : BelowP B a b) (k : BelowP B b c) : BelowP B a c :=
  ⟨k.os.trans h.os, k.tape.trans h.tape, k.output.trans h.output, Nat.le_trans h.size k.size, fun i hi => (k.block i hi).trans (h.block i hi)⟩
theorem BelowP.mono {B B' : Nat → Prop} {a b : World} (h : BelowP B a b) (hb : ∀ k, B' k → B k) : BelowP B' a b :=
  ⟨h.os, h.tape, h.output, h.size, fun i hi => h.block i (hb i hi)⟩
theorem BelowP.alloc [Val] {B : Nat → Prop} {a w : World} (h : BelowP B a w) (hB : ∀ k, B k → k < w.heap.size) (o : Obj) : BelowP B a (w.alloc o) :=
  h.trans ⟨rfl, rfl, rfl, by simp, fun k hk => heap_alloc_old w o k (hB k hk)⟩
theorem BelowP.below {n : Nat} {w w' : World} (h : BelowP (· < n) w w') : Below n w w' := ⟨h.os, h.tape, h.output, h.size, h.block⟩

/-- What package variables hold stands in the world, where nobody writes. -/
def RoB [Val] (B : Nat → Prop) (w0 : World) : Prop := ∀ a v, Val.g a = some v → B a.block ∧ ∃ c, conc (fun _ => none) v = some c ∧ w0.cell? a = some c
structure MR [Val] (B : Nat → Prop) (w0 : World) (e : Env) (M : AMem) (w : World) : Prop where
  fresh : ∀ b : Nat, M.n ≤ b → e b = none
  full : M.t.Full M.n
  below : BelowP B w0 w
  base : ∀ k, B k → k < w.heap.size
  blocks : ∀ (b : Nat) (k : ABlk) (x : EB), M.get b = some k → e b = some x → BR e w x k
  own : ∀ (b : Nat) (k : ABlk) (x : EB), M.get b = some k → e b = some x → k.wr = true → ¬ B x.blk
  sep : ∀ (b b' : Nat) (k k' : ABlk) (x x' : EB), b ≠ b' → M.get b = some k → M.get b' = some k' → e b = some x → e b' = some x' → x.blk = x'.blk → k.share k' = true
  room : ∀ (b : Nat) (x : EB), e b = some x → x.blk < w.heap.size
  ro : M.g = Val.g ∧ RoB B w0

theorem BR.ext [Val] {e e' : Env} {w : World} {x : EB} {k : ABlk} (h : BR e w x k) (he : Ext e e') : BR e' w x k := by
  cases k with
  | dead => trivial
  | held => trivial
  | cells cs sz wr g =>
    obtain ⟨arr, T, fr, vs, h1, h2, h3, h4, h5⟩ := h
    exact ⟨arr, T, fr, vs, h1, h2, h3, he.concs h4, h5⟩
  | map es =>
    obtain ⟨arr, c, ks, vs, h1, h2, h3, h4⟩ := h
    exact ⟨arr, c, ks, vs, h1, he.concs h2, he.concs h3, h4⟩
/-- What a block stands for hangs on the world's block alone. -/
theorem BR.world [Val] {e : Env} {w w' : World} {x : EB} {k : ABlk} (h : BR e w x k) (hw : w'.heap[x.blk]? = w.heap[x.blk]?) : BR e w' x k := by
  cases k with
  | dead => trivial
  | held => trivial
  | cells cs sz wr g => unfold BR at *; rw [hw]; exact h
  | map es => unfold BR at *; rw [hw]; exact h

section
variable {B : Nat → Prop} {w0 : World} {e : Env} {M : AMem} {w : World}

theorem MR.one [Val] (h : MR B w0 e M w) (x : EB) : Ext e (e.set M.n x) := Ext.one (h.fresh _ (Nat.le_refl _)) x

/-- A draw. -/
theorem MR.drawn [Val] (h : MR B w0 e M w) (n : Nat) : MR B w0 e M { w with drawn := n } :=
  ⟨h.fresh, h.full, ⟨h.below.os, h.below.tape, h.below.output, h.below.size, h.below.block⟩, h.base, fun b k x hk hx => (h.blocks b k x hk hx).world rfl, h.own, h.sep, h.room, h.ro⟩

/-- A new block, of the world's last one. -/
theorem MR.push [Val] (h : MR B w0 e M w) (o : Obj) (k : ABlk) (d : Nat)
    (hk : BR (e.set M.n ⟨w.heap.size, 0, d⟩) (w.alloc o) ⟨w.heap.size, 0, d⟩ k) : MR B w0 (e.set M.n ⟨w.heap.size, 0, d⟩) (M.push k) (w.alloc o) := by
  have hget : ∀ m, (M.push k).get m = if m = M.n then some k else M.get m := fun m => Tr.get_push M.t M.n k m h.full
  have hold : ∀ i, i < w.heap.size → (w.alloc o).heap[i]? = w.heap[i]? := fun i hi => heap_alloc_old w o i hi
  refine ⟨fun b hb => by simp only [AMem.push] at hb; unfold Env.set; rw [if_neg (by omega)]; exact h.fresh b (by omega), Tr.full_push h.full k, h.below.alloc h.base o, fun k hk => by have := h.base k hk; simp; omega, ?_, ?_, ?_, ?_, h.ro⟩
  · intro b j x hj hx
    rw [hget] at hj
    rcases Env.set_get hx with ⟨hb, hx'⟩ | ⟨rfl, rfl⟩
    · rw [if_neg hb] at hj
      exact ((h.blocks b j x hj hx').ext (h.one _)).world (hold _ (h.room b x hx'))
    · rw [if_pos rfl] at hj; cases hj; exact hk
  · intro b j x hj hx hw
    rw [hget] at hj
    rcases Env.set_get hx with ⟨hb, hx'⟩ | ⟨rfl, rfl⟩
    · rw [if_neg hb] at hj
      exact h.own b j x hj hx' hw
    · exact fun hb => absurd (h.base _ hb) (Nat.lt_irrefl _)
  · intro b b' j j' x x' hne hj hj' hx hx' he
    rw [hget] at hj hj'
    rcases Env.set_get hx with ⟨hb, hx1⟩ | ⟨rfl, rfl⟩
    · rw [if_neg hb] at hj
      rcases Env.set_get hx' with ⟨hb', hx1'⟩ | ⟨rfl, rfl⟩
      · rw [if_neg hb'] at hj'
        exact h.sep b b' j j' x x' hne hj hj' hx1 hx1' he
      · exact absurd he (Nat.ne_of_lt (h.room b x hx1))
    · rcases Env.set_get hx' with ⟨hb', hx1'⟩ | ⟨rfl, rfl⟩
      · exact absurd he.symm (Nat.ne_of_lt (h.room b' x' hx1'))
      · exact absurd rfl hne
  · intro b x hx
    simp only [World.size_alloc]
    rcases Env.set_get hx with ⟨hb, hx'⟩ | ⟨rfl, rfl⟩
    · have := h.room b x hx'; omega
    · simp

/-- A new row of cells. -/
theorem MR.alloc [Val] (h : MR B w0 e M w) (cs : List AV) (vs : List Value) (T : TypeId) (hc : concs e cs = some vs) :
    MR B w0 (e.set M.n ⟨w.heap.size, 0, 0⟩) (M.push (.cells cs 0 true none)) (w.alloc (.cells vs.toArray T)) :=
  h.push _ _ 0 ⟨vs.toArray, T, (0, 0), vs, heap_alloc_new w _, fun _ => rfl, by simp [concs_length hc], (h.one _).concs hc, by intro i v hv; simpa using hv⟩
/-- What was known is known as before; what is new has new numbers. -/
structure XR (M M' : AMem) (e e' : Env) : Prop where
  n : M.n ≤ M'.n
  ext : Ext e e'
  old : ∀ b : Nat, b < M.n → e' b = e b
theorem XR.refl [Val] (M : AMem) (e : Env) : XR M M e e := ⟨Nat.le_refl _, Ext.refl e, fun _ _ => rfl⟩
theorem XR.same [Val] {M M' : AMem} (h : M'.n = M.n) (e : Env) : XR M M' e e := ⟨by omega, Ext.refl e, fun _ _ => rfl⟩
theorem XR.trans [Val] {M M' M'' : AMem} {e e' e'' : Env} (h : XR M M' e e') (k : XR M' M'' e' e'') : XR M M'' e e'' :=
  ⟨Nat.le_trans h.n k.n, h.ext.trans k.ext, fun b hb => (k.old b (Nat.lt_of_lt_of_le hb h.n)).trans (h.old b hb)⟩
theorem MR.xone [Val] (h : MR B w0 e M w) {M' : AMem} (hn : M'.n = M.n + 1) (x : EB) : XR M M' e (e.set M.n x) :=
  ⟨by omega, h.one x, fun b hb => by unfold Env.set; rw [if_neg (by omega)]⟩

/-- The cells of a block, from a place on. -/
def AMem.loadCells (M : AMem) (b o n : Nat) : Option (List AV) :=
  match M.get b with
  | some (.cells cs _ _ _) => if o + n ≤ cs.length then some ((cs.drop o).take n) else none
  | _ => none
theorem MR.loadCells [Val] {P : Program} (h : MR B w0 e M w) {b o n : Nat} {x : EB} {l : List AV} (hl : M.loadCells b o n = some l) (hx : e b = some x) :
    ∃ vs : List Value, concs e l = some vs ∧ vs.length = n ∧ (∀ j v, vs[j]? = some v → w.cell? ⟨x.blk, x.o + o + j, none⟩ = some v) ∧
      (Go.loadCells ⟨x.blk, x.o + o, none⟩ n).run P w = .ok vs.toArray w := by
  unfold AMem.loadCells at hl
  cases hk : M.get b with
  | none => simp [hk] at hl
  | some k =>
    cases k with
    | dead => simp [hk] at hl
    | held => simp [hk] at hl
    | map es => simp [hk] at hl
    | cells cs sz wr g =>
      simp only [hk] at hl
      by_cases hle : o + n ≤ cs.length
      · simp only [hle, if_true, Option.some.injEq] at hl
        obtain ⟨arr, T, fr, vs, h1, h2, h3, h4, h5⟩ := h.blocks b _ x hk hx
        have hlen := concs_length h4
        have hvs : concs e l = some ((vs.drop o).take n) := by rw [← hl]; exact concs_take n (concs_drop o h4)
        have hcell : ∀ j v, ((vs.drop o).take n)[j]? = some v → w.cell? ⟨x.blk, x.o + o + j, none⟩ = some v := by
          intro j v hj
          rw [cell_of_row w x.blk (x.o + o + j) arr T fr h1]
          have hjn : j < n := by
            have := (List.getElem?_eq_some_iff.1 hj).1
            simp at this; omega
          have : vs[o + j]? = some v := by
            rw [List.getElem?_take_of_lt hjn, List.getElem?_drop] at hj; exact hj
          rw [Nat.add_assoc]; exact h5 _ _ this
        have hlen' : ((vs.drop o).take n).length = n := by simp [hlen]; omega
        refine ⟨(vs.drop o).take n, hvs, hlen', hcell, ?_⟩
        have := run_loadCells_list (P := P) (w := w) ⟨x.blk, x.o + o, none⟩ ((vs.drop o).take n) (fun j v hj => by
          have hc := hcell j v hj
          have : (Addr.add ⟨x.blk, x.o + o, none⟩ j) = ⟨x.blk, x.o + o + j, none⟩ := by
            unfold Addr.add; split <;> simp_all
          rw [this]; exact hc)
        rw [hlen'] at this
        exact this
      · simp [hle] at hl

def mapO {α β : Type} (f : α → Option β) : List α → Option (List β)
  | [] => some []
  | x :: xs => match f x, mapO f xs with
    | some a, some b => some (a :: b)
    | _, _ => none
theorem mapO_map {α β : Type} {f : α → Option β} : ∀ {l : List α} {r : List β}, mapO f l = some r → l.map f = r.map some
  | [], _, h => by simp [mapO] at h; subst h; rfl
  | x :: xs, _, h => by
    simp only [mapO] at h
    cases h1 : f x with
    | none => simp [h1] at h
    | some a =>
      cases h2 : mapO f xs with
      | none => simp [h1, h2] at h
      | some b => simp [h1, h2] at h; subst h; simp [h1, mapO_map h2]
/-- Cells that nobody writes. -/
def AMem.loadG (M : AMem) (a : Addr) (n : Nat) : Option (List AV) := mapO (fun j => M.g (a.add j)) (List.range n)
theorem MR.loadIs [Val] (h : MR B w0 e M w) {a : Addr} : ∀ (is : List Nat) {l : List AV}, mapO (fun j => M.g (a.add j)) is = some l →
    ∃ vs : List Value, concs e l = some vs ∧ vs.length = is.length ∧ ∀ (k j : Nat) v, is[k]? = some j → vs[k]? = some v → w.cell? (a.add j) = some v
  | [], l, hl => by
    cases hl
    exact ⟨[], by simp [concs], rfl, fun k j v hk => by simp at hk⟩
  | i :: is, l, hl => by
    simp only [mapO] at hl
    cases h1 : M.g (a.add i) with
    | none => rw [h1] at hl; cases hl
    | some x =>
      cases h2 : mapO (fun j => M.g (a.add j)) is with
      | none => rw [h1, h2] at hl; cases hl
      | some r =>
        rw [h1, h2] at hl; cases hl
        obtain ⟨vs, g1, g2, g3⟩ := h.loadIs is h2
        rw [h.ro.1] at h1
        obtain ⟨hB, c, k1, k2⟩ := h.ro.2 _ _ h1
        have k1 : conc e x = some c := conc_ext (fun b x hx => by cases hx) _ k1
        refine ⟨c :: vs, concs_mk k1 g1, by simp [g2], fun k j v hk hv => ?_⟩
        cases k with
        | zero =>
          simp only [List.getElem?_cons_zero, Option.some.injEq] at hk hv
          subst hk; subst hv
          rw [World.cell?_of_block (w := w0) (h.below.block _ hB)]; exact k2
        | succ k => exact g3 k j v (by simpa using hk) (by simpa using hv)
theorem MR.loadG [Val] {P : Program} (h : MR B w0 e M w) {a : Addr} {n : Nat} {l : List AV} (hl : M.loadG a n = some l) :
    ∃ vs : List Value, concs e l = some vs ∧ vs.length = n ∧ (∀ j v, vs[j]? = some v → w.cell? (a.add j) = some v) ∧
      (Go.loadCells a n).run P w = .ok vs.toArray w := by
  obtain ⟨vs, g1, g2, g3⟩ := h.loadIs _ hl
  rw [List.length_range] at g2
  have hcell : ∀ j v, vs[j]? = some v → w.cell? (a.add j) = some v := fun j v hj => g3 j j v (by
    have := (List.getElem?_eq_some_iff.1 hj).1
    rw [List.getElem?_range (by omega)]) hj
  have := run_loadCells_list (P := P) (w := w) a vs hcell
  rw [g2] at this
  exact ⟨vs, g1, g2, hcell, this⟩

def splice (cs : List AV) (o : Nat) (new : List AV) : List AV := cs.take o ++ new ++ cs.drop (o + new.length)
/-- Cells stored into a block, from a place on: what else may lie there is known no more. -/
def AMem.storeCells (M : AMem) (b o : Nat) (new : List AV) : Option AMem :=
  match M.get b with
  | some (.cells cs sz true g) =>
    if o + new.length ≤ cs.length ∧ new.all AV.one = true then
      some ((match g with | none => M | some g => M.kill g b).set b (.cells (splice cs o new) sz true g))
    else none
  | _ => none

theorem storeCells_n {M M' : AMem} {b o : Nat} {new : List AV} (h : M.storeCells b o new = some M') : M'.n = M.n := by
  unfold AMem.storeCells at h
  split at h
  · split at h
    · rename_i g _ _
      cases h
      cases g <;> rfl
    · cases h
  · cases h
theorem AMem.get_set [Val] {M : AMem} {b m : Nat} {k k' : ABlk} (h : M.get b = some k') : (M.set b k).get m = if m = b then some k else M.get m :=
  Tr.get_set M.t b k m (by unfold AMem.get at h; simp [h])
theorem AMem.get_kill [Val] {M : AMem} {g b m : Nat} : (M.kill g b).get m = (M.get m).map (killOf g b m) := by
  unfold AMem.get AMem.kill
  rw [Tr.get_mapI]; simp

theorem killOf_wr {g b i : Nat} {k : ABlk} : (killOf g b i k).wr = true → k.wr = true := by
  unfold killOf
  by_cases h : i = b
  · simp [h]
  · simp only [h, if_false]
    cases k with
    | dead => simp
    | held => simp
    | map es => simp
    | cells cs sz wr g' =>
      cases g' with
      | none => simp
      | some g' => by_cases hg : g' = g <;> simp [hg, ABlk.wr]
theorem killOf_share {g b i j : Nat} {k k' : ABlk} (h : k.share k' = true) : (killOf g b i k).share (killOf g b j k') = true := by
  have e1 : killOf g b i k = k ∨ killOf g b i k = .dead := by
    unfold killOf; split
    · exact .inl rfl
    · split
      · split
        · exact .inr rfl
        · exact .inl rfl
      · exact .inl rfl
  have e2 : killOf g b j k' = k' ∨ killOf g b j k' = .dead := by
    unfold killOf; split
    · exact .inl rfl
    · split
      · split
        · exact .inr rfl
        · exact .inl rfl
      · exact .inl rfl
  rcases e1 with e1 | e1 <;> rcases e2 with e2 | e2 <;> rw [e1, e2]
  · exact h
  · cases k <;> rfl
  · cases k' <;> rfl
  · rfl
theorem killOf_BR [Val] {g b i : Nat} {k : ABlk} {x : EB} (h : BR e w x k) : BR e w x (killOf g b i k) := by
  unfold killOf; split
  · exact h
  · split
    · split
      · trivial
      · exact h
    · exact h
theorem MR.kill [Val] (h : MR B w0 e M w) (g b : Nat) : MR B w0 e (M.kill g b) w := by
  have hget : ∀ m k, (M.kill g b).get m = some k → ∃ k0, M.get m = some k0 ∧ k = killOf g b m k0 := by
    intro m k hk
    rw [AMem.get_kill] at hk
    cases h0 : M.get m with
    | none => simp [h0] at hk
    | some k0 => simp [h0] at hk; exact ⟨k0, rfl, hk.symm⟩
  refine ⟨h.fresh, Tr.full_mapI h.full _ _ _, h.below, h.base, ?_, ?_, ?_, h.room, h.ro⟩
  · intro m k x hk hx
    obtain ⟨k0, h0, rfl⟩ := hget m k hk
    exact killOf_BR (h.blocks m k0 x h0 hx)
  · intro m k x hk hx hw
    obtain ⟨k0, h0, rfl⟩ := hget m k hk
    exact h.own m k0 x h0 hx (killOf_wr hw)
  · intro m m' k k' x x' hne hk hk' hx hx' he
    obtain ⟨k0, h0, rfl⟩ := hget m k hk
    obtain ⟨k0', h0', rfl⟩ := hget m' k' hk'
    exact killOf_share (h.sep m m' k0 k0' x x' hne h0 h0' hx hx' he)

theorem share_left {cs cs' : List AV} {sz : Nat} {wr : Bool} {g : Option Nat} {k : ABlk} : (ABlk.cells cs sz wr g).share k = (ABlk.cells cs' sz wr g).share k := by cases k <;> rfl
theorem share_right {cs cs' : List AV} {sz : Nat} {wr : Bool} {g : Option Nat} {k : ABlk} : k.share (ABlk.cells cs sz wr g) = k.share (ABlk.cells cs' sz wr g) := by cases k <;> rfl
theorem splice_length {cs new : List AV} {o : Nat} (h : o + new.length ≤ cs.length) : (splice cs o new).length = cs.length := by
  simp [splice]; omega
theorem MR.storeCells [Val] {P : Program} (h : MR B w0 e M w) {b o : Nat} {x : EB} {new : List AV} {M' : AMem} {vs : List Value} (hs : M.storeCells b o new = some M')
    (hx : e b = some x) (hv : concs e new = some vs) :
    ∃ w', (Go.storeCells ⟨x.blk, x.o + o, none⟩ vs).run P w = .ok () w' ∧ MR B w0 e M' w' := by
  unfold AMem.storeCells at hs
  cases hk : M.get b with
  | none => simp [hk] at hs
  | some k =>
    cases k with
    | dead => simp [hk] at hs
    | held => simp [hk] at hs
    | map es => simp [hk] at hs
    | cells cs sz wr g =>
      cases wr with
      | false => simp [hk] at hs
      | true =>
        simp only [hk] at hs
        by_cases hc : o + new.length ≤ cs.length ∧ new.all AV.one = true
        · simp only [hc, and_self, if_true, Option.some.injEq] at hs
          obtain ⟨hle, hone⟩ := hc
          obtain ⟨arr, T, fr, cv, h1, h2, h3, h4, h5⟩ := h.blocks b _ x hk hx
          have hfr := h2 rfl; subst hfr
          have hlen := concs_length h4
          have hvl := concs_length hv
          have hrun := run_storeCells_at (P := P) x.blk (x.o + o) T vs 0 arr w h1 (by omega) (concs_one hv hone)
          simp only [Nat.add_zero] at hrun
          refine ⟨_, hrun, ?_⟩
          -- the memory with the others of the group gone
          generalize hM1 : (match g with | none => M | some g => M.kill g b) = M1 at hs
          have r1 : MR B w0 e M1 w := by
            cases g with
            | none => simp only at hM1; subst hM1; exact h
            | some g => simp only at hM1; subst hM1; exact h.kill g b
          have hk1 : M1.get b = some (.cells cs sz true g) := by
            cases g with
            | none => simp only at hM1; subst hM1; exact hk
            | some g => simp only at hM1; subst hM1; rw [AMem.get_kill, hk]; simp [killOf]
          have alone : ∀ m k' x', m ≠ b → M1.get m = some k' → e m = some x' → k'.live = true → x'.blk ≠ x.blk := by
            intro m k' x' hne hk' hx' hlive he
            have hs' := r1.sep m b k' _ x' x hne hk' hk1 hx' hx he
            cases k' with
            | dead => simp [ABlk.live] at hlive
            | held => simp [ABlk.live] at hlive
            | map es => simp [ABlk.share] at hs'
            | cells cs' sz' wr' g' =>
              simp only [ABlk.share, Bool.not_true, Bool.and_false, Bool.false_or, Bool.and_eq_true, beq_iff_eq] at hs'
              obtain ⟨hsome, rfl⟩ := hs'
              cases g' with
              | none => simp at hsome
              | some g' =>
                simp only at hM1; subst hM1
                rw [AMem.get_kill] at hk'
                cases h0 : M.get m with
                | none => simp [h0] at hk'
                | some k0 =>
                  simp only [h0, Option.map_some, Option.some.injEq, killOf, hne, if_false] at hk'
                  cases k0 with
                  | dead => simp at hk'
                  | held => simp at hk'
                  | map es => simp at hk'
                  | cells a1 a2 a3 a4 =>
                    cases a4 with
                    | none => simp at hk'
                    | some g0 =>
                      simp only at hk'
                      split at hk'
                      · cases hk'
                      · cases hk'; rename_i hne'; exact hne' rfl
          generalize hnew : (arr.toList.take (x.o + o) ++ vs ++ arr.toList.drop (x.o + o + vs.length)).toArray = arr'
          have hrow : (w.setRow x.blk arr').heap[x.blk]? = some (.cells arr' T (0, 0)) := setRow_heap w x.blk arr arr' T (0, 0) h1
          have hoth : ∀ i, i ≠ x.blk → (w.setRow x.blk arr').heap[i]? = w.heap[i]? := fun i hi => setRow_other w x.blk i arr' hi
          have hB := r1.own b _ x hk1 hx rfl
          have hget : ∀ m, M'.get m = if m = b then some (.cells (splice cs o new) sz true g) else M1.get m := by
            intro m; rw [← hs]; exact AMem.get_set hk1
          refine ⟨by rw [← hs]; exact r1.fresh, by rw [← hs]; exact Tr.full_set r1.full _ _, ?_, fun k hk => by simp; exact h.base k hk, ?_, ?_, ?_, ?_, by rw [← hs]; exact r1.ro⟩
          · exact h.below.trans ⟨rfl, rfl, rfl, by simp, fun i hi => hoth i (fun he => hB (he ▸ hi))⟩
          · intro m k' x' hk' hx'
            rw [hget] at hk'
            by_cases hm : m = b
            · subst hm
              rw [if_pos rfl] at hk'; cases hk'
              rw [hx] at hx'; cases hx'
              refine ⟨arr', T, (0, 0), cv.take o ++ vs ++ cv.drop (o + new.length), hrow, fun _ => rfl, ?_, ?_, ?_⟩
              · rw [splice_length hle, ← hnew]; simp; omega
              · unfold splice; exact concs_append (concs_append (concs_take o h4) hv) (concs_drop _ h4)
              · intro i v hi
                rw [← hnew]
                simp only [List.getElem?_toArray]
                have ho : (cv.take o).length = o := by simp; omega
                have hO : (arr.toList.take (x.o + o)).length = x.o + o := by simp; omega
                rw [List.append_assoc] at hi ⊢
                by_cases hi1 : i < o
                · rw [List.getElem?_append_left (by omega)] at hi
                  rw [List.getElem?_append_left (by omega), List.getElem?_take_of_lt (by omega)]
                  rw [List.getElem?_take_of_lt hi1] at hi
                  have := h5 _ _ hi
                  simpa using this
                · rw [List.getElem?_append_right (by omega), ho] at hi
                  rw [List.getElem?_append_right (by omega), hO]
                  by_cases hi2 : i < o + vs.length
                  · rw [List.getElem?_append_left (by omega)] at hi
                    rw [List.getElem?_append_left (by omega)]
                    have : x.o + i - (x.o + o) = i - o := by omega
                    rw [this]; exact hi
                  · rw [List.getElem?_append_right (by omega), List.getElem?_drop] at hi
                    rw [List.getElem?_append_right (by omega), List.getElem?_drop]
                    have e1 : o + new.length + (i - o - vs.length) = i := by omega
                    have e2 : x.o + o + vs.length + (x.o + i - (x.o + o) - vs.length) = x.o + i := by omega
                    rw [e1] at hi
                    rw [e2]
                    have := h5 _ _ hi
                    simpa using this
            · rw [if_neg hm] at hk'
              cases hl : k'.live with
              | false =>
                cases k' with
                | dead => trivial
                | held => trivial
                | _ => simp [ABlk.live] at hl
              | true => exact (r1.blocks m k' x' hk' hx').world (hoth _ (alone m k' x' hm hk' hx' hl))
          · intro m k' x' hk' hx' hw
            rw [hget] at hk'
            by_cases hm : m = b
            · subst hm; rw [hx] at hx'; cases hx'; exact hB
            · rw [if_neg hm] at hk'; exact r1.own m k' x' hk' hx' hw
          · intro m m' k1 k2 x1 x2 hne hk1' hk2' hx1 hx2 he
            rw [hget] at hk1' hk2'
            by_cases hm : m = b
            · subst hm
              rw [if_pos rfl] at hk1'; cases hk1'
              rw [if_neg (fun h => hne h.symm)] at hk2'
              rw [share_left (cs' := cs)]
              exact r1.sep m m' _ k2 x1 x2 hne hk1 hk2' hx1 hx2 he
            · rw [if_neg hm] at hk1'
              by_cases hm' : m' = b
              · subst hm'
                rw [if_pos rfl] at hk2'; cases hk2'
                rw [share_right (cs' := cs)]
                exact r1.sep m m' k1 _ x1 x2 hne hk1' hk1 hx1 hx2 he
              · rw [if_neg hm'] at hk2'
                exact r1.sep m m' k1 k2 x1 x2 hne hk1' hk2' hx1 hx2 he
          · intro m x' hx'
            simp only [setRow_size]; exact h.room m x' hx'
        · rw [if_neg hc] at hs; cases hs
end
end Go.Vx
