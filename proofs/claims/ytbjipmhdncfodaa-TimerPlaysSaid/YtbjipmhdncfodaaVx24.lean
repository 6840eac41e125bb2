/- The library's Sorted at Values of a row of ints, as a call of our machine: a new row of the sorted numbers. -/
import Derived.Test.YtbjipmhdncfodaaVx23
import Derived.Lib.SlKeysI
namespace Go.Vx
open Go.RowKit Go.Proofs

/-- The slice holds these numbers, in a block below n₀; or it is empty. -/
def IntsAt (n₀ : Nat) (W : World) (sv : Value) (zs : List Int) : Prop :=
  (∃ p cap, sv = .slice p 0 cap ∧ zs = []) ∨ ∃ b off cap, sv = .slice (some ⟨b, off, none⟩) zs.length cap ∧ b < n₀ ∧ ∀ j, j < zs.length → W.cell? ⟨b, off + j, none⟩ = some (.int .i64 (zs[j]?.getD 0))
theorem IntsAt.below {n₀ : Nat} {A B : World} (h : Below n₀ A B) {sv : Value} {zs : List Int} : IntsAt n₀ A sv zs → IntsAt n₀ B sv zs
  | .inl e => .inl e
  | .inr ⟨b, off, cap, e, hb, hc⟩ => .inr ⟨b, off, cap, e, hb, fun j hj => (h.cell (p := ⟨b, off + j, none⟩) hb).trans (hc j hj)⟩
/-- insertion sort -/
def insI (x : Int) : List Int → List Int
  | [] => [x]
  | y :: r => if x ≤ y then x :: y :: r else y :: insI x r
def sortI : List Int → List Int
  | [] => []
  | x :: r => insI x (sortI r)
theorem insI_perm (x : Int) : ∀ l, (insI x l).Perm (x :: l)
  | [] => List.Perm.refl _
  | y :: r => by
    unfold insI
    split
    · exact List.Perm.refl _
    · exact ((insI_perm x r).cons y).trans (List.Perm.swap x y r)
theorem sortI_perm : ∀ l, (sortI l).Perm l
  | [] => List.Perm.refl _
  | x :: r => (insI_perm x _).trans ((sortI_perm r).cons x)
theorem sortI_len (l : List Int) : (sortI l).length = l.length := (sortI_perm l).length_eq
theorem insI_sorted (x : Int) : ∀ l : List Int, l.Pairwise (· ≤ ·) → (insI x l).Pairwise (· ≤ ·)
  | [], _ => List.pairwise_singleton _ _
  | y :: r, h => by
    rw [List.pairwise_cons] at h
    unfold insI
    split
    · rename_i hxy
      refine List.pairwise_cons.2 ⟨fun z hz => ?_, List.pairwise_cons.2 h⟩
      rcases List.mem_cons.1 hz with rfl | hz
      · exact hxy
      · have := h.1 z hz; omega
    · rename_i hxy
      refine List.pairwise_cons.2 ⟨fun z hz => ?_, insI_sorted x r h.2⟩
      rcases List.mem_cons.1 ((insI_perm x r).mem_iff.1 hz) with rfl | hz
      · omega
      · exact h.1 z hz
theorem sortI_sorted : ∀ l, (sortI l).Pairwise (· ≤ ·)
  | [] => List.Pairwise.nil
  | x :: r => insI_sorted x _ (sortI_sorted r)
theorem sorted_unique : ∀ {a b : List Int}, a.Perm b → a.Pairwise (· ≤ ·) → b.Pairwise (· ≤ ·) → a = b
  | [], b, hp, _, _ => (hp.nil_eq)
  | x :: a, [], hp, _, _ => absurd hp.length_eq (by simp)
  | x :: a, y :: b, hp, ha, hb => by
    rw [List.pairwise_cons] at ha hb
    have hxy : x = y := by
      have h1 : x ∈ y :: b := hp.mem_iff.1 List.mem_cons_self
      have h2 : y ∈ x :: a := hp.mem_iff.2 List.mem_cons_self
      rcases List.mem_cons.1 h1 with h | h
      · exact h
      · rcases List.mem_cons.1 h2 with k | k
        · exact k.symm
        · have := ha.1 y k
          have := hb.1 x h
          omega
    subst hxy
    rw [sorted_unique (List.Perm.cons_inv hp) ha.2 hb.2]
theorem merge_sortI (l : List Int) : (l.mergeSort fun x y => decide (x ≤ y)) = sortI l := by
  refine sorted_unique ((List.mergeSort_perm l _).trans (sortI_perm l).symm) ?_ (sortI_sorted l)
  have := List.pairwise_mergeSort (le := fun x y : Int => decide (x ≤ y)) (fun a b c h1 h2 => by simp at *; omega) (fun a b => by simp; omega) l
  exact this.imp fun h => by simpa using h
def intsOf : List AV → Option (List Int)
  | [] => some []
  | .int .i64 x :: r => match intsOf r with
    | some l => some (x :: l)
    | none => none
  | _ => none
theorem intsOf_eq : ∀ {l : List AV} {zs : List Int}, intsOf l = some zs → l = zs.map (AV.int .i64 ·)
  | [], zs, h => by cases h; rfl
  | .int .i64 x :: r, zs, h => by
    simp only [intsOf] at h
    cases hr : intsOf r with
    | none => rw [hr] at h; cases h
    | some l => rw [hr] at h; cases h; rw [intsOf_eq hr]; rfl
theorem intsOf_map (zs : List Int) : intsOf (zs.map (AV.int .i64 ·)) = some zs := by
  induction zs with
  | nil => rfl
  | cons z zs ih => simp only [List.map_cons, intsOf, ih]
/-- the numbers of a row -/
def rdInts (M : AMem) : AV → Option (List Int)
  | .slice none 0 _ _ => some []
  | .rslice none 0 _ => some []
  | .slice (some (b, o)) n _ _ => match M.loadCells b o n with
    | some l => intsOf l
    | none => none
  | .rslice (some a) n _ => match M.loadG a n with
    | some l => intsOf l
    | none => none
  | _ => none
theorem concs_ints [Val] {e : Env} : ∀ zs : List Int, concs e (zs.map (AV.int .i64 ·)) = some (zs.map (Value.int .i64 ·))
  | [] => rfl
  | _ :: zs => concs_mk rfl (concs_ints zs)
theorem rdInts_at [Val] {B : Nat → Prop} {w0 w : World} {e : Env} {M : AMem} {v : AV} {c : Value} {zs : List Int} (hm : MR B w0 e M w) (hr : rdInts M v = some zs) (hc : conc e v = some c) : IntsAt w.heap.size w c zs := by
  unfold rdInts at hr
  split at hr
  · cases hr
    simp only [conc, Option.some.injEq] at hc
    subst hc
    exact .inl ⟨_, _, rfl, rfl⟩
  · cases hr
    simp only [conc, Option.some.injEq] at hc
    subst hc
    exact .inl ⟨_, _, rfl, rfl⟩
  · rename_i b o n cap gr
    split at hr
    · rename_i l hl
      obtain rfl := intsOf_eq hr
      simp only [conc] at hc
      cases hx : e b with
      | none => rw [hx] at hc; cases hc
      | some x =>
        rw [hx] at hc
        simp only [Option.some.injEq] at hc
        subst hc
        obtain ⟨vs, h1, h2, h3, _⟩ := hm.loadCells (P := default) hl hx
        rw [concs_ints] at h1
        cases h1
        simp only [List.length_map] at h2
        subst h2
        refine .inr ⟨x.blk, x.o + o, _, rfl, hm.room b x hx, fun j hj => ?_⟩
        refine h3 j _ ?_
        simp [hj]
    · cases hr
  · rename_i a n cap
    split at hr
    · rename_i l hl
      obtain rfl := intsOf_eq hr
      simp only [conc, Option.some.injEq] at hc
      subst hc
      obtain ⟨vs, h1, h2, h3, _⟩ := hm.loadG (P := default) hl
      rw [concs_ints] at h1
      cases h1
      simp only [List.length_map] at h2
      subst h2
      cases zs with
      | nil => exact .inl ⟨_, _, rfl, rfl⟩
      | cons z zs =>
        have hz : w.cell? (a.add 0) = some (.int .i64 z) := h3 0 _ rfl
        have ha0 : M.g (a.add 0) ≠ none := fun he => by
          unfold AMem.loadG at hl
          rw [List.length_cons, List.range_succ_eq_map] at hl
          simp only [mapO, he] at hl
          cases hl
        have hblk : a.block < w.heap.size := by
          cases hg : M.g (a.add 0) with
          | none => exact absurd hg ha0
          | some y =>
            rw [hm.ro.1] at hg
            exact hm.base _ (hm.ro.2 _ _ hg).1
        obtain ⟨b, off, tl⟩ := a
        have htl : tl = none := by
          cases tl with
          | none => rfl
          | some t =>
            simp only [World.cell?, Addr.add] at hz
            split at hz <;> simp at hz
        subst htl
        exact .inr ⟨b, off, _, rfl, hblk, fun j hj => by
          have := h3 j (.int .i64 ((z :: zs)[j]?.getD 0)) (by rw [List.getElem?_map, List.getElem?_eq_getElem hj]; rfl)
          by_cases hj0 : j = 0
          · subst hj0; simpa [Addr.add] using this
          · simpa [Addr.add, hj0] using this⟩
    · cases hr
  · cases hr
/-- A block that was made by others, of the world's later ones. -/
theorem MR.made [Val] {B : Nat → Prop} {w0 w w' : World} {e : Env} {M : AMem} (h : MR B w0 e M w) {p d sz : Nat} {cs : List AV} {vs : List Value} {arr : Array Value} {T : TypeId} (hb : Below w.heap.size w w') (hp : w.heap.size ≤ p) (hblk : w'.heap[p]? = some (.cells arr T (0, 0)))
    (hc : concs e cs = some vs) (hsz : cs.length + d * sz ≤ arr.size) (hval : ∀ (i : Nat) (v : Value), vs[i]? = some v → arr[i]? = some v) (g : Option Nat) : MR B w0 (e.set M.n ⟨p, 0, d⟩) (M.push (.cells cs sz true g)) w' := by
  have h' := h.outside hb
  have hpl : p < w'.heap.size := (Array.getElem?_eq_some_iff.1 hblk).1
  have hget : ∀ m, (M.push (.cells cs sz true g)).get m = if m = M.n then some (.cells cs sz true g) else M.get m := fun m => Tr.get_push M.t M.n _ m h.full
  refine ⟨fun b hb => by simp only [AMem.push] at hb; unfold Env.set; rw [if_neg (by omega)]; exact h.fresh b (by omega), Tr.full_push h.full _, h'.below, h'.base, ?_, ?_, ?_, ?_, h.ro⟩
  · intro b j x hj hx
    rw [hget] at hj
    rcases Env.set_get hx with ⟨hb, hx'⟩ | ⟨rfl, rfl⟩
    · rw [if_neg hb] at hj
      exact (h'.blocks b j x hj hx').ext (h.one _)
    · rw [if_pos rfl] at hj; cases hj
      exact ⟨arr, T, (0, 0), vs, hblk, fun _ => rfl, by simpa using hsz, (h.one _).concs hc, by intro i v hv; simpa using hval i v hv⟩
  · intro b j x hj hx hw
    rw [hget] at hj
    rcases Env.set_get hx with ⟨hb, hx'⟩ | ⟨rfl, rfl⟩
    · rw [if_neg hb] at hj
      exact h.own b j x hj hx' hw
    · exact fun hb => absurd (h.base _ hb) (by show ¬ p < _; omega)
  · intro b b' j j' x x' hne hj hj' hx hx' he
    rw [hget] at hj hj'
    rcases Env.set_get hx with ⟨hb, hx1⟩ | ⟨rfl, rfl⟩
    · rw [if_neg hb] at hj
      rcases Env.set_get hx' with ⟨hb', hx1'⟩ | ⟨rfl, rfl⟩
      · rw [if_neg hb'] at hj'
        exact h.sep b b' j j' x x' hne hj hj' hx1 hx1' he
      · have := h.room b x hx1
        simp only at he; omega
    · rcases Env.set_get hx' with ⟨hb', hx1'⟩ | ⟨rfl, rfl⟩
      · have := h.room b' x' hx1'
        simp only at he; omega
      · exact absurd rfl hne
  · intro b x hx
    rcases Env.set_get hx with ⟨hb, hx'⟩ | ⟨rfl, rfl⟩
    · exact h'.room b x hx'
    · exact hpl
/-- 'f', called with Values' closure 'g' over a row of ints: a new row of the same, sorted. -/
def sortedX (f g : FuncId) : FuncId → List AV → AMem → Option (AV × AMem) := fun f' args M =>
  if f' = f then match args with
    | [.func (.func g') [] [.ptr (some (b, o))]] =>
      if g' = g then match M.loadCells b o 1 with
        | some [sv] => match rdInts M sv with
          | some [] => some (.slice none 0 0 false, M)
          | some (z :: r) => if r.length < 1000000 then some (.slice (some (M.n, 0)) (r.length + 1) (r.length + 1) true, M.push (.cells ((sortI (z :: r)).map (AV.int .i64 ·)) 1 true none)) else none
          | none => none
        | _ => none
      else none
    | _ => none
  else none
theorem sortedX_ok [Val] {P : Program} {f g : FuncId} {T : TypeId} (hf : hasBody P f = true)
    (H : ∀ (Bs bo : Nat) (sv : Value) (zs : List Int), zs.length ≤ 1000000 → ∀ w : World, Bs < w.heap.size → w.cell? ⟨Bs, bo, none⟩ = some sv → IntsAt w.heap.size w sv zs →
      Calls P f #[.func (.func g) #[] #[.pointer (some ⟨Bs, bo, none⟩)]] w fun e W' => ∃ v, e = .returned v ∧ W'.ownsRow w.heap.size T 1 v zs.length ((zs.mergeSort fun x y => decide (x ≤ y)).map (Value.int .i64)) ∧ (zs = [] → v = .slice none 0 0) ∧ Below w.heap.size w W') : TblOk P (sortedX f g) := by
  intro f' args M r M' h B w0 e w cargs hcs hm
  unfold sortedX at h
  split at h
  rotate_left
  · cases h
  rename_i hff
  subst hff
  refine ⟨hf, ?_⟩
  split at h
  rotate_left
  · cases h
  rename_i g' b o
  split at h
  rotate_left
  · cases h
  rename_i hgg
  subst hgg
  split at h
  rotate_left
  · cases h
  rename_i sv hl
  obtain ⟨c0, cr, h0, h1, rfl⟩ := concs_cons hcs
  simp only [concs, Option.some.injEq] at h1
  subst h1
  simp only [conc, concs] at h0
  cases hx : e b with
  | none => rw [hx] at h0; cases h0
  | some x =>
    rw [hx] at h0
    simp only [Option.some.injEq] at h0
    subst h0
    obtain ⟨vs, k1, k2, k3, _⟩ := hm.loadCells (P := P) hl hx
    obtain ⟨c, cr, k4, k5, rfl⟩ := concs_cons k1
    have hcell := k3 0 c rfl
    have main : ∀ zs, rdInts M sv = some zs → zs.length ≤ 1000000 → Calls P f' #[.func (.func g') #[] #[.pointer (some ⟨x.blk, x.o + o, none⟩)]] w fun e W' => ∃ v, e = .returned v ∧ W'.ownsRow w.heap.size T 1 v zs.length ((sortI zs).map (Value.int .i64)) ∧ (zs = [] → v = .slice none 0 0) ∧ Below w.heap.size w W' := fun zs hz hlen => by
      have := H x.blk (x.o + o) c zs hlen w (hm.room b x hx) hcell (rdInts_at hm hz k4)
      rwa [merge_sortI] at this
    split at h
    · rename_i hz
      cases h
      refine (main [] hz (by simp)).mono ?_
      rintro en w' ⟨v, rfl, _, hv, hb⟩
      obtain rfl := hv rfl
      exact ⟨e, _, XR.refl _ e, rfl, rfl, hm.outside hb⟩
    · rename_i z r hz
      split at h
      rotate_left
      · cases h
      rename_i hlen
      cases h
      refine (main (z :: r) hz (by simp only [List.length_cons]; omega)).mono ?_
      rintro en w' ⟨v, rfl, hrow, _, hb⟩
      rcases hrow.2 with ⟨rfl, h0⟩ | ⟨gb, cap, cur, rfl, hbase, hgb, r1, r2, r3, r4⟩
      · simp at h0
      · have hsl := sortI_len (z :: r)
        refine ⟨e.set M.n ⟨gb, 0, cap - (r.length + 1)⟩, _, hm.xone rfl _, rfl, ?_, hm.made hb hbase hgb (concs_ints _) ?_ (fun i v hi => ?_) none⟩
        · simp only [conc, Env.set, if_true, Nat.add_zero]
          simp only [List.length_cons] at r1
          rw [show r.length + 1 + (cap - (r.length + 1)) = cap by omega, List.length_cons]
        · rw [List.length_map, hsl, r3, List.length_cons]
          simp only [List.length_cons] at r1
          omega
        · have hi' := (List.getElem?_eq_some_iff.1 hi).1
          rw [List.length_map, hsl] at hi'
          have := congrArg (·[i]?) r4
          rw [List.getElem?_take_of_lt (by omega)] at this
          rw [← Array.getElem?_toList, this]
          exact hi
    · cases h
theorem mapO_of {α β : Type} {f : α → Option β} : ∀ {is : List α} {L : List β}, is.length = L.length → (∀ (k : Nat) j, is[k]? = some j → f j = L[k]?) → mapO f is = some L
  | [], [], _, _ => rfl
  | [], _ :: _, h, _ => by simp at h
  | _ :: _, [], h, _ => by simp at h
  | i :: is, x :: L, h, hf => by
    have h0 : f i = some x := hf 0 i rfl
    simp only [mapO, h0, mapO_of (is := is) (L := L) (by simpa using h) (fun k j hk => hf (k + 1) j hk)]
theorem IRow.ints {M : AMem} {v : AV} {xs : List Int} (h : IRow M .i64 v xs) : rdInts M v = some xs := by
  obtain ⟨_, ⟨a, c, rfl, hg⟩ | ⟨rfl, he⟩ | ⟨b, o, c, gr, cs, sz', wr, g, rfl, h1, h2, h3, h4⟩⟩ := h
  · simp only [List.length_map, Nat.mul_one] at hg ⊢
    have hL : ∀ p, a = some p → M.loadG p xs.length = some (xs.map (AV.int .i64 ·)) := fun p hp => by
      refine mapO_of (by simp) fun k j hk => ?_
      have hkl := (List.getElem?_eq_some_iff.1 hk).1
      rw [List.length_range] at hkl
      rw [List.getElem?_range hkl] at hk
      cases hk
      obtain ⟨q, hq, hv⟩ := hg k hkl
      rw [hp] at hq
      cases hq
      rw [hv, flat_one]
    cases a with
    | none =>
      cases xs with
      | nil => rfl
      | cons x xs =>
        obtain ⟨p, hp, _⟩ := hg 0 (by simp)
        cases hp
    | some p =>
      have h1 := hL p rfl
      show (match M.loadG p xs.length with
        | some l => intsOf l
        | none => none) = _
      rw [h1]
      exact intsOf_map xs
  · obtain rfl : xs = [] := by simpa using he
    rfl
  · simp only [List.length_map, Nat.mul_one] at h3 h4 ⊢
    rw [flat_one] at h4
    have h1' : M.loadCells b o xs.length = some (xs.map (AV.int .i64 ·)) := by
      unfold AMem.loadCells
      rw [h1]
      simp only
      rw [if_pos h3, h4]
    show (match M.loadCells b o xs.length with
        | some l => intsOf l
        | none => none) = _
    rw [h1']
    exact intsOf_map xs
end Go.Vx
