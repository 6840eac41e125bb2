/- The library's sort, as a call of our machine: the row's cells are those of the sorted list. -/
import Derived.Test.YtbjipmhdncfodaaVx22
import Derived.Shelf.GgSortFunc.InsertionK
namespace Go.Vx
open Go.RowKit Go.Sort Go.Proofs

theorem putCells_eq {arr : Array Value} {o : Nat} {vs : List Value} (h : o + vs.length ≤ arr.size) : putCells id o vs.toArray arr = (arr.toList.take o ++ vs ++ arr.toList.drop (o + vs.length)).toArray := by
  apply Array.ext
  · simp [putCells]; omega
  · intro i h1 h2
    have hi : i < arr.size := by simpa [putCells] using h1
    apply Option.some.inj
    rw [← Array.getElem?_eq_getElem, ← Array.getElem?_eq_getElem]
    simp only [putCells, Array.getElem?_mapIdx, List.getElem?_toArray, List.size_toArray]
    rw [Array.getElem?_eq_getElem hi, Option.map_some]
    have hO : (arr.toList.take o).length = o := by simp; omega
    rw [List.append_assoc]
    by_cases hlo : i < o
    · rw [if_neg (by omega), List.getElem?_append_left (by omega), List.getElem?_take_of_lt hlo]
      simp [hi]
    · rw [List.getElem?_append_right (by omega), hO]
      by_cases hhi : i < o + vs.length
      · rw [if_pos ⟨by omega, hhi⟩, List.getElem?_append_left (by omega), List.getElem?_eq_getElem (by omega)]
        have : i - o < vs.toArray.size := by simp; omega
        simp only [id]
        rw [getElem!_pos vs.toArray (i - o) this]; simp
      · rw [if_neg (by omega), List.getElem?_append_right (by omega), List.getElem?_drop]
        rw [show o + vs.length + (i - o - vs.length) = i by omega]
        simp [hi]
theorem MR.sorted [Val] {P : Program} {B : Nat → Prop} {w0 w w' : World} {e : Env} {M M' : AMem} {b n : Nat} {x : EB} {new : List AV} {vs : List Value} {os : Array Obj} (h : MR B w0 e M w) (hs : M.storeCells b 0 new = some M') (hx : e b = some x) (hv : concs e new = some vs)
    (hw : w' = grow (putRow id (Sort.ahead w n) x.blk x.o vs.toArray) os) : MR B w0 e M' w' := by
  obtain ⟨w1, hrun, hm⟩ := h.storeCells (P := P) hs hx hv
  have hs' := hs
  unfold AMem.storeCells at hs'
  cases hk : M.get b with
  | none => simp [hk] at hs'
  | some k =>
    cases k with
    | dead => simp [hk] at hs'
    | held => simp [hk] at hs'
    | map es => simp [hk] at hs'
    | cells cs sz wr g =>
      cases wr with
      | false => simp [hk] at hs'
      | true =>
        simp only [hk] at hs'
        by_cases hc : 0 + new.length ≤ cs.length ∧ new.all AV.one = true
        · obtain ⟨hle, hone⟩ := hc
          obtain ⟨arr, T, fr, cv, h1, h2, h3, h4, h5⟩ := h.blocks b _ x hk hx
          have hfr := h2 rfl; subst hfr
          have hvl := concs_length hv
          have hrun' := run_storeCells_at (P := P) x.blk (x.o + 0) T vs 0 arr w h1 (by omega) (concs_one hv hone)
          rw [hrun'] at hrun
          simp only [Nat.add_zero] at hrun
          cases hrun
          have hlt : x.blk < w.heap.size := (Array.getElem?_eq_some_iff.1 h1).1
          refine hm.outside ?_
          subst hw
          refine ⟨rfl, rfl, rfl, ?_, fun i hi => ?_⟩
          · simp [grow, putRow, mapBlock, Sort.ahead, World.setRow]
          · have hi' : i < w.heap.size := by simpa [World.setRow] using hi
            have e1 : (grow (putRow id (Sort.ahead w n) x.blk x.o vs.toArray) os).heap[i]? = (putRow id (Sort.ahead w n) x.blk x.o vs.toArray).heap[i]? :=
              heap_grow_old _ os (by simpa [putRow, mapBlock, Sort.ahead] using hi')
            rw [e1]
            by_cases hb : i = x.blk
            · subst hb
              rw [setRow_heap w x.blk arr _ T (0, 0) h1]
              simp only [putRow, mapBlock, Sort.ahead, Array.getElem?_modify, h1, if_true, Option.map_some, onCells]
              rw [putCells_eq (by omega)]
            · rw [setRow_other w x.blk i _ hb]
              simp [putRow, mapBlock, Sort.ahead, Array.getElem?_modify, Ne.symm hb]
        · simp only [hc, if_false] at hs'
          cases hs'
theorem concs_flat [Val] {α : Type} {encA : α → List AV} {encV : α → List Value} {e : Env} (hc : ∀ x, concs e (encA x) = some (encV x)) : ∀ d : List α, concs e (d.flatMap encA) = some (d.flatMap encV)
  | [] => rfl
  | x :: d => by rw [List.flatMap_cons, List.flatMap_cons]; exact concs_append (hc x) (concs_flat hc d)
section
variable {α : Type} [Inhabited α]
/-- 'f', called with a row of our own and the order 'g': the row is sorted. -/
def sortX (f g : FuncId) (dec : List AV → Option (List α)) (encA : α → List AV) (srt : List α → List α) : FuncId → List AV → AMem → Option (AV × AMem) := fun f' args M =>
  if f' = f then match args with
    | [.slice (some (b, 0)) n _ _, .func (.func g') [] []] =>
      if g' = g then match M.get b with
        | some (.cells cs _ _ _) => match dec cs with
          | some d => if d.length = n then match M.storeCells b 0 ((srt d).flatMap encA) with
              | some M' => some (.tuple [], M')
              | none => none
            else none
          | none => none
        | _ => none
      else none
    | _ => none
  else none
theorem flatK_toList {k : Nat} {encV : α → List Value} (hk : ∀ x, (encV x).length = k) (d : List α) : flatK encV k d.toArray = (d.flatMap encV).toArray := by
  have hlen : (d.flatMap encV).length = d.length * k := by
    induction d with
    | nil => simp
    | cons x d ih => rw [List.flatMap_cons, List.length_append, hk, ih, List.length_cons, Nat.succ_mul]; omega
  apply Array.ext
  · rw [size_flatK]; simp [hlen]
  · intro i h1 h2
    have hi : i < d.length * k := by simpa using h1
    have hk0 : 0 < k := by
      rcases Nat.eq_zero_or_pos k with h0 | h0
      · subst h0; omega
      · exact h0
    have hq : i / k < d.length := Nat.div_lt_of_lt_mul (by rw [Nat.mul_comm]; exact hi)
    have hr : i % k < k := Nat.mod_lt _ hk0
    have e1 := get_flatK encV k d.toArray i (by simpa using hi)
    rw [getElem!_pos _ i h1] at e1
    rw [e1, getElem!_pos _ (i / k) (by simpa using hq), getElem!_pos _ (i % k) (by rw [hk]; exact hr)]
    apply Option.some.inj
    rw [← List.getElem?_eq_getElem, ← Array.getElem?_eq_getElem]
    simp only [List.getElem_toArray, List.getElem?_toArray]
    have key : ∀ (l : List α) (q r : Nat) (hq : q < l.length), r < k → (l.flatMap encV)[q * k + r]? = (encV l[q])[r]? := by
      intro l
      induction l with
      | nil => intro q r hq; simp at hq
      | cons x l ih =>
        intro q r hq hr
        rw [List.flatMap_cons]
        cases q with
        | zero => rw [Nat.zero_mul, Nat.zero_add, List.getElem?_append_left (by rw [hk]; exact hr)]; rfl
        | succ q =>
          rw [List.getElem?_append_right (by rw [hk, Nat.succ_mul]; omega), hk, show (q + 1) * k + r - k = q * k + r by rw [Nat.succ_mul]; omega]
          exact ih q r (by simpa using hq) hr
    have := key d (i / k) (i % k) hq hr
    rw [Nat.mul_comm, Nat.div_add_mod] at this
    exact this.symm
theorem sortX_ok [Val] {P : Program} {f g : FuncId} {dec : List AV → Option (List α)} {encA : α → List AV} {encV : α → List Value} {srt : List α → List α} {k : Nat} (hk : ∀ x, (encV x).length = k) (hc : ∀ e x, concs e (encA x) = some (encV x))
    (hdec : ∀ cs d, dec cs = some d → cs = d.flatMap encA) (hf : hasBody P f = true)
    (H : ∀ (blk off cap : Nat) (d : List α) (w : World), HoldsK encV k w blk off d.toArray → blk < w.heap.size → d.length < 4611686018427387904 →
      Calls P f #[.slice (some ⟨blk, off, none⟩) d.length cap, .func (.func g) #[] #[]] w fun e w' => e = .returned (.tuple #[]) ∧ ∃ n os, w' = sortWorldK encV k w blk off n (srt d).toArray os)
    (hbig : ∀ cs d, dec cs = some d → d.length < 4611686018427387904) : TblOk P (sortX f g dec encA srt) := by
  intro f' args M r M' h B w0 e w cargs hcs hm
  unfold sortX at h
  split at h
  rotate_left
  · cases h
  rename_i hff
  subst hff
  refine ⟨hf, ?_⟩
  split at h
  rotate_left
  · cases h
  rename_i b n c gr g'
  split at h
  rotate_left
  · cases h
  rename_i hgg
  subst hgg
  split at h
  rotate_left
  · cases h
  rename_i cs sz wr grp hget
  split at h
  rotate_left
  · cases h
  rename_i d hd
  split at h
  rotate_left
  · cases h
  rename_i hn
  split at h
  rotate_left
  · cases h
  rename_i M1 hst
  simp only [Option.some.injEq, Prod.mk.injEq] at h
  obtain ⟨rfl, rfl⟩ := h
  subst hn
  obtain rfl := hdec cs d hd
  -- the arguments
  obtain ⟨c0, cr, h0, h1, rfl⟩ := concs_cons hcs
  obtain ⟨c1, cr2, h2, h3, rfl⟩ := concs_cons h1
  simp only [concs, Option.some.injEq] at h3
  subst h3
  simp only [conc, concs] at h0 h2
  cases hx : e b with
  | none => rw [hx] at h0; cases h0
  | some x =>
    rw [hx] at h0
    simp only [Option.some.injEq] at h0 h2
    subst h0
    subst h2
    obtain ⟨arr, T, fr, cv, a1, a2, a3, a4, a5⟩ := hm.blocks b _ x hget hx
    have hwr : wr = true := by
      unfold AMem.storeCells at hst
      rw [hget] at hst
      cases wr with
      | true => rfl
      | false => simp at hst
    have hfr := a2 hwr
    subst hfr
    rw [concs_flat (hc e) d] at a4
    cases a4
    have hH : HoldsK encV k w x.blk x.o d.toArray := by
      unfold HoldsK
      rw [flatK_toList hk]
      intro j hj
      have hj' : j < (d.flatMap encV).length := by simpa using hj
      refine ⟨?_, by simp [World.frozen?, a1]⟩
      have := a5 j _ (List.getElem?_eq_getElem hj')
      simp only [World.cell?, a1, Option.isSome_none, Bool.false_eq_true, if_false, this, id]
      rw [getElem!_pos _ j hj]; simp
    have hlt : x.blk < w.heap.size := (Array.getElem?_eq_some_iff.1 a1).1
    refine (H x.blk x.o _ d w hH hlt (hbig _ d hd)).mono ?_
    rintro en w' ⟨rfl, m, os, hw⟩
    refine ⟨e, .tuple #[], XR.same ?_ e, rfl, rfl, ?_⟩
    · unfold AMem.storeCells at hst
      rw [hget] at hst
      subst hwr
      simp only at hst
      split at hst
      · cases hst
        cases grp <;> rfl
      · cases hst
    · refine hm.sorted (P := P) hst hx (concs_flat (hc e) (srt d)) (n := m) (os := os) ?_
      rw [hw]
      unfold sortWorldK putRowK
      rw [flatK_toList hk]
end
end Go.Vx
