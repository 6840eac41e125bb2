/- Maps: what finding, laying and striking an entry come to. -/
import Derived.Test.YtpbejdlpkpehlaaVx7
import Derived.MapKept
namespace Go.Vx

section
variable {P : Program} {B : Nat → Prop} {w0 : World} {e : Env} {M : AMem} {w : World}

def kindOf : Nat → TypeDesc → Bool
  | 0, .int _ => true
  | 1, .bool => true
  | 2, .string => true
  | _, _ => false
theorem sameNow_ok [Val] {tag : Nat} {d : TypeDesc} {k x : AV} {ck cx : Value} {r : Bool} (hd : kindOf tag d = true) (h : eqScalar tag k x = some r) (hk : conc e k = some ck) (hx : conc e x = some cx) : Instr.sameNow d ck cx = some r := by
  match tag, d, hd with
  | 0, .int _, _ =>
    cases k <;> cases x <;> simp only [eqScalar] at h <;> try (cases h; done)
    split at h
    · rename_i hkk
      cases h; subst hkk
      rw [conc_int hk, conc_int hx]; simp [Instr.sameNow]
    · cases h
  | 1, .bool, _ =>
    cases k <;> cases x <;> simp only [eqScalar] at h <;> try (cases h; done)
    cases h
    rw [conc_bool hk, conc_bool hx]; rfl
  | 2, .string, _ =>
    cases k <;> cases x <;> simp only [eqScalar] at h <;> try (cases h; done)
    cases h
    rw [conc_str hk, conc_str hx]
    simp only [Instr.sameNow, beq_toListBytes]
theorem sameBits_ok [Val] {tag : Nat} {k x : AV} {ck cx : Value} (h : eqScalar tag k x = some true) (hk : conc e k = some ck) (hx : conc e x = some cx) : Instr.sameBits 10000 cx ck = true := by
  match tag with
  | 0 =>
    cases k <;> cases x <;> simp only [eqScalar] at h <;> try (cases h; done)
    split at h
    · rename_i hkk
      subst hkk
      simp only [Option.some.injEq, beq_iff_eq] at h
      subst h
      rw [conc_int hk, conc_int hx]; simp [Instr.sameBits]
    · cases h
  | 1 =>
    cases k <;> cases x <;> simp only [eqScalar] at h <;> try (cases h; done)
    simp only [Option.some.injEq, beq_iff_eq] at h
    subst h
    rw [conc_bool hk, conc_bool hx]; simp [Instr.sameBits]
  | 2 =>
    cases k <;> cases x <;> simp only [eqScalar] at h <;> try (cases h; done)
    rename_i s u
    simp only [Option.some.injEq] at h
    rw [conc_str hk, conc_str hx]
    simp only [Instr.sameBits]
    rw [beq_toListBytes]
    simp only [beq_iff_eq] at h ⊢
    exact h.symm
  | n + 3 => cases k <;> cases x <;> simp [eqScalar] at h
theorem findNow_ok [Val] {tag : Nat} {d : TypeDesc} {k : AV} {ck : Value} (hd : kindOf tag d = true) (hk : conc e k = some ck) : ∀ {es : List (AV × AV)} {arr : List MapEntry} {i : Nat} {r : Option (Nat × AV)},
    concs e (es.map (·.1)) = some (arr.map (·.key)) → concs e (es.map (·.2)) = some (arr.map (·.val)) → findK tag k es i = some r →
    (r = none → Instr.findNow d ck arr i = some none) ∧ (∀ j v, r = some (j, v) → ∃ cv m x, conc e v = some cv ∧ j = i + m ∧ m < es.length ∧ es[m]? = some (x, v) ∧ eqScalar tag k x = some true ∧ Instr.findNow d ck arr i = some (some (j, cv)))
  | [], arr, i, r, h1, h2, h => by
    simp only [List.map_nil, concs, Option.some.injEq] at h1
    have : arr = [] := by cases arr with
      | nil => rfl
      | cons a l => simp at h1
    subst this
    simp only [findK, Option.some.injEq] at h; subst h
    exact ⟨fun _ => rfl, fun j v h => by cases h⟩
  | (x, u) :: es, arr, i, r, h1, h2, h => by
    simp only [List.map_cons] at h1 h2
    obtain ⟨cx, cxs, g1, g2, g3⟩ := concs_cons h1
    obtain ⟨cu, cus, g4, g5, g6⟩ := concs_cons h2
    cases arr with
    | nil => cases g3
    | cons a arr =>
      simp only [List.map_cons, List.cons.injEq] at g3 g6
      obtain ⟨g3, g3'⟩ := g3
      obtain ⟨g6, g6'⟩ := g6
      subst g3'; subst g6'
      simp only [findK] at h
      cases hq : eqScalar tag k x with
      | none => rw [hq] at h; cases h
      | some q =>
        rw [hq] at h
        have hs := sameNow_ok hd hq hk g1
        rw [← g3] at hs
        cases q with
        | true =>
          simp only [Option.some.injEq] at h
          subst h
          refine ⟨fun h => by (cases h), fun j v hj => ?_⟩
          simp only [Option.some.injEq, Prod.mk.injEq] at hj
          obtain ⟨rfl, rfl⟩ := hj
          refine ⟨cu, 0, x, g4, rfl, by simp, rfl, hq, ?_⟩
          simp only [Instr.findNow, hs]
          rw [g6]
        | false =>
          simp only at h
          obtain ⟨k1, k2⟩ := findNow_ok hd hk g2 g5 h
          refine ⟨fun hr => ?_, fun j v hj => ?_⟩
          · simp only [Instr.findNow, hs]; exact k1 hr
          · obtain ⟨cv, m, y, p1, p2, p3, p4, p5, p6⟩ := k2 j v hj
            refine ⟨cv, m + 1, y, p1, by omega, by simp; omega, by simpa using p4, p5, ?_⟩
            simp only [Instr.findNow, hs]; exact p6

theorem Births.push {arr : Array MapEntry} {clock : Nat} {k v : Value} (h : Births arr clock) : Births (arr.push { key := k, val := v, born := clock }) (clock + 1) := by
  refine ⟨fun x hx => ?_, ?_⟩
  · rw [Array.toList_push, List.mem_append, List.mem_singleton] at hx
    rcases hx with hx | rfl
    · have := h.1 x hx; omega
    · exact Nat.lt_succ_self _
  · rw [Array.toList_push, List.map_append, List.nodup_append]
    refine ⟨h.2, by simp, fun a ha b hb => ?_⟩
    simp only [List.map_cons, List.map_nil, List.mem_singleton] at hb
    obtain ⟨x, hx, rfl⟩ := List.mem_map.1 ha
    have := h.1 x hx
    omega
theorem Births.of {arr arr' : Array MapEntry} {clock : Nat} (h : Births arr clock) (hs : (arr'.toList.map (·.born)).Sublist (arr.toList.map (·.born))) : Births arr' clock := by
  refine ⟨fun x hx => ?_, h.2.sublist hs⟩
  obtain ⟨y, hy, he⟩ := List.mem_map.1 (hs.subset (List.mem_map_of_mem (f := (·.born)) hx))
  rw [← he]; exact h.1 y hy
theorem born_modify {l : List MapEntry} {j : Nat} {k v : Value} : (l.modify j fun e => { e with key := k, val := v }).map (·.born) = l.map (·.born) := by
  induction l generalizing j with
  | nil => cases j <;> rfl
  | cons x l ih => cases j with
    | zero => rfl
    | succ j => rw [List.modify_succ_cons, List.map_cons, List.map_cons, ih]
theorem Births.modify {arr : Array MapEntry} {clock j : Nat} {k v : Value} (h : Births arr clock) : Births (arr.modify j fun e => { e with key := k, val := v }) clock :=
  h.of (by rw [Array.toList_modify, born_modify]; exact List.Sublist.refl _)
theorem Births.erase {arr arr' : Array MapEntry} {clock j : Nat} (h : Births arr clock) (he : arr'.toList = arr.toList.eraseIdx j) : Births arr' clock :=
  h.of (by rw [he]; exact (List.eraseIdx_sublist _ _).map _)

/-- A map's entries are others now. -/
theorem MR.setMap [Val] (h : MR B w0 e M w) {b : Nat} {x : EB} {es es' : List (AV × AV)} {arr' : Array MapEntry} {clock' : Nat} (hk : M.get b = some (.map es)) (hx : e b = some x)
    (h1 : concs e (es'.map (·.1)) = some (arr'.toList.map (·.key))) (h2 : concs e (es'.map (·.2)) = some (arr'.toList.map (·.val))) (h3 : Births arr' clock') :
    MR B w0 e (M.set b (.map es')) { w with heap := w.heap.setIfInBounds x.blk (.map arr' clock') } := by
  have hroom := h.room b x hx
  have hB := h.own b _ x hk hx rfl
  have hget : ∀ m, (M.set b (.map es')).get m = if m = b then some (.map es') else M.get m := fun m => AMem.get_set hk
  have hoth : ∀ i, i ≠ x.blk → (w.heap.setIfInBounds x.blk (.map arr' clock'))[i]? = w.heap[i]? := fun i hi => by
    rw [Array.getElem?_setIfInBounds, if_neg (fun h => hi h.symm)]
  have hrow : (w.heap.setIfInBounds x.blk (.map arr' clock'))[x.blk]? = some (.map arr' clock') := by
    rw [Array.getElem?_setIfInBounds, if_pos rfl, if_pos hroom]
  refine ⟨h.fresh, Tr.full_set h.full _ _, h.below.trans ⟨rfl, rfl, rfl, by simp, fun i hi => hoth i (fun he => hB (he ▸ hi))⟩, fun k hk => by simp; exact h.base k hk, ?_, ?_, ?_, fun m x' hx' => by simp; exact h.room m x' hx', h.ro⟩
  · intro m k' x' hk' hx'
    rw [hget] at hk'
    by_cases hm : m = b
    · subst hm
      rw [if_pos rfl] at hk'; cases hk'
      rw [hx] at hx'; cases hx'
      exact ⟨arr', clock', _, _, hrow, h1, h2, rfl, rfl, h3⟩
    · rw [if_neg hm] at hk'
      have hb := h.blocks m k' x' hk' hx'
      by_cases he : x'.blk = x.blk
      · have hs := h.sep m b k' _ x' x hm hk' hk hx' hx he
        cases k' <;> simp [ABlk.share] at hs
        trivial
      · exact hb.world (hoth _ he)
  · intro m k' x' hk' hx' hw
    rw [hget] at hk'
    by_cases hm : m = b
    · subst hm; rw [hx] at hx'; cases hx'; exact hB
    · rw [if_neg hm] at hk'; exact h.own m k' x' hk' hx' hw
  · intro m m' k1 k2 x1 x2 hne hk1 hk2 hx1 hx2 he
    rw [hget] at hk1 hk2
    by_cases hm : m = b
    · subst hm
      rw [if_pos rfl] at hk1; cases hk1
      rw [if_neg (fun h => hne h.symm)] at hk2
      have hs := h.sep m m' _ k2 x1 x2 hne hk hk2 hx1 hx2 he
      cases k2 <;> simp [ABlk.share] at hs ⊢
    · rw [if_neg hm] at hk1
      by_cases hm' : m' = b
      · subst hm'
        rw [if_pos rfl] at hk2; cases hk2
        have hs := h.sep m m' k1 _ x1 x2 hne hk1 hk hx1 hx2 he
        cases k1 <;> simp [ABlk.share] at hs ⊢
      · rw [if_neg hm'] at hk2
        exact h.sep m m' k1 k2 x1 x2 hne hk1 hk2 hx1 hx2 he

theorem checkKey_ok {kt : TypeId} {d : TypeDesc} {tag : Nat} (hd : P.underlying kt = some d) (hk : kindOf tag d = true) (e : Bool) (n : Nat) (k : Value) : (Instr.checkKey e (n + 1) kt k).run P w = .ok () w := by
  unfold Instr.checkKey
  simp only [Sem.run_bind, run_underlying hd, Result.andThen]
  match tag, d, hk with
  | 0, .int _, _ => rfl
  | 1, .bool, _ => rfl
  | 2, .string, _ => rfl

theorem findKey_ok {kt : TypeId} {d : TypeDesc} {k : Value} {l : List MapEntry} {a : Option (Nat × Value)} (hd : P.underlying kt = some d) (h : Instr.findNow d k l 0 = some a) : (Instr.findKey kt k l).run P w = .ok a w := by
  simp [Instr.findKey, run_underlying hd, Result.andThen, h]
theorem makeMap_ok [Val] (h : MR B w0 e M w) (t : TypeId) : ∃ e' w', (Instr.makeMap t none).run P w = .ok (.map (some w.heap.size)) w' ∧ XR M (M.push (.map [])) e e' ∧ conc e' (.map (some M.n)) = some (.map (some w.heap.size)) ∧ MR B w0 e' (M.push (.map [])) w' := by
  refine ⟨e.set M.n ⟨w.heap.size, 0, 0⟩, w.alloc (.map #[] 0), ?_, h.xone rfl _, ?_, h.push _ _ 0 ⟨#[], 0, [], [], heap_alloc_new w _, rfl, rfl, rfl, rfl, (fun x hx => by cases hx), List.nodup_nil⟩⟩
  · simp only [Instr.makeMap, Sem.run_bind, run_newObj, Result.andThen_ok, Sem.run_pure]
    rfl
  · have : (e.set M.n ⟨w.heap.size, 0, 0⟩) M.n = some (⟨w.heap.size, 0, 0⟩ : EB) := Env.set_self _ _ _
    simp only [conc, this]

/-- a map's entries, ours beside the model's -/
theorem entries_ok [Val] (h : MR B w0 e M w) {b : Nat} {es : List (AV × AV)} {cm : Value} (hes : M.entries b = some es) (hc : conc e (.map (some b)) = some cm) :
    ∃ x arr clock, e b = some x ∧ cm = .map (some x.blk) ∧ M.get b = some (.map es) ∧ (getObj x.blk).run P w = .ok (.map arr clock) w ∧ w.heap[x.blk]? = some (.map arr clock) ∧
      concs e (es.map (·.1)) = some (arr.toList.map (·.key)) ∧ concs e (es.map (·.2)) = some (arr.toList.map (·.val)) ∧ Births arr clock := by
  have hk : M.get b = some (.map es) := by
    unfold AMem.entries at hes
    split at hes
    · rename_i es' hg; cases hes; exact hg
    · cases hes
  simp only [conc] at hc
  cases hx : e b with
  | none => simp [hx] at hc
  | some x =>
    simp only [hx, Option.some.injEq] at hc
    obtain ⟨arr, clock, ks, vs, h1, h2, h3, h4, h5, h6⟩ := h.blocks b _ x hk hx
    exact ⟨x, arr, clock, rfl, hc.symm, hk, by simp [getObj, Sem.run, h1], h1, by rw [h4]; exact h2, by rw [h5]; exact h3, h6⟩

theorem resL_ok [Val] {ok : Bool} {v : AV} {cv : Value} {b : Bool} (h : conc e v = some cv) : conc e (resL ok v b) = some (if ok = true then .tuple #[cv, .bool b] else cv) := by
  cases ok
  · simpa [resL] using h
  · simp [resL, conc, concs, h]

theorem lookup_ok [Val] (h : MR B w0 e M w) {t kt el : TypeId} {d : TypeDesc} {tag : Nat} {ok : Bool} {z m k r : AV} {cm ck : Value} (hu : P.underlying t = some (.map kt el)) (hkt : P.underlying kt = some d) (hd : kindOf tag d = true)
    (hz : zeroOf P el = some z) (hl : lookupI M tag ok z m k = some r) (hm : conc e m = some cm) (hk : conc e k = some ck) : ∃ cv, (Instr.lookup t cm ck ok).run P w = .ok cv w ∧ conc e r = some cv := by
  obtain ⟨cz, z1, z2⟩ := zeroOf_run (P := P) (w := w) hz e
  unfold lookupI at hl
  split at hl
  · simp only [Option.some.injEq] at hl; subst hl
    simp only [conc, Option.some.injEq] at hm; subst hm
    refine ⟨_, ?_, resL_ok z1⟩
    have hf : (Instr.findKey kt ck ([] : List MapEntry)).run P w = .ok none w := findKey_ok hkt rfl
    simp only [Instr.lookup, Sem.run_bind, run_underlying hu, Result.andThen_ok, Sem.run_pure, checkKey_ok hkt hd, hf, z2]
  · rename_i b
    cases hes : M.entries b with
    | none => simp [hes] at hl
    | some es =>
      simp only [hes] at hl
      obtain ⟨x, arr, clock, hx, rfl, hg, hobj, _, c1, c2, _⟩ := entries_ok (P := P) h hes hm
      cases hf : findK tag k es 0 with
      | none => simp [hf] at hl
      | some q =>
        simp only [hf] at hl
        obtain ⟨f1, f2⟩ := findNow_ok hd hk c1 c2 hf
        cases q with
        | none =>
          simp only [Option.some.injEq] at hl; subst hl
          refine ⟨_, ?_, resL_ok z1⟩
          have hf : (Instr.findKey kt ck arr.toList).run P w = .ok none w := findKey_ok hkt (f1 rfl)
          simp only [Instr.lookup, Sem.run_bind, run_underlying hu, Result.andThen_ok, hobj, Sem.run_pure, checkKey_ok hkt hd, hf, z2]
        | some q =>
          obtain ⟨j, v⟩ := q
          simp only [Option.some.injEq] at hl; subst hl
          obtain ⟨cv, mm, y, p1, p2, p3, p4, p5, p6⟩ := f2 j v rfl
          refine ⟨_, ?_, resL_ok p1⟩
          have hf : (Instr.findKey kt ck arr.toList).run P w = .ok (some (j, cv)) w := findKey_ok hkt p6
          simp only [Instr.lookup, Sem.run_bind, run_underlying hu, Result.andThen_ok, hobj, Sem.run_pure, checkKey_ok hkt hd, hf]
  · cases hl

theorem concs_set [Val] {v : AV} {cv : Value} (hv : conc e v = some cv) : ∀ {l : List AV} {r : List Value} (i : Nat), concs e l = some r → concs e (l.set i v) = some (r.set i cv)
  | [], r, i, h => by simp only [concs, Option.some.injEq] at h; subst h; rfl
  | x :: xs, r, 0, h => by
    obtain ⟨a, b, h1, h2, rfl⟩ := concs_cons h
    exact concs_mk hv h2
  | x :: xs, r, i + 1, h => by
    obtain ⟨a, b, h1, h2, rfl⟩ := concs_cons h
    exact concs_mk h1 (concs_set hv i h2)
theorem concs_eraseIdx [Val] : ∀ {l : List AV} {r : List Value} (i : Nat), concs e l = some r → concs e (l.eraseIdx i) = some (r.eraseIdx i)
  | [], r, i, h => by simp only [concs, Option.some.injEq] at h; subst h; rfl
  | x :: xs, r, 0, h => by
    obtain ⟨a, b, h1, h2, rfl⟩ := concs_cons h
    exact h2
  | x :: xs, r, i + 1, h => by
    obtain ⟨a, b, h1, h2, rfl⟩ := concs_cons h
    exact concs_mk h1 (concs_eraseIdx i h2)

theorem map_modify {α β : Type} (f : α → β) (g : α → α) (l : List α) (i : Nat) : (l.modify i g).map f = match l[i]? with
    | some a => (l.map f).set i (f (g a))
    | none => l.map f := by
  induction l generalizing i with
  | nil => simp
  | cons x xs ih =>
    cases i with
    | zero => simp
    | succ i =>
      simp only [List.modify_succ_cons, List.map_cons, ih, List.getElem?_cons_succ]
      cases xs[i]? <;> simp
theorem set_same {α : Type} (l : List α) (i : Nat) (a : α) (h : l[i]? = some a) : l.set i a = l := by
  obtain ⟨h1, h2⟩ := List.getElem?_eq_some_iff.1 h
  rw [← h2]; exact List.set_getElem_self h1

theorem map_eraseIdx {α β : Type} (f : α → β) : ∀ (l : List α) (i : Nat), (l.eraseIdx i).map f = (l.map f).eraseIdx i
  | [], i => by simp
  | x :: xs, 0 => by simp
  | x :: xs, i + 1 => by simp [map_eraseIdx f xs i]
theorem update_ok [Val] (h : MR B w0 e M w) {t kt el : TypeId} {d : TypeDesc} {tag : Nat} {m k v : AV} {cm ck cv : Value} {M' : AMem} (hu : P.underlying t = some (.map kt el)) (hkt : P.underlying kt = some d) (hd : kindOf tag d = true)
    (hl : updateI M tag m k v = some M') (hm : conc e m = some cm) (hk : conc e k = some ck) (hv : conc e v = some cv) : ∃ w', (Instr.mapUpdate t cm ck cv).run P w = .ok () w' ∧ M'.n = M.n ∧ MR B w0 e M' w' := by
  unfold updateI at hl
  split at hl
  · rename_i b
    cases hes : M.entries b with
    | none => simp [hes] at hl
    | some es =>
      simp only [hes] at hl
      obtain ⟨x, arr, clock, hx, rfl, hg, hobj, hheap, c1, c2, hbirth⟩ := entries_ok (P := P) h hes hm
      cases hf : findK tag k es 0 with
      | none => simp [hf] at hl
      | some q =>
        simp only [hf] at hl
        obtain ⟨f1, f2⟩ := findNow_ok hd hk c1 c2 hf
        cases q with
        | none =>
          simp only [Option.some.injEq] at hl; subst hl
          have hf : (Instr.findKey kt ck arr.toList).run P w = .ok none w := findKey_ok hkt (f1 rfl)
          refine ⟨_, ?_, rfl, h.setMap (arr' := arr.push { key := ck, val := cv, born := clock }) (clock' := clock + 1) hg hx ?_ ?_ hbirth.push⟩
          · simp only [Instr.mapUpdate, Sem.run_bind, run_underlying hu, Result.andThen_ok, hobj, checkKey_ok hkt hd, hf]
            simp [setObj, Sem.run, hheap]
          · rw [List.map_append]
            have := concs_append c1 (show concs e [k] = some [ck] from concs_mk hk rfl)
            simpa using this
          · rw [List.map_append]
            have := concs_append c2 (show concs e [v] = some [cv] from concs_mk hv rfl)
            simpa using this
        | some q =>
          obtain ⟨j, u⟩ := q
          simp only [Option.some.injEq] at hl; subst hl
          obtain ⟨cu, mm, y, p1, p2, p3, p4, p5, p6⟩ := f2 j u rfl
          simp only [Nat.zero_add] at p2; subst p2
          have hf : (Instr.findKey kt ck arr.toList).run P w = .ok (some (j, cu)) w := findKey_ok hkt p6
          have hlen : es.length = arr.toList.length := by
            have := concs_length c1; simpa using this.symm
          have hjl : j < arr.toList.length := by omega
          have hje : arr.toList[j]? = some arr.toList[j] := List.getElem?_eq_getElem hjl
          have hkey : conc e y = some (arr.toList[j]).key := by
            obtain ⟨cy, g1, g2⟩ := concs_get c1 j y (by simp [p4])
            rw [List.getElem?_map, hje] at g1
            simp only [Option.map_some, Option.some.injEq] at g1
            rw [g1]; exact g2
          have hbits := sameBits_ok p5 hk hkey
          refine ⟨_, ?_, rfl, h.setMap (arr' := arr.modify j fun e => { e with key := ck, val := cv }) (clock' := clock) hg hx ?_ ?_ hbirth.modify⟩
          · simp only [Instr.mapUpdate, Sem.run_bind, run_underlying hu, Result.andThen_ok, hobj, checkKey_ok hkt hd, hf]
            have hold : ((arr[j]?).map (·.key)).getD ck = (arr.toList[j]).key := by
              rw [← Array.getElem?_toList, hje]; rfl
            rw [hold]
            simp only [Instr.keyThatStays, hbits, if_true, Sem.run_pure, Result.andThen_ok]
            simp [setObj, Sem.run, hheap]
          · rw [Array.toList_modify, map_modify, hje, List.map_set]
            exact concs_set hk j c1
          · rw [Array.toList_modify, map_modify, hje, List.map_set]
            exact concs_set hv j c2
  · cases hl
theorem delete_ok [Val] (h : MR B w0 e M w) {t ty kt el : TypeId} {d : TypeDesc} {tag : Nat} {m k : AV} {cm ck : Value} {M' : AMem} {ts : Array TypeId} (ht : ts[0]? = some t) (hu : P.underlying t = some (.map kt el)) (hkt : P.underlying kt = some d) (hd : kindOf tag d = true)
    (hl : deleteI M tag m k = some M') (hm : conc e m = some cm) (hk : conc e k = some ck) : ∃ w', (Builtin.delete_ ts ty #[cm, ck]).run P w = .ok (.tuple #[]) w' ∧ M'.n = M.n ∧ MR B w0 e M' w' := by
  unfold deleteI at hl
  split at hl
  · simp only [Option.some.injEq] at hl; subst hl
    simp only [conc, Option.some.injEq] at hm; subst hm
    refine ⟨w, ?_, rfl, h⟩
    simp [Builtin.delete_, ht, run_underlying hu, checkKey_ok hkt hd, Result.andThen]
  · rename_i b
    cases hes : M.entries b with
    | none => simp [hes] at hl
    | some es =>
      simp only [hes] at hl
      obtain ⟨x, arr, clock, hx, rfl, hg, hobj, hheap, c1, c2, hbirth⟩ := entries_ok (P := P) h hes hm
      cases hf : findK tag k es 0 with
      | none => simp [hf] at hl
      | some q =>
        simp only [hf] at hl
        obtain ⟨f1, f2⟩ := findNow_ok hd hk c1 c2 hf
        cases q with
        | none =>
          simp only [Option.some.injEq] at hl; subst hl
          have hf : (Instr.findKey kt ck arr.toList).run P w = .ok none w := findKey_ok hkt (f1 rfl)
          refine ⟨_, ?_, rfl, h.setMap (arr' := arr) (clock' := clock) hg hx c1 c2 hbirth⟩
          simp [Builtin.delete_, ht, run_underlying hu, checkKey_ok hkt hd, Result.andThen, hobj, hf]
          simp [setObj, Sem.run, hheap]
        | some q =>
          obtain ⟨j, u⟩ := q
          simp only [Option.some.injEq] at hl; subst hl
          obtain ⟨cu, mm, y, p1, p2, p3, p4, p5, p6⟩ := f2 j u rfl
          simp only [Nat.zero_add] at p2; subst p2
          have hf : (Instr.findKey kt ck arr.toList).run P w = .ok (some (j, cu)) w := findKey_ok hkt p6
          have hers : (arr.eraseIdxIfInBounds j).toList = arr.toList.eraseIdx j := by simp
          refine ⟨_, ?_, rfl, h.setMap (arr' := arr.eraseIdxIfInBounds j) (clock' := clock) hg hx ?_ ?_ (hbirth.erase hers)⟩
          · simp [Builtin.delete_, ht, run_underlying hu, checkKey_ok hkt hd, Result.andThen, hobj, hf]
            simp [setObj, Sem.run, hheap]
          · rw [hers, map_eraseIdx, map_eraseIdx]; exact concs_eraseIdx j c1
          · rw [hers, map_eraseIdx, map_eraseIdx]; exact concs_eraseIdx j c2
  · cases hl

theorem tagOf_ok {t : TypeId} {tag : Nat} (h : tagOf P t = some tag) : ∃ d, P.underlying t = some d ∧ kindOf tag d = true := by
  unfold tagOf at h
  split at h <;> try (cases h; done)
  all_goals (rename_i hu; cases h; exact ⟨_, hu, rfl⟩)
theorem len_ok [Val] (h : MR B w0 e M w) {t ty kt el : TypeId} {m r : AV} {cm : Value} {ts : Array TypeId} (ht : ts[0]? = some t) (hu : P.underlying t = some (.map kt el)) (hl : lenI M m = some r) (hm : conc e m = some cm) :
    ∃ cv, (Builtin.len_ ts ty #[cm]).run P w = .ok cv w ∧ conc e r = some cv := by
  unfold lenI at hl
  split at hl
  · simp only [Option.some.injEq] at hl; subst hl
    simp only [conc, Option.some.injEq] at hm; subst hm
    exact ⟨goInt 0, by simp [Builtin.len_, ht, run_underlying hu], rfl⟩
  · rename_i b
    cases hes : M.entries b with
    | none => simp [hes] at hl
    | some es =>
      simp only [hes, Option.some.injEq] at hl; subst hl
      obtain ⟨x, arr, clock, hx, rfl, hg, hobj, hheap, c1, c2, hbirth⟩ := entries_ok (P := P) h hes hm
      have hlen : es.length = arr.size := by
        have := concs_length c1; simpa using this.symm
      exact ⟨goInt arr.size, by simp [Builtin.len_, ht, run_underlying hu, hobj, Result.andThen], by rw [hlen]; rfl⟩
  · cases hl
end
end Go.Vx
