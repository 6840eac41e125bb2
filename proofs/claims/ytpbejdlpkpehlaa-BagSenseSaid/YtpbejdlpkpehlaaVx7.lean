/- Each instruction of our small machine does what the model's operation does: all of them. -/
import Derived.Test.YtpbejdlpkpehlaaVx6
namespace Go.Vx
open Go.RowKit (Below)

section
variable {P : Program} {B : Nat → Prop} {w0 : World} {e : Env} {M : AMem} {w : World}

theorem run_copyI [Val] {dt xt ty el : TypeId} {sz n m cap : Nat} {b o : Nat} {gr : Bool} {x : AV} {cd cx : Value} {new : List AV} {M' : AMem}
    (hu : P.underlying dt = some (.slice el)) (hs : sizeOfP P el = some sz)
    (hm : MR B w0 e M w) (hcd : conc e (.slice (some (b, o)) n cap gr) = some cd) (hcx : conc e x = some cx) (hc : M.sliceCells sz x = some (m, new))
    (h : M.storeCells b o (new.take (Nat.min m n * sz)) = some M') :
    ∃ w', (Builtin.copy_ #[dt, xt] ty #[cd, cx]).run P w = .ok (.int .i64 (Nat.min m n : Nat)) w' ∧ MR B w0 e M' w' := by
  obtain ⟨xb, hxb, rfl⟩ := conc_slice hcd
  obtain ⟨hlen, news, hnews, hnl, hfirst, hcut⟩ := sliceCells_ok (P := P) hm hcx hc
  have htake : concs e (new.take (Nat.min m n * sz)) = some (news.take (Nat.min m n * sz)) := concs_take _ hnews
  obtain ⟨w', hrun, hm'⟩ := hm.storeCells (P := P) h hxb htake
  refine ⟨w', ?_, hm'⟩
  have hk : Nat.min m n ≤ m := Nat.min_le_left _ _
  have hf : (Builtin.firstCells sz (Nat.min m n) cx).run P w = .ok (news.take (Nat.min m n * sz)).toArray w := hcut _ hk
  simp only [Builtin.copy_, List.getElem?_toArray, List.getElem?_cons_zero, List.getElem?_cons_succ]
  simp only [Sem.run_bind, run_underlying hu, Result.andThen_ok, hlen, run_sizeOfP hs, hf]
  have : (Go.storeCells ⟨xb.blk, xb.o + o, none⟩ (news.take (Nat.min m n * sz)).toArray.toList).run P w = .ok () w' := hrun
  simp only [this, Result.andThen_ok, Sem.run_pure, goInt]

theorem methodsOf_mem (name : String) : ∀ (is : List TypeInfo) (k : Nat) (t : TypeId) (f : FuncId), (t, f) ∈ methodsOf P name k is →
    ∃ i m, k ≤ t ∧ is[t - k]? = some i ∧ i.methods.find? (·.name == name) = some m ∧ m.path.isEmpty = true ∧
      ((m.func = some (f, true) ∧ ∃ el, P.underlying t = some (.pointer el)) ∨ (m.func = some (f, false) ∧ ∃ d, P.underlying t = some d ∧ ∀ el, d ≠ .pointer el))
  | [], k, t, f, h => by simp [methodsOf] at h
  | i :: is, k, t, f, h => by
    have later : (t, f) ∈ methodsOf P name (k + 1) is → ∃ i' m, k ≤ t ∧ (i :: is)[t - k]? = some i' ∧ i'.methods.find? (·.name == name) = some m ∧ m.path.isEmpty = true ∧
        ((m.func = some (f, true) ∧ ∃ el, P.underlying t = some (.pointer el)) ∨ (m.func = some (f, false) ∧ ∃ d, P.underlying t = some d ∧ ∀ el, d ≠ .pointer el)) := by
      intro h'
      obtain ⟨i', m, h1, h2, h3⟩ := methodsOf_mem name is (k + 1) t f h'
      refine ⟨i', m, Nat.le_of_succ_le h1, ?_, h3⟩
      have aux : ∀ a b : Nat, b + 1 ≤ a → a - b = (a - (b + 1)) + 1 := by omega
      rw [aux t k h1]; simpa using h2
    simp only [methodsOf] at h
    cases hf : i.methods.find? (·.name == name) with
    | none => simp only [hf] at h; exact later h
    | some m =>
      simp only [hf] at h
      cases hp : m.path.isEmpty with
      | false => simp only [hp, Bool.false_eq_true, if_false] at h; exact later h
      | true =>
        simp only [hp, if_true] at h
        split at h
        · rename_i f' el h1 h2
          rcases List.mem_cons.1 h with h' | h'
          · cases h'
            exact ⟨i, m, Nat.le_refl _, by simp, hf, hp, .inl ⟨h1, el, h2⟩⟩
          · exact later h'
        · exact later h
        · rename_i f' d hne h1 h2
          rcases List.mem_cons.1 h with h' | h'
          · cases h'
            exact ⟨i, m, Nat.le_refl _, by simp, hf, hp, .inr ⟨h1, d, h2, fun el he => hne el (by rw [he])⟩⟩
          · exact later h'
        · exact later h

theorem lookup_mem {α : Type} {t : TypeId} {f : α} : ∀ {l : List (TypeId × α)}, l.lookup t = some f → (t, f) ∈ l
  | [], h => by simp at h
  | (u, g) :: l, h => by
    simp only [List.lookup] at h
    split at h
    · rename_i hb
      have : t = u := by simpa using hb
      cases h; subst this; exact List.mem_cons_self
    · exact List.mem_cons_of_mem _ (lookup_mem h)

/-- A method called on an interface value. -/
theorem run_callMethod [Val] {name : String} {t : TypeId} {f : FuncId} {v : Value} {args : Array Value} (h : (t, f) ∈ methodsOf P name 0 P.types.toList) (hb : hasBody P f = true) :
    (callMethod (.iface t v) name args).run P w = .ok (.enter f (#[v] ++ args)) w := by
  obtain ⟨i, m, _, hi, hfind, hpath, hcase⟩ := methodsOf_mem name P.types.toList 0 t f h
  have hti : P.types[t]? = some i := by simpa using hi
  have hinfo : P.info? t = some i := by
    unfold Tables.info?
    have : t < P.types.size := (Array.getElem?_eq_some_iff.1 hti).1
    rw [if_pos this]; exact hti
  have hpl : m.path.toList = [] := by
    have : m.path = #[] := by simpa using hpath
    rw [this]
  have hmeth : (method (P.types.size + Made.depth) t v name).run P w = .ok (f, v) w := by
    obtain ⟨n, hn⟩ : ∃ n, P.types.size + Made.depth = n + 1 := ⟨P.types.size + 99, rfl⟩
    rw [hn]
    simp only [method, Sem.run_bind, typeInfo, run_program, Result.andThen_ok, hinfo, Sem.run_pure, hfind, hpl, follow]
    rcases hcase with ⟨h1, el, hu⟩ | ⟨h1, d, hu, hd⟩
    · simp only [h1, Sem.run_bind, receiverAt, run_underlying hu, Result.andThen_ok, Place.get, Sem.run_pure]
    · simp only [h1, Sem.run_bind, receiverAt, run_underlying hu, Result.andThen_ok]
      cases d <;> first
        | exact absurd rfl (hd _)
        | simp only [Place.get, Sem.run_pure, Result.andThen_ok]
  simp only [callMethod, Sem.run_bind, run_program, Result.andThen_ok, hmeth, run_callFunc hb]

theorem viaOf_mem (name : String) : ∀ (is : List TypeInfo) (k : Nat) (t : TypeId) (f : FuncId) (agg : Bool) (n : Nat), (t, f, agg, n) ∈ viaOf P name k is →
    ∃ i m el d, k ≤ t ∧ is[t - k]? = some i ∧ i.methods.find? (·.name == name) = some m ∧ m.path.isEmpty = true ∧ m.func = some (f, false) ∧ P.underlying t = some (.pointer el) ∧ P.underlying el = some d ∧ isAggD d = agg ∧ sizeOfP P el = some n
  | [], k, t, f, agg, n, h => by simp [viaOf] at h
  | i :: is, k, t, f, agg, n, h => by
    have later : (t, f, agg, n) ∈ viaOf P name (k + 1) is → ∃ i' m el d, k ≤ t ∧ (i :: is)[t - k]? = some i' ∧ i'.methods.find? (·.name == name) = some m ∧ m.path.isEmpty = true ∧ m.func = some (f, false) ∧ P.underlying t = some (.pointer el) ∧ P.underlying el = some d ∧ isAggD d = agg ∧ sizeOfP P el = some n := by
      intro h'
      obtain ⟨i', m, el, d, h1, h2, h3⟩ := viaOf_mem name is (k + 1) t f agg n h'
      refine ⟨i', m, el, d, Nat.le_of_succ_le h1, ?_, h3⟩
      have aux : ∀ a b : Nat, b + 1 ≤ a → a - b = (a - (b + 1)) + 1 := by omega
      rw [aux t k h1]; simpa using h2
    simp only [viaOf] at h
    cases hf : i.methods.find? (·.name == name) with
    | none => simp only [hf] at h; exact later h
    | some m =>
      simp only [hf] at h
      cases hp : m.path.isEmpty with
      | false => simp only [hp, Bool.false_eq_true, if_false] at h; exact later h
      | true =>
        simp only [hp, if_true] at h
        split at h
        · rename_i f' el h1 h2
          split at h
          · rename_i d n' h3 h4
            rcases List.mem_cons.1 h with h' | h'
            · cases h'
              exact ⟨i, m, el, d, Nat.le_refl _, by simp, hf, hp, h1, h2, h3, rfl, h4⟩
            · exact later h'
          · exact later h
        · exact later h

/-- what a pointer leads to, ours beside the model's -/
theorem viaI_ok [Val] (hm : MR B w0 e M w) {agg : Bool} {n : Nat} {v u : AV} {cv : Value} {el : TypeId} {d : TypeDesc} (hu : P.underlying el = some d) (hd : isAggD d = agg) (hs : sizeOfP P el = some n) (h : viaI M agg n v = some u) (hv : conc e v = some cv) :
    ∃ ad cu, cv = .pointer (some ad) ∧ (loadVar el ad).run P w = .ok cu w ∧ conc e u = some cu := by
  unfold viaI at h
  split at h
  · rename_i b o
    obtain ⟨xb, hxb, rfl⟩ := conc_ptr hv
    cases agg with
    | true =>
      simp only [if_true] at h
      cases hl : M.loadCells b o n with
      | none => simp [hl] at h
      | some cs =>
        simp only [hl, Option.some.injEq] at h; subst h
        obtain ⟨vs, h1, h2, h3, h4⟩ := hm.loadCells (P := P) hl hxb
        refine ⟨_, .agg vs.toArray, rfl, ?_, by simp [conc, h1]⟩
        simp only [loadVar, Sem.run_bind, run_isAggD hu, hd, Result.andThen_ok, if_true, run_sizeOfP hs, h4, Sem.run_pure]
    | false =>
      simp only [Bool.false_eq_true, if_false] at h
      cases hl : M.loadCells b o 1 with
      | none => simp [hl] at h
      | some cs =>
        simp only [hl] at h
        match cs, h with
        | [v], h =>
          simp only [Option.some.injEq] at h; subst h
          obtain ⟨vs, h1, h2, h3, h4⟩ := hm.loadCells (P := P) hl hxb
          obtain ⟨c, _, hc1, hc2, rfl⟩ := concs_cons h1
          have hcell := h3 0 c (by simp)
          simp only [Nat.add_zero] at hcell
          refine ⟨_, c, rfl, ?_, hc1⟩
          simp only [loadVar, Sem.run_bind, run_isAggD hu, hd, Result.andThen_ok, Bool.false_eq_true, if_false, run_load, hcell]
  · cases h
theorem run_callVia [Val] {name : String} {t el : TypeId} {f : FuncId} {agg : Bool} {n : Nat} {ad : Addr} {cu : Value} {args : Array Value} (h : (t, f, agg, n) ∈ viaOf P name 0 P.types.toList) (hel : P.underlying t = some (.pointer el)) (hb : hasBody P f = true)
    (hload : (loadVar el ad).run P w = .ok cu w) : (callMethod (.iface t (.pointer (some ad))) name args).run P w = .ok (.enter f (#[cu] ++ args)) w := by
  obtain ⟨i, m, el', d, _, hi, hfind, hpath, hfunc, hu, _⟩ := viaOf_mem name P.types.toList 0 t f agg n h
  rw [hel] at hu; cases hu
  have hti : P.types[t]? = some i := by simpa using hi
  have hinfo : P.info? t = some i := by
    unfold Tables.info?
    have : t < P.types.size := (Array.getElem?_eq_some_iff.1 hti).1
    rw [if_pos this]; exact hti
  have hpl : m.path.toList = [] := by
    have : m.path = #[] := by simpa using hpath
    rw [this]
  have hmeth : (method (P.types.size + Made.depth) t (.pointer (some ad)) name).run P w = .ok (f, cu) w := by
    obtain ⟨n, hn⟩ : ∃ n, P.types.size + Made.depth = n + 1 := ⟨P.types.size + 99, rfl⟩
    rw [hn]
    simp only [method, Sem.run_bind, typeInfo, run_program, Result.andThen_ok, hinfo, Sem.run_pure, hfind, hpl, follow]
    have hw : ∀ s : String, Builtin.ssaWrapNilChk_ #[t] t #[.pointer (some ad), strVal "", strVal s] = pure (.pointer (some ad)) := fun s => rfl
    simp only [hfunc, Sem.run_bind, receiverAt, run_underlying hel, Result.andThen_ok, Place.get, Sem.run_pure, hpath, if_true, hw, asAddr, hload]
  simp only [callMethod, Sem.run_bind, run_program, Result.andThen_ok, hmeth, run_callFunc hb]
theorem promoOf_mem (name : String) : ∀ (is : List TypeInfo) (k : Nat) (t : TypeId) (f : FuncId) (off n : Nat) (agg : Bool), (t, f, off, n, agg) ∈ promoOf P name k is →
    ∃ i m s fields fd d, k ≤ t ∧ is[t - k]? = some i ∧ i.methods.find? (·.name == name) = some m ∧ m.path.toList = [s] ∧ s.deref = false ∧ m.func = some (f, false) ∧ P.underlying s.struct = some (.struct fields) ∧ fields[s.index]? = some fd ∧
      fd.offset = off ∧ sizeOfP P fd.type = some n ∧ P.underlying fd.type = some d ∧ isAggD d = agg ∧ ∀ el, d ≠ .pointer el
  | [], k, t, f, off, n, agg, h => by simp [promoOf] at h
  | i :: is, k, t, f, off, n, agg, h => by
    have later : (t, f, off, n, agg) ∈ promoOf P name (k + 1) is → ∃ i' m s fields fd d, k ≤ t ∧ (i :: is)[t - k]? = some i' ∧ i'.methods.find? (·.name == name) = some m ∧ m.path.toList = [s] ∧ s.deref = false ∧ m.func = some (f, false) ∧ P.underlying s.struct = some (.struct fields) ∧ fields[s.index]? = some fd ∧
        fd.offset = off ∧ sizeOfP P fd.type = some n ∧ P.underlying fd.type = some d ∧ isAggD d = agg ∧ ∀ el, d ≠ .pointer el := by
      intro h'
      obtain ⟨i', m, s, fields, fd, d, h1, h2, h3⟩ := promoOf_mem name is (k + 1) t f off n agg h'
      have h1' : k + 1 ≤ t := h1
      refine ⟨i', m, s, fields, fd, d, Nat.le_of_succ_le h1', ?_, h3⟩
      have e1 : t - k = (t - (k + 1)) + 1 := by
        rw [Nat.sub_succ]; exact (Nat.succ_pred_eq_of_pos (Nat.sub_pos_of_lt h1')).symm
      rw [e1]
      simpa using h2
    simp only [promoOf] at h
    split at h
    · rename_i m hm
      split at h
      · rename_i s f' hpath hfunc
        split at h
        · exact later h
        · rename_i hd
          split at h
          · rename_i fields hus
            split at h
            · rename_i fd hfd
              split at h
              · exact later h
              · rename_i n' d' hne hs hu
                rcases List.mem_cons.1 h with h | h
                · simp only [Prod.mk.injEq] at h
                  obtain ⟨rfl, rfl, rfl, rfl, rfl⟩ := h
                  exact ⟨i, m, s, fields, fd, d', Nat.le_refl _, by simp, hm, hpath, by simpa using hd, hfunc, hus, hfd, rfl, hs, hu, rfl, fun el he => hne el he⟩
                · exact later h
              · exact later h
            · exact later h
          · exact later h
      · exact later h
    · exact later h
theorem run_callPromo [Val] {name : String} {t : TypeId} {f : FuncId} {off n : Nat} {agg : Bool} {cs : List AV} {vs : List Value} {u : AV} {args : Array Value} (h : (t, f, off, n, agg) ∈ promoOf P name 0 P.types.toList) (hb : hasBody P f = true)
    (hc : concs e cs = some vs) (hp : partA agg cs off n = some u) : ∃ cu, conc e u = some cu ∧ (callMethod (.iface t (.agg vs.toArray)) name args).run P w = .ok (.enter f (#[cu] ++ args)) w := by
  obtain ⟨i, m, s, fields, fd, d, _, hi, hfind, hpath, hderef, hfunc, hus, hfd, rfl, hs, hu, rfl, hne⟩ := promoOf_mem name P.types.toList 0 t f off n agg h
  have hti : P.types[t]? = some i := by simpa using hi
  have hinfo : P.info? t = some i := by
    unfold Tables.info?
    have : t < P.types.size := (Array.getElem?_eq_some_iff.1 hti).1
    rw [if_pos this]; exact hti
  obtain ⟨cu, k1, k2⟩ := run_part (P := P) (w := w) hu hs hc hp
  refine ⟨cu, k1, ?_⟩
  have hmeth : (method (P.types.size + Made.depth) t (.agg vs.toArray) name).run P w = .ok (f, cu) w := by
    obtain ⟨n, hn⟩ : ∃ n, P.types.size + Made.depth = n + 1 := ⟨P.types.size + 99, rfl⟩
    rw [hn]
    have hrec : (receiverAt fd.type (.val cu) false none).run P w = .ok cu w := by
      unfold receiverAt
      simp only [Sem.run_bind, run_underlying hu, Result.andThen_ok]
      cases d <;> first | exact absurd rfl (hne _) | rfl
    have hemp : m.path.isEmpty = false := by
      have : m.path.size = 1 := by rw [← Array.length_toList, hpath]; rfl
      simp [Array.isEmpty, this]
    simp only [method, Sem.run_bind, typeInfo, run_program, Result.andThen_ok, hinfo, Sem.run_pure, hfind, hpath, follow, run_underlying hus, hfd, hderef, Bool.false_eq_true, if_false, k2, hfunc, hemp, hrec]
  simp only [callMethod, Sem.run_bind, run_program, Result.andThen_ok, hmeth, run_callFunc hb]
theorem run_clearI [Val] {ts : Array TypeId} {t ty el : TypeId} {sz n cap : Nat} {b o : Nat} {gr : Bool} {z : AV} {cd : Value} {M' : AMem} (ht : ts[0]? = some t)
    (hu : P.underlying t = some (.slice el)) (hz : zeroOf P el = some z) (hzl : z.cells.length = sz)
    (hm : MR B w0 e M w) (hcd : conc e (.slice (some (b, o)) (n + 1) cap gr) = some cd)
    (h : M.storeCells b o ((List.range ((n + 1) * sz)).map fun i => z.cells.getD (i % sz) (.tuple [])) = some M') :
    ∃ w', (Builtin.clear_ ts ty #[cd]).run P w = .ok (.tuple #[]) w' ∧ MR B w0 e M' w' := by
  obtain ⟨xb, hxb, rfl⟩ := conc_slice hcd
  obtain ⟨cz, hcz, hzr⟩ := zeroOf_run (P := P) (w := w) hz e
  have hcc := conc_cells hcz
  have hcl := concs_length hcc
  have hzs : cz.cells.size = sz := by rw [← hzl, ← hcl]; simp
  have hcells : ∀ k : Nat, concs e ((List.range k).map fun i => z.cells.getD (i % sz) (.tuple [])) = some ((List.range k).map fun i => cz.cells.toList.getD (i % sz) undef) := by
    intro k
    induction k with
    | zero => simp [concs]
    | succ k ih =>
      rw [List.range_succ, List.map_append, List.map_append]
      refine concs_append ih (concs_mk ?_ rfl)
      cases hg : z.cells[k % sz]? with
      | none =>
        have : cz.cells.toList[k % sz]? = none := by
          rw [List.getElem?_eq_none_iff] at hg ⊢; omega
        simp [List.getD, hg, this, conc, concs, undef]
      | some v =>
        obtain ⟨cv, g1, g2⟩ := concs_get hcc _ v hg
        simp [List.getD, hg, g1, g2]
  obtain ⟨w', hrun, hm'⟩ := hm.storeCells (P := P) h hxb (hcells _)
  refine ⟨w', ?_, hm'⟩
  have hzeros : (Builtin.zeroCells cz.cells (n + 1)).toList = (List.range ((n + 1) * sz)).map fun i => cz.cells.toList.getD (i % sz) undef := by
    unfold Builtin.zeroCells
    simp only [Array.toList_map, Array.toList_range, hzs]
    apply List.map_congr_left
    intro i hi
    have hi' := List.mem_range.1 hi
    have hpos : 0 < sz := by
      rcases Nat.eq_zero_or_pos sz with h0 | h0
      · rw [h0] at hi'; simp at hi'
      · exact h0
    have hlt : i % sz < cz.cells.size := by rw [hzs]; exact Nat.mod_lt _ hpos
    rw [getElem!_pos cz.cells (i % sz) hlt, List.getD_eq_getElem?_getD, List.getElem?_eq_getElem (by simpa using hlt)]
    simp
  simp only [Builtin.clear_, ht, List.getElem?_toArray, List.getElem?_cons_zero]
  simp only [Sem.run_bind, run_underlying hu, Result.andThen_ok, hzr, hzeros]
  have : (Go.storeCells ⟨xb.blk, xb.o + o, none⟩ ((List.range ((n + 1) * sz)).map fun i => cz.cells.toList.getD (i % sz) undef)).run P w = .ok () w' := hrun
  simp only [this, Result.andThen_ok, Sem.run_pure]
end
end Go.Vx
