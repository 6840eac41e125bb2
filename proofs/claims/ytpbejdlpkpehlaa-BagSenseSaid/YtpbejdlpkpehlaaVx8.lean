/- Each instruction of our small machine does what the model's operation does: the whole. -/
import Derived.Test.YtpbejdlpkpehlaaVx7
import Derived.Test.YtpbejdlpkpehlaaVx17
namespace Go.Vx
open Go.RowKit (Below)

section
variable {P : Program} {B : Nat → Prop} {w0 : World} {e : Env} {M : AMem} {w : World}

theorem SROK.pureV [Val] {v : AV} {cv : Value} {s : Sem Value} (hm : MR B w0 e M w) (hr : s.run P w = .ok cv w) (hv : conc e v = some cv) :
    SROK P B w0 e M w (.val v M) ((do pure (Next.value (← s)) : Sem Next).run P w) :=
  SROK.pureR (cv := cv) hm (by simp only [Sem.run_bind, hr, Result.andThen_ok, Sem.run_pure]) hv
theorem SROK.val [Val] {v : AV} {cv : Value} {s : Sem Value} {M' : AMem} {w' : World} {e' : Env} (hr : s.run P w = .ok cv w') (he : XR M M' e e') (hv : conc e' v = some cv) (hm : MR B w0 e' M' w') :
    SROK P B w0 e M w (.val v M') ((do pure (Next.value (← s)) : Sem Next).run P w) :=
  ⟨.value cv, w', e', cv, by simp only [Sem.run_bind, hr, Result.andThen_ok, Sem.run_pure], .inl rfl, he, hv, hm⟩
theorem SROK.unit [Val] {s : Sem Unit} {M' : AMem} {w' : World} {e' : Env} (hr : s.run P w = .ok () w') (he : XR M M' e e') (hm : MR B w0 e' M' w') :
    SROK P B w0 e M w (.val (.tuple []) M') ((do s; pure Next.skip : Sem Next).run P w) :=
  ⟨.skip, w', e', undef, by simp only [Sem.run_bind, hr, Result.andThen_ok, Sem.run_pure], .inr ⟨rfl, rfl⟩, he, by simp [conc, concs, undef], hm⟩

theorem list2 [Val] {ρ : Operand → Value} {l : List Operand} {avs : List AV} {a b : AV} (ha : concs e avs = some (l.map ρ)) (h : avs = [a, b]) : ∃ x y cx cy, l = [x, y] ∧ conc e a = some cx ∧ conc e b = some cy ∧ ρ x = cx ∧ ρ y = cy := by
  subst h
  have hl := concs_length ha
  match l, hl with
  | [x, y], _ =>
    obtain ⟨v, u, h1, h2, h3⟩ := concs2 ha
    cases h1
    exact ⟨x, y, _, _, rfl, h2, h3, rfl, rfl⟩

set_option maxHeartbeats 1600000 in
theorem bytesL_conc [Val] {e : Env} : ∀ {cs : List AV} {l : List UInt8} {vs : List Value}, bytesL cs = some l → concs e cs = some vs → ∃ ns : List Int, vs = ns.map (Value.int .u8) ∧ l = ns.map fun n => UInt8.ofNat n.toNat
  | [], l, vs, h, hc => by
    cases h
    simp only [concs, Option.some.injEq] at hc
    subst hc
    exact ⟨[], rfl, rfl⟩
  | x :: cs, l, vs, h, hc => by
    obtain ⟨c0, cr, h0, h1, rfl⟩ := concs_cons hc
    have hx : ∃ n, x = .int .u8 n := by
      unfold bytesL at h
      split at h
      · rename_i heq; cases heq
      · rename_i n l' heq; cases heq; exact ⟨n, rfl⟩
      · cases h
    obtain ⟨n, rfl⟩ := hx
    simp only [bytesL] at h
    cases hb : bytesL cs with
    | none => rw [hb] at h; cases h
    | some r =>
      rw [hb] at h
      simp only [Option.some.injEq] at h
      subst h
      obtain ⟨ns, rfl, rfl⟩ := bytesL_conc hb h1
      have := conc_int h0
      exact ⟨n :: ns, by rw [this]; rfl, rfl⟩
theorem foldl_push (ns : List Int) : ∀ s : ByteArray, ns.foldl (fun r n => r.push (UInt8.ofNat n.toNat)) s = ⟨(s.data.toList ++ ns.map fun n => UInt8.ofNat n.toNat).toArray⟩ := by
  induction ns with
  | nil => intro s; simp
  | cons n ns ih =>
    intro s
    rw [List.foldl_cons, ih]
    simp [ByteArray.push]
theorem run_bytesStr [Val] {s d el : TypeId} {v : AV} {cv : Value} {m : Nat} {cs : List AV} {l : List UInt8} (hm : MR B w0 e M w) (hs : P.underlying s = some (.slice el)) (hd : P.underlying d = some .string) (hel : P.underlying el = some (.int .u8))
    (hv : conc e v = some cv) (hsc : M.sliceCells 1 v = some (m, cs)) (hb : bytesL cs = some l) : (convert s d cv).run P w = .ok (.string ⟨l.toArray⟩) w := by
  obtain ⟨hlen, news, h1, h2, h3, _⟩ := sliceCells_ok (P := P) hm hv hsc
  obtain ⟨ns, rfl, rfl⟩ := bytesL_conc hb h1
  have hfc := h3 w rfl
  have hcv : ∃ p n c, cv = .slice p n c := by
    unfold AMem.sliceCells at hsc
    split at hsc
    · simp [conc] at hv; exact ⟨_, _, _, hv.symm⟩
    · obtain ⟨xb, hxb, rfl⟩ := conc_slice hv
      exact ⟨_, _, _, rfl⟩
    · simp [conc] at hv; exact ⟨_, _, _, hv.symm⟩
    · rename_i tb to tadv
      simp only [conc] at hv
      cases hxb : e tb with
      | none => simp [hxb] at hv
      | some xb => simp only [hxb, Option.some.injEq] at hv; exact ⟨_, _, _, hv.symm⟩
    · simp [conc] at hv; exact ⟨_, _, _, hv.symm⟩
    · cases hsc
  obtain ⟨p, n, c, rfl⟩ := hcv
  have hn : n = m := by
    simp [Builtin.lenOf] at hlen; exact hlen
  subst hn
  have hconv : (convert s d (.slice p n c)).run P w = (Conv.bytesToString (.slice p n c)).run P w := by
    cases p <;> simp [convert, run_underlying hs, run_underlying hd, run_underlying hel, Sem.run_bind, Result.andThen_ok]
  rw [hconv]
  cases p with
  | none =>
    simp only [Builtin.firstCells, Sem.run_pure, Result.ok.injEq] at hfc
    have : ns = [] := by
      have := hfc.1
      cases ns with
      | nil => rfl
      | cons n ns => simp at this
    subst this
    simp [Conv.bytesToString, Sem.run_pure]
    rfl
  | some a =>
    simp only [Builtin.firstCells, Nat.mul_one] at hfc
    rw [run_bytesToString w a n c ns hfc, foldl_push]
    simp
set_option maxHeartbeats 1000000 in
theorem opI_sound [Val] {o : Oper} {pi : PI} {xs : List Operand} {avs : List AV} {a : Act} {r : SR} (hc : compOp P o = some (pi, xs)) (ha : concs e avs = some (xs.map a.eval)) (hm : MR B w0 e M w)
    (hr : opI pi avs M = some r) : SROK P B w0 e M w r ((execOp a.eval o).run P w) := by
  obtain ⟨dst, op, ty, pos, after, guard⟩ := o
  cases op <;> simp only [compOp] at hc <;> try (cases hc; done)
  case move x =>
    cases hc
    obtain ⟨v, rfl, hv⟩ := concs1 ha
    simp only [opI, Option.some.injEq] at hr; subst hr
    exact SROK.pureR hm (by simp [execOp]) hv
  case assign x =>
    cases hc
    obtain ⟨v, rfl, hv⟩ := concs1 ha
    simp only [opI, Option.some.injEq] at hr; subst hr
    exact SROK.pureR hm (by simp [execOp]) hv
  case pick c x y =>
    cases hc
    obtain ⟨v, u, t, rfl, hv, hu, ht⟩ := concs3 ha
    cases v <;> simp only [opI] at hr <;> try (cases hr; done)
    rename_i b
    simp only [Option.some.injEq] at hr; subst hr
    have := conc_bool hv
    cases b with
    | true => exact SROK.pureR hm (by simp only [execOp, Sem.run_bind, this, asBool, Sem.run_pure, Result.andThen_ok, if_true]) hu
    | false => exact SROK.pureR hm (by simp only [execOp, Sem.run_bind, this, asBool, Sem.run_pure, Result.andThen_ok, Bool.false_eq_true, if_false]) ht
  case alloc el =>
    split at hc
    · rename_i z hz
      cases hc
      have := concs0 ha; subst this
      simp only [opI, Option.some.injEq] at hr; subst hr
      obtain ⟨cz, h1, h2⟩ := zeroOf_run (P := P) (w := w) hz e
      obtain ⟨e', g1, g2, g3, g4⟩ := newVar_ok (P := P) hm el h1
      refine SROK.val (s := Instr.alloc el true (.tuple #[])) ?_ g2 g3 g4
      simp only [Instr.alloc, Sem.run_bind, h2, Result.andThen_ok, g1, Sem.run_pure]
    · cases hc
  case box el x =>
    cases hc
    obtain ⟨v, rfl, hv⟩ := concs1 ha
    simp only [opI, Option.some.injEq] at hr; subst hr
    obtain ⟨e', g1, g2, g3, g4⟩ := newVar_ok (P := P) hm el hv
    refine SROK.val (s := Instr.box el (a.eval x)) ?_ g2 g3 g4
    simp only [Instr.box, Sem.run_bind, g1, Result.andThen_ok, Sem.run_pure]
  case build t parts =>
    split at hc
    · rename_i pl z hp hz
      cases hc
      simp only [opI] at hr
      cases hf : fillA z.cells pl avs with
      | none => simp [hf] at hr
      | some cs =>
        simp only [hf, Option.some.injEq] at hr; subst hr
        have ep : (parts.map fun (p : Nat × Operand) => (p.1, a.eval p.2)).toList.map (·.1) = parts.toList.map (·.1) := by simp [Function.comp_def]
        have ev : (parts.map fun (p : Nat × Operand) => (p.1, a.eval p.2)).toList.map (·.2) = (parts.toList.map (·.2)).map a.eval := by simp [Function.comp_def]
        obtain ⟨cv, h1, h2⟩ := placesOf_run (P := P) (w := w) (e := e) (t := t) (parts := parts.map fun (p : Nat × Operand) => (p.1, a.eval p.2)) (pl := pl) (z := z) (avs := avs) (cs := cs)
          (by rw [ep]; exact hp) hz (by rw [ev]; exact ha) hf
        exact SROK.pureV hm h2 h1
    · cases hc
  case buildSlice t len parts =>
    split at hc
    · rename_i el hu
      split at hc
      · rename_i i hi
        split at hc
        · rename_i z hz
          split at hc
          · rename_i hle
            split at hc
            · rename_i zs hzs
              cases hc
              simp only [opI] at hr
              cases hf : fillA zs (parts.toList.map fun p => (p.1 * i.size, i.size)) avs with
              | none => simp [hf] at hr
              | some cs =>
                simp only [hf, Option.some.injEq] at hr; subst hr
                have hzc := ofVs_conc e hzs
                have ev : (parts.map fun (p : Nat × Operand) => (p.1, a.eval p.2)).toList.map (·.2) = (parts.toList.map (·.2)).map a.eval := by simp [Function.comp_def]
                obtain ⟨ovs, ho, hrun⟩ := run_fillA (fun i' => some (i' * i.size, i.size)) (parts.toList.map (·.1)) _ avs _ zs cs _ (by simp [Function.comp_def]) ha hzc hf (by simp)
                have hzip : (parts.toList.map (·.1)).zip ((parts.toList.map (·.2)).map a.eval) = (parts.map fun (p : Nat × Operand) => (p.1, a.eval p.2)).toList := by
                  rw [List.map_map, List.zip_map']
                  simp
                rw [hzip] at hrun
                have hal := hm.alloc cs ovs el ho
                refine SROK.val (s := Instr.buildSlice t len (parts.map fun (p : Nat × Operand) => (p.1, a.eval p.2))) (cv := .slice (some ⟨w.heap.size, 0, none⟩) len len) (w' := w.alloc (.cells ovs.toArray el)) ?_ ((hm.xone rfl _)) ?_ hal
                · have hno : ¬ (len * i.size > 2 ^ 24) := by
                    have : (2 : Nat) ^ 24 = 16777216 := by decide
                    omega
                  simp only [Instr.buildSlice, Sem.run_bind, run_underlying hu, Result.andThen_ok, sizeOf, typeInfo, run_program, hi, Sem.run_pure, if_neg hno]
                  by_cases h0 : len * i.size = 0
                  · rw [if_pos h0]
                    simp only [Sem.run_bind, Sem.run_pure, Result.andThen_ok]
                    have e0 : ((Array.range (len * i.size)).map fun x => (#[] : Array Value)[x % (#[] : Array Value).size]!) = (Array.range (len * i.size)).map (z.cells[· % z.cells.size]!) := by
                      apply Array.ext'; simp [h0]
                    have e1 : ((Array.range (len * i.size)).map (z.cells[· % z.cells.size]!)).toList.toArray = (Array.range (len * i.size)).map (z.cells[· % z.cells.size]!) := Array.ext' rfl
                    rw [e0, ← e1, hrun]
                    simp [newRow]
                  · rw [if_neg h0]
                    simp only [Sem.run_bind, zeroValue, typeInfo, run_program, hi, hz, Result.andThen_ok, Sem.run_pure]
                    have e1 : ((Array.range (len * i.size)).map (z.cells[· % z.cells.size]!)).toList.toArray = (Array.range (len * i.size)).map (z.cells[· % z.cells.size]!) := Array.ext' rfl
                    rw [← e1, hrun]
                    simp [newRow]
                · have hlast : (e.set M.n ⟨w.heap.size, 0, 0⟩) M.n = some (⟨w.heap.size, 0, 0⟩ : EB) := Env.set_self _ _ _
                  rw [conc_slice_mk hlast]; simp
            · cases hc
          · cases hc
        · cases hc
      · cases hc
    · cases hc
  case load t x =>
    split at hc
    · rename_i d n hu hs
      cases hc
      obtain ⟨v, rfl, hv⟩ := concs1 ha
      by_cases hrp : ∃ q, v = .rptr (some q)
      · obtain ⟨q, rfl⟩ := hrp
        have hpv : a.eval x = .pointer (some q) := by simpa [conc] using hv.symm
        simp only [opI] at hr
        cases hd : isAggD d with
        | true =>
          simp only [hd, if_true] at hr
          cases hl : M.loadG q n with
          | none => simp [hl] at hr
          | some cs =>
            simp only [hl, Option.some.injEq] at hr; subst hr
            obtain ⟨vs, h1, h2, h3, h4⟩ := hm.loadG (P := P) hl
            refine SROK.pureV (cv := .agg vs.toArray) (s := Instr.loadAt t (a.eval x)) hm ?_ (by simp [conc, h1])
            simp only [Instr.loadAt, hpv, Instr.sureAddr, Sem.run_bind, Sem.run_pure, Result.andThen_ok, loadVar, run_isAggD hu, hd, if_true, run_sizeOfP hs, h4]
        | false =>
          simp only [hd, Bool.false_eq_true, if_false] at hr
          cases hl : M.loadG q 1 with
          | none => simp [hl] at hr
          | some cs =>
            simp only [hl] at hr
            match cs, hr with
            | [v], hr =>
              simp only [Option.some.injEq] at hr; subst hr
              obtain ⟨vs, h1, h2, h3, h4⟩ := hm.loadG (P := P) hl
              obtain ⟨c, _, hc1, hc2, rfl⟩ := concs_cons h1
              have hcell := h3 0 c (by simp)
              have hadd : q.add 0 = q := by obtain ⟨b, o, r⟩ := q; unfold Addr.add; cases r <;> simp
              rw [hadd] at hcell
              refine SROK.pureV (cv := c) (s := Instr.loadAt t (a.eval x)) hm ?_ hc1
              simp only [Instr.loadAt, hpv, Instr.sureAddr, Sem.run_bind, Sem.run_pure, Result.andThen_ok, loadVar, run_isAggD hu, hd, Bool.false_eq_true, if_false, run_load, hcell]
      have hrp' : ∀ q, v ≠ .rptr (some q) := fun q hq => hrp ⟨q, hq⟩
      cases v <;> simp only [opI] at hr <;> try (cases hr; done)
      case rptr p => cases p with
        | none => simp at hr
        | some p => exact absurd rfl (hrp' p)
      rename_i p
      cases p with
      | none => simp at hr
      | some p =>
        obtain ⟨b, o⟩ := p
        obtain ⟨xb, hxb, hpv⟩ := conc_ptr hv
        simp only at hr
        cases hd : isAggD d with
        | true =>
          simp only [hd, if_true] at hr
          cases hl : M.loadCells b o n with
          | none => simp [hl] at hr
          | some cs =>
            simp only [hl, Option.some.injEq] at hr; subst hr
            obtain ⟨vs, h1, h2, h3, h4⟩ := hm.loadCells (P := P) hl hxb
            refine SROK.pureV (cv := .agg vs.toArray) (s := Instr.loadAt t (a.eval x)) hm ?_ (by simp [conc, h1])
            simp only [Instr.loadAt, hpv, Instr.sureAddr, Sem.run_bind, Sem.run_pure, Result.andThen_ok, loadVar, run_isAggD hu, hd, if_true, run_sizeOfP hs, h4]
        | false =>
          simp only [hd, Bool.false_eq_true, if_false] at hr
          cases hl : M.loadCells b o 1 with
          | none => simp [hl] at hr
          | some cs =>
            simp only [hl] at hr
            match cs, hr with
            | [v], hr =>
              simp only [Option.some.injEq] at hr; subst hr
              obtain ⟨vs, h1, h2, h3, h4⟩ := hm.loadCells (P := P) hl hxb
              obtain ⟨c, _, hc1, hc2, rfl⟩ := concs_cons h1
              have hcell := h3 0 c (by simp)
              refine SROK.pureV (cv := c) (s := Instr.loadAt t (a.eval x)) hm ?_ hc1
              simp only [Nat.add_zero] at hcell
              simp only [Instr.loadAt, hpv, Instr.sureAddr, Sem.run_bind, Sem.run_pure, Result.andThen_ok, loadVar, run_isAggD hu, hd, Bool.false_eq_true, if_false, run_load, hcell]
    · cases hc
  case store t x y =>
    split at hc
    · rename_i n hs
      cases hc
      obtain ⟨v, u, rfl, hv, huu⟩ := concs2 ha
      cases v <;> simp only [opI] at hr <;> try (cases hr; done)
      rename_i p
      cases p with
      | none => simp at hr
      | some p =>
        obtain ⟨b, o⟩ := p
        obtain ⟨xb, hxb, hpv⟩ := conc_ptr hv
        simp only at hr
        by_cases hn : u.cells.length = n
        · rw [if_pos hn] at hr
          cases hst : M.storeCells b o u.cells with
          | none => simp [hst] at hr
          | some M' =>
            simp only [hst, Option.some.injEq] at hr; subst hr
            have hcells := conc_cells huu
            obtain ⟨w', h1, h2⟩ := hm.storeCells (P := P) hst hxb hcells
            refine SROK.unit (s := Instr.storeAt t (a.eval x) (a.eval y)) ?_ (XR.same (storeCells_n hst) e) h2
            have hlen := concs_length hcells
            have hno : ¬ ((a.eval y).cells.size ≠ n) := by
              rw [← hn, ← hlen]; simp
            simp only [Instr.storeAt, hpv, Instr.sureAddr, Sem.run_bind, Sem.run_pure, Result.andThen_ok, storeVar, run_sizeOfP hs, if_neg hno, h1]
        · rw [if_neg hn] at hr; cases hr
    · cases hc
  case nilCheck x =>
    cases hc
    obtain ⟨v, rfl, hv⟩ := concs1 ha
    simp only [opI] at hr
    split at hr <;> try (cases hr; done)
    · rename_i p
      simp only [Option.some.injEq] at hr; subst hr
      obtain ⟨b, o⟩ := p
      obtain ⟨xb, hxb, hpv⟩ := conc_ptr hv
      exact SROK.pureR (cv := a.eval x) hm (by simp only [execOp, hpv, Sem.run_pure]) hv
    · rename_i f p q
      simp only [Option.some.injEq] at hr; subst hr
      obtain ⟨ca, cb, h1, h2, hpv⟩ := conc_func hv
      exact SROK.pureR (cv := a.eval x) hm (by simp only [execOp, hpv, Sem.run_pure]) hv
    · rename_i p n c g
      simp only [Option.some.injEq] at hr; subst hr
      obtain ⟨q, c', hpv⟩ : ∃ q c', a.eval x = .slice q n c' := by
        cases p with
        | none => simp [conc] at hv; exact ⟨_, _, hv.symm⟩
        | some p => obtain ⟨b, o⟩ := p; obtain ⟨xb, _, h⟩ := conc_slice hv; exact ⟨_, _, h⟩
      exact SROK.pureR (cv := a.eval x) hm (by simp only [execOp, hpv, Sem.run_pure]) hv
    · rename_i p
      simp only [Option.some.injEq] at hr; subst hr
      obtain ⟨q, hpv⟩ : ∃ q, a.eval x = .map q := by
        cases p with
        | none => simp [conc] at hv; exact ⟨_, hv.symm⟩
        | some p =>
          simp only [conc] at hv
          cases hx : e p with
          | none => simp [hx] at hv
          | some z => simp [hx] at hv; exact ⟨_, hv.symm⟩
      exact SROK.pureR (cv := a.eval x) hm (by simp only [execOp, hpv, Sem.run_pure]) hv
  case binOp op t x y t2 =>
    split at hc
    · rename_i p hp
      cases hc
      obtain ⟨v, u, rfl, hv, huu⟩ := concs2 ha
      unfold binC at hp
      simp only at hp
      split at hp
      · cases hp
        simp only [opI] at hr
        cases hb : binI op v u with
        | none => simp [hb] at hr
        | some q =>
          simp only [hb, Option.some.injEq] at hr; subst hr
          obtain ⟨cv, h1, h2⟩ := run_binI (P := P) (w := w) (t := t) (x := x) (y := y) hb hv huu
          exact SROK.pureV hm h2 h1
      · cases hp
        simp only [opI] at hr
        cases hb : binI op v u with
        | none => simp [hb] at hr
        | some q =>
          simp only [hb, Option.some.injEq] at hr; subst hr
          obtain ⟨cv, h1, h2⟩ := run_binI (P := P) (w := w) (t := t) (x := x) (y := y) hb hv huu
          exact SROK.pureV hm h2 h1
      · rename_i hu
        split at hp <;> try (cases hp; done)
        all_goals
          cases hp
          cases v <;> cases u <;> simp only [opI] at hr <;> try (cases hr; done)
          simp only [Option.some.injEq] at hr; subst hr
          have e1 := conc_bool hv
          have e2 := conc_bool huu
          refine SROK.pureV hm ?_ rfl
          rw [e1, e2]
          exact run_eqBool hu (by simp)
      · rename_i el hu
        split at hp <;> try (cases hp; done)
        all_goals
          split at hp <;> try (cases hp; done)
          rename_i n hs
          cases hp
          simp only [opI] at hr
          cases hb : eqPtrI v u with
          | none => simp [hb] at hr
          | some q =>
            simp only [hb, Option.some.injEq] at hr; subst hr
            refine SROK.pureV hm ?_ rfl
            exact run_eqPtr hu hs (by simp) hb hv huu
      · rename_i el hu
        split at hp <;> try (cases hp; done)
        all_goals
          cases hp
          simp only [opI] at hr
          cases hb : eqNilI 0 v u with
          | none => simp [hb] at hr
          | some q =>
            simp only [hb, Option.some.injEq] at hr; subst hr
            refine SROK.pureV hm ?_ rfl
            exact run_eqSlice hu (by simp) hb hv huu
      · rename_i k el hu
        split at hp <;> try (cases hp; done)
        all_goals
          cases hp
          simp only [opI] at hr
          cases hb : eqNilI 1 v u with
          | none => simp [hb] at hr
          | some q =>
            simp only [hb, Option.some.injEq] at hr; subst hr
            refine SROK.pureV hm ?_ rfl
            exact run_eqMap hu (by simp) hb hv huu
      · rename_i k el vv hu
        split at hp <;> try (cases hp; done)
        all_goals
          cases hp
          simp only [opI] at hr
          cases hb : eqNilI 2 v u with
          | none => simp [hb] at hr
          | some q =>
            simp only [hb, Option.some.injEq] at hr; subst hr
            refine SROK.pureV hm ?_ rfl
            exact run_eqFunc hu (by simp) hb hv huu
      · rename_i fs hu
        split at hp <;> try (cases hp; done)
        all_goals
          split at hp <;> try (cases hp; done)
          rename_i hh
          split at hp <;> try (cases hp; done)
          rename_i l hl
          cases hp
          cases v <;> cases u <;> simp only [opI] at hr <;> try (cases hr; done)
          rename_i xs ys
          cases hb : eqParts l xs ys with
          | none => simp [hb] at hr
          | some q =>
            simp only [hb, Option.some.injEq] at hr; subst hr
            obtain ⟨cx, k1, k2⟩ := conc_agg hv
            obtain ⟨cy, k3, k4⟩ := conc_agg huu
            refine SROK.pureV hm ?_ rfl
            rw [k2, k4]
            exact run_eqStruct hu (by simpa using hh) hl (by simp) hb k1 k3
      · cases hp
    · split at hc
      · rename_i p hp
        cases hc
        obtain ⟨v, u, rfl, hv, huu⟩ := concs2 ha
        unfold ifaceC at hp
        split at hp
        · rename_i ms hu
          split at hp
          · rename_i hxy
            split at hp <;> try (cases hp; done)
            all_goals
              cases hp
              simp only [opI] at hr
              cases hb : eqNilI 3 v u with
              | none => simp [hb] at hr
              | some q =>
                simp only [hb, Option.some.injEq] at hr; subst hr
                refine SROK.pureV hm ?_ rfl
                exact run_eqIface hu hxy (by simp) hb hv huu
          · cases hp
        · cases hp
      · cases hc
  case unOp op t x =>
    cases op <;> simp only at hc <;> try (cases hc; done)
    case not =>
      cases hc
      obtain ⟨v, rfl, hv⟩ := concs1 ha
      cases v <;> simp only [opI] at hr <;> try (cases hr; done)
      simp only [Option.some.injEq] at hr; subst hr
      have := conc_bool hv
      refine SROK.pureR hm ?_ rfl
      simp only [execOp, this, Op.unary, Sem.run_bind, Sem.run_pure, Result.andThen_ok]
    all_goals
      cases hc
      obtain ⟨v, rfl, hv⟩ := concs1 ha
      cases v <;> simp only [opI] at hr <;> try (cases hr; done)
      rename_i k n
      simp only [if_true, Bool.false_eq_true, if_false, intI, Option.some.injEq] at hr
      subst hr
      have := conc_int hv
      refine SROK.pureR hm ?_ rfl
      simp only [execOp, this, Op.unary, Op.intArith, Op.intBits, Sem.run_bind, Sem.run_pure, Result.andThen_ok, wrapF_eq]
  case convert s d x =>
    split at hc
    · rename_i ds k hs hd
      cases hc
      obtain ⟨v, rfl, hv⟩ := concs1 ha
      cases v <;> simp only [opI] at hr <;> try (cases hr; done)
      · rename_i k' n
        simp only [Option.some.injEq] at hr; subst hr
        have := conc_int hv
        refine SROK.pureV (s := convert s d (a.eval x)) (cv := .int k (wrapF k n)) hm ?_ rfl
        rw [this]
        simp only [convert, Sem.run_bind, run_underlying hs, run_underlying hd, Result.andThen_ok]
        cases ds <;> simp [Conv.intToInt, wrapF_eq]
      · rename_i k' n lo hi
        split at hr
        · rename_i hb
          simp only [Option.some.injEq] at hr; subst hr
          obtain ⟨this, g1, g2⟩ := viewI_ok (show viewI (.oint k' n lo hi) = some (k', n, lo, hi) from rfl) hv
          have hid : wrapF k n.eval = n.eval := wrapF_id (by omega) (by omega)
          refine SROK.pureV (s := convert s d (a.eval x)) (cv := .int k (wrapF k n.eval)) hm ?_ (by simp [conc, g1, g2, hid])
          rw [this]
          simp only [convert, Sem.run_bind, run_underlying hs, run_underlying hd, Result.andThen_ok]
          cases ds <;> simp [Conv.intToInt, wrapF_eq]
        · cases hr
    · rename_i el hs hd
      split at hc
      · rename_i hel
        cases hc
        obtain ⟨v, rfl, hv⟩ := concs1 ha
        simp only [opI] at hr
        cases hsc : M.sliceCells 1 v with
        | none => rw [hsc] at hr; cases hr
        | some r =>
          obtain ⟨m, cs⟩ := r
          rw [hsc] at hr
          simp only at hr
          cases hb : bytesL cs with
          | none => rw [hb] at hr; cases hr
          | some l =>
            rw [hb] at hr
            simp only [Option.some.injEq] at hr
            subst hr
            refine SROK.pureV (s := convert s d (a.eval x)) (cv := .string ⟨l.toArray⟩) hm ?_ rfl
            exact run_bytesStr hm hs hd hel hv hsc hb
      · cases hc
    · cases hc
  case makeInterface t x =>
    split at hc
    · cases hc
    · rename_i d hne hu
      cases hc
      obtain ⟨v, rfl, hv⟩ := concs1 ha
      simp only [opI, Option.some.injEq] at hr; subst hr
      refine SROK.pureV (s := Instr.makeInterface t (a.eval x)) (cv := .iface t (a.eval x)) hm ?_ (by simp [conc, hv])
      simp only [Instr.makeInterface, Sem.run_bind, run_underlying hu, Result.andThen_ok]
      cases d <;> first
        | exact (hne _ rfl).elim
        | rfl
    · cases hc
  case makeFunc fn first captured =>
    cases hc
    simp only [opI, Option.some.injEq] at hr; subst hr
    have h1 := concs_take first.size ha
    have h2 := concs_drop first.size ha
    have e1 : ((first.toList ++ captured.toList).map a.eval).take first.size = (first.map a.eval).toList := by simp
    have e2 : ((first.toList ++ captured.toList).map a.eval).drop first.size = (captured.map a.eval).toList := by simp
    rw [e1] at h1; rw [e2] at h2
    refine SROK.pureV (s := Instr.makeFunc fn (first.map a.eval) (captured.map a.eval)) (cv := .func fn (first.map a.eval) (captured.map a.eval)) hm rfl ?_
    simp only [conc, h1, h2]
  case makeSlice t l c =>
    split at hc
    · rename_i el hu
      split at hc
      · rename_i n b z hs hb hz
        by_cases hzl : z.cells.length = n
        · rw [if_pos hzl] at hc
          cases hc
          obtain ⟨v, u, rfl, hv, huu⟩ := concs2 ha
          cases v <;> cases u <;> simp only [opI] at hr <;> try (cases hr; done)
          rename_i kl nl kc nc
          split at hr
          · rename_i hcond
            obtain ⟨c1, c2, c3, c4⟩ := hcond
            simp only [Option.some.injEq] at hr; subst hr
            have e1 := conc_int hv
            have e2 := conc_int huu
            obtain ⟨i, hi, hib, _⟩ := run_bytesOfP (P := P) (w := w) hb
            obtain ⟨cz, hcz, hzr⟩ := zeroOf_run (P := P) (w := w) hz e
            have hcc := conc_cells hcz
            have hcl := concs_length hcc
            have hzs : cz.cells.size = n := by rw [← hzl, ← hcl]; simp
            have w1 : IntKind.i64.wrap nl = nl := by rw [wrapF_eq]; simp only [wrapF]; omega
            have w2 : IntKind.i64.wrap nc = nc := by rw [wrapF_eq]; simp only [wrapF]; omega
            -- the cells
            have hcells : ∀ k : Nat, concs e ((List.range k).map fun i => z.cells.getD (i % n) (.tuple [])) = some ((List.range k).map fun i => cz.cells.toList.getD (i % n) undef) := by
              intro k
              induction k with
              | zero => simp [concs]
              | succ k ih =>
                rw [List.range_succ, List.map_append, List.map_append]
                refine concs_append ih (concs_mk ?_ rfl)
                cases hg : z.cells[k % n]? with
                | none =>
                  have : cz.cells.toList[k % n]? = none := by
                    rw [List.getElem?_eq_none_iff] at hg ⊢; omega
                  simp [List.getD, hg, this, conc, concs, undef]
                | some v =>
                  obtain ⟨cv, g1, g2⟩ := concs_get hcc _ v hg
                  simp [List.getD, hg, g1, g2]
            generalize hN : nc.toNat * n = N
            have hrunz : ((Array.range N).map (fun x => cz.cells[x % cz.cells.size]!)) = ((List.range N).map fun i => cz.cells.toList.getD (i % n) undef).toArray := by
              apply Array.ext'
              simp only [Array.toList_map, Array.toList_range]
              apply List.map_congr_left
              intro i hi
              have hin : i < N := by simpa using hi
              have hnpos : 0 < n := by
                rcases Nat.eq_zero_or_pos n with h | h
                · subst h; simp at hN; omega
                · exact h
              have hlt : i % n < cz.cells.size := by rw [hzs]; exact Nat.mod_lt _ hnpos
              rw [hzs, getElem!_pos cz.cells (i % n) hlt]
              simp [List.getD, hlt]
            have hal := hm.push (.cells ((List.range N).map fun i => cz.cells.toList.getD (i % n) undef).toArray el) (.cells ((List.range N).map fun i => z.cells.getD (i % n) (.tuple [])) n true none) 0
              ⟨_, el, (0, 0), _, heap_alloc_new w _, fun _ => rfl, by simp, (hm.one _).concs (hcells N), by intro i v hv; simpa using hv⟩
            refine SROK.val (s := Instr.makeSlice t (a.eval l) (a.eval c)) (cv := .slice (some ⟨w.heap.size, 0, none⟩) nl.toNat nc.toNat) ?_ ((hm.xone rfl _)) ?_ hal
            · rw [e1, e2]
              have hbig : ¬ (nc < 0 ∨ (2 : Int) ^ 48 < (i.bytes : Int) * nc) := by
                have h48 : (2 : Int) ^ 48 = 281474976710656 := by decide
                have : (i.bytes : Int) * nc = nc * (b : Int) := by rw [hib, Int.mul_comm]
                omega
              simp only [Instr.makeSlice, Sem.run_bind, run_underlying hu, Result.andThen_ok, asInt, asIntOf, Sem.run_pure, typeInfo, run_program, hi, w1, w2]
              have hcond : ((decide (nc < 0) || decide ((i.bytes : Int) * nc > 2 ^ 48)) || decide (nl < 0) || decide (nl > nc)) = false := by
                simp only [Bool.or_eq_false_iff, decide_eq_false_iff_not]
                refine ⟨⟨⟨?_, ?_⟩, ?_⟩, ?_⟩ <;> omega
              rw [if_neg (by rw [hcond]; simp)]
              simp only [Sem.run_bind, Result.andThen_ok, run_askRoom, run_sizeOfP hs, hN]
              by_cases h0 : N = 0
              · rw [if_pos h0]
                simp only [Sem.run_bind, Sem.run_pure, Result.andThen_ok, newRow, run_newObj]
                subst h0
                have hr0 : Array.map (fun x => (#[] : Array Value)[x % (#[] : Array Value).size]!) (Array.range 0) = (List.map (fun i => cz.cells.toList.getD (i % n) undef) (List.range 0)).toArray := Array.ext' (by simp)
                rw [hr0]; rfl
              · rw [if_neg h0]
                simp only [Sem.run_bind, Sem.run_pure, Result.andThen_ok, hzr, newRow, run_newObj, hrunz]
                rfl
            · have hlast : (e.set M.n ⟨w.heap.size, 0, 0⟩) M.n = some (⟨w.heap.size, 0, 0⟩ : EB) := Env.set_self _ _ _
              rw [conc_slice_mk hlast]; simp
          · cases hr
        · rw [if_neg hzl] at hc; cases hc
      · cases hc
    · cases hc
  case slice t x lo hi mx =>
    split at hc
    · rename_i el hu
      split at hc
      · rename_i n hs
        cases hc
        simp only [List.append_assoc, List.singleton_append] at ha
        obtain ⟨v, vs, rfl, hv, hvs⟩ := concsS ha
        simp only [opI] at hr
        cases h3 : take3 lo.isSome hi.isSome mx.isSome vs with
        | none => simp [h3] at hr
        | some p =>
          obtain ⟨alo, ahi, amx⟩ := p
          simp only [h3] at hr
          obtain ⟨g1, g2, g3, _⟩ := take3_conc (ρ := a.eval) h3 (by simpa using hvs)
          cases hsl : sliceI M n v alo ahi amx with
          | none => simp [hsl] at hr
          | some q =>
            obtain ⟨r1, M'⟩ := q
            simp only [hsl, Option.some.injEq] at hr; subst hr
            obtain ⟨e', cv, k1, k2, k3, k4⟩ := run_sliceI (P := P) hu hs hm hv g1 g2 g3 hsl
            refine SROK.val (s := Instr.sliceAt t (a.eval x) (lo.map a.eval) (hi.map a.eval) (mx.map a.eval)) (w' := w) ?_ k2 k3 k4
            simp only [Instr.sliceAt, Sem.run_bind, run_underlying hu, Result.andThen_ok, k1]
      · cases hc
    · rename_i nn el hu
      split at hc
      · rename_i n hs
        cases hc
        simp only [List.append_assoc, List.singleton_append] at ha
        obtain ⟨v, vs, rfl, hv, hvs⟩ := concsS ha
        cases v <;> simp only [opI] at hr <;> try (cases hr; done)
        rename_i p
        cases p with
        | none => simp at hr
        | some p =>
          obtain ⟨b, o⟩ := p
          obtain ⟨xb, hxb, hpv⟩ := conc_ptr hv
          simp only at hr
          cases h3 : take3 lo.isSome hi.isSome mx.isSome vs with
          | none => simp [h3] at hr
          | some p =>
            obtain ⟨alo, ahi, amx⟩ := p
            simp only [h3] at hr
            obtain ⟨g1, g2, g3, _⟩ := take3_conc (ρ := a.eval) h3 (by simpa using hvs)
            cases hb : boundsI nn nn alo ahi amx with
            | none => simp [hb] at hr
            | some q =>
              obtain ⟨l, h, m⟩ := q
              simp only [hb, Option.some.injEq] at hr; subst hr
              obtain ⟨mR, hrun, hmR, hl1, hl2, hl3⟩ := run_boundsI (P := P) (w := w) (isS := false) hb g1 g2 g3 (Nat.le_refl _) (Nat.le_refl _)
              have : mR = m := by split at hmR <;> omega
              subst this
              refine SROK.pureV (s := Instr.sliceAt t (a.eval x) (lo.map a.eval) (hi.map a.eval) (mx.map a.eval)) (cv := .slice (some ⟨xb.blk, xb.o + (if mR = l then o else o + l * n), none⟩) (h - l) (mR - l)) hm ?_ ?_
              · simp only [Instr.sliceAt, Sem.run_bind, run_underlying hu, Result.andThen_ok, hpv, Instr.sureAddr, Sem.run_pure, hrun, run_sizeOfP hs, addr_add]
                by_cases hml : mR = l <;> simp [hml, Nat.add_assoc]
              · rw [conc_slice_mk hxb]; simp
      · cases hc
    · rename_i hu
      split at hc
      · cases hc
      · rename_i hmx
        cases hc
        have hmn : mx = none := by cases mx <;> simp_all
        subst hmn
        simp only [List.singleton_append] at ha
        obtain ⟨v, vs, rfl, hv, hvs⟩ := concsS ha
        cases v <;> simp only [opI] at hr <;> try (cases hr; done)
        rename_i sb
        have hpv := conc_str hv
        cases h3 : take3 lo.isSome hi.isSome false vs with
        | none => simp [h3] at hr
        | some p =>
          obtain ⟨alo, ahi, amx⟩ := p
          simp only [h3] at hr
          obtain ⟨g1, g2, g3, _⟩ := take3_conc (ρ := a.eval) (mx := none) h3 (by simpa using hvs)
          have hamx : amx = none := by
            cases amx with
            | none => rfl
            | some z => obtain ⟨_, _, h⟩ := concO_some g3; simp at h
          subst hamx
          cases hb : boundsI sb.size sb.size alo ahi none with
          | none => simp [hb] at hr
          | some q =>
            obtain ⟨l, h, m⟩ := q
            simp only [hb, Option.some.injEq] at hr; subst hr
            obtain ⟨mR, hrun, hmR, hl1, hl2, hl3⟩ := run_boundsI (P := P) (w := w) (isS := false) hb g1 g2 g3 (Nat.le_refl _) (Nat.le_refl _)
            refine SROK.pureV (s := Instr.sliceAt t (a.eval x) (lo.map a.eval) (hi.map a.eval) (Option.map a.eval none)) (cv := .string (sb.extract l h)) hm ?_ rfl
            simp only [Option.map_none] at hrun ⊢
            simp only [Instr.sliceAt, Instr.slice, Sem.run_bind, run_underlying hu, Result.andThen_ok, hpv, Option.isSome_none, Bool.false_eq_true, if_false, Sem.run_pure, hrun]
    · cases hc
  case fieldAddr t x f =>
    split at hc
    · rename_i fields hu
      split at hc
      · rename_i fd hf
        split at hc
        · rename_i n hs
          cases hc
          obtain ⟨v, rfl, hv⟩ := concs1 ha
          by_cases hrp : ∃ q, v = .rptr (some q)
          · obtain ⟨q, rfl⟩ := hrp
            have hpv : a.eval x = .pointer (some q) := by simpa [conc] using hv.symm
            simp only [opI, Option.some.injEq] at hr; subst hr
            refine SROK.pureV (s := Instr.fieldAt t (a.eval x) f) (cv := .pointer (some (q.add fd.offset))) hm ?_ (by simp [conc])
            simp only [Instr.fieldAt, Sem.run_bind, run_underlying hu, Result.andThen_ok, hf, hpv, Instr.sureAddr, Sem.run_pure, fieldPlace, run_sizeOfP hs]
            rw [if_neg (by omega)]
            simp only [Sem.run_pure, Result.andThen_ok]
          have hrp' : ∀ q, v ≠ .rptr (some q) := fun q hq => hrp ⟨q, hq⟩
          cases v <;> simp only [opI] at hr <;> try (cases hr; done)
          case rptr p => cases p with
            | none => simp at hr
            | some p => exact absurd rfl (hrp' p)
          rename_i p
          cases p with
          | none => simp at hr
          | some p =>
            obtain ⟨b, o⟩ := p
            obtain ⟨xb, hxb, hpv⟩ := conc_ptr hv
            simp only [Option.some.injEq] at hr; subst hr
            refine SROK.pureV (s := Instr.fieldAt t (a.eval x) f) (cv := .pointer (some ⟨xb.blk, xb.o + (o + fd.offset), none⟩)) hm ?_ (by rw [conc_ptr_mk hxb])
            simp only [Instr.fieldAt, Sem.run_bind, run_underlying hu, Result.andThen_ok, hf, hpv, Instr.sureAddr, Sem.run_pure, fieldPlace, run_sizeOfP hs]
            rw [if_neg (by omega)]
            simp only [Sem.run_pure, Result.andThen_ok, addr_add, Nat.add_assoc]
        · cases hc
      · cases hc
    · cases hc
  case field t x f =>
    split at hc
    · rename_i fields hu
      split at hc
      · rename_i fd hf
        split at hc
        · rename_i n d hs hd
          cases hc
          obtain ⟨v, rfl, hv⟩ := concs1 ha
          cases v <;> simp only [opI] at hr <;> try (cases hr; done)
          rename_i cs
          obtain ⟨l, hl, hpv⟩ := conc_agg hv
          cases hp : partA (isAggD d) cs fd.offset n with
          | none => simp [hp] at hr
          | some q =>
            simp only [hp, Option.some.injEq] at hr; subst hr
            obtain ⟨cv, k1, k2⟩ := run_part (P := P) (w := w) hd hs hl hp
            refine SROK.pureV (s := Instr.field t (a.eval x) f) hm ?_ k1
            simp only [Instr.field, Sem.run_bind, run_underlying hu, Result.andThen_ok, hf, hpv, asAgg, Sem.run_pure, k2]
        · cases hc
      · cases hc
    · cases hc
  case indexAddr t x i =>
    split at hc
    · rename_i el hu
      split at hc
      · rename_i n hs
        cases hc
        obtain ⟨v, u, rfl, hv, huu⟩ := concs2 ha
        by_cases hrp : ∃ q len cap, v = .rslice (some q) len cap
        · obtain ⟨q, len, cap, rfl⟩ := hrp
          have hpv : a.eval x = .slice (some q) len cap := by simpa [conc] using hv.symm
          cases u <;> simp only [opI] at hr <;> try (cases hr; done)
          rename_i k j
          have e2 := conc_int huu
          split at hr
          · rename_i hj
            simp only [Option.some.injEq] at hr; subst hr
            refine SROK.pureV (s := Instr.indexAt t (a.eval x) (a.eval i)) (cv := .pointer (some (q.add (j.toNat * n)))) hm ?_ (by simp [conc])
            simp only [Instr.indexAt, e2, hpv, asIntOf, Sem.run_bind, Sem.run_pure, run_underlying hu, Result.andThen_ok, if_pos hj, run_sizeOfP hs]
          · cases hr
        have hrp' : ∀ q len cap, v ≠ .rslice (some q) len cap := fun q len cap hq => hrp ⟨q, len, cap, hq⟩
        cases v <;> try (simp only [opI] at hr; cases hr; done)
        case rslice p len cap => cases p with
          | none => cases u <;> simp [opI] at hr
          | some p => exact absurd rfl (hrp' p len cap)
        rename_i p len cap gr
        cases p with
        | none => cases u <;> simp [opI] at hr
        | some p =>
          obtain ⟨b, o⟩ := p
          obtain ⟨xb, hxb, hpv⟩ := conc_slice hv
          cases u <;> simp only [opI] at hr <;> try (cases hr; done)
          rename_i k j
          have e2 := conc_int huu
          split at hr
          · rename_i hj
            simp only [Option.some.injEq] at hr; subst hr
            refine SROK.pureV (s := Instr.indexAt t (a.eval x) (a.eval i)) (cv := .pointer (some ⟨xb.blk, xb.o + (o + j.toNat * n), none⟩)) hm ?_ (by rw [conc_ptr_mk hxb])
            simp only [Instr.indexAt, e2, hpv, asIntOf, Sem.run_bind, Sem.run_pure, run_underlying hu, Result.andThen_ok, if_pos hj, run_sizeOfP hs, addr_add, Nat.add_assoc]
          · cases hr
      · cases hc
    · rename_i len el hu
      split at hc
      · rename_i n hs
        cases hc
        obtain ⟨v, u, rfl, hv, huu⟩ := concs2 ha
        by_cases hrp : ∃ q, v = .rptr (some q)
        · obtain ⟨q, rfl⟩ := hrp
          have hpv : a.eval x = .pointer (some q) := by simpa [conc] using hv.symm
          cases u <;> simp only [opI] at hr <;> try (cases hr; done)
          rename_i k j
          have e2 := conc_int huu
          split at hr
          · rename_i hj
            simp only [Option.some.injEq] at hr; subst hr
            refine SROK.pureV (s := Instr.indexAt t (a.eval x) (a.eval i)) (cv := .pointer (some (q.add (j.toNat * n)))) hm ?_ (by simp [conc])
            simp only [Instr.indexAt, e2, hpv, asIntOf, Sem.run_bind, Sem.run_pure, run_underlying hu, Result.andThen_ok, Instr.sureAddr, if_pos hj, run_sizeOfP hs]
          · cases hr
        have hrp' : ∀ q, v ≠ .rptr (some q) := fun q hq => hrp ⟨q, hq⟩
        cases v <;> try (simp only [opI] at hr; cases hr; done)
        case rptr p => cases p with
          | none => cases u <;> simp [opI] at hr
          | some p => exact absurd rfl (hrp' p)
        rename_i p
        cases p with
        | none => cases u <;> simp [opI] at hr
        | some p =>
          obtain ⟨b, o⟩ := p
          obtain ⟨xb, hxb, hpv⟩ := conc_ptr hv
          cases u <;> simp only [opI] at hr <;> try (cases hr; done)
          rename_i k j
          have e2 := conc_int huu
          split at hr
          · rename_i hj
            simp only [Option.some.injEq] at hr; subst hr
            refine SROK.pureV (s := Instr.indexAt t (a.eval x) (a.eval i)) (cv := .pointer (some ⟨xb.blk, xb.o + (o + j.toNat * n), none⟩)) hm ?_ (by rw [conc_ptr_mk hxb])
            simp only [Instr.indexAt, e2, hpv, asIntOf, Sem.run_bind, Sem.run_pure, run_underlying hu, Result.andThen_ok, Instr.sureAddr, if_pos hj, run_sizeOfP hs, addr_add, Nat.add_assoc]
          · cases hr
      · cases hc
    · cases hc
  case index t x i =>
    split at hc
    · rename_i hu
      cases hc
      obtain ⟨v, u, rfl, hv, huu⟩ := concs2 ha
      cases v <;> cases u <;> simp only [opI] at hr <;> try (cases hr; done)
      rename_i sb k j
      have e1 := conc_str hv
      have e2 := conc_int huu
      split at hr
      · rename_i hj
        cases hg : sb[j.toNat]? with
        | none => simp [hg] at hr
        | some c =>
          simp only [hg, Option.some.injEq] at hr; subst hr
          refine SROK.pureV (s := Instr.index t (a.eval x) (a.eval i)) (cv := .int .u8 c.toNat) hm ?_ rfl
          simp only [Instr.index, e1, e2, asIntOf, Sem.run_bind, Sem.run_pure, run_underlying hu, Result.andThen_ok, if_pos hj, hg]
      · cases hr
    · rename_i len el hu
      split at hc
      · rename_i n d hs hd
        cases hc
        obtain ⟨v, u, rfl, hv, huu⟩ := concs2 ha
        cases v <;> cases u <;> simp only [opI] at hr <;> try (cases hr; done)
        rename_i cs k j
        obtain ⟨l, hl, e1⟩ := conc_agg hv
        have e2 := conc_int huu
        split at hr
        · rename_i hj
          cases hp : partA (isAggD d) cs (j.toNat * n) n with
          | none => simp [hp] at hr
          | some q =>
            simp only [hp, Option.some.injEq] at hr; subst hr
            obtain ⟨cv, k1, k2⟩ := run_part (P := P) (w := w) hd hs hl hp
            refine SROK.pureV (s := Instr.index t (a.eval x) (a.eval i)) hm ?_ k1
            simp only [Instr.index, e1, e2, asIntOf, Sem.run_bind, Sem.run_pure, run_underlying hu, Result.andThen_ok, if_pos hj, run_sizeOfP hs, k2]
        · cases hr
      · cases hc
    · cases hc
  case extract t i =>
    cases hc
    obtain ⟨v, rfl, hv⟩ := concs1 ha
    cases v <;> simp only [opI] at hr <;> try (cases hr; done)
    rename_i vs
    obtain ⟨l, hl, e1⟩ := conc_tuple hv
    cases hg : vs[i]? with
    | none => simp [hg] at hr
    | some q =>
      simp only [hg, Option.some.injEq] at hr; subst hr
      obtain ⟨cv, k1, k2⟩ := concs_get hl i q hg
      refine SROK.pureV (s := Instr.extract (a.eval t) i) hm ?_ k2
      have : l.toArray[i]? = some cv := by simpa using k1
      simp only [Instr.extract, e1, this, Sem.run_pure]
  case typeAssert x xt asserted ok =>
    split at hc
    · cases hc
    · rename_i d hne hu
      split at hc
      · rename_i z hz
        cases hc
        obtain ⟨v, rfl, hv⟩ := concs1 ha
        obtain ⟨cz, hcz, hzr⟩ := zeroOf_run (P := P) (w := w) hz e
        have fails : ∀ c : Value, (∀ (tt : TypeId) (y : Value), c = .iface tt y → tt ≠ asserted) → (c = .nilIface ∨ ∃ tt y, c = .iface tt y) → ok = true →
            (Instr.typeAssert c xt asserted ok).run P w = .ok (.tuple #[cz, .bool false]) w := by
          intro c hc1 hc2 hok
          subst hok
          rcases hc2 with rfl | ⟨tt, y, rfl⟩
          · simp only [Instr.typeAssert, Sem.run_bind, run_underlying hu, Result.andThen_ok]
            cases d <;> first
              | exact (hne _ rfl).elim
              | simp [hzr]
          · have := hc1 tt y rfl
            simp only [Instr.typeAssert, Sem.run_bind, run_underlying hu, Result.andThen_ok]
            cases d <;> first
              | exact (hne _ rfl).elim
              | simp [hzr, this]
        cases v <;> simp only [opI] at hr <;> try (cases hr; done)
        · rename_i u y
          obtain ⟨cy, hy, e1⟩ := conc_iface hv
          by_cases hut : u = asserted
          · rw [if_pos hut] at hr
            simp only [Option.some.injEq] at hr; subst hr; subst hut
            cases ok with
            | true =>
              refine SROK.pureV (s := Instr.typeAssert (a.eval x) xt u true) (cv := .tuple #[cy, .bool true]) hm ?_ (by simp [conc, concs, hy])
              rw [e1]
              simp only [Instr.typeAssert, Sem.run_bind, run_underlying hu, Result.andThen_ok]
              cases d <;> first
                | exact (hne _ rfl).elim
                | simp
            | false =>
              refine SROK.pureV (s := Instr.typeAssert (a.eval x) xt u false) (cv := cy) hm ?_ (by simpa using hy)
              rw [e1]
              simp only [Instr.typeAssert, Sem.run_bind, run_underlying hu, Result.andThen_ok]
              cases d <;> first
                | exact (hne _ rfl).elim
                | simp
          · rw [if_neg hut] at hr
            split at hr
            · rename_i hok
              simp only [Option.some.injEq] at hr; subst hr
              refine SROK.pureV (s := Instr.typeAssert (a.eval x) xt asserted ok) (cv := .tuple #[cz, .bool false]) hm ?_ (by simp [conc, concs, hcz])
              rw [e1]
              exact fails _ (fun tt yy h => by cases h; exact hut) (.inr ⟨_, _, rfl⟩) hok
            · cases hr
        · have e1 : a.eval x = .nilIface := by simp [conc] at hv; exact hv.symm
          split at hr
          · rename_i hok
            simp only [Option.some.injEq] at hr; subst hr
            refine SROK.pureV (s := Instr.typeAssert (a.eval x) xt asserted ok) (cv := .tuple #[cz, .bool false]) hm ?_ (by simp [conc, concs, hcz])
            rw [e1]
            exact fails _ (fun tt yy h => by cases h) (.inl rfl) hok
          · cases hr
      · cases hc
    · cases hc
  case makeMap t rv =>
    cases rv with
    | some x => cases hc
    | none =>
      cases hc
      have := concs0 ha; subst this
      simp only [opI, Option.some.injEq] at hr; subst hr
      obtain ⟨e', w', g1, g2, g3, g4⟩ := makeMap_ok (P := P) hm t
      exact SROK.val (s := Instr.makeMap t none) g1 g2 g3 g4
  case lookup t x ix ok =>
    split at hc
    · rename_i kt el hu
      split at hc
      · rename_i tag z ht hz
        cases hc
        obtain ⟨v, u, rfl, hv, huu⟩ := concs2 ha
        simp only [opI] at hr
        cases hl : lookupI M tag ok z v u with
        | none => simp [hl] at hr
        | some r1 =>
          simp only [hl, Option.some.injEq] at hr; subst hr
          obtain ⟨d, h1, h2⟩ := tagOf_ok ht
          obtain ⟨cv, g1, g2⟩ := lookup_ok (P := P) hm hu h1 h2 hz hl hv huu
          exact SROK.pureV (s := Instr.lookup t (a.eval x) (a.eval ix) ok) hm g1 g2
      · cases hc
    · cases hc
  case mapUpdate t m k x =>
    split at hc
    · rename_i kt el hu
      split at hc
      · rename_i tag ht
        cases hc
        obtain ⟨v, u, y, rfl, hv, huu, hy⟩ := concs3 ha
        simp only [opI] at hr
        cases hl : updateI M tag v u y with
        | none => simp [hl] at hr
        | some M' =>
          simp only [hl, Option.some.injEq] at hr; subst hr
          obtain ⟨d, h1, h2⟩ := tagOf_ok ht
          obtain ⟨w', g1, g2, g3⟩ := update_ok (P := P) hm hu h1 h2 hl hv huu hy
          exact SROK.unit (s := Instr.mapUpdate t (a.eval m) (a.eval k) (a.eval x)) g1 (XR.same g2 e) g3
      · cases hc
    · cases hc
  case insert t m k x =>
    split at hc
    · rename_i kt el hu
      split at hc
      · rename_i tag ht
        cases hc
        obtain ⟨v, u, y, rfl, hv, huu, hy⟩ := concs3 ha
        simp only [opI] at hr
        cases hl : updateI M tag v u y with
        | none => simp [hl] at hr
        | some M' =>
          simp only [hl, Option.some.injEq] at hr; subst hr
          obtain ⟨d, h1, h2⟩ := tagOf_ok ht
          obtain ⟨w', g1, g2, g3⟩ := update_ok (P := P) hm hu h1 h2 hl hv huu hy
          exact SROK.unit (s := Instr.mapUpdate t (a.eval m) (a.eval k) (a.eval x)) g1 (XR.same g2 e) g3
      · cases hc
    · cases hc
  case call c =>
    have hargs : ∀ l : List Value, c.args.toList.map a.eval = l → c.args.map a.eval = l.toArray := fun l h => Array.ext' (by simp [h])
    split at hc
    · -- delete
      rename_i hcal
      split at hc
      · rename_i t ht
        split at hc
        · rename_i kt el hu
          split at hc
          · rename_i tag htag
            cases hc
            match avs, hr with
            | [m, k], hr =>
              obtain ⟨cm, cr, g1, g2, g3⟩ := concs_cons ha
              obtain ⟨ck, _, g4, g5, rfl⟩ := concs_cons g2
              simp only [concs, Option.some.injEq] at g5; subst g5
              have hA := hargs _ g3
              simp only [opI] at hr
              cases hl : deleteI M tag m k with
              | none => simp [hl] at hr
              | some M' =>
                simp only [hl, Option.some.injEq] at hr; subst hr
                obtain ⟨d, h1, h2⟩ := tagOf_ok htag
                obtain ⟨w', k1, k2, k3⟩ := delete_ok (P := P) (ty := ty) hm ht hu h1 h2 hl g1 g4
                refine ⟨_, w', e, .tuple #[], ?_, .inl rfl, XR.same k2 e, by simp [conc, concs], k3⟩
                simp only [execOp, resolve, hcal, Sem.run_bind, Sem.run_pure, Result.andThen_ok, invoke, builtin, hA, k1]
            | [], hr => simp [opI] at hr
            | [_], hr => simp [opI] at hr
            | _ :: _ :: _ :: _, hr => simp [opI] at hr
          · cases hc
        · cases hc
      · cases hc
    · -- a function by its name
      rename_i f hcal
      split at hc
      · rename_i hb
        cases hc
        simp only [opI, Option.some.injEq] at hr; subst hr
        refine ⟨_, ha, fun _ => ?_⟩
        have h1 : a.eval (.func f) = .func (.func f) #[] #[] := rfl
        simp only [execOp, resolve, hcal, h1, Deferred.ofValue, Sem.run_bind, Sem.run_pure, Result.andThen_ok, invoke]
        rw [run_callFunc hb, hargs _ rfl]
        simp
      · cases hc
    · -- a function's value
      rename_i x hx hcal
      cases hc
      obtain ⟨v, vs, rfl, hv, hvs⟩ := concsS ha
      cases v <;> simp only [opI] at hr <;> try (cases hr; done)
      rename_i fn first captured
      cases fn <;> simp only at hr <;> try (cases hr; done)
      rename_i f
      simp only [Option.some.injEq] at hr; subst hr
      obtain ⟨ca, cb, h1, h2, hpv⟩ := conc_func hv
      refine ⟨_, concs_append (concs_append h1 hvs) h2, fun hb => ?_⟩
      simp only [execOp, resolve, hcal, hpv, Deferred.ofValue, Sem.run_bind, Sem.run_pure, Result.andThen_ok, invoke]
      rw [run_callFunc hb, hargs _ rfl]
      simp
    · -- clear
      rename_i hcal
      split at hc
      · rename_i t ht
        split at hc
        · rename_i el hu
          split at hc
          · rename_i n z hs hz
            split at hc
            · rename_i hzl
              cases hc
              match avs, hr with
              | [v], hr =>
                obtain ⟨cv, cr, g1, g2, g3⟩ := concs_cons ha
                simp only [concs, Option.some.injEq] at g2; subst g2
                have hA := hargs _ g3
                simp only [opI] at hr
                split at hr
                · rename_i l cp gr
                  simp only [Option.some.injEq] at hr; subst hr
                  have : cv = .slice none l cp := by simp [conc] at g1; exact g1.symm
                  subst this
                  refine SROK.pureR hm (cv := .tuple #[]) ?_ (by simp [conc, concs])
                  simp only [execOp, resolve, hcal, Sem.run_bind, Sem.run_pure, Result.andThen_ok, invoke, builtin, hA]
                  simp only [Builtin.clear_, ht, List.getElem?_toArray, List.getElem?_cons_zero, Sem.run_bind, run_underlying hu, Result.andThen_ok, Sem.run_pure]
                · rename_i p cp gr
                  simp only [Option.some.injEq] at hr; subst hr
                  obtain ⟨b, o⟩ := p
                  obtain ⟨xb, hxb, rfl⟩ := conc_slice g1
                  refine SROK.pureR hm (cv := .tuple #[]) ?_ (by simp [conc, concs])
                  simp only [execOp, resolve, hcal, Sem.run_bind, Sem.run_pure, Result.andThen_ok, invoke, builtin, hA]
                  simp only [Builtin.clear_, ht, List.getElem?_toArray, List.getElem?_cons_zero, Sem.run_bind, run_underlying hu, Result.andThen_ok, Sem.run_pure]
                · rename_i b o k cp gr hk0
                  obtain ⟨k, rfl⟩ : ∃ j, k = j + 1 := by
                    cases k with
                    | zero => exact (hk0 rfl).elim
                    | succ j => exact ⟨j, rfl⟩
                  cases hst : M.storeCells b o ((List.range ((k + 1) * n)).map fun i => z.cells.getD (i % n) (.tuple [])) with
                  | none => rw [hst] at hr; cases hr
                  | some M' =>
                    rw [hst] at hr
                    simp only [Option.some.injEq] at hr; subst hr
                    obtain ⟨w', k1, k2⟩ := run_clearI (P := P) (ty := ty) ht hu hz hzl hm g1 hst
                    refine ⟨_, w', e, .tuple #[], ?_, .inl rfl, XR.same (storeCells_n hst) e, by simp [conc, concs], k2⟩
                    simp only [execOp, resolve, hcal, Sem.run_bind, Sem.run_pure, Result.andThen_ok, invoke, builtin, hA, k1]
                · cases hr
              | [], hr => simp [opI] at hr
              | _ :: _ :: _, hr => simp [opI] at hr
            · cases hc
          · cases hc
        · cases hc
      · cases hc
    · -- a method of an interface value
      rename_i x name hcal
      split at hc
      · cases hc
        obtain ⟨v, vs, rfl, hv, hvs⟩ := concsS ha
        cases v <;> simp only [opI] at hr <;> try (cases hr; done)
        rename_i t y
        unfold invokeI at hr
        cases hl : ((methodsOf P name 0 P.types.toList).filter fun p => hasBody P p.2).lookup t with
        | none =>
          simp only [hl] at hr
          cases hl2 : ((viaOf P name 0 P.types.toList).filter fun p => hasBody P p.2.1).lookup t with
          | none => simp [hl2] at hr
          | some q =>
            obtain ⟨f, agg, n⟩ := q
            simp only [hl2] at hr
            cases hvia : viaI M agg n y with
            | none => simp [hvia] at hr
            | some u =>
              simp only [hvia, Option.some.injEq] at hr; subst hr
              obtain ⟨cy, hy, hpv⟩ := conc_iface hv
              have hmem := (List.mem_filter.1 (lookup_mem hl2)).1
              obtain ⟨i, m, el, d, _, _, _, _, _, hel, hue, hda, hsz⟩ := viaOf_mem name _ _ _ _ _ _ hmem
              obtain ⟨ad, cu, rfl, hload, hcu⟩ := viaI_ok (P := P) hm hue hda hsz hvia hy
              refine ⟨_, concs_mk hcu hvs, fun hb => ?_⟩
              have hex : (#[a.eval x] ++ c.args.map a.eval).extract 1 (#[a.eval x] ++ c.args.map a.eval).size = c.args.map a.eval := by
                apply Array.ext'; simp [List.take_of_length_le]
              simp only [execOp, resolve, hcal, Sem.run_bind, Sem.run_pure, Result.andThen_ok, invoke]
              have h0 : (#[a.eval x] ++ c.args.map a.eval)[0]? = some (a.eval x) := by rw [Array.getElem?_append_left (by simp)]; rfl
              rw [h0]
              simp only []
              rw [hex, hpv, run_callVia hmem hel hb hload, hargs _ rfl]
              simp
        | some f =>
          simp only [hl, Option.some.injEq] at hr; subst hr
          obtain ⟨cy, hy, hpv⟩ := conc_iface hv
          refine ⟨_, concs_mk hy hvs, fun hb => ?_⟩
          have hmem := (List.mem_filter.1 (lookup_mem hl)).1
          have hex : (#[a.eval x] ++ c.args.map a.eval).extract 1 (#[a.eval x] ++ c.args.map a.eval).size = c.args.map a.eval := by
            apply Array.ext'; simp [List.take_of_length_le]
          simp only [execOp, resolve, hcal, Sem.run_bind, Sem.run_pure, Result.andThen_ok, invoke]
          have h0 : (#[a.eval x] ++ c.args.map a.eval)[0]? = some (a.eval x) := by rw [Array.getElem?_append_left (by simp)]; rfl
          rw [h0]
          simp only []
          rw [hex, hpv, run_callMethod hmem hb, hargs _ rfl]
          simp
      · cases hc
        obtain ⟨v, vs, rfl, hv, hvs⟩ := concsS ha
        cases v <;> simp only [opI] at hr <;> try (cases hr; done)
        rename_i t y
        cases hl0 : ((promoOf P name 0 P.types.toList).filter fun p => hasBody P p.2.1).lookup t with
        | some q =>
          obtain ⟨f, off, n, agg⟩ := q
          simp only [hl0] at hr
          cases hpr : promoI off n agg y with
          | none => simp [hpr] at hr
          | some u =>
            simp only [hpr, Option.some.injEq] at hr; subst hr
            obtain ⟨cy, hy, hpv⟩ := conc_iface hv
            have hmem := (List.mem_filter.1 (lookup_mem hl0)).1
            cases y <;> simp only [promoI] at hpr <;> try (cases hpr; done)
            rename_i cs
            obtain ⟨l, hcl, rfl⟩ := conc_agg hy
            have hbf : hasBody P f = true := by simpa using (List.mem_filter.1 (lookup_mem hl0)).2
            obtain ⟨cu, hcu, hrun⟩ := run_callPromo (w := w) (args := c.args.map a.eval) hmem hbf hcl hpr
            refine ⟨_, concs_mk hcu hvs, fun hb => ?_⟩
            have hex : (#[a.eval x] ++ c.args.map a.eval).extract 1 (#[a.eval x] ++ c.args.map a.eval).size = c.args.map a.eval := by
              apply Array.ext'; simp [List.take_of_length_le]
            simp only [execOp, resolve, hcal, Sem.run_bind, Sem.run_pure, Result.andThen_ok, invoke]
            have h0 : (#[a.eval x] ++ c.args.map a.eval)[0]? = some (a.eval x) := by rw [Array.getElem?_append_left (by simp)]; rfl
            rw [h0]
            simp only []
            rw [hex, hpv, hrun, hargs _ rfl]
            simp
        | none =>
        simp only [hl0] at hr
        unfold invokeI at hr
        cases hl : ((methodsOf P name 0 P.types.toList).filter fun p => hasBody P p.2).lookup t with
        | none =>
          simp only [hl] at hr
          cases hl2 : ((viaOf P name 0 P.types.toList).filter fun p => hasBody P p.2.1).lookup t with
          | none => simp [hl2] at hr
          | some q =>
            obtain ⟨f, agg, n⟩ := q
            simp only [hl2] at hr
            cases hvia : viaI M agg n y with
            | none => simp [hvia] at hr
            | some u =>
              simp only [hvia, Option.some.injEq] at hr; subst hr
              obtain ⟨cy, hy, hpv⟩ := conc_iface hv
              have hmem := (List.mem_filter.1 (lookup_mem hl2)).1
              obtain ⟨i, m, el, d, _, _, _, _, _, hel, hue, hda, hsz⟩ := viaOf_mem name _ _ _ _ _ _ hmem
              obtain ⟨ad, cu, rfl, hload, hcu⟩ := viaI_ok (P := P) hm hue hda hsz hvia hy
              refine ⟨_, concs_mk hcu hvs, fun hb => ?_⟩
              have hex : (#[a.eval x] ++ c.args.map a.eval).extract 1 (#[a.eval x] ++ c.args.map a.eval).size = c.args.map a.eval := by
                apply Array.ext'; simp [List.take_of_length_le]
              simp only [execOp, resolve, hcal, Sem.run_bind, Sem.run_pure, Result.andThen_ok, invoke]
              have h0 : (#[a.eval x] ++ c.args.map a.eval)[0]? = some (a.eval x) := by rw [Array.getElem?_append_left (by simp)]; rfl
              rw [h0]
              simp only []
              rw [hex, hpv, run_callVia hmem hel hb hload, hargs _ rfl]
              simp
        | some f =>
          simp only [hl, Option.some.injEq] at hr; subst hr
          obtain ⟨cy, hy, hpv⟩ := conc_iface hv
          refine ⟨_, concs_mk hy hvs, fun hb => ?_⟩
          have hmem := (List.mem_filter.1 (lookup_mem hl)).1
          have hex : (#[a.eval x] ++ c.args.map a.eval).extract 1 (#[a.eval x] ++ c.args.map a.eval).size = c.args.map a.eval := by
            apply Array.ext'; simp [List.take_of_length_le]
          simp only [execOp, resolve, hcal, Sem.run_bind, Sem.run_pure, Result.andThen_ok, invoke]
          have h0 : (#[a.eval x] ++ c.args.map a.eval)[0]? = some (a.eval x) := by rw [Array.getElem?_append_left (by simp)]; rfl
          rw [h0]
          simp only []
          rw [hex, hpv, run_callMethod hmem hb, hargs _ rfl]
          simp
    · -- len
      rename_i hcal
      split at hc
      · rename_i t ht
        split at hc
        · rename_i el hu
          cases hc
          match avs, hr with
          | [v], hr =>
            obtain ⟨cv, _, h1, h2, h3⟩ := concs_cons ha
            simp only [concs, Option.some.injEq] at h2; subst h2
            have hA := hargs _ h3
            have run : ∀ cr, (Builtin.len_ c.argTypes ty #[cv]).run P w = .ok cr w → (execOp a.eval ⟨dst, .call c, ty, pos, after, guard⟩).run P w = .ok (.value cr) w := by
              intro cr hcr
              simp only [execOp, resolve, hcal, Sem.run_bind, Sem.run_pure, Result.andThen_ok, invoke, builtin, hA, hcr]
            cases v <;> simp only [opI] at hr <;> try (cases hr; done)
            · rename_i p n cc g
              simp only [Option.some.injEq] at hr; subst hr
              obtain ⟨q, c', rfl⟩ : ∃ q c', cv = .slice q n c' := by
                cases p with
                | none => simp [conc] at h1; exact ⟨_, _, h1.symm⟩
                | some p => obtain ⟨b, o⟩ := p; obtain ⟨xb, _, h⟩ := conc_slice h1; exact ⟨_, _, h⟩
              refine SROK.pureR hm (run _ ?_) rfl
              simp only [Builtin.len_, ht, List.getElem?_toArray, List.getElem?_cons_zero, Sem.run_bind, run_underlying hu, Result.andThen_ok, Sem.run_pure, goInt]
            · rename_i p n cc
              simp only [Option.some.injEq] at hr; subst hr
              have : cv = .slice p n cc := by simp [conc] at h1; exact h1.symm
              subst this
              refine SROK.pureR hm (run _ ?_) rfl
              simp only [Builtin.len_, ht, List.getElem?_toArray, List.getElem?_cons_zero, Sem.run_bind, run_underlying hu, Result.andThen_ok, Sem.run_pure, goInt]
            · rename_i i lo hi
              simp only [Option.some.injEq] at hr; subst hr
              simp only [conc] at h1
              split at h1
              · rename_i ad n cc hval
                split at h1
                · rename_i hb
                  cases h1
                  have hev : (SE.len i).eval = (n : Int) := by simp only [SE.eval, hval]
                  refine SROK.pureR (cv := .int .i64 n) hm (run _ ?_) (by simp only [conc, hev]; rw [if_pos (by omega)])
                  simp only [Builtin.len_, ht, List.getElem?_toArray, List.getElem?_cons_zero, Sem.run_bind, run_underlying hu, Result.andThen_ok, Sem.run_pure, goInt]
                · cases h1
              · cases h1
            · rename_i tb to tadv
              simp only [Option.some.injEq] at hr; subst hr
              simp only [conc] at h1
              cases hxb : e tb with
              | none => simp [hxb] at h1
              | some xb =>
                simp only [hxb, Option.some.injEq] at h1; subst h1
                refine SROK.pureR hm (run _ ?_) rfl
                simp only [Builtin.len_, ht, List.getElem?_toArray, List.getElem?_cons_zero, Sem.run_bind, run_underlying hu, Result.andThen_ok, Sem.run_pure, goInt]
                rfl
          | [], hr => simp [opI] at hr
          | _ :: _ :: _, hr => simp [opI] at hr
        · rename_i hu
          cases hc
          match avs, hr with
          | [v], hr =>
            obtain ⟨cv, _, h1, h2, h3⟩ := concs_cons ha
            simp only [concs, Option.some.injEq] at h2; subst h2
            have hA := hargs _ h3
            cases v <;> simp only [opI] at hr <;> try (cases hr; done)
            · rename_i s
              simp only [Option.some.injEq] at hr; subst hr
              have := conc_str h1; subst this
              refine SROK.pureR hm (cv := .int .i64 s.size) ?_ rfl
              simp only [execOp, resolve, hcal, Sem.run_bind, Sem.run_pure, Result.andThen_ok, invoke, builtin, hA, Builtin.len_, ht, List.getElem?_toArray, List.getElem?_cons_zero, run_underlying hu, goInt]
            · rename_i i lo hi
              simp only [Option.some.injEq] at hr; subst hr
              simp only [conc] at h1
              split at h1
              · rename_i s hval
                split at h1
                · rename_i hb
                  cases h1
                  have hev : (SE.len i).eval = (s.size : Int) := by simp only [SE.eval, hval]
                  refine SROK.pureR hm (cv := .int .i64 s.size) ?_ (by simp only [conc, hev]; rw [if_pos (by omega)])
                  simp only [execOp, resolve, hcal, Sem.run_bind, Sem.run_pure, Result.andThen_ok, invoke, builtin, hA, Builtin.len_, ht, List.getElem?_toArray, List.getElem?_cons_zero, run_underlying hu, goInt]
                · cases h1
              · cases h1
          | [], hr => simp [opI] at hr
          | _ :: _ :: _, hr => simp [opI] at hr
        · rename_i kt el hu
          cases hc
          match avs, hr with
          | [v], hr =>
            obtain ⟨cv, _, h1, h2, h3⟩ := concs_cons ha
            simp only [concs, Option.some.injEq] at h2; subst h2
            have hA := hargs _ h3
            simp only [opI] at hr
            cases hl : lenI M v with
            | none => simp [hl] at hr
            | some r1 =>
              simp only [hl, Option.some.injEq] at hr; subst hr
              obtain ⟨cr, g1, g2⟩ := len_ok (P := P) (ty := ty) hm ht hu hl h1
              refine SROK.pureR hm (cv := cr) ?_ g2
              simp only [execOp, resolve, hcal, Sem.run_bind, Sem.run_pure, Result.andThen_ok, invoke, builtin, hA, g1]
          | [], hr => simp [opI] at hr
          | _ :: _ :: _, hr => simp [opI] at hr
        · cases hc
      · cases hc
    · -- max
      rename_i hcal
      cases hc
      match avs, hr with
      | [v, u], hr =>
        cases v <;> cases u <;> simp only [opI] at hr <;> try (cases hr; done)
        rename_i k1 n1 k2 n2
        simp only [Option.some.injEq] at hr; subst hr
        have hA := hargs _ rfl
        have hl : c.args.toList.map a.eval = [.int k1 n1, .int k2 n2] := by
          have := ha
          simp [concs, conc] at this
          exact this.symm
        rw [hl] at hA
        refine SROK.pureR hm (cv := .int k1 (if n2 > n1 then n2 else n1)) ?_ (by simp [conc])
        simp only [execOp, resolve, hcal, Sem.run_bind, Sem.run_pure, Result.andThen_ok, invoke, builtin, hA]
        rfl
      | [], hr => simp [opI] at hr
      | [_], hr => simp [opI] at hr
      | _ :: _ :: _ :: _, hr => simp [opI] at hr
    · -- min
      rename_i hcal
      cases hc
      match avs, hr with
      | [v, u], hr =>
        cases v <;> cases u <;> simp only [opI] at hr <;> try (cases hr; done)
        rename_i k1 n1 k2 n2
        simp only [Option.some.injEq] at hr; subst hr
        have hA := hargs _ rfl
        have hl : c.args.toList.map a.eval = [.int k1 n1, .int k2 n2] := by
          have := ha
          simp [concs, conc] at this
          exact this.symm
        rw [hl] at hA
        refine SROK.pureR hm (cv := .int k1 (if n2 < n1 then n2 else n1)) ?_ (by simp [conc])
        simp only [execOp, resolve, hcal, Sem.run_bind, Sem.run_pure, Result.andThen_ok, invoke, builtin, hA]
        rfl
      | [], hr => simp [opI] at hr
      | [_], hr => simp [opI] at hr
      | _ :: _ :: _ :: _, hr => simp [opI] at hr
    · -- append
      rename_i hcal
      split at hc
      · rename_i st xt h1 h2
        split at hc
        · rename_i el el' hu hx
          split at hc
          · rename_i n b z hs hb hz
            by_cases hzl : z.cells.length = n
            · rw [if_pos hzl] at hc
              cases hc
              match avs, hr with
              | [s, x], hr =>
                simp only [opI] at hr
                obtain ⟨cs, cr, g1, g2, g3⟩ := concs_cons ha
                obtain ⟨cx, _, g4, g5, rfl⟩ := concs_cons g2
                simp only [concs, Option.some.injEq] at g5; subst g5
                have hA := hargs _ g3
                cases hsc : M.sliceCells n x with
                | none => simp [hsc] at hr
                | some p =>
                  obtain ⟨m, new⟩ := p
                  simp only [hsc] at hr
                  cases hap : M.append n b s m new with
                  | none => simp [hap] at hr
                  | some q =>
                    obtain ⟨v, M'⟩ := q
                    simp only [hap, Option.some.injEq] at hr; subst hr
                    obtain ⟨e', w', cv, k1, k2, k3, k4⟩ := run_appendI (P := P) (st := st) (xt := xt) (ty := ty) hu hx hs hb hz hzl hm g1 g4 hsc hap
                    refine ⟨.value cv, w', e', cv, ?_, .inl rfl, k2, k3, k4⟩
                    have hT : Builtin.append_ c.argTypes ty #[cs, cx] = Builtin.append_ #[st, xt] ty #[cs, cx] := by
                      simp only [Builtin.append_, h1, h2, List.getElem?_toArray, List.getElem?_cons_zero, List.getElem?_cons_succ]
                    simp only [execOp, resolve, hcal, Sem.run_bind, Sem.run_pure, Result.andThen_ok, invoke, builtin, hA, hT, k1]
              | [], hr => simp [opI] at hr
              | [_], hr => simp [opI] at hr
              | _ :: _ :: _ :: _, hr => simp [opI] at hr
            · rw [if_neg hzl] at hc; cases hc
          · cases hc
        · cases hc
      · cases hc
    · -- copy
      rename_i hcal
      split at hc
      · rename_i st xt h1 h2
        split at hc
        · rename_i el el' hu hx
          split at hc
          · rename_i n hs
            cases hc
            match avs, hr with
            | [d, x], hr =>
              obtain ⟨cd, cr, g1, g2, g3⟩ := concs_cons ha
              obtain ⟨cx, _, g4, g5, rfl⟩ := concs_cons g2
              simp only [concs, Option.some.injEq] at g5; subst g5
              have hA := hargs _ g3
              have hT : Builtin.copy_ c.argTypes ty #[cd, cx] = Builtin.copy_ #[st, xt] ty #[cd, cx] := by
                simp only [Builtin.copy_, h1, List.getElem?_toArray, List.getElem?_cons_zero, List.getElem?_cons_succ]
              simp only [opI] at hr
              split at hr
              · rename_i cc gg p hsc
                obtain ⟨m, new⟩ := p
                simp only [Option.some.injEq] at hr; subst hr
                have : cd = .slice none 0 cc := by simp [conc] at g1; exact g1.symm
                subst this
                obtain ⟨hlen, news, hnews, hnl, hfirst, hcut⟩ := sliceCells_ok (P := P) hm g4 hsc
                have hf0 : (Builtin.firstCells n 0 cx).run P w = .ok #[] w := by
                  have := hcut 0 (Nat.zero_le _); simpa using this
                refine SROK.pureR hm (cv := .int .i64 0) ?_ rfl
                have hmin : Nat.min m 0 = 0 := Nat.min_zero _
                simp only [execOp, resolve, hcal, Sem.run_bind, Sem.run_pure, Result.andThen_ok, invoke, builtin, hA, hT]
                simp only [Builtin.copy_, List.getElem?_toArray, List.getElem?_cons_zero, List.getElem?_cons_succ, Sem.run_bind, run_underlying hu, Result.andThen_ok, hlen, run_sizeOfP hs, hmin, hf0, Sem.run_pure, goInt]
                rfl
              · rename_i b o nn cc gg m new hsc
                cases hst : M.storeCells b o (new.take (Nat.min m nn * n)) with
                | none => simp [hst] at hr
                | some M' =>
                  simp only [hst, Option.some.injEq] at hr; subst hr
                  obtain ⟨w', k1, k2⟩ := run_copyI (P := P) (dt := st) (xt := xt) (ty := ty) hu hs hm g1 g4 hsc hst
                  refine ⟨_, w', e, _, ?_, .inl rfl, XR.same (storeCells_n hst) e, rfl, k2⟩
                  simp only [execOp, resolve, hcal, Sem.run_bind, Sem.run_pure, Result.andThen_ok, invoke, builtin, hA, hT, k1]
              · cases hr
            | [], hr => simp [opI] at hr
            | [_], hr => simp [opI] at hr
            | _ :: _ :: _ :: _, hr => simp [opI] at hr
          · cases hc
        · cases hc
      · cases hc
    · cases hc
end
end Go.Vx
