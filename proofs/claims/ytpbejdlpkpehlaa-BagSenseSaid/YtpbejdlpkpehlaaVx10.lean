/- The code of our small machine does what the model's code does: one instruction, a region in order. -/
import Derived.Test.YtpbejdlpkpehlaaVx8
import Derived.Test.YtpbejdlpkpehlaaVx9
namespace Go.Vx

/-- A call that our machine brings to its end, the model's brings to the same. -/
def CallSound [Val] (P : Program) (call : FuncId → List AV → AMem → Option (AV × AMem)) : Prop :=
  ∀ (f : FuncId) (args : List AV) (M : AMem) (r : AV) (M' : AMem), call f args M = some (r, M') →
    ∀ (B : Nat → Prop) (w0 : World) (e : Env) (w : World) (cargs : List Value), concs e args = some cargs → MR B w0 e M w →
      hasBody P f = true ∧ Calls P f cargs.toArray w fun en w' => ∃ e' v, XR M M' e e' ∧ en = .returned v ∧ conc e' r = some v ∧ MR B w0 e' M' w'

/-- Our temporaries stand for the model's. -/
structure TM [Val] (e : Env) (t : Tr AV) (tmps : Array Value) : Prop where
  get : ∀ (i : Nat) (v : AV), t.get i = some v → ∃ u, tmps[i]? = some u ∧ conc e v = some u
  out : ∀ i : Nat, t.get i = none → tmps[i]? = none

theorem TM.ext [Val] {e e' : Env} {t : Tr AV} {tmps : Array Value} (h : TM e t tmps) (he : Ext e e') : TM e' t tmps :=
  ⟨fun i v hv => let ⟨u, h1, h2⟩ := h.get i v hv; ⟨u, h1, he.conc h2⟩, h.out⟩
theorem putT_get [Val] (t : Tr AV) (dst : Option Nat) (v : AV) (m : Nat) : (putT t dst v).get m = if dst = some m ∧ (t.get m).isSome = true then some v else t.get m := by
  unfold putT
  cases dst with
  | none => simp
  | some d =>
    simp only
    by_cases hd : (t.get d).isSome = true
    · rw [Tr.get_set t d v m hd]
      by_cases hm : m = d
      · subst hm; simp [hd]
      · have : ¬ (some d = some m ∧ (t.get m).isSome = true) := by intro h; exact hm (by have := h.1; simp at this; exact this.symm)
        rw [if_neg hm, if_neg this]
    · have hn : t.get d = none := by cases hg : t.get d <;> simp_all
      rw [Tr.set_none t d v hn]
      by_cases hm : m = d
      · subst hm; simp [hn]
      · have : ¬ (some d = some m ∧ (t.get m).isSome = true) := by intro h; exact hm (by have := h.1; simp at this; exact this.symm)
        rw [if_neg this]
theorem put_get (a : Act) (dst : Option Nat) (v : Value) (m : Nat) : (a.put dst v).tmps[m]? = if dst = some m ∧ (a.tmps[m]?).isSome = true then some v else a.tmps[m]? := by
  cases dst with
  | none => simp [Act.put]
  | some d =>
    simp only [Act.put]
    rw [Array.getElem?_setIfInBounds]
    by_cases hm : d = m
    · subst hm
      by_cases hs : d < a.tmps.size
      · simp [hs]
      · simp [hs]
    · have : ¬ (some d = some m ∧ (a.tmps[m]?).isSome = true) := by intro h; exact hm (by have := h.1; simpa using this)
      rw [if_neg hm, if_neg this]
theorem TM.put [Val] {e : Env} {t : Tr AV} {a : Act} (h : TM e t a.tmps) (dst : Option Nat) {v : AV} {cv : Value} (hv : conc e v = some cv) : TM e (putT t dst v) (a.put dst cv).tmps := by
  refine ⟨fun i u hu => ?_, fun i hi => ?_⟩
  · rw [putT_get] at hu
    rw [put_get]
    by_cases hc : dst = some i ∧ (t.get i).isSome = true
    · rw [if_pos hc] at hu; cases hu
      obtain ⟨hd, hs⟩ := hc
      obtain ⟨u0, hu0⟩ := Option.isSome_iff_exists.1 hs
      obtain ⟨c, h1, _⟩ := h.get i u0 hu0
      exact ⟨cv, by rw [if_pos ⟨hd, by simp [h1]⟩], hv⟩
    · rw [if_neg hc] at hu
      obtain ⟨c, h1, h2⟩ := h.get i u hu
      refine ⟨c, ?_, h2⟩
      rw [if_neg (fun hh => hc ⟨hh.1, by simp [hu]⟩)]; exact h1
  · rw [putT_get] at hi
    rw [put_get]
    have hn : t.get i = none := by
      split at hi
      · cases hi
      · exact hi
    have := h.out i hn
    rw [if_neg (by simp [this])]; exact this

section
variable {P : Program} {e : Env} {t : Tr AV} {a : Act}

theorem compArg_ok [Val] {x : Operand} {p : PArg} (hp : compArg x = some p) (h : TM e t a.tmps) {v : AV} (hv : p.eval t = some v) : conc e v = some (a.eval x) := by
  cases x with
  | tmp i =>
    simp [compArg] at hp; subst hp
    obtain ⟨u, h1, h2⟩ := h.get i v hv
    rw [h2]
    simp [Act.eval, h1]
  | const c =>
    simp only [compArg] at hp
    cases hc : ofV c with
    | none => simp [hc] at hp
    | some q =>
      simp [hc] at hp; subst hp
      simp [PArg.eval] at hv; subst hv
      exact ofV_conc e hc
  | global g =>
    simp [compArg] at hp; subst hp
    simp [PArg.eval] at hv; subst hv
    simp [conc, Act.eval]
  | func f =>
    simp [compArg] at hp; subst hp
    simp [PArg.eval] at hv; subst hv
    simp [conc, concs, Act.eval]
theorem compArgs_ok [Val] : ∀ {xs : List Operand} {ps : List PArg} {avs : List AV}, mapO compArg xs = some ps → TM e t a.tmps → evalArgs t ps = some avs → concs e avs = some (xs.map a.eval)
  | [], ps, avs, hp, h, hv => by simp [mapO] at hp; subst hp; simp [evalArgs] at hv; subst hv; rfl
  | x :: xs, ps, avs, hp, h, hv => by
    simp only [mapO] at hp
    cases h1 : compArg x with
    | none => simp [h1] at hp
    | some p =>
      cases h2 : mapO compArg xs with
      | none => simp [h1, h2] at hp
      | some qs =>
        simp [h1, h2] at hp; subst hp
        simp only [evalArgs] at hv
        cases h3 : p.eval t with
        | none => simp [h3] at hv
        | some v =>
          cases h4 : evalArgs t qs with
          | none => simp [h3, h4] at hv
          | some vs =>
            simp [h3, h4] at hv; subst hv
            exact concs_mk (compArg_ok h1 h h3) (compArgs_ok h2 h h4)

theorem compInstr_parts {ops : Array Oper} {o : Oper} {p : PInstr} (h : compInstr P ops o = some p) :
    ∃ xs, compOp P o = some (p.op, xs) ∧ mapO compArg xs = some p.args ∧ p.dst = o.dst ∧
      (match o.guard with
       | none => p.guard = none
       | some (j, want) => ∃ t, (ops[j]?).bind (·.dst) = some t ∧ p.guard = some (t, want)) := by
  unfold compInstr at h
  cases h1 : compOp P o with
  | none => simp [h1] at h
  | some q =>
    obtain ⟨pi, xs⟩ := q
    simp only [h1] at h
    cases h2 : mapO compArg xs with
    | none => simp [h2] at h
    | some args =>
      simp only [h2] at h
      cases h3 : o.guard with
      | none => simp [h3] at h; subst h; exact ⟨xs, rfl, h2, rfl, rfl⟩
      | some g =>
        obtain ⟨j, want⟩ := g
        simp only [h3] at h
        cases h4 : (ops[j]?).bind (·.dst) with
        | none => simp [h4] at h
        | some m => simp [h4] at h; subst h; exact ⟨xs, rfl, h2, rfl, m, h4, rfl⟩

theorem wanted_ok [Val] {ops : Array Oper} {o : Oper} {p : PInstr} (h : compInstr P ops o = some p) (hT : TM e t a.tmps) : Region.wanted o (yielded ops a.tmps) = wantedA p t := by
  obtain ⟨xs, _, _, _, hg⟩ := compInstr_parts h
  unfold Region.wanted wantedA
  cases h3 : o.guard with
  | none => simp only [h3] at hg; simp [hg]
  | some g =>
    obtain ⟨j, want⟩ := g
    simp only [h3] at hg
    obtain ⟨m, hm, hpg⟩ := hg
    simp only [hpg]
    unfold yielded
    simp only [hm, Option.bind_some]
    cases hv : t.get m with
    | none => simp [hT.out m hv]
    | some v =>
      obtain ⟨u, h1, h2⟩ := hT.get m v hv
      rw [h1]
      cases v with
      | bool b => have := conc_bool h2; subst this; simp
      | ptr x => cases x with
        | none => simp [conc] at h2; subst h2; simp
        | some x => obtain ⟨b, o⟩ := x; obtain ⟨_, _, rfl⟩ := conc_ptr h2; simp
      | slice x l c g => cases x with
        | none => simp [conc] at h2; subst h2; simp
        | some x => obtain ⟨b, o⟩ := x; obtain ⟨_, _, rfl⟩ := conc_slice h2; simp
      | map x => cases x with
        | none => simp [conc] at h2; subst h2; simp
        | some x =>
          simp only [conc] at h2
          cases hx : e x with
          | none => simp [hx] at h2
          | some z => simp [hx] at h2; subst h2; simp
      | func fn f c => obtain ⟨_, _, _, _, rfl⟩ := conc_func h2; simp
      | iface t x => obtain ⟨_, _, rfl⟩ := conc_iface h2; simp
      | agg cs => obtain ⟨_, _, rfl⟩ := conc_agg h2; simp
      | tuple cs => obtain ⟨_, _, rfl⟩ := conc_tuple h2; simp
      | oint k n lo hi => simp [conc] at h2; obtain ⟨_, rfl⟩ := h2; simp
      | oslice i lo hi =>
        simp only [conc] at h2
        split at h2
        · split at h2
          · cases h2; simp
          · cases h2
        · cases h2
      | ostr i lo hi =>
        simp only [conc] at h2
        split at h2
        · split at h2
          · cases h2; simp
          · cases h2
        · cases h2
      | oval i =>
        simp only [conc] at h2
        split at h2
        · rename_i ho
          simp only [Option.some.injEq] at h2
          rw [h2] at ho
          cases u <;> simp [opq] at ho ⊢
        · cases h2
      | tail b o adv =>
        simp only [conc] at h2
        cases hx : e b with
        | none => simp [hx] at h2
        | some z => simp [hx] at h2; subst h2; simp
      | _ => simp [conc] at h2; subst h2; simp
end

section
variable {P : Program} {B : Nat → Prop} {w0 : World} {e : Env} {M : AMem} {w : World} {t : Tr AV} {a : Act} {ops : Array Oper} {Q : Exit → Act → World → Prop} {call : FuncId → List AV → AMem → Option (AV × AMem)}

/-- One instruction that is wanted. -/
theorem wpOp_ok [Val] (hcall : CallSound P call) {i : Nat} {o : Oper} {p : PInstr} {avs : List AV} {v : AV} {M' : AMem} (ho : ops[i]? = some o) (hp : compInstr P ops o = some p) (hT : TM e t a.tmps) (hm : MR B w0 e M w)
    (hw : wantedA p t = true) (hev : evalArgs t p.args = some avs) (hv : val1 call p.op avs M = some (v, M')) {K : Act → World → Prop}
    (hK : ∀ e' cv w', XR M M' e e' → conc e' v = some cv → MR B w0 e' M' w' → K (a.put p.dst cv) w') : wpOp P ops Q i K a w := by
  obtain ⟨xs, hop, hargs, hdst, _⟩ := compInstr_parts hp
  have hca := compArgs_ok hargs hT hev
  unfold wpOp
  simp only [ho]
  rw [wanted_ok hp hT, hw]
  simp only [if_true]
  refine .inl ?_
  unfold val1 at hv
  cases hr : opI p.op avs M with
  | none => simp [hr] at hv
  | some r =>
    have hs := opI_sound (w := w) (B := B) (w0 := w0) (a := a) hop hca hm hr
    cases r with
    | val v1 M1 =>
      simp only [hr, Option.some.injEq, Prod.mk.injEq] at hv
      obtain ⟨rfl, rfl⟩ := hv
      obtain ⟨nx, w', e', cv, h1, h2, h3, h4, h5⟩ := hs
      unfold Oper.wp
      rw [h1]
      rcases h2 with rfl | ⟨rfl, rfl⟩
      · simp only [Oper.upon]; rw [← hdst]; exact hK e' cv w' h3 h4 h5
      · simp only [Oper.upon]; rw [← hdst]; exact hK e' undef w' h3 h4 h5
    | call f args =>
      simp only [hr] at hv
      obtain ⟨cargs, hcc, hs⟩ := hs
      obtain ⟨hb, hcs⟩ := hcall f args M v M' hv B w0 e w cargs hcc hm
      have h1 := hs hb
      unfold Oper.wp
      rw [h1]
      simp only [Oper.upon]
      refine hcs.mono ?_
      rintro en w' ⟨e', cv, g1, rfl, g3, g4⟩
      simp only
      rw [← hdst]; exact hK e' cv w' g1 g3 g4
theorem wpOp_skip [Val] {i : Nat} {o : Oper} {p : PInstr} (ho : ops[i]? = some o) (hp : compInstr P ops o = some p) (hT : TM e t a.tmps) (hw : wantedA p t = false) {K : Act → World → Prop}
    (hK : K (a.put p.dst undef) w) : wpOp P ops Q i K a w := by
  obtain ⟨xs, _, _, hdst, _⟩ := compInstr_parts hp
  unfold wpOp
  simp only [ho]
  rw [wanted_ok hp hT, hw]
  simp only [Bool.false_eq_true, if_false]
  rw [← hdst]; exact hK
end
end Go.Vx
