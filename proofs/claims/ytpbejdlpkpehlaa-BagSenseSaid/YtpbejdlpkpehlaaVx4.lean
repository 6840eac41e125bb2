/- Each instruction of our small machine does what the model's operation does. -/
import Derived.Test.YtpbejdlpkpehlaaVx3
import Derived.WalkKit
import Derived.Laws.Append
import Derived.Laws.StructEq
import Derived.Laws.Slices
namespace Go.Vx
open Go.RowKit (Below)

section
variable {P : Program} {B : Nat → Prop} {w0 : World} {e : Env} {M : AMem} {w : World}

def SROK [Val] (P : Program) (B : Nat → Prop) (w0 : World) (e : Env) (M : AMem) (w : World) (r : SR) (run : Result Next) : Prop :=
  match r with
  | .val v M' => ∃ nx w' e' cv, run = .ok nx w' ∧ (nx = .value cv ∨ (nx = .skip ∧ cv = undef)) ∧ XR M M' e e' ∧ conc e' v = some cv ∧ MR B w0 e' M' w'
  | .call f args => ∃ cargs, concs e args = some cargs ∧ (hasBody P f = true → run = .ok (.enter f cargs.toArray) w)

theorem SROK.pureR [Val] {v : AV} {cv : Value} {run : Result Next} (hm : MR B w0 e M w) (hr : run = .ok (.value cv) w) (hv : conc e v = some cv) : SROK P B w0 e M w (.val v M) run :=
  ⟨_, w, e, cv, hr, .inl rfl, XR.refl M e, hv, hm⟩

theorem concs0 [Val] {avs : List AV} (h : concs e avs = some []) : avs = [] := by
  cases avs with
  | nil => rfl
  | cons v vs => obtain ⟨a, b, _, _, h3⟩ := concs_cons h; cases h3
theorem concsS [Val] {avs : List AV} {a : Value} {as : List Value} (h : concs e avs = some (a :: as)) : ∃ v vs, avs = v :: vs ∧ conc e v = some a ∧ concs e vs = some as := by
  cases avs with
  | nil => simp [concs] at h
  | cons v vs => obtain ⟨x, y, h1, h2, h3⟩ := concs_cons h; cases h3; exact ⟨v, vs, rfl, h1, h2⟩
theorem concs1 [Val] {avs : List AV} {a : Value} (h : concs e avs = some [a]) : ∃ v, avs = [v] ∧ conc e v = some a := by
  obtain ⟨v, vs, rfl, h1, h2⟩ := concsS h; rw [concs0 h2]; exact ⟨v, rfl, h1⟩
theorem concs2 [Val] {avs : List AV} {a b : Value} (h : concs e avs = some [a, b]) : ∃ v u, avs = [v, u] ∧ conc e v = some a ∧ conc e u = some b := by
  obtain ⟨v, vs, rfl, h1, h2⟩ := concsS h; obtain ⟨u, rfl, h3⟩ := concs1 h2; exact ⟨v, u, rfl, h1, h3⟩
theorem concs3 [Val] {avs : List AV} {a b c : Value} (h : concs e avs = some [a, b, c]) : ∃ v u t, avs = [v, u, t] ∧ conc e v = some a ∧ conc e u = some b ∧ conc e t = some c := by
  obtain ⟨v, vs, rfl, h1, h2⟩ := concsS h; obtain ⟨u, t, rfl, h3, h4⟩ := concs2 h2; exact ⟨v, u, t, rfl, h1, h3, h4⟩

theorem conc_int [Val] {v : Value} {k : IntKind} {n : Int} (h : conc e (.int k n) = some v) : v = .int k n := by simp [conc] at h; exact h.symm
theorem conc_bool [Val] {v : Value} {b : Bool} (h : conc e (.bool b) = some v) : v = .bool b := by simp [conc] at h; exact h.symm
theorem conc_str [Val] {v : Value} {b : ByteArray} (h : conc e (.str b) = some v) : v = .string b := by simp [conc] at h; exact h.symm
theorem conc_ptr [Val] {v : Value} {b o : Nat} (h : conc e (.ptr (some (b, o))) = some v) : ∃ x, e b = some x ∧ v = .pointer (some ⟨x.blk, x.o + o, none⟩) := by
  simp only [conc] at h
  cases hx : e b with
  | none => simp [hx] at h
  | some x => simp [hx] at h; exact ⟨x, rfl, h.symm⟩
theorem conc_ptr_mk [Val] {b o : Nat} {x : EB} (h : e b = some x) : conc e (.ptr (some (b, o))) = some (.pointer (some ⟨x.blk, x.o + o, none⟩)) := by simp [conc, h]
theorem conc_slice [Val] {v : Value} {b o l c : Nat} {g : Bool} (h : conc e (.slice (some (b, o)) l c g) = some v) : ∃ x, e b = some x ∧ v = .slice (some ⟨x.blk, x.o + o, none⟩) l (c + if g then x.d else 0) := by
  simp only [conc] at h
  cases hx : e b with
  | none => simp [hx] at h
  | some x => rw [hx] at h; simp only [Option.some.injEq] at h; exact ⟨x, rfl, h.symm⟩
theorem conc_slice_mk [Val] {b o l c : Nat} {g : Bool} {x : EB} (h : e b = some x) : conc e (.slice (some (b, o)) l c g) = some (.slice (some ⟨x.blk, x.o + o, none⟩) l (c + if g then x.d else 0)) := by simp [conc, h]
theorem conc_agg [Val] {v : Value} {cs : List AV} (h : conc e (.agg cs) = some v) : ∃ l, concs e cs = some l ∧ v = .agg l.toArray := by
  simp only [conc] at h
  cases hx : concs e cs with
  | none => simp [hx] at h
  | some x => simp [hx] at h; exact ⟨x, rfl, h.symm⟩
theorem conc_tuple [Val] {v : Value} {cs : List AV} (h : conc e (.tuple cs) = some v) : ∃ l, concs e cs = some l ∧ v = .tuple l.toArray := by
  simp only [conc] at h
  cases hx : concs e cs with
  | none => simp [hx] at h
  | some x => simp [hx] at h; exact ⟨x, rfl, h.symm⟩
theorem conc_iface [Val] {v : Value} {t : TypeId} {x : AV} (h : conc e (.iface t x) = some v) : ∃ a, conc e x = some a ∧ v = .iface t a := by
  simp only [conc] at h
  cases hx : conc e x with
  | none => simp [hx] at h
  | some y => simp [hx] at h; exact ⟨y, rfl, h.symm⟩
theorem conc_func [Val] {v : Value} {fn : Fn} {f c : List AV} (h : conc e (.func fn f c) = some v) : ∃ a b, concs e f = some a ∧ concs e c = some b ∧ v = .func fn a.toArray b.toArray := by
  simp only [conc] at h
  cases h1 : concs e f with
  | none => simp [h1] at h
  | some a =>
    cases h2 : concs e c with
    | none => simp [h1, h2] at h
    | some b => simp [h1, h2] at h; exact ⟨a, b, rfl, rfl, h.symm⟩
theorem addr_add (b o n : Nat) : Addr.add ⟨b, o, none⟩ n = ⟨b, o + n, none⟩ := by
  unfold Addr.add; split
  · rename_i h; subst h; rfl
  · rfl

/-! Arithmetic. -/
theorem run_intI [Val] {op : BinOp} {t : TypeId} {k : IntKind} {a b : Int} {v : AV} (h : intI op k a b = some v) :
    ∃ cv, conc e v = some cv ∧ (binOp op t (.int k a) (.int k b)).run P w = .ok cv w := by
  cases op <;> simp only [intI] at h
  case quo =>
    by_cases hb : b = 0
    · simp [hb] at h
    · simp only [hb, if_false, Option.some.injEq] at h; subst h
      exact ⟨_, rfl, by simp [binOp, Op.intDiv, hb, wrapF_eq]⟩
  case rem =>
    by_cases hb : b = 0
    · simp [hb] at h
    · simp only [hb, if_false, Option.some.injEq] at h; subst h
      exact ⟨_, rfl, by simp [binOp, Op.intDiv, hb]⟩
  case shl => cases h
  case shr => cases h
  all_goals (simp only [Option.some.injEq] at h; subst h; exact ⟨_, rfl, by simp [binOp, Op.intArith, Op.intBits, Op.intCmp, wrapF_eq]⟩)
theorem wrapF_id {k : IntKind} {n : Int} (h1 : minK k ≤ n) (h2 : n ≤ maxK k) : wrapF k n = n := by
  cases k <;> simp only [minK, maxK, wrapF] at * <;> first | omega | (split <;> omega)
theorem viewI_ok [Val] {v : AV} {c : Value} {k : IntKind} {n : SE} {lo hi : Int} (h : viewI v = some (k, n, lo, hi)) (hc : conc e v = some c) : c = .int k n.eval ∧ lo ≤ n.eval ∧ n.eval ≤ hi := by
  cases v <;> simp only [viewI] at h <;> try (cases h; done)
  · simp only [Option.some.injEq, Prod.mk.injEq] at h
    obtain ⟨rfl, rfl, rfl, rfl⟩ := h
    exact ⟨conc_int hc, Int.le_refl _, Int.le_refl _⟩
  · simp only [Option.some.injEq, Prod.mk.injEq] at h
    obtain ⟨rfl, rfl, rfl, rfl⟩ := h
    simp only [conc] at hc
    split at hc
    · rename_i hb; cases hc; exact ⟨rfl, hb⟩
    · cases hc
theorem okO_ok [Val] {k : IntKind} {n : SE} {lo hi : Int} {v : AV} (h : okO k n lo hi = some v) (h1 : lo ≤ n.eval) (h2 : n.eval ≤ hi) : conc e v = conc e (.int k (wrapF k n.eval)) := by
  unfold okO at h
  split at h
  · rename_i hb
    cases h
    rw [wrapF_id (by omega) (by omega)]
    simp [conc, h1, h2]
  · cases h
theorem cmpO_ok {yes no b : Bool} {v : AV} (h : cmpO yes no = some v) (h1 : yes = true → b = true) (h2 : no = true → b = false) : v = .bool b := by
  unfold cmpO at h
  split at h
  · rename_i hy; cases h; rw [h1 hy]
  · split at h
    · rename_i hn; cases h; rw [h2 hn]
    · cases h
theorem binO_ok [Val] {op : BinOp} {k : IntKind} {a b : SE} {la ha lb hb : Int} {v : AV} (h : binO op k a la ha b lb hb = some v) (h1 : la ≤ a.eval) (h2 : a.eval ≤ ha) (h3 : lb ≤ b.eval) (h4 : b.eval ≤ hb) :
    ∃ v', intI op k a.eval b.eval = some v' ∧ conc e v = conc e v' ∧ op ≠ .shl ∧ op ≠ .shr := by
  cases op <;> simp only [binO] at h <;> try (cases h; done)
  case add => exact ⟨_, rfl, okO_ok h (by simp only [SE.eval]; omega) (by simp only [SE.eval]; omega), by simp, by simp⟩
  case sub => exact ⟨_, rfl, okO_ok h (by simp only [SE.eval]; omega) (by simp only [SE.eval]; omega), by simp, by simp⟩
  case mul =>
    split at h
    · rename_i hp
      refine ⟨_, rfl, okO_ok h ?_ ?_, by simp, by simp⟩
      · simp only [SE.eval]; exact Int.mul_le_mul h1 h3 hp.2 (by omega)
      · simp only [SE.eval]; exact Int.mul_le_mul h2 h4 (by omega) (by omega)
    · cases h
  case lss => exact ⟨_, rfl, by rw [cmpO_ok (b := decide (a.eval < b.eval)) h (by simp; omega) (by simp; omega)], by simp, by simp⟩
  case leq => exact ⟨_, rfl, by rw [cmpO_ok (b := decide (a.eval ≤ b.eval)) h (by simp; omega) (by simp; omega)], by simp, by simp⟩
  case gtr => exact ⟨_, rfl, by rw [cmpO_ok (b := decide (a.eval > b.eval)) h (by simp; omega) (by simp; omega)], by simp, by simp⟩
  case geq => exact ⟨_, rfl, by rw [cmpO_ok (b := decide (a.eval ≥ b.eval)) h (by simp; omega) (by simp; omega)], by simp, by simp⟩
  case eql => exact ⟨_, rfl, by rw [cmpO_ok (b := a.eval == b.eval) h (by simp; omega) (by simp; omega)], by simp, by simp⟩
  case neq => exact ⟨_, rfl, by rw [cmpO_ok (b := a.eval != b.eval) h (by simp; omega) (by simp; omega)], by simp, by simp⟩
theorem run_binII [Val] {op : BinOp} {t : TypeId} {k k' : IntKind} {n m : Int} {x y : Operand} {v : AV} (h : binI op (.int k n) (.int k' m) = some v) :
    ∃ cv, conc e v = some cv ∧ (do eqGuard op t x y (.int k n) (.int k' m); binOp op t (.int k n) (.int k' m) : Sem Value).run P w = .ok cv w := by
    simp only [binI] at h
    have hg : eqGuard op t x y (.int k n) (.int k' m) = pure () := by cases op <;> rfl
    rw [hg]
    simp only [Sem.run_bind, Sem.run_pure, Result.andThen_ok]
    have other : (if k = k' then intI op k n m else none) = some v → op ≠ .shl → op ≠ .shr → ∃ cv, conc e v = some cv ∧ (binOp op t (.int k n) (.int k' m)).run P w = .ok cv w := by
      intro h _ _
      by_cases hk : k = k'
      · subst hk; rw [if_pos rfl] at h; exact run_intI h
      · rw [if_neg hk] at h; cases h
    cases op
    case shl =>
      simp only at h
      by_cases hm : m < 0
      · simp [hm] at h
      · simp only [hm, if_false, Option.some.injEq] at h; subst h
        exact ⟨_, rfl, by simp [binOp, Op.shift, hm, wrapF_eq]⟩
    case shr =>
      simp only at h
      by_cases hm : m < 0
      · simp [hm] at h
      · simp only [hm, if_false, Option.some.injEq] at h; subst h
        exact ⟨_, rfl, by simp [binOp, Op.shift, hm]⟩
    all_goals exact other h (by simp) (by simp)
theorem run_binI [Val] {op : BinOp} {t : TypeId} {a b : AV} {ca cb : Value} {x y : Operand} {v : AV} (h : binI op a b = some v) (ha : conc e a = some ca) (hb : conc e b = some cb) :
    ∃ cv, conc e v = some cv ∧ (do eqGuard op t x y ca cb; binOp op t ca cb : Sem Value).run P w = .ok cv w := by
  have other : (match viewI a, viewI b with
      | some (k, n, lo, hi), some (k', m, lo', hi') => if k = k' then binO op k n lo hi m lo' hi' else none
      | _, _ => none) = some v → ∃ cv, conc e v = some cv ∧ (do eqGuard op t x y ca cb; binOp op t ca cb : Sem Value).run P w = .ok cv w := by
    intro h
    cases h1 : viewI a with
    | none => simp [h1] at h
    | some p =>
      cases h2 : viewI b with
      | none => simp [h1, h2] at h
      | some q =>
        obtain ⟨k, n, lo, hi⟩ := p
        obtain ⟨k', m, lo', hi'⟩ := q
        simp only [h1, h2] at h
        split at h
        · rename_i hk
          subst hk
          obtain ⟨rfl, g1, g2⟩ := viewI_ok h1 ha
          obtain ⟨rfl, g3, g4⟩ := viewI_ok h2 hb
          obtain ⟨v', g5, g6, g7, g8⟩ := binO_ok (e := e) h g1 g2 g3 g4
          obtain ⟨cv, g9, g10⟩ := run_binII (P := P) (w := w) (e := e) (t := t) (op := op) (k := k) (k' := k) (n := n.eval) (m := m.eval) (x := x) (y := y) (v := v') (by
            simp only [binI]
            cases op <;> first | exact absurd rfl g7 | exact absurd rfl g8 | simpa using g5)
          exact ⟨cv, by rw [g6]; exact g9, g10⟩
        · cases h
  cases a <;> cases b <;> try (exact other h)
  case int.int k n k' m => rw [conc_int ha, conc_int hb]; exact run_binII h
  case str.str s u =>
    simp only [binI] at h
    rw [conc_str ha, conc_str hb]
    have hg : eqGuard op t x y (.string s) (.string u) = pure () := by cases op <;> rfl
    rw [hg]
    simp only [Sem.run_bind, Sem.run_pure, Result.andThen_ok]
    cases op <;> simp only at h <;> try (cases h; done)
    case add =>
      split at h
      · cases h
      · rename_i hn
        simp only [Option.some.injEq] at h; subst h
        exact ⟨_, rfl, by simp only [binOp, Op.stringOp]; rw [if_neg hn]; rfl⟩
    all_goals (simp only [Option.some.injEq] at h; subst h; exact ⟨_, rfl, by simp [binOp, Op.stringOp]⟩)

theorem run_eq_of {op : BinOp} {t : TypeId} {a b : Value} {x y : Operand} {r : Bool} (hg : ∀ op, eqGuard op t x y a b = pure ()) (hop : op = .eql ∨ op = .neq)
    (h1 : binOp .eql t a b = (do pure (.bool (← Op.equal t a b)))) (h2 : binOp .neq t a b = (do pure (.bool (!(← Op.equal t a b)))))
    (he : ∀ d, (Op.equalIn (d + 1) t a b).run P w = .ok r w) :
    (do eqGuard op t x y a b; binOp op t a b : Sem Value).run P w = .ok (.bool (xorB (match op with | .neq => true | _ => false) r)) w := by
  have he' : (Op.equal t a b).run P w = .ok r w := he 9999
  rw [hg]
  simp only [Sem.run_bind, Sem.run_pure, Result.andThen_ok]
  rcases hop with rfl | rfl
  · rw [h1]; simp only [Sem.run_bind, he', Result.andThen_ok, Sem.run_pure]; rfl
  · rw [h2]; simp only [Sem.run_bind, he', Result.andThen_ok, Sem.run_pure]; rfl
theorem run_eqBool [Val] {op : BinOp} {t : TypeId} {a b : Bool} {x y : Operand} (hu : P.underlying t = some .bool) (hop : op = .eql ∨ op = .neq) :
    (do eqGuard op t x y (.bool a) (.bool b); binOp op t (.bool a) (.bool b) : Sem Value).run P w = .ok (.bool (xorB (match op with | .neq => true | _ => false) (a == b))) w :=
  run_eq_of (fun op => by cases op <;> rfl) hop (by simp only [binOp]) (by simp only [binOp]) (fun d => run_equalIn_bool w d t a b hu)

theorem eqGuard_pointer {op : BinOp} {t : TypeId} {x y : Operand} {a : Option Addr} {b : Value} : eqGuard op t x y (.pointer a) b = pure () := by cases op <;> rfl
theorem run_eqPtr [Val] {op : BinOp} {t el : TypeId} {n : Nat} {a b : AV} {ca cb : Value} {x y : Operand} {r : Bool} (hu : P.underlying t = some (.pointer el)) (hn : sizeOfP P el = some (n + 1))
    (hop : op = .eql ∨ op = .neq) (h : eqPtrI a b = some r) (ha : conc e a = some ca) (hb : conc e b = some cb) :
    (do eqGuard op t x y ca cb; binOp op t ca cb : Sem Value).run P w = .ok (.bool (xorB (match op with | .neq => true | _ => false) r)) w := by
  have hsz : (sizeOf el).run P w = .ok (n + 1) w := by
    unfold sizeOfP at hn
    cases hi : P.info? el with
    | none => simp [hi] at hn
    | some i => simp [hi] at hn; simp [sizeOf, typeInfo, hi, hn]
  have key : ∀ (pa pb : Option Addr), (∀ d, (Op.equalIn (d + 1) t (.pointer pa) (.pointer pb)).run P w = .ok r w) →
      (do eqGuard op t x y (.pointer pa) (.pointer pb); binOp op t (.pointer pa) (.pointer pb) : Sem Value).run P w = .ok (.bool (xorB (match op with | .neq => true | _ => false) r)) w :=
    fun pa pb hd => run_eq_of (fun op => eqGuard_pointer) hop (by simp only [binOp]) (by simp only [binOp]) hd
  cases a <;> cases b <;> simp only [eqPtrI] at h <;> try (cases h; done)
  rename_i pa pb
  cases pa with
  | none =>
    have : ca = .pointer none := by simp [conc] at ha; exact ha.symm
    subst this
    cases pb with
    | none =>
      have : cb = .pointer none := by simp [conc] at hb; exact hb.symm
      subst this; simp at h; subst h
      exact key _ _ fun d => by simp [Op.equalIn, run_underlying hu]
    | some pb =>
      obtain ⟨b, o⟩ := pb
      obtain ⟨xb, _, rfl⟩ := conc_ptr hb
      simp at h; subst h
      exact key _ _ fun d => by simp [Op.equalIn, run_underlying hu]
  | some pa =>
    obtain ⟨b1, o1⟩ := pa
    obtain ⟨xa, hxa, rfl⟩ := conc_ptr ha
    cases pb with
    | none =>
      have : cb = .pointer none := by simp [conc] at hb; exact hb.symm
      subst this; simp at h; subst h
      exact key _ _ fun d => by simp [Op.equalIn, run_underlying hu]
    | some pb =>
      obtain ⟨b2, o2⟩ := pb
      obtain ⟨xb, hxb, rfl⟩ := conc_ptr hb
      simp only at h
      by_cases hbb : b1 = b2
      · subst hbb
        rw [hxa] at hxb; cases hxb
        simp only [if_true, Option.some.injEq] at h; subst h
        refine key _ _ fun d => ?_
        have : (⟨xa.blk, xa.o + o1, none⟩ == (⟨xa.blk, xa.o + o2, none⟩ : Addr)) = (o1 == o2) := by
          rw [Bool.eq_iff_iff]; simp
        simp [Op.equalIn, run_underlying hu, hsz, sameAddr, this]
      · simp [hbb] at h

theorem eqIn_nil_slice {t el : TypeId} (hu : P.underlying t = some (.slice el)) (l c l' c' : Nat) (b : Option Addr) (d : Nat) : (Op.equalIn (d + 1) t (.slice none l c) (.slice b l' c')).run P w = .ok b.isNone w := by
  simp [Op.equalIn, run_underlying hu]
theorem eqIn_slice_nil {t el : TypeId} (hu : P.underlying t = some (.slice el)) (l c l' c' : Nat) (b : Addr) (d : Nat) : (Op.equalIn (d + 1) t (.slice (some b) l c) (.slice none l' c')).run P w = .ok false w := by
  simp [Op.equalIn, run_underlying hu]
theorem eqIn_nil_map {t k el : TypeId} (hu : P.underlying t = some (.map k el)) (b : Option Nat) (d : Nat) : (Op.equalIn (d + 1) t (.map none) (.map b)).run P w = .ok b.isNone w := by
  simp [Op.equalIn, run_underlying hu]
theorem eqIn_map_nil {t k el : TypeId} (hu : P.underlying t = some (.map k el)) (b : Nat) (d : Nat) : (Op.equalIn (d + 1) t (.map (some b)) (.map none)).run P w = .ok false w := by
  simp [Op.equalIn, run_underlying hu]
theorem eqIn_nil_func {t : TypeId} {p q : Array TypeId} {v : Bool} (hu : P.underlying t = some (.func p q v)) (d : Nat) : (Op.equalIn (d + 1) t .nilFunc .nilFunc).run P w = .ok true w := by
  simp [Op.equalIn, run_underlying hu]
theorem eqIn_func_nil {t : TypeId} {p q : Array TypeId} {v : Bool} (hu : P.underlying t = some (.func p q v)) (f : Fn) (a c : Array Value) (d : Nat) : (Op.equalIn (d + 1) t (.func f a c) .nilFunc).run P w = .ok false w := by
  simp [Op.equalIn, run_underlying hu]
theorem eqIn_nilFunc_func {t : TypeId} {p q : Array TypeId} {v : Bool} (hu : P.underlying t = some (.func p q v)) (f : Fn) (a c : Array Value) (d : Nat) : (Op.equalIn (d + 1) t .nilFunc (.func f a c)).run P w = .ok false w := by
  simp [Op.equalIn, run_underlying hu]
theorem run_eqSlice [Val] {op : BinOp} {t el : TypeId} {a b : AV} {ca cb : Value} {x y : Operand} {r : Bool} (hu : P.underlying t = some (.slice el))
    (hop : op = .eql ∨ op = .neq) (h : eqNilI 0 a b = some r) (ha : conc e a = some ca) (hb : conc e b = some cb) :
    (do eqGuard op t x y ca cb; binOp op t ca cb : Sem Value).run P w = .ok (.bool (xorB (match op with | .neq => true | _ => false) r)) w := by
  have key : ∀ (pa : Option Addr) (l c : Nat) (v : Value), (∀ d, (Op.equalIn (d + 1) t (.slice pa l c) v).run P w = .ok r w) →
      (do eqGuard op t x y (.slice pa l c) v; binOp op t (.slice pa l c) v : Sem Value).run P w = .ok (.bool (xorB (match op with | .neq => true | _ => false) r)) w :=
    fun pa l c v hd => run_eq_of (fun op => by cases op <;> rfl) hop (by simp only [binOp]) (by simp only [binOp]) hd
  cases a with
  | slice pa la qa ga =>
    cases b with
    | slice pb lb qb gb =>
      cases pa with
      | none =>
        have : ca = .slice none la qa := by simp [conc] at ha; exact ha.symm
        subst this
        cases pb with
        | none =>
          have : cb = .slice none lb qb := by simp [conc] at hb; exact hb.symm
          subst this; simp [eqNilI] at h; subst h
          exact key _ _ _ _ (eqIn_nil_slice hu _ _ _ _ _)
        | some pb =>
          obtain ⟨b, o⟩ := pb
          obtain ⟨xb, _, rfl⟩ := conc_slice hb
          simp [eqNilI] at h; subst h
          exact key _ _ _ _ (eqIn_nil_slice hu _ _ _ _ _)
      | some pa =>
        obtain ⟨b, o⟩ := pa
        obtain ⟨xa, _, rfl⟩ := conc_slice ha
        cases pb with
        | none =>
          have : cb = .slice none lb qb := by simp [conc] at hb; exact hb.symm
          subst this; simp [eqNilI] at h; subst h
          exact key _ _ _ _ (eqIn_slice_nil hu _ _ _ _ _)
        | some pb => simp [eqNilI] at h
    | _ => cases pa <;> simp [eqNilI] at h
  | rslice pa la qa =>
    have : ca = .slice pa la qa := by simp [conc] at ha; exact ha.symm
    subst this
    cases b with
    | slice pb lb qb gb =>
      cases pb with
      | some pb => cases pa <;> simp [eqNilI] at h
      | none =>
        have : cb = .slice none lb qb := by simp [conc] at hb; exact hb.symm
        subst this
        cases pa with
        | none => simp [eqNilI] at h; subst h; exact key _ _ _ _ (eqIn_nil_slice hu _ _ _ _ _)
        | some pa => simp [eqNilI] at h; subst h; exact key _ _ _ _ (eqIn_slice_nil hu _ _ _ _ _)
    | _ => cases pa <;> simp [eqNilI] at h
  | tail tb to tadv =>
    simp only [conc] at ha
    cases hx : e tb with
    | none => simp [hx] at ha
    | some xt =>
      simp only [hx, Option.some.injEq] at ha; subst ha
      cases b with
      | slice pb lb qb gb =>
        cases pb with
        | some pb => simp [eqNilI] at h
        | none =>
          have : cb = .slice none lb qb := by simp [conc] at hb; exact hb.symm
          subst this
          simp [eqNilI] at h; subst h; exact key _ _ _ _ (eqIn_slice_nil hu _ _ _ _ _)
      | _ => simp [eqNilI] at h
  | _ => simp [eqNilI] at h
theorem run_eqMap [Val] {op : BinOp} {t k el : TypeId} {a b : AV} {ca cb : Value} {x y : Operand} {r : Bool} (hu : P.underlying t = some (.map k el))
    (hop : op = .eql ∨ op = .neq) (h : eqNilI 1 a b = some r) (ha : conc e a = some ca) (hb : conc e b = some cb) :
    (do eqGuard op t x y ca cb; binOp op t ca cb : Sem Value).run P w = .ok (.bool (xorB (match op with | .neq => true | _ => false) r)) w := by
  have key : ∀ (pa : Option Nat) (v : Value), (∀ d, (Op.equalIn (d + 1) t (.map pa) v).run P w = .ok r w) →
      (do eqGuard op t x y (.map pa) v; binOp op t (.map pa) v : Sem Value).run P w = .ok (.bool (xorB (match op with | .neq => true | _ => false) r)) w :=
    fun pa v hd => run_eq_of (fun op => by cases op <;> rfl) hop (by simp only [binOp]) (by simp only [binOp]) hd
  have cm : ∀ {p : Nat} {c : Value}, conc e (.map (some p)) = some c → ∃ r, c = .map (some r) := by
    intro p c hc
    simp only [conc] at hc
    cases hx : e p with
    | none => simp [hx] at hc
    | some z => simp [hx] at hc; exact ⟨_, hc.symm⟩
  cases a with
  | map pa =>
    cases b with
    | map pb =>
      cases pa with
      | none =>
        have : ca = .map none := by simp [conc] at ha; exact ha.symm
        subst this
        cases pb with
        | none =>
          have : cb = .map none := by simp [conc] at hb; exact hb.symm
          subst this; simp [eqNilI] at h; subst h
          exact key _ _ (eqIn_nil_map hu _)
        | some pb =>
          obtain ⟨cb', rfl⟩ := cm hb
          simp [eqNilI] at h; subst h
          exact key _ _ (eqIn_nil_map hu _)
      | some pa =>
        obtain ⟨ca', rfl⟩ := cm ha
        cases pb with
        | none =>
          have : cb = .map none := by simp [conc] at hb; exact hb.symm
          subst this; simp [eqNilI] at h; subst h
          exact key _ _ (eqIn_map_nil hu _)
        | some pb => simp [eqNilI] at h
    | _ => cases pa <;> simp [eqNilI] at h
  | _ => simp [eqNilI] at h
theorem run_eqFunc [Val] {op : BinOp} {t : TypeId} {p q : Array TypeId} {vv : Bool} {a b : AV} {ca cb : Value} {x y : Operand} {r : Bool} (hu : P.underlying t = some (.func p q vv))
    (hop : op = .eql ∨ op = .neq) (h : eqNilI 2 a b = some r) (ha : conc e a = some ca) (hb : conc e b = some cb) :
    (do eqGuard op t x y ca cb; binOp op t ca cb : Sem Value).run P w = .ok (.bool (xorB (match op with | .neq => true | _ => false) r)) w := by
  cases a with
  | func fn f c =>
    obtain ⟨ca1, ca2, _, _, rfl⟩ := conc_func ha
    cases b with
    | nilFunc =>
      have : cb = .nilFunc := by simp [conc] at hb; exact hb.symm
      subst this; simp [eqNilI] at h; subst h
      exact run_eq_of (fun op => by cases op <;> rfl) hop (by simp only [binOp]) (by simp only [binOp]) (eqIn_func_nil hu _ _ _)
    | _ => simp [eqNilI] at h
  | nilFunc =>
    have : ca = .nilFunc := by simp [conc] at ha; exact ha.symm
    subst this
    cases b with
    | func fn f c =>
      obtain ⟨ca1, ca2, _, _, rfl⟩ := conc_func hb
      simp [eqNilI] at h; subst h
      exact run_eq_of (fun op => by cases op <;> rfl) hop (by simp only [binOp]) (by simp only [binOp]) (eqIn_nilFunc_func hu _ _ _)
    | nilFunc =>
      have : cb = .nilFunc := by simp [conc] at hb; exact hb.symm
      subst this; simp [eqNilI] at h; subst h
      exact run_eq_of (fun op => by cases op <;> rfl) hop (by simp only [binOp]) (by simp only [binOp]) (eqIn_nil_func hu)
    | _ => simp [eqNilI] at h
  | _ => simp [eqNilI] at h

theorem eqIn_nil_iface {t : TypeId} {ms : Array (String × TypeId)} (hu : P.underlying t = some (.interface ms)) (d : Nat) : (Op.equalIn (d + 1) t .nilIface .nilIface).run P w = .ok true w := by
  simp [Op.equalIn, run_underlying hu]
theorem eqIn_iface_nil {t : TypeId} {ms : Array (String × TypeId)} (hu : P.underlying t = some (.interface ms)) (u : TypeId) (v : Value) (d : Nat) : (Op.equalIn (d + 1) t (.iface u v) .nilIface).run P w = .ok false w := by
  simp [Op.equalIn, run_underlying hu]
theorem eqIn_nilIface_iface {t : TypeId} {ms : Array (String × TypeId)} (hu : P.underlying t = some (.interface ms)) (u : TypeId) (v : Value) (d : Nat) : (Op.equalIn (d + 1) t .nilIface (.iface u v)).run P w = .ok false w := by
  simp [Op.equalIn, run_underlying hu]
theorem isNilC_eq {x : Operand} (h : isNilC x = true) : x = .const .nilIface := by
  cases x with
  | const v => cases v <;> simp [isNilC] at h; rfl
  | _ => simp [isNilC] at h
theorem run_eqIface [Val] {op : BinOp} {t : TypeId} {ms : Array (String × TypeId)} {a b : AV} {ca cb : Value} {x y : Operand} {r : Bool} (hu : P.underlying t = some (.interface ms)) (hxy : (isNilC x || isNilC y) = true)
    (hop : op = .eql ∨ op = .neq) (h : eqNilI 3 a b = some r) (ha : conc e a = some ca) (hb : conc e b = some cb) :
    (do eqGuard op t x y ca cb; binOp op t ca cb : Sem Value).run P w = .ok (.bool (xorB (match op with | .neq => true | _ => false) r)) w := by
  cases a with
  | iface u v =>
    obtain ⟨cv, _, rfl⟩ := conc_iface ha
    cases b with
    | nilIface =>
      have : cb = .nilIface := by simp [conc] at hb; exact hb.symm
      subst this; simp [eqNilI] at h; subst h
      exact run_eq_of (fun op => by cases op <;> rfl) hop (by simp only [binOp]) (by simp only [binOp]) (eqIn_iface_nil hu _ _)
    | _ => simp [eqNilI] at h
  | nilIface =>
    have : ca = .nilIface := by simp [conc] at ha; exact ha.symm
    subst this
    cases b with
    | iface u v =>
      obtain ⟨cv, _, rfl⟩ := conc_iface hb
      simp [eqNilI] at h; subst h
      exact run_eq_of (fun op => by cases op <;> rfl) hop (by simp only [binOp]) (by simp only [binOp]) (eqIn_nilIface_iface hu _ _)
    | nilIface =>
      have : cb = .nilIface := by simp [conc] at hb; exact hb.symm
      subst this; simp [eqNilI] at h; subst h
      refine run_eq_of (fun op => ?_) hop (by simp only [binOp]) (by simp only [binOp]) (eqIn_nil_iface hu)
      rw [Bool.or_eq_true] at hxy
      rcases hxy with hx | hy
      · have := isNilC_eq hx; subst this
        cases op <;> rfl
      · have := isNilC_eq hy; subst this
        cases op <;> cases x <;> rfl
    | _ => simp [eqNilI] at h
  | _ => simp [eqNilI] at h

/-! Parts. -/
theorem run_sizeOfP {t : TypeId} {n : Nat} (h : sizeOfP P t = some n) : (sizeOf t).run P w = .ok n w := by
  unfold sizeOfP at h
  cases hi : P.info? t with
  | none => simp [hi] at h
  | some i => simp [hi] at h; simp [sizeOf, typeInfo, hi, h]
theorem run_isAggD {t : TypeId} {d : TypeDesc} (h : P.underlying t = some d) : (isAgg t).run P w = .ok (isAggD d) w := by
  unfold isAgg
  simp only [Sem.run_bind, run_underlying h, Result.andThen_ok]
  cases d <;> rfl
theorem run_part [Val] {t : TypeId} {d : TypeDesc} {n off : Nat} {cs : List AV} {vs : List Value} {v : AV} (hu : P.underlying t = some d) (hs : sizeOfP P t = some n)
    (hc : concs e cs = some vs) (h : partA (isAggD d) cs off n = some v) : ∃ cv, conc e v = some cv ∧ (part t vs.toArray off).run P w = .ok cv w := by
  unfold partA at h
  unfold part
  simp only [Sem.run_bind, run_isAggD hu, Result.andThen_ok]
  cases hd : isAggD d with
  | true =>
    simp only [hd, if_true] at h ⊢
    split at h
    · rename_i hle
      simp only [Option.some.injEq] at h; subst h
      have hl := concs_length hc
      refine ⟨.agg ((vs.drop off).take n).toArray, by simp [conc, concs_take n (concs_drop off hc)], ?_⟩
      simp only [Sem.run_bind, run_sizeOfP hs, Result.andThen_ok, Sem.run_pure]
      have : vs.toArray.extract off (off + n) = ((vs.drop off).take n).toArray := by
        simp [List.extract_toArray]
      rw [this]
    · cases h
  | false =>
    simp only [hd, Bool.false_eq_true, if_false] at h ⊢
    obtain ⟨cv, h1, h2⟩ := concs_get hc off v h
    refine ⟨cv, h2, ?_⟩
    have : vs.toArray[off]? = some cv := by simpa using h1
    rw [this]; rfl

theorem setAll_list (off : Nat) : ∀ (new : List Value) (k : Nat) (cells : Array Value), off + k + new.length ≤ cells.size →
    ((new.zipIdx k).foldl (fun cs (p : Value × Nat) => cs.setIfInBounds (off + p.2) p.1) cells).toList = cells.toList.take (off + k) ++ new ++ cells.toList.drop (off + k + new.length)
  | [], k, cells, h => by simp
  | v :: new, k, cells, h => by
    simp only [List.length_cons] at h
    simp only [List.zipIdx_cons, List.foldl_cons]
    rw [setAll_list off new (k + 1) _ (by simp; omega)]
    have hk : off + k < cells.toList.length := by simp; omega
    simp only [Array.toList_setIfInBounds, List.length_cons]
    have e1 : (cells.toList.set (off + k) v).take (off + (k + 1)) = cells.toList.take (off + k) ++ [v] := by
      rw [← Nat.add_assoc, List.take_succ_eq_append_getElem (by simpa using hk), List.take_set, List.set_eq_of_length_le (by simp; omega)]
      simp
    have e2 : (cells.toList.set (off + k) v).drop (off + (k + 1) + new.length) = cells.toList.drop (off + k + (new.length + 1)) := by
      rw [List.drop_set, if_pos (by omega)]
      congr 1; omega
    rw [e1, e2]; simp
theorem fill_step [Val] (cells : Array Value) (off : Nat) (new : List Value) (h : off + new.length ≤ cells.size) :
    (new.toArray.zipIdx.foldl (fun cs (p : Value × Nat) => cs.setIfInBounds (off + p.2) p.1) cells).toList = cells.toList.take off ++ new ++ cells.toList.drop (off + new.length) := by
  have := setAll_list off new 0 cells (by omega)
  simp only [Nat.add_zero] at this
  rw [← this]
  congr 1
  rw [← Array.foldl_toList]
  simp
/-- laying parts: as the model does it -/
theorem run_fillA [Val] (place : Nat → Option (Nat × Nat)) : ∀ (is : List Nat) (pl : List (Nat × Nat)) (avs : List AV) (cvs : List Value) (cs out : List AV) (vs : List Value),
    is.map place = pl.map some → concs e avs = some cvs → concs e cs = some vs → fillA cs pl avs = some out →
    is.length = cvs.length → ∃ ovs : List Value, concs e out = some ovs ∧ Instr.fill place vs.toArray (is.zip cvs) = some ovs.toArray
  | [], [], avs, cvs, cs, out, vs, _, ha, hc, hf, _ => by
    cases avs with
    | nil => simp [fillA] at hf; subst hf; exact ⟨vs, hc, by simp [Instr.fill]⟩
    | cons v r => simp [fillA] at hf
  | i :: is, (off, sz) :: pl, avs, cvs, cs, out, vs, hp, ha, hc, hf, hl => by
    cases avs with
    | nil => simp [fillA] at hf
    | cons v r =>
      obtain ⟨a, as, h1, h2, rfl⟩ := concs_cons ha
      simp only [fillA] at hf
      by_cases hk : v.cells.length = sz ∧ off + sz ≤ cs.length
      · rw [if_pos hk] at hf
        simp only [List.map_cons, List.cons.injEq] at hp
        have hcells := conc_cells h1
        have hlen := concs_length hcells
        have hcl := concs_length hc
        have hsz : a.cells.size = sz := by rw [← hk.1, ← hlen]; simp
        have hnew : concs e (splice cs off v.cells) = some (vs.take off ++ a.cells.toList ++ vs.drop (off + v.cells.length)) := by
          unfold splice; exact concs_append (concs_append (concs_take off hc) hcells) (concs_drop _ hc)
        simp only [List.length_cons, Nat.succ.injEq] at hl
        obtain ⟨ovs, ho, hrun⟩ := run_fillA place is pl r as _ out _ hp.2 h2 hnew hf hl
        refine ⟨ovs, ho, ?_⟩
        simp only [List.zip_cons_cons, Instr.fill, hp.1]
        have hno : ¬ (a.cells.size ≠ sz || off + a.cells.size > vs.toArray.size) = true := by simp [hsz, hcl, hk.2]
        rw [if_neg hno]
        have hst := fill_step vs.toArray off a.cells.toList (by simp [hsz, hcl]; exact hk.2)
        have : (a.cells.zipIdx.foldl (fun cs (p : Value × Nat) => cs.setIfInBounds (off + p.2) p.1) vs.toArray) = (vs.take off ++ a.cells.toList ++ vs.drop (off + v.cells.length)).toArray := by
          apply Array.ext'
          have e1 : a.cells.toList.toArray = a.cells := by simp
          rw [e1] at hst
          rw [hst]
          simp [hk.1, hsz]
        have this' : (a.cells.zipIdx.foldl (fun cs x => match x with | (c, j) => cs.setIfInBounds (off + j) c) vs.toArray) = (vs.take off ++ a.cells.toList ++ vs.drop (off + v.cells.length)).toArray := this
        rw [this']
        exact hrun
      · rw [if_neg hk] at hf; cases hf
  | [], _ :: _, _, _, _, _, _, hp, _, _, _, _ => by simp at hp
  | _ :: _, [], _, _, _, _, _, hp, _, _, _, _ => by simp at hp

theorem part_scalar [Val] {t : TypeId} {d : TypeDesc} {xs : Array Value} {o : Nat} {v : Value} (hu : P.underlying t = some d) (hd : isAggD d = false) (hx : xs[o]? = some v) : (part t xs o).run P w = .ok v w := by
  simp only [part, Sem.run_bind, run_isAggD hu, hd, Result.andThen_ok, Bool.false_eq_true, if_false, hx, Sem.run_pure]
theorem eqParts_run [Val] {xs ys : List AV} {cx cy : List Value} (hx : concs e xs = some cx) (hy : concs e ys = some cy) (d : Nat) : ∀ {fs : List Field} {l : List (Nat × Nat)} {r : Bool}, eqFieldsC P fs = some l → eqParts l xs ys = some r →
    (Op.eqFields (d + 1) cx.toArray cy.toArray fs).run P w = .ok r w
  | [], l, r, hl, h => by
    simp [eqFieldsC] at hl; subst hl
    simp [eqParts] at h; subst h
    simp [Op.eqFields]
  | f :: fs, l, r, hl, h => by
    simp only [eqFieldsC] at hl
    split at hl
    · rename_i hn
      have key : ∀ (tag : Nat) (l' : List (Nat × Nat)) (ds : TypeDesc), eqFieldsC P fs = some l' → eqParts ((f.offset, tag) :: l') xs ys = some r → P.underlying f.type = some ds → isAggD ds = false →
          (∀ (x y : AV) (ca cb : Value) (q : Bool), eqScalar tag x y = some q → conc e x = some ca → conc e y = some cb → (Op.equalIn (d + 1) f.type ca cb).run P w = .ok q w) →
          (Op.eqFields (d + 1) cx.toArray cy.toArray (f :: fs)).run P w = .ok r w := by
        intro tag l' ds hl' h hu hag hs
        simp only [eqParts] at h
        cases h1 : xs[f.offset]? with
        | none => simp [h1] at h
        | some x =>
          cases h2 : ys[f.offset]? with
          | none => simp [h1, h2] at h
          | some y =>
            simp only [h1, h2] at h
            obtain ⟨u, k1, k2⟩ := concs_get hx _ _ h1
            obtain ⟨v, k3, k4⟩ := concs_get hy _ _ h2
            cases h3 : eqScalar tag x y with
            | none => simp [h3] at h
            | some q =>
              simp only [h3] at h
              have hq := hs x y u v q h3 k2 k4
              have hpx := part_scalar (w := w) hu hag (show cx.toArray[f.offset]? = some u by simpa using k1)
              have hpy := part_scalar (w := w) hu hag (show cy.toArray[f.offset]? = some v by simpa using k3)
              simp only [Op.eqFields, if_pos hn, Sem.run_bind, hpx, hpy, hq, Result.andThen_ok]
              cases q with
              | true => simp only at h; simp only [Bool.not_true, Bool.false_eq_true, if_false]; exact eqParts_run hx hy d hl' h
              | false => simp only [Option.some.injEq] at h; subst h; simp only [Bool.not_false, if_true, Sem.run_pure]
      split at hl
      · rename_i hu hl'
        cases hl
        refine key 0 _ _ hl' h hu rfl fun x y ca cb q hq hca hcb => ?_
        cases x <;> cases y <;> simp only [eqScalar] at hq <;> try (cases hq; done)
        split at hq
        · rename_i hk
          cases hq; subst hk
          rw [conc_int hca, conc_int hcb]
          exact run_equalIn_int w d _ _ _ _ _ hu
        · cases hq
      · rename_i hu hl'
        cases hl
        refine key 1 _ _ hl' h hu rfl fun x y ca cb q hq hca hcb => ?_
        cases x <;> cases y <;> simp only [eqScalar] at hq <;> try (cases hq; done)
        cases hq
        rw [conc_bool hca, conc_bool hcb]
        exact run_equalIn_bool' w d _ _ _ hu
      · rename_i hu hl'
        cases hl
        refine key 2 _ _ hl' h hu rfl fun x y ca cb q hq hca hcb => ?_
        cases x <;> cases y <;> simp only [eqScalar] at hq <;> try (cases hq; done)
        cases hq
        rw [conc_str hca, conc_str hcb]
        exact run_equalIn_string w d _ _ _ hu
      · cases hl
    · cases hl
theorem run_eqStruct [Val] {op : BinOp} {t : TypeId} {fs : Array Field} {l : List (Nat × Nat)} {xs ys : List AV} {cx cy : List Value} {x y : Operand} {r : Bool} (hu : P.underlying t = some (.struct fs))
    (hh : (P.stoodInHeld t || P.eqGuardType P.depth t) = false) (hl : eqFieldsC P fs.toList = some l) (hop : op = .eql ∨ op = .neq) (h : eqParts l xs ys = some r) (hx : concs e xs = some cx) (hy : concs e ys = some cy) :
    (do eqGuard op t x y (.agg cx.toArray) (.agg cy.toArray); binOp op t (.agg cx.toArray) (.agg cy.toArray) : Sem Value).run P w = .ok (.bool (xorB (match op with | .neq => true | _ => false) r)) w := by
  simp only [Bool.or_eq_false_iff] at hh
  have hf : P.fieldsOf t = fs := by simp [Program.fieldsOf, hu]
  have he := run_equalIn_struct w 9999 t cx.toArray cy.toArray (by rw [hf]; exact hu) hh.1
  rw [hf, eqParts_run hx hy 9998 hl h] at he
  rw [Sem.run_bind, run_eqGuard_agg w op t x y _ _ hh.2]
  simp only [Result.andThen_ok]
  rcases hop with rfl | rfl
  · rw [run_eql_struct, he]; rfl
  · rw [run_neq_struct, he]; rfl
end
end Go.Vx
