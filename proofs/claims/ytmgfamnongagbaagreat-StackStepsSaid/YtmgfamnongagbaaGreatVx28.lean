/- Regions of open order with guards: what their trace comes to. -/
import Derived.Test.YtmgfamnongagbaaGreatVx27
namespace Go.Vx
section
variable {call : FuncId → List AV → AMem → Option (AV × AMem)} {n0 : Nat} {op : PI} {args : List PArg} {dst : Option Nat} {fl : Bool} {lo hi : Nat} {ds : List DInstr} {t : Tr AV} {M : AMem} {m : Nat} {want b : Bool}
theorem trace_gread (h : t.get m = some (.bool b)) :
    trace call n0 (⟨⟨op, args, dst, some (m, want)⟩, false, fl, lo, hi⟩ :: ds) t M = match b == want with
      | true => match evalArgs t args with
        | some avs => match opI op avs M with
          | some (.val v M') => match sameN M'.n M.n with
            | true => addR ⟨⟨⟨op, args, dst, some (m, want)⟩, false, fl, lo, hi⟩, some avs, v⟩ (trace call n0 ds (putT t dst v) M)
            | false => none
          | _ => none
        | none => none
      | false => addR ⟨⟨⟨op, args, dst, some (m, want)⟩, false, fl, lo, hi⟩, none, undefA⟩ (trace call n0 ds (putT t dst undefA) M) := by
  cases hb : (b == want) with
  | true =>
    simp only [trace, wantedA, h, hb, if_true, sameN, Bool.false_eq_true, if_false]
    cases evalArgs t args with
    | none => rfl
    | some avs =>
      simp only
      rcases opI op avs M with _ | ⟨v, M'⟩ | ⟨f, us⟩
      · rfl
      · simp only
        by_cases h : M'.n = M.n
        · rw [if_pos h, show (M'.n == M.n) = true by simpa using h]
          cases trace call n0 ds (putT t dst v) M <;> rfl
        · rw [if_neg h, show (M'.n == M.n) = false by simpa using h]
      · rfl
  | false =>
    simp only [trace, wantedA, h, hb, Bool.false_eq_true, if_false]
    cases trace call n0 ds (putT t dst undefA) M <;> rfl
theorem trace_geff (h : t.get m = some (.bool b)) :
    trace call n0 (⟨⟨op, args, dst, some (m, want)⟩, true, false, lo, hi⟩ :: ds) t M = match b == want with
      | true => match evalArgs t args with
        | some avs => match val1 call op avs M with
          | some (v, M') => match isHeld (M.get n0) && !isHeld (M'.get n0) with
            | true => none
            | false => addE ⟨⟨⟨op, args, dst, some (m, want)⟩, true, false, lo, hi⟩, some avs, v⟩ M (trace call n0 ds (putT t dst v) M')
          | none => none
        | none => none
      | false => addE ⟨⟨⟨op, args, dst, some (m, want)⟩, true, false, lo, hi⟩, none, undefA⟩ M (trace call n0 ds (putT t dst undefA) M) := by
  cases hb : (b == want) with
  | true =>
    simp only [trace, wantedA, h, hb, if_true, step1, Bool.false_eq_true, if_false]
    cases evalArgs t args with
    | none => rfl
    | some avs =>
      simp only
      rcases val1 call op avs M with _ | ⟨v, M'⟩
      · rfl
      · simp only
        cases isHeld (M.get n0) && !isHeld (M'.get n0) with
        | true => rfl
        | false =>
          simp only [Bool.false_eq_true, if_false]
          cases trace call n0 ds (putT t dst v) M' <;> rfl
  | false =>
    simp only [trace, wantedA, h, hb, Bool.false_eq_true, if_false, if_true]
    cases trace call n0 ds (putT t dst undefA) M <;> rfl
theorem trace_sread (h : t.get m = some undefA) : trace call n0 (⟨⟨op, args, dst, some (m, want)⟩, false, fl, lo, hi⟩ :: ds) t M = addR ⟨⟨⟨op, args, dst, some (m, want)⟩, false, fl, lo, hi⟩, none, undefA⟩ (trace call n0 ds (putT t dst undefA) M) := by
  simp only [trace, wantedA, h, undefA, Bool.false_eq_true, if_false]
  cases trace call n0 ds (putT t dst undefA) M <;> rfl
theorem trace_seff (h : t.get m = some undefA) : trace call n0 (⟨⟨op, args, dst, some (m, want)⟩, true, false, lo, hi⟩ :: ds) t M = addE ⟨⟨⟨op, args, dst, some (m, want)⟩, true, false, lo, hi⟩, none, undefA⟩ M (trace call n0 ds (putT t dst undefA) M) := by
  simp only [trace, wantedA, h, undefA, Bool.false_eq_true, if_false, if_true]
  cases trace call n0 ds (putT t dst undefA) M <;> rfl
end
/-- What is known of the temporaries, and no more. -/
theorem W_forget {call : FuncId → List AV → AMem → Option (AV × AMem)} {N : Nat} {c : PCode} {t : Tr AV} {M : AMem} {Q : PEx → Tr AV → AMem → Prop} (P : Tr AV → Prop) (h : P t) (k : ∀ t, P t → W (exec call N c t M) Q) : W (exec call N c t M) Q := k t h
/-- A piece of plain code, of which something is known behind it. -/
theorem W_seqX {call : FuncId → List AV → AMem → Option (AV × AMem)} {N : Nat} {ps : List PInstr} {t : Tr AV} {M : AMem} {Q : PEx → Tr AV → AMem → Prop} (P : Tr AV → AMem → Prop) (h : ∃ t' M', runSeq call ps t M = some (t', M') ∧ P t' M') (k : ∀ t' M', P t' M' → Q .normal t' M') : W (exec call N (.seqR ps) t M) Q := by
  obtain ⟨t', M', h1, h2⟩ := h
  exact W_seqR h1 (k _ _ h2)
end Go.Vx
