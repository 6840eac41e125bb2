/- A region whose order is open: what its instructions come to doesn't hang on when they are done. -/
import Derived.Test.YtpbejdlpkpehlaaVx12
namespace Go.Vx

theorem SE.beq_eq : ∀ {a b : SE}, SE.beq a b = true → a = b
  | .var i, b, h => by cases b <;> simp_all [SE.beq]
  | .lit i, b, h => by cases b <;> simp_all [SE.beq]
  | .len i, b, h => by cases b <;> simp_all [SE.beq]
  | .add x y, b, h => by
    cases b with
    | add x' y' => simp only [SE.beq, Bool.and_eq_true] at h; rw [SE.beq_eq h.1, SE.beq_eq h.2]
    | _ => simp [SE.beq] at h
  | .sub x y, b, h => by
    cases b with
    | sub x' y' => simp only [SE.beq, Bool.and_eq_true] at h; rw [SE.beq_eq h.1, SE.beq_eq h.2]
    | _ => simp [SE.beq] at h
  | .mul x y, b, h => by
    cases b with
    | mul x' y' => simp only [SE.beq, Bool.and_eq_true] at h; rw [SE.beq_eq h.1, SE.beq_eq h.2]
    | _ => simp [SE.beq] at h
mutual
theorem AV.beq_eq : ∀ (a b : AV), AV.beq a b = true → a = b
  | .bool a, b, h => by cases b <;> simp_all [AV.beq]
  | .int k a, b, h => by cases b <;> simp_all [AV.beq]
  | .str a, b, h => by
    cases b <;> simp [AV.beq] at h
    rename_i b
    rw [ByteArray.toList_eq, ByteArray.toList_eq] at h
    obtain ⟨⟨x⟩⟩ := a
    obtain ⟨⟨y⟩⟩ := b
    simp at h; subst h; rfl
  | .ptr a, b, h => by cases b <;> simp_all [AV.beq]
  | .slice a l c g, b, h => by cases b <;> simp_all [AV.beq]
  | .map a, b, h => by cases b <;> simp_all [AV.beq]
  | .func fn f c, b, h => by
    cases b with
    | func fn' f' c' =>
      cases fn with
      | func g => cases fn' with
        | func g' =>
          simp only [AV.beq, Bool.and_eq_true, beq_iff_eq] at h
          obtain ⟨⟨h1, h2⟩, h3⟩ := h
          rw [h1, AV.beqs_eq f f' h2, AV.beqs_eq c c' h3]
        | _ => simp [AV.beq] at h
      | _ => cases fn' <;> simp [AV.beq] at h
    | _ => cases fn <;> simp [AV.beq] at h
  | .nilFunc, b, h => by cases b <;> simp_all [AV.beq]
  | .iface t a, b, h => by
    cases b with
    | iface u b =>
      simp only [AV.beq, Bool.and_eq_true, beq_iff_eq] at h
      rw [h.1, AV.beq_eq a b h.2]
    | _ => simp [AV.beq] at h
  | .nilIface, b, h => by cases b <;> simp_all [AV.beq]
  | .agg a, b, h => by
    cases b with
    | agg b => simp only [AV.beq] at h; rw [AV.beqs_eq a b h]
    | _ => simp [AV.beq] at h
  | .tuple a, b, h => by
    cases b with
    | tuple b => simp only [AV.beq] at h; rw [AV.beqs_eq a b h]
    | _ => simp [AV.beq] at h
  | .rptr a, b, h => by cases b <;> simp_all [AV.beq]
  | .rslice a l c, b, h => by cases b <;> simp_all [AV.beq]
  | .tail x y z, b, h => by
    cases b <;> simp [AV.beq] at h
    obtain ⟨⟨rfl, rfl⟩, rfl⟩ := h; rfl
  | .oint k x lo hi, b, h => by
    cases b with
    | oint k' x' lo' hi' =>
      simp only [AV.beq, Bool.and_eq_true, beq_iff_eq] at h
      obtain ⟨⟨⟨h1, h2⟩, h3⟩, h4⟩ := h
      rw [h1, SE.beq_eq h2, h3, h4]
    | _ => simp [AV.beq] at h
  | .oslice i lo hi, b, h => by cases b <;> simp_all [AV.beq]
  | .ostr i lo hi, b, h => by cases b <;> simp_all [AV.beq]
  | .oval i, b, h => by cases b <;> simp_all [AV.beq]
theorem AV.beqs_eq : ∀ (a b : List AV), AV.beqs a b = true → a = b
  | [], b, h => by cases b <;> simp_all [AV.beqs]
  | x :: xs, b, h => by
    cases b with
    | nil => simp [AV.beqs] at h
    | cons y ys =>
      simp only [AV.beqs, Bool.and_eq_true] at h
      rw [AV.beq_eq x y h.1, AV.beqs_eq xs ys h.2]
end

theorem sliceI_pure {M M' : AMem} {sz : Nat} {x v : AV} {lo hi mx : Option AV} (h : sliceI M sz x lo hi mx = some (v, M')) (_hn : M'.n = M.n) (M2 : AMem) : sliceI M2 sz x lo hi mx = some (v, M2) := by
  unfold sliceI at h ⊢
  cases x <;> simp only at h ⊢ <;> try (cases h; done)
  case slice a len cap gr =>
    cases hb : (if len ≤ cap then boundsI len cap lo hi mx else none) with
    | none => simp [hb] at h
    | some p =>
      obtain ⟨l, hh, m⟩ := p
      simp only [hb] at h ⊢
      cases a with
      | none => simp only [Option.some.injEq, Prod.mk.injEq] at h ⊢; exact ⟨h.1, trivial⟩
      | some a =>
        obtain ⟨b, o⟩ := a
        simp only at h ⊢
        by_cases hg : gr = true ∧ mx.isNone = true
        · rw [if_pos hg] at h ⊢
          by_cases hl : l < cap
          · rw [if_pos hl] at h ⊢
            simp only [Option.some.injEq, Prod.mk.injEq] at h ⊢; exact ⟨h.1, trivial⟩
          · rw [if_neg hl] at h
            rw [if_neg hl]
            split at h
            · rename_i hc
              rw [if_pos hc]
              simp only [Option.some.injEq, Prod.mk.injEq] at h ⊢; exact ⟨h.1, trivial⟩
            · cases h
        · rw [if_neg hg] at h ⊢
          simp only [Option.some.injEq, Prod.mk.injEq] at h ⊢; exact ⟨h.1, trivial⟩
  case rslice a len cap =>
    cases hb : (if len ≤ cap then boundsI len cap lo hi mx else none) with
    | none => simp [hb] at h
    | some p =>
      obtain ⟨l, hh, m⟩ := p
      simp only [hb] at h ⊢
      simp only [Option.some.injEq, Prod.mk.injEq] at h ⊢; exact ⟨h.1, trivial⟩
  case tail b o adv =>
    split at h
    · simp only [Option.some.injEq, Prod.mk.injEq] at h ⊢; exact ⟨h.1, trivial⟩
    · cases h

theorem opI_pure {op : PI} {avs : List AV} {M M' : AMem} {v : AV} (he : isEff op = false) (hl : isLoad op = false) (h : opI op avs M = some (.val v M')) (hn : M'.n = M.n) (M2 : AMem) :
    opI op avs M2 = some (.val v M2) := by
  cases op <;> simp only [isEff, isLoad] at he hl <;> try (cases he; done)
  case slice sz lo hi mx =>
    cases avs with
    | nil => simp [opI] at h
    | cons x l =>
      simp only [opI] at h ⊢
      cases h3 : take3 lo hi mx l with
      | none => simp [h3] at h
      | some p =>
        obtain ⟨a, b, c⟩ := p
        simp only [h3] at h ⊢
        cases hs : sliceI M sz x a b c with
        | none => simp [hs] at h
        | some q =>
          obtain ⟨v1, M1⟩ := q
          simp only [hs, Option.some.injEq, SR.val.injEq] at h
          obtain ⟨rfl, rfl⟩ := h
          rw [sliceI_pure hs hn M2]
  all_goals
    unfold opI at h
    split at h <;> rename_i heq <;> first
      | (cases heq; done)
      | (cases h; done)
      | skip
  all_goals first
    | (simp only [Option.some.injEq, SR.val.injEq] at h; obtain ⟨rfl, rfl⟩ := h; simp_all [opI]; done)
    | (repeat' (split at h <;> try (cases h; done)); simp_all [opI]; done)
    | skip
  all_goals first
    | (exact absurd hl (by decide))
    | (cases heq
       simp only [opI]
       repeat' (split at h <;> try (cases h; done))
       all_goals
         simp only [Option.some.injEq, SR.val.injEq] at h
         obtain ⟨rfl, rfl⟩ := h
         simp_all)
end Go.Vx
