/- Numbers and their texts: plain. -/
import Derived.Test.YtphdlmmllahgkaaDoorT
import Derived.Test.YtphdlmmllahgkaaDoorVx28
import Derived.Test.YtphdlmmllahgkaaDoorVx20
import Derived.KernelRfl
import Derived.Lib.ParseIntBCases
import Derived.Lib.ItoaNum
import Derived.Laws.RangeString
import Derived.Laws.RangeAny
import Derived.Shelf.GgClosure.StringsIndexFunc
namespace Go.Proofs.YtphdlmmllahgkaaDoor.num
open Go Go.Vx Go.Lib

def isDig (c : UInt8) : Bool := decide (48 ≤ c.toNat ∧ c.toNat ≤ 57)
def bad (r : Nat) : Bool := decide (r < 48) || decide (r > 57)
theorem bad_ascii {c : UInt8} : bad c.toNat = !isDig c := by
  unfold bad isDig
  by_cases h1 : c.toNat < 48 <;> by_cases h2 : c.toNat > 57 <;> simp [h1, h2] <;> omega
theorem ba_get {l : List UInt8} {i : Nat} (h : i < l.length) : (⟨l.toArray⟩ : ByteArray)[i]'(by simpa [ByteArray.size] using h) = l[i] := by
  show (l.toArray)[i]'(by simpa using h) = l[i]
  simp
/-- is a byte no digit? as the library asks, rune by rune -/
theorem idx_dig (l : List UInt8) : ∀ (f pos : Nat), l.length ≤ pos + f → decide (0 ≤ idxFuncFrom bad true ⟨l.toArray⟩ f pos) = !((l.drop pos).all isDig)
  | 0, pos, h => by
    rw [List.drop_of_length_le (by omega)]
    rfl
  | f + 1, pos, h => by
    have hsz : (⟨l.toArray⟩ : ByteArray).size = l.length := by simp [ByteArray.size]
    unfold idxFuncFrom
    by_cases hp : pos < l.length
    · rw [if_pos (by rw [hsz]; exact hp)]
      have hp' : pos < (⟨l.toArray⟩ : ByteArray).size := by rw [hsz]; exact hp
      rw [List.drop_eq_getElem_cons hp, List.all_cons]
      by_cases ha : l[pos].toNat < 128
      · have hd := decode_ascii ⟨l.toArray⟩ pos hp' (by rw [ba_get hp]; exact ha)
        rw [ba_get hp] at hd
        rw [hd]
        simp only [bad_ascii]
        cases hg : isDig l[pos] with
        | true =>
          simp only [Bool.not_true, Bool.false_eq_true, if_false, Bool.true_and]
          exact idx_dig l f (pos + 1) (by omega)
        | false => simp
      · have hd := decode_high ⟨l.toArray⟩ pos hp' (by rw [ba_get hp]; omega)
        have hb : bad (Utf8.decode ⟨l.toArray⟩ pos).1 = true := by
          unfold bad
          have : (Utf8.decode ⟨l.toArray⟩ pos).1 > 57 := by omega
          simp [this]
        have hg : isDig l[pos] = false := by
          unfold isDig
          exact decide_eq_false (by omega)
        rw [if_pos hb, hg]; simp
    · rw [if_neg (by rw [hsz]; exact hp), List.drop_of_length_le (by omega)]
      rfl
theorem idxFunc_dig (l : List UInt8) : decide (0 ≤ idxFunc bad true ⟨l.toArray⟩) = !(l.all isDig) := by
  have := idx_dig l (⟨l.toArray⟩ : ByteArray).size 0 (by simp [ByteArray.size])
  rwa [List.drop_zero] at this

theorem pm_cons {M acc : Nat} {c : UInt8} {r : List UInt8} (hc : isDig c = true) (hM : M ≤ 18446744073709551615) : parseUintM M acc (c :: r) = if M < acc * 10 + (c.toNat - 48) then .range else parseUintM M (acc * 10 + (c.toNat - 48)) r := by
  have h : 48 ≤ c.toNat ∧ c.toNat ≤ 57 := by simpa [isDig] using hc
  rw [parseUintM, if_pos h]
  by_cases h1 : 1844674407370955162 ≤ acc
  · rw [if_pos h1, if_pos (by omega)]
  · rw [if_neg h1]
theorem pm_append {M : Nat} : ∀ {l : List UInt8} {acc : Nat} {r : List UInt8}, parseUintM M acc (l ++ r) = match parseUintM M acc l with
    | .ok v => parseUintM M v r
    | e => e
  | [], acc, r => by simp [parseUintM]
  | c :: l, acc, r => by
    rw [List.cons_append, parseUintM, parseUintM]
    split
    · split
      · rfl
      · split
        · rfl
        · exact pm_append
    · rfl
theorem isDig_of {d : Nat} (h : d < 10) : isDig (UInt8.ofNat (48 + d)) = true ∧ (UInt8.ofNat (48 + d)).toNat - 48 = d := by
  have e : (UInt8.ofNat (48 + d)).toNat = 48 + d := by
    rw [UInt8.toNat_ofNat']; omega
  constructor
  · unfold isDig; rw [e]; exact decide_eq_true (by omega)
  · omega
theorem dec_all (u : Nat) : (decDigits u).all isDig = true := by
  induction u using Nat.strongRecOn with
  | ind u ih =>
    rw [decDigits]
    split
    · rename_i h
      simp only [List.all_cons, List.all_nil, Bool.and_true]
      exact (isDig_of h).1
    · rename_i h
      rw [List.all_append, ih (u / 10) (by omega)]
      simp only [List.all_cons, List.all_nil, Bool.and_true, Bool.true_and]
      exact (isDig_of (show u % 10 < 10 by omega)).1
theorem dec_ne (u : Nat) : decDigits u ≠ [] := by
  rw [decDigits]
  split <;> simp
theorem dec_parse (u : Nat) (hu : u ≤ 18446744073709551615) : parseUintM 18446744073709551615 0 (decDigits u) = .ok u := by
  induction u using Nat.strongRecOn with
  | ind u ih =>
    rw [decDigits]
    split
    · rename_i h
      obtain ⟨h1, h2⟩ := isDig_of h
      rw [pm_cons h1 (Nat.le_refl _), h2, if_neg (by omega)]
      simp [parseUintM]
    · rename_i h
      obtain ⟨h1, h2⟩ := isDig_of (show u % 10 < 10 by omega)
      rw [pm_append, ih (u / 10) (by omega) (by omega)]
      simp only
      rw [pm_cons h1 (Nat.le_refl _), h2, if_neg (by omega)]
      simp only [parseUintM, NumEnd.ok.injEq]
      omega
/-- no nought at the head, unless it stands alone -/
def lead0 (l : List UInt8) : Bool := decide (1 < l.length) && decide ((l.headD 0).toNat = 48)
theorem dec_head (u : Nat) (hu : 0 < u) : ((decDigits u).headD 0).toNat ≠ 48 := by
  induction u using Nat.strongRecOn with
  | ind u ih =>
    rw [decDigits]
    split
    · rename_i h
      simp only [List.headD_cons]
      rw [UInt8.toNat_ofNat']; omega
    · rename_i h
      have := ih (u / 10) (by omega) (by omega)
      have hne := dec_ne (u / 10)
      cases hd : decDigits (u / 10) with
      | nil => exact absurd hd hne
      | cons a l => rw [hd] at this; simpa using this
theorem dec_lead (u : Nat) : lead0 (decDigits u) = false := by
  unfold lead0
  rcases Nat.eq_zero_or_pos u with rfl | hu
  · have : (decDigits 0).length = 1 := by rw [decDigits]; simp
    rw [this]; rfl
  · rw [decide_eq_false (dec_head u hu), Bool.and_false]
theorem pm_ge {M : Nat} (hM : M ≤ 18446744073709551615) : ∀ {l : List UInt8} {acc u : Nat}, parseUintM M acc l = .ok u → acc ≤ u
  | [], acc, u, h => by simp [parseUintM] at h; omega
  | c :: l, acc, u, h => by
    by_cases hc : isDig c = true
    · rw [pm_cons hc hM] at h
      split at h
      · cases h
      · have := pm_ge hM h; omega
    · rw [parseUintM, if_neg (by simpa [isDig] using hc)] at h
      cases h
theorem parse_dec : ∀ (n : Nat) (l : List UInt8), l.length = n + 1 → l.all isDig = true → lead0 l = false → ∀ u, parseUintM 18446744073709551615 0 l = .ok u → decDigits u = l ∧ ((l.headD 0).toNat ≠ 48 → 0 < u)
  | 0, l, hl, hd, _, u, h => by
    match l, hl with
    | [c], _ =>
      simp only [List.all_cons, List.all_nil, Bool.and_true] at hd
      have hc : 48 ≤ c.toNat ∧ c.toNat ≤ 57 := by simpa [isDig] using hd
      rw [pm_cons hd (Nat.le_refl _)] at h
      split at h
      · cases h
      · simp only [parseUintM, NumEnd.ok.injEq] at h
        have hu : u < 10 := by omega
        refine ⟨?_, fun h48 => ?_⟩
        · rw [decDigits_one hu]
          congr 1
          have e : (UInt8.ofNat (48 + u)).toNat = c.toNat := by rw [UInt8.toNat_ofNat']; omega
          exact UInt8.toNat_inj.1 e
        · simp only [List.headD_cons] at h48; omega
  | n + 1, l, hl, hd, h0, u, h => by
    obtain ⟨l', c, rfl⟩ : ∃ l' c, l = l' ++ [c] := by
      refine ⟨l.dropLast, l.getLast (by intro h; simp [h] at hl), ?_⟩
      exact (List.dropLast_concat_getLast _).symm
    rw [List.length_append, List.length_singleton] at hl
    rw [List.all_append] at hd
    simp only [List.all_cons, List.all_nil, Bool.and_true, Bool.and_eq_true] at hd
    have hne : l' ≠ [] := by intro h; simp [h] at hl
    have hhead : ((l' ++ [c]).headD 0) = l'.headD 0 := by
      cases l' with
      | nil => exact absurd rfl hne
      | cons a r => rfl
    have h48 : (l'.headD 0).toNat ≠ 48 := by
      unfold lead0 at h0
      rw [hhead, List.length_append, List.length_singleton] at h0
      have : (decide (1 < l'.length + 1)) = true := decide_eq_true (by omega)
      rw [this, Bool.true_and] at h0
      exact of_decide_eq_false h0
    have h0' : lead0 l' = false := by
      unfold lead0
      rw [decide_eq_false h48, Bool.and_false]
    rw [pm_append] at h
    rcases hv : parseUintM 18446744073709551615 0 l' with v | _ | _
    rotate_left
    · rw [hv] at h; cases h
    · rw [hv] at h; cases h
    · rw [hv] at h
      simp only at h
      obtain ⟨i1, i2⟩ := parse_dec n l' (by omega) hd.1 h0' v hv
      have hvp := i2 h48
      have hc : 48 ≤ c.toNat ∧ c.toNat ≤ 57 := by simpa [isDig] using hd.2
      rw [pm_cons hd.2 (Nat.le_refl _)] at h
      split at h
      · cases h
      · simp only [parseUintM, NumEnd.ok.injEq] at h
        refine ⟨?_, fun _ => by omega⟩
        rw [decDigits, dif_neg (by omega)]
        have e1 : u / 10 = v := by omega
        have e2 : UInt8.ofNat (48 + u % 10) = c := by
          refine UInt8.toNat_inj.1 ?_
          rw [UInt8.toNat_ofNat']; omega
        rw [e1, i1, e2]
/-- what a text is read as, and the code -/
def readL (l : List UInt8) : Nat × Int :=
  if l = [] ∨ l.all isDig = false ∨ lead0 l = true then (0, 12) else match parseUintM 18446744073709551615 0 l with
    | .ok u => (u, 0)
    | _ => (0, 14)
theorem read_dec (u : Nat) (hu : u ≤ 18446744073709551615) : readL (decDigits u) = (u, 0) := by
  unfold readL
  rw [if_neg (by
    rintro (h | h | h)
    · exact dec_ne u h
    · rw [dec_all] at h; cases h
    · rw [dec_lead] at h; cases h), dec_parse u hu]
theorem read_back {l : List UInt8} {u : Nat} (h : readL l = (u, 0)) : decDigits u = l := by
  unfold readL at h
  split at h
  · cases h
  · rename_i hno
    have hne : l ≠ [] := fun he => hno (.inl he)
    have hd : l.all isDig = true := by
      cases hb : l.all isDig with
      | true => rfl
      | false => exact absurd (.inr (.inl hb)) hno
    have h0 : lead0 l = false := by
      cases hb : lead0 l with
      | false => rfl
      | true => exact absurd (.inr (.inr hb)) hno
    split at h
    · rename_i v hv
      simp only [Prod.mk.injEq, and_true] at h
      subst h
      have : l.length = (l.length - 1) + 1 := by
        have := List.length_pos_iff.2 hne; omega
      exact (parse_dec _ l this hd h0 v hv).1
    · cases h
theorem pb64 (l : List UInt8) (h : l ≠ []) : parseUintB 64 l = parseUintM 18446744073709551615 0 l := by
  unfold parseUintB
  rw [if_neg h]
theorem readL_le (l : List UInt8) : (readL l).1 ≤ 18446744073709551615 := by
  unfold readL
  split
  · simp
  · split
    · rename_i u hu
      exact parseUintM_le 18446744073709551615 l 0 u (by omega) hu
    · simp
end Go.Proofs.YtphdlmmllahgkaaDoor.num
