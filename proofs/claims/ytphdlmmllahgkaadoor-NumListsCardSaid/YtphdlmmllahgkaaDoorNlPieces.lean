/- A text's pieces between blanks. -/
import Derived.Test.YtphdlmmllahgkaaDoorNlWords
import Derived.Shelf.Strings.Search3
namespace Go.Proofs.YtphdlmmllahgkaaDoor.num
open Go Go.Vx Go.Lib
def pieces : List UInt8 → List UInt8 → List (List UInt8)
  | cur, [] => [cur]
  | cur, c :: r => if c.toNat = 32 then cur :: pieces [] r else pieces (cur ++ [c]) r
theorem pieces_words : ∀ (l cur : List UInt8), (pieces cur l).filter (fun w => decide (w ≠ [])) = wordsA cur l
  | [], cur => by
    rw [pieces, wordsA]
    by_cases h : cur = [] <;> simp [h]
  | c :: r, cur => by
    rw [pieces, wordsA]
    split
    · rw [List.filter_cons, pieces_words r []]
      by_cases h : cur = [] <;> simp [h]
    · exact pieces_words r (cur ++ [c])
theorem pieces_no : ∀ (l cur : List UInt8), (∀ c ∈ l, c.toNat ≠ 32) → pieces cur l = [cur ++ l]
  | [], cur, _ => by rw [pieces]; simp
  | c :: r, cur, h => by
    rw [pieces, if_neg (h c (by simp)), pieces_no r _ (fun x hx => h x (by simp [hx]))]; simp
theorem pieces_cut : ∀ (a cur r : List UInt8) (c : UInt8), (∀ c ∈ a, c.toNat ≠ 32) → c.toNat = 32 → pieces cur (a ++ c :: r) = (cur ++ a) :: pieces [] r
  | [], cur, r, c, _, hc => by rw [List.nil_append, pieces, if_pos hc]; simp
  | x :: a, cur, r, c, h, hc => by
    rw [List.cons_append, pieces, if_neg (h x (by simp)), pieces_cut a _ r c (fun y hy => h y (by simp [hy])) hc]; simp
theorem u8_32 {c : UInt8} : c.toNat = 32 ↔ c = 32 := by
  constructor
  · intro h; exact UInt8.toNat_inj.1 h
  · rintro rfl; rfl
theorem pieces_ixn {l : List UInt8} (h : indexByte l 32 = -1) : pieces [] l = [l] := by
  rw [pieces_no l [] (fun c hc hx => ?_), List.nil_append]
  obtain ⟨k, hk, rfl⟩ := List.getElem_of_mem hc
  exact indexByte_none h k (by rw [List.getElem?_eq_getElem hk, u8_32.1 hx])
theorem pieces_ixs {l : List UInt8} {i : Nat} (h : indexByte l 32 = i) : i < l.length ∧ pieces [] l = l.take i :: pieces [] (l.drop (i + 1)) := by
  obtain ⟨h1, h2⟩ := indexByte_some h
  have hi : i < l.length := (List.getElem?_eq_some_iff.1 h1).1
  refine ⟨hi, ?_⟩
  have hg : l[i] = 32 := by rw [List.getElem?_eq_getElem hi] at h1; exact Option.some.inj h1
  have e : l = l.take i ++ l[i] :: l.drop (i + 1) := by rw [← List.drop_eq_getElem_cons hi, List.take_append_drop]
  conv => lhs; rw [e]
  rw [pieces_cut _ [] _ _ (fun c hc hx => ?_) (by rw [hg]; rfl), List.nil_append]
  obtain ⟨k, hk, rfl⟩ := List.getElem_of_mem hc
  rw [List.length_take] at hk
  refine h2 k (by omega) ?_
  rw [List.getElem_take] at hx
  rw [List.getElem?_eq_getElem (by omega), u8_32.1 hx]
theorem pieces_len : ∀ (l cur : List UInt8), (pieces cur l).length ≤ l.length + 1
  | [], cur => by rw [pieces]; simp
  | c :: r, cur => by
    rw [pieces]
    split
    · have := pieces_len r []; simp only [List.length_cons]; omega
    · have := pieces_len r (cur ++ [c]); simp only [List.length_cons]; omega
end Go.Proofs.YtphdlmmllahgkaaDoor.num
