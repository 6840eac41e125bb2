/- The calls whose answers are known: num.Read, num.Print, strings.Join, num.Words. -/
import Derived.Test.YtphdlmmllahgkaaDoorNuPlain
import Derived.Test.YtphdlmmllahgkaaDoorVx27
namespace Go.Proofs.YtphdlmmllahgkaaDoor.num
open Go Go.Vx Go.Lib
abbrev SB (l : List UInt8) : ByteArray := ⟨l.toArray⟩
theorem SB_data (s : ByteArray) : SB s.data.toList = s := rfl
/-- texts laid one behind the other, with one between any two -/
def joinS (sep : List UInt8) : List (List UInt8) → List UInt8
  | [] => []
  | [x] => x
  | x :: r => x ++ sep ++ joinS sep r
def strOf : AV → Option (List UInt8)
  | .str s => some s.data.toList
  | _ => none
def tbl0 (f : FuncId) (args : List AV) : Option AV :=
  if f = 6 then match args with
    | [.str s] => if s.size ≤ 1000 then some (.tuple [.int .u64 (readL s.data.toList).1, .int .i64 (readL s.data.toList).2]) else none
    | _ => none
  else if f = 8 then match args with
    | [.int .u64 u] => if 0 ≤ u ∧ u ≤ 18446744073709551615 then some (.str (SB (decDigits u.toNat))) else none
    | _ => none
  else none
/-- strings.Join at a row of our own memory -/
def joinX (f : FuncId) : FuncId → List AV → AMem → Option (AV × AMem) := fun f' args M =>
  if f' = f then match args with
    | [.slice (some (b, 0)) n c _, .str sep] => match M.loadCells b 0 n with
      | some l => match mapO strOf l with
        | some xs => if n ≤ c ∧ n ≤ 1000 ∧ sep.size ≤ 1000 ∧ xs.all (fun x => decide (x.length ≤ 1000)) = true then some (.str (SB (joinS sep.data.toList xs)), M) else none
        | none => none
      | none => none
    | _ => none
  else none
/-- the words of a text: what stands between blanks and is not empty; 'cur' is what was read of one -/
def wordsA : List UInt8 → List UInt8 → List (List UInt8)
  | cur, [] => if cur = [] then [] else [cur]
  | cur, c :: r => if c.toNat = 32 then (if cur = [] then wordsA [] r else cur :: wordsA [] r) else wordsA (cur ++ [c]) r
def wordsL (l : List UInt8) : List (List UInt8) := wordsA [] l
def strA (l : List UInt8) : AV := .str (SB l)
/-- num.Words: a new row -/
def wordsX (f : FuncId) : FuncId → List AV → AMem → Option (AV × AMem) := fun f' args M =>
  if f' = f then match args with
    | [.str s] => if s.size ≤ 1000 then (match wordsL s.data.toList with
      | [] => some (.slice none 0 0 false, M)
      | w :: r => some (.slice (some (M.n, 0)) (r.length + 1) (r.length + 1) true, M.push (.cells ((w :: r).map strA) 1 true none))) else none
    | _ => none
  else none
def tbl (f : FuncId) (args : List AV) (M : AMem) : Option (AV × AMem) := match (match tbl0 f args with
    | some r => some (r, M)
    | none => none) with
  | some q => some q
  | none => match wordsX 13 f args M with
    | some q => some q
    | none => joinX 19 f args M
theorem tbl_none {f : FuncId} (h : f ≠ 6 ∧ f ≠ 8 ∧ f ≠ 19 ∧ f ≠ 13) (a : List AV) : ∀ M, tbl f a M = none := fun M => by
  unfold tbl tbl0 joinX wordsX
  rw [if_neg h.1, if_neg h.2.1, if_neg h.2.2.1, if_neg h.2.2.2]
theorem callF_tbl {d : Nat} {f : FuncId} {args : List AV} {M : AMem} {r : AV × AMem} (h : tbl f args M = some r) : callF tbl code 100000 (d + 1) f args M = some r := by
  simp only [callF, h]
theorem SB_size (l : List UInt8) : (SB l).size = l.length := by simp [ByteArray.size]
theorem read_call (d : Nat) (M : AMem) (l : List UInt8) (h : l.length ≤ 1000) : callF tbl code 100000 (d + 1) 6 [.str (SB l)] M = some (.tuple [.int .u64 (readL l).1, .int .i64 (readL l).2], M) := by
  refine callF_tbl ?_
  have e : tbl0 6 [.str (SB l)] = some (.tuple [.int .u64 (readL l).1, .int .i64 (readL l).2]) := by
    unfold tbl0
    rw [if_pos rfl]
    simp only [SB_size]
    rw [if_pos h]
  unfold tbl
  rw [e]
theorem print_call (d : Nat) (M : AMem) (u : Nat) (h : u ≤ 18446744073709551615) : callF tbl code 100000 (d + 1) 8 [.int .u64 u] M = some (.str (SB (decDigits u)), M) := by
  refine callF_tbl ?_
  have e : tbl0 8 [.int .u64 u] = some (.str (SB (decDigits u))) := by
    unfold tbl0
    rw [if_neg (by decide), if_pos rfl]
    simp only
    rw [if_pos ⟨by omega, by omega⟩, Int.toNat_natCast]
  unfold tbl
  rw [e]

theorem words_call (d : Nat) (M : AMem) (l : List UInt8) (h : l.length ≤ 1000) : callF tbl code 100000 (d + 1) 13 [.str (SB l)] M = match wordsL l with
      | [] => some (.slice none 0 0 false, M)
      | w :: r => some (.slice (some (M.n, 0)) (r.length + 1) (r.length + 1) true, M.push (.cells ((w :: r).map strA) 1 true none)) := by
  have key : ∀ q, wordsX 13 13 [.str (SB l)] M = some q → callF tbl code 100000 (d + 1) 13 [.str (SB l)] M = some q := fun q hq => callF_tbl (by
    unfold tbl tbl0
    rw [if_neg (by decide), if_neg (by decide)]
    simp only [hq])
  have e : wordsX 13 13 [.str (SB l)] M = match wordsL l with
      | [] => some (.slice none 0 0 false, M)
      | w :: r => some (.slice (some (M.n, 0)) (r.length + 1) (r.length + 1) true, M.push (.cells ((w :: r).map strA) 1 true none)) := by
    unfold wordsX
    rw [if_pos rfl]
    simp only [SB_size]
    rw [if_pos h]
  cases hw : wordsL l with
  | nil => rw [hw] at e; exact key _ e
  | cons w r => rw [hw] at e; exact key _ e

/-! Texts. -/
theorem opI_lenStr {M : AMem} {l : List UInt8} : opI .lenStr [.str (SB l)] M = some (.val (.int .i64 l.length) M) := by
  simp only [opI, SB_size]
theorem opI_indexStr {M : AMem} {l : List UInt8} {k : IntKind} {i : Nat} (h : i < l.length) : opI .indexStr [.str (SB l), .int k i] M = some (.val (.int .u8 (l.getD i 0).toNat) M) := by
  simp only [opI]
  rw [if_pos (by omega)]
  have : (SB l)[(i : Int).toNat]? = some (l.getD i 0) := by
    rw [Int.toNat_natCast, List.getD_eq_getElem?_getD, List.getElem?_eq_getElem h]
    rw [getElem?_pos (SB l) i (by rw [SB_size]; exact h)]
    rw [ba_get h]; rfl
  rw [this]
theorem toList_loop (l : List UInt8) : ∀ (k i : Nat) (r : List UInt8), i + k = l.length → ByteArray.toList.loop (SB l) i r = r.reverse ++ l.drop i
  | 0, i, r, h => by
    rw [ByteArray.toList.loop, if_neg (by rw [SB_size]; omega), List.drop_of_length_le (by omega), List.append_nil]
  | k + 1, i, r, h => by
    have hi : i < l.length := by omega
    rw [ByteArray.toList.loop, if_pos (by rw [SB_size]; omega), toList_loop l k (i + 1) _ (by omega), List.reverse_cons, List.append_assoc, List.drop_eq_getElem_cons hi]
    congr 2
    show [(SB l).get! i] ++ _ = _
    have : (SB l).get! i = l[i] := by
      show (l.toArray)[i]! = _
      rw [getElem!_pos l.toArray i (by simpa using hi)]; simp
    rw [this]; rfl
theorem SB_toList (l : List UInt8) : (SB l).toList = l := by
  unfold ByteArray.toList
  rw [toList_loop l l.length 0 [] (by omega)]; simp
theorem opI_eqStr {M : AMem} {a b : List UInt8} : opI (.bin .eql) [.str (SB a), .str (SB b)] M = some (.val (.bool (decide (a = b))) M) := by
  simp only [opI, binI, SB_toList]
  by_cases h : a = b
  · simp [h]
  · simp [h]
theorem opI_neqStr {M : AMem} {a b : List UInt8} : opI (.bin .neq) [.str (SB a), .str (SB b)] M = some (.val (.bool (decide (a ≠ b))) M) := by
  simp only [opI, binI, SB_toList]
  by_cases h : a = b
  · simp [h]
  · simp [h]
theorem opI_addStr {M : AMem} {a b : List UInt8} (h : a.length + b.length ≤ 1000000) : opI (.bin .add) [.str (SB a), .str (SB b)] M = some (.val (.str (SB (a ++ b))) M) := by
  simp only [opI, binI, SB_size]
  rw [if_neg (by show ¬ ((a.length + b.length : Nat) : Int) > 9223372036854775807; omega)]
  have : SB a ++ SB b = SB (a ++ b) := by
    apply ByteArray.ext
    show (SB a ++ SB b).data = (a ++ b).toArray
    rw [ByteArray.data_append]; simp
  rw [this]
/-- one byte as a text -/
theorem opI_byteStr {M : AMem} {b o c sz : Nat} {gr wr : Bool} {g : Option Nat} {cs : List AV} {n : Int} (h : M.get b = some (.cells cs sz wr g)) (hn : cs[o]? = some (.int .u8 n)) : opI .bytesStr [.slice (some (b, o)) 1 c gr] M = some (.val (.str (SB [UInt8.ofNat n.toNat])) M) := by
  have hlt : o < cs.length := (List.getElem?_eq_some_iff.1 hn).1
  have hd : (cs.drop o).take 1 = [.int .u8 n] := by
    rw [List.getElem?_eq_getElem hlt] at hn
    rw [List.drop_eq_getElem_cons hlt, Option.some.inj hn]; rfl
  simp only [opI, AMem.sliceCells, AMem.loadCells, h, Nat.mul_one]
  rw [if_pos (by omega), hd]
  rfl
/-- one byte cut out -/
theorem opI_cut1 {M : AMem} {l : List UInt8} {i : Nat} (h : i < l.length) : opI (.sliceStr true true) [.str (SB l), .int .i64 i, .int .i64 ((i : Int) + 1)] M = some (.val (.str (SB [l.getD i 0])) M) := by
  have e : (SB l).extract i (i + 1) = SB [l.getD i 0] := by
    apply ByteArray.ext
    rw [ByteArray.data_extract]
    apply Array.ext'
    simp only [Array.toList_extract]
    show l.extract i (i + 1) = [l.getD i 0]
    rw [List.extract_eq_take_drop, List.drop_eq_getElem_cons h, show i + 1 - i = 1 by omega, List.getD_eq_getElem?_getD, List.getElem?_eq_getElem h]; rfl
  have b1 : boundsI l.length l.length (some (.int .i64 i)) (some (.int .i64 ((i : Int) + 1))) none = some (i, i + 1, l.length) := by
    simp only [boundsI, bnd]
    rw [if_pos ⟨by omega, by omega⟩, show ((i : Int) + 1).toNat = i + 1 by omega]
    simp only
    rw [if_pos ⟨by omega, by omega⟩]; rfl
  have t3 : take3 true true false [.int .i64 i, .int .i64 ((i : Int) + 1)] = some (some (.int .i64 i), some (.int .i64 ((i : Int) + 1)), none) := rfl
  simp only [opI, t3, SB_size, b1, e]
end Go.Proofs.YtphdlmmllahgkaaDoor.num
