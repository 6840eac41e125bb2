/- The closed run of YardNil's awake, and its runs over what comes in, by the small machine. -/
import Derived.Test.YtfpamakhkkdikaaGreatDoorT
import Derived.Test.YtfpamakhkkdikaaGreatDoorVx20
import Derived.KernelRfl
namespace Go.Proofs.YtfpamakhkkdikaaGreatDoor.yardNil
open Go.Vx

/-! The runs. -/
theorem awake_run (g : Addr → Option AV) : (callF noTbl code 100000 2000 18 [] ⟨.nil, 0, g⟩).map (·.1) = some (.bool true) := of_callFK (by kernel_rfl)
def tbl (f : FuncId) (args : List AV) : Option AV := if f = 18 then match args with
  | [] => some (.bool true)
  | _ => none else none
theorem tbl_ok [Val] : TblOk Tryz.prog tbl := by
  intro f args r h
  unfold tbl at h
  split at h
  · rename_i hf
    subst hf
    cases args with
    | nil => cases h; exact closed_of (noTbl_ok _) codeOk rfl (awake_run Val.g) rfl rfl
    | cons a l => cases h
  · cases h
def o (i : Nat) (lo hi : Int) : AV := .oint .i64 (.var i) lo hi
def I (n : Nat) : AV := .int .i64 n
def lo64 : Int := -9223372036854775808
def hi64 : Int := 9223372036854775807
def stepA (lo hi : Nat) : AV := .agg [o 5 lo64 hi64, o 6 lo64 hi64, o 7 lo64 hi64, .oint .u64 (.var 8) 0 18446744073709551615, .oslice 9 lo hi]
noncomputable def run (lo hi : Nat) (a b c d : AV) : Bool := match callFK tbl code 100000 2000 4 [stepA lo hi, .agg [a, b, c, d]] ⟨.nil, 0, fun _ => none⟩ with
  | some (.bool true, _) => true
  | _ => false
def ob : AV := o 1 lo64 hi64
def oc : AV := o 2 lo64 hi64
def od : AV := o 3 lo64 hi64
def o16 : AV := o 0 1 16
theorem run_big : run 71 9223372036854775807 (o 0 lo64 hi64) ob oc od = true := by kernel_rfl
noncomputable def sizeOk (k s : Nat) : Bool :=
  if [2, 4, 8, 16, 32, 64, 128, 256].contains s then run 0 70 o16 (I k) (I s) (o 3 lo64 1) && run 0 70 o16 (I k) (I s) (o 3 2 4096) && run 0 70 o16 (I k) (I s) (o 3 4097 hi64) else run 0 70 o16 (I k) (I s) od
theorem run_a0 : run 0 70 (o 0 lo64 0) ob oc od = true := by kernel_rfl
theorem run_a2 : run 0 70 (o 0 17 hi64) ob oc od = true := by kernel_rfl
theorem run_b0 : run 0 70 o16 (o 1 lo64 (-1)) oc od = true := by kernel_rfl
theorem run_b2 : run 0 70 o16 (o 1 2 hi64) oc od = true := by kernel_rfl
theorem run_c0 : ((List.range 2).all fun k => run 0 70 o16 (I k) (o 2 lo64 1) od) = true := by kernel_rfl
theorem run_c2 : ((List.range 2).all fun k => run 0 70 o16 (I k) (o 2 257 hi64) od) = true := by kernel_rfl
noncomputable def part (n : Nat) : Bool := (List.range 2).all fun k => (List.range 16).all fun s => sizeOk k (s + 16 * n + 2)
theorem run_s0 : part 0 = true := by kernel_rfl
theorem run_s1 : part 1 = true := by kernel_rfl
theorem run_s2 : part 2 = true := by kernel_rfl
theorem run_s3 : part 3 = true := by kernel_rfl
theorem run_s4 : part 4 = true := by kernel_rfl
theorem run_s5 : part 5 = true := by kernel_rfl
theorem run_s6 : part 6 = true := by kernel_rfl
theorem run_s7 : part 7 = true := by kernel_rfl
theorem run_s8 : part 8 = true := by kernel_rfl
theorem run_s9 : part 9 = true := by kernel_rfl
theorem run_s10 : part 10 = true := by kernel_rfl
theorem run_s11 : part 11 = true := by kernel_rfl
theorem run_s12 : part 12 = true := by kernel_rfl
theorem run_s13 : part 13 = true := by kernel_rfl
theorem run_s14 : part 14 = true := by kernel_rfl
theorem run_s15 : part 15 = true := by kernel_rfl
theorem run_s {k s : Nat} (hk : k < 2) (hs : s < 255) : sizeOk k (s + 2) = true := by
  have h : part (s / 16) = true := by
    have hq : s / 16 < 16 := by omega
    generalize s / 16 = q at hq
    match q, hq with
    | 0, _ => exact run_s0
    | 1, _ => exact run_s1
    | 2, _ => exact run_s2
    | 3, _ => exact run_s3
    | 4, _ => exact run_s4
    | 5, _ => exact run_s5
    | 6, _ => exact run_s6
    | 7, _ => exact run_s7
    | 8, _ => exact run_s8
    | 9, _ => exact run_s9
    | 10, _ => exact run_s10
    | 11, _ => exact run_s11
    | 12, _ => exact run_s12
    | 13, _ => exact run_s13
    | 14, _ => exact run_s14
    | 15, _ => exact run_s15
    | n + 16, h => omega
  have h2 := List.all_eq_true.1 (List.all_eq_true.1 h k (List.mem_range.2 hk)) (s % 16) (List.mem_range.2 (by omega))
  rwa [show s % 16 + 16 * (s / 16) + 2 = s + 2 by omega] at h2

end Go.Proofs.YtfpamakhkkdikaaGreatDoor.yardNil
