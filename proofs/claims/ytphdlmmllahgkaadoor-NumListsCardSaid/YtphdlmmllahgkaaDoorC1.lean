/- The code of the small machine for some of the program's functions: printed by program; each is what the rules make of the program's own. -/
import Derived.Test.YtphdlmmllahgkaaDoorVx16
import Derived.Test.YtphdlmmllahgkaaDoorProg
import Derived.KernelRfl
namespace Go.Proofs.YtphdlmmllahgkaaDoor
open Go Go.Vx Go.Proofs
/-- strings.Index -/
def c44 : PFn := ⟨8, Tr.ofList (List.replicate 8 undefA), (.seq (.seqR [⟨.move, [.const (.int .i64 0)], (some 4), none⟩])
 (.seq (.seqR [⟨.move, [.tmp 0], (some 5), none⟩,
 ⟨.move, [.tmp 1], (some 6), none⟩,
 ⟨(.callF 56), [.tmp 5, .tmp 6], (some 7), none⟩,
 ⟨.move, [.tmp 7], (some 4), none⟩])
 .ret)), [.tmp 4]⟩
theorem c44_ok : compFunc Tryd.prog Tryd.f44 = some c44 := by kernel_rfl
theorem c44_body : hasBody Tryd.prog 44 = true := hasBody_of Tryd.func44 (by kernel_rfl)
/-- internal/stringslite.Clone -/
def c45 : PFn := ⟨18, Tr.ofList (List.replicate 18 undefA), (.seq (.seqR [⟨.move, [.const (.str ⟨#[]⟩)], (some 2), none⟩])
 (.seq (.seq (.seqR [⟨.move, [.tmp 0], (some 4), none⟩,
 ⟨.lenStr, [.tmp 4], (some 5), none⟩,
 ⟨(.bin .eql), [.tmp 5, .const (.int .i64 0)], (some 6), none⟩])
 (.cond (.tmp 6) (.seq (.seqR [⟨.move, [.const (.str ⟨#[]⟩)], (some 2), none⟩])
 .ret)
 .skip))
 (.seq (.seqR [⟨.move, [.tmp 0], (some 7), none⟩,
 ⟨.lenStr, [.tmp 7], (some 8), none⟩,
 ⟨(.makeSlice 1 1 [(.int .u8 0)]), [.tmp 8, .tmp 8], (some 9), none⟩,
 ⟨.move, [.tmp 9], (some 3), none⟩])
 (.seq .fail
 (.seq .fail
 .ret))))), [.tmp 2]⟩
theorem c45_ok : compFunc Tryd.prog Tryd.f45 = some c45 := by kernel_rfl
theorem c45_body : hasBody Tryd.prog 45 = true := hasBody_of Tryd.func45 (by kernel_rfl)
/-- errors.New -/
def c46 : PFn := ⟨7, Tr.ofList (List.replicate 7 undefA), (.seq (.seqR [⟨.move, [.const .nilIface], (some 2), none⟩])
 (.seq (.seqR [⟨.move, [.tmp 0], (some 3), none⟩,
 ⟨(.build [(.str ⟨#[]⟩)] [(0, 1)]), [.tmp 3], (some 4), none⟩,
 ⟨.box, [.tmp 4], (some 5), none⟩,
 ⟨(.mkIface 89), [.tmp 5], (some 6), none⟩,
 ⟨.move, [.tmp 6], (some 2), none⟩])
 .ret)), [.tmp 2]⟩
theorem c46_ok : compFunc Tryd.prog Tryd.f46 = some c46 := by kernel_rfl
theorem c46_body : hasBody Tryd.prog 46 = true := hasBody_of Tryd.func46 (by kernel_rfl)
/-- strconv.Itoa -/
def c47 : PFn := ⟨5, Tr.ofList (List.replicate 5 undefA), (.seq (.seqR [⟨.move, [.const (.str ⟨#[]⟩)], (some 2), none⟩])
 (.seq (.seqR [⟨.move, [.tmp 0], (some 3), none⟩,
 ⟨(.callF 57), [.tmp 3], (some 4), none⟩,
 ⟨.move, [.tmp 4], (some 2), none⟩])
 .ret)), [.tmp 2]⟩
theorem c47_ok : compFunc Tryd.prog Tryd.f47 = some c47 := by kernel_rfl
theorem c47_body : hasBody Tryd.prog 47 = true := hasBody_of Tryd.func47 (by kernel_rfl)
/-- internal/strconv.log10Pow2 -/
def c48 : PFn := ⟨6, Tr.ofList (List.replicate 6 undefA), (.seq (.seqR [⟨.move, [.const (.int .i64 0)], (some 2), none⟩])
 (.seq (.seqR [⟨.move, [.tmp 0], (some 3), none⟩,
 ⟨(.bin .mul), [.tmp 3, .const (.int .i64 78913)], (some 4), none⟩,
 ⟨(.bin .shr), [.tmp 4, .const (.int .u64 18)], (some 5), none⟩,
 ⟨.move, [.tmp 5], (some 2), none⟩])
 .ret)), [.tmp 2]⟩
theorem c48_ok : compFunc Tryd.prog Tryd.f48 = some c48 := by kernel_rfl
theorem c48_body : hasBody Tryd.prog 48 = true := hasBody_of Tryd.func48 (by kernel_rfl)
/-- math/bits.Len64 -/
def c49 : PFn := ⟨25, Tr.ofList (List.replicate 25 undefA), (.seq (.seqR [⟨.move, [.const (.int .i64 0)], (some 2), none⟩])
 (.seq (.seq (.seqR [⟨.move, [.tmp 0], (some 3), none⟩,
 ⟨(.bin .geq), [.tmp 3, .const (.int .u64 4294967296)], (some 4), none⟩])
 (.cond (.tmp 4) (.seq (.seqR [⟨.move, [.tmp 0], (some 5), none⟩,
 ⟨(.bin .shr), [.tmp 5, .const (.int .u64 32)], (some 6), none⟩,
 ⟨.move, [.tmp 6], (some 0), none⟩])
 (.seqR [⟨.move, [.const (.int .i64 32)], (some 2), none⟩]))
 .skip))
 (.seq (.seq (.seqR [⟨.move, [.tmp 0], (some 7), none⟩,
 ⟨(.bin .geq), [.tmp 7, .const (.int .u64 65536)], (some 8), none⟩])
 (.cond (.tmp 8) (.seq (.seqR [⟨.move, [.tmp 0], (some 9), none⟩,
 ⟨(.bin .shr), [.tmp 9, .const (.int .u64 16)], (some 10), none⟩,
 ⟨.move, [.tmp 10], (some 0), none⟩])
 (.seqR [⟨.move, [.tmp 2], (some 11), none⟩,
 ⟨(.bin .add), [.tmp 11, .const (.int .i64 16)], (some 12), none⟩,
 ⟨.move, [.tmp 12], (some 2), none⟩]))
 .skip))
 (.seq (.seq (.seqR [⟨.move, [.tmp 0], (some 13), none⟩,
 ⟨(.bin .geq), [.tmp 13, .const (.int .u64 256)], (some 14), none⟩])
 (.cond (.tmp 14) (.seq (.seqR [⟨.move, [.tmp 0], (some 15), none⟩,
 ⟨(.bin .shr), [.tmp 15, .const (.int .u64 8)], (some 16), none⟩,
 ⟨.move, [.tmp 16], (some 0), none⟩])
 (.seqR [⟨.move, [.tmp 2], (some 17), none⟩,
 ⟨(.bin .add), [.tmp 17, .const (.int .i64 8)], (some 18), none⟩,
 ⟨.move, [.tmp 18], (some 2), none⟩]))
 .skip))
 (.seq (.seqR [⟨.move, [.tmp 2], (some 19), none⟩,
 ⟨.move, [.tmp 0], (some 20), none⟩,
 ⟨(.conv .u8), [.tmp 20], (some 21), none⟩,
 ⟨.indexStr, [.const (.str ⟨#[0, 1, 2, 2, 3, 3, 3, 3, 4, 4, 4, 4, 4, 4, 4, 4, 5, 5, 5, 5, 5, 5, 5, 5, 5, 5, 5, 5, 5, 5, 5, 5, 6, 6, 6, 6, 6, 6, 6, 6, 6, 6, 6, 6, 6, 6, 6, 6, 6, 6, 6, 6, 6, 6, 6, 6, 6, 6, 6, 6, 6, 6, 6, 6, 7, 7, 7, 7, 7, 7, 7, 7, 7, 7, 7, 7, 7, 7, 7, 7, 7, 7, 7, 7, 7, 7, 7, 7, 7, 7, 7, 7, 7, 7, 7, 7, 7, 7, 7, 7, 7, 7, 7, 7, 7, 7, 7, 7, 7, 7, 7, 7, 7, 7, 7, 7, 7, 7, 7, 7, 7, 7, 7, 7, 7, 7, 7, 7, 8, 8, 8, 8, 8, 8, 8, 8, 8, 8, 8, 8, 8, 8, 8, 8, 8, 8, 8, 8, 8, 8, 8, 8, 8, 8, 8, 8, 8, 8, 8, 8, 8, 8, 8, 8, 8, 8, 8, 8, 8, 8, 8, 8, 8, 8, 8, 8, 8, 8, 8, 8, 8, 8, 8, 8, 8, 8, 8, 8, 8, 8, 8, 8, 8, 8, 8, 8, 8, 8, 8, 8, 8, 8, 8, 8, 8, 8, 8, 8, 8, 8, 8, 8, 8, 8, 8, 8, 8, 8, 8, 8, 8, 8, 8, 8, 8, 8, 8, 8, 8, 8, 8, 8, 8, 8, 8, 8, 8, 8, 8, 8, 8, 8, 8, 8, 8, 8, 8, 8, 8, 8, 8, 8, 8, 8, 8, 8]⟩), .tmp 21], (some 22), none⟩,
 ⟨(.conv .i64), [.tmp 22], (some 23), none⟩,
 ⟨(.bin .add), [.tmp 19, .tmp 23], (some 24), none⟩,
 ⟨.move, [.tmp 24], (some 2), none⟩])
 .ret))))), [.tmp 2]⟩
theorem c49_ok : compFunc Tryd.prog Tryd.f49 = some c49 := by kernel_rfl
theorem c49_body : hasBody Tryd.prog 49 = true := hasBody_of Tryd.func49 (by kernel_rfl)
/-- internal/strconv.bool2[int] -/
def c50 : PFn := ⟨4, Tr.ofList (List.replicate 4 undefA), (.seq (.seqR [⟨.move, [.const (.int .i64 0)], (some 2), none⟩])
 (.seq (.seq (.seqR [⟨.move, [.tmp 0], (some 3), none⟩])
 (.cond (.tmp 3) (.seq (.seqR [⟨.move, [.const (.int .i64 1)], (some 2), none⟩])
 .ret)
 .skip))
 (.seq (.seqR [⟨.move, [.const (.int .i64 0)], (some 2), none⟩])
 .ret))), [.tmp 2]⟩
theorem c50_ok : compFunc Tryd.prog Tryd.f50 = some c50 := by kernel_rfl
theorem c50_body : hasBody Tryd.prog 50 = true := hasBody_of Tryd.func50 (by kernel_rfl)
/-- internal/strconv.isPowerOfTwo -/
def c51 : PFn := ⟨8, Tr.ofList (List.replicate 8 undefA), (.seq (.seqR [⟨.move, [.const (.bool false)], (some 2), none⟩])
 (.seq (.seqR [⟨.move, [.tmp 0], (some 3), none⟩,
 ⟨.move, [.tmp 0], (some 4), none⟩,
 ⟨(.bin .sub), [.tmp 4, .const (.int .i64 1)], (some 5), none⟩,
 ⟨(.bin .and), [.tmp 3, .tmp 5], (some 6), none⟩,
 ⟨(.bin .eql), [.tmp 6, .const (.int .i64 0)], (some 7), none⟩,
 ⟨.move, [.tmp 7], (some 2), none⟩])
 .ret)), [.tmp 2]⟩
theorem c51_ok : compFunc Tryd.prog Tryd.f51 = some c51 := by kernel_rfl
theorem c51_body : hasBody Tryd.prog 51 = true := hasBody_of Tryd.func51 (by kernel_rfl)
/-- math/bits.TrailingZeros -/
def c52 : PFn := ⟨8, Tr.ofList (List.replicate 8 undefA), (.seq (.seqR [⟨.move, [.const (.int .i64 0)], (some 2), none⟩])
 (.seq (.cond (.const (.bool false)) (.seq (.seqR [⟨.move, [.tmp 0], (some 3), none⟩,
 ⟨(.conv .u32), [.tmp 3], (some 4), none⟩,
 ⟨(.callF 58), [.tmp 4], (some 5), none⟩,
 ⟨.move, [.tmp 5], (some 2), none⟩])
 .ret)
 .skip)
 (.seq (.seqR [⟨.move, [.tmp 0], (some 6), none⟩,
 ⟨(.callF 59), [.tmp 6], (some 7), none⟩,
 ⟨.move, [.tmp 7], (some 2), none⟩])
 .ret))), [.tmp 2]⟩
theorem c52_ok : compFunc Tryd.prog Tryd.f52 = some c52 := by kernel_rfl
theorem c52_body : hasBody Tryd.prog 52 = true := hasBody_of Tryd.func52 (by kernel_rfl)
/-- unicode/utf8.decodeRuneInStringSlow -/
def c55 : PFn := ⟨117, Tr.ofList (List.replicate 117 undefA), (.seq (.seqR [⟨.move, [.const (.int .i32 0)], (some 2), none⟩,
 ⟨.move, [.const (.int .i64 0)], (some 3), none⟩])
 (.seq (.seqR [⟨.move, [.tmp 0], (some 13), none⟩,
 ⟨.lenStr, [.tmp 13], (some 14), none⟩,
 ⟨.move, [.tmp 14], (some 4), none⟩])
 (.seq (.seq (.seqR [⟨.move, [.tmp 4], (some 15), none⟩,
 ⟨(.bin .lss), [.tmp 15, .const (.int .i64 1)], (some 16), none⟩])
 (.cond (.tmp 16) (.seq (.seqR [⟨.move, [.const (.int .i32 65533)], (some 2), none⟩,
 ⟨.move, [.const (.int .i64 0)], (some 3), none⟩])
 .ret)
 .skip))
 (.seq (.seqR [⟨.move, [.tmp 0], (some 17), none⟩,
 ⟨.indexStr, [.tmp 17, .const (.int .i64 0)], (some 18), none⟩,
 ⟨.move, [.tmp 18], (some 5), none⟩])
 (.seq (.seqR [⟨.move, [.tmp 5], (some 19), none⟩,
 ⟨(.indexAddrA 256 1), [.const (.rptr (some ⟨4, 0, none⟩)), .tmp 19], (some 20), none⟩,
 ⟨(.load false 1), [.tmp 20], (some 21), none⟩,
 ⟨.move, [.tmp 21], (some 6), none⟩])
 (.seq (.seq (.seqR [⟨.move, [.tmp 6], (some 22), none⟩,
 ⟨(.bin .geq), [.tmp 22, .const (.int .u8 240)], (some 23), none⟩])
 (.cond (.tmp 23) (.seq (.seqR [⟨.move, [.tmp 6], (some 24), none⟩,
 ⟨(.conv .i32), [.tmp 24], (some 25), none⟩,
 ⟨(.bin .shl), [.tmp 25, .const (.int .u64 31)], (some 26), none⟩,
 ⟨(.bin .shr), [.tmp 26, .const (.int .u64 31)], (some 27), none⟩,
 ⟨.move, [.tmp 27], (some 7), none⟩])
 (.seq (.seqR [⟨.move, [.tmp 0], (some 28), none⟩,
 ⟨.indexStr, [.tmp 28, .const (.int .i64 0)], (some 29), none⟩,
 ⟨(.conv .i32), [.tmp 29], (some 30), none⟩,
 ⟨.move, [.tmp 7], (some 31), none⟩,
 ⟨(.bin .andNot), [.tmp 30, .tmp 31], (some 32), none⟩,
 ⟨.move, [.tmp 7], (some 33), none⟩,
 ⟨(.bin .and), [.const (.int .i32 65533), .tmp 33], (some 34), none⟩,
 ⟨(.bin .or), [.tmp 32, .tmp 34], (some 35), none⟩,
 ⟨.move, [.tmp 35], (some 2), none⟩,
 ⟨.move, [.const (.int .i64 1)], (some 3), none⟩])
 .ret))
 .skip))
 (.seq (.seqR [⟨.move, [.tmp 6], (some 36), none⟩,
 ⟨(.bin .and), [.tmp 36, .const (.int .u8 7)], (some 37), none⟩,
 ⟨(.conv .i64), [.tmp 37], (some 38), none⟩,
 ⟨.move, [.tmp 38], (some 8), none⟩])
 (.seq (.seqR [⟨.move, [.tmp 6], (some 39), none⟩,
 ⟨(.bin .shr), [.tmp 39, .const (.int .u64 4)], (some 40), none⟩,
 ⟨(.indexAddrA 16 2), [.const (.rptr (some ⟨5, 0, none⟩)), .tmp 40], (some 41), none⟩,
 ⟨(.load true 2), [.tmp 41], (some 42), none⟩,
 ⟨(.new [(.int .u8 0), (.int .u8 0)]), [], (some 9), none⟩,
 ⟨(.store 2), [.tmp 9, .tmp 42], none, none⟩])
 (.seq (.seq (.seqR [⟨.move, [.tmp 4], (some 43), none⟩,
 ⟨.move, [.tmp 8], (some 44), none⟩,
 ⟨(.bin .lss), [.tmp 43, .tmp 44], (some 45), none⟩])
 (.cond (.tmp 45) (.seq (.seqR [⟨.move, [.const (.int .i32 65533)], (some 2), none⟩,
 ⟨.move, [.const (.int .i64 1)], (some 3), none⟩])
 .ret)
 .skip))
 (.seq (.seqR [⟨.move, [.tmp 0], (some 46), none⟩,
 ⟨.indexStr, [.tmp 46, .const (.int .i64 1)], (some 47), none⟩,
 ⟨.move, [.tmp 47], (some 10), none⟩])
 (.seq (.seq (.seqR [⟨.move, [.tmp 10], (some 48), none⟩,
 ⟨(.fieldAddr 0), [.tmp 9], (some 49), none⟩,
 ⟨(.load false 1), [.tmp 49], (some 50), none⟩,
 ⟨(.bin .lss), [.tmp 48, .tmp 50], (some 51), none⟩,
 ⟨.move, [.tmp 51], (some 52), none⟩,
 ⟨(.fieldAddr 1), [.tmp 9], (some 53), some (52, false)⟩,
 ⟨(.load false 1), [.tmp 53], (some 54), some (52, false)⟩,
 ⟨.move, [.tmp 10], (some 55), some (52, false)⟩,
 ⟨(.bin .lss), [.tmp 54, .tmp 55], (some 56), some (52, false)⟩,
 ⟨.pick, [.tmp 52, .const (.bool true), .tmp 56], (some 57), none⟩])
 (.cond (.tmp 57) (.seq (.seqR [⟨.move, [.const (.int .i32 65533)], (some 2), none⟩,
 ⟨.move, [.const (.int .i64 1)], (some 3), none⟩])
 .ret)
 .skip))
 (.seq (.seq (.seqR [⟨.move, [.tmp 8], (some 58), none⟩,
 ⟨(.bin .leq), [.tmp 58, .const (.int .i64 2)], (some 59), none⟩])
 (.cond (.tmp 59) (.seq (.seqR [⟨.move, [.tmp 5], (some 60), none⟩,
 ⟨(.bin .and), [.tmp 60, .const (.int .u8 31)], (some 61), none⟩,
 ⟨(.conv .i32), [.tmp 61], (some 62), none⟩,
 ⟨(.bin .shl), [.tmp 62, .const (.int .u64 6)], (some 63), none⟩,
 ⟨.move, [.tmp 10], (some 64), none⟩,
 ⟨(.bin .and), [.tmp 64, .const (.int .u8 63)], (some 65), none⟩,
 ⟨(.conv .i32), [.tmp 65], (some 66), none⟩,
 ⟨(.bin .or), [.tmp 63, .tmp 66], (some 67), none⟩,
 ⟨.move, [.tmp 67], (some 2), none⟩,
 ⟨.move, [.const (.int .i64 2)], (some 3), none⟩])
 .ret)
 .skip))
 (.seq (.seqR [⟨.move, [.tmp 0], (some 68), none⟩,
 ⟨.indexStr, [.tmp 68, .const (.int .i64 2)], (some 69), none⟩,
 ⟨.move, [.tmp 69], (some 11), none⟩])
 (.seq (.seq (.seqR [⟨.move, [.tmp 11], (some 70), none⟩,
 ⟨(.bin .lss), [.tmp 70, .const (.int .u8 128)], (some 71), none⟩,
 ⟨.move, [.tmp 71], (some 72), none⟩,
 ⟨.move, [.tmp 11], (some 73), some (72, false)⟩,
 ⟨(.bin .lss), [.const (.int .u8 191), .tmp 73], (some 74), some (72, false)⟩,
 ⟨.pick, [.tmp 72, .const (.bool true), .tmp 74], (some 75), none⟩])
 (.cond (.tmp 75) (.seq (.seqR [⟨.move, [.const (.int .i32 65533)], (some 2), none⟩,
 ⟨.move, [.const (.int .i64 1)], (some 3), none⟩])
 .ret)
 .skip))
 (.seq (.seq (.seqR [⟨.move, [.tmp 8], (some 76), none⟩,
 ⟨(.bin .leq), [.tmp 76, .const (.int .i64 3)], (some 77), none⟩])
 (.cond (.tmp 77) (.seq (.seqR [⟨.move, [.tmp 5], (some 78), none⟩,
 ⟨(.bin .and), [.tmp 78, .const (.int .u8 15)], (some 79), none⟩,
 ⟨(.conv .i32), [.tmp 79], (some 80), none⟩,
 ⟨(.bin .shl), [.tmp 80, .const (.int .u64 12)], (some 81), none⟩,
 ⟨.move, [.tmp 10], (some 82), none⟩,
 ⟨(.bin .and), [.tmp 82, .const (.int .u8 63)], (some 83), none⟩,
 ⟨(.conv .i32), [.tmp 83], (some 84), none⟩,
 ⟨(.bin .shl), [.tmp 84, .const (.int .u64 6)], (some 85), none⟩,
 ⟨(.bin .or), [.tmp 81, .tmp 85], (some 86), none⟩,
 ⟨.move, [.tmp 11], (some 87), none⟩,
 ⟨(.bin .and), [.tmp 87, .const (.int .u8 63)], (some 88), none⟩,
 ⟨(.conv .i32), [.tmp 88], (some 89), none⟩,
 ⟨(.bin .or), [.tmp 86, .tmp 89], (some 90), none⟩,
 ⟨.move, [.tmp 90], (some 2), none⟩,
 ⟨.move, [.const (.int .i64 3)], (some 3), none⟩])
 .ret)
 .skip))
 (.seq (.seqR [⟨.move, [.tmp 0], (some 91), none⟩,
 ⟨.indexStr, [.tmp 91, .const (.int .i64 3)], (some 92), none⟩,
 ⟨.move, [.tmp 92], (some 12), none⟩])
 (.seq (.seq (.seqR [⟨.move, [.tmp 12], (some 93), none⟩,
 ⟨(.bin .lss), [.tmp 93, .const (.int .u8 128)], (some 94), none⟩,
 ⟨.move, [.tmp 94], (some 95), none⟩,
 ⟨.move, [.tmp 12], (some 96), some (95, false)⟩,
 ⟨(.bin .lss), [.const (.int .u8 191), .tmp 96], (some 97), some (95, false)⟩,
 ⟨.pick, [.tmp 95, .const (.bool true), .tmp 97], (some 98), none⟩])
 (.cond (.tmp 98) (.seq (.seqR [⟨.move, [.const (.int .i32 65533)], (some 2), none⟩,
 ⟨.move, [.const (.int .i64 1)], (some 3), none⟩])
 .ret)
 .skip))
 (.seq (.seqR [⟨.move, [.tmp 5], (some 99), none⟩,
 ⟨(.bin .and), [.tmp 99, .const (.int .u8 7)], (some 100), none⟩,
 ⟨(.conv .i32), [.tmp 100], (some 101), none⟩,
 ⟨(.bin .shl), [.tmp 101, .const (.int .u64 18)], (some 102), none⟩,
 ⟨.move, [.tmp 10], (some 103), none⟩,
 ⟨(.bin .and), [.tmp 103, .const (.int .u8 63)], (some 104), none⟩,
 ⟨(.conv .i32), [.tmp 104], (some 105), none⟩,
 ⟨(.bin .shl), [.tmp 105, .const (.int .u64 12)], (some 106), none⟩,
 ⟨(.bin .or), [.tmp 102, .tmp 106], (some 107), none⟩,
 ⟨.move, [.tmp 11], (some 108), none⟩,
 ⟨(.bin .and), [.tmp 108, .const (.int .u8 63)], (some 109), none⟩,
 ⟨(.conv .i32), [.tmp 109], (some 110), none⟩,
 ⟨(.bin .shl), [.tmp 110, .const (.int .u64 6)], (some 111), none⟩,
 ⟨(.bin .or), [.tmp 107, .tmp 111], (some 112), none⟩,
 ⟨.move, [.tmp 12], (some 113), none⟩,
 ⟨(.bin .and), [.tmp 113, .const (.int .u8 63)], (some 114), none⟩,
 ⟨(.conv .i32), [.tmp 114], (some 115), none⟩,
 ⟨(.bin .or), [.tmp 112, .tmp 115], (some 116), none⟩,
 ⟨.move, [.tmp 116], (some 2), none⟩,
 ⟨.move, [.const (.int .i64 4)], (some 3), none⟩])
 .ret)))))))))))))))))), [.tmp 2, .tmp 3]⟩
theorem c55_ok : compFunc Tryd.prog Tryd.f55 = some c55 := by kernel_rfl
theorem c55_body : hasBody Tryd.prog 55 = true := hasBody_of Tryd.func55 (by kernel_rfl)
/-- internal/stringslite.Index -/
def c56 : PFn := ⟨143, Tr.ofList (List.replicate 143 undefA), (.seq (.seqR [⟨.move, [.const (.int .i64 0)], (some 4), none⟩])
 (.seq (.seqR [⟨.move, [.tmp 1], (some 14), none⟩,
 ⟨.lenStr, [.tmp 14], (some 15), none⟩,
 ⟨.move, [.tmp 15], (some 5), none⟩])
 (.seq (.block 0 (.seq (.seqR [⟨.move, [.tmp 5], (some 17), none⟩,
 ⟨(.bin .eql), [.tmp 17, .const (.int .i64 0)], (some 18), none⟩,
 ⟨.move, [.tmp 18], (some 19), none⟩,
 ⟨.move, [.tmp 1], (some 20), some (19, false)⟩,
 ⟨.move, [.tmp 0], (some 21), some (19, false)⟩,
 ⟨(.bin .eql), [.tmp 20, .tmp 21], (some 22), some (19, false)⟩,
 ⟨.pick, [.tmp 19, .const (.bool true), .tmp 22], (some 23), none⟩,
 ⟨.move, [.tmp 23], (some 16), none⟩])
 (.cond (.tmp 16) (.seq (.seqR [⟨.move, [.const (.int .i64 0)], (some 4), none⟩])
 .ret)
 (.seq (.seqR [⟨.move, [.tmp 5], (some 25), none⟩,
 ⟨(.bin .eql), [.tmp 25, .const (.int .i64 1)], (some 26), none⟩,
 ⟨.move, [.tmp 26], (some 24), none⟩])
 (.cond (.tmp 24) (.seq (.seqR [⟨.move, [.tmp 0], (some 27), none⟩,
 ⟨.move, [.tmp 1], (some 28), none⟩,
 ⟨.indexStr, [.tmp 28, .const (.int .i64 0)], (some 29), none⟩,
 ⟨(.callF 60), [.tmp 27, .tmp 29], (some 30), none⟩,
 ⟨.move, [.tmp 30], (some 4), none⟩])
 .ret)
 (.seq (.seqR [⟨.move, [.tmp 5], (some 32), none⟩,
 ⟨.move, [.tmp 0], (some 33), none⟩,
 ⟨.lenStr, [.tmp 33], (some 34), none⟩,
 ⟨(.bin .geq), [.tmp 32, .tmp 34], (some 35), none⟩,
 ⟨.move, [.tmp 35], (some 31), none⟩])
 (.cond (.tmp 31) (.seq (.seqR [⟨.move, [.const (.int .i64 (-1))], (some 4), none⟩])
 .ret)
 (.seq (.seqR [⟨.move, [.tmp 5], (some 37), none⟩,
 ⟨(.load false 1), [.const (.rptr (some ⟨3, 0, none⟩))], (some 38), none⟩,
 ⟨(.bin .leq), [.tmp 37, .tmp 38], (some 39), none⟩,
 ⟨.move, [.tmp 39], (some 40), none⟩,
 ⟨.move, [.tmp 0], (some 41), some (40, true)⟩,
 ⟨.lenStr, [.tmp 41], (some 42), some (40, true)⟩,
 ⟨(.bin .leq), [.tmp 42, .const (.int .i64 64)], (some 43), some (40, true)⟩,
 ⟨.pick, [.tmp 40, .tmp 43, .const (.bool false)], (some 44), none⟩,
 ⟨.move, [.tmp 44], (some 36), none⟩])
 (.cond (.tmp 36) (.seq .fail
 .ret)
 .skip)))))))))
 (.seq (.seqR [⟨.move, [.tmp 1], (some 48), none⟩,
 ⟨.indexStr, [.tmp 48, .const (.int .i64 0)], (some 49), none⟩,
 ⟨.move, [.tmp 49], (some 6), none⟩])
 (.seq (.seqR [⟨.move, [.tmp 1], (some 50), none⟩,
 ⟨.indexStr, [.tmp 50, .const (.int .i64 1)], (some 51), none⟩,
 ⟨.move, [.tmp 51], (some 7), none⟩])
 (.seq (.seqR [⟨.move, [.const (.int .i64 0)], (some 8), none⟩])
 (.seq (.seqR [⟨.move, [.tmp 0], (some 52), none⟩,
 ⟨.lenStr, [.tmp 52], (some 53), none⟩,
 ⟨.move, [.tmp 5], (some 54), none⟩,
 ⟨(.bin .sub), [.tmp 53, .tmp 54], (some 55), none⟩,
 ⟨(.bin .add), [.tmp 55, .const (.int .i64 1)], (some 56), none⟩,
 ⟨.move, [.tmp 56], (some 9), none⟩])
 (.seq (.seqR [⟨.move, [.const (.int .i64 0)], (some 10), none⟩])
 (.seq (.block 1 (.loop (.seq (.seq (.seqR [⟨.move, [.tmp 8], (some 57), none⟩,
 ⟨.move, [.tmp 9], (some 58), none⟩,
 ⟨(.bin .lss), [.tmp 57, .tmp 58], (some 59), none⟩])
 (.cond (.tmp 59) .skip
 (.exit 1)))
 (.block 2 (.seq (.seq (.seqR [⟨.move, [.tmp 0], (some 60), none⟩,
 ⟨.move, [.tmp 8], (some 61), none⟩,
 ⟨.indexStr, [.tmp 60, .tmp 61], (some 62), none⟩,
 ⟨.move, [.tmp 6], (some 63), none⟩,
 ⟨(.bin .neq), [.tmp 62, .tmp 63], (some 64), none⟩])
 (.cond (.tmp 64) (.seq (.seqR [⟨.move, [.tmp 0], (some 65), none⟩,
 ⟨.move, [.tmp 8], (some 66), none⟩,
 ⟨(.bin .add), [.tmp 66, .const (.int .i64 1)], (some 67), none⟩,
 ⟨.move, [.tmp 9], (some 68), none⟩,
 ⟨(.sliceStr true true), [.tmp 65, .tmp 67, .tmp 68], (some 69), none⟩,
 ⟨.move, [.tmp 6], (some 70), none⟩,
 ⟨(.callF 60), [.tmp 69, .tmp 70], (some 71), none⟩,
 ⟨.move, [.tmp 71], (some 11), none⟩])
 (.seq (.seq (.seqR [⟨.move, [.tmp 11], (some 72), none⟩,
 ⟨(.bin .lss), [.tmp 72, .const (.int .i64 0)], (some 73), none⟩])
 (.cond (.tmp 73) (.seq (.seqR [⟨.move, [.const (.int .i64 (-1))], (some 4), none⟩])
 .ret)
 .skip))
 (.seqR [⟨.move, [.tmp 8], (some 74), none⟩,
 ⟨.move, [.tmp 11], (some 75), none⟩,
 ⟨(.bin .add), [.tmp 75, .const (.int .i64 1)], (some 76), none⟩,
 ⟨(.bin .add), [.tmp 74, .tmp 76], (some 77), none⟩,
 ⟨.move, [.tmp 77], (some 8), none⟩])))
 .skip))
 (.seq (.seq (.seqR [⟨.move, [.tmp 0], (some 78), none⟩,
 ⟨.move, [.tmp 8], (some 79), none⟩,
 ⟨(.bin .add), [.tmp 79, .const (.int .i64 1)], (some 80), none⟩,
 ⟨.indexStr, [.tmp 78, .tmp 80], (some 81), none⟩,
 ⟨.move, [.tmp 7], (some 82), none⟩,
 ⟨(.bin .eql), [.tmp 81, .tmp 82], (some 83), none⟩,
 ⟨.move, [.tmp 83], (some 84), none⟩,
 ⟨.move, [.tmp 0], (some 85), some (84, true)⟩,
 ⟨.move, [.tmp 8], (some 86), some (84, true)⟩,
 ⟨.move, [.tmp 8], (some 87), some (84, true)⟩,
 ⟨.move, [.tmp 5], (some 88), some (84, true)⟩,
 ⟨(.bin .add), [.tmp 87, .tmp 88], (some 89), some (84, true)⟩,
 ⟨(.sliceStr true true), [.tmp 85, .tmp 86, .tmp 89], (some 90), some (84, true)⟩,
 ⟨.move, [.tmp 1], (some 91), some (84, true)⟩,
 ⟨(.bin .eql), [.tmp 90, .tmp 91], (some 92), some (84, true)⟩,
 ⟨.pick, [.tmp 84, .tmp 92, .const (.bool false)], (some 93), none⟩])
 (.cond (.tmp 93) (.seq (.seqR [⟨.move, [.tmp 8], (some 94), none⟩,
 ⟨.move, [.tmp 94], (some 4), none⟩])
 .ret)
 .skip))
 (.seq (.seqR [⟨.move, [.tmp 8], (some 95), none⟩,
 ⟨(.bin .add), [.tmp 95, .const (.int .i64 1)], (some 96), none⟩,
 ⟨.move, [.tmp 96], (some 8), none⟩])
 (.seq (.seqR [⟨.move, [.tmp 10], (some 97), none⟩,
 ⟨(.bin .add), [.tmp 97, .const (.int .i64 1)], (some 98), none⟩,
 ⟨.move, [.tmp 98], (some 10), none⟩])
 (.seq (.seqR [⟨.move, [.tmp 5], (some 99), none⟩,
 ⟨(.load false 1), [.const (.rptr (some ⟨3, 0, none⟩))], (some 100), none⟩,
 ⟨(.bin .leq), [.tmp 99, .tmp 100], (some 101), none⟩,
 ⟨.move, [.tmp 101], (some 102), none⟩,
 ⟨.move, [.tmp 10], (some 103), some (102, true)⟩,
 ⟨.move, [.tmp 8], (some 104), some (102, true)⟩,
 ⟨(.callF 62), [.tmp 104], (some 105), some (102, true)⟩,
 ⟨(.bin .gtr), [.tmp 103, .tmp 105], (some 106), some (102, true)⟩,
 ⟨.pick, [.tmp 102, .tmp 106, .const (.bool false)], (some 107), none⟩])
 (.cond (.tmp 107) (.seq .fail
 (.seq (.seq (.seqR [⟨.move, [.tmp 12], (some 113), none⟩,
 ⟨(.bin .geq), [.tmp 113, .const (.int .i64 0)], (some 114), none⟩])
 (.cond (.tmp 114) (.seq (.seqR [⟨.move, [.tmp 12], (some 115), none⟩,
 ⟨.move, [.tmp 8], (some 116), none⟩,
 ⟨(.bin .add), [.tmp 115, .tmp 116], (some 117), none⟩,
 ⟨.move, [.tmp 117], (some 4), none⟩])
 .ret)
 .skip))
 (.seq (.seqR [⟨.move, [.const (.int .i64 (-1))], (some 4), none⟩])
 .ret)))
 (.seq (.seqR [⟨.move, [.tmp 5], (some 118), none⟩,
 ⟨(.load false 1), [.const (.rptr (some ⟨3, 0, none⟩))], (some 119), none⟩,
 ⟨(.bin .gtr), [.tmp 118, .tmp 119], (some 120), none⟩,
 ⟨.move, [.tmp 120], (some 121), none⟩,
 ⟨.move, [.tmp 10], (some 122), some (121, true)⟩,
 ⟨.move, [.tmp 8], (some 123), some (121, true)⟩,
 ⟨(.bin .shr), [.tmp 123, .const (.int .u64 4)], (some 124), some (121, true)⟩,
 ⟨(.bin .add), [.const (.int .i64 4), .tmp 124], (some 125), some (121, true)⟩,
 ⟨(.bin .geq), [.tmp 122, .tmp 125], (some 126), some (121, true)⟩,
 ⟨.pick, [.tmp 121, .tmp 126, .const (.bool false)], (some 127), none⟩,
 ⟨.move, [.tmp 127], (some 128), none⟩,
 ⟨.move, [.tmp 8], (some 129), some (128, true)⟩,
 ⟨.move, [.tmp 9], (some 130), some (128, true)⟩,
 ⟨(.bin .lss), [.tmp 129, .tmp 130], (some 131), some (128, true)⟩,
 ⟨.pick, [.tmp 128, .tmp 131, .const (.bool false)], (some 132), none⟩])
 (.cond (.tmp 132) (.seq (.seqR [⟨.move, [.tmp 0], (some 133), none⟩,
 ⟨.move, [.tmp 8], (some 134), none⟩,
 ⟨(.sliceStr true false), [.tmp 133, .tmp 134], (some 135), none⟩,
 ⟨.move, [.tmp 1], (some 136), none⟩,
 ⟨(.callF 63), [.tmp 135, .tmp 136], (some 137), none⟩,
 ⟨.move, [.tmp 137], (some 13), none⟩])
 (.seq (.seq (.seqR [⟨.move, [.tmp 13], (some 138), none⟩,
 ⟨(.bin .lss), [.tmp 138, .const (.int .i64 0)], (some 139), none⟩])
 (.cond (.tmp 139) (.seq (.seqR [⟨.move, [.const (.int .i64 (-1))], (some 4), none⟩])
 .ret)
 .skip))
 (.seq (.seqR [⟨.move, [.tmp 8], (some 140), none⟩,
 ⟨.move, [.tmp 13], (some 141), none⟩,
 ⟨(.bin .add), [.tmp 140, .tmp 141], (some 142), none⟩,
 ⟨.move, [.tmp 142], (some 4), none⟩])
 .ret)))
 .skip))))))))))))
 (.seq (.seqR [⟨.move, [.const (.int .i64 (-1))], (some 4), none⟩])
 .ret)))))))))), [.tmp 4]⟩
theorem c56_ok : compFunc Tryd.prog Tryd.f56 = some c56 := by kernel_rfl
theorem c56_body : hasBody Tryd.prog 56 = true := hasBody_of Tryd.func56 (by kernel_rfl)
/-- internal/strconv.Itoa -/
def c57 : PFn := ⟨5, Tr.ofList (List.replicate 5 undefA), (.seq (.seqR [⟨.move, [.const (.str ⟨#[]⟩)], (some 2), none⟩])
 (.seq (.seqR [⟨.move, [.tmp 0], (some 3), none⟩,
 ⟨(.callF 64), [.tmp 3, .const (.int .i64 10)], (some 4), none⟩,
 ⟨.move, [.tmp 4], (some 2), none⟩])
 .ret)), [.tmp 2]⟩
theorem c57_ok : compFunc Tryd.prog Tryd.f57 = some c57 := by kernel_rfl
theorem c57_body : hasBody Tryd.prog 57 = true := hasBody_of Tryd.func57 (by kernel_rfl)
/-- math/bits.TrailingZeros32 -/
def c58 : PFn := ⟨14, Tr.ofList (List.replicate 14 undefA), (.seq (.seqR [⟨.move, [.const (.int .i64 0)], (some 2), none⟩])
 (.seq (.seq (.seqR [⟨.move, [.tmp 0], (some 3), none⟩,
 ⟨(.bin .eql), [.tmp 3, .const (.int .u32 0)], (some 4), none⟩])
 (.cond (.tmp 4) (.seq (.seqR [⟨.move, [.const (.int .i64 32)], (some 2), none⟩])
 .ret)
 .skip))
 (.seq (.seqR [⟨.move, [.tmp 0], (some 5), none⟩,
 ⟨.move, [.tmp 0], (some 6), none⟩,
 ⟨(.unI true), [.tmp 6], (some 7), none⟩,
 ⟨(.bin .and), [.tmp 5, .tmp 7], (some 8), none⟩,
 ⟨(.bin .mul), [.tmp 8, .const (.int .u32 125613361)], (some 9), none⟩,
 ⟨(.bin .shr), [.tmp 9, .const (.int .u64 27)], (some 10), none⟩,
 ⟨(.indexAddrA 32 1), [.const (.rptr (some ⟨6, 0, none⟩)), .tmp 10], (some 11), none⟩,
 ⟨(.load false 1), [.tmp 11], (some 12), none⟩,
 ⟨(.conv .i64), [.tmp 12], (some 13), none⟩,
 ⟨.move, [.tmp 13], (some 2), none⟩])
 .ret))), [.tmp 2]⟩
theorem c58_ok : compFunc Tryd.prog Tryd.f58 = some c58 := by kernel_rfl
theorem c58_body : hasBody Tryd.prog 58 = true := hasBody_of Tryd.func58 (by kernel_rfl)
/-- math/bits.TrailingZeros64 -/
def c59 : PFn := ⟨14, Tr.ofList (List.replicate 14 undefA), (.seq (.seqR [⟨.move, [.const (.int .i64 0)], (some 2), none⟩])
 (.seq (.seq (.seqR [⟨.move, [.tmp 0], (some 3), none⟩,
 ⟨(.bin .eql), [.tmp 3, .const (.int .u64 0)], (some 4), none⟩])
 (.cond (.tmp 4) (.seq (.seqR [⟨.move, [.const (.int .i64 64)], (some 2), none⟩])
 .ret)
 .skip))
 (.seq (.seqR [⟨.move, [.tmp 0], (some 5), none⟩,
 ⟨.move, [.tmp 0], (some 6), none⟩,
 ⟨(.unI true), [.tmp 6], (some 7), none⟩,
 ⟨(.bin .and), [.tmp 5, .tmp 7], (some 8), none⟩,
 ⟨(.bin .mul), [.tmp 8, .const (.int .u64 285870213051353865)], (some 9), none⟩,
 ⟨(.bin .shr), [.tmp 9, .const (.int .u64 58)], (some 10), none⟩,
 ⟨(.indexAddrA 64 1), [.const (.rptr (some ⟨7, 0, none⟩)), .tmp 10], (some 11), none⟩,
 ⟨(.load false 1), [.tmp 11], (some 12), none⟩,
 ⟨(.conv .i64), [.tmp 12], (some 13), none⟩,
 ⟨.move, [.tmp 13], (some 2), none⟩])
 .ret))), [.tmp 2]⟩
theorem c59_ok : compFunc Tryd.prog Tryd.f59 = some c59 := by kernel_rfl
theorem c59_body : hasBody Tryd.prog 59 = true := hasBody_of Tryd.func59 (by kernel_rfl)
/-- internal/stringslite.IndexByte -/
def c60 : PFn := ⟨8, Tr.ofList (List.replicate 8 undefA), (.seq (.seqR [⟨.move, [.const (.int .i64 0)], (some 4), none⟩])
 (.seq .fail
 .ret)), [.tmp 4]⟩
theorem c60_ok : compFunc Tryd.prog Tryd.f60 = some c60 := by kernel_rfl
theorem c60_body : hasBody Tryd.prog 60 = true := hasBody_of Tryd.func60 (by kernel_rfl)
/-- internal/bytealg.Cutover -/
def c62 : PFn := ⟨6, Tr.ofList (List.replicate 6 undefA), (.seq (.seqR [⟨.move, [.const (.int .i64 0)], (some 2), none⟩])
 (.seq (.seqR [⟨.move, [.tmp 0], (some 3), none⟩,
 ⟨(.bin .add), [.tmp 3, .const (.int .i64 16)], (some 4), none⟩,
 ⟨(.bin .quo), [.tmp 4, .const (.int .i64 8)], (some 5), none⟩,
 ⟨.move, [.tmp 5], (some 2), none⟩])
 .ret)), [.tmp 2]⟩
theorem c62_ok : compFunc Tryd.prog Tryd.f62 = some c62 := by kernel_rfl
theorem c62_body : hasBody Tryd.prog 62 = true := hasBody_of Tryd.func62 (by kernel_rfl)
/-- internal/bytealg.IndexRabinKarp[string] -/
def c63 : PFn := ⟨81, Tr.ofList (List.replicate 81 undefA), (.seq (.seqR [⟨.move, [.const (.int .i64 0)], (some 4), none⟩])
 (.seq (.seqR [⟨.move, [.tmp 1], (some 12), none⟩,
 ⟨(.callF 66), [.tmp 12], (some 13), none⟩,
 ⟨.move, [.tmp 13], (some 11), none⟩,
 ⟨(.extract 0), [.tmp 11], (some 14), none⟩,
 ⟨(.extract 1), [.tmp 11], (some 15), none⟩,
 ⟨.move, [.tmp 14], (some 5), none⟩,
 ⟨.move, [.tmp 15], (some 6), none⟩])
 (.seq (.seqR [⟨.move, [.tmp 1], (some 16), none⟩,
 ⟨.lenStr, [.tmp 16], (some 17), none⟩,
 ⟨.move, [.tmp 17], (some 7), none⟩])
 (.seq (.seqR [⟨.move, [.const (.int .u32 0)], (some 8), none⟩])
 (.seq (.seq (.seqR [⟨.move, [.const (.int .i64 0)], (some 9), none⟩])
 (.block 0 (.loop (.seq (.seq (.seqR [⟨.move, [.tmp 9], (some 18), none⟩,
 ⟨.move, [.tmp 7], (some 19), none⟩,
 ⟨(.bin .lss), [.tmp 18, .tmp 19], (some 20), none⟩])
 (.cond (.tmp 20) .skip
 (.exit 0)))
 (.seq (.block 1 (.seqR [⟨.move, [.tmp 8], (some 23), none⟩,
 ⟨(.bin .mul), [.tmp 23, .const (.int .u32 16777619)], (some 24), none⟩,
 ⟨.move, [.tmp 0], (some 25), none⟩,
 ⟨.move, [.tmp 9], (some 26), none⟩,
 ⟨.indexStr, [.tmp 25, .tmp 26], (some 27), none⟩,
 ⟨(.conv .u32), [.tmp 27], (some 28), none⟩,
 ⟨(.bin .add), [.tmp 24, .tmp 28], (some 29), none⟩,
 ⟨.move, [.tmp 29], (some 8), none⟩]))
 (.seqR [⟨.move, [.tmp 9], (some 21), none⟩,
 ⟨(.bin .add), [.tmp 21, .const (.int .i64 1)], (some 22), none⟩,
 ⟨.move, [.tmp 22], (some 9), none⟩]))))))
 (.seq (.seq (.seqR [⟨.move, [.tmp 8], (some 30), none⟩,
 ⟨.move, [.tmp 5], (some 31), none⟩,
 ⟨(.bin .eql), [.tmp 30, .tmp 31], (some 32), none⟩,
 ⟨.move, [.tmp 32], (some 33), none⟩,
 ⟨.move, [.tmp 0], (some 34), some (33, true)⟩,
 ⟨.move, [.tmp 7], (some 35), some (33, true)⟩,
 ⟨(.sliceStr false true), [.tmp 34, .tmp 35], (some 36), some (33, true)⟩,
 ⟨.move, [.tmp 1], (some 37), some (33, true)⟩,
 ⟨(.bin .eql), [.tmp 36, .tmp 37], (some 38), some (33, true)⟩,
 ⟨.pick, [.tmp 33, .tmp 38, .const (.bool false)], (some 39), none⟩])
 (.cond (.tmp 39) (.seq (.seqR [⟨.move, [.const (.int .i64 0)], (some 4), none⟩])
 .ret)
 .skip))
 (.seq (.seq (.seqR [⟨.move, [.tmp 7], (some 40), none⟩,
 ⟨.move, [.tmp 40], (some 10), none⟩])
 (.block 2 (.loop (.seq (.seq (.seqR [⟨.move, [.tmp 10], (some 41), none⟩,
 ⟨.move, [.tmp 0], (some 42), none⟩,
 ⟨.lenStr, [.tmp 42], (some 43), none⟩,
 ⟨(.bin .lss), [.tmp 41, .tmp 43], (some 44), none⟩])
 (.cond (.tmp 44) .skip
 (.exit 2)))
 (.block 3 (.seq (.seqR [⟨.move, [.tmp 8], (some 45), none⟩,
 ⟨(.bin .mul), [.tmp 45, .const (.int .u32 16777619)], (some 46), none⟩,
 ⟨.move, [.tmp 46], (some 8), none⟩])
 (.seq (.seqR [⟨.move, [.tmp 8], (some 47), none⟩,
 ⟨.move, [.tmp 0], (some 48), none⟩,
 ⟨.move, [.tmp 10], (some 49), none⟩,
 ⟨.indexStr, [.tmp 48, .tmp 49], (some 50), none⟩,
 ⟨(.conv .u32), [.tmp 50], (some 51), none⟩,
 ⟨(.bin .add), [.tmp 47, .tmp 51], (some 52), none⟩,
 ⟨.move, [.tmp 52], (some 8), none⟩])
 (.seq (.seqR [⟨.move, [.tmp 8], (some 53), none⟩,
 ⟨.move, [.tmp 6], (some 54), none⟩,
 ⟨.move, [.tmp 0], (some 55), none⟩,
 ⟨.move, [.tmp 10], (some 56), none⟩,
 ⟨.move, [.tmp 7], (some 57), none⟩,
 ⟨(.bin .sub), [.tmp 56, .tmp 57], (some 58), none⟩,
 ⟨.indexStr, [.tmp 55, .tmp 58], (some 59), none⟩,
 ⟨(.conv .u32), [.tmp 59], (some 60), none⟩,
 ⟨(.bin .mul), [.tmp 54, .tmp 60], (some 61), none⟩,
 ⟨(.bin .sub), [.tmp 53, .tmp 61], (some 62), none⟩,
 ⟨.move, [.tmp 62], (some 8), none⟩])
 (.seq (.seqR [⟨.move, [.tmp 10], (some 63), none⟩,
 ⟨(.bin .add), [.tmp 63, .const (.int .i64 1)], (some 64), none⟩,
 ⟨.move, [.tmp 64], (some 10), none⟩])
 (.seq (.seqR [⟨.move, [.tmp 8], (some 65), none⟩,
 ⟨.move, [.tmp 5], (some 66), none⟩,
 ⟨(.bin .eql), [.tmp 65, .tmp 66], (some 67), none⟩,
 ⟨.move, [.tmp 67], (some 68), none⟩,
 ⟨.move, [.tmp 0], (some 69), some (68, true)⟩,
 ⟨.move, [.tmp 10], (some 70), some (68, true)⟩,
 ⟨.move, [.tmp 7], (some 71), some (68, true)⟩,
 ⟨(.bin .sub), [.tmp 70, .tmp 71], (some 72), some (68, true)⟩,
 ⟨.move, [.tmp 10], (some 73), some (68, true)⟩,
 ⟨(.sliceStr true true), [.tmp 69, .tmp 72, .tmp 73], (some 74), some (68, true)⟩,
 ⟨.move, [.tmp 1], (some 75), some (68, true)⟩,
 ⟨(.bin .eql), [.tmp 74, .tmp 75], (some 76), some (68, true)⟩,
 ⟨.pick, [.tmp 68, .tmp 76, .const (.bool false)], (some 77), none⟩])
 (.cond (.tmp 77) (.seq (.seqR [⟨.move, [.tmp 10], (some 78), none⟩,
 ⟨.move, [.tmp 7], (some 79), none⟩,
 ⟨(.bin .sub), [.tmp 78, .tmp 79], (some 80), none⟩,
 ⟨.move, [.tmp 80], (some 4), none⟩])
 .ret)
 .skip)))))))))))
 (.seq (.seqR [⟨.move, [.const (.int .i64 (-1))], (some 4), none⟩])
 .ret)))))))), [.tmp 4]⟩
theorem c63_ok : compFunc Tryd.prog Tryd.f63 = some c63 := by kernel_rfl
theorem c63_body : hasBody Tryd.prog 63 = true := hasBody_of Tryd.func63 (by kernel_rfl)
/-- internal/strconv.FormatInt -/
def c64 : PFn := ⟨54, Tr.ofList (List.replicate 54 undefA), (.seq (.seqR [⟨.move, [.const (.str ⟨#[]⟩)], (some 4), none⟩])
 (.seq (.seq (.seqR [⟨.move, [.tmp 1], (some 10), none⟩,
 ⟨(.bin .eql), [.tmp 10, .const (.int .i64 10)], (some 11), none⟩])
 (.cond (.tmp 11) (.seq (.seq (.seqR [⟨.move, [.tmp 0], (some 12), none⟩,
 ⟨(.bin .leq), [.const (.int .i64 0), .tmp 12], (some 13), none⟩,
 ⟨.move, [.tmp 13], (some 14), none⟩,
 ⟨.move, [.tmp 0], (some 15), some (14, true)⟩,
 ⟨(.bin .lss), [.tmp 15, .const (.int .i64 100)], (some 16), some (14, true)⟩,
 ⟨.pick, [.tmp 14, .tmp 16, .const (.bool false)], (some 17), none⟩])
 (.cond (.tmp 17) (.seq (.seqR [⟨.move, [.tmp 0], (some 18), none⟩,
 ⟨(.callF 36), [.tmp 18], (some 19), none⟩,
 ⟨.move, [.tmp 19], (some 4), none⟩])
 .ret)
 .skip))
 (.seq (.seqR [⟨(.new [(.int .u8 0), (.int .u8 0), (.int .u8 0), (.int .u8 0), (.int .u8 0), (.int .u8 0), (.int .u8 0), (.int .u8 0), (.int .u8 0), (.int .u8 0), (.int .u8 0), (.int .u8 0), (.int .u8 0), (.int .u8 0), (.int .u8 0), (.int .u8 0), (.int .u8 0), (.int .u8 0), (.int .u8 0), (.int .u8 0), (.int .u8 0), (.int .u8 0), (.int .u8 0), (.int .u8 0)]), [], (some 5), none⟩])
 (.seq (.seqR [⟨.move, [.tmp 0], (some 20), none⟩,
 ⟨(.conv .u64), [.tmp 20], (some 21), none⟩,
 ⟨.move, [.tmp 21], (some 6), none⟩])
 (.seq (.seq (.seqR [⟨.move, [.tmp 0], (some 22), none⟩,
 ⟨(.bin .lss), [.tmp 22, .const (.int .i64 0)], (some 23), none⟩])
 (.cond (.tmp 23) (.seqR [⟨.move, [.tmp 6], (some 24), none⟩,
 ⟨(.unI true), [.tmp 24], (some 25), none⟩,
 ⟨.move, [.tmp 25], (some 6), none⟩])
 .skip))
 (.seq (.seqR [⟨.move, [.tmp 6], (some 26), none⟩,
 ⟨(.callF 37), [.tmp 26], (some 27), none⟩,
 ⟨.move, [.tmp 27], (some 7), none⟩])
 (.seq (.seqR [⟨.move, [.tmp 7], (some 28), none⟩,
 ⟨(.bin .add), [.const (.int .i64 1), .tmp 28], (some 29), none⟩,
 ⟨(.slicePA 24 1 true true false), [.tmp 5, .const (.int .i64 1), .tmp 29], (some 30), none⟩,
 ⟨.move, [.tmp 6], (some 31), none⟩,
 ⟨(.callF 38), [.tmp 30, .tmp 31], (some 32), none⟩])
 (.seq (.seq (.seqR [⟨.move, [.tmp 0], (some 33), none⟩,
 ⟨(.bin .lss), [.tmp 33, .const (.int .i64 0)], (some 34), none⟩])
 (.cond (.tmp 34) (.seq (.seqR [⟨(.indexAddrA 24 1), [.tmp 5, .const (.int .i64 0)], (some 35), none⟩,
 ⟨(.store 1), [.tmp 35, .const (.int .u8 45)], none, none⟩])
 (.seq (.seqR [⟨.move, [.tmp 7], (some 36), none⟩,
 ⟨(.bin .add), [.const (.int .i64 1), .tmp 36], (some 37), none⟩,
 ⟨(.slicePA 24 1 false true false), [.tmp 5, .tmp 37], (some 38), none⟩,
 ⟨.bytesStr, [.tmp 38], (some 39), none⟩,
 ⟨.move, [.tmp 39], (some 4), none⟩])
 .ret))
 .skip))
 (.seq (.seqR [⟨.move, [.tmp 7], (some 40), none⟩,
 ⟨(.bin .add), [.const (.int .i64 1), .tmp 40], (some 41), none⟩,
 ⟨(.slicePA 24 1 true true false), [.tmp 5, .const (.int .i64 1), .tmp 41], (some 42), none⟩,
 ⟨.bytesStr, [.tmp 42], (some 43), none⟩,
 ⟨.move, [.tmp 43], (some 4), none⟩])
 .ret))))))))
 .skip))
 (.seq (.seqR [⟨.move, [.tmp 0], (some 45), none⟩,
 ⟨(.conv .u64), [.tmp 45], (some 46), none⟩,
 ⟨.move, [.tmp 1], (some 47), none⟩,
 ⟨.move, [.tmp 0], (some 48), none⟩,
 ⟨(.bin .lss), [.tmp 48, .const (.int .i64 0)], (some 49), none⟩,
 ⟨(.callF 39), [.const (.slice none 0 0 false), .tmp 46, .tmp 47, .tmp 49, .const (.bool false)], (some 50), none⟩,
 ⟨.move, [.tmp 50], (some 44), none⟩,
 ⟨(.extract 0), [.tmp 44], (some 51), none⟩,
 ⟨(.extract 1), [.tmp 44], (some 52), none⟩,
 ⟨.move, [.tmp 51], (some 8), none⟩,
 ⟨.move, [.tmp 52], (some 9), none⟩])
 (.seq (.seqR [⟨.move, [.tmp 9], (some 53), none⟩,
 ⟨.move, [.tmp 53], (some 4), none⟩])
 .ret)))), [.tmp 4]⟩
theorem c64_ok : compFunc Tryd.prog Tryd.f64 = some c64 := by kernel_rfl
theorem c64_body : hasBody Tryd.prog 64 = true := hasBody_of Tryd.func64 (by kernel_rfl)
/-- internal/bytealg.hashStr[string] -/
def c66 : PFn := ⟨39, Tr.ofList (List.replicate 39 undefA), (.seq (.seqR [⟨.move, [.const (.int .u32 0)], (some 2), none⟩,
 ⟨.move, [.const (.int .u32 0)], (some 3), none⟩])
 (.seq (.seqR [⟨.move, [.const (.int .u32 0)], (some 4), none⟩])
 (.seq (.seq (.seqR [⟨.move, [.const (.int .i64 0)], (some 5), none⟩])
 (.block 0 (.loop (.seq (.seq (.seqR [⟨.move, [.tmp 5], (some 9), none⟩,
 ⟨.move, [.tmp 0], (some 10), none⟩,
 ⟨.lenStr, [.tmp 10], (some 11), none⟩,
 ⟨(.bin .lss), [.tmp 9, .tmp 11], (some 12), none⟩])
 (.cond (.tmp 12) .skip
 (.exit 0)))
 (.seq (.block 1 (.seqR [⟨.move, [.tmp 4], (some 15), none⟩,
 ⟨(.bin .mul), [.tmp 15, .const (.int .u32 16777619)], (some 16), none⟩,
 ⟨.move, [.tmp 0], (some 17), none⟩,
 ⟨.move, [.tmp 5], (some 18), none⟩,
 ⟨.indexStr, [.tmp 17, .tmp 18], (some 19), none⟩,
 ⟨(.conv .u32), [.tmp 19], (some 20), none⟩,
 ⟨(.bin .add), [.tmp 16, .tmp 20], (some 21), none⟩,
 ⟨.move, [.tmp 21], (some 4), none⟩]))
 (.seqR [⟨.move, [.tmp 5], (some 13), none⟩,
 ⟨(.bin .add), [.tmp 13, .const (.int .i64 1)], (some 14), none⟩,
 ⟨.move, [.tmp 14], (some 5), none⟩]))))))
 (.seq (.seqR [⟨.move, [.const (.int .u32 1)], (some 6), none⟩,
 ⟨.move, [.const (.int .u32 16777619)], (some 7), none⟩])
 (.seq (.seq (.seqR [⟨.move, [.tmp 0], (some 22), none⟩,
 ⟨.lenStr, [.tmp 22], (some 23), none⟩,
 ⟨.move, [.tmp 23], (some 8), none⟩])
 (.block 2 (.loop (.seq (.seq (.seqR [⟨.move, [.tmp 8], (some 24), none⟩,
 ⟨(.bin .gtr), [.tmp 24, .const (.int .i64 0)], (some 25), none⟩])
 (.cond (.tmp 25) .skip
 (.exit 2)))
 (.seq (.block 3 (.seq (.seq (.seqR [⟨.move, [.tmp 8], (some 28), none⟩,
 ⟨(.bin .and), [.tmp 28, .const (.int .i64 1)], (some 29), none⟩,
 ⟨(.bin .neq), [.tmp 29, .const (.int .i64 0)], (some 30), none⟩])
 (.cond (.tmp 30) (.seqR [⟨.move, [.tmp 6], (some 31), none⟩,
 ⟨.move, [.tmp 7], (some 32), none⟩,
 ⟨(.bin .mul), [.tmp 31, .tmp 32], (some 33), none⟩,
 ⟨.move, [.tmp 33], (some 6), none⟩])
 .skip))
 (.seqR [⟨.move, [.tmp 7], (some 34), none⟩,
 ⟨.move, [.tmp 7], (some 35), none⟩,
 ⟨(.bin .mul), [.tmp 34, .tmp 35], (some 36), none⟩,
 ⟨.move, [.tmp 36], (some 7), none⟩])))
 (.seqR [⟨.move, [.tmp 8], (some 26), none⟩,
 ⟨(.bin .shr), [.tmp 26, .const (.int .u64 1)], (some 27), none⟩,
 ⟨.move, [.tmp 27], (some 8), none⟩]))))))
 (.seq (.seqR [⟨.move, [.tmp 4], (some 37), none⟩,
 ⟨.move, [.tmp 6], (some 38), none⟩,
 ⟨.move, [.tmp 37], (some 2), none⟩,
 ⟨.move, [.tmp 38], (some 3), none⟩])
 .ret)))))), [.tmp 2, .tmp 3]⟩
theorem c66_ok : compFunc Tryd.prog Tryd.f66 = some c66 := by kernel_rfl
theorem c66_body : hasBody Tryd.prog 66 = true := hasBody_of Tryd.func66 (by kernel_rfl)
end Go.Proofs.YtphdlmmllahgkaaDoor
