/- The code of the small machine for some of the program's functions: printed by program; each is what the rules make of the program's own. -/
import Derived.Test.YtphdlmmllahgkaaDoorVx16
import Derived.Test.YtphdlmmllahgkaaDoorProg
import Derived.KernelRfl
namespace Go.Proofs.YtphdlmmllahgkaaDoor
open Go Go.Vx Go.Proofs
/-- math/bits.TrailingZeros -/
def c52 : PFn := ⟨8, Tr.ofList (List.replicate 8 undefA), (.seq (.seqR [⟨.move, [.const (.int .i64 0)], (some 2), none⟩])
 (.seq (.cond (.const (.bool false)) (.seq (.seqR [⟨.move, [.tmp 0], (some 3), none⟩,
 ⟨(.conv .u32), [.tmp 3], (some 4), none⟩,
 ⟨(.callF 58), [.tmp 4], (some 5), none⟩,
 ⟨.move, [.tmp 5], (some 2), none⟩])
 .ret)
 .skip)
 (.seq (.seqR [⟨.move, [.tmp 0], (some 6), none⟩,
 ⟨(.callF 59), [.tmp 6], (some 7), none⟩,
 ⟨.move, [.tmp 7], (some 2), none⟩])
 .ret))), [.tmp 2]⟩
theorem c52_ok : compFunc Tryd.prog Tryd.f52 = some c52 := by kernel_rfl
theorem c52_body : hasBody Tryd.prog 52 = true := hasBody_of Tryd.func52 (by kernel_rfl)
/-- internal/strconv.Itoa -/
def c57 : PFn := ⟨5, Tr.ofList (List.replicate 5 undefA), (.seq (.seqR [⟨.move, [.const (.str ⟨#[]⟩)], (some 2), none⟩])
 (.seq (.seqR [⟨.move, [.tmp 0], (some 3), none⟩,
 ⟨(.callF 64), [.tmp 3, .const (.int .i64 10)], (some 4), none⟩,
 ⟨.move, [.tmp 4], (some 2), none⟩])
 .ret)), [.tmp 2]⟩
theorem c57_ok : compFunc Tryd.prog Tryd.f57 = some c57 := by kernel_rfl
theorem c57_body : hasBody Tryd.prog 57 = true := hasBody_of Tryd.func57 (by kernel_rfl)
/-- math/bits.TrailingZeros32 -/
def c58 : PFn := ⟨14, Tr.ofList (List.replicate 14 undefA), (.seq (.seqR [⟨.move, [.const (.int .i64 0)], (some 2), none⟩])
 (.seq (.seq (.seqR [⟨.move, [.tmp 0], (some 3), none⟩,
 ⟨(.bin .eql), [.tmp 3, .const (.int .u32 0)], (some 4), none⟩])
 (.cond (.tmp 4) (.seq (.seqR [⟨.move, [.const (.int .i64 32)], (some 2), none⟩])
 .ret)
 .skip))
 (.seq (.seqR [⟨.move, [.tmp 0], (some 5), none⟩,
 ⟨.move, [.tmp 0], (some 6), none⟩,
 ⟨(.unI true), [.tmp 6], (some 7), none⟩,
 ⟨(.bin .and), [.tmp 5, .tmp 7], (some 8), none⟩,
 ⟨(.bin .mul), [.tmp 8, .const (.int .u32 125613361)], (some 9), none⟩,
 ⟨(.bin .shr), [.tmp 9, .const (.int .u64 27)], (some 10), none⟩,
 ⟨(.indexAddrA 32 1), [.const (.rptr (some ⟨6, 0, none⟩)), .tmp 10], (some 11), none⟩,
 ⟨(.load false 1), [.tmp 11], (some 12), none⟩,
 ⟨(.conv .i64), [.tmp 12], (some 13), none⟩,
 ⟨.move, [.tmp 13], (some 2), none⟩])
 .ret))), [.tmp 2]⟩
theorem c58_ok : compFunc Tryd.prog Tryd.f58 = some c58 := by kernel_rfl
theorem c58_body : hasBody Tryd.prog 58 = true := hasBody_of Tryd.func58 (by kernel_rfl)
/-- math/bits.TrailingZeros64 -/
def c59 : PFn := ⟨14, Tr.ofList (List.replicate 14 undefA), (.seq (.seqR [⟨.move, [.const (.int .i64 0)], (some 2), none⟩])
 (.seq (.seq (.seqR [⟨.move, [.tmp 0], (some 3), none⟩,
 ⟨(.bin .eql), [.tmp 3, .const (.int .u64 0)], (some 4), none⟩])
 (.cond (.tmp 4) (.seq (.seqR [⟨.move, [.const (.int .i64 64)], (some 2), none⟩])
 .ret)
 .skip))
 (.seq (.seqR [⟨.move, [.tmp 0], (some 5), none⟩,
 ⟨.move, [.tmp 0], (some 6), none⟩,
 ⟨(.unI true), [.tmp 6], (some 7), none⟩,
 ⟨(.bin .and), [.tmp 5, .tmp 7], (some 8), none⟩,
 ⟨(.bin .mul), [.tmp 8, .const (.int .u64 285870213051353865)], (some 9), none⟩,
 ⟨(.bin .shr), [.tmp 9, .const (.int .u64 58)], (some 10), none⟩,
 ⟨(.indexAddrA 64 1), [.const (.rptr (some ⟨7, 0, none⟩)), .tmp 10], (some 11), none⟩,
 ⟨(.load false 1), [.tmp 11], (some 12), none⟩,
 ⟨(.conv .i64), [.tmp 12], (some 13), none⟩,
 ⟨.move, [.tmp 13], (some 2), none⟩])
 .ret))), [.tmp 2]⟩
theorem c59_ok : compFunc Tryd.prog Tryd.f59 = some c59 := by kernel_rfl
theorem c59_body : hasBody Tryd.prog 59 = true := hasBody_of Tryd.func59 (by kernel_rfl)
/-- internal/strconv.FormatInt -/
def c64 : PFn := ⟨54, Tr.ofList (List.replicate 54 undefA), (.seq (.seqR [⟨.move, [.const (.str ⟨#[]⟩)], (some 4), none⟩])
 (.seq (.seq (.seqR [⟨.move, [.tmp 1], (some 10), none⟩,
 ⟨(.bin .eql), [.tmp 10, .const (.int .i64 10)], (some 11), none⟩])
 (.cond (.tmp 11) (.seq (.seq (.seqR [⟨.move, [.tmp 0], (some 12), none⟩,
 ⟨(.bin .leq), [.const (.int .i64 0), .tmp 12], (some 13), none⟩,
 ⟨.move, [.tmp 13], (some 14), none⟩,
 ⟨.move, [.tmp 0], (some 15), some (14, true)⟩,
 ⟨(.bin .lss), [.tmp 15, .const (.int .i64 100)], (some 16), some (14, true)⟩,
 ⟨.pick, [.tmp 14, .tmp 16, .const (.bool false)], (some 17), none⟩])
 (.cond (.tmp 17) (.seq (.seqR [⟨.move, [.tmp 0], (some 18), none⟩,
 ⟨(.callF 36), [.tmp 18], (some 19), none⟩,
 ⟨.move, [.tmp 19], (some 4), none⟩])
 .ret)
 .skip))
 (.seq (.seqR [⟨(.new [(.int .u8 0), (.int .u8 0), (.int .u8 0), (.int .u8 0), (.int .u8 0), (.int .u8 0), (.int .u8 0), (.int .u8 0), (.int .u8 0), (.int .u8 0), (.int .u8 0), (.int .u8 0), (.int .u8 0), (.int .u8 0), (.int .u8 0), (.int .u8 0), (.int .u8 0), (.int .u8 0), (.int .u8 0), (.int .u8 0), (.int .u8 0), (.int .u8 0), (.int .u8 0), (.int .u8 0)]), [], (some 5), none⟩])
 (.seq (.seqR [⟨.move, [.tmp 0], (some 20), none⟩,
 ⟨(.conv .u64), [.tmp 20], (some 21), none⟩,
 ⟨.move, [.tmp 21], (some 6), none⟩])
 (.seq (.seq (.seqR [⟨.move, [.tmp 0], (some 22), none⟩,
 ⟨(.bin .lss), [.tmp 22, .const (.int .i64 0)], (some 23), none⟩])
 (.cond (.tmp 23) (.seqR [⟨.move, [.tmp 6], (some 24), none⟩,
 ⟨(.unI true), [.tmp 24], (some 25), none⟩,
 ⟨.move, [.tmp 25], (some 6), none⟩])
 .skip))
 (.seq (.seqR [⟨.move, [.tmp 6], (some 26), none⟩,
 ⟨(.callF 37), [.tmp 26], (some 27), none⟩,
 ⟨.move, [.tmp 27], (some 7), none⟩])
 (.seq (.seqR [⟨.move, [.tmp 7], (some 28), none⟩,
 ⟨(.bin .add), [.const (.int .i64 1), .tmp 28], (some 29), none⟩,
 ⟨(.slicePA 24 1 true true false), [.tmp 5, .const (.int .i64 1), .tmp 29], (some 30), none⟩,
 ⟨.move, [.tmp 6], (some 31), none⟩,
 ⟨(.callF 38), [.tmp 30, .tmp 31], (some 32), none⟩])
 (.seq (.seq (.seqR [⟨.move, [.tmp 0], (some 33), none⟩,
 ⟨(.bin .lss), [.tmp 33, .const (.int .i64 0)], (some 34), none⟩])
 (.cond (.tmp 34) (.seq (.seqR [⟨(.indexAddrA 24 1), [.tmp 5, .const (.int .i64 0)], (some 35), none⟩,
 ⟨(.store 1), [.tmp 35, .const (.int .u8 45)], none, none⟩])
 (.seq (.seqR [⟨.move, [.tmp 7], (some 36), none⟩,
 ⟨(.bin .add), [.const (.int .i64 1), .tmp 36], (some 37), none⟩,
 ⟨(.slicePA 24 1 false true false), [.tmp 5, .tmp 37], (some 38), none⟩,
 ⟨.bytesStr, [.tmp 38], (some 39), none⟩,
 ⟨.move, [.tmp 39], (some 4), none⟩])
 .ret))
 .skip))
 (.seq (.seqR [⟨.move, [.tmp 7], (some 40), none⟩,
 ⟨(.bin .add), [.const (.int .i64 1), .tmp 40], (some 41), none⟩,
 ⟨(.slicePA 24 1 true true false), [.tmp 5, .const (.int .i64 1), .tmp 41], (some 42), none⟩,
 ⟨.bytesStr, [.tmp 42], (some 43), none⟩,
 ⟨.move, [.tmp 43], (some 4), none⟩])
 .ret))))))))
 .skip))
 (.seq (.seqR [⟨.move, [.tmp 0], (some 45), none⟩,
 ⟨(.conv .u64), [.tmp 45], (some 46), none⟩,
 ⟨.move, [.tmp 1], (some 47), none⟩,
 ⟨.move, [.tmp 0], (some 48), none⟩,
 ⟨(.bin .lss), [.tmp 48, .const (.int .i64 0)], (some 49), none⟩,
 ⟨(.callF 39), [.const (.slice none 0 0 false), .tmp 46, .tmp 47, .tmp 49, .const (.bool false)], (some 50), none⟩,
 ⟨.move, [.tmp 50], (some 44), none⟩,
 ⟨(.extract 0), [.tmp 44], (some 51), none⟩,
 ⟨(.extract 1), [.tmp 44], (some 52), none⟩,
 ⟨.move, [.tmp 51], (some 8), none⟩,
 ⟨.move, [.tmp 52], (some 9), none⟩])
 (.seq (.seqR [⟨.move, [.tmp 9], (some 53), none⟩,
 ⟨.move, [.tmp 53], (some 4), none⟩])
 .ret)))), [.tmp 4]⟩
theorem c64_ok : compFunc Tryd.prog Tryd.f64 = some c64 := by kernel_rfl
theorem c64_body : hasBody Tryd.prog 64 = true := hasBody_of Tryd.func64 (by kernel_rfl)
end Go.Proofs.YtphdlmmllahgkaaDoor
