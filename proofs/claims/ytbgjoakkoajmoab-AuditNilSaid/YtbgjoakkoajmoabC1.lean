/- The code of the small machine for some of the program's functions: printed by program; each is what the rules make of the program's own. -/
import Derived.Test.YtbgjoakkoajmoabVx16
import Derived.Test.YtbgjoakkoajmoabProg
import Derived.KernelRfl
namespace Go.Proofs.Ytbgjoakkoajmoab
open Go Go.Vx Go.Proofs
/-- (coachyard/deque.Row).Right -/
def c192 : PFn := ⟨34, Tr.ofList (List.replicate 34 undefA), (.seq (.seqR [⟨.box, [.tmp 0], (some 1), none⟩,
 ⟨.move, [.const (.bool false)], (some 2), none⟩])
 (.seq (.seqR [⟨(.fieldAddr 1), [.tmp 1], (some 3), none⟩,
 ⟨(.load false 1), [.tmp 3], (some 4), none⟩,
 ⟨(.bin .geq), [.tmp 4, .const (.int .i64 2)], (some 5), none⟩,
 ⟨.move, [.tmp 5], (some 6), none⟩,
 ⟨(.fieldAddr 1), [.tmp 1], (some 7), some (6, true)⟩,
 ⟨(.load false 1), [.tmp 7], (some 8), some (6, true)⟩,
 ⟨(.bin .leq), [.tmp 8, .const (.int .i64 256)], (some 9), some (6, true)⟩,
 ⟨.pick, [.tmp 6, .tmp 9, .const (.bool false)], (some 10), none⟩,
 ⟨.move, [.tmp 10], (some 11), none⟩,
 ⟨(.fieldAddr 1), [.tmp 1], (some 12), some (11, true)⟩,
 ⟨(.load false 1), [.tmp 12], (some 13), some (11, true)⟩,
 ⟨(.fieldAddr 1), [.tmp 1], (some 14), some (11, true)⟩,
 ⟨(.load false 1), [.tmp 14], (some 15), some (11, true)⟩,
 ⟨(.bin .sub), [.tmp 15, .const (.int .i64 1)], (some 16), some (11, true)⟩,
 ⟨(.bin .and), [.tmp 13, .tmp 16], (some 17), some (11, true)⟩,
 ⟨(.bin .eql), [.tmp 17, .const (.int .i64 0)], (some 18), some (11, true)⟩,
 ⟨.pick, [.tmp 11, .tmp 18, .const (.bool false)], (some 19), none⟩,
 ⟨.move, [.tmp 19], (some 20), none⟩,
 ⟨(.fieldAddr 0), [.tmp 1], (some 21), some (20, true)⟩,
 ⟨(.load false 1), [.tmp 21], (some 22), some (20, true)⟩,
 ⟨(.bin .geq), [.tmp 22, .const (.int .i64 0)], (some 23), some (20, true)⟩,
 ⟨.pick, [.tmp 20, .tmp 23, .const (.bool false)], (some 24), none⟩,
 ⟨.move, [.tmp 24], (some 25), none⟩,
 ⟨(.fieldAddr 0), [.tmp 1], (some 26), some (25, true)⟩,
 ⟨(.load false 1), [.tmp 26], (some 27), some (25, true)⟩,
 ⟨(.fieldAddr 1), [.tmp 1], (some 28), some (25, true)⟩,
 ⟨(.load false 1), [.tmp 28], (some 29), some (25, true)⟩,
 ⟨(.bin .sub), [.const (.int .i64 65536), .tmp 29], (some 30), some (25, true)⟩,
 ⟨(.bin .sub), [.tmp 30, .const (.int .i64 1)], (some 31), some (25, true)⟩,
 ⟨(.bin .lss), [.tmp 27, .tmp 31], (some 32), some (25, true)⟩,
 ⟨.pick, [.tmp 25, .tmp 32, .const (.bool false)], (some 33), none⟩,
 ⟨.move, [.tmp 33], (some 2), none⟩])
 .ret)), [.tmp 2]⟩
theorem c192_ok : compFunc Try.prog Try.f192 = some c192 := by kernel_rfl
theorem c192_body : hasBody Try.prog 192 = true := hasBody_of Try.func192 (by kernel_rfl)
/-- coachyard/deque.ahead -/
def c193 : PFn := ⟨9, Tr.ofList (List.replicate 9 undefA), (.seq (.seqR [⟨.move, [.const (.int .i64 0)], (some 4), none⟩])
 (.seq (.seqR [⟨.move, [.tmp 0], (some 5), none⟩,
 ⟨.move, [.tmp 1], (some 6), none⟩,
 ⟨(.bin .sub), [.tmp 5, .tmp 6], (some 7), none⟩,
 ⟨(.conv .i64), [.tmp 7], (some 8), none⟩,
 ⟨.move, [.tmp 8], (some 4), none⟩])
 .ret)), [.tmp 4]⟩
theorem c193_ok : compFunc Try.prog Try.f193 = some c193 := by kernel_rfl
theorem c193_body : hasBody Try.prog 193 = true := hasBody_of Try.func193 (by kernel_rfl)
/-- (coachyard/deque.Row).slot -/
def c194 : PFn := ⟨16, Tr.ofList (List.replicate 16 undefA), (.seq (.seqR [⟨.box, [.tmp 0], (some 2), none⟩,
 ⟨.move, [.const (.int .i64 0)], (some 4), none⟩])
 (.seq (.seqR [⟨(.fieldAddr 0), [.tmp 2], (some 5), none⟩,
 ⟨(.load false 1), [.tmp 5], (some 6), none⟩,
 ⟨(.bin .add), [.tmp 6, .const (.int .i64 2)], (some 7), none⟩,
 ⟨.move, [.tmp 1], (some 8), none⟩,
 ⟨(.fieldAddr 1), [.tmp 2], (some 9), none⟩,
 ⟨(.load false 1), [.tmp 9], (some 10), none⟩,
 ⟨(.bin .sub), [.tmp 10, .const (.int .i64 1)], (some 11), none⟩,
 ⟨(.conv .u64), [.tmp 11], (some 12), none⟩,
 ⟨(.bin .and), [.tmp 8, .tmp 12], (some 13), none⟩,
 ⟨(.conv .i64), [.tmp 13], (some 14), none⟩,
 ⟨(.bin .add), [.tmp 7, .tmp 14], (some 15), none⟩,
 ⟨.move, [.tmp 15], (some 4), none⟩])
 .ret)), [.tmp 4]⟩
theorem c194_ok : compFunc Try.prog Try.f194 = some c194 := by kernel_rfl
theorem c194_body : hasBody Try.prog 194 = true := hasBody_of Try.func194 (by kernel_rfl)
/-- (coachyard/ring.Row).All -/
def c218 : PFn := ⟨73, Tr.ofList (List.replicate 73 undefA), (.seq (.seqR [⟨.box, [.tmp 0], (some 2), none⟩,
 ⟨.move, [.const (.slice none 0 0 false)], (some 4), none⟩,
 ⟨.move, [.const (.int .i64 0)], (some 5), none⟩])
 (.seq (.block 0 (.seq (.seqR [⟨.move, [.tmp 1], (some 13), none⟩,
 ⟨(.eqPtr false), [.tmp 13, .const (.ptr none)], (some 14), none⟩,
 ⟨.move, [.tmp 14], (some 12), none⟩])
 (.cond (.tmp 12) (.seq (.seqR [⟨.move, [.const (.slice none 0 0 false)], (some 4), none⟩,
 ⟨.move, [.const (.int .i64 1)], (some 5), none⟩])
 .ret)
 (.seq (.seqR [⟨(.load true 2), [.tmp 2], (some 16), none⟩,
 ⟨(.callF 221), [.tmp 16], (some 17), none⟩,
 ⟨.not, [.tmp 17], (some 18), none⟩,
 ⟨.move, [.tmp 18], (some 15), none⟩])
 (.cond (.tmp 15) (.seq (.seqR [⟨.move, [.const (.slice none 0 0 false)], (some 4), none⟩,
 ⟨.move, [.const (.int .i64 2)], (some 5), none⟩])
 .ret)
 (.seq (.drawR [⟨⟨.move, [.tmp 1], (some 20), none⟩, false, false, 0, 0⟩,
 ⟨⟨(.callF 85), [.tmp 20], (some 21), none⟩, true, false, 0, 1⟩,
 ⟨⟨(.fieldAddr 0), [.tmp 2], (some 22), none⟩, false, false, 0, 1⟩,
 ⟨⟨(.load false 1), [.tmp 22], (some 23), none⟩, false, false, 0, 1⟩,
 ⟨⟨(.fieldAddr 1), [.tmp 2], (some 24), none⟩, false, false, 0, 1⟩,
 ⟨⟨(.load false 1), [.tmp 24], (some 25), none⟩, false, false, 0, 1⟩,
 ⟨⟨(.bin .add), [.tmp 23, .tmp 25], (some 26), none⟩, false, false, 0, 1⟩,
 ⟨⟨(.bin .add), [.tmp 26, .const (.int .i64 1)], (some 27), none⟩, false, false, 0, 1⟩,
 ⟨⟨(.bin .leq), [.tmp 21, .tmp 27], (some 28), none⟩, false, false, 1, 1⟩,
 ⟨⟨.move, [.tmp 28], (some 19), none⟩, false, false, 1, 1⟩])
 (.cond (.tmp 19) (.seq (.seqR [⟨.move, [.const (.slice none 0 0 false)], (some 4), none⟩,
 ⟨.move, [.const (.int .i64 3)], (some 5), none⟩])
 .ret)
 .skip)))))))
 (.seq (.seqR [⟨.move, [.tmp 1], (some 29), none⟩,
 ⟨(.callF 86), [.tmp 29], (some 30), none⟩,
 ⟨.move, [.tmp 30], (some 6), none⟩])
 (.seq (.drawR [⟨⟨.move, [.tmp 6], (some 31), none⟩, false, false, 0, 0⟩,
 ⟨⟨(.fieldAddr 0), [.tmp 2], (some 32), none⟩, false, false, 0, 0⟩,
 ⟨⟨(.load false 1), [.tmp 32], (some 33), none⟩, false, false, 0, 0⟩,
 ⟨⟨(.indexAddrS 1), [.tmp 31, .tmp 33], (some 34), none⟩, false, false, 0, 0⟩,
 ⟨⟨(.load false 1), [.tmp 34], (some 35), none⟩, false, false, 0, 0⟩,
 ⟨⟨(.callF 222), [.tmp 35], (some 36), none⟩, true, false, 0, 1⟩,
 ⟨⟨.move, [.tmp 6], (some 37), none⟩, false, false, 0, 1⟩,
 ⟨⟨(.fieldAddr 0), [.tmp 2], (some 38), none⟩, false, false, 0, 1⟩,
 ⟨⟨(.load false 1), [.tmp 38], (some 39), none⟩, false, false, 0, 1⟩,
 ⟨⟨(.bin .add), [.tmp 39, .const (.int .i64 1)], (some 40), none⟩, false, false, 0, 1⟩,
 ⟨⟨(.indexAddrS 1), [.tmp 37, .tmp 40], (some 41), none⟩, false, false, 0, 1⟩,
 ⟨⟨(.load false 1), [.tmp 41], (some 42), none⟩, false, false, 0, 1⟩,
 ⟨⟨(.callF 222), [.tmp 42], (some 43), none⟩, true, false, 1, 2⟩,
 ⟨⟨.move, [.tmp 36], (some 7), none⟩, false, false, 2, 2⟩,
 ⟨⟨.move, [.tmp 43], (some 8), none⟩, false, false, 2, 2⟩])
 (.seq (.seqR [⟨.move, [.tmp 8], (some 44), none⟩,
 ⟨.move, [.tmp 7], (some 45), none⟩,
 ⟨(.callF 223), [.tmp 44, .tmp 45], (some 46), none⟩,
 ⟨.move, [.tmp 46], (some 9), none⟩])
 (.seq (.seq (.seqR [⟨.move, [.tmp 9], (some 47), none⟩,
 ⟨(.bin .lss), [.tmp 47, .const (.int .i64 0)], (some 48), none⟩,
 ⟨.move, [.tmp 48], (some 49), none⟩,
 ⟨.move, [.tmp 9], (some 50), some (49, false)⟩,
 ⟨(.fieldAddr 1), [.tmp 2], (some 51), some (49, false)⟩,
 ⟨(.load false 1), [.tmp 51], (some 52), some (49, false)⟩,
 ⟨(.bin .gtr), [.tmp 50, .tmp 52], (some 53), some (49, false)⟩,
 ⟨.pick, [.tmp 49, .const (.bool true), .tmp 53], (some 54), none⟩])
 (.cond (.tmp 54) (.seq (.seqR [⟨.move, [.const (.slice none 0 0 false)], (some 4), none⟩,
 ⟨.move, [.const (.int .i64 9)], (some 5), none⟩])
 .ret)
 .skip))
 (.seq (.seqR [⟨.move, [.const (.slice none 0 0 false)], (some 10), none⟩])
 (.seq (.seq (.seqR [⟨.move, [.tmp 9], (some 55), none⟩,
 ⟨(.conv .u32), [.tmp 55], (some 56), none⟩,
 ⟨.move, [.const (.int .u32 0)], (some 57), none⟩])
 (.block 1 (.loop (.seq (.seqR [⟨(.bin .lss), [.tmp 57, .tmp 56], (some 58), none⟩])
 (.seq (.cond (.tmp 58) .skip
 (.exit 1))
 (.seq (.block 2 (.seq (.seqR [⟨.move, [.tmp 57], (some 59), none⟩,
 ⟨.move, [.tmp 59], (some 11), none⟩])
 (.seqR [⟨.move, [.tmp 10], (some 60), none⟩,
 ⟨.move, [.tmp 6], (some 61), none⟩,
 ⟨(.load true 2), [.tmp 2], (some 62), none⟩,
 ⟨.move, [.tmp 7], (some 63), none⟩,
 ⟨.move, [.tmp 11], (some 64), none⟩,
 ⟨(.bin .add), [.tmp 63, .tmp 64], (some 65), none⟩,
 ⟨(.callF 224), [.tmp 62, .tmp 65], (some 66), none⟩,
 ⟨(.indexAddrS 1), [.tmp 61, .tmp 66], (some 67), none⟩,
 ⟨(.load false 1), [.tmp 67], (some 68), none⟩,
 ⟨(.sliceLit 1 [(.int .u64 0)] [(0, 1)]), [.tmp 68], (some 69), none⟩,
 ⟨(.append 1 8), [.tmp 60, .tmp 69], (some 70), none⟩,
 ⟨.move, [.tmp 70], (some 10), none⟩])))
 (.seqR [⟨(.bin .add), [.tmp 57, .const (.int .u32 1)], (some 71), none⟩,
 ⟨.move, [.tmp 71], (some 57), none⟩])))))))
 (.seq (.seqR [⟨.move, [.tmp 10], (some 72), none⟩,
 ⟨.move, [.tmp 72], (some 4), none⟩,
 ⟨.move, [.const (.int .i64 0)], (some 5), none⟩])
 .ret))))))))), [.tmp 4, .tmp 5]⟩
theorem c218_ok : compFunc Try.prog Try.f218 = some c218 := by kernel_rfl
theorem c218_body : hasBody Try.prog 218 = true := hasBody_of Try.func218 (by kernel_rfl)
/-- (coachyard/ring.Row).Right -/
def c221 : PFn := ⟨34, Tr.ofList (List.replicate 34 undefA), (.seq (.seqR [⟨.box, [.tmp 0], (some 1), none⟩,
 ⟨.move, [.const (.bool false)], (some 2), none⟩])
 (.seq (.seqR [⟨(.fieldAddr 1), [.tmp 1], (some 3), none⟩,
 ⟨(.load false 1), [.tmp 3], (some 4), none⟩,
 ⟨(.bin .geq), [.tmp 4, .const (.int .i64 2)], (some 5), none⟩,
 ⟨.move, [.tmp 5], (some 6), none⟩,
 ⟨(.fieldAddr 1), [.tmp 1], (some 7), some (6, true)⟩,
 ⟨(.load false 1), [.tmp 7], (some 8), some (6, true)⟩,
 ⟨(.bin .leq), [.tmp 8, .const (.int .i64 256)], (some 9), some (6, true)⟩,
 ⟨.pick, [.tmp 6, .tmp 9, .const (.bool false)], (some 10), none⟩,
 ⟨.move, [.tmp 10], (some 11), none⟩,
 ⟨(.fieldAddr 1), [.tmp 1], (some 12), some (11, true)⟩,
 ⟨(.load false 1), [.tmp 12], (some 13), some (11, true)⟩,
 ⟨(.fieldAddr 1), [.tmp 1], (some 14), some (11, true)⟩,
 ⟨(.load false 1), [.tmp 14], (some 15), some (11, true)⟩,
 ⟨(.bin .sub), [.tmp 15, .const (.int .i64 1)], (some 16), some (11, true)⟩,
 ⟨(.bin .and), [.tmp 13, .tmp 16], (some 17), some (11, true)⟩,
 ⟨(.bin .eql), [.tmp 17, .const (.int .i64 0)], (some 18), some (11, true)⟩,
 ⟨.pick, [.tmp 11, .tmp 18, .const (.bool false)], (some 19), none⟩,
 ⟨.move, [.tmp 19], (some 20), none⟩,
 ⟨(.fieldAddr 0), [.tmp 1], (some 21), some (20, true)⟩,
 ⟨(.load false 1), [.tmp 21], (some 22), some (20, true)⟩,
 ⟨(.bin .geq), [.tmp 22, .const (.int .i64 0)], (some 23), some (20, true)⟩,
 ⟨.pick, [.tmp 20, .tmp 23, .const (.bool false)], (some 24), none⟩,
 ⟨.move, [.tmp 24], (some 25), none⟩,
 ⟨(.fieldAddr 0), [.tmp 1], (some 26), some (25, true)⟩,
 ⟨(.load false 1), [.tmp 26], (some 27), some (25, true)⟩,
 ⟨(.fieldAddr 1), [.tmp 1], (some 28), some (25, true)⟩,
 ⟨(.load false 1), [.tmp 28], (some 29), some (25, true)⟩,
 ⟨(.bin .sub), [.const (.int .i64 65536), .tmp 29], (some 30), some (25, true)⟩,
 ⟨(.bin .sub), [.tmp 30, .const (.int .i64 1)], (some 31), some (25, true)⟩,
 ⟨(.bin .lss), [.tmp 27, .tmp 31], (some 32), some (25, true)⟩,
 ⟨.pick, [.tmp 25, .tmp 32, .const (.bool false)], (some 33), none⟩,
 ⟨.move, [.tmp 33], (some 2), none⟩])
 .ret)), [.tmp 2]⟩
theorem c221_ok : compFunc Try.prog Try.f221 = some c221 := by kernel_rfl
theorem c221_body : hasBody Try.prog 221 = true := hasBody_of Try.func221 (by kernel_rfl)
/-- coachyard/ring.low -/
def c222 : PFn := ⟨11, Tr.ofList (List.replicate 11 undefA), (.seq (.seqR [⟨.move, [.const (.int .u32 0)], (some 2), none⟩])
 (.seq (.seqR [⟨.move, [.tmp 0], (some 6), none⟩,
 ⟨(.callF 87), [.tmp 6], (some 7), none⟩,
 ⟨.move, [.tmp 7], (some 5), none⟩,
 ⟨(.extract 0), [.tmp 5], (some 8), none⟩,
 ⟨(.extract 1), [.tmp 5], (some 9), none⟩,
 ⟨.move, [.tmp 8], (some 3), none⟩,
 ⟨.move, [.tmp 9], (some 4), none⟩])
 (.seq (.seqR [⟨.move, [.tmp 4], (some 10), none⟩,
 ⟨.move, [.tmp 10], (some 2), none⟩])
 .ret))), [.tmp 2]⟩
theorem c222_ok : compFunc Try.prog Try.f222 = some c222 := by kernel_rfl
theorem c222_body : hasBody Try.prog 222 = true := hasBody_of Try.func222 (by kernel_rfl)
/-- coachyard/word.Ahead -/
def c223 : PFn := ⟨10, Tr.ofList (List.replicate 10 undefA), (.seq (.seqR [⟨.move, [.const (.int .i64 0)], (some 4), none⟩])
 (.seq (.seqR [⟨.move, [.tmp 0], (some 5), none⟩,
 ⟨.move, [.tmp 1], (some 6), none⟩,
 ⟨(.bin .sub), [.tmp 5, .tmp 6], (some 7), none⟩,
 ⟨(.conv .i32), [.tmp 7], (some 8), none⟩,
 ⟨(.conv .i64), [.tmp 8], (some 9), none⟩,
 ⟨.move, [.tmp 9], (some 4), none⟩])
 .ret)), [.tmp 4]⟩
theorem c223_ok : compFunc Try.prog Try.f223 = some c223 := by kernel_rfl
theorem c223_body : hasBody Try.prog 223 = true := hasBody_of Try.func223 (by kernel_rfl)
/-- (coachyard/ring.Row).slot -/
def c224 : PFn := ⟨16, Tr.ofList (List.replicate 16 undefA), (.seq (.seqR [⟨.box, [.tmp 0], (some 2), none⟩,
 ⟨.move, [.const (.int .i64 0)], (some 4), none⟩])
 (.seq (.seqR [⟨(.fieldAddr 0), [.tmp 2], (some 5), none⟩,
 ⟨(.load false 1), [.tmp 5], (some 6), none⟩,
 ⟨(.bin .add), [.tmp 6, .const (.int .i64 2)], (some 7), none⟩,
 ⟨.move, [.tmp 1], (some 8), none⟩,
 ⟨(.fieldAddr 1), [.tmp 2], (some 9), none⟩,
 ⟨(.load false 1), [.tmp 9], (some 10), none⟩,
 ⟨(.bin .sub), [.tmp 10, .const (.int .i64 1)], (some 11), none⟩,
 ⟨(.conv .u32), [.tmp 11], (some 12), none⟩,
 ⟨(.bin .and), [.tmp 8, .tmp 12], (some 13), none⟩,
 ⟨(.conv .i64), [.tmp 13], (some 14), none⟩,
 ⟨(.bin .add), [.tmp 7, .tmp 14], (some 15), none⟩,
 ⟨.move, [.tmp 15], (some 4), none⟩])
 .ret)), [.tmp 4]⟩
theorem c224_ok : compFunc Try.prog Try.f224 = some c224 := by kernel_rfl
theorem c224_body : hasBody Try.prog 224 = true := hasBody_of Try.func224 (by kernel_rfl)
/-- (coachyard/local.none).All -/
def c247 : PFn := ⟨8, Tr.ofList (List.replicate 8 undefA), (.seq (.seqR [⟨.box, [.tmp 0], (some 2), none⟩,
 ⟨.move, [.const (.slice none 0 0 false)], (some 4), none⟩,
 ⟨.move, [.const (.int .i64 0)], (some 5), none⟩])
 (.seq (.seq (.seqR [⟨.move, [.tmp 1], (some 6), none⟩,
 ⟨(.eqPtr false), [.tmp 6, .const (.ptr none)], (some 7), none⟩])
 (.cond (.tmp 7) (.seq (.seqR [⟨.move, [.const (.slice none 0 0 false)], (some 4), none⟩,
 ⟨.move, [.const (.int .i64 1)], (some 5), none⟩])
 .ret)
 .skip))
 (.seq (.seqR [⟨.move, [.const (.slice none 0 0 false)], (some 4), none⟩,
 ⟨.move, [.const (.int .i64 2)], (some 5), none⟩])
 .ret))), [.tmp 4, .tmp 5]⟩
theorem c247_ok : compFunc Try.prog Try.f247 = some c247 := by kernel_rfl
theorem c247_body : hasBody Try.prog 247 = true := hasBody_of Try.func247 (by kernel_rfl)
end Go.Proofs.Ytbgjoakkoajmoab
