/- The code of the small machine for some of the program's functions: printed by program; each is what the rules make of the program's own. -/
import Derived.Test.YtldijnabgabehaaVx16
import Derived.Test.YtldijnabgabehaaProg
import Derived.KernelRfl
namespace Go.Proofs.Ytldijnabgabehaa
open Go Go.Vx Go.Proofs
/-- (coachyard/stack.Pile).Right -/
def c41 : PFn := ⟨26, Tr.ofList (List.replicate 26 undefA), (.seq (.seqR [⟨.box, [.tmp 0], (some 1), none⟩,
 ⟨.move, [.const (.bool false)], (some 2), none⟩])
 (.seq (.seqR [⟨(.fieldAddr 1), [.tmp 1], (some 3), none⟩,
 ⟨(.load false 1), [.tmp 3], (some 4), none⟩,
 ⟨(.bin .geq), [.tmp 4, .const (.int .i64 1)], (some 5), none⟩,
 ⟨.move, [.tmp 5], (some 6), none⟩,
 ⟨(.fieldAddr 1), [.tmp 1], (some 7), some (6, true)⟩,
 ⟨(.load false 1), [.tmp 7], (some 8), some (6, true)⟩,
 ⟨(.bin .leq), [.tmp 8, .const (.int .i64 4096)], (some 9), some (6, true)⟩,
 ⟨.pick, [.tmp 6, .tmp 9, .const (.bool false)], (some 10), none⟩,
 ⟨.move, [.tmp 10], (some 11), none⟩,
 ⟨(.fieldAddr 0), [.tmp 1], (some 12), some (11, true)⟩,
 ⟨(.load false 1), [.tmp 12], (some 13), some (11, true)⟩,
 ⟨(.bin .geq), [.tmp 13, .const (.int .i64 0)], (some 14), some (11, true)⟩,
 ⟨.pick, [.tmp 11, .tmp 14, .const (.bool false)], (some 15), none⟩,
 ⟨.move, [.tmp 15], (some 16), none⟩,
 ⟨(.fieldAddr 0), [.tmp 1], (some 17), some (16, true)⟩,
 ⟨(.load false 1), [.tmp 17], (some 18), some (16, true)⟩,
 ⟨(.fieldAddr 1), [.tmp 1], (some 19), some (16, true)⟩,
 ⟨(.load false 1), [.tmp 19], (some 20), some (16, true)⟩,
 ⟨(.bin .mul), [.const (.int .i64 3), .tmp 20], (some 21), some (16, true)⟩,
 ⟨(.bin .sub), [.const (.int .i64 65536), .tmp 21], (some 22), some (16, true)⟩,
 ⟨(.bin .sub), [.tmp 22, .const (.int .i64 1)], (some 23), some (16, true)⟩,
 ⟨(.bin .lss), [.tmp 18, .tmp 23], (some 24), some (16, true)⟩,
 ⟨.pick, [.tmp 16, .tmp 24, .const (.bool false)], (some 25), none⟩,
 ⟨.move, [.tmp 25], (some 2), none⟩])
 .ret)), [.tmp 2]⟩
theorem c41_ok : compFunc Try.prog Try.f41 = some c41 := by kernel_rfl
theorem c41_body : hasBody Try.prog 41 = true := hasBody_of Try.func41 (by kernel_rfl)
/-- (*coachyard/cells.Mem).Len -/
def c42 : PFn := ⟨10, Tr.ofList (List.replicate 10 undefA), (.seq (.seqR [⟨.move, [.const (.int .i64 0)], (some 2), none⟩])
 (.seq (.seq (.seqR [⟨.move, [.tmp 0], (some 3), none⟩,
 ⟨(.eqPtr false), [.tmp 3, .const (.ptr none)], (some 4), none⟩])
 (.cond (.tmp 4) (.seq (.seqR [⟨.move, [.const (.int .i64 0)], (some 2), none⟩])
 .ret)
 .skip))
 (.seq (.seqR [⟨.move, [.tmp 0], (some 5), none⟩,
 ⟨.nilCheck, [.tmp 5], (some 6), none⟩,
 ⟨(.fieldAddr 0), [.tmp 6], (some 7), none⟩,
 ⟨(.load false 1), [.tmp 7], (some 8), none⟩,
 ⟨.lenS, [.tmp 8], (some 9), none⟩,
 ⟨.move, [.tmp 9], (some 2), none⟩])
 .ret))), [.tmp 2]⟩
theorem c42_ok : compFunc Try.prog Try.f42 = some c42 := by kernel_rfl
theorem c42_body : hasBody Try.prog 42 = true := hasBody_of Try.func42 (by kernel_rfl)
/-- coachyard/cells.of -/
def c43 : PFn := ⟨14, Tr.ofList (List.replicate 14 undefA), (.seq (.seqR [⟨.move, [.const .nilFunc], (some 2), none⟩])
 (.seq (.seqR [⟨(.build [.nilFunc, .nilFunc, .nilFunc, .nilFunc, .nilFunc, .nilFunc, .nilFunc, .nilFunc] [(0, 1), (1, 1), (2, 1), (3, 1), (4, 1), (5, 1), (6, 1), (7, 1)]), [.const .nilFunc, .const (.func (.func 59) [] []), .const (.func (.func 60) [] []), .const (.func (.func 61) [] []), .const (.func (.func 62) [] []), .const (.func (.func 63) [] []), .const (.func (.func 64) [] []), .const (.func (.func 65) [] [])], (some 4), none⟩,
 ⟨(.new [.nilFunc, .nilFunc, .nilFunc, .nilFunc, .nilFunc, .nilFunc, .nilFunc, .nilFunc]), [], (some 3), none⟩,
 ⟨(.store 8), [.tmp 3, .tmp 4], none, none⟩])
 (.seq (.seq (.seqR [⟨.move, [.tmp 0], (some 5), none⟩,
 ⟨(.bin .lss), [.tmp 5, .const (.int .i64 0)], (some 6), none⟩,
 ⟨.move, [.tmp 6], (some 7), none⟩,
 ⟨.move, [.tmp 0], (some 8), some (7, false)⟩,
 ⟨(.bin .geq), [.tmp 8, .const (.int .i64 8)], (some 9), some (7, false)⟩,
 ⟨.pick, [.tmp 7, .const (.bool true), .tmp 9], (some 10), none⟩])
 (.cond (.tmp 10) (.seq (.seqR [⟨.move, [.const .nilFunc], (some 2), none⟩])
 .ret)
 .skip))
 (.seq (.seqR [⟨.move, [.tmp 0], (some 11), none⟩,
 ⟨(.indexAddrA 8 1), [.tmp 3, .tmp 11], (some 12), none⟩,
 ⟨(.load false 1), [.tmp 12], (some 13), none⟩,
 ⟨.move, [.tmp 13], (some 2), none⟩])
 .ret)))), [.tmp 2]⟩
theorem c43_ok : compFunc Try.prog Try.f43 = some c43 := by kernel_rfl
theorem c43_body : hasBody Try.prog 43 = true := hasBody_of Try.func43 (by kernel_rfl)
/-- (coachyard/arena.Arena).Right -/
def c44 : PFn := ⟨24, Tr.ofList (List.replicate 24 undefA), (.seq (.seqR [⟨.box, [.tmp 0], (some 1), none⟩,
 ⟨.move, [.const (.bool false)], (some 2), none⟩])
 (.seq (.seqR [⟨(.fieldAddr 1), [.tmp 1], (some 3), none⟩,
 ⟨(.load false 1), [.tmp 3], (some 4), none⟩,
 ⟨(.bin .geq), [.tmp 4, .const (.int .i64 1)], (some 5), none⟩,
 ⟨.move, [.tmp 5], (some 6), none⟩,
 ⟨(.fieldAddr 1), [.tmp 1], (some 7), some (6, true)⟩,
 ⟨(.load false 1), [.tmp 7], (some 8), some (6, true)⟩,
 ⟨(.bin .leq), [.tmp 8, .const (.int .i64 4096)], (some 9), some (6, true)⟩,
 ⟨.pick, [.tmp 6, .tmp 9, .const (.bool false)], (some 10), none⟩,
 ⟨.move, [.tmp 10], (some 11), none⟩,
 ⟨(.fieldAddr 0), [.tmp 1], (some 12), some (11, true)⟩,
 ⟨(.load false 1), [.tmp 12], (some 13), some (11, true)⟩,
 ⟨(.bin .geq), [.tmp 13, .const (.int .i64 0)], (some 14), some (11, true)⟩,
 ⟨.pick, [.tmp 11, .tmp 14, .const (.bool false)], (some 15), none⟩,
 ⟨.move, [.tmp 15], (some 16), none⟩,
 ⟨(.fieldAddr 0), [.tmp 1], (some 17), some (16, true)⟩,
 ⟨(.load false 1), [.tmp 17], (some 18), some (16, true)⟩,
 ⟨(.fieldAddr 1), [.tmp 1], (some 19), some (16, true)⟩,
 ⟨(.load false 1), [.tmp 19], (some 20), some (16, true)⟩,
 ⟨(.bin .sub), [.const (.int .i64 65536), .tmp 20], (some 21), some (16, true)⟩,
 ⟨(.bin .lss), [.tmp 18, .tmp 21], (some 22), some (16, true)⟩,
 ⟨.pick, [.tmp 16, .tmp 22, .const (.bool false)], (some 23), none⟩,
 ⟨.move, [.tmp 23], (some 2), none⟩])
 .ret)), [.tmp 2]⟩
theorem c44_ok : compFunc Try.prog Try.f44 = some c44 := by kernel_rfl
theorem c44_body : hasBody Try.prog 44 = true := hasBody_of Try.func44 (by kernel_rfl)
/-- (*coachyard/walk.Walk).Break -/
def c45 : PFn := ⟨8, Tr.ofList (List.replicate 8 undefA), (.seqR [⟨.move, [.tmp 0], (some 4), none⟩,
 ⟨.move, [.tmp 1], (some 5), none⟩,
 ⟨(.build [(.int .i64 0), (.int .u64 0), (.slice none 0 0 false)] [(0, 1)]), [.tmp 5], (some 6), none⟩,
 ⟨(.callF 66), [.tmp 4, .tmp 6], (some 7), none⟩]), []⟩
theorem c45_ok : compFunc Try.prog Try.f45 = some c45 := by kernel_rfl
theorem c45_body : hasBody Try.prog 45 = true := hasBody_of Try.func45 (by kernel_rfl)
/-- (*coachyard/walk.Walk).Give -/
def c46 : PFn := ⟨46, Tr.ofList (List.replicate 46 undefA), (.block 0 (.seq (.seqR [⟨.move, [.tmp 0], (some 8), none⟩,
 ⟨(.eqPtr false), [.tmp 8, .const (.ptr none)], (some 9), none⟩,
 ⟨.move, [.tmp 9], (some 7), none⟩])
 (.cond (.tmp 7) .skip
 (.seq (.seqR [⟨.move, [.tmp 0], (some 11), none⟩,
 ⟨.nilCheck, [.tmp 11], (some 12), none⟩,
 ⟨(.fieldAddr 6), [.tmp 12], (some 13), none⟩,
 ⟨(.load false 1), [.tmp 13], (some 14), none⟩,
 ⟨(.eqPtr true), [.tmp 14, .const (.ptr none)], (some 15), none⟩,
 ⟨.move, [.tmp 15], (some 10), none⟩])
 (.cond (.tmp 10) (.seq (.seqR [⟨.move, [.tmp 0], (some 16), none⟩,
 ⟨.nilCheck, [.tmp 16], (some 17), none⟩,
 ⟨(.fieldAddr 6), [.tmp 17], (some 18), none⟩,
 ⟨(.load false 1), [.tmp 18], (some 19), none⟩,
 ⟨.move, [.tmp 1], (some 20), none⟩,
 ⟨.move, [.tmp 2], (some 21), none⟩,
 ⟨(.callF 46), [.tmp 19, .tmp 20, .tmp 21], (some 22), none⟩])
 (.seqR [⟨.move, [.tmp 0], (some 23), none⟩,
 ⟨(.callF 52), [.tmp 23], (some 24), none⟩]))
 (.seq (.seqR [⟨.move, [.tmp 0], (some 26), none⟩,
 ⟨.nilCheck, [.tmp 26], (some 27), none⟩,
 ⟨(.fieldAddr 5), [.tmp 27], (some 28), none⟩,
 ⟨(.load false 1), [.tmp 28], (some 29), none⟩,
 ⟨.move, [.tmp 29], (some 25), none⟩])
 (.cond (.tmp 25) (.seq (.seqR [⟨.move, [.tmp 0], (some 30), none⟩,
 ⟨.nilCheck, [.tmp 30], (some 31), none⟩,
 ⟨(.fieldAddr 4), [.tmp 31], (some 32), none⟩,
 ⟨(.load false 1), [.tmp 32], (some 33), none⟩,
 ⟨.move, [.tmp 33], (some 6), none⟩])
 (.seq (.seqR [⟨.move, [.tmp 0], (some 34), none⟩,
 ⟨.move, [.tmp 0], (some 35), none⟩,
 ⟨.nilCheck, [.tmp 34], (some 36), none⟩,
 ⟨(.fieldAddr 5), [.tmp 36], (some 37), none⟩,
 ⟨(.store 1), [.tmp 37, .const (.bool false)], none, none⟩,
 ⟨.nilCheck, [.tmp 35], (some 38), none⟩,
 ⟨(.fieldAddr 4), [.tmp 38], (some 39), none⟩,
 ⟨(.store 1), [.tmp 39, .const .nilFunc], none, none⟩])
 (.seq (.seqR [⟨.move, [.tmp 6], (some 40), none⟩,
 ⟨(.eqNil 2 true), [.tmp 40, .const .nilFunc], (some 41), none⟩])
 (.cond (.tmp 41) (.seqR [⟨.move, [.tmp 6], (some 42), none⟩,
 ⟨.move, [.tmp 1], (some 43), none⟩,
 ⟨.move, [.tmp 2], (some 44), none⟩,
 ⟨.callV, [.tmp 42, .tmp 43, .tmp 44], (some 45), none⟩])
 .skip))))
 .skip))))))), []⟩
theorem c46_ok : compFunc Try.prog Try.f46 = some c46 := by kernel_rfl
theorem c46_body : hasBody Try.prog 46 = true := hasBody_of Try.func46 (by kernel_rfl)
/-- slices.Clone[[]uint64,uint64] -/
def c47 : PFn := ⟨8, Tr.ofList (List.replicate 8 undefA), (.seq (.seqR [⟨.move, [.const (.slice none 0 0 false)], (some 2), none⟩])
 (.seq (.seq (.seqR [⟨.move, [.tmp 0], (some 3), none⟩,
 ⟨(.eqNil 0 false), [.tmp 3, .const (.slice none 0 0 false)], (some 4), none⟩])
 (.cond (.tmp 4) (.seq (.seqR [⟨.move, [.const (.slice none 0 0 false)], (some 2), none⟩])
 .ret)
 .skip))
 (.seq (.seqR [⟨(.sliceLit 0 [] []), [], (some 5), none⟩,
 ⟨.move, [.tmp 0], (some 6), none⟩,
 ⟨(.append 1 8), [.tmp 5, .tmp 6], (some 7), none⟩,
 ⟨.move, [.tmp 7], (some 2), none⟩])
 .ret))), [.tmp 2]⟩
theorem c47_ok : compFunc Try.prog Try.f47 = some c47 := by kernel_rfl
theorem c47_body : hasBody Try.prog 47 = true := hasBody_of Try.func47 (by kernel_rfl)
/-- coachyard/word.Split -/
def c48 : PFn := ⟨9, Tr.ofList (List.replicate 9 undefA), (.seq (.seqR [⟨.move, [.const (.int .u32 0)], (some 2), none⟩,
 ⟨.move, [.const (.int .u32 0)], (some 3), none⟩])
 (.seq (.seqR [⟨.move, [.tmp 0], (some 4), none⟩,
 ⟨(.bin .shr), [.tmp 4, .const (.int .u64 32)], (some 5), none⟩,
 ⟨(.conv .u32), [.tmp 5], (some 6), none⟩,
 ⟨.move, [.tmp 0], (some 7), none⟩,
 ⟨(.conv .u32), [.tmp 7], (some 8), none⟩,
 ⟨.move, [.tmp 6], (some 2), none⟩,
 ⟨.move, [.tmp 8], (some 3), none⟩])
 .ret)), [.tmp 2, .tmp 3]⟩
theorem c48_ok : compFunc Try.prog Try.f48 = some c48 := by kernel_rfl
theorem c48_body : hasBody Try.prog 48 = true := hasBody_of Try.func48 (by kernel_rfl)
/-- coachyard/walk.New -/
def c49 : PFn := ⟨12, Tr.ofList (List.replicate 12 undefA), (.seq (.seqR [⟨.move, [.const (.ptr none)], (some 2), none⟩])
 (.seq (.seqR [⟨(.build [(.int .i64 0), (.int .i64 0), (.int .u64 0), (.int .u64 0), .nilFunc, (.bool false), (.ptr none), .nilFunc, (.bool false), (.int .i64 0), (.int .u64 0), (.slice none 0 0 false), (.slice none 0 0 false)] []), [], (some 4), none⟩,
 ⟨.box, [.tmp 4], (some 5), none⟩,
 ⟨.move, [.tmp 5], (some 3), none⟩])
 (.seq (.seq (.seqR [⟨.move, [.tmp 0], (some 6), none⟩,
 ⟨(.eqNil 2 true), [.tmp 6, .const .nilFunc], (some 7), none⟩])
 (.cond (.tmp 7) (.seqR [⟨.move, [.tmp 0], (some 8), none⟩,
 ⟨.move, [.tmp 3], (some 9), none⟩,
 ⟨.callV, [.tmp 8, .tmp 9], (some 10), none⟩])
 .skip))
 (.seq (.seqR [⟨.move, [.tmp 3], (some 11), none⟩,
 ⟨.move, [.tmp 11], (some 2), none⟩])
 .ret)))), [.tmp 2]⟩
theorem c49_ok : compFunc Try.prog Try.f49 = some c49 := by kernel_rfl
theorem c49_body : hasBody Try.prog 49 = true := hasBody_of Try.func49 (by kernel_rfl)
/-- (coachyard/stack.Pile).begun$1 -/
def c50 : PFn := ⟨15, Tr.ofList (List.replicate 15 undefA), (.seq (.seq (.seqR [⟨(.load true 2), [.tmp 1], (some 4), none⟩,
 ⟨(.callF 41), [.tmp 4], (some 5), none⟩,
 ⟨.not, [.tmp 5], (some 6), none⟩])
 (.cond (.tmp 6) (.seq (.seqR [⟨.move, [.tmp 0], (some 7), none⟩,
 ⟨(.callF 45), [.tmp 7, .const (.int .i64 2)], (some 8), none⟩])
 .ret)
 .skip))
 (.seqR [⟨(.load false 1), [.tmp 2], (some 9), none⟩,
 ⟨(.load true 2), [.tmp 1], (some 10), none⟩,
 ⟨.move, [.tmp 0], (some 11), none⟩,
 ⟨(.build [(.int .i64 0), (.int .i64 0), (.ptr none), (.int .u64 0), (.int .u32 0), (.int .u64 0)] [(0, 2), (2, 1)]), [.tmp 10, .tmp 11], (some 12), none⟩,
 ⟨.box, [.tmp 12], (some 13), none⟩,
 ⟨.callV, [.tmp 9, .tmp 13], (some 14), none⟩])), []⟩
theorem c50_ok : compFunc Try.prog Try.f50 = some c50 := by kernel_rfl
theorem c50_body : hasBody Try.prog 50 = true := hasBody_of Try.func50 (by kernel_rfl)
/-- (*coachyard/walk.Walk).free -/
def c51 : PFn := ⟨12, Tr.ofList (List.replicate 12 undefA), (.seq (.seqR [⟨.move, [.const (.bool false)], (some 2), none⟩])
 (.seq (.seqR [⟨.move, [.tmp 0], (some 3), none⟩,
 ⟨(.eqPtr true), [.tmp 3, .const (.ptr none)], (some 4), none⟩,
 ⟨.move, [.tmp 4], (some 5), none⟩,
 ⟨.move, [.tmp 0], (some 6), some (5, true)⟩,
 ⟨.nilCheck, [.tmp 6], (some 7), some (5, true)⟩,
 ⟨(.fieldAddr 8), [.tmp 7], (some 8), some (5, true)⟩,
 ⟨(.load false 1), [.tmp 8], (some 9), some (5, true)⟩,
 ⟨.not, [.tmp 9], (some 10), some (5, true)⟩,
 ⟨.pick, [.tmp 5, .tmp 10, .const (.bool false)], (some 11), none⟩,
 ⟨.move, [.tmp 11], (some 2), none⟩])
 .ret)), [.tmp 2]⟩
theorem c51_ok : compFunc Try.prog Try.f51 = some c51 := by kernel_rfl
theorem c51_body : hasBody Try.prog 51 = true := hasBody_of Try.func51 (by kernel_rfl)
/-- (*coachyard/walk.Walk).leave -/
def c52 : PFn := ⟨41, Tr.ofList (List.replicate 41 undefA), (.seq (.seqR [⟨(.build [(.int .i64 0), (.int .u64 0), (.slice none 0 0 false)] [(0, 1)]), [.const (.int .i64 1)], (some 4), none⟩,
 ⟨(.new [(.int .i64 0), (.int .u64 0), (.slice none 0 0 false)]), [], (some 2), none⟩,
 ⟨(.store 3), [.tmp 2, .tmp 4], none, none⟩])
 (.seq (.seq (.seqR [⟨.move, [.tmp 0], (some 5), none⟩,
 ⟨.nilCheck, [.tmp 5], (some 6), none⟩,
 ⟨(.fieldAddr 6), [.tmp 6], (some 7), none⟩,
 ⟨(.load false 1), [.tmp 7], (some 8), none⟩,
 ⟨(.eqPtr true), [.tmp 8, .const (.ptr none)], (some 9), none⟩])
 (.cond (.tmp 9) (.seq (.seq (.seqR [⟨.move, [.tmp 0], (some 10), none⟩,
 ⟨.nilCheck, [.tmp 10], (some 11), none⟩,
 ⟨(.fieldAddr 6), [.tmp 11], (some 12), none⟩,
 ⟨(.load false 1), [.tmp 12], (some 13), none⟩,
 ⟨.nilCheck, [.tmp 13], (some 14), none⟩,
 ⟨(.fieldAddr 8), [.tmp 14], (some 15), none⟩,
 ⟨(.load false 1), [.tmp 15], (some 16), none⟩,
 ⟨.not, [.tmp 16], (some 17), none⟩])
 (.cond (.tmp 17) .ret
 .skip))
 (.seqR [⟨.move, [.tmp 0], (some 19), none⟩,
 ⟨.nilCheck, [.tmp 19], (some 20), none⟩,
 ⟨(.fieldAddr 6), [.tmp 20], (some 21), none⟩,
 ⟨(.load false 1), [.tmp 21], (some 22), none⟩,
 ⟨(.callF 40), [.tmp 22], (some 23), none⟩,
 ⟨.move, [.tmp 23], (some 18), none⟩,
 ⟨(.extract 0), [.tmp 18], (some 24), none⟩,
 ⟨(.extract 1), [.tmp 18], (some 25), none⟩,
 ⟨(.store 3), [.tmp 2, .tmp 24], none, none⟩]))
 .skip))
 (.seq (.seqR [⟨.move, [.tmp 0], (some 26), none⟩,
 ⟨.nilCheck, [.tmp 26], (some 27), none⟩,
 ⟨(.fieldAddr 7), [.tmp 27], (some 28), none⟩,
 ⟨(.load false 1), [.tmp 28], (some 29), none⟩,
 ⟨.move, [.tmp 29], (some 3), none⟩])
 (.seq (.seqR [⟨.move, [.tmp 0], (some 30), none⟩,
 ⟨.move, [.tmp 0], (some 31), none⟩,
 ⟨.nilCheck, [.tmp 30], (some 32), none⟩,
 ⟨(.fieldAddr 6), [.tmp 32], (some 33), none⟩,
 ⟨(.store 1), [.tmp 33, .const (.ptr none)], none, none⟩,
 ⟨.nilCheck, [.tmp 31], (some 34), none⟩,
 ⟨(.fieldAddr 7), [.tmp 34], (some 35), none⟩,
 ⟨(.store 1), [.tmp 35, .const .nilFunc], none, none⟩])
 (.seq (.seqR [⟨.move, [.tmp 3], (some 36), none⟩,
 ⟨(.eqNil 2 true), [.tmp 36, .const .nilFunc], (some 37), none⟩])
 (.cond (.tmp 37) (.seqR [⟨.move, [.tmp 3], (some 38), none⟩,
 ⟨(.load true 3), [.tmp 2], (some 39), none⟩,
 ⟨.callV, [.tmp 38, .tmp 39], (some 40), none⟩])
 .skip)))))), []⟩
theorem c52_ok : compFunc Try.prog Try.f52 = some c52 := by kernel_rfl
theorem c52_body : hasBody Try.prog 52 = true := hasBody_of Try.func52 (by kernel_rfl)
/-- (coachyard/arena.Arena).Take$1 -/
def c53 : PFn := ⟨20, Tr.ofList (List.replicate 20 undefA), (.seq (.seqR [⟨(.load false 1), [.tmp 1], (some 4), none⟩,
 ⟨.move, [.tmp 0], (some 5), none⟩,
 ⟨.nilCheck, [.tmp 4], (some 6), none⟩,
 ⟨(.fieldAddr 2), [.tmp 6], (some 7), none⟩,
 ⟨(.store 1), [.tmp 7, .tmp 5], none, none⟩])
 (.seq (.seq (.seqR [⟨(.load true 2), [.tmp 2], (some 8), none⟩,
 ⟨(.callF 44), [.tmp 8], (some 9), none⟩,
 ⟨.not, [.tmp 9], (some 10), none⟩])
 (.cond (.tmp 10) (.seq (.seqR [⟨.move, [.tmp 0], (some 11), none⟩,
 ⟨(.callF 45), [.tmp 11, .const (.int .i64 2)], (some 12), none⟩])
 .ret)
 .skip))
 (.seqR [⟨.move, [.tmp 0], (some 13), none⟩,
 ⟨(.fieldAddr 0), [.tmp 2], (some 14), none⟩,
 ⟨(.load false 1), [.tmp 14], (some 15), none⟩,
 ⟨(.build [(.int .i64 0), (.int .i64 0), (.int .u64 0), (.int .u64 0)] [(0, 1), (1, 1)]), [.const (.int .i64 1), .tmp 15], (some 16), none⟩,
 ⟨(.load false 1), [.tmp 1], (some 17), none⟩,
 ⟨(.mkFunc (.func 55) 1), [.tmp 17], (some 18), none⟩,
 ⟨(.callF 54), [.tmp 13, .tmp 16, .tmp 18], (some 19), none⟩]))), []⟩
theorem c53_ok : compFunc Try.prog Try.f53 = some c53 := by kernel_rfl
theorem c53_body : hasBody Try.prog 53 = true := hasBody_of Try.func53 (by kernel_rfl)
/-- (*coachyard/walk.Walk).Ask -/
def c54 : PFn := ⟨19, Tr.ofList (List.replicate 19 undefA), (.seq (.seqR [⟨.box, [.tmp 1], (some 4), none⟩])
 (.seq (.seqR [⟨.move, [.tmp 0], (some 6), none⟩,
 ⟨(.callF 51), [.tmp 6], (some 7), none⟩])
 (.cond (.tmp 7) (.seqR [⟨.move, [.tmp 0], (some 8), none⟩,
 ⟨.move, [.tmp 0], (some 9), none⟩,
 ⟨.move, [.tmp 0], (some 10), none⟩,
 ⟨(.load true 4), [.tmp 4], (some 11), none⟩,
 ⟨.move, [.tmp 2], (some 12), none⟩,
 ⟨.nilCheck, [.tmp 8], (some 13), none⟩,
 ⟨(.fieldAddr 0), [.tmp 13], (some 14), none⟩,
 ⟨(.store 4), [.tmp 14, .tmp 11], none, none⟩,
 ⟨.nilCheck, [.tmp 9], (some 15), none⟩,
 ⟨(.fieldAddr 4), [.tmp 15], (some 16), none⟩,
 ⟨(.store 1), [.tmp 16, .tmp 12], none, none⟩,
 ⟨.nilCheck, [.tmp 10], (some 17), none⟩,
 ⟨(.fieldAddr 5), [.tmp 17], (some 18), none⟩,
 ⟨(.store 1), [.tmp 18, .const (.bool true)], none, none⟩])
 .skip))), []⟩
theorem c54_ok : compFunc Try.prog Try.f54 = some c54 := by kernel_rfl
theorem c54_body : hasBody Try.prog 54 = true := hasBody_of Try.func54 (by kernel_rfl)
/-- (*coachyard/arena.take).head -/
def c55 : PFn := ⟨52, Tr.ofList (List.replicate 52 undefA), (.seq (.seqR [⟨.move, [.tmp 0], (some 7), none⟩,
 ⟨.move, [.tmp 1], (some 8), none⟩,
 ⟨.nilCheck, [.tmp 7], (some 9), none⟩,
 ⟨(.fieldAddr 3), [.tmp 9], (some 10), none⟩,
 ⟨(.store 1), [.tmp 10, .tmp 8], none, none⟩])
 (.seq (.seqR [⟨.move, [.tmp 1], (some 11), none⟩,
 ⟨(.callF 28), [.tmp 11], (some 12), none⟩,
 ⟨.move, [.tmp 12], (some 6), none⟩])
 (.block 0 (.seq (.seqR [⟨.move, [.tmp 6], (some 30), none⟩,
 ⟨(.bin .eql), [.tmp 30, .const (.int .u32 0)], (some 31), none⟩,
 ⟨.move, [.tmp 31], (some 29), none⟩])
 (.cond (.tmp 29) (.seqR [⟨.move, [.tmp 0], (some 32), none⟩,
 ⟨.nilCheck, [.tmp 32], (some 33), none⟩,
 ⟨(.fieldAddr 2), [.tmp 33], (some 34), none⟩,
 ⟨(.load false 1), [.tmp 34], (some 35), none⟩,
 ⟨(.build [(.int .i64 0), (.int .u64 0), (.slice none 0 0 false)] [(0, 1)]), [.const (.int .i64 7)], (some 36), none⟩,
 ⟨(.callF 66), [.tmp 35, .tmp 36], (some 37), none⟩])
 (.seq (.seqR [⟨.move, [.tmp 6], (some 39), none⟩,
 ⟨(.conv .i64), [.tmp 39], (some 40), none⟩,
 ⟨.move, [.tmp 0], (some 41), none⟩,
 ⟨.nilCheck, [.tmp 41], (some 42), none⟩,
 ⟨(.fieldAddr 0), [.tmp 42], (some 43), none⟩,
 ⟨(.fieldAddr 1), [.tmp 43], (some 44), none⟩,
 ⟨(.load false 1), [.tmp 44], (some 45), none⟩,
 ⟨(.bin .gtr), [.tmp 40, .tmp 45], (some 46), none⟩,
 ⟨.move, [.tmp 46], (some 38), none⟩])
 (.cond (.tmp 38) (.seqR [⟨.move, [.tmp 0], (some 47), none⟩,
 ⟨.nilCheck, [.tmp 47], (some 48), none⟩,
 ⟨(.fieldAddr 2), [.tmp 48], (some 49), none⟩,
 ⟨(.load false 1), [.tmp 49], (some 50), none⟩,
 ⟨(.callF 45), [.tmp 50, .const (.int .i64 9)], (some 51), none⟩])
 (.drawR [⟨⟨.move, [.tmp 0], (some 13), none⟩, false, false, 0, 0⟩,
 ⟨⟨.nilCheck, [.tmp 13], (some 14), none⟩, false, false, 0, 0⟩,
 ⟨⟨(.fieldAddr 2), [.tmp 14], (some 15), none⟩, false, false, 0, 0⟩,
 ⟨⟨(.load false 1), [.tmp 15], (some 16), none⟩, false, false, 0, 0⟩,
 ⟨⟨.move, [.tmp 0], (some 17), none⟩, false, false, 0, 0⟩,
 ⟨⟨.nilCheck, [.tmp 17], (some 18), none⟩, false, false, 0, 0⟩,
 ⟨⟨(.fieldAddr 0), [.tmp 18], (some 19), none⟩, false, false, 0, 0⟩,
 ⟨⟨(.fieldAddr 0), [.tmp 19], (some 20), none⟩, false, false, 0, 0⟩,
 ⟨⟨(.load false 1), [.tmp 20], (some 21), none⟩, false, false, 0, 0⟩,
 ⟨⟨.move, [.tmp 6], (some 22), none⟩, false, false, 0, 0⟩,
 ⟨⟨(.conv .i64), [.tmp 22], (some 23), none⟩, false, false, 0, 0⟩,
 ⟨⟨(.bin .add), [.tmp 21, .tmp 23], (some 24), none⟩, false, false, 0, 0⟩,
 ⟨⟨(.build [(.int .i64 0), (.int .i64 0), (.int .u64 0), (.int .u64 0)] [(0, 1), (1, 1)]), [.const (.int .i64 1), .tmp 24], (some 25), none⟩, false, false, 0, 0⟩,
 ⟨⟨.move, [.tmp 0], (some 26), none⟩, false, false, 0, 0⟩,
 ⟨⟨(.mkFunc (.func 67) 1), [.tmp 26], (some 27), none⟩, false, false, 0, 0⟩,
 ⟨⟨(.callF 54), [.tmp 16, .tmp 25, .tmp 27], (some 28), none⟩, true, false, 0, 1⟩])))))))), []⟩
theorem c55_ok : compFunc Try.prog Try.f55 = some c55 := by kernel_rfl
theorem c55_body : hasBody Try.prog 55 = true := hasBody_of Try.func55 (by kernel_rfl)
/-- (coachyard/stack.push).laid -/
def c56 : PFn := ⟨17, Tr.ofList (List.replicate 17 undefA), (.seq (.seqR [⟨.box, [.tmp 0], (some 3), none⟩])
 (.drawR [⟨⟨(.fieldAddr 0), [.tmp 3], (some 6), none⟩, false, false, 0, 0⟩,
 ⟨⟨(.load false 1), [.tmp 6], (some 7), none⟩, false, false, 0, 0⟩,
 ⟨⟨(.fieldAddr 0), [.tmp 3], (some 8), none⟩, false, false, 0, 0⟩,
 ⟨⟨(.load false 1), [.tmp 8], (some 9), none⟩, false, false, 0, 0⟩,
 ⟨⟨.nilCheck, [.tmp 9], (some 10), none⟩, false, false, 0, 0⟩,
 ⟨⟨(.fieldAddr 0), [.tmp 10], (some 11), none⟩, false, false, 0, 0⟩,
 ⟨⟨(.fieldAddr 0), [.tmp 11], (some 12), none⟩, false, false, 0, 0⟩,
 ⟨⟨(.load false 1), [.tmp 12], (some 13), none⟩, false, false, 0, 0⟩,
 ⟨⟨(.load true 1), [.tmp 3], (some 14), none⟩, false, false, 0, 0⟩,
 ⟨⟨(.mkFunc (.func 68) 1), [.tmp 14], (some 15), none⟩, false, false, 0, 0⟩,
 ⟨⟨(.callF 36), [.tmp 7, .tmp 13, .tmp 15], (some 16), none⟩, true, false, 0, 1⟩])), []⟩
theorem c56_ok : compFunc Try.prog Try.f56 = some c56 := by kernel_rfl
theorem c56_body : hasBody Try.prog 56 = true := hasBody_of Try.func56 (by kernel_rfl)
/-- (coachyard/stack.pop).under -/
def c57 : PFn := ⟨13, Tr.ofList (List.replicate 13 undefA), (.seq (.seqR [⟨.box, [.tmp 0], (some 3), none⟩])
 (.drawR [⟨⟨(.fieldAddr 0), [.tmp 3], (some 6), none⟩, false, false, 0, 1⟩,
 ⟨⟨(.load false 1), [.tmp 6], (some 7), none⟩, false, false, 0, 1⟩,
 ⟨⟨.move, [.tmp 1], (some 8), none⟩, false, false, 0, 0⟩,
 ⟨⟨(.callF 23), [.tmp 8], (some 9), none⟩, true, false, 0, 1⟩,
 ⟨⟨(.load true 1), [.tmp 3], (some 10), none⟩, false, false, 0, 1⟩,
 ⟨⟨(.mkFunc (.func 70) 1), [.tmp 10], (some 11), none⟩, false, false, 0, 1⟩,
 ⟨⟨(.callF 69), [.tmp 7, .tmp 9, .tmp 11], (some 12), none⟩, true, false, 1, 2⟩])), []⟩
theorem c57_ok : compFunc Try.prog Try.f57 = some c57 := by kernel_rfl
theorem c57_body : hasBody Try.prog 57 = true := hasBody_of Try.func57 (by kernel_rfl)
/-- (*coachyard/walk.Walk).Want -/
def c58 : PFn := ⟨32, Tr.ofList (List.replicate 32 undefA), (.seq (.seqR [⟨(.new [(.int .i64 0), (.int .i64 0), (.int .u64 0), (.int .u64 0)]), [], (some 2), none⟩,
 ⟨.move, [.const (.bool false)], (some 3), none⟩])
 (.seq (.block 0 (.seq (.seqR [⟨.move, [.tmp 0], (some 5), none⟩,
 ⟨(.eqPtr false), [.tmp 5, .const (.ptr none)], (some 6), none⟩,
 ⟨.move, [.tmp 6], (some 4), none⟩])
 (.cond (.tmp 4) (.seq (.seqR [⟨(.build [(.int .i64 0), (.int .i64 0), (.int .u64 0), (.int .u64 0)] []), [], (some 7), none⟩,
 ⟨(.store 4), [.tmp 2, .tmp 7], none, none⟩,
 ⟨.move, [.const (.bool false)], (some 3), none⟩])
 .ret)
 (.seq (.seqR [⟨.move, [.tmp 0], (some 9), none⟩,
 ⟨.nilCheck, [.tmp 9], (some 10), none⟩,
 ⟨(.fieldAddr 6), [.tmp 10], (some 11), none⟩,
 ⟨(.load false 1), [.tmp 11], (some 12), none⟩,
 ⟨(.eqPtr true), [.tmp 12, .const (.ptr none)], (some 13), none⟩,
 ⟨.move, [.tmp 13], (some 8), none⟩])
 (.cond (.tmp 8) (.seq (.seqR [⟨.move, [.tmp 0], (some 14), none⟩,
 ⟨.nilCheck, [.tmp 14], (some 15), none⟩,
 ⟨(.fieldAddr 6), [.tmp 15], (some 16), none⟩,
 ⟨(.load false 1), [.tmp 16], (some 17), none⟩,
 ⟨(.callF 58), [.tmp 17], (some 18), none⟩,
 ⟨(.extract 0), [.tmp 18], (some 19), none⟩,
 ⟨(.extract 1), [.tmp 18], (some 20), none⟩,
 ⟨(.store 4), [.tmp 2, .tmp 19], none, none⟩,
 ⟨.move, [.tmp 20], (some 3), none⟩])
 .ret)
 (.seq (.seqR [⟨.move, [.tmp 0], (some 22), none⟩,
 ⟨.nilCheck, [.tmp 22], (some 23), none⟩,
 ⟨(.fieldAddr 5), [.tmp 23], (some 24), none⟩,
 ⟨(.load false 1), [.tmp 24], (some 25), none⟩,
 ⟨.not, [.tmp 25], (some 26), none⟩,
 ⟨.move, [.tmp 26], (some 21), none⟩])
 (.cond (.tmp 21) (.seq (.seqR [⟨(.build [(.int .i64 0), (.int .i64 0), (.int .u64 0), (.int .u64 0)] []), [], (some 27), none⟩,
 ⟨(.store 4), [.tmp 2, .tmp 27], none, none⟩,
 ⟨.move, [.const (.bool false)], (some 3), none⟩])
 .ret)
 .skip)))))))
 (.seq (.seqR [⟨.move, [.tmp 0], (some 28), none⟩,
 ⟨.nilCheck, [.tmp 28], (some 29), none⟩,
 ⟨(.fieldAddr 0), [.tmp 29], (some 30), none⟩,
 ⟨(.load true 4), [.tmp 30], (some 31), none⟩,
 ⟨(.store 4), [.tmp 2, .tmp 31], none, none⟩,
 ⟨.move, [.const (.bool true)], (some 3), none⟩])
 .ret))), [.cell 2 true 4, .tmp 3]⟩
theorem c58_ok : compFunc Try.prog Try.f58 = some c58 := by kernel_rfl
theorem c58_body : hasBody Try.prog 58 = true := hasBody_of Try.func58 (by kernel_rfl)
/-- coachyard/cells.load -/
def c59 : PFn := ⟨7, Tr.ofList (List.replicate 7 undefA), (.seq (.seqR [⟨.box, [.tmp 1], (some 3), none⟩,
 ⟨.move, [.const (.int .u64 0)], (some 4), none⟩,
 ⟨.move, [.const (.bool false)], (some 5), none⟩])
 (.seq (.seqR [⟨.move, [.tmp 0], (some 6), none⟩,
 ⟨.move, [.tmp 6], (some 4), none⟩,
 ⟨.move, [.const (.bool true)], (some 5), none⟩])
 .ret)), [.tmp 4, .tmp 5]⟩
theorem c59_ok : compFunc Try.prog Try.f59 = some c59 := by kernel_rfl
theorem c59_body : hasBody Try.prog 59 = true := hasBody_of Try.func59 (by kernel_rfl)
/-- coachyard/cells.store -/
def c60 : PFn := ⟨8, Tr.ofList (List.replicate 8 undefA), (.seq (.seqR [⟨.box, [.tmp 1], (some 3), none⟩,
 ⟨.move, [.const (.int .u64 0)], (some 4), none⟩,
 ⟨.move, [.const (.bool false)], (some 5), none⟩])
 (.seq (.seqR [⟨(.fieldAddr 2), [.tmp 3], (some 6), none⟩,
 ⟨(.load false 1), [.tmp 6], (some 7), none⟩,
 ⟨.move, [.tmp 7], (some 4), none⟩,
 ⟨.move, [.const (.bool true)], (some 5), none⟩])
 .ret)), [.tmp 4, .tmp 5]⟩
theorem c60_ok : compFunc Try.prog Try.f60 = some c60 := by kernel_rfl
theorem c60_body : hasBody Try.prog 60 = true := hasBody_of Try.func60 (by kernel_rfl)
/-- coachyard/cells.cas -/
def c61 : PFn := ⟨13, Tr.ofList (List.replicate 13 undefA), (.seq (.seqR [⟨.box, [.tmp 1], (some 3), none⟩,
 ⟨.move, [.const (.int .u64 0)], (some 4), none⟩,
 ⟨.move, [.const (.bool false)], (some 5), none⟩])
 (.seq (.seq (.seqR [⟨.move, [.tmp 0], (some 6), none⟩,
 ⟨(.fieldAddr 2), [.tmp 3], (some 7), none⟩,
 ⟨(.load false 1), [.tmp 7], (some 8), none⟩,
 ⟨(.bin .neq), [.tmp 6, .tmp 8], (some 9), none⟩])
 (.cond (.tmp 9) (.seq (.seqR [⟨.move, [.tmp 0], (some 10), none⟩,
 ⟨.move, [.tmp 10], (some 4), none⟩,
 ⟨.move, [.const (.bool false)], (some 5), none⟩])
 .ret)
 .skip))
 (.seq (.seqR [⟨(.fieldAddr 3), [.tmp 3], (some 11), none⟩,
 ⟨(.load false 1), [.tmp 11], (some 12), none⟩,
 ⟨.move, [.tmp 12], (some 4), none⟩,
 ⟨.move, [.const (.bool true)], (some 5), none⟩])
 .ret))), [.tmp 4, .tmp 5]⟩
theorem c61_ok : compFunc Try.prog Try.f61 = some c61 := by kernel_rfl
theorem c61_body : hasBody Try.prog 61 = true := hasBody_of Try.func61 (by kernel_rfl)
/-- coachyard/cells.add -/
def c62 : PFn := ⟨10, Tr.ofList (List.replicate 10 undefA), (.seq (.seqR [⟨.box, [.tmp 1], (some 3), none⟩,
 ⟨.move, [.const (.int .u64 0)], (some 4), none⟩,
 ⟨.move, [.const (.bool false)], (some 5), none⟩])
 (.seq (.seqR [⟨.move, [.tmp 0], (some 6), none⟩,
 ⟨(.fieldAddr 2), [.tmp 3], (some 7), none⟩,
 ⟨(.load false 1), [.tmp 7], (some 8), none⟩,
 ⟨(.bin .add), [.tmp 6, .tmp 8], (some 9), none⟩,
 ⟨.move, [.tmp 9], (some 4), none⟩,
 ⟨.move, [.const (.bool true)], (some 5), none⟩])
 .ret)), [.tmp 4, .tmp 5]⟩
theorem c62_ok : compFunc Try.prog Try.f62 = some c62 := by kernel_rfl
theorem c62_body : hasBody Try.prog 62 = true := hasBody_of Try.func62 (by kernel_rfl)
/-- coachyard/cells.or -/
def c63 : PFn := ⟨10, Tr.ofList (List.replicate 10 undefA), (.seq (.seqR [⟨.box, [.tmp 1], (some 3), none⟩,
 ⟨.move, [.const (.int .u64 0)], (some 4), none⟩,
 ⟨.move, [.const (.bool false)], (some 5), none⟩])
 (.seq (.seqR [⟨.move, [.tmp 0], (some 6), none⟩,
 ⟨(.fieldAddr 2), [.tmp 3], (some 7), none⟩,
 ⟨(.load false 1), [.tmp 7], (some 8), none⟩,
 ⟨(.bin .or), [.tmp 6, .tmp 8], (some 9), none⟩,
 ⟨.move, [.tmp 9], (some 4), none⟩,
 ⟨.move, [.const (.bool true)], (some 5), none⟩])
 .ret)), [.tmp 4, .tmp 5]⟩
theorem c63_ok : compFunc Try.prog Try.f63 = some c63 := by kernel_rfl
theorem c63_body : hasBody Try.prog 63 = true := hasBody_of Try.func63 (by kernel_rfl)
/-- coachyard/cells.and -/
def c64 : PFn := ⟨10, Tr.ofList (List.replicate 10 undefA), (.seq (.seqR [⟨.box, [.tmp 1], (some 3), none⟩,
 ⟨.move, [.const (.int .u64 0)], (some 4), none⟩,
 ⟨.move, [.const (.bool false)], (some 5), none⟩])
 (.seq (.seqR [⟨.move, [.tmp 0], (some 6), none⟩,
 ⟨(.fieldAddr 2), [.tmp 3], (some 7), none⟩,
 ⟨(.load false 1), [.tmp 7], (some 8), none⟩,
 ⟨(.bin .and), [.tmp 6, .tmp 8], (some 9), none⟩,
 ⟨.move, [.tmp 9], (some 4), none⟩,
 ⟨.move, [.const (.bool true)], (some 5), none⟩])
 .ret)), [.tmp 4, .tmp 5]⟩
theorem c64_ok : compFunc Try.prog Try.f64 = some c64 := by kernel_rfl
theorem c64_body : hasBody Try.prog 64 = true := hasBody_of Try.func64 (by kernel_rfl)
/-- coachyard/cells.wait -/
def c65 : PFn := ⟨11, Tr.ofList (List.replicate 11 undefA), (.seq (.seqR [⟨.box, [.tmp 1], (some 3), none⟩,
 ⟨.move, [.const (.int .u64 0)], (some 4), none⟩,
 ⟨.move, [.const (.bool false)], (some 5), none⟩])
 (.seq (.drawR [⟨⟨.move, [.tmp 0], (some 6), none⟩, false, false, 0, 0⟩,
 ⟨⟨.move, [.tmp 0], (some 7), none⟩, false, false, 0, 0⟩,
 ⟨⟨(.fieldAddr 2), [.tmp 3], (some 8), none⟩, false, false, 0, 0⟩,
 ⟨⟨(.load false 1), [.tmp 8], (some 9), none⟩, false, false, 0, 0⟩,
 ⟨⟨(.bin .neq), [.tmp 7, .tmp 9], (some 10), none⟩, false, false, 0, 0⟩,
 ⟨⟨.move, [.tmp 6], (some 4), none⟩, false, false, 0, 0⟩,
 ⟨⟨.move, [.tmp 10], (some 5), none⟩, false, false, 0, 0⟩])
 .ret)), [.tmp 4, .tmp 5]⟩
theorem c65_ok : compFunc Try.prog Try.f65 = some c65 := by kernel_rfl
theorem c65_body : hasBody Try.prog 65 = true := hasBody_of Try.func65 (by kernel_rfl)
/-- (*coachyard/walk.Walk).End -/
def c66 : PFn := ⟨29, Tr.ofList (List.replicate 29 undefA), (.seq (.seqR [⟨.box, [.tmp 1], (some 3), none⟩])
 (.seq (.seqR [⟨.move, [.tmp 0], (some 4), none⟩,
 ⟨(.callF 51), [.tmp 4], (some 5), none⟩])
 (.cond (.tmp 5) (.seq (.seqR [⟨(.fieldAddr 2), [.tmp 3], (some 6), none⟩,
 ⟨(.load false 1), [.tmp 6], (some 7), none⟩,
 ⟨(.callF 47), [.tmp 7], (some 8), none⟩,
 ⟨(.fieldAddr 2), [.tmp 3], (some 9), none⟩,
 ⟨(.store 1), [.tmp 9, .tmp 8], none, none⟩])
 (.seq (.drawR [⟨⟨.move, [.tmp 0], (some 10), none⟩, false, false, 0, 0⟩,
 ⟨⟨.move, [.tmp 0], (some 11), none⟩, false, false, 0, 1⟩,
 ⟨⟨(.load true 3), [.tmp 3], (some 12), none⟩, false, false, 0, 1⟩,
 ⟨⟨.nilCheck, [.tmp 10], (some 13), none⟩, false, false, 0, 0⟩,
 ⟨⟨(.fieldAddr 8), [.tmp 13], (some 14), none⟩, false, false, 0, 0⟩,
 ⟨⟨(.store 1), [.tmp 14, .const (.bool true)], none, none⟩, true, false, 0, 1⟩,
 ⟨⟨.nilCheck, [.tmp 11], (some 15), none⟩, false, false, 1, 1⟩,
 ⟨⟨(.fieldAddr 9), [.tmp 15], (some 16), none⟩, false, false, 1, 1⟩,
 ⟨⟨(.store 3), [.tmp 16, .tmp 12], none, none⟩, true, false, 1, 2⟩])
 (.seqR [⟨.move, [.tmp 0], (some 17), none⟩,
 ⟨.move, [.tmp 0], (some 18), none⟩,
 ⟨.move, [.tmp 0], (some 19), none⟩,
 ⟨.move, [.tmp 0], (some 20), none⟩,
 ⟨.nilCheck, [.tmp 17], (some 21), none⟩,
 ⟨(.fieldAddr 5), [.tmp 21], (some 22), none⟩,
 ⟨(.store 1), [.tmp 22, .const (.bool false)], none, none⟩,
 ⟨.nilCheck, [.tmp 18], (some 23), none⟩,
 ⟨(.fieldAddr 4), [.tmp 23], (some 24), none⟩,
 ⟨(.store 1), [.tmp 24, .const .nilFunc], none, none⟩,
 ⟨.nilCheck, [.tmp 19], (some 25), none⟩,
 ⟨(.fieldAddr 6), [.tmp 25], (some 26), none⟩,
 ⟨(.store 1), [.tmp 26, .const (.ptr none)], none, none⟩,
 ⟨.nilCheck, [.tmp 20], (some 27), none⟩,
 ⟨(.fieldAddr 7), [.tmp 27], (some 28), none⟩,
 ⟨(.store 1), [.tmp 28, .const .nilFunc], none, none⟩])))
 .skip))), []⟩
theorem c66_ok : compFunc Try.prog Try.f66 = some c66 := by kernel_rfl
theorem c66_body : hasBody Try.prog 66 = true := hasBody_of Try.func66 (by kernel_rfl)
/-- (*coachyard/arena.take).link -/
def c67 : PFn := ⟨30, Tr.ofList (List.replicate 30 undefA), (.drawR [⟨⟨.move, [.tmp 0], (some 6), none⟩, false, false, 0, 2⟩,
 ⟨⟨.nilCheck, [.tmp 6], (some 7), none⟩, false, false, 0, 2⟩,
 ⟨⟨(.fieldAddr 2), [.tmp 7], (some 8), none⟩, false, false, 0, 2⟩,
 ⟨⟨(.load false 1), [.tmp 8], (some 9), none⟩, false, false, 0, 2⟩,
 ⟨⟨.move, [.tmp 0], (some 10), none⟩, false, false, 0, 2⟩,
 ⟨⟨.nilCheck, [.tmp 10], (some 11), none⟩, false, false, 0, 2⟩,
 ⟨⟨(.fieldAddr 0), [.tmp 11], (some 12), none⟩, false, false, 0, 2⟩,
 ⟨⟨(.fieldAddr 0), [.tmp 12], (some 13), none⟩, false, false, 0, 2⟩,
 ⟨⟨(.load false 1), [.tmp 13], (some 14), none⟩, false, false, 0, 2⟩,
 ⟨⟨.move, [.tmp 0], (some 15), none⟩, false, false, 0, 2⟩,
 ⟨⟨.nilCheck, [.tmp 15], (some 16), none⟩, false, false, 0, 2⟩,
 ⟨⟨(.fieldAddr 3), [.tmp 16], (some 17), none⟩, false, false, 0, 2⟩,
 ⟨⟨(.load false 1), [.tmp 17], (some 18), none⟩, false, false, 0, 2⟩,
 ⟨⟨.move, [.tmp 0], (some 19), none⟩, false, false, 0, 1⟩,
 ⟨⟨.nilCheck, [.tmp 19], (some 20), none⟩, false, false, 0, 1⟩,
 ⟨⟨(.fieldAddr 3), [.tmp 20], (some 21), none⟩, false, false, 0, 1⟩,
 ⟨⟨(.load false 1), [.tmp 21], (some 22), none⟩, false, false, 0, 1⟩,
 ⟨⟨.move, [.tmp 1], (some 23), none⟩, false, false, 0, 0⟩,
 ⟨⟨(.callF 28), [.tmp 23], (some 24), none⟩, true, false, 0, 1⟩,
 ⟨⟨(.callF 71), [.tmp 22, .tmp 24], (some 25), none⟩, true, false, 1, 2⟩,
 ⟨⟨(.build [(.int .i64 0), (.int .i64 0), (.int .u64 0), (.int .u64 0)] [(0, 1), (1, 1), (2, 1), (3, 1)]), [.const (.int .i64 3), .tmp 14, .tmp 18, .tmp 25], (some 26), none⟩, false, false, 2, 2⟩,
 ⟨⟨.move, [.tmp 0], (some 27), none⟩, false, false, 0, 2⟩,
 ⟨⟨(.mkFunc (.func 72) 1), [.tmp 27], (some 28), none⟩, false, false, 0, 2⟩,
 ⟨⟨(.callF 54), [.tmp 9, .tmp 26, .tmp 28], (some 29), none⟩, true, false, 2, 3⟩]), []⟩
theorem c67_ok : compFunc Try.prog Try.f67 = some c67 := by kernel_rfl
theorem c67_body : hasBody Try.prog 67 = true := hasBody_of Try.func67 (by kernel_rfl)
/-- (coachyard/stack.push).top -/
def c68 : PFn := ⟨34, Tr.ofList (List.replicate 34 undefA), (.seq (.seqR [⟨.box, [.tmp 0], (some 3), none⟩])
 (.seq (.seqR [⟨(.fieldAddr 0), [.tmp 3], (some 6), none⟩,
 ⟨(.load false 1), [.tmp 6], (some 7), none⟩,
 ⟨.move, [.tmp 1], (some 8), none⟩,
 ⟨.nilCheck, [.tmp 7], (some 9), none⟩,
 ⟨(.fieldAddr 3), [.tmp 9], (some 10), none⟩,
 ⟨(.store 1), [.tmp 10, .tmp 8], none, none⟩])
 (.drawR [⟨⟨(.fieldAddr 0), [.tmp 3], (some 11), none⟩, false, false, 0, 2⟩,
 ⟨⟨(.load false 1), [.tmp 11], (some 12), none⟩, false, false, 0, 2⟩,
 ⟨⟨.nilCheck, [.tmp 12], (some 13), none⟩, false, false, 0, 2⟩,
 ⟨⟨(.fieldAddr 2), [.tmp 13], (some 14), none⟩, false, false, 0, 2⟩,
 ⟨⟨(.load false 1), [.tmp 14], (some 15), none⟩, false, false, 0, 2⟩,
 ⟨⟨(.fieldAddr 0), [.tmp 3], (some 16), none⟩, false, false, 0, 0⟩,
 ⟨⟨(.load false 1), [.tmp 16], (some 17), none⟩, false, false, 0, 0⟩,
 ⟨⟨.nilCheck, [.tmp 17], (some 18), none⟩, false, false, 0, 0⟩,
 ⟨⟨(.fieldAddr 0), [.tmp 18], (some 19), none⟩, false, false, 0, 0⟩,
 ⟨⟨(.load true 2), [.tmp 19], (some 20), none⟩, false, false, 0, 0⟩,
 ⟨⟨(.fieldAddr 0), [.tmp 3], (some 21), none⟩, false, false, 0, 0⟩,
 ⟨⟨(.load false 1), [.tmp 21], (some 22), none⟩, false, false, 0, 0⟩,
 ⟨⟨.nilCheck, [.tmp 22], (some 23), none⟩, false, false, 0, 0⟩,
 ⟨⟨(.fieldAddr 4), [.tmp 23], (some 24), none⟩, false, false, 0, 0⟩,
 ⟨⟨(.load false 1), [.tmp 24], (some 25), none⟩, false, false, 0, 0⟩,
 ⟨⟨(.callF 24), [.tmp 20, .tmp 25], (some 26), none⟩, true, false, 0, 1⟩,
 ⟨⟨.move, [.tmp 1], (some 27), none⟩, false, false, 0, 1⟩,
 ⟨⟨(.callF 23), [.tmp 27], (some 28), none⟩, true, false, 1, 2⟩,
 ⟨⟨(.conv .u64), [.tmp 28], (some 29), none⟩, false, false, 2, 2⟩,
 ⟨⟨(.build [(.int .i64 0), (.int .i64 0), (.int .u64 0), (.int .u64 0)] [(0, 1), (1, 1), (2, 1)]), [.const (.int .i64 2), .tmp 26, .tmp 29], (some 30), none⟩, false, false, 2, 2⟩,
 ⟨⟨(.load true 1), [.tmp 3], (some 31), none⟩, false, false, 0, 2⟩,
 ⟨⟨(.mkFunc (.func 73) 1), [.tmp 31], (some 32), none⟩, false, false, 0, 2⟩,
 ⟨⟨(.callF 54), [.tmp 15, .tmp 30, .tmp 32], (some 33), none⟩, true, false, 2, 3⟩]))), []⟩
theorem c68_ok : compFunc Try.prog Try.f68 = some c68 := by kernel_rfl
theorem c68_body : hasBody Try.prog 68 = true := hasBody_of Try.func68 (by kernel_rfl)
/-- (*coachyard/stack.way).swing -/
def c69 : PFn := ⟨36, Tr.ofList (List.replicate 36 undefA), (.seq (.seqR [⟨.move, [.tmp 0], (some 9), none⟩,
 ⟨.nilCheck, [.tmp 9], (some 10), none⟩,
 ⟨(.fieldAddr 3), [.tmp 10], (some 11), none⟩,
 ⟨(.load false 1), [.tmp 11], (some 12), none⟩,
 ⟨(.callF 48), [.tmp 12], (some 13), none⟩,
 ⟨.move, [.tmp 13], (some 8), none⟩,
 ⟨(.extract 0), [.tmp 8], (some 14), none⟩,
 ⟨(.extract 1), [.tmp 8], (some 15), none⟩,
 ⟨.move, [.tmp 14], (some 6), none⟩,
 ⟨.move, [.tmp 15], (some 7), none⟩])
 (.drawR [⟨⟨.move, [.tmp 0], (some 16), none⟩, false, false, 0, 1⟩,
 ⟨⟨.nilCheck, [.tmp 16], (some 17), none⟩, false, false, 0, 1⟩,
 ⟨⟨(.fieldAddr 2), [.tmp 17], (some 18), none⟩, false, false, 0, 1⟩,
 ⟨⟨(.load false 1), [.tmp 18], (some 19), none⟩, false, false, 0, 1⟩,
 ⟨⟨.move, [.tmp 0], (some 20), none⟩, false, false, 0, 1⟩,
 ⟨⟨.nilCheck, [.tmp 20], (some 21), none⟩, false, false, 0, 1⟩,
 ⟨⟨(.fieldAddr 0), [.tmp 21], (some 22), none⟩, false, false, 0, 1⟩,
 ⟨⟨(.fieldAddr 0), [.tmp 22], (some 23), none⟩, false, false, 0, 1⟩,
 ⟨⟨(.load false 1), [.tmp 23], (some 24), none⟩, false, false, 0, 1⟩,
 ⟨⟨.move, [.tmp 0], (some 25), none⟩, false, false, 0, 1⟩,
 ⟨⟨.nilCheck, [.tmp 25], (some 26), none⟩, false, false, 0, 1⟩,
 ⟨⟨(.fieldAddr 3), [.tmp 26], (some 27), none⟩, false, false, 0, 1⟩,
 ⟨⟨(.load false 1), [.tmp 27], (some 28), none⟩, false, false, 0, 1⟩,
 ⟨⟨.move, [.tmp 6], (some 29), none⟩, false, false, 0, 0⟩,
 ⟨⟨(.bin .add), [.tmp 29, .const (.int .u32 1)], (some 30), none⟩, false, false, 0, 0⟩,
 ⟨⟨.move, [.tmp 1], (some 31), none⟩, false, false, 0, 0⟩,
 ⟨⟨(.callF 74), [.tmp 30, .tmp 31], (some 32), none⟩, true, false, 0, 1⟩,
 ⟨⟨(.build [(.int .i64 0), (.int .i64 0), (.int .u64 0), (.int .u64 0)] [(0, 1), (1, 1), (2, 1), (3, 1)]), [.const (.int .i64 3), .tmp 24, .tmp 28, .tmp 32], (some 33), none⟩, false, false, 1, 1⟩,
 ⟨⟨.move, [.tmp 2], (some 34), none⟩, false, false, 0, 1⟩,
 ⟨⟨(.callF 54), [.tmp 19, .tmp 33, .tmp 34], (some 35), none⟩, true, false, 1, 2⟩])), []⟩
theorem c69_ok : compFunc Try.prog Try.f69 = some c69 := by kernel_rfl
theorem c69_body : hasBody Try.prog 69 = true := hasBody_of Try.func69 (by kernel_rfl)
/-- (coachyard/stack.pop).tried -/
def c70 : PFn := ⟨27, Tr.ofList (List.replicate 27 undefA), (.seq (.seqR [⟨.box, [.tmp 0], (some 3), none⟩])
 (.seq (.seq (.seqR [⟨.move, [.tmp 2], (some 6), none⟩,
 ⟨.not, [.tmp 6], (some 7), none⟩])
 (.cond (.tmp 7) (.seq (.seqR [⟨(.load true 1), [.tmp 3], (some 8), none⟩,
 ⟨.move, [.tmp 1], (some 9), none⟩,
 ⟨(.callF 37), [.tmp 8, .tmp 9, .const (.bool true)], (some 10), none⟩])
 .ret)
 .skip))
 (.drawR [⟨⟨(.fieldAddr 0), [.tmp 3], (some 11), none⟩, false, false, 0, 1⟩,
 ⟨⟨(.load false 1), [.tmp 11], (some 12), none⟩, false, false, 0, 1⟩,
 ⟨⟨(.fieldAddr 0), [.tmp 3], (some 13), none⟩, false, false, 0, 0⟩,
 ⟨⟨(.load false 1), [.tmp 13], (some 14), none⟩, false, false, 0, 0⟩,
 ⟨⟨.nilCheck, [.tmp 14], (some 15), none⟩, false, false, 0, 0⟩,
 ⟨⟨(.fieldAddr 0), [.tmp 15], (some 16), none⟩, false, false, 0, 0⟩,
 ⟨⟨(.load true 2), [.tmp 16], (some 17), none⟩, false, false, 0, 0⟩,
 ⟨⟨(.fieldAddr 0), [.tmp 3], (some 18), none⟩, false, false, 0, 0⟩,
 ⟨⟨(.load false 1), [.tmp 18], (some 19), none⟩, false, false, 0, 0⟩,
 ⟨⟨.nilCheck, [.tmp 19], (some 20), none⟩, false, false, 0, 0⟩,
 ⟨⟨(.fieldAddr 4), [.tmp 20], (some 21), none⟩, false, false, 0, 0⟩,
 ⟨⟨(.load false 1), [.tmp 21], (some 22), none⟩, false, false, 0, 0⟩,
 ⟨⟨(.callF 26), [.tmp 17, .tmp 22], (some 23), none⟩, true, false, 0, 1⟩,
 ⟨⟨(.load true 1), [.tmp 3], (some 24), none⟩, false, false, 0, 1⟩,
 ⟨⟨(.mkFunc (.func 75) 1), [.tmp 24], (some 25), none⟩, false, false, 0, 1⟩,
 ⟨⟨(.callF 36), [.tmp 12, .tmp 23, .tmp 25], (some 26), none⟩, true, false, 1, 2⟩]))), []⟩
theorem c70_ok : compFunc Try.prog Try.f70 = some c70 := by kernel_rfl
theorem c70_body : hasBody Try.prog 70 = true := hasBody_of Try.func70 (by kernel_rfl)
/-- coachyard/arena.turned -/
def c71 : PFn := ⟨16, Tr.ofList (List.replicate 16 undefA), (.seq (.seqR [⟨.move, [.const (.int .u64 0)], (some 4), none⟩])
 (.seq (.seqR [⟨.move, [.tmp 0], (some 8), none⟩,
 ⟨(.callF 48), [.tmp 8], (some 9), none⟩,
 ⟨.move, [.tmp 9], (some 7), none⟩,
 ⟨(.extract 0), [.tmp 7], (some 10), none⟩,
 ⟨(.extract 1), [.tmp 7], (some 11), none⟩,
 ⟨.move, [.tmp 10], (some 5), none⟩,
 ⟨.move, [.tmp 11], (some 6), none⟩])
 (.seq (.seqR [⟨.move, [.tmp 5], (some 12), none⟩,
 ⟨(.bin .add), [.tmp 12, .const (.int .u32 1)], (some 13), none⟩,
 ⟨.move, [.tmp 1], (some 14), none⟩,
 ⟨(.callF 74), [.tmp 13, .tmp 14], (some 15), none⟩,
 ⟨.move, [.tmp 15], (some 4), none⟩])
 .ret))), [.tmp 4]⟩
theorem c71_ok : compFunc Try.prog Try.f71 = some c71 := by kernel_rfl
theorem c71_body : hasBody Try.prog 71 = true := hasBody_of Try.func71 (by kernel_rfl)
/-- (*coachyard/arena.take).won -/
def c72 : PFn := ⟨23, Tr.ofList (List.replicate 23 undefA), (.seq (.seq (.seqR [⟨.move, [.tmp 2], (some 6), none⟩,
 ⟨.not, [.tmp 6], (some 7), none⟩])
 (.cond (.tmp 7) (.seq (.seqR [⟨.move, [.tmp 0], (some 8), none⟩,
 ⟨.move, [.tmp 1], (some 9), none⟩,
 ⟨(.callF 55), [.tmp 8, .tmp 9, .const (.bool true)], (some 10), none⟩])
 .ret)
 .skip))
 (.drawR [⟨⟨.move, [.tmp 0], (some 11), none⟩, false, false, 0, 1⟩,
 ⟨⟨.nilCheck, [.tmp 11], (some 12), none⟩, false, false, 0, 1⟩,
 ⟨⟨(.fieldAddr 2), [.tmp 12], (some 13), none⟩, false, false, 0, 1⟩,
 ⟨⟨(.load false 1), [.tmp 13], (some 14), none⟩, false, false, 0, 1⟩,
 ⟨⟨.move, [.tmp 0], (some 15), none⟩, false, false, 0, 0⟩,
 ⟨⟨.nilCheck, [.tmp 15], (some 16), none⟩, false, false, 0, 0⟩,
 ⟨⟨(.fieldAddr 3), [.tmp 16], (some 17), none⟩, false, false, 0, 0⟩,
 ⟨⟨(.load false 1), [.tmp 17], (some 18), none⟩, false, false, 0, 0⟩,
 ⟨⟨(.callF 28), [.tmp 18], (some 19), none⟩, true, false, 0, 1⟩,
 ⟨⟨(.conv .u64), [.tmp 19], (some 20), none⟩, false, false, 1, 1⟩,
 ⟨⟨(.build [(.int .i64 0), (.int .u64 0), (.slice none 0 0 false)] [(1, 1)]), [.tmp 20], (some 21), none⟩, false, false, 1, 1⟩,
 ⟨⟨(.callF 66), [.tmp 14, .tmp 21], (some 22), none⟩, true, false, 1, 2⟩])), []⟩
theorem c72_ok : compFunc Try.prog Try.f72 = some c72 := by kernel_rfl
theorem c72_body : hasBody Try.prog 72 = true := hasBody_of Try.func72 (by kernel_rfl)
/-- (coachyard/stack.push).linked -/
def c73 : PFn := ⟨16, Tr.ofList (List.replicate 16 undefA), (.seq (.seqR [⟨.box, [.tmp 0], (some 3), none⟩])
 (.drawR [⟨⟨(.fieldAddr 0), [.tmp 3], (some 6), none⟩, false, false, 0, 0⟩,
 ⟨⟨(.load false 1), [.tmp 6], (some 7), none⟩, false, false, 0, 0⟩,
 ⟨⟨(.fieldAddr 0), [.tmp 3], (some 8), none⟩, false, false, 0, 0⟩,
 ⟨⟨(.load false 1), [.tmp 8], (some 9), none⟩, false, false, 0, 0⟩,
 ⟨⟨.nilCheck, [.tmp 9], (some 10), none⟩, false, false, 0, 0⟩,
 ⟨⟨(.fieldAddr 4), [.tmp 10], (some 11), none⟩, false, false, 0, 0⟩,
 ⟨⟨(.load false 1), [.tmp 11], (some 12), none⟩, false, false, 0, 0⟩,
 ⟨⟨(.load true 1), [.tmp 3], (some 13), none⟩, false, false, 0, 0⟩,
 ⟨⟨(.mkFunc (.func 76) 1), [.tmp 13], (some 14), none⟩, false, false, 0, 0⟩,
 ⟨⟨(.callF 69), [.tmp 7, .tmp 12, .tmp 14], (some 15), none⟩, true, false, 0, 1⟩])), []⟩
theorem c73_ok : compFunc Try.prog Try.f73 = some c73 := by kernel_rfl
theorem c73_body : hasBody Try.prog 73 = true := hasBody_of Try.func73 (by kernel_rfl)
/-- coachyard/word.Pair -/
def c74 : PFn := ⟨11, Tr.ofList (List.replicate 11 undefA), (.seq (.seqR [⟨.move, [.const (.int .u64 0)], (some 4), none⟩])
 (.seq (.seqR [⟨.move, [.tmp 0], (some 5), none⟩,
 ⟨(.conv .u64), [.tmp 5], (some 6), none⟩,
 ⟨(.bin .shl), [.tmp 6, .const (.int .u64 32)], (some 7), none⟩,
 ⟨.move, [.tmp 1], (some 8), none⟩,
 ⟨(.conv .u64), [.tmp 8], (some 9), none⟩,
 ⟨(.bin .or), [.tmp 7, .tmp 9], (some 10), none⟩,
 ⟨.move, [.tmp 10], (some 4), none⟩])
 .ret)), [.tmp 4]⟩
theorem c74_ok : compFunc Try.prog Try.f74 = some c74 := by kernel_rfl
theorem c74_body : hasBody Try.prog 74 = true := hasBody_of Try.func74 (by kernel_rfl)
/-- (coachyard/stack.pop).got -/
def c75 : PFn := ⟨40, Tr.ofList (List.replicate 40 undefA), (.seq (.seqR [⟨.box, [.tmp 0], (some 3), none⟩])
 (.seq (.seqR [⟨(.fieldAddr 0), [.tmp 3], (some 6), none⟩,
 ⟨(.load false 1), [.tmp 6], (some 7), none⟩,
 ⟨.move, [.tmp 1], (some 8), none⟩,
 ⟨.nilCheck, [.tmp 7], (some 9), none⟩,
 ⟨(.fieldAddr 5), [.tmp 9], (some 10), none⟩,
 ⟨(.store 1), [.tmp 10, .tmp 8], none, none⟩])
 (.seq (.seqR [⟨(.fieldAddr 0), [.tmp 3], (some 11), none⟩,
 ⟨(.load false 1), [.tmp 11], (some 12), none⟩,
 ⟨.nilCheck, [.tmp 12], (some 13), none⟩,
 ⟨(.fieldAddr 2), [.tmp 13], (some 14), none⟩,
 ⟨(.load false 1), [.tmp 14], (some 15), none⟩,
 ⟨.move, [.tmp 1], (some 16), none⟩,
 ⟨(.sliceLit 1 [(.int .u64 0)] [(0, 1)]), [.tmp 16], (some 17), none⟩,
 ⟨(.callF 31), [.tmp 15, .tmp 17], (some 18), none⟩])
 (.drawR [⟨⟨(.fieldAddr 0), [.tmp 3], (some 19), none⟩, false, false, 0, 2⟩,
 ⟨⟨(.load false 1), [.tmp 19], (some 20), none⟩, false, false, 0, 2⟩,
 ⟨⟨.nilCheck, [.tmp 20], (some 21), none⟩, false, false, 0, 2⟩,
 ⟨⟨(.fieldAddr 2), [.tmp 21], (some 22), none⟩, false, false, 0, 2⟩,
 ⟨⟨(.load false 1), [.tmp 22], (some 23), none⟩, false, false, 0, 2⟩,
 ⟨⟨(.fieldAddr 0), [.tmp 3], (some 24), none⟩, false, false, 0, 0⟩,
 ⟨⟨(.load false 1), [.tmp 24], (some 25), none⟩, false, false, 0, 0⟩,
 ⟨⟨.nilCheck, [.tmp 25], (some 26), none⟩, false, false, 0, 0⟩,
 ⟨⟨(.fieldAddr 0), [.tmp 26], (some 27), none⟩, false, false, 0, 0⟩,
 ⟨⟨(.load true 2), [.tmp 27], (some 28), none⟩, false, false, 0, 0⟩,
 ⟨⟨(.callF 9), [.tmp 28], (some 29), none⟩, true, false, 0, 1⟩,
 ⟨⟨(.fieldAddr 0), [.tmp 3], (some 30), none⟩, false, false, 0, 1⟩,
 ⟨⟨(.load false 1), [.tmp 30], (some 31), none⟩, false, false, 0, 1⟩,
 ⟨⟨.nilCheck, [.tmp 31], (some 32), none⟩, false, false, 0, 1⟩,
 ⟨⟨(.fieldAddr 4), [.tmp 32], (some 33), none⟩, false, false, 0, 1⟩,
 ⟨⟨(.load false 1), [.tmp 33], (some 34), none⟩, false, false, 0, 1⟩,
 ⟨⟨(.conv .i64), [.tmp 34], (some 35), none⟩, false, false, 0, 1⟩,
 ⟨⟨(.callF 77), [.tmp 29, .tmp 35], (some 36), none⟩, true, false, 1, 2⟩,
 ⟨⟨(.load true 1), [.tmp 3], (some 37), none⟩, false, false, 0, 2⟩,
 ⟨⟨(.mkFunc (.func 78) 1), [.tmp 37], (some 38), none⟩, false, false, 0, 2⟩,
 ⟨⟨(.callF 32), [.tmp 23, .tmp 36, .tmp 38], (some 39), none⟩, true, false, 2, 3⟩])))), []⟩
theorem c75_ok : compFunc Try.prog Try.f75 = some c75 := by kernel_rfl
theorem c75_body : hasBody Try.prog 75 = true := hasBody_of Try.func75 (by kernel_rfl)
/-- (coachyard/stack.push).tried -/
def c76 : PFn := ⟨24, Tr.ofList (List.replicate 24 undefA), (.seq (.seqR [⟨.box, [.tmp 0], (some 3), none⟩])
 (.seq (.seq (.seqR [⟨.move, [.tmp 2], (some 6), none⟩,
 ⟨.not, [.tmp 6], (some 7), none⟩])
 (.cond (.tmp 7) (.seq (.seqR [⟨(.load true 1), [.tmp 3], (some 8), none⟩,
 ⟨.move, [.tmp 1], (some 9), none⟩,
 ⟨(.callF 68), [.tmp 8, .tmp 9, .const (.bool true)], (some 10), none⟩])
 .ret)
 .skip))
 (.seq (.seqR [⟨(.fieldAddr 0), [.tmp 3], (some 11), none⟩,
 ⟨(.load false 1), [.tmp 11], (some 12), none⟩,
 ⟨.nilCheck, [.tmp 12], (some 13), none⟩,
 ⟨(.fieldAddr 2), [.tmp 13], (some 14), none⟩,
 ⟨(.load false 1), [.tmp 14], (some 15), none⟩,
 ⟨(.callF 31), [.tmp 15, .const (.slice none 0 0 false)], (some 16), none⟩])
 (.seqR [⟨(.fieldAddr 0), [.tmp 3], (some 17), none⟩,
 ⟨(.load false 1), [.tmp 17], (some 18), none⟩,
 ⟨.nilCheck, [.tmp 18], (some 19), none⟩,
 ⟨(.fieldAddr 2), [.tmp 19], (some 20), none⟩,
 ⟨(.load false 1), [.tmp 20], (some 21), none⟩,
 ⟨(.build [(.int .i64 0), (.int .u64 0), (.slice none 0 0 false)] []), [], (some 22), none⟩,
 ⟨(.callF 66), [.tmp 21, .tmp 22], (some 23), none⟩])))), []⟩
theorem c76_ok : compFunc Try.prog Try.f76 = some c76 := by kernel_rfl
theorem c76_body : hasBody Try.prog 76 = true := hasBody_of Try.func76 (by kernel_rfl)
/-- (coachyard/arena.Arena).Put -/
def c77 : PFn := ⟨12, Tr.ofList (List.replicate 12 undefA), (.seq (.seqR [⟨.box, [.tmp 0], (some 2), none⟩,
 ⟨.box, [.tmp 1], (some 3), none⟩,
 ⟨.move, [.const (.ptr none)], (some 4), none⟩])
 (.seq (.seqR [⟨(.load true 2), [.tmp 2], (some 6), none⟩,
 ⟨(.load false 1), [.tmp 3], (some 7), none⟩,
 ⟨(.build [(.int .i64 0), (.int .i64 0), (.ptr none), (.int .i64 0), (.int .u64 0)] [(0, 2), (3, 1)]), [.tmp 6, .tmp 7], (some 8), none⟩,
 ⟨.box, [.tmp 8], (some 9), none⟩,
 ⟨(.new [(.ptr none)]), [], (some 5), none⟩,
 ⟨(.store 1), [.tmp 5, .tmp 9], none, none⟩])
 (.seq (.seqR [⟨(.mkFunc (.func 79) 0), [.tmp 5, .tmp 2, .tmp 3], (some 10), none⟩,
 ⟨(.callF 49), [.tmp 10], (some 11), none⟩,
 ⟨.move, [.tmp 11], (some 4), none⟩])
 .ret))), [.tmp 4]⟩
theorem c77_ok : compFunc Try.prog Try.f77 = some c77 := by kernel_rfl
theorem c77_body : hasBody Try.prog 77 = true := hasBody_of Try.func77 (by kernel_rfl)
/-- (coachyard/stack.pop).freed -/
def c78 : PFn := ⟨26, Tr.ofList (List.replicate 26 undefA), (.seq (.seqR [⟨.box, [.tmp 0], (some 2), none⟩,
 ⟨.box, [.tmp 1], (some 3), none⟩])
 (.seq (.seqR [⟨(.fieldAddr 0), [.tmp 2], (some 4), none⟩,
 ⟨(.load false 1), [.tmp 4], (some 5), none⟩,
 ⟨.nilCheck, [.tmp 5], (some 6), none⟩,
 ⟨(.fieldAddr 2), [.tmp 6], (some 7), none⟩,
 ⟨(.load false 1), [.tmp 7], (some 8), none⟩,
 ⟨(.callF 31), [.tmp 8, .const (.slice none 0 0 false)], (some 9), none⟩])
 (.seq (.seq (.seqR [⟨(.fieldAddr 0), [.tmp 3], (some 10), none⟩,
 ⟨(.load false 1), [.tmp 10], (some 11), none⟩,
 ⟨(.bin .eql), [.tmp 11, .const (.int .i64 0)], (some 12), none⟩])
 (.cond (.tmp 12) (.seqR [⟨(.fieldAddr 0), [.tmp 2], (some 13), none⟩,
 ⟨(.load false 1), [.tmp 13], (some 14), none⟩,
 ⟨.nilCheck, [.tmp 14], (some 15), none⟩,
 ⟨(.fieldAddr 5), [.tmp 15], (some 16), none⟩,
 ⟨(.load false 1), [.tmp 16], (some 17), none⟩,
 ⟨(.fieldAddr 1), [.tmp 3], (some 18), none⟩,
 ⟨(.store 1), [.tmp 18, .tmp 17], none, none⟩])
 .skip))
 (.drawR [⟨⟨(.fieldAddr 0), [.tmp 2], (some 19), none⟩, false, false, 0, 0⟩,
 ⟨⟨(.load false 1), [.tmp 19], (some 20), none⟩, false, false, 0, 0⟩,
 ⟨⟨.nilCheck, [.tmp 20], (some 21), none⟩, false, false, 0, 0⟩,
 ⟨⟨(.fieldAddr 2), [.tmp 21], (some 22), none⟩, false, false, 0, 0⟩,
 ⟨⟨(.load false 1), [.tmp 22], (some 23), none⟩, false, false, 0, 0⟩,
 ⟨⟨(.load true 3), [.tmp 3], (some 24), none⟩, false, false, 0, 0⟩,
 ⟨⟨(.callF 66), [.tmp 23, .tmp 24], (some 25), none⟩, true, false, 0, 1⟩])))), []⟩
theorem c78_ok : compFunc Try.prog Try.f78 = some c78 := by kernel_rfl
theorem c78_body : hasBody Try.prog 78 = true := hasBody_of Try.func78 (by kernel_rfl)
/-- (coachyard/arena.Arena).Put$1 -/
def c79 : PFn := ⟨31, Tr.ofList (List.replicate 31 undefA), (.seq (.seqR [⟨(.load false 1), [.tmp 1], (some 5), none⟩,
 ⟨.move, [.tmp 0], (some 6), none⟩,
 ⟨.nilCheck, [.tmp 5], (some 7), none⟩,
 ⟨(.fieldAddr 2), [.tmp 7], (some 8), none⟩,
 ⟨(.store 1), [.tmp 8, .tmp 6], none, none⟩])
 (.seq (.seq (.seqR [⟨(.load true 2), [.tmp 2], (some 9), none⟩,
 ⟨(.callF 44), [.tmp 9], (some 10), none⟩,
 ⟨.not, [.tmp 10], (some 11), none⟩,
 ⟨.move, [.tmp 11], (some 12), none⟩,
 ⟨(.load false 1), [.tmp 3], (some 13), some (12, false)⟩,
 ⟨(.bin .lss), [.tmp 13, .const (.int .i64 1)], (some 14), some (12, false)⟩,
 ⟨.pick, [.tmp 12, .const (.bool true), .tmp 14], (some 15), none⟩,
 ⟨.move, [.tmp 15], (some 16), none⟩,
 ⟨(.load false 1), [.tmp 3], (some 17), some (16, false)⟩,
 ⟨(.fieldAddr 1), [.tmp 2], (some 18), some (16, false)⟩,
 ⟨(.load false 1), [.tmp 18], (some 19), some (16, false)⟩,
 ⟨(.bin .gtr), [.tmp 17, .tmp 19], (some 20), some (16, false)⟩,
 ⟨.pick, [.tmp 16, .const (.bool true), .tmp 20], (some 21), none⟩])
 (.cond (.tmp 21) (.seq (.seqR [⟨.move, [.tmp 0], (some 22), none⟩,
 ⟨(.callF 45), [.tmp 22, .const (.int .i64 2)], (some 23), none⟩])
 .ret)
 .skip))
 (.seqR [⟨.move, [.tmp 0], (some 24), none⟩,
 ⟨(.fieldAddr 0), [.tmp 2], (some 25), none⟩,
 ⟨(.load false 1), [.tmp 25], (some 26), none⟩,
 ⟨(.build [(.int .i64 0), (.int .i64 0), (.int .u64 0), (.int .u64 0)] [(0, 1), (1, 1)]), [.const (.int .i64 1), .tmp 26], (some 27), none⟩,
 ⟨(.load false 1), [.tmp 1], (some 28), none⟩,
 ⟨(.mkFunc (.func 80) 1), [.tmp 28], (some 29), none⟩,
 ⟨(.callF 54), [.tmp 24, .tmp 27, .tmp 29], (some 30), none⟩]))), []⟩
theorem c79_ok : compFunc Try.prog Try.f79 = some c79 := by kernel_rfl
theorem c79_body : hasBody Try.prog 79 = true := hasBody_of Try.func79 (by kernel_rfl)
/-- (*coachyard/arena.put).head -/
def c80 : PFn := ⟨31, Tr.ofList (List.replicate 31 undefA), (.seq (.seqR [⟨.move, [.tmp 0], (some 6), none⟩,
 ⟨.move, [.tmp 1], (some 7), none⟩,
 ⟨.nilCheck, [.tmp 6], (some 8), none⟩,
 ⟨(.fieldAddr 4), [.tmp 8], (some 9), none⟩,
 ⟨(.store 1), [.tmp 9, .tmp 7], none, none⟩])
 (.drawR [⟨⟨.move, [.tmp 0], (some 10), none⟩, false, false, 0, 1⟩,
 ⟨⟨.nilCheck, [.tmp 10], (some 11), none⟩, false, false, 0, 1⟩,
 ⟨⟨(.fieldAddr 2), [.tmp 11], (some 12), none⟩, false, false, 0, 1⟩,
 ⟨⟨(.load false 1), [.tmp 12], (some 13), none⟩, false, false, 0, 1⟩,
 ⟨⟨.move, [.tmp 0], (some 14), none⟩, false, false, 0, 1⟩,
 ⟨⟨.nilCheck, [.tmp 14], (some 15), none⟩, false, false, 0, 1⟩,
 ⟨⟨(.fieldAddr 0), [.tmp 15], (some 16), none⟩, false, false, 0, 1⟩,
 ⟨⟨(.fieldAddr 0), [.tmp 16], (some 17), none⟩, false, false, 0, 1⟩,
 ⟨⟨(.load false 1), [.tmp 17], (some 18), none⟩, false, false, 0, 1⟩,
 ⟨⟨.move, [.tmp 0], (some 19), none⟩, false, false, 0, 1⟩,
 ⟨⟨.nilCheck, [.tmp 19], (some 20), none⟩, false, false, 0, 1⟩,
 ⟨⟨(.fieldAddr 3), [.tmp 20], (some 21), none⟩, false, false, 0, 1⟩,
 ⟨⟨(.load false 1), [.tmp 21], (some 22), none⟩, false, false, 0, 1⟩,
 ⟨⟨(.bin .add), [.tmp 18, .tmp 22], (some 23), none⟩, false, false, 0, 1⟩,
 ⟨⟨.move, [.tmp 1], (some 24), none⟩, false, false, 0, 0⟩,
 ⟨⟨(.callF 28), [.tmp 24], (some 25), none⟩, true, false, 0, 1⟩,
 ⟨⟨(.conv .u64), [.tmp 25], (some 26), none⟩, false, false, 1, 1⟩,
 ⟨⟨(.build [(.int .i64 0), (.int .i64 0), (.int .u64 0), (.int .u64 0)] [(0, 1), (1, 1), (2, 1)]), [.const (.int .i64 2), .tmp 23, .tmp 26], (some 27), none⟩, false, false, 1, 1⟩,
 ⟨⟨.move, [.tmp 0], (some 28), none⟩, false, false, 0, 1⟩,
 ⟨⟨(.mkFunc (.func 81) 1), [.tmp 28], (some 29), none⟩, false, false, 0, 1⟩,
 ⟨⟨(.callF 54), [.tmp 13, .tmp 27, .tmp 29], (some 30), none⟩, true, false, 1, 2⟩])), []⟩
theorem c80_ok : compFunc Try.prog Try.f80 = some c80 := by kernel_rfl
theorem c80_body : hasBody Try.prog 80 = true := hasBody_of Try.func80 (by kernel_rfl)
/-- (*coachyard/arena.put).linked -/
def c81 : PFn := ⟨33, Tr.ofList (List.replicate 33 undefA), (.drawR [⟨⟨.move, [.tmp 0], (some 6), none⟩, false, false, 0, 1⟩,
 ⟨⟨.nilCheck, [.tmp 6], (some 7), none⟩, false, false, 0, 1⟩,
 ⟨⟨(.fieldAddr 2), [.tmp 7], (some 8), none⟩, false, false, 0, 1⟩,
 ⟨⟨(.load false 1), [.tmp 8], (some 9), none⟩, false, false, 0, 1⟩,
 ⟨⟨.move, [.tmp 0], (some 10), none⟩, false, false, 0, 1⟩,
 ⟨⟨.nilCheck, [.tmp 10], (some 11), none⟩, false, false, 0, 1⟩,
 ⟨⟨(.fieldAddr 0), [.tmp 11], (some 12), none⟩, false, false, 0, 1⟩,
 ⟨⟨(.fieldAddr 0), [.tmp 12], (some 13), none⟩, false, false, 0, 1⟩,
 ⟨⟨(.load false 1), [.tmp 13], (some 14), none⟩, false, false, 0, 1⟩,
 ⟨⟨.move, [.tmp 0], (some 15), none⟩, false, false, 0, 1⟩,
 ⟨⟨.nilCheck, [.tmp 15], (some 16), none⟩, false, false, 0, 1⟩,
 ⟨⟨(.fieldAddr 4), [.tmp 16], (some 17), none⟩, false, false, 0, 1⟩,
 ⟨⟨(.load false 1), [.tmp 17], (some 18), none⟩, false, false, 0, 1⟩,
 ⟨⟨.move, [.tmp 0], (some 19), none⟩, false, false, 0, 0⟩,
 ⟨⟨.nilCheck, [.tmp 19], (some 20), none⟩, false, false, 0, 0⟩,
 ⟨⟨(.fieldAddr 4), [.tmp 20], (some 21), none⟩, false, false, 0, 0⟩,
 ⟨⟨(.load false 1), [.tmp 21], (some 22), none⟩, false, false, 0, 0⟩,
 ⟨⟨.move, [.tmp 0], (some 23), none⟩, false, false, 0, 0⟩,
 ⟨⟨.nilCheck, [.tmp 23], (some 24), none⟩, false, false, 0, 0⟩,
 ⟨⟨(.fieldAddr 3), [.tmp 24], (some 25), none⟩, false, false, 0, 0⟩,
 ⟨⟨(.load false 1), [.tmp 25], (some 26), none⟩, false, false, 0, 0⟩,
 ⟨⟨(.conv .u32), [.tmp 26], (some 27), none⟩, false, false, 0, 0⟩,
 ⟨⟨(.callF 71), [.tmp 22, .tmp 27], (some 28), none⟩, true, false, 0, 1⟩,
 ⟨⟨(.build [(.int .i64 0), (.int .i64 0), (.int .u64 0), (.int .u64 0)] [(0, 1), (1, 1), (2, 1), (3, 1)]), [.const (.int .i64 3), .tmp 14, .tmp 18, .tmp 28], (some 29), none⟩, false, false, 1, 1⟩,
 ⟨⟨.move, [.tmp 0], (some 30), none⟩, false, false, 0, 1⟩,
 ⟨⟨(.mkFunc (.func 82) 1), [.tmp 30], (some 31), none⟩, false, false, 0, 1⟩,
 ⟨⟨(.callF 54), [.tmp 9, .tmp 29, .tmp 31], (some 32), none⟩, true, false, 1, 2⟩]), []⟩
theorem c81_ok : compFunc Try.prog Try.f81 = some c81 := by kernel_rfl
theorem c81_body : hasBody Try.prog 81 = true := hasBody_of Try.func81 (by kernel_rfl)
/-- (*coachyard/arena.put).won -/
def c82 : PFn := ⟨17, Tr.ofList (List.replicate 17 undefA), (.seq (.seq (.seqR [⟨.move, [.tmp 2], (some 6), none⟩,
 ⟨.not, [.tmp 6], (some 7), none⟩])
 (.cond (.tmp 7) (.seq (.seqR [⟨.move, [.tmp 0], (some 8), none⟩,
 ⟨.move, [.tmp 1], (some 9), none⟩,
 ⟨(.callF 80), [.tmp 8, .tmp 9, .const (.bool true)], (some 10), none⟩])
 .ret)
 .skip))
 (.seqR [⟨.move, [.tmp 0], (some 11), none⟩,
 ⟨.nilCheck, [.tmp 11], (some 12), none⟩,
 ⟨(.fieldAddr 2), [.tmp 12], (some 13), none⟩,
 ⟨(.load false 1), [.tmp 13], (some 14), none⟩,
 ⟨(.build [(.int .i64 0), (.int .u64 0), (.slice none 0 0 false)] []), [], (some 15), none⟩,
 ⟨(.callF 66), [.tmp 14, .tmp 15], (some 16), none⟩])), []⟩
theorem c82_ok : compFunc Try.prog Try.f82 = some c82 := by kernel_rfl
theorem c82_body : hasBody Try.prog 82 = true := hasBody_of Try.func82 (by kernel_rfl)
end Go.Proofs.Ytldijnabgabehaa
