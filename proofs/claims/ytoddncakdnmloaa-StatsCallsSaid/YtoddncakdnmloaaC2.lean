/- The code of the small machine for some of the program's functions: printed by program; each is what the rules make of the program's own. -/
import Derived.Test.YtoddncakdnmloaaVx16
import Derived.Test.YtoddncakdnmloaaProg
import Derived.KernelRfl
namespace Go.Proofs.Ytoddncakdnmloaa
open Go Go.Vx Go.Proofs
/-- slices.nextPowerOfTwo -/
def c62 : PFn := ⟨7, Tr.ofList (List.replicate 7 undefA), (.seq (.seqR [⟨.move, [.const (.int .u64 0)], (some 2), none⟩])
 (.seq (.seqR [⟨.move, [.tmp 0], (some 3), none⟩,
 ⟨(.conv .u64), [.tmp 3], (some 4), none⟩,
 ⟨(.callF 45), [.tmp 4], (some 5), none⟩,
 ⟨(.bin .shl), [.const (.int .u64 1), .tmp 5], (some 6), none⟩,
 ⟨.move, [.tmp 6], (some 2), none⟩])
 .ret)), [.tmp 2]⟩
theorem c62_ok : compFunc Try.prog Try.f62 = some c62 := by kernel_rfl
theorem c62_body : hasBody Try.prog 62 = true := hasBody_of Try.func62 (by kernel_rfl)
/-- (*slices.xorshift).Next -/
def c63 : PFn := ⟨33, Tr.ofList (List.replicate 33 undefA), (.seq (.seqR [⟨.move, [.const (.int .u64 0)], (some 2), none⟩])
 (.seq (.drawR [⟨⟨.move, [.tmp 0], (some 3), none⟩, false, false, 0, 0⟩,
 ⟨⟨.nilCheck, [.tmp 3], (some 4), none⟩, false, false, 0, 0⟩,
 ⟨⟨(.load false 1), [.tmp 4], (some 5), none⟩, false, false, 0, 0⟩,
 ⟨⟨.move, [.tmp 0], (some 6), none⟩, false, false, 0, 0⟩,
 ⟨⟨.nilCheck, [.tmp 6], (some 7), none⟩, false, false, 0, 0⟩,
 ⟨⟨(.load false 1), [.tmp 7], (some 8), none⟩, false, false, 0, 0⟩,
 ⟨⟨(.bin .shl), [.tmp 8, .const (.int .u64 13)], (some 9), none⟩, false, false, 0, 0⟩,
 ⟨⟨(.bin .xor), [.tmp 5, .tmp 9], (some 10), none⟩, false, false, 0, 0⟩,
 ⟨⟨.nilCheck, [.tmp 3], (some 11), none⟩, false, false, 0, 0⟩,
 ⟨⟨(.store 1), [.tmp 11, .tmp 10], none, none⟩, true, false, 0, 1⟩])
 (.seq (.drawR [⟨⟨.move, [.tmp 0], (some 12), none⟩, false, false, 0, 0⟩,
 ⟨⟨.nilCheck, [.tmp 12], (some 13), none⟩, false, false, 0, 0⟩,
 ⟨⟨(.load false 1), [.tmp 13], (some 14), none⟩, false, false, 0, 0⟩,
 ⟨⟨.move, [.tmp 0], (some 15), none⟩, false, false, 0, 0⟩,
 ⟨⟨.nilCheck, [.tmp 15], (some 16), none⟩, false, false, 0, 0⟩,
 ⟨⟨(.load false 1), [.tmp 16], (some 17), none⟩, false, false, 0, 0⟩,
 ⟨⟨(.bin .shr), [.tmp 17, .const (.int .u64 7)], (some 18), none⟩, false, false, 0, 0⟩,
 ⟨⟨(.bin .xor), [.tmp 14, .tmp 18], (some 19), none⟩, false, false, 0, 0⟩,
 ⟨⟨.nilCheck, [.tmp 12], (some 20), none⟩, false, false, 0, 0⟩,
 ⟨⟨(.store 1), [.tmp 20, .tmp 19], none, none⟩, true, false, 0, 1⟩])
 (.seq (.drawR [⟨⟨.move, [.tmp 0], (some 21), none⟩, false, false, 0, 0⟩,
 ⟨⟨.nilCheck, [.tmp 21], (some 22), none⟩, false, false, 0, 0⟩,
 ⟨⟨(.load false 1), [.tmp 22], (some 23), none⟩, false, false, 0, 0⟩,
 ⟨⟨.move, [.tmp 0], (some 24), none⟩, false, false, 0, 0⟩,
 ⟨⟨.nilCheck, [.tmp 24], (some 25), none⟩, false, false, 0, 0⟩,
 ⟨⟨(.load false 1), [.tmp 25], (some 26), none⟩, false, false, 0, 0⟩,
 ⟨⟨(.bin .shl), [.tmp 26, .const (.int .u64 17)], (some 27), none⟩, false, false, 0, 0⟩,
 ⟨⟨(.bin .xor), [.tmp 23, .tmp 27], (some 28), none⟩, false, false, 0, 0⟩,
 ⟨⟨.nilCheck, [.tmp 21], (some 29), none⟩, false, false, 0, 0⟩,
 ⟨⟨(.store 1), [.tmp 29, .tmp 28], none, none⟩, true, false, 0, 1⟩])
 (.seq (.seqR [⟨.move, [.tmp 0], (some 30), none⟩,
 ⟨.nilCheck, [.tmp 30], (some 31), none⟩,
 ⟨(.load false 1), [.tmp 31], (some 32), none⟩,
 ⟨.move, [.tmp 32], (some 2), none⟩])
 .ret))))), [.tmp 2]⟩
theorem c63_ok : compFunc Try.prog Try.f63 = some c63 := by kernel_rfl
theorem c63_body : hasBody Try.prog 63 = true := hasBody_of Try.func63 (by kernel_rfl)
/-- slices.medianAdjacentOrdered[int] -/
def c64 : PFn := ⟨15, Tr.ofList (List.replicate 15 undefA), (.seq (.seqR [⟨.move, [.const (.int .i64 0)], (some 6), none⟩])
 (.seq (.seqR [⟨.move, [.tmp 0], (some 7), none⟩,
 ⟨.move, [.tmp 1], (some 8), none⟩,
 ⟨(.bin .sub), [.tmp 8, .const (.int .i64 1)], (some 9), none⟩,
 ⟨.move, [.tmp 1], (some 10), none⟩,
 ⟨.move, [.tmp 1], (some 11), none⟩,
 ⟨(.bin .add), [.tmp 11, .const (.int .i64 1)], (some 12), none⟩,
 ⟨.move, [.tmp 2], (some 13), none⟩,
 ⟨(.callF 65), [.tmp 7, .tmp 9, .tmp 10, .tmp 12, .tmp 13], (some 14), none⟩,
 ⟨.move, [.tmp 14], (some 6), none⟩])
 .ret)), [.tmp 6]⟩
theorem c64_ok : compFunc Try.prog Try.f64 = some c64 := by kernel_rfl
theorem c64_body : hasBody Try.prog 64 = true := hasBody_of Try.func64 (by kernel_rfl)
/-- slices.medianOrdered[int] -/
def c65 : PFn := ⟨36, Tr.ofList (List.replicate 36 undefA), (.seq (.seqR [⟨.move, [.const (.int .i64 0)], (some 10), none⟩])
 (.seq (.seqR [⟨.move, [.tmp 0], (some 12), none⟩,
 ⟨.move, [.tmp 1], (some 13), none⟩,
 ⟨.move, [.tmp 2], (some 14), none⟩,
 ⟨.move, [.tmp 4], (some 15), none⟩,
 ⟨(.callF 70), [.tmp 12, .tmp 13, .tmp 14, .tmp 15], (some 16), none⟩,
 ⟨.move, [.tmp 16], (some 11), none⟩,
 ⟨(.extract 0), [.tmp 11], (some 17), none⟩,
 ⟨(.extract 1), [.tmp 11], (some 18), none⟩,
 ⟨.move, [.tmp 17], (some 1), none⟩,
 ⟨.move, [.tmp 18], (some 2), none⟩])
 (.seq (.seqR [⟨.move, [.tmp 0], (some 20), none⟩,
 ⟨.move, [.tmp 2], (some 21), none⟩,
 ⟨.move, [.tmp 3], (some 22), none⟩,
 ⟨.move, [.tmp 4], (some 23), none⟩,
 ⟨(.callF 70), [.tmp 20, .tmp 21, .tmp 22, .tmp 23], (some 24), none⟩,
 ⟨.move, [.tmp 24], (some 19), none⟩,
 ⟨(.extract 0), [.tmp 19], (some 25), none⟩,
 ⟨(.extract 1), [.tmp 19], (some 26), none⟩,
 ⟨.move, [.tmp 25], (some 2), none⟩,
 ⟨.move, [.tmp 26], (some 3), none⟩])
 (.seq (.seqR [⟨.move, [.tmp 0], (some 28), none⟩,
 ⟨.move, [.tmp 1], (some 29), none⟩,
 ⟨.move, [.tmp 2], (some 30), none⟩,
 ⟨.move, [.tmp 4], (some 31), none⟩,
 ⟨(.callF 70), [.tmp 28, .tmp 29, .tmp 30, .tmp 31], (some 32), none⟩,
 ⟨.move, [.tmp 32], (some 27), none⟩,
 ⟨(.extract 0), [.tmp 27], (some 33), none⟩,
 ⟨(.extract 1), [.tmp 27], (some 34), none⟩,
 ⟨.move, [.tmp 33], (some 1), none⟩,
 ⟨.move, [.tmp 34], (some 2), none⟩])
 (.seq (.seqR [⟨.move, [.tmp 2], (some 35), none⟩,
 ⟨.move, [.tmp 35], (some 10), none⟩])
 .ret))))), [.tmp 10]⟩
theorem c65_ok : compFunc Try.prog Try.f65 = some c65 := by kernel_rfl
theorem c65_body : hasBody Try.prog 65 = true := hasBody_of Try.func65 (by kernel_rfl)
/-- cmp.isNaN[int] -/
def c66 : PFn := ⟨6, Tr.ofList (List.replicate 6 undefA), (.seq (.seqR [⟨.move, [.const (.bool false)], (some 2), none⟩])
 (.seq (.seqR [⟨.move, [.tmp 0], (some 3), none⟩,
 ⟨.move, [.tmp 0], (some 4), none⟩,
 ⟨(.bin .neq), [.tmp 3, .tmp 4], (some 5), none⟩,
 ⟨.move, [.tmp 5], (some 2), none⟩])
 .ret)), [.tmp 2]⟩
theorem c66_ok : compFunc Try.prog Try.f66 = some c66 := by kernel_rfl
theorem c66_body : hasBody Try.prog 66 = true := hasBody_of Try.func66 (by kernel_rfl)
/-- slices.Clone[[]int,int] -/
def c67 : PFn := ⟨8, Tr.ofList (List.replicate 8 undefA), (.seq (.seqR [⟨.move, [.const (.slice none 0 0 false)], (some 2), none⟩])
 (.seq (.seq (.seqR [⟨.move, [.tmp 0], (some 3), none⟩,
 ⟨(.eqNil 0 false), [.tmp 3, .const (.slice none 0 0 false)], (some 4), none⟩])
 (.cond (.tmp 4) (.seq (.seqR [⟨.move, [.const (.slice none 0 0 false)], (some 2), none⟩])
 .ret)
 .skip))
 (.seq (.seqR [⟨(.sliceLit 0 [] []), [], (some 5), none⟩,
 ⟨.move, [.tmp 0], (some 6), none⟩,
 ⟨(.append 1 8), [.tmp 5, .tmp 6], (some 7), none⟩,
 ⟨.move, [.tmp 7], (some 2), none⟩])
 .ret))), [.tmp 2]⟩
theorem c67_ok : compFunc Try.prog Try.f67 = some c67 := by kernel_rfl
theorem c67_body : hasBody Try.prog 67 = true := hasBody_of Try.func67 (by kernel_rfl)
/-- slices.Clone[[]uint64,uint64] -/
def c68 : PFn := ⟨8, Tr.ofList (List.replicate 8 undefA), (.seq (.seqR [⟨.move, [.const (.slice none 0 0 false)], (some 2), none⟩])
 (.seq (.seq (.seqR [⟨.move, [.tmp 0], (some 3), none⟩,
 ⟨(.eqNil 0 false), [.tmp 3, .const (.slice none 0 0 false)], (some 4), none⟩])
 (.cond (.tmp 4) (.seq (.seqR [⟨.move, [.const (.slice none 0 0 false)], (some 2), none⟩])
 .ret)
 .skip))
 (.seq (.seqR [⟨(.sliceLit 0 [] []), [], (some 5), none⟩,
 ⟨.move, [.tmp 0], (some 6), none⟩,
 ⟨(.append 1 8), [.tmp 5, .tmp 6], (some 7), none⟩,
 ⟨.move, [.tmp 7], (some 2), none⟩])
 .ret))), [.tmp 2]⟩
theorem c68_ok : compFunc Try.prog Try.f68 = some c68 := by kernel_rfl
theorem c68_body : hasBody Try.prog 68 = true := hasBody_of Try.func68 (by kernel_rfl)
/-- slices.Equal[[]int,int] -/
def c69 : PFn := ⟨26, Tr.ofList (List.replicate 26 undefA), (.seq (.seqR [⟨.move, [.const (.bool false)], (some 4), none⟩])
 (.seq (.seq (.seqR [⟨.move, [.tmp 0], (some 6), none⟩,
 ⟨.lenS, [.tmp 6], (some 7), none⟩,
 ⟨.move, [.tmp 1], (some 8), none⟩,
 ⟨.lenS, [.tmp 8], (some 9), none⟩,
 ⟨(.bin .neq), [.tmp 7, .tmp 9], (some 10), none⟩])
 (.cond (.tmp 10) (.seq (.seqR [⟨.move, [.const (.bool false)], (some 4), none⟩])
 .ret)
 .skip))
 (.seq (.seq (.seqR [⟨.move, [.tmp 0], (some 11), none⟩,
 ⟨.lenS, [.tmp 11], (some 12), none⟩,
 ⟨.move, [.const (.int .i64 0)], (some 13), none⟩])
 (.block 0 (.loop (.seq (.seqR [⟨(.bin .lss), [.tmp 13, .tmp 12], (some 14), none⟩])
 (.seq (.cond (.tmp 14) .skip
 (.exit 0))
 (.seq (.block 1 (.seq (.seqR [⟨.move, [.tmp 13], (some 15), none⟩,
 ⟨.move, [.tmp 15], (some 5), none⟩])
 (.seq (.drawR [⟨⟨.move, [.tmp 0], (some 16), none⟩, false, false, 0, 0⟩,
 ⟨⟨.move, [.tmp 5], (some 17), none⟩, false, false, 0, 0⟩,
 ⟨⟨(.indexAddrS 1), [.tmp 16, .tmp 17], (some 18), none⟩, false, false, 0, 0⟩,
 ⟨⟨(.load false 1), [.tmp 18], (some 19), none⟩, false, false, 0, 0⟩,
 ⟨⟨.move, [.tmp 1], (some 20), none⟩, false, false, 0, 0⟩,
 ⟨⟨.move, [.tmp 5], (some 21), none⟩, false, false, 0, 0⟩,
 ⟨⟨(.indexAddrS 1), [.tmp 20, .tmp 21], (some 22), none⟩, false, false, 0, 0⟩,
 ⟨⟨(.load false 1), [.tmp 22], (some 23), none⟩, false, false, 0, 0⟩,
 ⟨⟨(.bin .neq), [.tmp 19, .tmp 23], (some 24), none⟩, false, false, 0, 0⟩])
 (.cond (.tmp 24) (.seq (.seqR [⟨.move, [.const (.bool false)], (some 4), none⟩])
 .ret)
 .skip))))
 (.seqR [⟨(.bin .add), [.tmp 13, .const (.int .i64 1)], (some 25), none⟩,
 ⟨.move, [.tmp 25], (some 13), none⟩])))))))
 (.seq (.seqR [⟨.move, [.const (.bool true)], (some 4), none⟩])
 .ret)))), [.tmp 4]⟩
theorem c69_ok : compFunc Try.prog Try.f69 = some c69 := by kernel_rfl
theorem c69_body : hasBody Try.prog 69 = true := hasBody_of Try.func69 (by kernel_rfl)
/-- slices.order2Ordered[int] -/
def c70 : PFn := ⟨28, Tr.ofList (List.replicate 28 undefA), (.seq (.seqR [⟨.move, [.const (.int .i64 0)], (some 8), none⟩,
 ⟨.move, [.const (.int .i64 0)], (some 9), none⟩])
 (.seq (.seq (.drawR [⟨⟨.move, [.tmp 0], (some 10), none⟩, false, false, 0, 0⟩,
 ⟨⟨.move, [.tmp 2], (some 11), none⟩, false, false, 0, 0⟩,
 ⟨⟨(.indexAddrS 1), [.tmp 10, .tmp 11], (some 12), none⟩, false, false, 0, 0⟩,
 ⟨⟨(.load false 1), [.tmp 12], (some 13), none⟩, false, false, 0, 0⟩,
 ⟨⟨.move, [.tmp 0], (some 14), none⟩, false, false, 0, 0⟩,
 ⟨⟨.move, [.tmp 1], (some 15), none⟩, false, false, 0, 0⟩,
 ⟨⟨(.indexAddrS 1), [.tmp 14, .tmp 15], (some 16), none⟩, false, false, 0, 0⟩,
 ⟨⟨(.load false 1), [.tmp 16], (some 17), none⟩, false, false, 0, 0⟩,
 ⟨⟨(.callF 53), [.tmp 13, .tmp 17], (some 18), none⟩, true, false, 0, 1⟩])
 (.cond (.tmp 18) (.seq (.seqR [⟨.move, [.tmp 3], (some 19), none⟩,
 ⟨.nilCheck, [.tmp 19], (some 20), none⟩,
 ⟨(.load false 1), [.tmp 20], (some 21), none⟩,
 ⟨(.bin .add), [.tmp 21, .const (.int .i64 1)], (some 22), none⟩,
 ⟨.nilCheck, [.tmp 19], (some 23), none⟩,
 ⟨(.store 1), [.tmp 23, .tmp 22], none, none⟩])
 (.seq (.seqR [⟨.move, [.tmp 2], (some 24), none⟩,
 ⟨.move, [.tmp 1], (some 25), none⟩,
 ⟨.move, [.tmp 24], (some 8), none⟩,
 ⟨.move, [.tmp 25], (some 9), none⟩])
 .ret))
 .skip))
 (.seq (.seqR [⟨.move, [.tmp 1], (some 26), none⟩,
 ⟨.move, [.tmp 2], (some 27), none⟩,
 ⟨.move, [.tmp 26], (some 8), none⟩,
 ⟨.move, [.tmp 27], (some 9), none⟩])
 .ret))), [.tmp 8, .tmp 9]⟩
theorem c70_ok : compFunc Try.prog Try.f70 = some c70 := by kernel_rfl
theorem c70_body : hasBody Try.prog 70 = true := hasBody_of Try.func70 (by kernel_rfl)
/-- (coachyard/stats.top).Less -/
def c87 : PFn := ⟨17, Tr.ofList (List.replicate 17 undefA), (.seq (.seqR [⟨.move, [.const (.bool false)], (some 6), none⟩])
 (.seq (.drawR [⟨⟨.move, [.tmp 0], (some 7), none⟩, false, false, 0, 0⟩,
 ⟨⟨.move, [.tmp 1], (some 8), none⟩, false, false, 0, 0⟩,
 ⟨⟨(.indexAddrS 11), [.tmp 7, .tmp 8], (some 9), none⟩, false, false, 0, 0⟩,
 ⟨⟨(.load true 11), [.tmp 9], (some 10), none⟩, false, false, 0, 0⟩,
 ⟨⟨.move, [.tmp 0], (some 11), none⟩, false, false, 0, 0⟩,
 ⟨⟨.move, [.tmp 2], (some 12), none⟩, false, false, 0, 0⟩,
 ⟨⟨(.indexAddrS 11), [.tmp 11, .tmp 12], (some 13), none⟩, false, false, 0, 0⟩,
 ⟨⟨(.load true 11), [.tmp 13], (some 14), none⟩, false, false, 0, 0⟩,
 ⟨⟨(.callF 91), [.tmp 10, .tmp 14], (some 15), none⟩, true, false, 0, 1⟩,
 ⟨⟨(.bin .gtr), [.tmp 15, .const (.int .i64 0)], (some 16), none⟩, false, false, 1, 1⟩,
 ⟨⟨.move, [.tmp 16], (some 6), none⟩, false, false, 1, 1⟩])
 .ret)), [.tmp 6]⟩
theorem c87_ok : compFunc Try.prog Try.f87 = some c87 := by kernel_rfl
theorem c87_body : hasBody Try.prog 87 = true := hasBody_of Try.func87 (by kernel_rfl)
/-- (*coachyard/stats.top).Pop -/
def c88 : PFn := ⟨27, Tr.ofList (List.replicate 27 undefA), (.seq (.seqR [⟨.move, [.const .nilIface], (some 2), none⟩])
 (.seq (.drawR [⟨⟨.move, [.tmp 0], (some 4), none⟩, false, false, 0, 1⟩,
 ⟨⟨.nilCheck, [.tmp 4], (some 5), none⟩, false, false, 0, 1⟩,
 ⟨⟨(.load false 1), [.tmp 5], (some 6), none⟩, false, false, 0, 1⟩,
 ⟨⟨.move, [.tmp 0], (some 7), none⟩, false, false, 0, 1⟩,
 ⟨⟨.nilCheck, [.tmp 7], (some 8), none⟩, false, false, 0, 1⟩,
 ⟨⟨(.load false 1), [.tmp 8], (some 9), none⟩, false, false, 0, 1⟩,
 ⟨⟨.lenS, [.tmp 9], (some 10), none⟩, false, false, 0, 1⟩,
 ⟨⟨(.bin .sub), [.tmp 10, .const (.int .i64 1)], (some 11), none⟩, false, false, 0, 1⟩,
 ⟨⟨(.indexAddrS 11), [.tmp 6, .tmp 11], (some 12), none⟩, false, false, 0, 1⟩,
 ⟨⟨(.load true 11), [.tmp 12], (some 13), none⟩, false, false, 0, 1⟩,
 ⟨⟨(.new [(.int .i64 0), (.int .i64 0), (.int .i64 0), (.int .i64 0), (.int .i64 0), (.int .u64 0), (.slice none 0 0 false), (.int .i64 0), (.int .u64 0), (.slice none 0 0 false), (.int .i64 0)]), [], (some 3), none⟩, true, false, 0, 1⟩,
 ⟨⟨(.store 11), [.tmp 3, .tmp 13], none, none⟩, true, false, 1, 2⟩])
 (.seq (.drawR [⟨⟨.move, [.tmp 0], (some 14), none⟩, false, false, 0, 0⟩,
 ⟨⟨.move, [.tmp 0], (some 15), none⟩, false, false, 0, 0⟩,
 ⟨⟨.nilCheck, [.tmp 15], (some 16), none⟩, false, false, 0, 0⟩,
 ⟨⟨(.load false 1), [.tmp 16], (some 17), none⟩, false, false, 0, 0⟩,
 ⟨⟨.move, [.tmp 0], (some 18), none⟩, false, false, 0, 0⟩,
 ⟨⟨.nilCheck, [.tmp 18], (some 19), none⟩, false, false, 0, 0⟩,
 ⟨⟨(.load false 1), [.tmp 19], (some 20), none⟩, false, false, 0, 0⟩,
 ⟨⟨.lenS, [.tmp 20], (some 21), none⟩, false, false, 0, 0⟩,
 ⟨⟨(.bin .sub), [.tmp 21, .const (.int .i64 1)], (some 22), none⟩, false, false, 0, 0⟩,
 ⟨⟨(.slice 11 false true false), [.tmp 17, .tmp 22], (some 23), none⟩, false, false, 0, 0⟩,
 ⟨⟨.nilCheck, [.tmp 14], (some 24), none⟩, false, false, 0, 0⟩,
 ⟨⟨(.store 1), [.tmp 24, .tmp 23], none, none⟩, true, false, 0, 1⟩])
 (.seq (.seqR [⟨(.load true 11), [.tmp 3], (some 25), none⟩,
 ⟨(.mkIface 71), [.tmp 25], (some 26), none⟩,
 ⟨.move, [.tmp 26], (some 2), none⟩])
 .ret)))), [.tmp 2]⟩
theorem c88_ok : compFunc Try.prog Try.f88 = some c88 := by kernel_rfl
theorem c88_body : hasBody Try.prog 88 = true := hasBody_of Try.func88 (by kernel_rfl)
/-- (*coachyard/stats.top).Push -/
def c89 : PFn := ⟨13, Tr.ofList (List.replicate 13 undefA), (.drawR [⟨⟨.move, [.tmp 0], (some 4), none⟩, false, false, 0, 2⟩,
 ⟨⟨.move, [.tmp 0], (some 5), none⟩, false, false, 0, 1⟩,
 ⟨⟨.nilCheck, [.tmp 5], (some 6), none⟩, false, false, 0, 1⟩,
 ⟨⟨(.load false 1), [.tmp 6], (some 7), none⟩, false, false, 0, 1⟩,
 ⟨⟨.move, [.tmp 1], (some 8), none⟩, false, false, 0, 0⟩,
 ⟨⟨(.assertC 71 false (.agg [(.int .i64 0), (.int .i64 0), (.int .i64 0), (.int .i64 0), (.int .i64 0), (.int .u64 0), (.slice none 0 0 false), (.int .i64 0), (.int .u64 0), (.slice none 0 0 false), (.int .i64 0)])), [.tmp 8], (some 9), none⟩, false, false, 0, 0⟩,
 ⟨⟨(.sliceLit 1 [(.int .i64 0), (.int .i64 0), (.int .i64 0), (.int .i64 0), (.int .i64 0), (.int .u64 0), (.slice none 0 0 false), (.int .i64 0), (.int .u64 0), (.slice none 0 0 false), (.int .i64 0)] [(0, 11)]), [.tmp 9], (some 10), none⟩, true, false, 0, 1⟩,
 ⟨⟨(.append 11 120), [.tmp 7, .tmp 10], (some 11), none⟩, true, false, 1, 2⟩,
 ⟨⟨.nilCheck, [.tmp 4], (some 12), none⟩, false, false, 2, 2⟩,
 ⟨⟨(.store 1), [.tmp 12, .tmp 11], none, none⟩, true, false, 2, 3⟩]), []⟩
theorem c89_ok : compFunc Try.prog Try.f89 = some c89 := by kernel_rfl
theorem c89_body : hasBody Try.prog 89 = true := hasBody_of Try.func89 (by kernel_rfl)
/-- (coachyard/stats.top).Swap -/
def c90 : PFn := ⟨20, Tr.ofList (List.replicate 20 undefA), (.drawR [⟨⟨.move, [.tmp 0], (some 6), none⟩, false, false, 0, 0⟩,
 ⟨⟨.move, [.tmp 1], (some 7), none⟩, false, false, 0, 0⟩,
 ⟨⟨.move, [.tmp 0], (some 8), none⟩, false, false, 0, 1⟩,
 ⟨⟨.move, [.tmp 2], (some 9), none⟩, false, false, 0, 1⟩,
 ⟨⟨.move, [.tmp 0], (some 10), none⟩, false, false, 0, 0⟩,
 ⟨⟨.move, [.tmp 2], (some 11), none⟩, false, false, 0, 0⟩,
 ⟨⟨(.indexAddrS 11), [.tmp 10, .tmp 11], (some 12), none⟩, false, false, 0, 0⟩,
 ⟨⟨(.load true 11), [.tmp 12], (some 13), none⟩, false, false, 0, 0⟩,
 ⟨⟨.move, [.tmp 0], (some 14), none⟩, false, false, 0, 0⟩,
 ⟨⟨.move, [.tmp 1], (some 15), none⟩, false, false, 0, 0⟩,
 ⟨⟨(.indexAddrS 11), [.tmp 14, .tmp 15], (some 16), none⟩, false, false, 0, 0⟩,
 ⟨⟨(.load true 11), [.tmp 16], (some 17), none⟩, false, false, 0, 0⟩,
 ⟨⟨(.indexAddrS 11), [.tmp 6, .tmp 7], (some 18), none⟩, false, false, 0, 0⟩,
 ⟨⟨(.store 11), [.tmp 18, .tmp 13], none, none⟩, true, false, 0, 1⟩,
 ⟨⟨(.indexAddrS 11), [.tmp 8, .tmp 9], (some 19), none⟩, false, false, 1, 1⟩,
 ⟨⟨(.store 11), [.tmp 19, .tmp 17], none, none⟩, true, false, 1, 2⟩]), []⟩
theorem c90_ok : compFunc Try.prog Try.f90 = some c90 := by kernel_rfl
theorem c90_body : hasBody Try.prog 90 = true := hasBody_of Try.func90 (by kernel_rfl)
/-- coachyard/stats.order -/
def c91 : PFn := ⟨19, Tr.ofList (List.replicate 19 undefA), (.seq (.seqR [⟨.box, [.tmp 0], (some 2), none⟩,
 ⟨.box, [.tmp 1], (some 3), none⟩,
 ⟨.move, [.const (.int .i64 0)], (some 4), none⟩])
 (.seq (.drawR [⟨⟨(.fieldAddr 10), [.tmp 3], (some 5), none⟩, false, false, 0, 0⟩,
 ⟨⟨(.load false 1), [.tmp 5], (some 6), none⟩, false, false, 0, 0⟩,
 ⟨⟨(.fieldAddr 10), [.tmp 2], (some 7), none⟩, false, false, 0, 0⟩,
 ⟨⟨(.load false 1), [.tmp 7], (some 8), none⟩, false, false, 0, 0⟩,
 ⟨⟨(.callF 93), [.tmp 6, .tmp 8], (some 9), none⟩, true, false, 0, 1⟩,
 ⟨⟨(.fieldAddr 0), [.tmp 2], (some 10), none⟩, false, false, 0, 1⟩,
 ⟨⟨(.fieldAddr 2), [.tmp 10], (some 11), none⟩, false, false, 0, 1⟩,
 ⟨⟨(.load false 1), [.tmp 11], (some 12), none⟩, false, false, 0, 1⟩,
 ⟨⟨(.fieldAddr 0), [.tmp 3], (some 13), none⟩, false, false, 0, 1⟩,
 ⟨⟨(.fieldAddr 2), [.tmp 13], (some 14), none⟩, false, false, 0, 1⟩,
 ⟨⟨(.load false 1), [.tmp 14], (some 15), none⟩, false, false, 0, 1⟩,
 ⟨⟨(.callF 93), [.tmp 12, .tmp 15], (some 16), none⟩, true, false, 1, 2⟩,
 ⟨⟨(.sliceLit 2 [(.int .i64 0), (.int .i64 0)] [(0, 1), (1, 1)]), [.tmp 9, .tmp 16], (some 17), none⟩, true, false, 2, 3⟩,
 ⟨⟨(.callF 92), [.tmp 17], (some 18), none⟩, true, false, 3, 4⟩,
 ⟨⟨.move, [.tmp 18], (some 4), none⟩, false, false, 4, 4⟩])
 .ret)), [.tmp 4]⟩
theorem c91_ok : compFunc Try.prog Try.f91 = some c91 := by kernel_rfl
theorem c91_body : hasBody Try.prog 91 = true := hasBody_of Try.func91 (by kernel_rfl)
/-- cmp.Or[int] -/
def c92 : PFn := ⟨18, Tr.ofList (List.replicate 18 undefA), (.seq (.seqR [⟨.move, [.const (.int .i64 0)], (some 2), none⟩])
 (.seq (.seqR [⟨.move, [.const (.int .i64 0)], (some 3), none⟩])
 (.seq (.seq (.seqR [⟨.move, [.tmp 0], (some 6), none⟩,
 ⟨.lenS, [.tmp 6], (some 7), none⟩,
 ⟨.move, [.const (.int .i64 0)], (some 8), none⟩])
 (.block 0 (.loop (.seq (.seqR [⟨(.bin .lss), [.tmp 8, .tmp 7], (some 9), none⟩])
 (.seq (.cond (.tmp 9) .skip
 (.exit 0))
 (.seq (.block 1 (.seq (.seqR [⟨(.indexAddrS 1), [.tmp 6, .tmp 8], (some 10), none⟩,
 ⟨(.load false 1), [.tmp 10], (some 11), none⟩,
 ⟨.move, [.tmp 11], (some 5), none⟩])
 (.seq (.seqR [⟨.move, [.tmp 5], (some 12), none⟩,
 ⟨.move, [.tmp 3], (some 13), none⟩,
 ⟨(.bin .neq), [.tmp 12, .tmp 13], (some 14), none⟩])
 (.cond (.tmp 14) (.seq (.seqR [⟨.move, [.tmp 5], (some 15), none⟩,
 ⟨.move, [.tmp 15], (some 2), none⟩])
 .ret)
 .skip))))
 (.seqR [⟨(.bin .add), [.tmp 8, .const (.int .i64 1)], (some 16), none⟩,
 ⟨.move, [.tmp 16], (some 8), none⟩])))))))
 (.seq (.seqR [⟨.move, [.tmp 3], (some 17), none⟩,
 ⟨.move, [.tmp 17], (some 2), none⟩])
 .ret)))), [.tmp 2]⟩
theorem c92_ok : compFunc Try.prog Try.f92 = some c92 := by kernel_rfl
theorem c92_body : hasBody Try.prog 92 = true := hasBody_of Try.func92 (by kernel_rfl)
/-- cmp.Compare[int] -/
def c93 : PFn := ⟨20, Tr.ofList (List.replicate 20 undefA), (.seq (.seqR [⟨.move, [.const (.int .i64 0)], (some 4), none⟩])
 (.seq (.seqR [⟨.move, [.tmp 0], (some 7), none⟩,
 ⟨(.callF 66), [.tmp 7], (some 8), none⟩,
 ⟨.move, [.tmp 8], (some 5), none⟩])
 (.seq (.seqR [⟨.move, [.tmp 1], (some 9), none⟩,
 ⟨(.callF 66), [.tmp 9], (some 10), none⟩,
 ⟨.move, [.tmp 10], (some 6), none⟩])
 (.seq (.seq (.seqR [⟨.move, [.tmp 5], (some 11), none⟩])
 (.cond (.tmp 11) (.seq (.seq (.seqR [⟨.move, [.tmp 6], (some 12), none⟩])
 (.cond (.tmp 12) (.seq (.seqR [⟨.move, [.const (.int .i64 0)], (some 4), none⟩])
 .ret)
 .skip))
 (.seq (.seqR [⟨.move, [.const (.int .i64 (-1))], (some 4), none⟩])
 .ret))
 .skip))
 (.seq (.seq (.seqR [⟨.move, [.tmp 6], (some 13), none⟩])
 (.cond (.tmp 13) (.seq (.seqR [⟨.move, [.const (.int .i64 1)], (some 4), none⟩])
 .ret)
 .skip))
 (.seq (.seq (.seqR [⟨.move, [.tmp 0], (some 14), none⟩,
 ⟨.move, [.tmp 1], (some 15), none⟩,
 ⟨(.bin .lss), [.tmp 14, .tmp 15], (some 16), none⟩])
 (.cond (.tmp 16) (.seq (.seqR [⟨.move, [.const (.int .i64 (-1))], (some 4), none⟩])
 .ret)
 .skip))
 (.seq (.seq (.seqR [⟨.move, [.tmp 0], (some 17), none⟩,
 ⟨.move, [.tmp 1], (some 18), none⟩,
 ⟨(.bin .gtr), [.tmp 17, .tmp 18], (some 19), none⟩])
 (.cond (.tmp 19) (.seq (.seqR [⟨.move, [.const (.int .i64 1)], (some 4), none⟩])
 .ret)
 .skip))
 (.seq (.seqR [⟨.move, [.const (.int .i64 0)], (some 4), none⟩])
 .ret)))))))), [.tmp 4]⟩
theorem c93_ok : compFunc Try.prog Try.f93 = some c93 := by kernel_rfl
theorem c93_body : hasBody Try.prog 93 = true := hasBody_of Try.func93 (by kernel_rfl)
end Go.Proofs.Ytoddncakdnmloaa
