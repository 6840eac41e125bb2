/- The code of the small machine for some of the program's functions: printed by program; each is what the rules make of the program's own. -/
import Derived.Test.YtefcnhmbpkdlmabGreatDoorVx16
import Derived.Test.YtefcnhmbpkdlmabGreatDoorProg
import Derived.KernelRfl
namespace Go.Proofs.YtefcnhmbpkdlmabGreatDoor
open Go Go.Vx Go.Proofs
/-- math/bits.Len -/
def c49 : PFn := ⟨8, Tr.ofList (List.replicate 8 undefA), (.seq (.seqR [⟨.move, [.const (.int .i64 0)], (some 2), none⟩])
 (.seq (.cond (.const (.bool false)) (.seq (.seqR [⟨.move, [.tmp 0], (some 3), none⟩,
 ⟨(.conv .u32), [.tmp 3], (some 4), none⟩,
 ⟨(.callF 83), [.tmp 4], (some 5), none⟩,
 ⟨.move, [.tmp 5], (some 2), none⟩])
 .ret)
 .skip)
 (.seq (.seqR [⟨.move, [.tmp 0], (some 6), none⟩,
 ⟨(.callF 84), [.tmp 6], (some 7), none⟩,
 ⟨.move, [.tmp 7], (some 2), none⟩])
 .ret))), [.tmp 2]⟩
theorem c49_ok : compFunc Tryz.prog Tryz.f49 = some c49 := by kernel_rfl
theorem c49_body : hasBody Tryz.prog 49 = true := hasBody_of Tryz.func49 (by kernel_rfl)
/-- slices.IndexFunc[[]coachyard/explore.Outcome,coachyard/explore.Outcome] -/
def c50 : PFn := ⟨19, Tr.ofList (List.replicate 19 undefA), (.seq (.seqR [⟨.move, [.const (.int .i64 0)], (some 4), none⟩])
 (.seq (.seq (.seqR [⟨.move, [.tmp 0], (some 6), none⟩,
 ⟨.lenS, [.tmp 6], (some 7), none⟩,
 ⟨.move, [.const (.int .i64 0)], (some 8), none⟩])
 (.block 0 (.loop (.seq (.seqR [⟨(.bin .lss), [.tmp 8, .tmp 7], (some 9), none⟩])
 (.seq (.cond (.tmp 9) .skip
 (.exit 0))
 (.seq (.block 1 (.seq (.seqR [⟨.move, [.tmp 8], (some 10), none⟩,
 ⟨.move, [.tmp 10], (some 5), none⟩])
 (.seq (.seqR [⟨.move, [.tmp 1], (some 11), none⟩,
 ⟨.move, [.tmp 0], (some 12), none⟩,
 ⟨.move, [.tmp 5], (some 13), none⟩,
 ⟨(.indexAddrS 2), [.tmp 12, .tmp 13], (some 14), none⟩,
 ⟨(.load true 2), [.tmp 14], (some 15), none⟩,
 ⟨.callV, [.tmp 11, .tmp 15], (some 16), none⟩])
 (.cond (.tmp 16) (.seq (.seqR [⟨.move, [.tmp 5], (some 17), none⟩,
 ⟨.move, [.tmp 17], (some 4), none⟩])
 .ret)
 .skip))))
 (.seqR [⟨(.bin .add), [.tmp 8, .const (.int .i64 1)], (some 18), none⟩,
 ⟨.move, [.tmp 18], (some 8), none⟩])))))))
 (.seq (.seqR [⟨.move, [.const (.int .i64 (-1))], (some 4), none⟩])
 .ret))), [.tmp 4]⟩
theorem c50_ok : compFunc Tryz.prog Tryz.f50 = some c50 := by kernel_rfl
theorem c50_body : hasBody Tryz.prog 50 = true := hasBody_of Tryz.func50 (by kernel_rfl)
/-- coachyard/cells.New -/
def c51 : PFn := ⟨14, Tr.ofList (List.replicate 14 undefA), (.seq (.seqR [⟨.move, [.const (.ptr none)], (some 2), none⟩,
 ⟨.move, [.const (.int .i64 0)], (some 3), none⟩])
 (.seq (.seq (.seqR [⟨.move, [.tmp 0], (some 4), none⟩,
 ⟨(.bin .lss), [.tmp 4, .const (.int .i64 1)], (some 5), none⟩,
 ⟨.move, [.tmp 5], (some 6), none⟩,
 ⟨.move, [.tmp 0], (some 7), some (6, false)⟩,
 ⟨(.bin .gtr), [.tmp 7, .const (.int .i64 65536)], (some 8), some (6, false)⟩,
 ⟨.pick, [.tmp 6, .const (.bool true), .tmp 8], (some 9), none⟩])
 (.cond (.tmp 9) (.seq (.seqR [⟨.move, [.const (.ptr none)], (some 2), none⟩,
 ⟨.move, [.const (.int .i64 2)], (some 3), none⟩])
 .ret)
 .skip))
 (.seq (.seqR [⟨.move, [.tmp 0], (some 10), none⟩,
 ⟨(.makeSlice 1 8 [(.int .u64 0)]), [.tmp 10, .tmp 10], (some 11), none⟩,
 ⟨(.build [(.slice none 0 0 false)] [(0, 1)]), [.tmp 11], (some 12), none⟩,
 ⟨.box, [.tmp 12], (some 13), none⟩,
 ⟨.move, [.tmp 13], (some 2), none⟩,
 ⟨.move, [.const (.int .i64 0)], (some 3), none⟩])
 .ret))), [.tmp 2, .tmp 3]⟩
theorem c51_ok : compFunc Tryz.prog Tryz.f51 = some c51 := by kernel_rfl
theorem c51_body : hasBody Tryz.prog 51 = true := hasBody_of Tryz.func51 (by kernel_rfl)
/-- (coachyard/plan.Plan).Cells -/
def c52 : PFn := ⟨19, Tr.ofList (List.replicate 19 undefA), (.seq (.seqR [⟨.box, [.tmp 0], (some 1), none⟩,
 ⟨.move, [.const (.int .i64 0)], (some 2), none⟩])
 (.seq (.seq (.seqR [⟨(.fieldAddr 0), [.tmp 1], (some 3), none⟩,
 ⟨(.fieldAddr 0), [.tmp 3], (some 4), none⟩,
 ⟨(.load false 1), [.tmp 4], (some 5), none⟩,
 ⟨(.bin .eql), [.tmp 5, .const (.int .i64 0)], (some 6), none⟩])
 (.cond (.tmp 6) (.seq (.seqR [⟨.move, [.const (.int .i64 0)], (some 2), none⟩])
 .ret)
 .skip))
 (.seq (.drawR [⟨⟨(.fieldAddr 0), [.tmp 1], (some 7), none⟩, false, false, 0, 0⟩,
 ⟨⟨(.load true 4), [.tmp 7], (some 8), none⟩, false, false, 0, 0⟩,
 ⟨⟨(.callF 85), [.tmp 8], (some 9), none⟩, true, false, 0, 1⟩,
 ⟨⟨(.fieldAddr 0), [.tmp 1], (some 10), none⟩, false, false, 0, 1⟩,
 ⟨⟨(.fieldAddr 0), [.tmp 10], (some 11), none⟩, false, false, 0, 1⟩,
 ⟨⟨(.load false 1), [.tmp 11], (some 12), none⟩, false, false, 0, 1⟩,
 ⟨⟨(.fieldAddr 0), [.tmp 1], (some 13), none⟩, false, false, 0, 1⟩,
 ⟨⟨(.fieldAddr 2), [.tmp 13], (some 14), none⟩, false, false, 0, 1⟩,
 ⟨⟨(.load false 1), [.tmp 14], (some 15), none⟩, false, false, 0, 1⟩,
 ⟨⟨(.bin .add), [.tmp 15, .const (.int .i64 2)], (some 16), none⟩, false, false, 0, 1⟩,
 ⟨⟨(.bin .mul), [.tmp 12, .tmp 16], (some 17), none⟩, false, false, 0, 1⟩,
 ⟨⟨(.bin .add), [.tmp 9, .tmp 17], (some 18), none⟩, false, false, 1, 1⟩,
 ⟨⟨.move, [.tmp 18], (some 2), none⟩, false, false, 1, 1⟩])
 .ret))), [.tmp 2]⟩
theorem c52_ok : compFunc Tryz.prog Tryz.f52 = some c52 := by kernel_rfl
theorem c52_body : hasBody Tryz.prog 52 = true := hasBody_of Tryz.func52 (by kernel_rfl)
/-- (coachyard/plan.Plan).Line -/
def c53 : PFn := ⟨16, Tr.ofList (List.replicate 16 undefA), (.seq (.seqR [⟨.box, [.tmp 0], (some 1), none⟩,
 ⟨(.new [(.int .i64 0), (.int .i64 0)]), [], (some 2), none⟩])
 (.seq (.seq (.seqR [⟨(.fieldAddr 0), [.tmp 1], (some 3), none⟩,
 ⟨(.fieldAddr 0), [.tmp 3], (some 4), none⟩,
 ⟨(.load false 1), [.tmp 4], (some 5), none⟩,
 ⟨(.bin .eql), [.tmp 5, .const (.int .i64 0)], (some 6), none⟩])
 (.cond (.tmp 6) (.seq (.seqR [⟨(.build [(.int .i64 0), (.int .i64 0)] []), [], (some 7), none⟩,
 ⟨(.store 2), [.tmp 2, .tmp 7], none, none⟩])
 .ret)
 .skip))
 (.seq (.seqR [⟨(.fieldAddr 0), [.tmp 1], (some 8), none⟩,
 ⟨(.fieldAddr 0), [.tmp 8], (some 9), none⟩,
 ⟨(.load false 1), [.tmp 9], (some 10), none⟩,
 ⟨(.bin .add), [.const (.int .i64 1), .tmp 10], (some 11), none⟩,
 ⟨(.fieldAddr 0), [.tmp 1], (some 12), none⟩,
 ⟨(.fieldAddr 3), [.tmp 12], (some 13), none⟩,
 ⟨(.load false 1), [.tmp 13], (some 14), none⟩,
 ⟨(.build [(.int .i64 0), (.int .i64 0)] [(0, 1), (1, 1)]), [.tmp 11, .tmp 14], (some 15), none⟩,
 ⟨(.store 2), [.tmp 2, .tmp 15], none, none⟩])
 .ret))), [.cell 2 true 2]⟩
theorem c53_ok : compFunc Tryz.prog Tryz.f53 = some c53 := by kernel_rfl
theorem c53_body : hasBody Tryz.prog 53 = true := hasBody_of Tryz.func53 (by kernel_rfl)
/-- (coachyard/queue.Line).Init -/
def c54 : PFn := ⟨42, Tr.ofList (List.replicate 42 undefA), (.seq (.seqR [⟨.box, [.tmp 0], (some 2), none⟩,
 ⟨.move, [.const (.int .i64 0)], (some 4), none⟩])
 (.seq (.seq (.seqR [⟨(.load true 2), [.tmp 2], (some 8), none⟩,
 ⟨.move, [.tmp 1], (some 9), none⟩,
 ⟨(.callF 86), [.tmp 8, .tmp 9], (some 10), none⟩,
 ⟨.move, [.tmp 10], (some 5), none⟩])
 (.seq (.seqR [⟨.move, [.tmp 5], (some 11), none⟩,
 ⟨(.bin .neq), [.tmp 11, .const (.int .i64 0)], (some 12), none⟩])
 (.cond (.tmp 12) (.seq (.seqR [⟨.move, [.tmp 5], (some 13), none⟩,
 ⟨.move, [.tmp 13], (some 4), none⟩])
 .ret)
 .skip)))
 (.seq (.seq (.seqR [⟨(.load true 2), [.tmp 2], (some 14), none⟩,
 ⟨(.callF 87), [.tmp 14], (some 15), none⟩,
 ⟨.move, [.const (.int .i64 0)], (some 16), none⟩])
 (.block 0 (.loop (.seq (.seqR [⟨(.bin .lss), [.tmp 16, .tmp 15], (some 17), none⟩])
 (.seq (.cond (.tmp 17) .skip
 (.exit 0))
 (.seq (.block 1 (.seq (.seqR [⟨.move, [.tmp 16], (some 18), none⟩,
 ⟨.move, [.tmp 18], (some 6), none⟩])
 (.seqR [⟨.move, [.tmp 1], (some 19), none⟩,
 ⟨(.fieldAddr 0), [.tmp 2], (some 20), none⟩,
 ⟨(.load false 1), [.tmp 20], (some 21), none⟩,
 ⟨.move, [.tmp 6], (some 22), none⟩,
 ⟨(.bin .add), [.tmp 21, .tmp 22], (some 23), none⟩,
 ⟨(.build [(.int .i64 0), (.int .i64 0), (.int .u64 0), (.int .u64 0)] [(0, 1), (1, 1)]), [.const (.int .i64 2), .tmp 23], (some 24), none⟩,
 ⟨(.callF 66), [.tmp 19, .tmp 24], (some 25), none⟩])))
 (.seqR [⟨(.bin .add), [.tmp 16, .const (.int .i64 1)], (some 26), none⟩,
 ⟨.move, [.tmp 26], (some 16), none⟩])))))))
 (.seq (.seqR [⟨(.load true 2), [.tmp 2], (some 27), none⟩,
 ⟨(.callF 88), [.tmp 27], (some 28), none⟩,
 ⟨.move, [.tmp 1], (some 29), none⟩,
 ⟨(.callF 89), [.tmp 28, .tmp 29, .const (.int .i64 2)], (some 30), none⟩])
 (.seq (.seq (.seqR [⟨.move, [.const (.int .i64 0)], (some 31), none⟩])
 (.block 2 (.loop (.seq (.seqR [⟨(.bin .lss), [.tmp 31, .const (.int .i64 2)], (some 32), none⟩])
 (.seq (.cond (.tmp 32) .skip
 (.exit 2))
 (.seq (.block 3 (.seq (.seqR [⟨.move, [.tmp 31], (some 33), none⟩,
 ⟨.move, [.tmp 33], (some 7), none⟩])
 (.seqR [⟨.move, [.tmp 1], (some 34), none⟩,
 ⟨(.fieldAddr 0), [.tmp 2], (some 35), none⟩,
 ⟨(.load false 1), [.tmp 35], (some 36), none⟩,
 ⟨.move, [.tmp 7], (some 37), none⟩,
 ⟨(.bin .add), [.tmp 36, .tmp 37], (some 38), none⟩,
 ⟨(.build [(.int .i64 0), (.int .i64 0), (.int .u64 0), (.int .u64 0)] [(0, 1), (1, 1), (2, 1)]), [.const (.int .i64 2), .tmp 38, .const (.int .u64 1)], (some 39), none⟩,
 ⟨(.callF 66), [.tmp 34, .tmp 39], (some 40), none⟩])))
 (.seqR [⟨(.bin .add), [.tmp 31, .const (.int .i64 1)], (some 41), none⟩,
 ⟨.move, [.tmp 41], (some 31), none⟩])))))))
 (.seq (.seqR [⟨.move, [.const (.int .i64 0)], (some 4), none⟩])
 .ret)))))), [.tmp 4]⟩
theorem c54_ok : compFunc Tryz.prog Tryz.f54 = some c54 := by kernel_rfl
theorem c54_body : hasBody Tryz.prog 54 = true := hasBody_of Tryz.func54 (by kernel_rfl)
/-- (*coachyard/pool.Pool).Call$1 -/
def c55 : PFn := ⟨12, Tr.ofList (List.replicate 12 undefA), (.seq (.seqR [⟨.box, [.tmp 2], (some 5), none⟩,
 ⟨.move, [.const (.ptr none)], (some 6), none⟩])
 (.seq (.seqR [⟨.move, [.tmp 0], (some 7), none⟩,
 ⟨.move, [.tmp 1], (some 8), none⟩,
 ⟨(.fieldAddr 1), [.tmp 5], (some 9), none⟩,
 ⟨(.load false 1), [.tmp 9], (some 10), none⟩,
 ⟨(.callF 56), [.tmp 7, .tmp 8, .tmp 10], (some 11), none⟩,
 ⟨.move, [.tmp 11], (some 6), none⟩])
 .ret)), [.tmp 6]⟩
theorem c55_ok : compFunc Tryz.prog Tryz.f55 = some c55 := by kernel_rfl
theorem c55_body : hasBody Tryz.prog 55 = true := hasBody_of Tryz.func55 (by kernel_rfl)
/-- (*coachyard/pool.Pool).Submit -/
def c56 : PFn := ⟨11, Tr.ofList (List.replicate 11 undefA), (.seq (.seqR [⟨.box, [.tmp 0], (some 3), none⟩,
 ⟨.box, [.tmp 1], (some 4), none⟩,
 ⟨.box, [.tmp 2], (some 5), none⟩,
 ⟨.move, [.const (.ptr none)], (some 6), none⟩])
 (.seq (.seqR [⟨(.load false 1), [.tmp 3], (some 7), none⟩,
 ⟨(.load false 1), [.tmp 4], (some 8), none⟩,
 ⟨(.mkFunc (.func 91) 0), [.tmp 5, .tmp 3, .tmp 4], (some 9), none⟩,
 ⟨(.callF 90), [.tmp 7, .tmp 8, .tmp 9], (some 10), none⟩,
 ⟨.move, [.tmp 10], (some 6), none⟩])
 .ret)), [.tmp 6]⟩
theorem c56_ok : compFunc Tryz.prog Tryz.f56 = some c56 := by kernel_rfl
theorem c56_body : hasBody Tryz.prog 56 = true := hasBody_of Tryz.func56 (by kernel_rfl)
/-- (*coachyard/pool.Pool).Call$2 -/
def c57 : PFn := ⟨12, Tr.ofList (List.replicate 12 undefA), (.seq (.seqR [⟨.box, [.tmp 2], (some 5), none⟩,
 ⟨.move, [.const (.ptr none)], (some 6), none⟩])
 (.seq (.seqR [⟨.move, [.tmp 0], (some 7), none⟩,
 ⟨.move, [.tmp 1], (some 8), none⟩,
 ⟨(.fieldAddr 2), [.tmp 5], (some 9), none⟩,
 ⟨(.load false 1), [.tmp 9], (some 10), none⟩,
 ⟨(.callF 58), [.tmp 7, .tmp 8, .tmp 10], (some 11), none⟩,
 ⟨.move, [.tmp 11], (some 6), none⟩])
 .ret)), [.tmp 6]⟩
theorem c57_ok : compFunc Tryz.prog Tryz.f57 = some c57 := by kernel_rfl
theorem c57_body : hasBody Tryz.prog 57 = true := hasBody_of Tryz.func57 (by kernel_rfl)
/-- (*coachyard/pool.Pool).Next -/
def c58 : PFn := ⟨11, Tr.ofList (List.replicate 11 undefA), (.seq (.seqR [⟨.box, [.tmp 0], (some 3), none⟩,
 ⟨.box, [.tmp 1], (some 4), none⟩,
 ⟨.box, [.tmp 2], (some 5), none⟩,
 ⟨.move, [.const (.ptr none)], (some 6), none⟩])
 (.seq (.seqR [⟨(.load false 1), [.tmp 3], (some 7), none⟩,
 ⟨(.load false 1), [.tmp 4], (some 8), none⟩,
 ⟨(.mkFunc (.func 95) 0), [.tmp 5, .tmp 3, .tmp 4], (some 9), none⟩,
 ⟨(.callF 90), [.tmp 7, .tmp 8, .tmp 9], (some 10), none⟩,
 ⟨.move, [.tmp 10], (some 6), none⟩])
 .ret)), [.tmp 6]⟩
theorem c58_ok : compFunc Tryz.prog Tryz.f58 = some c58 := by kernel_rfl
theorem c58_body : hasBody Tryz.prog 58 = true := hasBody_of Tryz.func58 (by kernel_rfl)
/-- (*coachyard/pool.Pool).parks -/
def c59 : PFn := ⟨10, Tr.ofList (List.replicate 10 undefA), (.seq (.seqR [⟨.box, [.tmp 2], (some 5), none⟩,
 ⟨.move, [.const (.ptr none)], (some 6), none⟩])
 (.seq (.seqR [⟨.move, [.tmp 0], (some 7), none⟩,
 ⟨.move, [.tmp 1], (some 8), none⟩,
 ⟨(.callF 63), [.tmp 7, .tmp 8], (some 9), none⟩,
 ⟨.move, [.tmp 9], (some 6), none⟩])
 .ret)), [.tmp 6]⟩
theorem c59_ok : compFunc Tryz.prog Tryz.f59 = some c59 := by kernel_rfl
theorem c59_body : hasBody Tryz.prog 59 = true := hasBody_of Tryz.func59 (by kernel_rfl)
/-- coachyard/walk.New -/
def c60 : PFn := ⟨12, Tr.ofList (List.replicate 12 undefA), (.seq (.seqR [⟨.move, [.const (.ptr none)], (some 2), none⟩])
 (.seq (.seqR [⟨(.build [(.int .i64 0), (.int .i64 0), (.int .u64 0), (.int .u64 0), .nilFunc, (.bool false), (.ptr none), .nilFunc, (.bool false), (.int .i64 0), (.int .u64 0), (.slice none 0 0 false), (.slice none 0 0 false)] []), [], (some 4), none⟩,
 ⟨.box, [.tmp 4], (some 5), none⟩,
 ⟨.move, [.tmp 5], (some 3), none⟩])
 (.seq (.seq (.seqR [⟨.move, [.tmp 0], (some 6), none⟩,
 ⟨(.eqNil 2 true), [.tmp 6, .const .nilFunc], (some 7), none⟩])
 (.cond (.tmp 7) (.seqR [⟨.move, [.tmp 0], (some 8), none⟩,
 ⟨.move, [.tmp 3], (some 9), none⟩,
 ⟨.callV, [.tmp 8, .tmp 9], (some 10), none⟩])
 .skip))
 (.seq (.seqR [⟨.move, [.tmp 3], (some 11), none⟩,
 ⟨.move, [.tmp 11], (some 2), none⟩])
 .ret)))), [.tmp 2]⟩
theorem c60_ok : compFunc Tryz.prog Tryz.f60 = some c60 := by kernel_rfl
theorem c60_body : hasBody Tryz.prog 60 = true := hasBody_of Tryz.func60 (by kernel_rfl)
/-- (*coachyard/pool.Pool).Call$3 -/
def c61 : PFn := ⟨4, Tr.ofList (List.replicate 4 undefA), (.seqR [⟨.move, [.tmp 0], (some 2), none⟩,
 ⟨(.callF 62), [.tmp 2, .const (.int .i64 2)], (some 3), none⟩]), []⟩
theorem c61_ok : compFunc Tryz.prog Tryz.f61 = some c61 := by kernel_rfl
theorem c61_body : hasBody Tryz.prog 61 = true := hasBody_of Tryz.func61 (by kernel_rfl)
/-- (*coachyard/walk.Walk).Break -/
def c62 : PFn := ⟨8, Tr.ofList (List.replicate 8 undefA), (.seqR [⟨.move, [.tmp 0], (some 4), none⟩,
 ⟨.move, [.tmp 1], (some 5), none⟩,
 ⟨(.build [(.int .i64 0), (.int .u64 0), (.slice none 0 0 false)] [(0, 1)]), [.tmp 5], (some 6), none⟩,
 ⟨(.callF 99), [.tmp 4, .tmp 6], (some 7), none⟩]), []⟩
theorem c62_ok : compFunc Tryz.prog Tryz.f62 = some c62 := by kernel_rfl
theorem c62_body : hasBody Tryz.prog 62 = true := hasBody_of Tryz.func62 (by kernel_rfl)
/-- (*coachyard/pool.Pool).Park -/
def c63 : PFn := ⟨9, Tr.ofList (List.replicate 9 undefA), (.seq (.seqR [⟨.box, [.tmp 0], (some 2), none⟩,
 ⟨.box, [.tmp 1], (some 3), none⟩,
 ⟨.move, [.const (.ptr none)], (some 4), none⟩])
 (.seq (.seqR [⟨(.load false 1), [.tmp 2], (some 5), none⟩,
 ⟨(.load false 1), [.tmp 3], (some 6), none⟩,
 ⟨(.mkFunc (.func 100) 0), [.tmp 2, .tmp 3], (some 7), none⟩,
 ⟨(.callF 90), [.tmp 5, .tmp 6, .tmp 7], (some 8), none⟩,
 ⟨.move, [.tmp 8], (some 4), none⟩])
 .ret)), [.tmp 4]⟩
theorem c63_ok : compFunc Tryz.prog Tryz.f63 = some c63 := by kernel_rfl
theorem c63_body : hasBody Tryz.prog 63 = true := hasBody_of Tryz.func63 (by kernel_rfl)
/-- slices.Clone[[]int,int] -/
def c64 : PFn := ⟨8, Tr.ofList (List.replicate 8 undefA), (.seq (.seqR [⟨.move, [.const (.slice none 0 0 false)], (some 2), none⟩])
 (.seq (.seq (.seqR [⟨.move, [.tmp 0], (some 3), none⟩,
 ⟨(.eqNil 0 false), [.tmp 3, .const (.slice none 0 0 false)], (some 4), none⟩])
 (.cond (.tmp 4) (.seq (.seqR [⟨.move, [.const (.slice none 0 0 false)], (some 2), none⟩])
 .ret)
 .skip))
 (.seq (.seqR [⟨(.sliceLit 0 [] []), [], (some 5), none⟩,
 ⟨.move, [.tmp 0], (some 6), none⟩,
 ⟨(.append 1 8), [.tmp 5, .tmp 6], (some 7), none⟩,
 ⟨.move, [.tmp 7], (some 2), none⟩])
 .ret))), [.tmp 2]⟩
theorem c64_ok : compFunc Tryz.prog Tryz.f64 = some c64 := by kernel_rfl
theorem c64_body : hasBody Tryz.prog 64 = true := hasBody_of Tryz.func64 (by kernel_rfl)
/-- (*coachyard/loom.Loom).Steps -/
def c65 : PFn := ⟨9, Tr.ofList (List.replicate 9 undefA), (.seq (.seqR [⟨.move, [.const (.int .i64 0)], (some 2), none⟩])
 (.seq (.seq (.seqR [⟨.move, [.tmp 0], (some 3), none⟩,
 ⟨(.eqPtr false), [.tmp 3, .const (.ptr none)], (some 4), none⟩])
 (.cond (.tmp 4) (.seq (.seqR [⟨.move, [.const (.int .i64 0)], (some 2), none⟩])
 .ret)
 .skip))
 (.seq (.seqR [⟨.move, [.tmp 0], (some 5), none⟩,
 ⟨.nilCheck, [.tmp 5], (some 6), none⟩,
 ⟨(.fieldAddr 2), [.tmp 6], (some 7), none⟩,
 ⟨(.load false 1), [.tmp 7], (some 8), none⟩,
 ⟨.move, [.tmp 8], (some 2), none⟩])
 .ret))), [.tmp 2]⟩
theorem c65_ok : compFunc Tryz.prog Tryz.f65 = some c65 := by kernel_rfl
theorem c65_body : hasBody Tryz.prog 65 = true := hasBody_of Tryz.func65 (by kernel_rfl)
/-- (*coachyard/cells.Mem).Do -/
def c66 : PFn := ⟨58, Tr.ofList (List.replicate 58 undefA), (.seq (.seqR [⟨.box, [.tmp 1], (some 3), none⟩,
 ⟨.move, [.const (.int .u64 0)], (some 4), none⟩,
 ⟨.move, [.const (.bool false)], (some 5), none⟩,
 ⟨.move, [.const (.int .i64 0)], (some 6), none⟩])
 (.seq (.seq (.seqR [⟨.move, [.tmp 0], (some 11), none⟩,
 ⟨(.eqPtr false), [.tmp 11, .const (.ptr none)], (some 12), none⟩])
 (.cond (.tmp 12) (.seq (.seqR [⟨.move, [.const (.int .u64 0)], (some 4), none⟩,
 ⟨.move, [.const (.bool false)], (some 5), none⟩,
 ⟨.move, [.const (.int .i64 1)], (some 6), none⟩])
 .ret)
 .skip))
 (.seq (.seqR [⟨(.fieldAddr 0), [.tmp 3], (some 13), none⟩,
 ⟨(.load false 1), [.tmp 13], (some 14), none⟩,
 ⟨(.callF 104), [.tmp 14], (some 15), none⟩,
 ⟨.move, [.tmp 15], (some 7), none⟩])
 (.seq (.block 0 (.seq (.seqR [⟨.move, [.tmp 7], (some 17), none⟩,
 ⟨(.eqNil 2 false), [.tmp 17, .const .nilFunc], (some 18), none⟩,
 ⟨.move, [.tmp 18], (some 16), none⟩])
 (.cond (.tmp 16) (.seq (.seqR [⟨.move, [.const (.int .u64 0)], (some 4), none⟩,
 ⟨.move, [.const (.bool false)], (some 5), none⟩,
 ⟨.move, [.const (.int .i64 2)], (some 6), none⟩])
 .ret)
 (.seq (.drawR [⟨⟨(.fieldAddr 1), [.tmp 3], (some 20), none⟩, false, false, 0, 0⟩,
 ⟨⟨(.load false 1), [.tmp 20], (some 21), none⟩, false, false, 0, 0⟩,
 ⟨⟨(.bin .lss), [.tmp 21, .const (.int .i64 0)], (some 22), none⟩, false, false, 0, 0⟩,
 ⟨⟨.move, [.tmp 22], (some 23), none⟩, false, false, 0, 0⟩,
 ⟨⟨(.fieldAddr 1), [.tmp 3], (some 24), some (23, false)⟩, false, false, 0, 0⟩,
 ⟨⟨(.load false 1), [.tmp 24], (some 25), some (23, false)⟩, false, false, 0, 0⟩,
 ⟨⟨.move, [.tmp 0], (some 26), some (23, false)⟩, false, false, 0, 0⟩,
 ⟨⟨.nilCheck, [.tmp 26], (some 27), some (23, false)⟩, false, false, 0, 0⟩,
 ⟨⟨(.fieldAddr 0), [.tmp 27], (some 28), some (23, false)⟩, false, false, 0, 0⟩,
 ⟨⟨(.load false 1), [.tmp 28], (some 29), some (23, false)⟩, false, false, 0, 0⟩,
 ⟨⟨.lenS, [.tmp 29], (some 30), some (23, false)⟩, false, false, 0, 0⟩,
 ⟨⟨(.bin .geq), [.tmp 25, .tmp 30], (some 31), some (23, false)⟩, false, false, 0, 0⟩,
 ⟨⟨.pick, [.tmp 23, .const (.bool true), .tmp 31], (some 32), none⟩, false, false, 0, 0⟩,
 ⟨⟨.move, [.tmp 32], (some 19), none⟩, false, false, 0, 0⟩])
 (.cond (.tmp 19) (.seq (.seqR [⟨.move, [.const (.int .u64 0)], (some 4), none⟩,
 ⟨.move, [.const (.bool false)], (some 5), none⟩,
 ⟨.move, [.const (.int .i64 3)], (some 6), none⟩])
 .ret)
 .skip)))))
 (.seq (.drawR [⟨⟨.move, [.tmp 0], (some 33), none⟩, false, false, 0, 0⟩,
 ⟨⟨.nilCheck, [.tmp 33], (some 34), none⟩, false, false, 0, 0⟩,
 ⟨⟨(.fieldAddr 0), [.tmp 34], (some 35), none⟩, false, false, 0, 0⟩,
 ⟨⟨(.load false 1), [.tmp 35], (some 36), none⟩, false, false, 0, 0⟩,
 ⟨⟨(.fieldAddr 1), [.tmp 3], (some 37), none⟩, false, false, 0, 0⟩,
 ⟨⟨(.load false 1), [.tmp 37], (some 38), none⟩, false, false, 0, 0⟩,
 ⟨⟨(.indexAddrS 1), [.tmp 36, .tmp 38], (some 39), none⟩, false, false, 0, 0⟩,
 ⟨⟨(.load false 1), [.tmp 39], (some 40), none⟩, false, false, 0, 0⟩,
 ⟨⟨.move, [.tmp 40], (some 8), none⟩, false, false, 0, 0⟩])
 (.seq (.seqR [⟨.move, [.tmp 7], (some 42), none⟩,
 ⟨.move, [.tmp 8], (some 43), none⟩,
 ⟨(.load true 4), [.tmp 3], (some 44), none⟩,
 ⟨.callV, [.tmp 42, .tmp 43, .tmp 44], (some 45), none⟩,
 ⟨.move, [.tmp 45], (some 41), none⟩,
 ⟨(.extract 0), [.tmp 41], (some 46), none⟩,
 ⟨(.extract 1), [.tmp 41], (some 47), none⟩,
 ⟨.move, [.tmp 46], (some 9), none⟩,
 ⟨.move, [.tmp 47], (some 10), none⟩])
 (.seq (.drawR [⟨⟨.move, [.tmp 0], (some 48), none⟩, false, false, 0, 0⟩,
 ⟨⟨.nilCheck, [.tmp 48], (some 49), none⟩, false, false, 0, 0⟩,
 ⟨⟨(.fieldAddr 0), [.tmp 49], (some 50), none⟩, false, false, 0, 0⟩,
 ⟨⟨(.load false 1), [.tmp 50], (some 51), none⟩, false, false, 0, 0⟩,
 ⟨⟨(.fieldAddr 1), [.tmp 3], (some 52), none⟩, false, false, 0, 0⟩,
 ⟨⟨(.load false 1), [.tmp 52], (some 53), none⟩, false, false, 0, 0⟩,
 ⟨⟨.move, [.tmp 9], (some 54), none⟩, false, false, 0, 0⟩,
 ⟨⟨(.indexAddrS 1), [.tmp 51, .tmp 53], (some 55), none⟩, false, false, 0, 0⟩,
 ⟨⟨(.store 1), [.tmp 55, .tmp 54], none, none⟩, true, false, 0, 1⟩])
 (.seq (.seqR [⟨.move, [.tmp 8], (some 56), none⟩,
 ⟨.move, [.tmp 10], (some 57), none⟩,
 ⟨.move, [.tmp 56], (some 4), none⟩,
 ⟨.move, [.tmp 57], (some 5), none⟩,
 ⟨.move, [.const (.int .i64 0)], (some 6), none⟩])
 .ret)))))))), [.tmp 4, .tmp 5, .tmp 6]⟩
theorem c66_ok : compFunc Tryz.prog Tryz.f66 = some c66 := by kernel_rfl
theorem c66_body : hasBody Tryz.prog 66 = true := hasBody_of Tryz.func66 (by kernel_rfl)
/-- (*coachyard/walk.Walk).Give -/
def c67 : PFn := ⟨46, Tr.ofList (List.replicate 46 undefA), (.block 0 (.seq (.seqR [⟨.move, [.tmp 0], (some 8), none⟩,
 ⟨(.eqPtr false), [.tmp 8, .const (.ptr none)], (some 9), none⟩,
 ⟨.move, [.tmp 9], (some 7), none⟩])
 (.cond (.tmp 7) .skip
 (.seq (.seqR [⟨.move, [.tmp 0], (some 11), none⟩,
 ⟨.nilCheck, [.tmp 11], (some 12), none⟩,
 ⟨(.fieldAddr 6), [.tmp 12], (some 13), none⟩,
 ⟨(.load false 1), [.tmp 13], (some 14), none⟩,
 ⟨(.eqPtr true), [.tmp 14, .const (.ptr none)], (some 15), none⟩,
 ⟨.move, [.tmp 15], (some 10), none⟩])
 (.cond (.tmp 10) (.seq (.seqR [⟨.move, [.tmp 0], (some 16), none⟩,
 ⟨.nilCheck, [.tmp 16], (some 17), none⟩,
 ⟨(.fieldAddr 6), [.tmp 17], (some 18), none⟩,
 ⟨(.load false 1), [.tmp 18], (some 19), none⟩,
 ⟨.move, [.tmp 1], (some 20), none⟩,
 ⟨.move, [.tmp 2], (some 21), none⟩,
 ⟨(.callF 67), [.tmp 19, .tmp 20, .tmp 21], (some 22), none⟩])
 (.seqR [⟨.move, [.tmp 0], (some 23), none⟩,
 ⟨(.callF 105), [.tmp 23], (some 24), none⟩]))
 (.seq (.seqR [⟨.move, [.tmp 0], (some 26), none⟩,
 ⟨.nilCheck, [.tmp 26], (some 27), none⟩,
 ⟨(.fieldAddr 5), [.tmp 27], (some 28), none⟩,
 ⟨(.load false 1), [.tmp 28], (some 29), none⟩,
 ⟨.move, [.tmp 29], (some 25), none⟩])
 (.cond (.tmp 25) (.seq (.seqR [⟨.move, [.tmp 0], (some 30), none⟩,
 ⟨.nilCheck, [.tmp 30], (some 31), none⟩,
 ⟨(.fieldAddr 4), [.tmp 31], (some 32), none⟩,
 ⟨(.load false 1), [.tmp 32], (some 33), none⟩,
 ⟨.move, [.tmp 33], (some 6), none⟩])
 (.seq (.seqR [⟨.move, [.tmp 0], (some 34), none⟩,
 ⟨.move, [.tmp 0], (some 35), none⟩,
 ⟨.nilCheck, [.tmp 34], (some 36), none⟩,
 ⟨(.fieldAddr 5), [.tmp 36], (some 37), none⟩,
 ⟨(.store 1), [.tmp 37, .const (.bool false)], none, none⟩,
 ⟨.nilCheck, [.tmp 35], (some 38), none⟩,
 ⟨(.fieldAddr 4), [.tmp 38], (some 39), none⟩,
 ⟨(.store 1), [.tmp 39, .const .nilFunc], none, none⟩])
 (.seq (.seqR [⟨.move, [.tmp 6], (some 40), none⟩,
 ⟨(.eqNil 2 true), [.tmp 40, .const .nilFunc], (some 41), none⟩])
 (.cond (.tmp 41) (.seqR [⟨.move, [.tmp 6], (some 42), none⟩,
 ⟨.move, [.tmp 1], (some 43), none⟩,
 ⟨.move, [.tmp 2], (some 44), none⟩,
 ⟨.callV, [.tmp 42, .tmp 43, .tmp 44], (some 45), none⟩])
 .skip))))
 .skip))))))), []⟩
theorem c67_ok : compFunc Tryz.prog Tryz.f67 = some c67 := by kernel_rfl
theorem c67_body : hasBody Tryz.prog 67 = true := hasBody_of Tryz.func67 (by kernel_rfl)
/-- slices.Clone[[]uint64,uint64] -/
def c68 : PFn := ⟨8, Tr.ofList (List.replicate 8 undefA), (.seq (.seqR [⟨.move, [.const (.slice none 0 0 false)], (some 2), none⟩])
 (.seq (.seq (.seqR [⟨.move, [.tmp 0], (some 3), none⟩,
 ⟨(.eqNil 0 false), [.tmp 3, .const (.slice none 0 0 false)], (some 4), none⟩])
 (.cond (.tmp 4) (.seq (.seqR [⟨.move, [.const (.slice none 0 0 false)], (some 2), none⟩])
 .ret)
 .skip))
 (.seq (.seqR [⟨(.sliceLit 0 [] []), [], (some 5), none⟩,
 ⟨.move, [.tmp 0], (some 6), none⟩,
 ⟨(.append 1 8), [.tmp 5, .tmp 6], (some 7), none⟩,
 ⟨.move, [.tmp 7], (some 2), none⟩])
 .ret))), [.tmp 2]⟩
theorem c68_ok : compFunc Tryz.prog Tryz.f68 = some c68 := by kernel_rfl
theorem c68_body : hasBody Tryz.prog 68 = true := hasBody_of Tryz.func68 (by kernel_rfl)
/-- (*coachyard/walk.Walk).Want -/
def c69 : PFn := ⟨32, Tr.ofList (List.replicate 32 undefA), (.seq (.seqR [⟨(.new [(.int .i64 0), (.int .i64 0), (.int .u64 0), (.int .u64 0)]), [], (some 2), none⟩,
 ⟨.move, [.const (.bool false)], (some 3), none⟩])
 (.seq (.block 0 (.seq (.seqR [⟨.move, [.tmp 0], (some 5), none⟩,
 ⟨(.eqPtr false), [.tmp 5, .const (.ptr none)], (some 6), none⟩,
 ⟨.move, [.tmp 6], (some 4), none⟩])
 (.cond (.tmp 4) (.seq (.seqR [⟨(.build [(.int .i64 0), (.int .i64 0), (.int .u64 0), (.int .u64 0)] []), [], (some 7), none⟩,
 ⟨(.store 4), [.tmp 2, .tmp 7], none, none⟩,
 ⟨.move, [.const (.bool false)], (some 3), none⟩])
 .ret)
 (.seq (.seqR [⟨.move, [.tmp 0], (some 9), none⟩,
 ⟨.nilCheck, [.tmp 9], (some 10), none⟩,
 ⟨(.fieldAddr 6), [.tmp 10], (some 11), none⟩,
 ⟨(.load false 1), [.tmp 11], (some 12), none⟩,
 ⟨(.eqPtr true), [.tmp 12, .const (.ptr none)], (some 13), none⟩,
 ⟨.move, [.tmp 13], (some 8), none⟩])
 (.cond (.tmp 8) (.seq (.seqR [⟨.move, [.tmp 0], (some 14), none⟩,
 ⟨.nilCheck, [.tmp 14], (some 15), none⟩,
 ⟨(.fieldAddr 6), [.tmp 15], (some 16), none⟩,
 ⟨(.load false 1), [.tmp 16], (some 17), none⟩,
 ⟨(.callF 69), [.tmp 17], (some 18), none⟩,
 ⟨(.extract 0), [.tmp 18], (some 19), none⟩,
 ⟨(.extract 1), [.tmp 18], (some 20), none⟩,
 ⟨(.store 4), [.tmp 2, .tmp 19], none, none⟩,
 ⟨.move, [.tmp 20], (some 3), none⟩])
 .ret)
 (.seq (.seqR [⟨.move, [.tmp 0], (some 22), none⟩,
 ⟨.nilCheck, [.tmp 22], (some 23), none⟩,
 ⟨(.fieldAddr 5), [.tmp 23], (some 24), none⟩,
 ⟨(.load false 1), [.tmp 24], (some 25), none⟩,
 ⟨.not, [.tmp 25], (some 26), none⟩,
 ⟨.move, [.tmp 26], (some 21), none⟩])
 (.cond (.tmp 21) (.seq (.seqR [⟨(.build [(.int .i64 0), (.int .i64 0), (.int .u64 0), (.int .u64 0)] []), [], (some 27), none⟩,
 ⟨(.store 4), [.tmp 2, .tmp 27], none, none⟩,
 ⟨.move, [.const (.bool false)], (some 3), none⟩])
 .ret)
 .skip)))))))
 (.seq (.seqR [⟨.move, [.tmp 0], (some 28), none⟩,
 ⟨.nilCheck, [.tmp 28], (some 29), none⟩,
 ⟨(.fieldAddr 0), [.tmp 29], (some 30), none⟩,
 ⟨(.load true 4), [.tmp 30], (some 31), none⟩,
 ⟨(.store 4), [.tmp 2, .tmp 31], none, none⟩,
 ⟨.move, [.const (.bool true)], (some 3), none⟩])
 .ret))), [.cell 2 true 4, .tmp 3]⟩
theorem c69_ok : compFunc Tryz.prog Tryz.f69 = some c69 := by kernel_rfl
theorem c69_body : hasBody Tryz.prog 69 = true := hasBody_of Tryz.func69 (by kernel_rfl)
/-- (coachyard/queue.Line).All -/
def c70 : PFn := ⟨73, Tr.ofList (List.replicate 73 undefA), (.seq (.seqR [⟨.box, [.tmp 0], (some 2), none⟩,
 ⟨.move, [.const (.slice none 0 0 false)], (some 4), none⟩,
 ⟨.move, [.const (.int .i64 0)], (some 5), none⟩])
 (.seq (.seq (.seqR [⟨(.load true 2), [.tmp 2], (some 13), none⟩,
 ⟨.move, [.tmp 1], (some 14), none⟩,
 ⟨(.callF 86), [.tmp 13, .tmp 14], (some 15), none⟩,
 ⟨.move, [.tmp 15], (some 6), none⟩])
 (.seq (.seqR [⟨.move, [.tmp 6], (some 16), none⟩,
 ⟨(.bin .neq), [.tmp 16, .const (.int .i64 0)], (some 17), none⟩])
 (.cond (.tmp 17) (.seq (.seqR [⟨.move, [.tmp 6], (some 18), none⟩,
 ⟨.move, [.const (.slice none 0 0 false)], (some 4), none⟩,
 ⟨.move, [.tmp 18], (some 5), none⟩])
 .ret)
 .skip)))
 (.seq (.seqR [⟨.move, [.tmp 1], (some 19), none⟩,
 ⟨(.callF 106), [.tmp 19], (some 20), none⟩,
 ⟨.move, [.tmp 20], (some 7), none⟩])
 (.seq (.seqR [⟨(.fieldAddr 1), [.tmp 2], (some 21), none⟩,
 ⟨(.load false 1), [.tmp 21], (some 22), none⟩,
 ⟨(.bin .add), [.tmp 22, .const (.int .i64 1)], (some 23), none⟩,
 ⟨(.makeSlice 1 1 [(.bool false)]), [.tmp 23, .tmp 23], (some 24), none⟩,
 ⟨.move, [.tmp 24], (some 8), none⟩])
 (.seq (.seqR [⟨.move, [.const (.slice none 0 0 false)], (some 9), none⟩])
 (.seq (.seqR [⟨.move, [.tmp 7], (some 25), none⟩,
 ⟨(.fieldAddr 0), [.tmp 2], (some 26), none⟩,
 ⟨(.load false 1), [.tmp 26], (some 27), none⟩,
 ⟨(.indexAddrS 1), [.tmp 25, .tmp 27], (some 28), none⟩,
 ⟨(.load false 1), [.tmp 28], (some 29), none⟩,
 ⟨.move, [.tmp 29], (some 10), none⟩])
 (.block 0 (.loop (.block 1 (.seq (.seqR [⟨(.load true 2), [.tmp 2], (some 31), none⟩,
 ⟨.move, [.tmp 10], (some 32), none⟩,
 ⟨(.callF 107), [.tmp 31, .tmp 32], (some 33), none⟩,
 ⟨.move, [.tmp 33], (some 30), none⟩,
 ⟨(.extract 0), [.tmp 30], (some 34), none⟩,
 ⟨(.extract 1), [.tmp 30], (some 35), none⟩,
 ⟨.move, [.tmp 34], (some 11), none⟩,
 ⟨.move, [.tmp 35], (some 12), none⟩])
 (.seq (.block 2 (.seq (.seqR [⟨.move, [.tmp 11], (some 37), none⟩,
 ⟨(.bin .eql), [.tmp 37, .const (.int .u32 0)], (some 38), none⟩,
 ⟨.move, [.tmp 38], (some 39), none⟩,
 ⟨.move, [.tmp 9], (some 40), some (39, true)⟩,
 ⟨.lenS, [.tmp 40], (some 41), some (39, true)⟩,
 ⟨(.bin .gtr), [.tmp 41, .const (.int .i64 0)], (some 42), some (39, true)⟩,
 ⟨.pick, [.tmp 39, .tmp 42, .const (.bool false)], (some 43), none⟩,
 ⟨.move, [.tmp 43], (some 36), none⟩])
 (.cond (.tmp 36) (.seq (.seqR [⟨.move, [.tmp 9], (some 44), none⟩,
 ⟨(.slice 1 true false false), [.tmp 44, .const (.int .i64 1)], (some 45), none⟩,
 ⟨.move, [.tmp 45], (some 4), none⟩,
 ⟨.move, [.const (.int .i64 0)], (some 5), none⟩])
 .ret)
 (.seq (.seqR [⟨.move, [.tmp 12], (some 47), none⟩,
 ⟨.not, [.tmp 47], (some 48), none⟩,
 ⟨.move, [.tmp 48], (some 49), none⟩,
 ⟨.move, [.tmp 8], (some 50), some (49, false)⟩,
 ⟨.move, [.tmp 11], (some 51), some (49, false)⟩,
 ⟨(.indexAddrS 1), [.tmp 50, .tmp 51], (some 52), some (49, false)⟩,
 ⟨(.load false 1), [.tmp 52], (some 53), some (49, false)⟩,
 ⟨.pick, [.tmp 49, .const (.bool true), .tmp 53], (some 54), none⟩,
 ⟨.move, [.tmp 54], (some 46), none⟩])
 (.cond (.tmp 46) (.seq (.seqR [⟨.move, [.const (.slice none 0 0 false)], (some 4), none⟩,
 ⟨.move, [.const (.int .i64 9)], (some 5), none⟩])
 .ret)
 .skip)))))
 (.seq (.seqR [⟨.move, [.tmp 8], (some 55), none⟩,
 ⟨.move, [.tmp 11], (some 56), none⟩,
 ⟨(.indexAddrS 1), [.tmp 55, .tmp 56], (some 57), none⟩,
 ⟨(.store 1), [.tmp 57, .const (.bool true)], none, none⟩])
 (.seq (.seqR [⟨.move, [.tmp 9], (some 58), none⟩,
 ⟨.move, [.tmp 7], (some 59), none⟩,
 ⟨(.load true 2), [.tmp 2], (some 60), none⟩,
 ⟨.move, [.tmp 11], (some 61), none⟩,
 ⟨(.callF 108), [.tmp 60, .tmp 61], (some 62), none⟩,
 ⟨(.indexAddrS 1), [.tmp 59, .tmp 62], (some 63), none⟩,
 ⟨(.load false 1), [.tmp 63], (some 64), none⟩,
 ⟨(.sliceLit 1 [(.int .u64 0)] [(0, 1)]), [.tmp 64], (some 65), none⟩,
 ⟨(.append 1 8), [.tmp 58, .tmp 65], (some 66), none⟩,
 ⟨.move, [.tmp 66], (some 9), none⟩])
 (.seqR [⟨.move, [.tmp 7], (some 67), none⟩,
 ⟨(.load true 2), [.tmp 2], (some 68), none⟩,
 ⟨.move, [.tmp 11], (some 69), none⟩,
 ⟨(.callF 109), [.tmp 68, .tmp 69], (some 70), none⟩,
 ⟨(.indexAddrS 1), [.tmp 67, .tmp 70], (some 71), none⟩,
 ⟨(.load false 1), [.tmp 71], (some 72), none⟩,
 ⟨.move, [.tmp 72], (some 10), none⟩])))))))))))))), [.tmp 4, .tmp 5]⟩
theorem c70_ok : compFunc Tryz.prog Tryz.f70 = some c70 := by kernel_rfl
theorem c70_body : hasBody Tryz.prog 70 = true := hasBody_of Tryz.func70 (by kernel_rfl)
/-- (coachyard/plan.Plan).Config -/
def c71 : PFn := ⟨5, Tr.ofList (List.replicate 5 undefA), (.seq (.seqR [⟨.box, [.tmp 0], (some 1), none⟩,
 ⟨(.new [(.int .i64 0), (.int .i64 0), (.int .i64 0), (.int .i64 0)]), [], (some 2), none⟩])
 (.seq (.seqR [⟨(.fieldAddr 0), [.tmp 1], (some 3), none⟩,
 ⟨(.load true 4), [.tmp 3], (some 4), none⟩,
 ⟨(.store 4), [.tmp 2, .tmp 4], none, none⟩])
 .ret)), [.cell 2 true 4]⟩
theorem c71_ok : compFunc Tryz.prog Tryz.f71 = some c71 := by kernel_rfl
theorem c71_body : hasBody Tryz.prog 71 = true := hasBody_of Tryz.func71 (by kernel_rfl)
/-- (*coachyard/pool.Pool).Row -/
def c72 : PFn := ⟨27, Tr.ofList (List.replicate 27 undefA), (.seq (.seqR [⟨(.new [(.int .i64 0), (.int .i64 0), (.int .i64 0)]), [], (some 4), none⟩])
 (.seq (.seq (.seqR [⟨.move, [.tmp 0], (some 6), none⟩,
 ⟨.move, [.tmp 1], (some 7), none⟩,
 ⟨(.callF 110), [.tmp 6, .tmp 7], (some 8), none⟩,
 ⟨.not, [.tmp 8], (some 9), none⟩])
 (.cond (.tmp 9) (.seq (.seqR [⟨(.build [(.int .i64 0), (.int .i64 0), (.int .i64 0)] []), [], (some 10), none⟩,
 ⟨(.store 3), [.tmp 4, .tmp 10], none, none⟩])
 .ret)
 .skip))
 (.seq (.seqR [⟨.move, [.tmp 0], (some 11), none⟩,
 ⟨.nilCheck, [.tmp 11], (some 12), none⟩,
 ⟨(.fieldAddr 0), [.tmp 12], (some 13), none⟩,
 ⟨(.load true 4), [.tmp 13], (some 14), none⟩,
 ⟨(.callF 71), [.tmp 14], (some 15), none⟩,
 ⟨(.new [(.int .i64 0), (.int .i64 0), (.int .i64 0), (.int .i64 0)]), [], (some 5), none⟩,
 ⟨(.store 4), [.tmp 5, .tmp 15], none, none⟩])
 (.seq (.drawR [⟨⟨(.fieldAddr 1), [.tmp 5], (some 16), none⟩, false, false, 0, 1⟩,
 ⟨⟨(.load false 1), [.tmp 16], (some 17), none⟩, false, false, 0, 1⟩,
 ⟨⟨.move, [.tmp 0], (some 18), none⟩, false, false, 0, 0⟩,
 ⟨⟨.nilCheck, [.tmp 18], (some 19), none⟩, false, false, 0, 0⟩,
 ⟨⟨(.fieldAddr 0), [.tmp 19], (some 20), none⟩, false, false, 0, 0⟩,
 ⟨⟨(.load true 4), [.tmp 20], (some 21), none⟩, false, false, 0, 0⟩,
 ⟨⟨.move, [.tmp 1], (some 22), none⟩, false, false, 0, 0⟩,
 ⟨⟨(.callF 111), [.tmp 21, .tmp 22], (some 23), none⟩, true, false, 0, 1⟩,
 ⟨⟨(.fieldAddr 2), [.tmp 5], (some 24), none⟩, false, false, 0, 1⟩,
 ⟨⟨(.load false 1), [.tmp 24], (some 25), none⟩, false, false, 0, 1⟩,
 ⟨⟨(.build [(.int .i64 0), (.int .i64 0), (.int .i64 0)] [(0, 1), (1, 1), (2, 1)]), [.tmp 17, .tmp 23, .tmp 25], (some 26), none⟩, false, false, 1, 1⟩,
 ⟨⟨(.store 3), [.tmp 4, .tmp 26], none, none⟩, true, false, 1, 2⟩])
 .ret)))), [.cell 4 true 3]⟩
theorem c72_ok : compFunc Tryz.prog Tryz.f72 = some c72 := by kernel_rfl
theorem c72_body : hasBody Tryz.prog 72 = true := hasBody_of Tryz.func72 (by kernel_rfl)
/-- (coachyard/local.Row).All -/
def c73 : PFn := ⟨12, Tr.ofList (List.replicate 12 undefA), (.seq (.seqR [⟨.box, [.tmp 0], (some 2), none⟩,
 ⟨.move, [.const (.slice none 0 0 false)], (some 4), none⟩,
 ⟨.move, [.const (.int .i64 0)], (some 5), none⟩])
 (.seq (.seqR [⟨(.load true 3), [.tmp 2], (some 6), none⟩,
 ⟨(.callF 112), [.tmp 6], (some 7), none⟩,
 ⟨.move, [.tmp 1], (some 8), none⟩,
 ⟨(.invoke [(46, 46), (58, 28), (82, 106), (120, 70), (145, 73), (215, 307), (216, 323), (218, 338)] []), [.tmp 7, .tmp 8], (some 9), none⟩,
 ⟨(.extract 0), [.tmp 9], (some 10), none⟩,
 ⟨(.extract 1), [.tmp 9], (some 11), none⟩,
 ⟨.move, [.tmp 10], (some 4), none⟩,
 ⟨.move, [.tmp 11], (some 5), none⟩])
 .ret)), [.tmp 4, .tmp 5]⟩
theorem c73_ok : compFunc Tryz.prog Tryz.f73 = some c73 := by kernel_rfl
theorem c73_body : hasBody Tryz.prog 73 = true := hasBody_of Tryz.func73 (by kernel_rfl)
/-- slices.insertionSortOrdered[uint64] -/
def c74 : PFn := ⟨49, Tr.ofList (List.replicate 49 undefA), (.seq (.seqR [⟨.move, [.tmp 1], (some 8), none⟩,
 ⟨(.bin .add), [.tmp 8, .const (.int .i64 1)], (some 9), none⟩,
 ⟨.move, [.tmp 9], (some 6), none⟩])
 (.block 0 (.loop (.seq (.seq (.seqR [⟨.move, [.tmp 6], (some 10), none⟩,
 ⟨.move, [.tmp 2], (some 11), none⟩,
 ⟨(.bin .lss), [.tmp 10, .tmp 11], (some 12), none⟩])
 (.cond (.tmp 12) .skip
 (.exit 0)))
 (.seq (.block 1 (.seq (.seqR [⟨.move, [.tmp 6], (some 15), none⟩,
 ⟨.move, [.tmp 15], (some 7), none⟩])
 (.block 2 (.loop (.seq (.seq (.drawR [⟨⟨.move, [.tmp 7], (some 16), none⟩, false, false, 0, 0⟩,
 ⟨⟨.move, [.tmp 1], (some 17), none⟩, false, false, 0, 0⟩,
 ⟨⟨(.bin .gtr), [.tmp 16, .tmp 17], (some 18), none⟩, false, false, 0, 0⟩,
 ⟨⟨.move, [.tmp 18], (some 19), none⟩, false, false, 0, 0⟩,
 ⟨⟨.move, [.tmp 0], (some 20), some (19, true)⟩, false, false, 0, 0⟩,
 ⟨⟨.move, [.tmp 7], (some 21), some (19, true)⟩, false, false, 0, 0⟩,
 ⟨⟨(.indexAddrS 1), [.tmp 20, .tmp 21], (some 22), some (19, true)⟩, false, false, 0, 0⟩,
 ⟨⟨(.load false 1), [.tmp 22], (some 23), some (19, true)⟩, false, false, 0, 0⟩,
 ⟨⟨.move, [.tmp 0], (some 24), some (19, true)⟩, false, false, 0, 0⟩,
 ⟨⟨.move, [.tmp 7], (some 25), some (19, true)⟩, false, false, 0, 0⟩,
 ⟨⟨(.bin .sub), [.tmp 25, .const (.int .i64 1)], (some 26), some (19, true)⟩, false, false, 0, 0⟩,
 ⟨⟨(.indexAddrS 1), [.tmp 24, .tmp 26], (some 27), some (19, true)⟩, false, false, 0, 0⟩,
 ⟨⟨(.load false 1), [.tmp 27], (some 28), some (19, true)⟩, false, false, 0, 0⟩,
 ⟨⟨(.callF 80), [.tmp 23, .tmp 28], (some 29), some (19, true)⟩, true, false, 0, 1⟩,
 ⟨⟨.pick, [.tmp 19, .tmp 29, .const (.bool false)], (some 30), none⟩, false, false, 1, 1⟩])
 (.cond (.tmp 30) .skip
 (.exit 2)))
 (.seq (.block 3 (.drawR [⟨⟨.move, [.tmp 0], (some 33), none⟩, false, false, 0, 0⟩,
 ⟨⟨.move, [.tmp 7], (some 34), none⟩, false, false, 0, 0⟩,
 ⟨⟨.move, [.tmp 0], (some 35), none⟩, false, false, 0, 1⟩,
 ⟨⟨.move, [.tmp 7], (some 36), none⟩, false, false, 0, 1⟩,
 ⟨⟨(.bin .sub), [.tmp 36, .const (.int .i64 1)], (some 37), none⟩, false, false, 0, 1⟩,
 ⟨⟨.move, [.tmp 0], (some 38), none⟩, false, false, 0, 0⟩,
 ⟨⟨.move, [.tmp 7], (some 39), none⟩, false, false, 0, 0⟩,
 ⟨⟨(.bin .sub), [.tmp 39, .const (.int .i64 1)], (some 40), none⟩, false, false, 0, 0⟩,
 ⟨⟨(.indexAddrS 1), [.tmp 38, .tmp 40], (some 41), none⟩, false, false, 0, 0⟩,
 ⟨⟨(.load false 1), [.tmp 41], (some 42), none⟩, false, false, 0, 0⟩,
 ⟨⟨.move, [.tmp 0], (some 43), none⟩, false, false, 0, 0⟩,
 ⟨⟨.move, [.tmp 7], (some 44), none⟩, false, false, 0, 0⟩,
 ⟨⟨(.indexAddrS 1), [.tmp 43, .tmp 44], (some 45), none⟩, false, false, 0, 0⟩,
 ⟨⟨(.load false 1), [.tmp 45], (some 46), none⟩, false, false, 0, 0⟩,
 ⟨⟨(.indexAddrS 1), [.tmp 33, .tmp 34], (some 47), none⟩, false, false, 0, 0⟩,
 ⟨⟨(.store 1), [.tmp 47, .tmp 42], none, none⟩, true, false, 0, 1⟩,
 ⟨⟨(.indexAddrS 1), [.tmp 35, .tmp 37], (some 48), none⟩, false, false, 1, 1⟩,
 ⟨⟨(.store 1), [.tmp 48, .tmp 46], none, none⟩, true, false, 1, 2⟩]))
 (.seqR [⟨.move, [.tmp 7], (some 31), none⟩,
 ⟨(.bin .sub), [.tmp 31, .const (.int .i64 1)], (some 32), none⟩,
 ⟨.move, [.tmp 32], (some 7), none⟩])))))))
 (.seqR [⟨.move, [.tmp 6], (some 13), none⟩,
 ⟨(.bin .add), [.tmp 13, .const (.int .i64 1)], (some 14), none⟩,
 ⟨.move, [.tmp 14], (some 6), none⟩])))))), []⟩
theorem c74_ok : compFunc Tryz.prog Tryz.f74 = some c74 := by kernel_rfl
theorem c74_body : hasBody Tryz.prog 74 = true := hasBody_of Tryz.func74 (by kernel_rfl)
/-- slices.heapSortOrdered[uint64] -/
def c75 : PFn := ⟨56, Tr.ofList (List.replicate 56 undefA), (.seq (.seqR [⟨.move, [.tmp 1], (some 11), none⟩,
 ⟨.move, [.tmp 11], (some 6), none⟩])
 (.seq (.seqR [⟨.move, [.const (.int .i64 0)], (some 7), none⟩])
 (.seq (.seqR [⟨.move, [.tmp 2], (some 12), none⟩,
 ⟨.move, [.tmp 1], (some 13), none⟩,
 ⟨(.bin .sub), [.tmp 12, .tmp 13], (some 14), none⟩,
 ⟨.move, [.tmp 14], (some 8), none⟩])
 (.seq (.seq (.seqR [⟨.move, [.tmp 8], (some 15), none⟩,
 ⟨(.bin .sub), [.tmp 15, .const (.int .i64 1)], (some 16), none⟩,
 ⟨(.bin .quo), [.tmp 16, .const (.int .i64 2)], (some 17), none⟩,
 ⟨.move, [.tmp 17], (some 9), none⟩])
 (.block 0 (.loop (.seq (.seq (.seqR [⟨.move, [.tmp 9], (some 18), none⟩,
 ⟨(.bin .geq), [.tmp 18, .const (.int .i64 0)], (some 19), none⟩])
 (.cond (.tmp 19) .skip
 (.exit 0)))
 (.seq (.block 1 (.seqR [⟨.move, [.tmp 0], (some 22), none⟩,
 ⟨.move, [.tmp 9], (some 23), none⟩,
 ⟨.move, [.tmp 8], (some 24), none⟩,
 ⟨.move, [.tmp 6], (some 25), none⟩,
 ⟨(.callF 113), [.tmp 22, .tmp 23, .tmp 24, .tmp 25], (some 26), none⟩]))
 (.seqR [⟨.move, [.tmp 9], (some 20), none⟩,
 ⟨(.bin .sub), [.tmp 20, .const (.int .i64 1)], (some 21), none⟩,
 ⟨.move, [.tmp 21], (some 9), none⟩]))))))
 (.seq (.seqR [⟨.move, [.tmp 8], (some 27), none⟩,
 ⟨(.bin .sub), [.tmp 27, .const (.int .i64 1)], (some 28), none⟩,
 ⟨.move, [.tmp 28], (some 10), none⟩])
 (.block 2 (.loop (.seq (.seq (.seqR [⟨.move, [.tmp 10], (some 29), none⟩,
 ⟨(.bin .geq), [.tmp 29, .const (.int .i64 0)], (some 30), none⟩])
 (.cond (.tmp 30) .skip
 (.exit 2)))
 (.seq (.block 3 (.seq (.drawR [⟨⟨.move, [.tmp 0], (some 33), none⟩, false, false, 0, 0⟩,
 ⟨⟨.move, [.tmp 6], (some 34), none⟩, false, false, 0, 0⟩,
 ⟨⟨.move, [.tmp 0], (some 35), none⟩, false, false, 0, 1⟩,
 ⟨⟨.move, [.tmp 6], (some 36), none⟩, false, false, 0, 1⟩,
 ⟨⟨.move, [.tmp 10], (some 37), none⟩, false, false, 0, 1⟩,
 ⟨⟨(.bin .add), [.tmp 36, .tmp 37], (some 38), none⟩, false, false, 0, 1⟩,
 ⟨⟨.move, [.tmp 0], (some 39), none⟩, false, false, 0, 0⟩,
 ⟨⟨.move, [.tmp 6], (some 40), none⟩, false, false, 0, 0⟩,
 ⟨⟨.move, [.tmp 10], (some 41), none⟩, false, false, 0, 0⟩,
 ⟨⟨(.bin .add), [.tmp 40, .tmp 41], (some 42), none⟩, false, false, 0, 0⟩,
 ⟨⟨(.indexAddrS 1), [.tmp 39, .tmp 42], (some 43), none⟩, false, false, 0, 0⟩,
 ⟨⟨(.load false 1), [.tmp 43], (some 44), none⟩, false, false, 0, 0⟩,
 ⟨⟨.move, [.tmp 0], (some 45), none⟩, false, false, 0, 0⟩,
 ⟨⟨.move, [.tmp 6], (some 46), none⟩, false, false, 0, 0⟩,
 ⟨⟨(.indexAddrS 1), [.tmp 45, .tmp 46], (some 47), none⟩, false, false, 0, 0⟩,
 ⟨⟨(.load false 1), [.tmp 47], (some 48), none⟩, false, false, 0, 0⟩,
 ⟨⟨(.indexAddrS 1), [.tmp 33, .tmp 34], (some 49), none⟩, false, false, 0, 0⟩,
 ⟨⟨(.store 1), [.tmp 49, .tmp 44], none, none⟩, true, false, 0, 1⟩,
 ⟨⟨(.indexAddrS 1), [.tmp 35, .tmp 38], (some 50), none⟩, false, false, 1, 1⟩,
 ⟨⟨(.store 1), [.tmp 50, .tmp 48], none, none⟩, true, false, 1, 2⟩])
 (.seqR [⟨.move, [.tmp 0], (some 51), none⟩,
 ⟨.move, [.tmp 7], (some 52), none⟩,
 ⟨.move, [.tmp 10], (some 53), none⟩,
 ⟨.move, [.tmp 6], (some 54), none⟩,
 ⟨(.callF 113), [.tmp 51, .tmp 52, .tmp 53, .tmp 54], (some 55), none⟩])))
 (.seqR [⟨.move, [.tmp 10], (some 31), none⟩,
 ⟨(.bin .sub), [.tmp 31, .const (.int .i64 1)], (some 32), none⟩,
 ⟨.move, [.tmp 32], (some 10), none⟩])))))))))), []⟩
theorem c75_ok : compFunc Tryz.prog Tryz.f75 = some c75 := by kernel_rfl
theorem c75_body : hasBody Tryz.prog 75 = true := hasBody_of Tryz.func75 (by kernel_rfl)
/-- slices.breakPatternsOrdered[uint64] -/
def c76 : PFn := ⟨65, Tr.ofList (List.replicate 65 undefA), (.seq (.seqR [⟨.move, [.tmp 2], (some 11), none⟩,
 ⟨.move, [.tmp 1], (some 12), none⟩,
 ⟨(.bin .sub), [.tmp 11, .tmp 12], (some 13), none⟩,
 ⟨.move, [.tmp 13], (some 6), none⟩])
 (.seq (.seqR [⟨.move, [.tmp 6], (some 14), none⟩,
 ⟨(.bin .geq), [.tmp 14, .const (.int .i64 8)], (some 15), none⟩])
 (.cond (.tmp 15) (.seq (.seqR [⟨.move, [.tmp 6], (some 16), none⟩,
 ⟨(.conv .u64), [.tmp 16], (some 17), none⟩,
 ⟨(.new [(.int .u64 0)]), [], (some 7), none⟩,
 ⟨(.store 1), [.tmp 7, .tmp 17], none, none⟩])
 (.seq (.seqR [⟨.move, [.tmp 6], (some 18), none⟩,
 ⟨(.callF 114), [.tmp 18], (some 19), none⟩,
 ⟨.move, [.tmp 19], (some 8), none⟩])
 (.seq (.seqR [⟨.move, [.tmp 1], (some 20), none⟩,
 ⟨.move, [.tmp 6], (some 21), none⟩,
 ⟨(.bin .quo), [.tmp 21, .const (.int .i64 4)], (some 22), none⟩,
 ⟨(.bin .mul), [.tmp 22, .const (.int .i64 2)], (some 23), none⟩,
 ⟨(.bin .add), [.tmp 20, .tmp 23], (some 24), none⟩,
 ⟨(.bin .sub), [.tmp 24, .const (.int .i64 1)], (some 25), none⟩,
 ⟨.move, [.tmp 25], (some 9), none⟩])
 (.block 0 (.loop (.seq (.seq (.seqR [⟨.move, [.tmp 9], (some 26), none⟩,
 ⟨.move, [.tmp 1], (some 27), none⟩,
 ⟨.move, [.tmp 6], (some 28), none⟩,
 ⟨(.bin .quo), [.tmp 28, .const (.int .i64 4)], (some 29), none⟩,
 ⟨(.bin .mul), [.tmp 29, .const (.int .i64 2)], (some 30), none⟩,
 ⟨(.bin .add), [.tmp 27, .tmp 30], (some 31), none⟩,
 ⟨(.bin .add), [.tmp 31, .const (.int .i64 1)], (some 32), none⟩,
 ⟨(.bin .leq), [.tmp 26, .tmp 32], (some 33), none⟩])
 (.cond (.tmp 33) .skip
 (.exit 0)))
 (.seq (.block 1 (.seq (.seqR [⟨(.callF 115), [.tmp 7], (some 36), none⟩,
 ⟨.move, [.tmp 8], (some 37), none⟩,
 ⟨(.bin .sub), [.tmp 37, .const (.int .u64 1)], (some 38), none⟩,
 ⟨(.bin .and), [.tmp 36, .tmp 38], (some 39), none⟩,
 ⟨(.conv .i64), [.tmp 39], (some 40), none⟩,
 ⟨.move, [.tmp 40], (some 10), none⟩])
 (.seq (.seq (.seqR [⟨.move, [.tmp 10], (some 41), none⟩,
 ⟨.move, [.tmp 6], (some 42), none⟩,
 ⟨(.bin .geq), [.tmp 41, .tmp 42], (some 43), none⟩])
 (.cond (.tmp 43) (.seqR [⟨.move, [.tmp 10], (some 44), none⟩,
 ⟨.move, [.tmp 6], (some 45), none⟩,
 ⟨(.bin .sub), [.tmp 44, .tmp 45], (some 46), none⟩,
 ⟨.move, [.tmp 46], (some 10), none⟩])
 .skip))
 (.drawR [⟨⟨.move, [.tmp 0], (some 47), none⟩, false, false, 0, 0⟩,
 ⟨⟨.move, [.tmp 9], (some 48), none⟩, false, false, 0, 0⟩,
 ⟨⟨.move, [.tmp 0], (some 49), none⟩, false, false, 0, 1⟩,
 ⟨⟨.move, [.tmp 1], (some 50), none⟩, false, false, 0, 1⟩,
 ⟨⟨.move, [.tmp 10], (some 51), none⟩, false, false, 0, 1⟩,
 ⟨⟨(.bin .add), [.tmp 50, .tmp 51], (some 52), none⟩, false, false, 0, 1⟩,
 ⟨⟨.move, [.tmp 0], (some 53), none⟩, false, false, 0, 0⟩,
 ⟨⟨.move, [.tmp 1], (some 54), none⟩, false, false, 0, 0⟩,
 ⟨⟨.move, [.tmp 10], (some 55), none⟩, false, false, 0, 0⟩,
 ⟨⟨(.bin .add), [.tmp 54, .tmp 55], (some 56), none⟩, false, false, 0, 0⟩,
 ⟨⟨(.indexAddrS 1), [.tmp 53, .tmp 56], (some 57), none⟩, false, false, 0, 0⟩,
 ⟨⟨(.load false 1), [.tmp 57], (some 58), none⟩, false, false, 0, 0⟩,
 ⟨⟨.move, [.tmp 0], (some 59), none⟩, false, false, 0, 0⟩,
 ⟨⟨.move, [.tmp 9], (some 60), none⟩, false, false, 0, 0⟩,
 ⟨⟨(.indexAddrS 1), [.tmp 59, .tmp 60], (some 61), none⟩, false, false, 0, 0⟩,
 ⟨⟨(.load false 1), [.tmp 61], (some 62), none⟩, false, false, 0, 0⟩,
 ⟨⟨(.indexAddrS 1), [.tmp 47, .tmp 48], (some 63), none⟩, false, false, 0, 0⟩,
 ⟨⟨(.store 1), [.tmp 63, .tmp 58], none, none⟩, true, false, 0, 1⟩,
 ⟨⟨(.indexAddrS 1), [.tmp 49, .tmp 52], (some 64), none⟩, false, false, 1, 1⟩,
 ⟨⟨(.store 1), [.tmp 64, .tmp 62], none, none⟩, true, false, 1, 2⟩]))))
 (.seqR [⟨.move, [.tmp 9], (some 34), none⟩,
 ⟨(.bin .add), [.tmp 34, .const (.int .i64 1)], (some 35), none⟩,
 ⟨.move, [.tmp 35], (some 9), none⟩]))))))))
 .skip))), []⟩
theorem c76_ok : compFunc Tryz.prog Tryz.f76 = some c76 := by kernel_rfl
theorem c76_body : hasBody Tryz.prog 76 = true := hasBody_of Tryz.func76 (by kernel_rfl)
/-- slices.choosePivotOrdered[uint64] -/
def c77 : PFn := ⟨57, Tr.ofList (List.replicate 57 undefA), (.seq (.seqR [⟨.move, [.const (.int .i64 0)], (some 6), none⟩,
 ⟨.move, [.const (.int .i64 0)], (some 7), none⟩])
 (.seq (.seqR [⟨.move, [.tmp 2], (some 13), none⟩,
 ⟨.move, [.tmp 1], (some 14), none⟩,
 ⟨(.bin .sub), [.tmp 13, .tmp 14], (some 15), none⟩,
 ⟨.move, [.tmp 15], (some 8), none⟩])
 (.seq (.seqR [⟨(.new [(.int .i64 0)]), [], (some 9), none⟩])
 (.seq (.seqR [⟨.move, [.tmp 1], (some 16), none⟩,
 ⟨.move, [.tmp 8], (some 17), none⟩,
 ⟨(.bin .quo), [.tmp 17, .const (.int .i64 4)], (some 18), none⟩,
 ⟨(.bin .mul), [.tmp 18, .const (.int .i64 1)], (some 19), none⟩,
 ⟨(.bin .add), [.tmp 16, .tmp 19], (some 20), none⟩,
 ⟨.move, [.tmp 20], (some 10), none⟩])
 (.seq (.seqR [⟨.move, [.tmp 1], (some 21), none⟩,
 ⟨.move, [.tmp 8], (some 22), none⟩,
 ⟨(.bin .quo), [.tmp 22, .const (.int .i64 4)], (some 23), none⟩,
 ⟨(.bin .mul), [.tmp 23, .const (.int .i64 2)], (some 24), none⟩,
 ⟨(.bin .add), [.tmp 21, .tmp 24], (some 25), none⟩,
 ⟨.move, [.tmp 25], (some 11), none⟩])
 (.seq (.seqR [⟨.move, [.tmp 1], (some 26), none⟩,
 ⟨.move, [.tmp 8], (some 27), none⟩,
 ⟨(.bin .quo), [.tmp 27, .const (.int .i64 4)], (some 28), none⟩,
 ⟨(.bin .mul), [.tmp 28, .const (.int .i64 3)], (some 29), none⟩,
 ⟨(.bin .add), [.tmp 26, .tmp 29], (some 30), none⟩,
 ⟨.move, [.tmp 30], (some 12), none⟩])
 (.seq (.seq (.seqR [⟨.move, [.tmp 8], (some 31), none⟩,
 ⟨(.bin .geq), [.tmp 31, .const (.int .i64 8)], (some 32), none⟩])
 (.cond (.tmp 32) (.seq (.seq (.seqR [⟨.move, [.tmp 8], (some 33), none⟩,
 ⟨(.bin .geq), [.tmp 33, .const (.int .i64 50)], (some 34), none⟩])
 (.cond (.tmp 34) (.seq (.seqR [⟨.move, [.tmp 0], (some 35), none⟩,
 ⟨.move, [.tmp 10], (some 36), none⟩,
 ⟨(.callF 116), [.tmp 35, .tmp 36, .tmp 9], (some 37), none⟩,
 ⟨.move, [.tmp 37], (some 10), none⟩])
 (.seq (.seqR [⟨.move, [.tmp 0], (some 38), none⟩,
 ⟨.move, [.tmp 11], (some 39), none⟩,
 ⟨(.callF 116), [.tmp 38, .tmp 39, .tmp 9], (some 40), none⟩,
 ⟨.move, [.tmp 40], (some 11), none⟩])
 (.seqR [⟨.move, [.tmp 0], (some 41), none⟩,
 ⟨.move, [.tmp 12], (some 42), none⟩,
 ⟨(.callF 116), [.tmp 41, .tmp 42, .tmp 9], (some 43), none⟩,
 ⟨.move, [.tmp 43], (some 12), none⟩])))
 .skip))
 (.seqR [⟨.move, [.tmp 0], (some 44), none⟩,
 ⟨.move, [.tmp 10], (some 45), none⟩,
 ⟨.move, [.tmp 11], (some 46), none⟩,
 ⟨.move, [.tmp 12], (some 47), none⟩,
 ⟨(.callF 117), [.tmp 44, .tmp 45, .tmp 46, .tmp 47, .tmp 9], (some 48), none⟩,
 ⟨.move, [.tmp 48], (some 11), none⟩]))
 .skip))
 (.seq (.seqR [⟨(.load false 1), [.tmp 9], (some 49), none⟩])
 (.block 0 (.seq (.seqR [⟨(.bin .eql), [.tmp 49, .const (.int .i64 0)], (some 52), none⟩,
 ⟨.move, [.tmp 52], (some 51), none⟩])
 (.cond (.tmp 51) (.seq (.seqR [⟨.move, [.tmp 11], (some 53), none⟩,
 ⟨.move, [.tmp 53], (some 6), none⟩,
 ⟨.move, [.const (.int .i64 1)], (some 7), none⟩])
 .ret)
 (.seq (.seqR [⟨(.bin .eql), [.tmp 49, .const (.int .i64 12)], (some 55), none⟩,
 ⟨.move, [.tmp 55], (some 54), none⟩])
 (.cond (.tmp 54) (.seq (.seqR [⟨.move, [.tmp 11], (some 56), none⟩,
 ⟨.move, [.tmp 56], (some 6), none⟩,
 ⟨.move, [.const (.int .i64 2)], (some 7), none⟩])
 .ret)
 (.seq (.seqR [⟨.move, [.tmp 11], (some 50), none⟩,
 ⟨.move, [.tmp 50], (some 6), none⟩,
 ⟨.move, [.const (.int .i64 0)], (some 7), none⟩])
 .ret)))))))))))))), [.tmp 6, .tmp 7]⟩
theorem c77_ok : compFunc Tryz.prog Tryz.f77 = some c77 := by kernel_rfl
theorem c77_body : hasBody Tryz.prog 77 = true := hasBody_of Tryz.func77 (by kernel_rfl)
/-- slices.reverseRangeOrdered[uint64] -/
def c78 : PFn := ⟨32, Tr.ofList (List.replicate 32 undefA), (.seq (.seqR [⟨.move, [.tmp 1], (some 8), none⟩,
 ⟨.move, [.tmp 8], (some 6), none⟩])
 (.seq (.seqR [⟨.move, [.tmp 2], (some 9), none⟩,
 ⟨(.bin .sub), [.tmp 9, .const (.int .i64 1)], (some 10), none⟩,
 ⟨.move, [.tmp 10], (some 7), none⟩])
 (.block 0 (.loop (.seq (.seq (.seqR [⟨.move, [.tmp 6], (some 11), none⟩,
 ⟨.move, [.tmp 7], (some 12), none⟩,
 ⟨(.bin .lss), [.tmp 11, .tmp 12], (some 13), none⟩])
 (.cond (.tmp 13) .skip
 (.exit 0)))
 (.block 1 (.seq (.drawR [⟨⟨.move, [.tmp 0], (some 14), none⟩, false, false, 0, 0⟩,
 ⟨⟨.move, [.tmp 6], (some 15), none⟩, false, false, 0, 0⟩,
 ⟨⟨.move, [.tmp 0], (some 16), none⟩, false, false, 0, 1⟩,
 ⟨⟨.move, [.tmp 7], (some 17), none⟩, false, false, 0, 1⟩,
 ⟨⟨.move, [.tmp 0], (some 18), none⟩, false, false, 0, 0⟩,
 ⟨⟨.move, [.tmp 7], (some 19), none⟩, false, false, 0, 0⟩,
 ⟨⟨(.indexAddrS 1), [.tmp 18, .tmp 19], (some 20), none⟩, false, false, 0, 0⟩,
 ⟨⟨(.load false 1), [.tmp 20], (some 21), none⟩, false, false, 0, 0⟩,
 ⟨⟨.move, [.tmp 0], (some 22), none⟩, false, false, 0, 0⟩,
 ⟨⟨.move, [.tmp 6], (some 23), none⟩, false, false, 0, 0⟩,
 ⟨⟨(.indexAddrS 1), [.tmp 22, .tmp 23], (some 24), none⟩, false, false, 0, 0⟩,
 ⟨⟨(.load false 1), [.tmp 24], (some 25), none⟩, false, false, 0, 0⟩,
 ⟨⟨(.indexAddrS 1), [.tmp 14, .tmp 15], (some 26), none⟩, false, false, 0, 0⟩,
 ⟨⟨(.store 1), [.tmp 26, .tmp 21], none, none⟩, true, false, 0, 1⟩,
 ⟨⟨(.indexAddrS 1), [.tmp 16, .tmp 17], (some 27), none⟩, false, false, 1, 1⟩,
 ⟨⟨(.store 1), [.tmp 27, .tmp 25], none, none⟩, true, false, 1, 2⟩])
 (.seq (.seqR [⟨.move, [.tmp 6], (some 28), none⟩,
 ⟨(.bin .add), [.tmp 28, .const (.int .i64 1)], (some 29), none⟩,
 ⟨.move, [.tmp 29], (some 6), none⟩])
 (.seqR [⟨.move, [.tmp 7], (some 30), none⟩,
 ⟨(.bin .sub), [.tmp 30, .const (.int .i64 1)], (some 31), none⟩,
 ⟨.move, [.tmp 31], (some 7), none⟩]))))))))), []⟩
theorem c78_ok : compFunc Tryz.prog Tryz.f78 = some c78 := by kernel_rfl
theorem c78_body : hasBody Tryz.prog 78 = true := hasBody_of Tryz.func78 (by kernel_rfl)
/-- slices.partialInsertionSortOrdered[uint64] -/
def c79 : PFn := ⟨133, Tr.ofList (List.replicate 133 undefA), (.seq (.seqR [⟨.move, [.const (.bool false)], (some 6), none⟩])
 (.seq (.seqR [⟨.move, [.tmp 1], (some 11), none⟩,
 ⟨(.bin .add), [.tmp 11, .const (.int .i64 1)], (some 12), none⟩,
 ⟨.move, [.tmp 12], (some 7), none⟩])
 (.seq (.seq (.seqR [⟨.move, [.const (.int .i64 0)], (some 8), none⟩])
 (.block 0 (.loop (.seq (.seq (.seqR [⟨.move, [.tmp 8], (some 13), none⟩,
 ⟨(.bin .lss), [.tmp 13, .const (.int .i64 5)], (some 14), none⟩])
 (.cond (.tmp 14) .skip
 (.exit 0)))
 (.seq (.block 1 (.seq (.block 2 (.loop (.seq (.seq (.drawR [⟨⟨.move, [.tmp 7], (some 17), none⟩, false, false, 0, 0⟩,
 ⟨⟨.move, [.tmp 2], (some 18), none⟩, false, false, 0, 0⟩,
 ⟨⟨(.bin .lss), [.tmp 17, .tmp 18], (some 19), none⟩, false, false, 0, 0⟩,
 ⟨⟨.move, [.tmp 19], (some 20), none⟩, false, false, 0, 0⟩,
 ⟨⟨.move, [.tmp 0], (some 21), some (20, true)⟩, false, false, 0, 0⟩,
 ⟨⟨.move, [.tmp 7], (some 22), some (20, true)⟩, false, false, 0, 0⟩,
 ⟨⟨(.indexAddrS 1), [.tmp 21, .tmp 22], (some 23), some (20, true)⟩, false, false, 0, 0⟩,
 ⟨⟨(.load false 1), [.tmp 23], (some 24), some (20, true)⟩, false, false, 0, 0⟩,
 ⟨⟨.move, [.tmp 0], (some 25), some (20, true)⟩, false, false, 0, 0⟩,
 ⟨⟨.move, [.tmp 7], (some 26), some (20, true)⟩, false, false, 0, 0⟩,
 ⟨⟨(.bin .sub), [.tmp 26, .const (.int .i64 1)], (some 27), some (20, true)⟩, false, false, 0, 0⟩,
 ⟨⟨(.indexAddrS 1), [.tmp 25, .tmp 27], (some 28), some (20, true)⟩, false, false, 0, 0⟩,
 ⟨⟨(.load false 1), [.tmp 28], (some 29), some (20, true)⟩, false, false, 0, 0⟩,
 ⟨⟨(.callF 80), [.tmp 24, .tmp 29], (some 30), some (20, true)⟩, true, false, 0, 1⟩,
 ⟨⟨.not, [.tmp 30], (some 31), some (20, true)⟩, false, false, 1, 1⟩,
 ⟨⟨.pick, [.tmp 20, .tmp 31, .const (.bool false)], (some 32), none⟩, false, false, 1, 1⟩])
 (.cond (.tmp 32) .skip
 (.exit 2)))
 (.block 3 (.seqR [⟨.move, [.tmp 7], (some 33), none⟩,
 ⟨(.bin .add), [.tmp 33, .const (.int .i64 1)], (some 34), none⟩,
 ⟨.move, [.tmp 34], (some 7), none⟩])))))
 (.seq (.seq (.seqR [⟨.move, [.tmp 7], (some 35), none⟩,
 ⟨.move, [.tmp 2], (some 36), none⟩,
 ⟨(.bin .eql), [.tmp 35, .tmp 36], (some 37), none⟩])
 (.cond (.tmp 37) (.seq (.seqR [⟨.move, [.const (.bool true)], (some 6), none⟩])
 .ret)
 .skip))
 (.seq (.seq (.seqR [⟨.move, [.tmp 2], (some 38), none⟩,
 ⟨.move, [.tmp 1], (some 39), none⟩,
 ⟨(.bin .sub), [.tmp 38, .tmp 39], (some 40), none⟩,
 ⟨(.bin .lss), [.tmp 40, .const (.int .i64 50)], (some 41), none⟩])
 (.cond (.tmp 41) (.seq (.seqR [⟨.move, [.const (.bool false)], (some 6), none⟩])
 .ret)
 .skip))
 (.seq (.drawR [⟨⟨.move, [.tmp 0], (some 42), none⟩, false, false, 0, 0⟩,
 ⟨⟨.move, [.tmp 7], (some 43), none⟩, false, false, 0, 0⟩,
 ⟨⟨.move, [.tmp 0], (some 44), none⟩, false, false, 0, 1⟩,
 ⟨⟨.move, [.tmp 7], (some 45), none⟩, false, false, 0, 1⟩,
 ⟨⟨(.bin .sub), [.tmp 45, .const (.int .i64 1)], (some 46), none⟩, false, false, 0, 1⟩,
 ⟨⟨.move, [.tmp 0], (some 47), none⟩, false, false, 0, 0⟩,
 ⟨⟨.move, [.tmp 7], (some 48), none⟩, false, false, 0, 0⟩,
 ⟨⟨(.bin .sub), [.tmp 48, .const (.int .i64 1)], (some 49), none⟩, false, false, 0, 0⟩,
 ⟨⟨(.indexAddrS 1), [.tmp 47, .tmp 49], (some 50), none⟩, false, false, 0, 0⟩,
 ⟨⟨(.load false 1), [.tmp 50], (some 51), none⟩, false, false, 0, 0⟩,
 ⟨⟨.move, [.tmp 0], (some 52), none⟩, false, false, 0, 0⟩,
 ⟨⟨.move, [.tmp 7], (some 53), none⟩, false, false, 0, 0⟩,
 ⟨⟨(.indexAddrS 1), [.tmp 52, .tmp 53], (some 54), none⟩, false, false, 0, 0⟩,
 ⟨⟨(.load false 1), [.tmp 54], (some 55), none⟩, false, false, 0, 0⟩,
 ⟨⟨(.indexAddrS 1), [.tmp 42, .tmp 43], (some 56), none⟩, false, false, 0, 0⟩,
 ⟨⟨(.store 1), [.tmp 56, .tmp 51], none, none⟩, true, false, 0, 1⟩,
 ⟨⟨(.indexAddrS 1), [.tmp 44, .tmp 46], (some 57), none⟩, false, false, 1, 1⟩,
 ⟨⟨(.store 1), [.tmp 57, .tmp 55], none, none⟩, true, false, 1, 2⟩])
 (.seq (.seq (.seqR [⟨.move, [.tmp 7], (some 58), none⟩,
 ⟨.move, [.tmp 1], (some 59), none⟩,
 ⟨(.bin .sub), [.tmp 58, .tmp 59], (some 60), none⟩,
 ⟨(.bin .geq), [.tmp 60, .const (.int .i64 2)], (some 61), none⟩])
 (.cond (.tmp 61) (.seq (.seqR [⟨.move, [.tmp 7], (some 62), none⟩,
 ⟨(.bin .sub), [.tmp 62, .const (.int .i64 1)], (some 63), none⟩,
 ⟨.move, [.tmp 63], (some 9), none⟩])
 (.block 4 (.loop (.seq (.seq (.seqR [⟨.move, [.tmp 9], (some 64), none⟩,
 ⟨(.bin .geq), [.tmp 64, .const (.int .i64 1)], (some 65), none⟩])
 (.cond (.tmp 65) .skip
 (.exit 4)))
 (.seq (.block 5 (.seq (.seq (.drawR [⟨⟨.move, [.tmp 0], (some 68), none⟩, false, false, 0, 0⟩,
 ⟨⟨.move, [.tmp 9], (some 69), none⟩, false, false, 0, 0⟩,
 ⟨⟨(.indexAddrS 1), [.tmp 68, .tmp 69], (some 70), none⟩, false, false, 0, 0⟩,
 ⟨⟨(.load false 1), [.tmp 70], (some 71), none⟩, false, false, 0, 0⟩,
 ⟨⟨.move, [.tmp 0], (some 72), none⟩, false, false, 0, 0⟩,
 ⟨⟨.move, [.tmp 9], (some 73), none⟩, false, false, 0, 0⟩,
 ⟨⟨(.bin .sub), [.tmp 73, .const (.int .i64 1)], (some 74), none⟩, false, false, 0, 0⟩,
 ⟨⟨(.indexAddrS 1), [.tmp 72, .tmp 74], (some 75), none⟩, false, false, 0, 0⟩,
 ⟨⟨(.load false 1), [.tmp 75], (some 76), none⟩, false, false, 0, 0⟩,
 ⟨⟨(.callF 80), [.tmp 71, .tmp 76], (some 77), none⟩, true, false, 0, 1⟩,
 ⟨⟨.not, [.tmp 77], (some 78), none⟩, false, false, 1, 1⟩])
 (.cond (.tmp 78) (.exit 4)
 .skip))
 (.drawR [⟨⟨.move, [.tmp 0], (some 79), none⟩, false, false, 0, 0⟩,
 ⟨⟨.move, [.tmp 9], (some 80), none⟩, false, false, 0, 0⟩,
 ⟨⟨.move, [.tmp 0], (some 81), none⟩, false, false, 0, 1⟩,
 ⟨⟨.move, [.tmp 9], (some 82), none⟩, false, false, 0, 1⟩,
 ⟨⟨(.bin .sub), [.tmp 82, .const (.int .i64 1)], (some 83), none⟩, false, false, 0, 1⟩,
 ⟨⟨.move, [.tmp 0], (some 84), none⟩, false, false, 0, 0⟩,
 ⟨⟨.move, [.tmp 9], (some 85), none⟩, false, false, 0, 0⟩,
 ⟨⟨(.bin .sub), [.tmp 85, .const (.int .i64 1)], (some 86), none⟩, false, false, 0, 0⟩,
 ⟨⟨(.indexAddrS 1), [.tmp 84, .tmp 86], (some 87), none⟩, false, false, 0, 0⟩,
 ⟨⟨(.load false 1), [.tmp 87], (some 88), none⟩, false, false, 0, 0⟩,
 ⟨⟨.move, [.tmp 0], (some 89), none⟩, false, false, 0, 0⟩,
 ⟨⟨.move, [.tmp 9], (some 90), none⟩, false, false, 0, 0⟩,
 ⟨⟨(.indexAddrS 1), [.tmp 89, .tmp 90], (some 91), none⟩, false, false, 0, 0⟩,
 ⟨⟨(.load false 1), [.tmp 91], (some 92), none⟩, false, false, 0, 0⟩,
 ⟨⟨(.indexAddrS 1), [.tmp 79, .tmp 80], (some 93), none⟩, false, false, 0, 0⟩,
 ⟨⟨(.store 1), [.tmp 93, .tmp 88], none, none⟩, true, false, 0, 1⟩,
 ⟨⟨(.indexAddrS 1), [.tmp 81, .tmp 83], (some 94), none⟩, false, false, 1, 1⟩,
 ⟨⟨(.store 1), [.tmp 94, .tmp 92], none, none⟩, true, false, 1, 2⟩])))
 (.seqR [⟨.move, [.tmp 9], (some 66), none⟩,
 ⟨(.bin .sub), [.tmp 66, .const (.int .i64 1)], (some 67), none⟩,
 ⟨.move, [.tmp 67], (some 9), none⟩]))))))
 .skip))
 (.seq (.seqR [⟨.move, [.tmp 2], (some 95), none⟩,
 ⟨.move, [.tmp 7], (some 96), none⟩,
 ⟨(.bin .sub), [.tmp 95, .tmp 96], (some 97), none⟩,
 ⟨(.bin .geq), [.tmp 97, .const (.int .i64 2)], (some 98), none⟩])
 (.cond (.tmp 98) (.seq (.seqR [⟨.move, [.tmp 7], (some 99), none⟩,
 ⟨(.bin .add), [.tmp 99, .const (.int .i64 1)], (some 100), none⟩,
 ⟨.move, [.tmp 100], (some 10), none⟩])
 (.block 6 (.loop (.seq (.seq (.seqR [⟨.move, [.tmp 10], (some 101), none⟩,
 ⟨.move, [.tmp 2], (some 102), none⟩,
 ⟨(.bin .lss), [.tmp 101, .tmp 102], (some 103), none⟩])
 (.cond (.tmp 103) .skip
 (.exit 6)))
 (.seq (.block 7 (.seq (.seq (.drawR [⟨⟨.move, [.tmp 0], (some 106), none⟩, false, false, 0, 0⟩,
 ⟨⟨.move, [.tmp 10], (some 107), none⟩, false, false, 0, 0⟩,
 ⟨⟨(.indexAddrS 1), [.tmp 106, .tmp 107], (some 108), none⟩, false, false, 0, 0⟩,
 ⟨⟨(.load false 1), [.tmp 108], (some 109), none⟩, false, false, 0, 0⟩,
 ⟨⟨.move, [.tmp 0], (some 110), none⟩, false, false, 0, 0⟩,
 ⟨⟨.move, [.tmp 10], (some 111), none⟩, false, false, 0, 0⟩,
 ⟨⟨(.bin .sub), [.tmp 111, .const (.int .i64 1)], (some 112), none⟩, false, false, 0, 0⟩,
 ⟨⟨(.indexAddrS 1), [.tmp 110, .tmp 112], (some 113), none⟩, false, false, 0, 0⟩,
 ⟨⟨(.load false 1), [.tmp 113], (some 114), none⟩, false, false, 0, 0⟩,
 ⟨⟨(.callF 80), [.tmp 109, .tmp 114], (some 115), none⟩, true, false, 0, 1⟩,
 ⟨⟨.not, [.tmp 115], (some 116), none⟩, false, false, 1, 1⟩])
 (.cond (.tmp 116) (.exit 6)
 .skip))
 (.drawR [⟨⟨.move, [.tmp 0], (some 117), none⟩, false, false, 0, 0⟩,
 ⟨⟨.move, [.tmp 10], (some 118), none⟩, false, false, 0, 0⟩,
 ⟨⟨.move, [.tmp 0], (some 119), none⟩, false, false, 0, 1⟩,
 ⟨⟨.move, [.tmp 10], (some 120), none⟩, false, false, 0, 1⟩,
 ⟨⟨(.bin .sub), [.tmp 120, .const (.int .i64 1)], (some 121), none⟩, false, false, 0, 1⟩,
 ⟨⟨.move, [.tmp 0], (some 122), none⟩, false, false, 0, 0⟩,
 ⟨⟨.move, [.tmp 10], (some 123), none⟩, false, false, 0, 0⟩,
 ⟨⟨(.bin .sub), [.tmp 123, .const (.int .i64 1)], (some 124), none⟩, false, false, 0, 0⟩,
 ⟨⟨(.indexAddrS 1), [.tmp 122, .tmp 124], (some 125), none⟩, false, false, 0, 0⟩,
 ⟨⟨(.load false 1), [.tmp 125], (some 126), none⟩, false, false, 0, 0⟩,
 ⟨⟨.move, [.tmp 0], (some 127), none⟩, false, false, 0, 0⟩,
 ⟨⟨.move, [.tmp 10], (some 128), none⟩, false, false, 0, 0⟩,
 ⟨⟨(.indexAddrS 1), [.tmp 127, .tmp 128], (some 129), none⟩, false, false, 0, 0⟩,
 ⟨⟨(.load false 1), [.tmp 129], (some 130), none⟩, false, false, 0, 0⟩,
 ⟨⟨(.indexAddrS 1), [.tmp 117, .tmp 118], (some 131), none⟩, false, false, 0, 0⟩,
 ⟨⟨(.store 1), [.tmp 131, .tmp 126], none, none⟩, true, false, 0, 1⟩,
 ⟨⟨(.indexAddrS 1), [.tmp 119, .tmp 121], (some 132), none⟩, false, false, 1, 1⟩,
 ⟨⟨(.store 1), [.tmp 132, .tmp 130], none, none⟩, true, false, 1, 2⟩])))
 (.seqR [⟨.move, [.tmp 10], (some 104), none⟩,
 ⟨(.bin .add), [.tmp 104, .const (.int .i64 1)], (some 105), none⟩,
 ⟨.move, [.tmp 105], (some 10), none⟩]))))))
 .skip))))))))
 (.seqR [⟨.move, [.tmp 8], (some 15), none⟩,
 ⟨(.bin .add), [.tmp 15, .const (.int .i64 1)], (some 16), none⟩,
 ⟨.move, [.tmp 16], (some 8), none⟩]))))))
 (.seq (.seqR [⟨.move, [.const (.bool false)], (some 6), none⟩])
 .ret)))), [.tmp 6]⟩
theorem c79_ok : compFunc Tryz.prog Tryz.f79 = some c79 := by kernel_rfl
theorem c79_body : hasBody Tryz.prog 79 = true := hasBody_of Tryz.func79 (by kernel_rfl)
/-- cmp.Less[uint64] -/
def c80 : PFn := ⟨17, Tr.ofList (List.replicate 17 undefA), (.seq (.seqR [⟨.move, [.const (.bool false)], (some 4), none⟩])
 (.seq (.seqR [⟨.move, [.tmp 0], (some 5), none⟩,
 ⟨(.callF 118), [.tmp 5], (some 6), none⟩,
 ⟨.move, [.tmp 6], (some 7), none⟩,
 ⟨.move, [.tmp 1], (some 8), some (7, true)⟩,
 ⟨(.callF 118), [.tmp 8], (some 9), some (7, true)⟩,
 ⟨.not, [.tmp 9], (some 10), some (7, true)⟩,
 ⟨.pick, [.tmp 7, .tmp 10, .const (.bool false)], (some 11), none⟩,
 ⟨.move, [.tmp 11], (some 12), none⟩,
 ⟨.move, [.tmp 0], (some 13), some (12, false)⟩,
 ⟨.move, [.tmp 1], (some 14), some (12, false)⟩,
 ⟨(.bin .lss), [.tmp 13, .tmp 14], (some 15), some (12, false)⟩,
 ⟨.pick, [.tmp 12, .const (.bool true), .tmp 15], (some 16), none⟩,
 ⟨.move, [.tmp 16], (some 4), none⟩])
 .ret)), [.tmp 4]⟩
theorem c80_ok : compFunc Tryz.prog Tryz.f80 = some c80 := by kernel_rfl
theorem c80_body : hasBody Tryz.prog 80 = true := hasBody_of Tryz.func80 (by kernel_rfl)
/-- slices.partitionEqualOrdered[uint64] -/
def c81 : PFn := ⟨84, Tr.ofList (List.replicate 84 undefA), (.seq (.seqR [⟨.move, [.const (.int .i64 0)], (some 8), none⟩])
 (.seq (.drawR [⟨⟨.move, [.tmp 0], (some 11), none⟩, false, false, 0, 0⟩,
 ⟨⟨.move, [.tmp 1], (some 12), none⟩, false, false, 0, 0⟩,
 ⟨⟨.move, [.tmp 0], (some 13), none⟩, false, false, 0, 1⟩,
 ⟨⟨.move, [.tmp 3], (some 14), none⟩, false, false, 0, 1⟩,
 ⟨⟨.move, [.tmp 0], (some 15), none⟩, false, false, 0, 0⟩,
 ⟨⟨.move, [.tmp 3], (some 16), none⟩, false, false, 0, 0⟩,
 ⟨⟨(.indexAddrS 1), [.tmp 15, .tmp 16], (some 17), none⟩, false, false, 0, 0⟩,
 ⟨⟨(.load false 1), [.tmp 17], (some 18), none⟩, false, false, 0, 0⟩,
 ⟨⟨.move, [.tmp 0], (some 19), none⟩, false, false, 0, 0⟩,
 ⟨⟨.move, [.tmp 1], (some 20), none⟩, false, false, 0, 0⟩,
 ⟨⟨(.indexAddrS 1), [.tmp 19, .tmp 20], (some 21), none⟩, false, false, 0, 0⟩,
 ⟨⟨(.load false 1), [.tmp 21], (some 22), none⟩, false, false, 0, 0⟩,
 ⟨⟨(.indexAddrS 1), [.tmp 11, .tmp 12], (some 23), none⟩, false, false, 0, 0⟩,
 ⟨⟨(.store 1), [.tmp 23, .tmp 18], none, none⟩, true, false, 0, 1⟩,
 ⟨⟨(.indexAddrS 1), [.tmp 13, .tmp 14], (some 24), none⟩, false, false, 1, 1⟩,
 ⟨⟨(.store 1), [.tmp 24, .tmp 22], none, none⟩, true, false, 1, 2⟩])
 (.seq (.seqR [⟨.move, [.tmp 1], (some 25), none⟩,
 ⟨(.bin .add), [.tmp 25, .const (.int .i64 1)], (some 26), none⟩,
 ⟨.move, [.tmp 2], (some 27), none⟩,
 ⟨(.bin .sub), [.tmp 27, .const (.int .i64 1)], (some 28), none⟩,
 ⟨.move, [.tmp 26], (some 9), none⟩,
 ⟨.move, [.tmp 28], (some 10), none⟩])
 (.seq (.block 0 (.loop (.block 1 (.seq (.block 2 (.loop (.seq (.seq (.drawR [⟨⟨.move, [.tmp 9], (some 29), none⟩, false, false, 0, 0⟩,
 ⟨⟨.move, [.tmp 10], (some 30), none⟩, false, false, 0, 0⟩,
 ⟨⟨(.bin .leq), [.tmp 29, .tmp 30], (some 31), none⟩, false, false, 0, 0⟩,
 ⟨⟨.move, [.tmp 31], (some 32), none⟩, false, false, 0, 0⟩,
 ⟨⟨.move, [.tmp 0], (some 33), some (32, true)⟩, false, false, 0, 0⟩,
 ⟨⟨.move, [.tmp 1], (some 34), some (32, true)⟩, false, false, 0, 0⟩,
 ⟨⟨(.indexAddrS 1), [.tmp 33, .tmp 34], (some 35), some (32, true)⟩, false, false, 0, 0⟩,
 ⟨⟨(.load false 1), [.tmp 35], (some 36), some (32, true)⟩, false, false, 0, 0⟩,
 ⟨⟨.move, [.tmp 0], (some 37), some (32, true)⟩, false, false, 0, 0⟩,
 ⟨⟨.move, [.tmp 9], (some 38), some (32, true)⟩, false, false, 0, 0⟩,
 ⟨⟨(.indexAddrS 1), [.tmp 37, .tmp 38], (some 39), some (32, true)⟩, false, false, 0, 0⟩,
 ⟨⟨(.load false 1), [.tmp 39], (some 40), some (32, true)⟩, false, false, 0, 0⟩,
 ⟨⟨(.callF 80), [.tmp 36, .tmp 40], (some 41), some (32, true)⟩, true, false, 0, 1⟩,
 ⟨⟨.not, [.tmp 41], (some 42), some (32, true)⟩, false, false, 1, 1⟩,
 ⟨⟨.pick, [.tmp 32, .tmp 42, .const (.bool false)], (some 43), none⟩, false, false, 1, 1⟩])
 (.cond (.tmp 43) .skip
 (.exit 2)))
 (.block 3 (.seqR [⟨.move, [.tmp 9], (some 44), none⟩,
 ⟨(.bin .add), [.tmp 44, .const (.int .i64 1)], (some 45), none⟩,
 ⟨.move, [.tmp 45], (some 9), none⟩])))))
 (.seq (.block 4 (.loop (.seq (.seq (.drawR [⟨⟨.move, [.tmp 9], (some 46), none⟩, false, false, 0, 0⟩,
 ⟨⟨.move, [.tmp 10], (some 47), none⟩, false, false, 0, 0⟩,
 ⟨⟨(.bin .leq), [.tmp 46, .tmp 47], (some 48), none⟩, false, false, 0, 0⟩,
 ⟨⟨.move, [.tmp 48], (some 49), none⟩, false, false, 0, 0⟩,
 ⟨⟨.move, [.tmp 0], (some 50), some (49, true)⟩, false, false, 0, 0⟩,
 ⟨⟨.move, [.tmp 1], (some 51), some (49, true)⟩, false, false, 0, 0⟩,
 ⟨⟨(.indexAddrS 1), [.tmp 50, .tmp 51], (some 52), some (49, true)⟩, false, false, 0, 0⟩,
 ⟨⟨(.load false 1), [.tmp 52], (some 53), some (49, true)⟩, false, false, 0, 0⟩,
 ⟨⟨.move, [.tmp 0], (some 54), some (49, true)⟩, false, false, 0, 0⟩,
 ⟨⟨.move, [.tmp 10], (some 55), some (49, true)⟩, false, false, 0, 0⟩,
 ⟨⟨(.indexAddrS 1), [.tmp 54, .tmp 55], (some 56), some (49, true)⟩, false, false, 0, 0⟩,
 ⟨⟨(.load false 1), [.tmp 56], (some 57), some (49, true)⟩, false, false, 0, 0⟩,
 ⟨⟨(.callF 80), [.tmp 53, .tmp 57], (some 58), some (49, true)⟩, true, false, 0, 1⟩,
 ⟨⟨.pick, [.tmp 49, .tmp 58, .const (.bool false)], (some 59), none⟩, false, false, 1, 1⟩])
 (.cond (.tmp 59) .skip
 (.exit 4)))
 (.block 5 (.seqR [⟨.move, [.tmp 10], (some 60), none⟩,
 ⟨(.bin .sub), [.tmp 60, .const (.int .i64 1)], (some 61), none⟩,
 ⟨.move, [.tmp 61], (some 10), none⟩])))))
 (.seq (.seq (.seqR [⟨.move, [.tmp 9], (some 62), none⟩,
 ⟨.move, [.tmp 10], (some 63), none⟩,
 ⟨(.bin .gtr), [.tmp 62, .tmp 63], (some 64), none⟩])
 (.cond (.tmp 64) (.exit 0)
 .skip))
 (.seq (.drawR [⟨⟨.move, [.tmp 0], (some 65), none⟩, false, false, 0, 0⟩,
 ⟨⟨.move, [.tmp 9], (some 66), none⟩, false, false, 0, 0⟩,
 ⟨⟨.move, [.tmp 0], (some 67), none⟩, false, false, 0, 1⟩,
 ⟨⟨.move, [.tmp 10], (some 68), none⟩, false, false, 0, 1⟩,
 ⟨⟨.move, [.tmp 0], (some 69), none⟩, false, false, 0, 0⟩,
 ⟨⟨.move, [.tmp 10], (some 70), none⟩, false, false, 0, 0⟩,
 ⟨⟨(.indexAddrS 1), [.tmp 69, .tmp 70], (some 71), none⟩, false, false, 0, 0⟩,
 ⟨⟨(.load false 1), [.tmp 71], (some 72), none⟩, false, false, 0, 0⟩,
 ⟨⟨.move, [.tmp 0], (some 73), none⟩, false, false, 0, 0⟩,
 ⟨⟨.move, [.tmp 9], (some 74), none⟩, false, false, 0, 0⟩,
 ⟨⟨(.indexAddrS 1), [.tmp 73, .tmp 74], (some 75), none⟩, false, false, 0, 0⟩,
 ⟨⟨(.load false 1), [.tmp 75], (some 76), none⟩, false, false, 0, 0⟩,
 ⟨⟨(.indexAddrS 1), [.tmp 65, .tmp 66], (some 77), none⟩, false, false, 0, 0⟩,
 ⟨⟨(.store 1), [.tmp 77, .tmp 72], none, none⟩, true, false, 0, 1⟩,
 ⟨⟨(.indexAddrS 1), [.tmp 67, .tmp 68], (some 78), none⟩, false, false, 1, 1⟩,
 ⟨⟨(.store 1), [.tmp 78, .tmp 76], none, none⟩, true, false, 1, 2⟩])
 (.seq (.seqR [⟨.move, [.tmp 9], (some 79), none⟩,
 ⟨(.bin .add), [.tmp 79, .const (.int .i64 1)], (some 80), none⟩,
 ⟨.move, [.tmp 80], (some 9), none⟩])
 (.seqR [⟨.move, [.tmp 10], (some 81), none⟩,
 ⟨(.bin .sub), [.tmp 81, .const (.int .i64 1)], (some 82), none⟩,
 ⟨.move, [.tmp 82], (some 10), none⟩])))))))))
 (.seq (.seqR [⟨.move, [.tmp 9], (some 83), none⟩,
 ⟨.move, [.tmp 83], (some 8), none⟩])
 .ret))))), [.tmp 8]⟩
theorem c81_ok : compFunc Tryz.prog Tryz.f81 = some c81 := by kernel_rfl
theorem c81_body : hasBody Tryz.prog 81 = true := hasBody_of Tryz.func81 (by kernel_rfl)
/-- slices.partitionOrdered[uint64] -/
def c82 : PFn := ⟨168, Tr.ofList (List.replicate 168 undefA), (.seq (.seqR [⟨.move, [.const (.int .i64 0)], (some 8), none⟩,
 ⟨.move, [.const (.bool false)], (some 9), none⟩])
 (.seq (.drawR [⟨⟨.move, [.tmp 0], (some 12), none⟩, false, false, 0, 0⟩,
 ⟨⟨.move, [.tmp 1], (some 13), none⟩, false, false, 0, 0⟩,
 ⟨⟨.move, [.tmp 0], (some 14), none⟩, false, false, 0, 1⟩,
 ⟨⟨.move, [.tmp 3], (some 15), none⟩, false, false, 0, 1⟩,
 ⟨⟨.move, [.tmp 0], (some 16), none⟩, false, false, 0, 0⟩,
 ⟨⟨.move, [.tmp 3], (some 17), none⟩, false, false, 0, 0⟩,
 ⟨⟨(.indexAddrS 1), [.tmp 16, .tmp 17], (some 18), none⟩, false, false, 0, 0⟩,
 ⟨⟨(.load false 1), [.tmp 18], (some 19), none⟩, false, false, 0, 0⟩,
 ⟨⟨.move, [.tmp 0], (some 20), none⟩, false, false, 0, 0⟩,
 ⟨⟨.move, [.tmp 1], (some 21), none⟩, false, false, 0, 0⟩,
 ⟨⟨(.indexAddrS 1), [.tmp 20, .tmp 21], (some 22), none⟩, false, false, 0, 0⟩,
 ⟨⟨(.load false 1), [.tmp 22], (some 23), none⟩, false, false, 0, 0⟩,
 ⟨⟨(.indexAddrS 1), [.tmp 12, .tmp 13], (some 24), none⟩, false, false, 0, 0⟩,
 ⟨⟨(.store 1), [.tmp 24, .tmp 19], none, none⟩, true, false, 0, 1⟩,
 ⟨⟨(.indexAddrS 1), [.tmp 14, .tmp 15], (some 25), none⟩, false, false, 1, 1⟩,
 ⟨⟨(.store 1), [.tmp 25, .tmp 23], none, none⟩, true, false, 1, 2⟩])
 (.seq (.seqR [⟨.move, [.tmp 1], (some 26), none⟩,
 ⟨(.bin .add), [.tmp 26, .const (.int .i64 1)], (some 27), none⟩,
 ⟨.move, [.tmp 2], (some 28), none⟩,
 ⟨(.bin .sub), [.tmp 28, .const (.int .i64 1)], (some 29), none⟩,
 ⟨.move, [.tmp 27], (some 10), none⟩,
 ⟨.move, [.tmp 29], (some 11), none⟩])
 (.seq (.block 0 (.loop (.seq (.seq (.drawR [⟨⟨.move, [.tmp 10], (some 30), none⟩, false, false, 0, 0⟩,
 ⟨⟨.move, [.tmp 11], (some 31), none⟩, false, false, 0, 0⟩,
 ⟨⟨(.bin .leq), [.tmp 30, .tmp 31], (some 32), none⟩, false, false, 0, 0⟩,
 ⟨⟨.move, [.tmp 32], (some 33), none⟩, false, false, 0, 0⟩,
 ⟨⟨.move, [.tmp 0], (some 34), some (33, true)⟩, false, false, 0, 0⟩,
 ⟨⟨.move, [.tmp 10], (some 35), some (33, true)⟩, false, false, 0, 0⟩,
 ⟨⟨(.indexAddrS 1), [.tmp 34, .tmp 35], (some 36), some (33, true)⟩, false, false, 0, 0⟩,
 ⟨⟨(.load false 1), [.tmp 36], (some 37), some (33, true)⟩, false, false, 0, 0⟩,
 ⟨⟨.move, [.tmp 0], (some 38), some (33, true)⟩, false, false, 0, 0⟩,
 ⟨⟨.move, [.tmp 1], (some 39), some (33, true)⟩, false, false, 0, 0⟩,
 ⟨⟨(.indexAddrS 1), [.tmp 38, .tmp 39], (some 40), some (33, true)⟩, false, false, 0, 0⟩,
 ⟨⟨(.load false 1), [.tmp 40], (some 41), some (33, true)⟩, false, false, 0, 0⟩,
 ⟨⟨(.callF 80), [.tmp 37, .tmp 41], (some 42), some (33, true)⟩, true, false, 0, 1⟩,
 ⟨⟨.pick, [.tmp 33, .tmp 42, .const (.bool false)], (some 43), none⟩, false, false, 1, 1⟩])
 (.cond (.tmp 43) .skip
 (.exit 0)))
 (.block 1 (.seqR [⟨.move, [.tmp 10], (some 44), none⟩,
 ⟨(.bin .add), [.tmp 44, .const (.int .i64 1)], (some 45), none⟩,
 ⟨.move, [.tmp 45], (some 10), none⟩])))))
 (.seq (.block 2 (.loop (.seq (.seq (.drawR [⟨⟨.move, [.tmp 10], (some 46), none⟩, false, false, 0, 0⟩,
 ⟨⟨.move, [.tmp 11], (some 47), none⟩, false, false, 0, 0⟩,
 ⟨⟨(.bin .leq), [.tmp 46, .tmp 47], (some 48), none⟩, false, false, 0, 0⟩,
 ⟨⟨.move, [.tmp 48], (some 49), none⟩, false, false, 0, 0⟩,
 ⟨⟨.move, [.tmp 0], (some 50), some (49, true)⟩, false, false, 0, 0⟩,
 ⟨⟨.move, [.tmp 11], (some 51), some (49, true)⟩, false, false, 0, 0⟩,
 ⟨⟨(.indexAddrS 1), [.tmp 50, .tmp 51], (some 52), some (49, true)⟩, false, false, 0, 0⟩,
 ⟨⟨(.load false 1), [.tmp 52], (some 53), some (49, true)⟩, false, false, 0, 0⟩,
 ⟨⟨.move, [.tmp 0], (some 54), some (49, true)⟩, false, false, 0, 0⟩,
 ⟨⟨.move, [.tmp 1], (some 55), some (49, true)⟩, false, false, 0, 0⟩,
 ⟨⟨(.indexAddrS 1), [.tmp 54, .tmp 55], (some 56), some (49, true)⟩, false, false, 0, 0⟩,
 ⟨⟨(.load false 1), [.tmp 56], (some 57), some (49, true)⟩, false, false, 0, 0⟩,
 ⟨⟨(.callF 80), [.tmp 53, .tmp 57], (some 58), some (49, true)⟩, true, false, 0, 1⟩,
 ⟨⟨.not, [.tmp 58], (some 59), some (49, true)⟩, false, false, 1, 1⟩,
 ⟨⟨.pick, [.tmp 49, .tmp 59, .const (.bool false)], (some 60), none⟩, false, false, 1, 1⟩])
 (.cond (.tmp 60) .skip
 (.exit 2)))
 (.block 3 (.seqR [⟨.move, [.tmp 11], (some 61), none⟩,
 ⟨(.bin .sub), [.tmp 61, .const (.int .i64 1)], (some 62), none⟩,
 ⟨.move, [.tmp 62], (some 11), none⟩])))))
 (.seq (.seq (.seqR [⟨.move, [.tmp 10], (some 63), none⟩,
 ⟨.move, [.tmp 11], (some 64), none⟩,
 ⟨(.bin .gtr), [.tmp 63, .tmp 64], (some 65), none⟩])
 (.cond (.tmp 65) (.seq (.drawR [⟨⟨.move, [.tmp 0], (some 66), none⟩, false, false, 0, 0⟩,
 ⟨⟨.move, [.tmp 11], (some 67), none⟩, false, false, 0, 0⟩,
 ⟨⟨.move, [.tmp 0], (some 68), none⟩, false, false, 0, 1⟩,
 ⟨⟨.move, [.tmp 1], (some 69), none⟩, false, false, 0, 1⟩,
 ⟨⟨.move, [.tmp 0], (some 70), none⟩, false, false, 0, 0⟩,
 ⟨⟨.move, [.tmp 1], (some 71), none⟩, false, false, 0, 0⟩,
 ⟨⟨(.indexAddrS 1), [.tmp 70, .tmp 71], (some 72), none⟩, false, false, 0, 0⟩,
 ⟨⟨(.load false 1), [.tmp 72], (some 73), none⟩, false, false, 0, 0⟩,
 ⟨⟨.move, [.tmp 0], (some 74), none⟩, false, false, 0, 0⟩,
 ⟨⟨.move, [.tmp 11], (some 75), none⟩, false, false, 0, 0⟩,
 ⟨⟨(.indexAddrS 1), [.tmp 74, .tmp 75], (some 76), none⟩, false, false, 0, 0⟩,
 ⟨⟨(.load false 1), [.tmp 76], (some 77), none⟩, false, false, 0, 0⟩,
 ⟨⟨(.indexAddrS 1), [.tmp 66, .tmp 67], (some 78), none⟩, false, false, 0, 0⟩,
 ⟨⟨(.store 1), [.tmp 78, .tmp 73], none, none⟩, true, false, 0, 1⟩,
 ⟨⟨(.indexAddrS 1), [.tmp 68, .tmp 69], (some 79), none⟩, false, false, 1, 1⟩,
 ⟨⟨(.store 1), [.tmp 79, .tmp 77], none, none⟩, true, false, 1, 2⟩])
 (.seq (.seqR [⟨.move, [.tmp 11], (some 80), none⟩,
 ⟨.move, [.tmp 80], (some 8), none⟩,
 ⟨.move, [.const (.bool true)], (some 9), none⟩])
 .ret))
 .skip))
 (.seq (.drawR [⟨⟨.move, [.tmp 0], (some 81), none⟩, false, false, 0, 0⟩,
 ⟨⟨.move, [.tmp 10], (some 82), none⟩, false, false, 0, 0⟩,
 ⟨⟨.move, [.tmp 0], (some 83), none⟩, false, false, 0, 1⟩,
 ⟨⟨.move, [.tmp 11], (some 84), none⟩, false, false, 0, 1⟩,
 ⟨⟨.move, [.tmp 0], (some 85), none⟩, false, false, 0, 0⟩,
 ⟨⟨.move, [.tmp 11], (some 86), none⟩, false, false, 0, 0⟩,
 ⟨⟨(.indexAddrS 1), [.tmp 85, .tmp 86], (some 87), none⟩, false, false, 0, 0⟩,
 ⟨⟨(.load false 1), [.tmp 87], (some 88), none⟩, false, false, 0, 0⟩,
 ⟨⟨.move, [.tmp 0], (some 89), none⟩, false, false, 0, 0⟩,
 ⟨⟨.move, [.tmp 10], (some 90), none⟩, false, false, 0, 0⟩,
 ⟨⟨(.indexAddrS 1), [.tmp 89, .tmp 90], (some 91), none⟩, false, false, 0, 0⟩,
 ⟨⟨(.load false 1), [.tmp 91], (some 92), none⟩, false, false, 0, 0⟩,
 ⟨⟨(.indexAddrS 1), [.tmp 81, .tmp 82], (some 93), none⟩, false, false, 0, 0⟩,
 ⟨⟨(.store 1), [.tmp 93, .tmp 88], none, none⟩, true, false, 0, 1⟩,
 ⟨⟨(.indexAddrS 1), [.tmp 83, .tmp 84], (some 94), none⟩, false, false, 1, 1⟩,
 ⟨⟨(.store 1), [.tmp 94, .tmp 92], none, none⟩, true, false, 1, 2⟩])
 (.seq (.seqR [⟨.move, [.tmp 10], (some 95), none⟩,
 ⟨(.bin .add), [.tmp 95, .const (.int .i64 1)], (some 96), none⟩,
 ⟨.move, [.tmp 96], (some 10), none⟩])
 (.seq (.seqR [⟨.move, [.tmp 11], (some 97), none⟩,
 ⟨(.bin .sub), [.tmp 97, .const (.int .i64 1)], (some 98), none⟩,
 ⟨.move, [.tmp 98], (some 11), none⟩])
 (.seq (.block 4 (.loop (.block 5 (.seq (.block 6 (.loop (.seq (.seq (.drawR [⟨⟨.move, [.tmp 10], (some 99), none⟩, false, false, 0, 0⟩,
 ⟨⟨.move, [.tmp 11], (some 100), none⟩, false, false, 0, 0⟩,
 ⟨⟨(.bin .leq), [.tmp 99, .tmp 100], (some 101), none⟩, false, false, 0, 0⟩,
 ⟨⟨.move, [.tmp 101], (some 102), none⟩, false, false, 0, 0⟩,
 ⟨⟨.move, [.tmp 0], (some 103), some (102, true)⟩, false, false, 0, 0⟩,
 ⟨⟨.move, [.tmp 10], (some 104), some (102, true)⟩, false, false, 0, 0⟩,
 ⟨⟨(.indexAddrS 1), [.tmp 103, .tmp 104], (some 105), some (102, true)⟩, false, false, 0, 0⟩,
 ⟨⟨(.load false 1), [.tmp 105], (some 106), some (102, true)⟩, false, false, 0, 0⟩,
 ⟨⟨.move, [.tmp 0], (some 107), some (102, true)⟩, false, false, 0, 0⟩,
 ⟨⟨.move, [.tmp 1], (some 108), some (102, true)⟩, false, false, 0, 0⟩,
 ⟨⟨(.indexAddrS 1), [.tmp 107, .tmp 108], (some 109), some (102, true)⟩, false, false, 0, 0⟩,
 ⟨⟨(.load false 1), [.tmp 109], (some 110), some (102, true)⟩, false, false, 0, 0⟩,
 ⟨⟨(.callF 80), [.tmp 106, .tmp 110], (some 111), some (102, true)⟩, true, false, 0, 1⟩,
 ⟨⟨.pick, [.tmp 102, .tmp 111, .const (.bool false)], (some 112), none⟩, false, false, 1, 1⟩])
 (.cond (.tmp 112) .skip
 (.exit 6)))
 (.block 7 (.seqR [⟨.move, [.tmp 10], (some 113), none⟩,
 ⟨(.bin .add), [.tmp 113, .const (.int .i64 1)], (some 114), none⟩,
 ⟨.move, [.tmp 114], (some 10), none⟩])))))
 (.seq (.block 8 (.loop (.seq (.seq (.drawR [⟨⟨.move, [.tmp 10], (some 115), none⟩, false, false, 0, 0⟩,
 ⟨⟨.move, [.tmp 11], (some 116), none⟩, false, false, 0, 0⟩,
 ⟨⟨(.bin .leq), [.tmp 115, .tmp 116], (some 117), none⟩, false, false, 0, 0⟩,
 ⟨⟨.move, [.tmp 117], (some 118), none⟩, false, false, 0, 0⟩,
 ⟨⟨.move, [.tmp 0], (some 119), some (118, true)⟩, false, false, 0, 0⟩,
 ⟨⟨.move, [.tmp 11], (some 120), some (118, true)⟩, false, false, 0, 0⟩,
 ⟨⟨(.indexAddrS 1), [.tmp 119, .tmp 120], (some 121), some (118, true)⟩, false, false, 0, 0⟩,
 ⟨⟨(.load false 1), [.tmp 121], (some 122), some (118, true)⟩, false, false, 0, 0⟩,
 ⟨⟨.move, [.tmp 0], (some 123), some (118, true)⟩, false, false, 0, 0⟩,
 ⟨⟨.move, [.tmp 1], (some 124), some (118, true)⟩, false, false, 0, 0⟩,
 ⟨⟨(.indexAddrS 1), [.tmp 123, .tmp 124], (some 125), some (118, true)⟩, false, false, 0, 0⟩,
 ⟨⟨(.load false 1), [.tmp 125], (some 126), some (118, true)⟩, false, false, 0, 0⟩,
 ⟨⟨(.callF 80), [.tmp 122, .tmp 126], (some 127), some (118, true)⟩, true, false, 0, 1⟩,
 ⟨⟨.not, [.tmp 127], (some 128), some (118, true)⟩, false, false, 1, 1⟩,
 ⟨⟨.pick, [.tmp 118, .tmp 128, .const (.bool false)], (some 129), none⟩, false, false, 1, 1⟩])
 (.cond (.tmp 129) .skip
 (.exit 8)))
 (.block 9 (.seqR [⟨.move, [.tmp 11], (some 130), none⟩,
 ⟨(.bin .sub), [.tmp 130, .const (.int .i64 1)], (some 131), none⟩,
 ⟨.move, [.tmp 131], (some 11), none⟩])))))
 (.seq (.seq (.seqR [⟨.move, [.tmp 10], (some 132), none⟩,
 ⟨.move, [.tmp 11], (some 133), none⟩,
 ⟨(.bin .gtr), [.tmp 132, .tmp 133], (some 134), none⟩])
 (.cond (.tmp 134) (.exit 4)
 .skip))
 (.seq (.drawR [⟨⟨.move, [.tmp 0], (some 135), none⟩, false, false, 0, 0⟩,
 ⟨⟨.move, [.tmp 10], (some 136), none⟩, false, false, 0, 0⟩,
 ⟨⟨.move, [.tmp 0], (some 137), none⟩, false, false, 0, 1⟩,
 ⟨⟨.move, [.tmp 11], (some 138), none⟩, false, false, 0, 1⟩,
 ⟨⟨.move, [.tmp 0], (some 139), none⟩, false, false, 0, 0⟩,
 ⟨⟨.move, [.tmp 11], (some 140), none⟩, false, false, 0, 0⟩,
 ⟨⟨(.indexAddrS 1), [.tmp 139, .tmp 140], (some 141), none⟩, false, false, 0, 0⟩,
 ⟨⟨(.load false 1), [.tmp 141], (some 142), none⟩, false, false, 0, 0⟩,
 ⟨⟨.move, [.tmp 0], (some 143), none⟩, false, false, 0, 0⟩,
 ⟨⟨.move, [.tmp 10], (some 144), none⟩, false, false, 0, 0⟩,
 ⟨⟨(.indexAddrS 1), [.tmp 143, .tmp 144], (some 145), none⟩, false, false, 0, 0⟩,
 ⟨⟨(.load false 1), [.tmp 145], (some 146), none⟩, false, false, 0, 0⟩,
 ⟨⟨(.indexAddrS 1), [.tmp 135, .tmp 136], (some 147), none⟩, false, false, 0, 0⟩,
 ⟨⟨(.store 1), [.tmp 147, .tmp 142], none, none⟩, true, false, 0, 1⟩,
 ⟨⟨(.indexAddrS 1), [.tmp 137, .tmp 138], (some 148), none⟩, false, false, 1, 1⟩,
 ⟨⟨(.store 1), [.tmp 148, .tmp 146], none, none⟩, true, false, 1, 2⟩])
 (.seq (.seqR [⟨.move, [.tmp 10], (some 149), none⟩,
 ⟨(.bin .add), [.tmp 149, .const (.int .i64 1)], (some 150), none⟩,
 ⟨.move, [.tmp 150], (some 10), none⟩])
 (.seqR [⟨.move, [.tmp 11], (some 151), none⟩,
 ⟨(.bin .sub), [.tmp 151, .const (.int .i64 1)], (some 152), none⟩,
 ⟨.move, [.tmp 152], (some 11), none⟩])))))))))
 (.seq (.drawR [⟨⟨.move, [.tmp 0], (some 153), none⟩, false, false, 0, 0⟩,
 ⟨⟨.move, [.tmp 11], (some 154), none⟩, false, false, 0, 0⟩,
 ⟨⟨.move, [.tmp 0], (some 155), none⟩, false, false, 0, 1⟩,
 ⟨⟨.move, [.tmp 1], (some 156), none⟩, false, false, 0, 1⟩,
 ⟨⟨.move, [.tmp 0], (some 157), none⟩, false, false, 0, 0⟩,
 ⟨⟨.move, [.tmp 1], (some 158), none⟩, false, false, 0, 0⟩,
 ⟨⟨(.indexAddrS 1), [.tmp 157, .tmp 158], (some 159), none⟩, false, false, 0, 0⟩,
 ⟨⟨(.load false 1), [.tmp 159], (some 160), none⟩, false, false, 0, 0⟩,
 ⟨⟨.move, [.tmp 0], (some 161), none⟩, false, false, 0, 0⟩,
 ⟨⟨.move, [.tmp 11], (some 162), none⟩, false, false, 0, 0⟩,
 ⟨⟨(.indexAddrS 1), [.tmp 161, .tmp 162], (some 163), none⟩, false, false, 0, 0⟩,
 ⟨⟨(.load false 1), [.tmp 163], (some 164), none⟩, false, false, 0, 0⟩,
 ⟨⟨(.indexAddrS 1), [.tmp 153, .tmp 154], (some 165), none⟩, false, false, 0, 0⟩,
 ⟨⟨(.store 1), [.tmp 165, .tmp 160], none, none⟩, true, false, 0, 1⟩,
 ⟨⟨(.indexAddrS 1), [.tmp 155, .tmp 156], (some 166), none⟩, false, false, 1, 1⟩,
 ⟨⟨(.store 1), [.tmp 166, .tmp 164], none, none⟩, true, false, 1, 2⟩])
 (.seq (.seqR [⟨.move, [.tmp 11], (some 167), none⟩,
 ⟨.move, [.tmp 167], (some 8), none⟩,
 ⟨.move, [.const (.bool false)], (some 9), none⟩])
 .ret)))))))))))), [.tmp 8, .tmp 9]⟩
theorem c82_ok : compFunc Tryz.prog Tryz.f82 = some c82 := by kernel_rfl
theorem c82_body : hasBody Tryz.prog 82 = true := hasBody_of Tryz.func82 (by kernel_rfl)
/-- math/bits.Len32 -/
def c83 : PFn := ⟨19, Tr.ofList (List.replicate 19 undefA), (.seq (.seqR [⟨.move, [.const (.int .i64 0)], (some 2), none⟩])
 (.seq (.seq (.seqR [⟨.move, [.tmp 0], (some 3), none⟩,
 ⟨(.bin .geq), [.tmp 3, .const (.int .u32 65536)], (some 4), none⟩])
 (.cond (.tmp 4) (.seq (.seqR [⟨.move, [.tmp 0], (some 5), none⟩,
 ⟨(.bin .shr), [.tmp 5, .const (.int .u64 16)], (some 6), none⟩,
 ⟨.move, [.tmp 6], (some 0), none⟩])
 (.seqR [⟨.move, [.const (.int .i64 16)], (some 2), none⟩]))
 .skip))
 (.seq (.seq (.seqR [⟨.move, [.tmp 0], (some 7), none⟩,
 ⟨(.bin .geq), [.tmp 7, .const (.int .u32 256)], (some 8), none⟩])
 (.cond (.tmp 8) (.seq (.seqR [⟨.move, [.tmp 0], (some 9), none⟩,
 ⟨(.bin .shr), [.tmp 9, .const (.int .u64 8)], (some 10), none⟩,
 ⟨.move, [.tmp 10], (some 0), none⟩])
 (.seqR [⟨.move, [.tmp 2], (some 11), none⟩,
 ⟨(.bin .add), [.tmp 11, .const (.int .i64 8)], (some 12), none⟩,
 ⟨.move, [.tmp 12], (some 2), none⟩]))
 .skip))
 (.seq (.seqR [⟨.move, [.tmp 2], (some 13), none⟩,
 ⟨.move, [.tmp 0], (some 14), none⟩,
 ⟨(.conv .u8), [.tmp 14], (some 15), none⟩,
 ⟨.indexStr, [.const (.str ⟨#[0, 1, 2, 2, 3, 3, 3, 3, 4, 4, 4, 4, 4, 4, 4, 4, 5, 5, 5, 5, 5, 5, 5, 5, 5, 5, 5, 5, 5, 5, 5, 5, 6, 6, 6, 6, 6, 6, 6, 6, 6, 6, 6, 6, 6, 6, 6, 6, 6, 6, 6, 6, 6, 6, 6, 6, 6, 6, 6, 6, 6, 6, 6, 6, 7, 7, 7, 7, 7, 7, 7, 7, 7, 7, 7, 7, 7, 7, 7, 7, 7, 7, 7, 7, 7, 7, 7, 7, 7, 7, 7, 7, 7, 7, 7, 7, 7, 7, 7, 7, 7, 7, 7, 7, 7, 7, 7, 7, 7, 7, 7, 7, 7, 7, 7, 7, 7, 7, 7, 7, 7, 7, 7, 7, 7, 7, 7, 7, 8, 8, 8, 8, 8, 8, 8, 8, 8, 8, 8, 8, 8, 8, 8, 8, 8, 8, 8, 8, 8, 8, 8, 8, 8, 8, 8, 8, 8, 8, 8, 8, 8, 8, 8, 8, 8, 8, 8, 8, 8, 8, 8, 8, 8, 8, 8, 8, 8, 8, 8, 8, 8, 8, 8, 8, 8, 8, 8, 8, 8, 8, 8, 8, 8, 8, 8, 8, 8, 8, 8, 8, 8, 8, 8, 8, 8, 8, 8, 8, 8, 8, 8, 8, 8, 8, 8, 8, 8, 8, 8, 8, 8, 8, 8, 8, 8, 8, 8, 8, 8, 8, 8, 8, 8, 8, 8, 8, 8, 8, 8, 8, 8, 8, 8, 8, 8, 8, 8, 8, 8, 8, 8, 8, 8, 8, 8, 8]⟩), .tmp 15], (some 16), none⟩,
 ⟨(.conv .i64), [.tmp 16], (some 17), none⟩,
 ⟨(.bin .add), [.tmp 13, .tmp 17], (some 18), none⟩,
 ⟨.move, [.tmp 18], (some 2), none⟩])
 .ret)))), [.tmp 2]⟩
theorem c83_ok : compFunc Tryz.prog Tryz.f83 = some c83 := by kernel_rfl
theorem c83_body : hasBody Tryz.prog 83 = true := hasBody_of Tryz.func83 (by kernel_rfl)
/-- math/bits.Len64 -/
def c84 : PFn := ⟨25, Tr.ofList (List.replicate 25 undefA), (.seq (.seqR [⟨.move, [.const (.int .i64 0)], (some 2), none⟩])
 (.seq (.seq (.seqR [⟨.move, [.tmp 0], (some 3), none⟩,
 ⟨(.bin .geq), [.tmp 3, .const (.int .u64 4294967296)], (some 4), none⟩])
 (.cond (.tmp 4) (.seq (.seqR [⟨.move, [.tmp 0], (some 5), none⟩,
 ⟨(.bin .shr), [.tmp 5, .const (.int .u64 32)], (some 6), none⟩,
 ⟨.move, [.tmp 6], (some 0), none⟩])
 (.seqR [⟨.move, [.const (.int .i64 32)], (some 2), none⟩]))
 .skip))
 (.seq (.seq (.seqR [⟨.move, [.tmp 0], (some 7), none⟩,
 ⟨(.bin .geq), [.tmp 7, .const (.int .u64 65536)], (some 8), none⟩])
 (.cond (.tmp 8) (.seq (.seqR [⟨.move, [.tmp 0], (some 9), none⟩,
 ⟨(.bin .shr), [.tmp 9, .const (.int .u64 16)], (some 10), none⟩,
 ⟨.move, [.tmp 10], (some 0), none⟩])
 (.seqR [⟨.move, [.tmp 2], (some 11), none⟩,
 ⟨(.bin .add), [.tmp 11, .const (.int .i64 16)], (some 12), none⟩,
 ⟨.move, [.tmp 12], (some 2), none⟩]))
 .skip))
 (.seq (.seq (.seqR [⟨.move, [.tmp 0], (some 13), none⟩,
 ⟨(.bin .geq), [.tmp 13, .const (.int .u64 256)], (some 14), none⟩])
 (.cond (.tmp 14) (.seq (.seqR [⟨.move, [.tmp 0], (some 15), none⟩,
 ⟨(.bin .shr), [.tmp 15, .const (.int .u64 8)], (some 16), none⟩,
 ⟨.move, [.tmp 16], (some 0), none⟩])
 (.seqR [⟨.move, [.tmp 2], (some 17), none⟩,
 ⟨(.bin .add), [.tmp 17, .const (.int .i64 8)], (some 18), none⟩,
 ⟨.move, [.tmp 18], (some 2), none⟩]))
 .skip))
 (.seq (.seqR [⟨.move, [.tmp 2], (some 19), none⟩,
 ⟨.move, [.tmp 0], (some 20), none⟩,
 ⟨(.conv .u8), [.tmp 20], (some 21), none⟩,
 ⟨.indexStr, [.const (.str ⟨#[0, 1, 2, 2, 3, 3, 3, 3, 4, 4, 4, 4, 4, 4, 4, 4, 5, 5, 5, 5, 5, 5, 5, 5, 5, 5, 5, 5, 5, 5, 5, 5, 6, 6, 6, 6, 6, 6, 6, 6, 6, 6, 6, 6, 6, 6, 6, 6, 6, 6, 6, 6, 6, 6, 6, 6, 6, 6, 6, 6, 6, 6, 6, 6, 7, 7, 7, 7, 7, 7, 7, 7, 7, 7, 7, 7, 7, 7, 7, 7, 7, 7, 7, 7, 7, 7, 7, 7, 7, 7, 7, 7, 7, 7, 7, 7, 7, 7, 7, 7, 7, 7, 7, 7, 7, 7, 7, 7, 7, 7, 7, 7, 7, 7, 7, 7, 7, 7, 7, 7, 7, 7, 7, 7, 7, 7, 7, 7, 8, 8, 8, 8, 8, 8, 8, 8, 8, 8, 8, 8, 8, 8, 8, 8, 8, 8, 8, 8, 8, 8, 8, 8, 8, 8, 8, 8, 8, 8, 8, 8, 8, 8, 8, 8, 8, 8, 8, 8, 8, 8, 8, 8, 8, 8, 8, 8, 8, 8, 8, 8, 8, 8, 8, 8, 8, 8, 8, 8, 8, 8, 8, 8, 8, 8, 8, 8, 8, 8, 8, 8, 8, 8, 8, 8, 8, 8, 8, 8, 8, 8, 8, 8, 8, 8, 8, 8, 8, 8, 8, 8, 8, 8, 8, 8, 8, 8, 8, 8, 8, 8, 8, 8, 8, 8, 8, 8, 8, 8, 8, 8, 8, 8, 8, 8, 8, 8, 8, 8, 8, 8, 8, 8, 8, 8, 8, 8]⟩), .tmp 21], (some 22), none⟩,
 ⟨(.conv .i64), [.tmp 22], (some 23), none⟩,
 ⟨(.bin .add), [.tmp 19, .tmp 23], (some 24), none⟩,
 ⟨.move, [.tmp 24], (some 2), none⟩])
 .ret))))), [.tmp 2]⟩
theorem c84_ok : compFunc Tryz.prog Tryz.f84 = some c84 := by kernel_rfl
theorem c84_body : hasBody Tryz.prog 84 = true := hasBody_of Tryz.func84 (by kernel_rfl)
/-- coachyard/plan.size -/
def c85 : PFn := ⟨11, Tr.ofList (List.replicate 11 undefA), (.seq (.seqR [⟨.box, [.tmp 0], (some 1), none⟩,
 ⟨.move, [.const (.int .i64 0)], (some 2), none⟩])
 (.seq (.seqR [⟨(.fieldAddr 0), [.tmp 1], (some 3), none⟩,
 ⟨(.load false 1), [.tmp 3], (some 4), none⟩,
 ⟨(.bin .add), [.const (.int .i64 1), .tmp 4], (some 5), none⟩,
 ⟨(.fieldAddr 3), [.tmp 1], (some 6), none⟩,
 ⟨(.load false 1), [.tmp 6], (some 7), none⟩,
 ⟨(.bin .mul), [.const (.int .i64 3), .tmp 7], (some 8), none⟩,
 ⟨(.bin .add), [.tmp 5, .tmp 8], (some 9), none⟩,
 ⟨(.bin .add), [.tmp 9, .const (.int .i64 3)], (some 10), none⟩,
 ⟨.move, [.tmp 10], (some 2), none⟩])
 .ret)), [.tmp 2]⟩
theorem c85_ok : compFunc Tryz.prog Tryz.f85 = some c85 := by kernel_rfl
theorem c85_body : hasBody Tryz.prog 85 = true := hasBody_of Tryz.func85 (by kernel_rfl)
/-- (coachyard/queue.Line).check -/
def c86 : PFn := ⟨23, Tr.ofList (List.replicate 23 undefA), (.seq (.seqR [⟨.box, [.tmp 0], (some 2), none⟩,
 ⟨.move, [.const (.int .i64 0)], (some 4), none⟩])
 (.seq (.block 0 (.seq (.seqR [⟨.move, [.tmp 1], (some 6), none⟩,
 ⟨(.eqPtr false), [.tmp 6, .const (.ptr none)], (some 7), none⟩,
 ⟨.move, [.tmp 7], (some 5), none⟩])
 (.cond (.tmp 5) (.seq (.seqR [⟨.move, [.const (.int .i64 1)], (some 4), none⟩])
 .ret)
 (.seq (.seqR [⟨(.load true 2), [.tmp 2], (some 9), none⟩,
 ⟨(.callF 119), [.tmp 9], (some 10), none⟩,
 ⟨.not, [.tmp 10], (some 11), none⟩,
 ⟨.move, [.tmp 11], (some 8), none⟩])
 (.cond (.tmp 8) (.seq (.seqR [⟨.move, [.const (.int .i64 2)], (some 4), none⟩])
 .ret)
 (.seq (.drawR [⟨⟨.move, [.tmp 1], (some 13), none⟩, false, false, 0, 0⟩,
 ⟨⟨(.callF 120), [.tmp 13], (some 14), none⟩, true, false, 0, 1⟩,
 ⟨⟨(.fieldAddr 0), [.tmp 2], (some 15), none⟩, false, false, 0, 1⟩,
 ⟨⟨(.load false 1), [.tmp 15], (some 16), none⟩, false, false, 0, 1⟩,
 ⟨⟨(.fieldAddr 1), [.tmp 2], (some 17), none⟩, false, false, 0, 1⟩,
 ⟨⟨(.load false 1), [.tmp 17], (some 18), none⟩, false, false, 0, 1⟩,
 ⟨⟨(.bin .mul), [.const (.int .i64 3), .tmp 18], (some 19), none⟩, false, false, 0, 1⟩,
 ⟨⟨(.bin .add), [.tmp 16, .tmp 19], (some 20), none⟩, false, false, 0, 1⟩,
 ⟨⟨(.bin .add), [.tmp 20, .const (.int .i64 2)], (some 21), none⟩, false, false, 0, 1⟩,
 ⟨⟨(.bin .leq), [.tmp 14, .tmp 21], (some 22), none⟩, false, false, 1, 1⟩,
 ⟨⟨.move, [.tmp 22], (some 12), none⟩, false, false, 1, 1⟩])
 (.cond (.tmp 12) (.seq (.seqR [⟨.move, [.const (.int .i64 3)], (some 4), none⟩])
 .ret)
 .skip)))))))
 (.seq (.seqR [⟨.move, [.const (.int .i64 0)], (some 4), none⟩])
 .ret))), [.tmp 4]⟩
theorem c86_ok : compFunc Tryz.prog Tryz.f86 = some c86 := by kernel_rfl
theorem c86_body : hasBody Tryz.prog 86 = true := hasBody_of Tryz.func86 (by kernel_rfl)
/-- (coachyard/queue.Line).Cells -/
def c87 : PFn := ⟨10, Tr.ofList (List.replicate 10 undefA), (.seq (.seqR [⟨.box, [.tmp 0], (some 1), none⟩,
 ⟨.move, [.const (.int .i64 0)], (some 2), none⟩])
 (.seq (.seq (.seqR [⟨(.load true 2), [.tmp 1], (some 3), none⟩,
 ⟨(.callF 119), [.tmp 3], (some 4), none⟩,
 ⟨.not, [.tmp 4], (some 5), none⟩])
 (.cond (.tmp 5) (.seq (.seqR [⟨.move, [.const (.int .i64 0)], (some 2), none⟩])
 .ret)
 .skip))
 (.seq (.seqR [⟨(.fieldAddr 1), [.tmp 1], (some 6), none⟩,
 ⟨(.load false 1), [.tmp 6], (some 7), none⟩,
 ⟨(.bin .mul), [.const (.int .i64 3), .tmp 7], (some 8), none⟩,
 ⟨(.bin .add), [.tmp 8, .const (.int .i64 3)], (some 9), none⟩,
 ⟨.move, [.tmp 9], (some 2), none⟩])
 .ret))), [.tmp 2]⟩
theorem c87_ok : compFunc Tryz.prog Tryz.f87 = some c87 := by kernel_rfl
theorem c87_body : hasBody Tryz.prog 87 = true := hasBody_of Tryz.func87 (by kernel_rfl)
/-- (coachyard/queue.Line).Arena -/
def c88 : PFn := ⟨9, Tr.ofList (List.replicate 9 undefA), (.seq (.seqR [⟨.box, [.tmp 0], (some 1), none⟩,
 ⟨(.new [(.int .i64 0), (.int .i64 0)]), [], (some 2), none⟩])
 (.seq (.seqR [⟨(.fieldAddr 0), [.tmp 1], (some 3), none⟩,
 ⟨(.load false 1), [.tmp 3], (some 4), none⟩,
 ⟨(.bin .add), [.tmp 4, .const (.int .i64 2)], (some 5), none⟩,
 ⟨(.fieldAddr 1), [.tmp 1], (some 6), none⟩,
 ⟨(.load false 1), [.tmp 6], (some 7), none⟩,
 ⟨(.build [(.int .i64 0), (.int .i64 0)] [(0, 1), (1, 1)]), [.tmp 5, .tmp 7], (some 8), none⟩,
 ⟨(.store 2), [.tmp 2, .tmp 8], none, none⟩])
 .ret)), [.cell 2 true 2]⟩
theorem c88_ok : compFunc Tryz.prog Tryz.f88 = some c88 := by kernel_rfl
theorem c88_body : hasBody Tryz.prog 88 = true := hasBody_of Tryz.func88 (by kernel_rfl)
/-- (coachyard/arena.Arena).Init -/
def c89 : PFn := ⟨72, Tr.ofList (List.replicate 72 undefA), (.seq (.seqR [⟨.box, [.tmp 0], (some 3), none⟩,
 ⟨.move, [.const (.int .i64 0)], (some 6), none⟩])
 (.seq (.seqR [⟨(.load true 2), [.tmp 3], (some 11), none⟩,
 ⟨.move, [.tmp 1], (some 12), none⟩,
 ⟨(.callF 121), [.tmp 11, .tmp 12], (some 13), none⟩,
 ⟨.move, [.tmp 13], (some 7), none⟩])
 (.seq (.seq (.seqR [⟨.move, [.tmp 7], (some 14), none⟩,
 ⟨(.bin .eql), [.tmp 14, .const (.int .i64 1)], (some 15), none⟩])
 (.cond (.tmp 15) (.seq (.seqR [⟨.move, [.tmp 7], (some 16), none⟩,
 ⟨.move, [.tmp 16], (some 6), none⟩])
 .ret)
 .skip))
 (.seq (.seq (.seqR [⟨(.load true 2), [.tmp 3], (some 17), none⟩,
 ⟨(.callF 122), [.tmp 17], (some 18), none⟩,
 ⟨.not, [.tmp 18], (some 19), none⟩,
 ⟨.move, [.tmp 19], (some 20), none⟩,
 ⟨.move, [.tmp 2], (some 21), some (20, false)⟩,
 ⟨(.bin .lss), [.tmp 21, .const (.int .i64 1)], (some 22), some (20, false)⟩,
 ⟨.pick, [.tmp 20, .const (.bool true), .tmp 22], (some 23), none⟩,
 ⟨.move, [.tmp 23], (some 24), none⟩,
 ⟨.move, [.tmp 2], (some 25), some (24, false)⟩,
 ⟨(.fieldAddr 1), [.tmp 3], (some 26), some (24, false)⟩,
 ⟨(.load false 1), [.tmp 26], (some 27), some (24, false)⟩,
 ⟨(.bin .add), [.tmp 27, .const (.int .i64 1)], (some 28), some (24, false)⟩,
 ⟨(.bin .gtr), [.tmp 25, .tmp 28], (some 29), some (24, false)⟩,
 ⟨.pick, [.tmp 24, .const (.bool true), .tmp 29], (some 30), none⟩])
 (.cond (.tmp 30) (.seq (.seqR [⟨.move, [.const (.int .i64 2)], (some 6), none⟩])
 .ret)
 .skip))
 (.seq (.seq (.seqR [⟨.move, [.tmp 7], (some 31), none⟩,
 ⟨(.bin .neq), [.tmp 31, .const (.int .i64 0)], (some 32), none⟩])
 (.cond (.tmp 32) (.seq (.seqR [⟨.move, [.tmp 7], (some 33), none⟩,
 ⟨.move, [.tmp 33], (some 6), none⟩])
 .ret)
 .skip))
 (.seq (.seqR [⟨.move, [.const (.int .u64 0)], (some 8), none⟩])
 (.seq (.seq (.seqR [⟨.move, [.tmp 2], (some 34), none⟩,
 ⟨(.fieldAddr 1), [.tmp 3], (some 35), none⟩,
 ⟨(.load false 1), [.tmp 35], (some 36), none⟩,
 ⟨(.bin .leq), [.tmp 34, .tmp 36], (some 37), none⟩])
 (.cond (.tmp 37) (.seqR [⟨.move, [.tmp 2], (some 38), none⟩,
 ⟨(.conv .u64), [.tmp 38], (some 39), none⟩,
 ⟨.move, [.tmp 39], (some 8), none⟩])
 .skip))
 (.seq (.seqR [⟨.move, [.tmp 1], (some 40), none⟩,
 ⟨(.fieldAddr 0), [.tmp 3], (some 41), none⟩,
 ⟨(.load false 1), [.tmp 41], (some 42), none⟩,
 ⟨.move, [.tmp 8], (some 43), none⟩,
 ⟨(.build [(.int .i64 0), (.int .i64 0), (.int .u64 0), (.int .u64 0)] [(0, 1), (1, 1), (2, 1)]), [.const (.int .i64 2), .tmp 42, .tmp 43], (some 44), none⟩,
 ⟨(.callF 66), [.tmp 40, .tmp 44], (some 45), none⟩])
 (.seq (.seq (.seqR [⟨.move, [.const (.int .i64 1)], (some 9), none⟩])
 (.block 0 (.loop (.seq (.seq (.seqR [⟨.move, [.tmp 9], (some 46), none⟩,
 ⟨(.fieldAddr 1), [.tmp 3], (some 47), none⟩,
 ⟨(.load false 1), [.tmp 47], (some 48), none⟩,
 ⟨(.bin .leq), [.tmp 46, .tmp 48], (some 49), none⟩])
 (.cond (.tmp 49) .skip
 (.exit 0)))
 (.seq (.block 1 (.seq (.seqR [⟨.move, [.const (.int .u64 0)], (some 10), none⟩])
 (.seq (.seq (.seqR [⟨.move, [.tmp 9], (some 52), none⟩,
 ⟨.move, [.tmp 2], (some 53), none⟩,
 ⟨(.bin .geq), [.tmp 52, .tmp 53], (some 54), none⟩,
 ⟨.move, [.tmp 54], (some 55), none⟩,
 ⟨.move, [.tmp 9], (some 56), some (55, true)⟩,
 ⟨(.fieldAddr 1), [.tmp 3], (some 57), some (55, true)⟩,
 ⟨(.load false 1), [.tmp 57], (some 58), some (55, true)⟩,
 ⟨(.bin .lss), [.tmp 56, .tmp 58], (some 59), some (55, true)⟩,
 ⟨.pick, [.tmp 55, .tmp 59, .const (.bool false)], (some 60), none⟩])
 (.cond (.tmp 60) (.seqR [⟨.move, [.tmp 9], (some 61), none⟩,
 ⟨(.conv .u64), [.tmp 61], (some 62), none⟩,
 ⟨(.bin .add), [.tmp 62, .const (.int .u64 1)], (some 63), none⟩,
 ⟨.move, [.tmp 63], (some 10), none⟩])
 .skip))
 (.seqR [⟨.move, [.tmp 1], (some 64), none⟩,
 ⟨(.fieldAddr 0), [.tmp 3], (some 65), none⟩,
 ⟨(.load false 1), [.tmp 65], (some 66), none⟩,
 ⟨.move, [.tmp 9], (some 67), none⟩,
 ⟨(.bin .add), [.tmp 66, .tmp 67], (some 68), none⟩,
 ⟨.move, [.tmp 10], (some 69), none⟩,
 ⟨(.build [(.int .i64 0), (.int .i64 0), (.int .u64 0), (.int .u64 0)] [(0, 1), (1, 1), (2, 1)]), [.const (.int .i64 2), .tmp 68, .tmp 69], (some 70), none⟩,
 ⟨(.callF 66), [.tmp 64, .tmp 70], (some 71), none⟩]))))
 (.seqR [⟨.move, [.tmp 9], (some 50), none⟩,
 ⟨(.bin .add), [.tmp 50, .const (.int .i64 1)], (some 51), none⟩,
 ⟨.move, [.tmp 51], (some 9), none⟩]))))))
 (.seq (.seqR [⟨.move, [.const (.int .i64 0)], (some 6), none⟩])
 .ret)))))))))), [.tmp 6]⟩
theorem c89_ok : compFunc Tryz.prog Tryz.f89 = some c89 := by kernel_rfl
theorem c89_body : hasBody Tryz.prog 89 = true := hasBody_of Tryz.func89 (by kernel_rfl)
/-- (*coachyard/pool.Pool).begun -/
def c90 : PFn := ⟨9, Tr.ofList (List.replicate 9 undefA), (.seq (.seqR [⟨.box, [.tmp 0], (some 3), none⟩,
 ⟨.box, [.tmp 1], (some 4), none⟩,
 ⟨.box, [.tmp 2], (some 5), none⟩,
 ⟨.move, [.const (.ptr none)], (some 6), none⟩])
 (.seq (.seqR [⟨(.mkFunc (.func 123) 0), [.tmp 3, .tmp 4, .tmp 5], (some 7), none⟩,
 ⟨(.callF 60), [.tmp 7], (some 8), none⟩,
 ⟨.move, [.tmp 8], (some 6), none⟩])
 .ret)), [.tmp 6]⟩
theorem c90_ok : compFunc Tryz.prog Tryz.f90 = some c90 := by kernel_rfl
theorem c90_body : hasBody Tryz.prog 90 = true := hasBody_of Tryz.func90 (by kernel_rfl)
/-- (*coachyard/pool.Pool).Submit$1 -/
def c91 : PFn := ⟨20, Tr.ofList (List.replicate 20 undefA), (.seq (.seqR [⟨.box, [.tmp 0], (some 4), none⟩])
 (.seq (.seqR [⟨(.load true 3), [.tmp 4], (some 6), none⟩,
 ⟨(.load false 1), [.tmp 1], (some 7), none⟩,
 ⟨(.build [(.ptr none), (.ptr none), (.int .i64 0), (.int .u64 0), (.slice none 0 0 false)] [(0, 3), (3, 1)]), [.tmp 6, .tmp 7], (some 8), none⟩,
 ⟨.box, [.tmp 8], (some 9), none⟩,
 ⟨.move, [.tmp 9], (some 5), none⟩])
 (.drawR [⟨⟨(.fieldAddr 1), [.tmp 4], (some 10), none⟩, false, false, 0, 2⟩,
 ⟨⟨(.load false 1), [.tmp 10], (some 11), none⟩, false, false, 0, 2⟩,
 ⟨⟨(.load false 1), [.tmp 2], (some 12), none⟩, false, false, 0, 0⟩,
 ⟨⟨(.load false 1), [.tmp 3], (some 13), none⟩, false, false, 0, 0⟩,
 ⟨⟨(.callF 72), [.tmp 12, .tmp 13], (some 14), none⟩, true, false, 0, 1⟩,
 ⟨⟨(.load false 1), [.tmp 1], (some 15), none⟩, false, false, 0, 1⟩,
 ⟨⟨(.callF 93), [.tmp 14, .tmp 15], (some 16), none⟩, true, false, 1, 2⟩,
 ⟨⟨.move, [.tmp 5], (some 17), none⟩, false, false, 0, 2⟩,
 ⟨⟨(.mkFunc (.func 94) 1), [.tmp 17], (some 18), none⟩, false, false, 0, 2⟩,
 ⟨⟨(.callF 92), [.tmp 11, .tmp 16, .tmp 18], (some 19), none⟩, true, false, 2, 3⟩]))), []⟩
theorem c91_ok : compFunc Tryz.prog Tryz.f91 = some c91 := by kernel_rfl
theorem c91_body : hasBody Tryz.prog 91 = true := hasBody_of Tryz.func91 (by kernel_rfl)
/-- (*coachyard/walk.Walk).Into -/
def c92 : PFn := ⟨19, Tr.ofList (List.replicate 19 undefA), (.seq (.seq (.seqR [⟨.move, [.tmp 0], (some 6), none⟩,
 ⟨(.callF 124), [.tmp 6], (some 7), none⟩,
 ⟨.not, [.tmp 7], (some 8), none⟩])
 (.cond (.tmp 8) .ret
 .skip))
 (.seq (.seqR [⟨.move, [.tmp 0], (some 9), none⟩,
 ⟨.move, [.tmp 0], (some 10), none⟩,
 ⟨.move, [.tmp 1], (some 11), none⟩,
 ⟨.move, [.tmp 2], (some 12), none⟩,
 ⟨.nilCheck, [.tmp 9], (some 13), none⟩,
 ⟨(.fieldAddr 6), [.tmp 13], (some 14), none⟩,
 ⟨(.store 1), [.tmp 14, .tmp 11], none, none⟩,
 ⟨.nilCheck, [.tmp 10], (some 15), none⟩,
 ⟨(.fieldAddr 7), [.tmp 15], (some 16), none⟩,
 ⟨(.store 1), [.tmp 16, .tmp 12], none, none⟩])
 (.seqR [⟨.move, [.tmp 0], (some 17), none⟩,
 ⟨(.callF 105), [.tmp 17], (some 18), none⟩]))), []⟩
theorem c92_ok : compFunc Tryz.prog Tryz.f92 = some c92 := by kernel_rfl
theorem c92_body : hasBody Tryz.prog 92 = true := hasBody_of Tryz.func92 (by kernel_rfl)
/-- (coachyard/local.Row).Push -/
def c93 : PFn := ⟨9, Tr.ofList (List.replicate 9 undefA), (.seq (.seqR [⟨.box, [.tmp 0], (some 2), none⟩,
 ⟨.move, [.const (.ptr none)], (some 4), none⟩])
 (.seq (.seqR [⟨(.load true 3), [.tmp 2], (some 5), none⟩,
 ⟨(.callF 112), [.tmp 5], (some 6), none⟩,
 ⟨.move, [.tmp 1], (some 7), none⟩,
 ⟨(.invoke [(145, 93), (215, 309), (216, 325), (218, 340)] []), [.tmp 6, .tmp 7], (some 8), none⟩,
 ⟨.move, [.tmp 8], (some 4), none⟩])
 .ret)), [.tmp 4]⟩
theorem c93_ok : compFunc Tryz.prog Tryz.f93 = some c93 := by kernel_rfl
theorem c93_body : hasBody Tryz.prog 93 = true := hasBody_of Tryz.func93 (by kernel_rfl)
/-- (*coachyard/pool.submit).pushed -/
def c94 : PFn := ⟨61, Tr.ofList (List.replicate 61 undefA), (.seq (.seqR [⟨.box, [.tmp 1], (some 3), none⟩])
 (.seq (.seq (.seqR [⟨(.fieldAddr 0), [.tmp 3], (some 4), none⟩,
 ⟨(.load false 1), [.tmp 4], (some 5), none⟩])
 (.block 0 (.seq (.seqR [⟨(.bin .eql), [.tmp 5, .const (.int .i64 0)], (some 15), none⟩,
 ⟨.move, [.tmp 15], (some 14), none⟩])
 (.cond (.tmp 14) (.seq (.drawR [⟨⟨.move, [.tmp 0], (some 16), none⟩, false, false, 0, 0⟩,
 ⟨⟨.nilCheck, [.tmp 16], (some 17), none⟩, false, false, 0, 0⟩,
 ⟨⟨(.fieldAddr 0), [.tmp 17], (some 18), none⟩, false, false, 0, 0⟩,
 ⟨⟨(.load true 3), [.tmp 18], (some 19), none⟩, false, false, 0, 0⟩,
 ⟨⟨.move, [.tmp 0], (some 20), none⟩, false, false, 0, 0⟩,
 ⟨⟨.nilCheck, [.tmp 20], (some 21), none⟩, false, false, 0, 0⟩,
 ⟨⟨(.fieldAddr 0), [.tmp 21], (some 22), none⟩, false, false, 0, 0⟩,
 ⟨⟨(.load true 3), [.tmp 22], (some 23), none⟩, false, false, 0, 0⟩,
 ⟨⟨(.mkFunc (.func 126) 1), [.tmp 23], (some 24), none⟩, false, false, 0, 0⟩,
 ⟨⟨(.callF 125), [.tmp 19, .tmp 24], (some 25), none⟩, true, false, 0, 1⟩])
 .ret)
 (.seq (.seq (.seqR [⟨(.bin .eql), [.tmp 5, .const (.int .i64 4)], (some 27), none⟩,
 ⟨.move, [.tmp 27], (some 26), none⟩])
 (.cond (.tmp 26) .skip
 (.seqR [⟨(.bin .eql), [.tmp 5, .const (.int .i64 8)], (some 28), none⟩,
 ⟨.move, [.tmp 28], (some 26), none⟩])))
 (.cond (.tmp 26) .skip
 (.seq (.drawR [⟨⟨.move, [.tmp 0], (some 6), none⟩, false, false, 0, 0⟩,
 ⟨⟨.nilCheck, [.tmp 6], (some 7), none⟩, false, false, 0, 0⟩,
 ⟨⟨(.fieldAddr 0), [.tmp 7], (some 8), none⟩, false, false, 0, 0⟩,
 ⟨⟨(.fieldAddr 1), [.tmp 8], (some 9), none⟩, false, false, 0, 0⟩,
 ⟨⟨(.load false 1), [.tmp 9], (some 10), none⟩, false, false, 0, 0⟩,
 ⟨⟨(.fieldAddr 0), [.tmp 3], (some 11), none⟩, false, false, 0, 0⟩,
 ⟨⟨(.load false 1), [.tmp 11], (some 12), none⟩, false, false, 0, 0⟩,
 ⟨⟨(.callF 62), [.tmp 10, .tmp 12], (some 13), none⟩, true, false, 0, 1⟩])
 .ret)))))))
 (.seq (.seqR [⟨.move, [.tmp 0], (some 29), none⟩,
 ⟨(.fieldAddr 2), [.tmp 3], (some 30), none⟩,
 ⟨(.load false 1), [.tmp 30], (some 31), none⟩,
 ⟨.nilCheck, [.tmp 29], (some 32), none⟩,
 ⟨(.fieldAddr 4), [.tmp 32], (some 33), none⟩,
 ⟨(.store 1), [.tmp 33, .tmp 31], none, none⟩])
 .fail))), []⟩
theorem c94_ok : compFunc Tryz.prog Tryz.f94 = some c94 := by kernel_rfl
theorem c94_body : hasBody Tryz.prog 94 = true := hasBody_of Tryz.func94 (by kernel_rfl)
/-- (*coachyard/pool.Pool).Next$1 -/
def c95 : PFn := ⟨21, Tr.ofList (List.replicate 21 undefA), (.seq (.seqR [⟨.box, [.tmp 0], (some 4), none⟩])
 (.seq (.drawR [⟨⟨(.load true 3), [.tmp 4], (some 6), none⟩, false, false, 0, 1⟩,
 ⟨⟨(.load true 3), [.tmp 4], (some 7), none⟩, false, false, 0, 0⟩,
 ⟨⟨(.load false 1), [.tmp 1], (some 8), none⟩, false, false, 0, 0⟩,
 ⟨⟨(.callF 96), [.tmp 7, .tmp 8], (some 9), none⟩, true, false, 0, 1⟩,
 ⟨⟨(.build [(.ptr none), (.ptr none), (.int .i64 0), (.slice none 0 0 false), (.bool false), (.int .i64 0), (.int .u64 0), (.slice none 0 0 false)] [(0, 3), (3, 1)]), [.tmp 6, .tmp 9], (some 10), none⟩, false, false, 1, 1⟩,
 ⟨⟨.box, [.tmp 10], (some 11), none⟩, true, false, 1, 2⟩,
 ⟨⟨.move, [.tmp 11], (some 5), none⟩, false, false, 2, 2⟩])
 (.drawR [⟨⟨(.fieldAddr 1), [.tmp 4], (some 12), none⟩, false, false, 0, 2⟩,
 ⟨⟨(.load false 1), [.tmp 12], (some 13), none⟩, false, false, 0, 2⟩,
 ⟨⟨(.load false 1), [.tmp 2], (some 14), none⟩, false, false, 0, 0⟩,
 ⟨⟨(.load false 1), [.tmp 3], (some 15), none⟩, false, false, 0, 0⟩,
 ⟨⟨(.callF 72), [.tmp 14, .tmp 15], (some 16), none⟩, true, false, 0, 1⟩,
 ⟨⟨(.callF 97), [.tmp 16], (some 17), none⟩, true, false, 1, 2⟩,
 ⟨⟨.move, [.tmp 5], (some 18), none⟩, false, false, 0, 2⟩,
 ⟨⟨(.mkFunc (.func 98) 1), [.tmp 18], (some 19), none⟩, false, false, 0, 2⟩,
 ⟨⟨(.callF 92), [.tmp 13, .tmp 17, .tmp 19], (some 20), none⟩, true, false, 2, 3⟩]))), []⟩
theorem c95_ok : compFunc Tryz.prog Tryz.f95 = some c95 := by kernel_rfl
theorem c95_body : hasBody Tryz.prog 95 = true := hasBody_of Tryz.func95 (by kernel_rfl)
end Go.Proofs.YtefcnhmbpkdlmabGreatDoor
