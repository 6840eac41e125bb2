/- The code of the small machine for some of the program's functions: printed by program; each is what the rules make of the program's own. -/
import Derived.Test.YtefcnhmbpkdlmabGreatDoorVx16
import Derived.Test.YtefcnhmbpkdlmabGreatDoorProg
import Derived.KernelRfl
namespace Go.Proofs.YtefcnhmbpkdlmabGreatDoor
open Go Go.Vx Go.Proofs
/-- (coachyard/pool.call).order -/
def c96 : PFn := ⟨54, Tr.ofList (List.replicate 54 undefA), (.seq (.seqR [⟨.box, [.tmp 0], (some 2), none⟩,
 ⟨.move, [.const (.slice none 0 0 false)], (some 4), none⟩])
 (.seq (.seqR [⟨.move, [.const (.slice none 0 0 false)], (some 5), none⟩])
 (.seq (.seq (.seqR [⟨.move, [.tmp 1], (some 9), none⟩,
 ⟨.move, [.tmp 1], (some 10), none⟩,
 ⟨.lenS, [.tmp 10], (some 11), none⟩,
 ⟨(.minmax false), [.tmp 11, .const (.int .i64 64)], (some 12), none⟩,
 ⟨(.slice 1 false true false), [.tmp 9, .tmp 12], (some 13), none⟩,
 ⟨.lenS, [.tmp 13], (some 14), none⟩,
 ⟨.move, [.const (.int .i64 0)], (some 15), none⟩])
 (.block 0 (.loop (.seq (.seqR [⟨(.bin .lss), [.tmp 15, .tmp 14], (some 16), none⟩])
 (.seq (.cond (.tmp 16) .skip
 (.exit 0))
 (.seq (.block 1 (.seq (.seqR [⟨(.indexAddrS 1), [.tmp 13, .tmp 15], (some 17), none⟩,
 ⟨(.load false 1), [.tmp 17], (some 18), none⟩,
 ⟨.move, [.tmp 18], (some 7), none⟩])
 (.seq (.seqR [⟨(.fieldAddr 0), [.tmp 2], (some 19), none⟩,
 ⟨(.load false 1), [.tmp 19], (some 20), none⟩,
 ⟨.move, [.tmp 7], (some 21), none⟩,
 ⟨(.callF 110), [.tmp 20, .tmp 21], (some 22), none⟩,
 ⟨.move, [.tmp 22], (some 23), none⟩,
 ⟨.move, [.tmp 7], (some 24), some (23, true)⟩,
 ⟨(.fieldAddr 2), [.tmp 2], (some 25), some (23, true)⟩,
 ⟨(.load false 1), [.tmp 25], (some 26), some (23, true)⟩,
 ⟨(.bin .neq), [.tmp 24, .tmp 26], (some 27), some (23, true)⟩,
 ⟨.pick, [.tmp 23, .tmp 27, .const (.bool false)], (some 28), none⟩])
 (.cond (.tmp 28) (.seqR [⟨.move, [.tmp 5], (some 29), none⟩,
 ⟨.move, [.tmp 7], (some 30), none⟩,
 ⟨(.sliceLit 1 [(.int .i64 0)] [(0, 1)]), [.tmp 30], (some 31), none⟩,
 ⟨(.append 1 8), [.tmp 29, .tmp 31], (some 32), none⟩,
 ⟨.move, [.tmp 32], (some 5), none⟩])
 .skip))))
 (.seqR [⟨(.bin .add), [.tmp 15, .const (.int .i64 1)], (some 33), none⟩,
 ⟨.move, [.tmp 33], (some 15), none⟩])))))))
 (.seq (.seq (.seqR [⟨(.fieldAddr 0), [.tmp 2], (some 34), none⟩,
 ⟨(.load false 1), [.tmp 34], (some 35), none⟩,
 ⟨.nilCheck, [.tmp 35], (some 36), none⟩,
 ⟨(.fieldAddr 0), [.tmp 36], (some 37), none⟩,
 ⟨(.load true 4), [.tmp 37], (some 38), none⟩,
 ⟨(.callF 71), [.tmp 38], (some 39), none⟩,
 ⟨(.field 0 1 false), [.tmp 39], (some 40), none⟩,
 ⟨.move, [.const (.int .i64 0)], (some 41), none⟩])
 (.block 2 (.loop (.seq (.seqR [⟨(.bin .lss), [.tmp 41, .tmp 40], (some 42), none⟩])
 (.seq (.cond (.tmp 42) .skip
 (.exit 2))
 (.seq (.block 3 (.seq (.seqR [⟨.move, [.tmp 41], (some 43), none⟩,
 ⟨.move, [.tmp 43], (some 8), none⟩])
 (.seq (.seqR [⟨.move, [.tmp 8], (some 44), none⟩,
 ⟨(.fieldAddr 2), [.tmp 2], (some 45), none⟩,
 ⟨(.load false 1), [.tmp 45], (some 46), none⟩,
 ⟨(.bin .neq), [.tmp 44, .tmp 46], (some 47), none⟩])
 (.cond (.tmp 47) (.seqR [⟨.move, [.tmp 5], (some 48), none⟩,
 ⟨.move, [.tmp 8], (some 49), none⟩,
 ⟨(.sliceLit 1 [(.int .i64 0)] [(0, 1)]), [.tmp 49], (some 50), none⟩,
 ⟨(.append 1 8), [.tmp 48, .tmp 50], (some 51), none⟩,
 ⟨.move, [.tmp 51], (some 5), none⟩])
 .skip))))
 (.seqR [⟨(.bin .add), [.tmp 41, .const (.int .i64 1)], (some 52), none⟩,
 ⟨.move, [.tmp 52], (some 41), none⟩])))))))
 (.seq (.seqR [⟨.move, [.tmp 5], (some 53), none⟩,
 ⟨.move, [.tmp 53], (some 4), none⟩])
 .ret))))), [.tmp 4]⟩
theorem c96_ok : compFunc Tryz.prog Tryz.f96 = some c96 := by kernel_rfl
theorem c96_body : hasBody Tryz.prog 96 = true := hasBody_of Tryz.func96 (by kernel_rfl)
/-- (coachyard/local.Row).Pop -/
def c97 : PFn := ⟨6, Tr.ofList (List.replicate 6 undefA), (.seq (.seqR [⟨.box, [.tmp 0], (some 1), none⟩,
 ⟨.move, [.const (.ptr none)], (some 2), none⟩])
 (.seq (.seqR [⟨(.load true 3), [.tmp 1], (some 3), none⟩,
 ⟨(.callF 112), [.tmp 3], (some 4), none⟩,
 ⟨(.invoke [(145, 97), (215, 308), (216, 324), (218, 339)] []), [.tmp 4], (some 5), none⟩,
 ⟨.move, [.tmp 5], (some 2), none⟩])
 .ret)), [.tmp 2]⟩
theorem c97_ok : compFunc Tryz.prog Tryz.f97 = some c97 := by kernel_rfl
theorem c97_body : hasBody Tryz.prog 97 = true := hasBody_of Tryz.func97 (by kernel_rfl)
/-- (*coachyard/pool.next).popped -/
def c98 : PFn := ⟨19, Tr.ofList (List.replicate 19 undefA), (.seq (.seqR [⟨.box, [.tmp 1], (some 3), none⟩])
 (.drawR [⟨⟨.move, [.tmp 0], (some 4), none⟩, false, false, 0, 2⟩,
 ⟨⟨(.load true 3), [.tmp 3], (some 5), none⟩, false, false, 0, 2⟩,
 ⟨⟨.move, [.tmp 0], (some 6), none⟩, false, false, 0, 0⟩,
 ⟨⟨.nilCheck, [.tmp 6], (some 7), none⟩, false, false, 0, 0⟩,
 ⟨⟨(.fieldAddr 0), [.tmp 7], (some 8), none⟩, false, false, 0, 0⟩,
 ⟨⟨(.fieldAddr 0), [.tmp 8], (some 9), none⟩, false, false, 0, 0⟩,
 ⟨⟨(.load false 1), [.tmp 9], (some 10), none⟩, false, false, 0, 0⟩,
 ⟨⟨.nilCheck, [.tmp 10], (some 11), none⟩, false, false, 0, 0⟩,
 ⟨⟨(.fieldAddr 0), [.tmp 11], (some 12), none⟩, false, false, 0, 0⟩,
 ⟨⟨(.load true 4), [.tmp 12], (some 13), none⟩, false, false, 0, 0⟩,
 ⟨⟨(.callF 53), [.tmp 13], (some 14), none⟩, true, false, 0, 1⟩,
 ⟨⟨(.callF 130), [.tmp 14], (some 15), none⟩, true, false, 1, 2⟩,
 ⟨⟨.move, [.tmp 0], (some 16), none⟩, false, false, 0, 2⟩,
 ⟨⟨(.mkFunc (.func 131) 1), [.tmp 16], (some 17), none⟩, false, false, 0, 2⟩,
 ⟨⟨(.callF 129), [.tmp 4, .tmp 5, .tmp 15, .tmp 17], (some 18), none⟩, true, false, 2, 3⟩])), []⟩
theorem c98_ok : compFunc Tryz.prog Tryz.f98 = some c98 := by kernel_rfl
theorem c98_body : hasBody Tryz.prog 98 = true := hasBody_of Tryz.func98 (by kernel_rfl)
/-- (*coachyard/walk.Walk).End -/
def c99 : PFn := ⟨29, Tr.ofList (List.replicate 29 undefA), (.seq (.seqR [⟨.box, [.tmp 1], (some 3), none⟩])
 (.seq (.seqR [⟨.move, [.tmp 0], (some 4), none⟩,
 ⟨(.callF 124), [.tmp 4], (some 5), none⟩])
 (.cond (.tmp 5) (.seq (.seqR [⟨(.fieldAddr 2), [.tmp 3], (some 6), none⟩,
 ⟨(.load false 1), [.tmp 6], (some 7), none⟩,
 ⟨(.callF 68), [.tmp 7], (some 8), none⟩,
 ⟨(.fieldAddr 2), [.tmp 3], (some 9), none⟩,
 ⟨(.store 1), [.tmp 9, .tmp 8], none, none⟩])
 (.seq (.drawR [⟨⟨.move, [.tmp 0], (some 10), none⟩, false, false, 0, 0⟩,
 ⟨⟨.move, [.tmp 0], (some 11), none⟩, false, false, 0, 1⟩,
 ⟨⟨(.load true 3), [.tmp 3], (some 12), none⟩, false, false, 0, 1⟩,
 ⟨⟨.nilCheck, [.tmp 10], (some 13), none⟩, false, false, 0, 0⟩,
 ⟨⟨(.fieldAddr 8), [.tmp 13], (some 14), none⟩, false, false, 0, 0⟩,
 ⟨⟨(.store 1), [.tmp 14, .const (.bool true)], none, none⟩, true, false, 0, 1⟩,
 ⟨⟨.nilCheck, [.tmp 11], (some 15), none⟩, false, false, 1, 1⟩,
 ⟨⟨(.fieldAddr 9), [.tmp 15], (some 16), none⟩, false, false, 1, 1⟩,
 ⟨⟨(.store 3), [.tmp 16, .tmp 12], none, none⟩, true, false, 1, 2⟩])
 (.seqR [⟨.move, [.tmp 0], (some 17), none⟩,
 ⟨.move, [.tmp 0], (some 18), none⟩,
 ⟨.move, [.tmp 0], (some 19), none⟩,
 ⟨.move, [.tmp 0], (some 20), none⟩,
 ⟨.nilCheck, [.tmp 17], (some 21), none⟩,
 ⟨(.fieldAddr 5), [.tmp 21], (some 22), none⟩,
 ⟨(.store 1), [.tmp 22, .const (.bool false)], none, none⟩,
 ⟨.nilCheck, [.tmp 18], (some 23), none⟩,
 ⟨(.fieldAddr 4), [.tmp 23], (some 24), none⟩,
 ⟨(.store 1), [.tmp 24, .const .nilFunc], none, none⟩,
 ⟨.nilCheck, [.tmp 19], (some 25), none⟩,
 ⟨(.fieldAddr 6), [.tmp 25], (some 26), none⟩,
 ⟨(.store 1), [.tmp 26, .const (.ptr none)], none, none⟩,
 ⟨.nilCheck, [.tmp 20], (some 27), none⟩,
 ⟨(.fieldAddr 7), [.tmp 27], (some 28), none⟩,
 ⟨(.store 1), [.tmp 28, .const .nilFunc], none, none⟩])))
 .skip))), []⟩
theorem c99_ok : compFunc Tryz.prog Tryz.f99 = some c99 := by kernel_rfl
theorem c99_body : hasBody Tryz.prog 99 = true := hasBody_of Tryz.func99 (by kernel_rfl)
/-- (*coachyard/pool.Pool).Park$1 -/
def c100 : PFn := ⟨20, Tr.ofList (List.replicate 20 undefA), (.seq (.seqR [⟨.box, [.tmp 0], (some 3), none⟩])
 (.seq (.seqR [⟨(.load true 3), [.tmp 3], (some 5), none⟩,
 ⟨(.build [(.ptr none), (.ptr none), (.int .i64 0), (.int .u32 0), (.int .i64 0), (.int .u64 0), (.bool false)] [(0, 3)]), [.tmp 5], (some 6), none⟩,
 ⟨.box, [.tmp 6], (some 7), none⟩,
 ⟨.move, [.tmp 7], (some 4), none⟩])
 (.drawR [⟨⟨(.fieldAddr 1), [.tmp 3], (some 8), none⟩, false, false, 0, 2⟩,
 ⟨⟨(.load false 1), [.tmp 8], (some 9), none⟩, false, false, 0, 2⟩,
 ⟨⟨(.load false 1), [.tmp 1], (some 10), none⟩, false, false, 0, 0⟩,
 ⟨⟨.nilCheck, [.tmp 10], (some 11), none⟩, false, false, 0, 0⟩,
 ⟨⟨(.fieldAddr 0), [.tmp 11], (some 12), none⟩, false, false, 0, 0⟩,
 ⟨⟨(.load true 4), [.tmp 12], (some 13), none⟩, false, false, 0, 0⟩,
 ⟨⟨(.load false 1), [.tmp 2], (some 14), none⟩, false, false, 0, 0⟩,
 ⟨⟨(.callF 101), [.tmp 13, .tmp 14], (some 15), none⟩, true, false, 0, 1⟩,
 ⟨⟨(.callF 102), [.tmp 15], (some 16), none⟩, true, false, 1, 2⟩,
 ⟨⟨.move, [.tmp 4], (some 17), none⟩, false, false, 0, 2⟩,
 ⟨⟨(.mkFunc (.func 103) 1), [.tmp 17], (some 18), none⟩, false, false, 0, 2⟩,
 ⟨⟨(.callF 92), [.tmp 9, .tmp 16, .tmp 18], (some 19), none⟩, true, false, 2, 3⟩]))), []⟩
theorem c100_ok : compFunc Tryz.prog Tryz.f100 = some c100 := by kernel_rfl
theorem c100_body : hasBody Tryz.prog 100 = true := hasBody_of Tryz.func100 (by kernel_rfl)
/-- (coachyard/plan.Plan).Spot -/
def c101 : PFn := ⟨13, Tr.ofList (List.replicate 13 undefA), (.seq (.seqR [⟨.box, [.tmp 0], (some 2), none⟩,
 ⟨(.new [(.int .i64 0)]), [], (some 4), none⟩])
 (.seq (.seq (.seqR [⟨(.load true 4), [.tmp 2], (some 5), none⟩,
 ⟨.move, [.tmp 1], (some 6), none⟩,
 ⟨(.callF 132), [.tmp 5, .tmp 6], (some 7), none⟩,
 ⟨.not, [.tmp 7], (some 8), none⟩])
 (.cond (.tmp 8) (.seq (.seqR [⟨(.build [(.int .i64 0)] [(0, 1)]), [.const (.int .i64 (-1))], (some 9), none⟩,
 ⟨(.store 1), [.tmp 4, .tmp 9], none, none⟩])
 .ret)
 .skip))
 (.seq (.seqR [⟨.move, [.tmp 1], (some 10), none⟩,
 ⟨(.bin .add), [.const (.int .i64 1), .tmp 10], (some 11), none⟩,
 ⟨(.build [(.int .i64 0)] [(0, 1)]), [.tmp 11], (some 12), none⟩,
 ⟨(.store 1), [.tmp 4, .tmp 12], none, none⟩])
 .ret))), [.cell 4 true 1]⟩
theorem c101_ok : compFunc Tryz.prog Tryz.f101 = some c101 := by kernel_rfl
theorem c101_body : hasBody Tryz.prog 101 = true := hasBody_of Tryz.func101 (by kernel_rfl)
/-- (coachyard/park.Spot).Prepare -/
def c102 : PFn := ⟨5, Tr.ofList (List.replicate 5 undefA), (.seq (.seqR [⟨.box, [.tmp 0], (some 1), none⟩,
 ⟨.move, [.const (.ptr none)], (some 2), none⟩])
 (.seq (.seqR [⟨(.load true 1), [.tmp 1], (some 3), none⟩,
 ⟨(.callF 133), [.tmp 3, .const (.int .i64 5), .const (.int .u64 1), .const (.func (.func 134) [] [])], (some 4), none⟩,
 ⟨.move, [.tmp 4], (some 2), none⟩])
 .ret)), [.tmp 2]⟩
theorem c102_ok : compFunc Tryz.prog Tryz.f102 = some c102 := by kernel_rfl
theorem c102_body : hasBody Tryz.prog 102 = true := hasBody_of Tryz.func102 (by kernel_rfl)
/-- (*coachyard/pool.parker).prepared -/
def c103 : PFn := ⟨32, Tr.ofList (List.replicate 32 undefA), (.seq (.seqR [⟨.box, [.tmp 0], (some 2), none⟩,
 ⟨.box, [.tmp 1], (some 3), none⟩])
 (.seq (.seqR [⟨(.load false 1), [.tmp 2], (some 4), none⟩,
 ⟨(.fieldAddr 1), [.tmp 3], (some 5), none⟩,
 ⟨(.load false 1), [.tmp 5], (some 6), none⟩,
 ⟨(.conv .u32), [.tmp 6], (some 7), none⟩,
 ⟨.nilCheck, [.tmp 4], (some 8), none⟩,
 ⟨(.fieldAddr 3), [.tmp 8], (some 9), none⟩,
 ⟨(.store 1), [.tmp 9, .tmp 7], none, none⟩])
 (.drawR [⟨⟨(.load false 1), [.tmp 2], (some 10), none⟩, false, false, 0, 2⟩,
 ⟨⟨.nilCheck, [.tmp 10], (some 11), none⟩, false, false, 0, 2⟩,
 ⟨⟨(.fieldAddr 0), [.tmp 11], (some 12), none⟩, false, false, 0, 2⟩,
 ⟨⟨(.fieldAddr 1), [.tmp 12], (some 13), none⟩, false, false, 0, 2⟩,
 ⟨⟨(.load false 1), [.tmp 13], (some 14), none⟩, false, false, 0, 2⟩,
 ⟨⟨(.load false 1), [.tmp 2], (some 15), none⟩, false, false, 0, 0⟩,
 ⟨⟨.nilCheck, [.tmp 15], (some 16), none⟩, false, false, 0, 0⟩,
 ⟨⟨(.fieldAddr 0), [.tmp 16], (some 17), none⟩, false, false, 0, 0⟩,
 ⟨⟨(.fieldAddr 0), [.tmp 17], (some 18), none⟩, false, false, 0, 0⟩,
 ⟨⟨(.load false 1), [.tmp 18], (some 19), none⟩, false, false, 0, 0⟩,
 ⟨⟨.nilCheck, [.tmp 19], (some 20), none⟩, false, false, 0, 0⟩,
 ⟨⟨(.fieldAddr 0), [.tmp 20], (some 21), none⟩, false, false, 0, 0⟩,
 ⟨⟨(.load true 4), [.tmp 21], (some 22), none⟩, false, false, 0, 0⟩,
 ⟨⟨(.callF 135), [.tmp 22], (some 23), none⟩, true, false, 0, 1⟩,
 ⟨⟨(.load false 1), [.tmp 2], (some 24), none⟩, false, false, 0, 1⟩,
 ⟨⟨.nilCheck, [.tmp 24], (some 25), none⟩, false, false, 0, 1⟩,
 ⟨⟨(.fieldAddr 0), [.tmp 25], (some 26), none⟩, false, false, 0, 1⟩,
 ⟨⟨(.fieldAddr 2), [.tmp 26], (some 27), none⟩, false, false, 0, 1⟩,
 ⟨⟨(.load false 1), [.tmp 27], (some 28), none⟩, false, false, 0, 1⟩,
 ⟨⟨(.callF 136), [.tmp 23, .tmp 28], (some 29), none⟩, true, false, 1, 2⟩,
 ⟨⟨(.mkFunc (.func 137) 0), [.tmp 2], (some 30), none⟩, false, false, 0, 2⟩,
 ⟨⟨(.callF 92), [.tmp 14, .tmp 29, .tmp 30], (some 31), none⟩, true, false, 2, 3⟩]))), []⟩
theorem c103_ok : compFunc Tryz.prog Tryz.f103 = some c103 := by kernel_rfl
theorem c103_body : hasBody Tryz.prog 103 = true := hasBody_of Tryz.func103 (by kernel_rfl)
/-- coachyard/cells.of -/
def c104 : PFn := ⟨14, Tr.ofList (List.replicate 14 undefA), (.seq (.seqR [⟨.move, [.const .nilFunc], (some 2), none⟩])
 (.seq (.seqR [⟨(.build [.nilFunc, .nilFunc, .nilFunc, .nilFunc, .nilFunc, .nilFunc, .nilFunc, .nilFunc] [(0, 1), (1, 1), (2, 1), (3, 1), (4, 1), (5, 1), (6, 1), (7, 1)]), [.const .nilFunc, .const (.func (.func 139) [] []), .const (.func (.func 140) [] []), .const (.func (.func 141) [] []), .const (.func (.func 142) [] []), .const (.func (.func 143) [] []), .const (.func (.func 144) [] []), .const (.func (.func 145) [] [])], (some 4), none⟩,
 ⟨(.new [.nilFunc, .nilFunc, .nilFunc, .nilFunc, .nilFunc, .nilFunc, .nilFunc, .nilFunc]), [], (some 3), none⟩,
 ⟨(.store 8), [.tmp 3, .tmp 4], none, none⟩])
 (.seq (.seq (.seqR [⟨.move, [.tmp 0], (some 5), none⟩,
 ⟨(.bin .lss), [.tmp 5, .const (.int .i64 0)], (some 6), none⟩,
 ⟨.move, [.tmp 6], (some 7), none⟩,
 ⟨.move, [.tmp 0], (some 8), some (7, false)⟩,
 ⟨(.bin .geq), [.tmp 8, .const (.int .i64 8)], (some 9), some (7, false)⟩,
 ⟨.pick, [.tmp 7, .const (.bool true), .tmp 9], (some 10), none⟩])
 (.cond (.tmp 10) (.seq (.seqR [⟨.move, [.const .nilFunc], (some 2), none⟩])
 .ret)
 .skip))
 (.seq (.seqR [⟨.move, [.tmp 0], (some 11), none⟩,
 ⟨(.indexAddrA 8 1), [.tmp 3, .tmp 11], (some 12), none⟩,
 ⟨(.load false 1), [.tmp 12], (some 13), none⟩,
 ⟨.move, [.tmp 13], (some 2), none⟩])
 .ret)))), [.tmp 2]⟩
theorem c104_ok : compFunc Tryz.prog Tryz.f104 = some c104 := by kernel_rfl
theorem c104_body : hasBody Tryz.prog 104 = true := hasBody_of Tryz.func104 (by kernel_rfl)
/-- (*coachyard/walk.Walk).leave -/
def c105 : PFn := ⟨41, Tr.ofList (List.replicate 41 undefA), (.seq (.seqR [⟨(.build [(.int .i64 0), (.int .u64 0), (.slice none 0 0 false)] [(0, 1)]), [.const (.int .i64 1)], (some 4), none⟩,
 ⟨(.new [(.int .i64 0), (.int .u64 0), (.slice none 0 0 false)]), [], (some 2), none⟩,
 ⟨(.store 3), [.tmp 2, .tmp 4], none, none⟩])
 (.seq (.seq (.seqR [⟨.move, [.tmp 0], (some 5), none⟩,
 ⟨.nilCheck, [.tmp 5], (some 6), none⟩,
 ⟨(.fieldAddr 6), [.tmp 6], (some 7), none⟩,
 ⟨(.load false 1), [.tmp 7], (some 8), none⟩,
 ⟨(.eqPtr true), [.tmp 8, .const (.ptr none)], (some 9), none⟩])
 (.cond (.tmp 9) (.seq (.seq (.seqR [⟨.move, [.tmp 0], (some 10), none⟩,
 ⟨.nilCheck, [.tmp 10], (some 11), none⟩,
 ⟨(.fieldAddr 6), [.tmp 11], (some 12), none⟩,
 ⟨(.load false 1), [.tmp 12], (some 13), none⟩,
 ⟨.nilCheck, [.tmp 13], (some 14), none⟩,
 ⟨(.fieldAddr 8), [.tmp 14], (some 15), none⟩,
 ⟨(.load false 1), [.tmp 15], (some 16), none⟩,
 ⟨.not, [.tmp 16], (some 17), none⟩])
 (.cond (.tmp 17) .ret
 .skip))
 (.seqR [⟨.move, [.tmp 0], (some 19), none⟩,
 ⟨.nilCheck, [.tmp 19], (some 20), none⟩,
 ⟨(.fieldAddr 6), [.tmp 20], (some 21), none⟩,
 ⟨(.load false 1), [.tmp 21], (some 22), none⟩,
 ⟨(.callF 44), [.tmp 22], (some 23), none⟩,
 ⟨.move, [.tmp 23], (some 18), none⟩,
 ⟨(.extract 0), [.tmp 18], (some 24), none⟩,
 ⟨(.extract 1), [.tmp 18], (some 25), none⟩,
 ⟨(.store 3), [.tmp 2, .tmp 24], none, none⟩]))
 .skip))
 (.seq (.seqR [⟨.move, [.tmp 0], (some 26), none⟩,
 ⟨.nilCheck, [.tmp 26], (some 27), none⟩,
 ⟨(.fieldAddr 7), [.tmp 27], (some 28), none⟩,
 ⟨(.load false 1), [.tmp 28], (some 29), none⟩,
 ⟨.move, [.tmp 29], (some 3), none⟩])
 (.seq (.seqR [⟨.move, [.tmp 0], (some 30), none⟩,
 ⟨.move, [.tmp 0], (some 31), none⟩,
 ⟨.nilCheck, [.tmp 30], (some 32), none⟩,
 ⟨(.fieldAddr 6), [.tmp 32], (some 33), none⟩,
 ⟨(.store 1), [.tmp 33, .const (.ptr none)], none, none⟩,
 ⟨.nilCheck, [.tmp 31], (some 34), none⟩,
 ⟨(.fieldAddr 7), [.tmp 34], (some 35), none⟩,
 ⟨(.store 1), [.tmp 35, .const .nilFunc], none, none⟩])
 (.seq (.seqR [⟨.move, [.tmp 3], (some 36), none⟩,
 ⟨(.eqNil 2 true), [.tmp 36, .const .nilFunc], (some 37), none⟩])
 (.cond (.tmp 37) (.seqR [⟨.move, [.tmp 3], (some 38), none⟩,
 ⟨(.load true 3), [.tmp 2], (some 39), none⟩,
 ⟨.callV, [.tmp 38, .tmp 39], (some 40), none⟩])
 .skip)))))), []⟩
theorem c105_ok : compFunc Tryz.prog Tryz.f105 = some c105 := by kernel_rfl
theorem c105_body : hasBody Tryz.prog 105 = true := hasBody_of Tryz.func105 (by kernel_rfl)
/-- (*coachyard/cells.Mem).All -/
def c106 : PFn := ⟨10, Tr.ofList (List.replicate 10 undefA), (.seq (.seqR [⟨.move, [.const (.slice none 0 0 false)], (some 2), none⟩])
 (.seq (.seq (.seqR [⟨.move, [.tmp 0], (some 3), none⟩,
 ⟨(.eqPtr false), [.tmp 3, .const (.ptr none)], (some 4), none⟩])
 (.cond (.tmp 4) (.seq (.seqR [⟨.move, [.const (.slice none 0 0 false)], (some 2), none⟩])
 .ret)
 .skip))
 (.seq (.seqR [⟨.move, [.tmp 0], (some 5), none⟩,
 ⟨.nilCheck, [.tmp 5], (some 6), none⟩,
 ⟨(.fieldAddr 0), [.tmp 6], (some 7), none⟩,
 ⟨(.load false 1), [.tmp 7], (some 8), none⟩,
 ⟨(.callF 68), [.tmp 8], (some 9), none⟩,
 ⟨.move, [.tmp 9], (some 2), none⟩])
 .ret))), [.tmp 2]⟩
theorem c106_ok : compFunc Tryz.prog Tryz.f106 = some c106 := by kernel_rfl
theorem c106_body : hasBody Tryz.prog 106 = true := hasBody_of Tryz.func106 (by kernel_rfl)
/-- (coachyard/queue.Line).node -/
def c107 : PFn := ⟨23, Tr.ofList (List.replicate 23 undefA), (.seq (.seqR [⟨.box, [.tmp 0], (some 2), none⟩,
 ⟨.move, [.const (.int .u32 0)], (some 4), none⟩,
 ⟨.move, [.const (.bool false)], (some 5), none⟩])
 (.seq (.seqR [⟨.move, [.tmp 1], (some 9), none⟩,
 ⟨(.callF 146), [.tmp 9], (some 10), none⟩,
 ⟨.move, [.tmp 10], (some 8), none⟩,
 ⟨(.extract 0), [.tmp 8], (some 11), none⟩,
 ⟨(.extract 1), [.tmp 8], (some 12), none⟩,
 ⟨.move, [.tmp 11], (some 6), none⟩,
 ⟨.move, [.tmp 12], (some 7), none⟩])
 (.seq (.drawR [⟨⟨.move, [.tmp 7], (some 13), none⟩, false, false, 0, 0⟩,
 ⟨⟨.move, [.tmp 7], (some 14), none⟩, false, false, 0, 0⟩,
 ⟨⟨(.bin .geq), [.tmp 14, .const (.int .u32 1)], (some 15), none⟩, false, false, 0, 0⟩,
 ⟨⟨.move, [.tmp 15], (some 16), none⟩, false, false, 0, 0⟩,
 ⟨⟨.move, [.tmp 7], (some 17), some (16, true)⟩, false, false, 0, 0⟩,
 ⟨⟨(.conv .i64), [.tmp 17], (some 18), some (16, true)⟩, false, false, 0, 0⟩,
 ⟨⟨(.fieldAddr 1), [.tmp 2], (some 19), some (16, true)⟩, false, false, 0, 0⟩,
 ⟨⟨(.load false 1), [.tmp 19], (some 20), some (16, true)⟩, false, false, 0, 0⟩,
 ⟨⟨(.bin .leq), [.tmp 18, .tmp 20], (some 21), some (16, true)⟩, false, false, 0, 0⟩,
 ⟨⟨.pick, [.tmp 16, .tmp 21, .const (.bool false)], (some 22), none⟩, false, false, 0, 0⟩,
 ⟨⟨.move, [.tmp 13], (some 4), none⟩, false, false, 0, 0⟩,
 ⟨⟨.move, [.tmp 22], (some 5), none⟩, false, false, 0, 0⟩])
 .ret))), [.tmp 4, .tmp 5]⟩
theorem c107_ok : compFunc Tryz.prog Tryz.f107 = some c107 := by kernel_rfl
theorem c107_body : hasBody Tryz.prog 107 = true := hasBody_of Tryz.func107 (by kernel_rfl)
/-- (coachyard/queue.Line).task -/
def c108 : PFn := ⟨14, Tr.ofList (List.replicate 14 undefA), (.seq (.seqR [⟨.box, [.tmp 0], (some 2), none⟩,
 ⟨.move, [.const (.int .i64 0)], (some 4), none⟩])
 (.seq (.seqR [⟨(.fieldAddr 0), [.tmp 2], (some 5), none⟩,
 ⟨(.load false 1), [.tmp 5], (some 6), none⟩,
 ⟨(.bin .add), [.tmp 6, .const (.int .i64 2)], (some 7), none⟩,
 ⟨(.fieldAddr 1), [.tmp 2], (some 8), none⟩,
 ⟨(.load false 1), [.tmp 8], (some 9), none⟩,
 ⟨(.bin .add), [.tmp 7, .tmp 9], (some 10), none⟩,
 ⟨.move, [.tmp 1], (some 11), none⟩,
 ⟨(.conv .i64), [.tmp 11], (some 12), none⟩,
 ⟨(.bin .add), [.tmp 10, .tmp 12], (some 13), none⟩,
 ⟨.move, [.tmp 13], (some 4), none⟩])
 .ret)), [.tmp 4]⟩
theorem c108_ok : compFunc Tryz.prog Tryz.f108 = some c108 := by kernel_rfl
theorem c108_body : hasBody Tryz.prog 108 = true := hasBody_of Tryz.func108 (by kernel_rfl)
/-- (coachyard/queue.Line).next -/
def c109 : PFn := ⟨15, Tr.ofList (List.replicate 15 undefA), (.seq (.seqR [⟨.box, [.tmp 0], (some 2), none⟩,
 ⟨.move, [.const (.int .i64 0)], (some 4), none⟩])
 (.seq (.seqR [⟨(.fieldAddr 0), [.tmp 2], (some 5), none⟩,
 ⟨(.load false 1), [.tmp 5], (some 6), none⟩,
 ⟨(.bin .add), [.tmp 6, .const (.int .i64 2)], (some 7), none⟩,
 ⟨(.fieldAddr 1), [.tmp 2], (some 8), none⟩,
 ⟨(.load false 1), [.tmp 8], (some 9), none⟩,
 ⟨(.bin .mul), [.const (.int .i64 2), .tmp 9], (some 10), none⟩,
 ⟨(.bin .add), [.tmp 7, .tmp 10], (some 11), none⟩,
 ⟨.move, [.tmp 1], (some 12), none⟩,
 ⟨(.conv .i64), [.tmp 12], (some 13), none⟩,
 ⟨(.bin .add), [.tmp 11, .tmp 13], (some 14), none⟩,
 ⟨.move, [.tmp 14], (some 4), none⟩])
 .ret)), [.tmp 4]⟩
theorem c109_ok : compFunc Tryz.prog Tryz.f109 = some c109 := by kernel_rfl
theorem c109_body : hasBody Tryz.prog 109 = true := hasBody_of Tryz.func109 (by kernel_rfl)
/-- (*coachyard/pool.Pool).there -/
def c110 : PFn := ⟨15, Tr.ofList (List.replicate 15 undefA), (.seq (.seqR [⟨.move, [.const (.bool false)], (some 4), none⟩])
 (.seq (.seqR [⟨.move, [.tmp 1], (some 5), none⟩,
 ⟨(.bin .geq), [.tmp 5, .const (.int .i64 0)], (some 6), none⟩,
 ⟨.move, [.tmp 6], (some 7), none⟩,
 ⟨.move, [.tmp 1], (some 8), some (7, true)⟩,
 ⟨.move, [.tmp 0], (some 9), some (7, true)⟩,
 ⟨(.callF 32), [.tmp 9], (some 10), some (7, true)⟩,
 ⟨(.callF 71), [.tmp 10], (some 11), some (7, true)⟩,
 ⟨(.field 0 1 false), [.tmp 11], (some 12), some (7, true)⟩,
 ⟨(.bin .lss), [.tmp 8, .tmp 12], (some 13), some (7, true)⟩,
 ⟨.pick, [.tmp 7, .tmp 13, .const (.bool false)], (some 14), none⟩,
 ⟨.move, [.tmp 14], (some 4), none⟩])
 .ret)), [.tmp 4]⟩
theorem c110_ok : compFunc Tryz.prog Tryz.f110 = some c110 := by kernel_rfl
theorem c110_body : hasBody Tryz.prog 110 = true := hasBody_of Tryz.func110 (by kernel_rfl)
/-- (coachyard/plan.Plan).Local -/
def c111 : PFn := ⟨19, Tr.ofList (List.replicate 19 undefA), (.seq (.seqR [⟨.box, [.tmp 0], (some 2), none⟩,
 ⟨.move, [.const (.int .i64 0)], (some 4), none⟩])
 (.seq (.seq (.seqR [⟨(.load true 4), [.tmp 2], (some 5), none⟩,
 ⟨.move, [.tmp 1], (some 6), none⟩,
 ⟨(.callF 132), [.tmp 5, .tmp 6], (some 7), none⟩,
 ⟨.not, [.tmp 7], (some 8), none⟩])
 (.cond (.tmp 8) (.seq (.seqR [⟨.move, [.const (.int .i64 (-1))], (some 4), none⟩])
 .ret)
 .skip))
 (.seq (.drawR [⟨⟨(.fieldAddr 0), [.tmp 2], (some 9), none⟩, false, false, 0, 0⟩,
 ⟨⟨(.load true 4), [.tmp 9], (some 10), none⟩, false, false, 0, 0⟩,
 ⟨⟨(.callF 85), [.tmp 10], (some 11), none⟩, true, false, 0, 1⟩,
 ⟨⟨.move, [.tmp 1], (some 12), none⟩, false, false, 0, 1⟩,
 ⟨⟨(.fieldAddr 0), [.tmp 2], (some 13), none⟩, false, false, 0, 1⟩,
 ⟨⟨(.fieldAddr 2), [.tmp 13], (some 14), none⟩, false, false, 0, 1⟩,
 ⟨⟨(.load false 1), [.tmp 14], (some 15), none⟩, false, false, 0, 1⟩,
 ⟨⟨(.bin .add), [.tmp 15, .const (.int .i64 2)], (some 16), none⟩, false, false, 0, 1⟩,
 ⟨⟨(.bin .mul), [.tmp 12, .tmp 16], (some 17), none⟩, false, false, 0, 1⟩,
 ⟨⟨(.bin .add), [.tmp 11, .tmp 17], (some 18), none⟩, false, false, 1, 1⟩,
 ⟨⟨.move, [.tmp 18], (some 4), none⟩, false, false, 1, 1⟩])
 .ret))), [.tmp 4]⟩
theorem c111_ok : compFunc Tryz.prog Tryz.f111 = some c111 := by kernel_rfl
theorem c111_body : hasBody Tryz.prog 111 = true := hasBody_of Tryz.func111 (by kernel_rfl)
/-- (coachyard/local.Row).of -/
def c112 : PFn := ⟨23, Tr.ofList (List.replicate 23 undefA), (.seq (.seqR [⟨.box, [.tmp 0], (some 1), none⟩,
 ⟨.move, [.const .nilIface], (some 2), none⟩])
 (.seq (.seq (.seqR [⟨(.fieldAddr 0), [.tmp 1], (some 3), none⟩,
 ⟨(.load false 1), [.tmp 3], (some 4), none⟩])
 (.block 0 (.seq (.seqR [⟨(.bin .eql), [.tmp 4, .const (.int .i64 0)], (some 6), none⟩,
 ⟨.move, [.tmp 6], (some 5), none⟩])
 (.cond (.tmp 5) (.seq (.seqR [⟨(.fieldAddr 1), [.tmp 1], (some 7), none⟩,
 ⟨(.load false 1), [.tmp 7], (some 8), none⟩,
 ⟨(.fieldAddr 2), [.tmp 1], (some 9), none⟩,
 ⟨(.load false 1), [.tmp 9], (some 10), none⟩,
 ⟨(.build [(.int .i64 0), (.int .i64 0)] [(0, 1), (1, 1)]), [.tmp 8, .tmp 10], (some 11), none⟩,
 ⟨(.mkIface 215), [.tmp 11], (some 12), none⟩,
 ⟨.move, [.tmp 12], (some 2), none⟩])
 .ret)
 (.seq (.seqR [⟨(.bin .eql), [.tmp 4, .const (.int .i64 1)], (some 14), none⟩,
 ⟨.move, [.tmp 14], (some 13), none⟩])
 (.cond (.tmp 13) (.seq (.seqR [⟨(.fieldAddr 1), [.tmp 1], (some 15), none⟩,
 ⟨(.load false 1), [.tmp 15], (some 16), none⟩,
 ⟨(.fieldAddr 2), [.tmp 1], (some 17), none⟩,
 ⟨(.load false 1), [.tmp 17], (some 18), none⟩,
 ⟨(.build [(.int .i64 0), (.int .i64 0)] [(0, 1), (1, 1)]), [.tmp 16, .tmp 18], (some 19), none⟩,
 ⟨(.mkIface 216), [.tmp 19], (some 20), none⟩,
 ⟨.move, [.tmp 20], (some 2), none⟩])
 .ret)
 .skip))))))
 (.seq (.seqR [⟨(.build [] []), [], (some 21), none⟩,
 ⟨(.mkIface 218), [.tmp 21], (some 22), none⟩,
 ⟨.move, [.tmp 22], (some 2), none⟩])
 .ret))), [.tmp 2]⟩
theorem c112_ok : compFunc Tryz.prog Tryz.f112 = some c112 := by kernel_rfl
theorem c112_body : hasBody Tryz.prog 112 = true := hasBody_of Tryz.func112 (by kernel_rfl)
/-- slices.siftDownOrdered[uint64] -/
def c113 : PFn := ⟨76, Tr.ofList (List.replicate 76 undefA), (.seq (.seqR [⟨.move, [.tmp 1], (some 10), none⟩,
 ⟨.move, [.tmp 10], (some 8), none⟩])
 (.block 0 (.loop (.block 1 (.seq (.seqR [⟨.move, [.tmp 8], (some 11), none⟩,
 ⟨(.bin .mul), [.const (.int .i64 2), .tmp 11], (some 12), none⟩,
 ⟨(.bin .add), [.tmp 12, .const (.int .i64 1)], (some 13), none⟩,
 ⟨.move, [.tmp 13], (some 9), none⟩])
 (.seq (.seq (.seqR [⟨.move, [.tmp 9], (some 14), none⟩,
 ⟨.move, [.tmp 2], (some 15), none⟩,
 ⟨(.bin .geq), [.tmp 14, .tmp 15], (some 16), none⟩])
 (.cond (.tmp 16) (.exit 0)
 .skip))
 (.seq (.seq (.drawR [⟨⟨.move, [.tmp 9], (some 17), none⟩, false, false, 0, 0⟩,
 ⟨⟨(.bin .add), [.tmp 17, .const (.int .i64 1)], (some 18), none⟩, false, false, 0, 0⟩,
 ⟨⟨.move, [.tmp 2], (some 19), none⟩, false, false, 0, 0⟩,
 ⟨⟨(.bin .lss), [.tmp 18, .tmp 19], (some 20), none⟩, false, false, 0, 0⟩,
 ⟨⟨.move, [.tmp 20], (some 21), none⟩, false, false, 0, 0⟩,
 ⟨⟨.move, [.tmp 0], (some 22), some (21, true)⟩, false, false, 0, 0⟩,
 ⟨⟨.move, [.tmp 3], (some 23), some (21, true)⟩, false, false, 0, 0⟩,
 ⟨⟨.move, [.tmp 9], (some 24), some (21, true)⟩, false, false, 0, 0⟩,
 ⟨⟨(.bin .add), [.tmp 23, .tmp 24], (some 25), some (21, true)⟩, false, false, 0, 0⟩,
 ⟨⟨(.indexAddrS 1), [.tmp 22, .tmp 25], (some 26), some (21, true)⟩, false, false, 0, 0⟩,
 ⟨⟨(.load false 1), [.tmp 26], (some 27), some (21, true)⟩, false, false, 0, 0⟩,
 ⟨⟨.move, [.tmp 0], (some 28), some (21, true)⟩, false, false, 0, 0⟩,
 ⟨⟨.move, [.tmp 3], (some 29), some (21, true)⟩, false, false, 0, 0⟩,
 ⟨⟨.move, [.tmp 9], (some 30), some (21, true)⟩, false, false, 0, 0⟩,
 ⟨⟨(.bin .add), [.tmp 29, .tmp 30], (some 31), some (21, true)⟩, false, false, 0, 0⟩,
 ⟨⟨(.bin .add), [.tmp 31, .const (.int .i64 1)], (some 32), some (21, true)⟩, false, false, 0, 0⟩,
 ⟨⟨(.indexAddrS 1), [.tmp 28, .tmp 32], (some 33), some (21, true)⟩, false, false, 0, 0⟩,
 ⟨⟨(.load false 1), [.tmp 33], (some 34), some (21, true)⟩, false, false, 0, 0⟩,
 ⟨⟨(.callF 80), [.tmp 27, .tmp 34], (some 35), some (21, true)⟩, true, false, 0, 1⟩,
 ⟨⟨.pick, [.tmp 21, .tmp 35, .const (.bool false)], (some 36), none⟩, false, false, 1, 1⟩])
 (.cond (.tmp 36) (.seqR [⟨.move, [.tmp 9], (some 37), none⟩,
 ⟨(.bin .add), [.tmp 37, .const (.int .i64 1)], (some 38), none⟩,
 ⟨.move, [.tmp 38], (some 9), none⟩])
 .skip))
 (.seq (.seq (.drawR [⟨⟨.move, [.tmp 0], (some 39), none⟩, false, false, 0, 0⟩,
 ⟨⟨.move, [.tmp 3], (some 40), none⟩, false, false, 0, 0⟩,
 ⟨⟨.move, [.tmp 8], (some 41), none⟩, false, false, 0, 0⟩,
 ⟨⟨(.bin .add), [.tmp 40, .tmp 41], (some 42), none⟩, false, false, 0, 0⟩,
 ⟨⟨(.indexAddrS 1), [.tmp 39, .tmp 42], (some 43), none⟩, false, false, 0, 0⟩,
 ⟨⟨(.load false 1), [.tmp 43], (some 44), none⟩, false, false, 0, 0⟩,
 ⟨⟨.move, [.tmp 0], (some 45), none⟩, false, false, 0, 0⟩,
 ⟨⟨.move, [.tmp 3], (some 46), none⟩, false, false, 0, 0⟩,
 ⟨⟨.move, [.tmp 9], (some 47), none⟩, false, false, 0, 0⟩,
 ⟨⟨(.bin .add), [.tmp 46, .tmp 47], (some 48), none⟩, false, false, 0, 0⟩,
 ⟨⟨(.indexAddrS 1), [.tmp 45, .tmp 48], (some 49), none⟩, false, false, 0, 0⟩,
 ⟨⟨(.load false 1), [.tmp 49], (some 50), none⟩, false, false, 0, 0⟩,
 ⟨⟨(.callF 80), [.tmp 44, .tmp 50], (some 51), none⟩, true, false, 0, 1⟩,
 ⟨⟨.not, [.tmp 51], (some 52), none⟩, false, false, 1, 1⟩])
 (.cond (.tmp 52) .ret
 .skip))
 (.seq (.drawR [⟨⟨.move, [.tmp 0], (some 53), none⟩, false, false, 0, 0⟩,
 ⟨⟨.move, [.tmp 3], (some 54), none⟩, false, false, 0, 0⟩,
 ⟨⟨.move, [.tmp 8], (some 55), none⟩, false, false, 0, 0⟩,
 ⟨⟨(.bin .add), [.tmp 54, .tmp 55], (some 56), none⟩, false, false, 0, 0⟩,
 ⟨⟨.move, [.tmp 0], (some 57), none⟩, false, false, 0, 1⟩,
 ⟨⟨.move, [.tmp 3], (some 58), none⟩, false, false, 0, 1⟩,
 ⟨⟨.move, [.tmp 9], (some 59), none⟩, false, false, 0, 1⟩,
 ⟨⟨(.bin .add), [.tmp 58, .tmp 59], (some 60), none⟩, false, false, 0, 1⟩,
 ⟨⟨.move, [.tmp 0], (some 61), none⟩, false, false, 0, 0⟩,
 ⟨⟨.move, [.tmp 3], (some 62), none⟩, false, false, 0, 0⟩,
 ⟨⟨.move, [.tmp 9], (some 63), none⟩, false, false, 0, 0⟩,
 ⟨⟨(.bin .add), [.tmp 62, .tmp 63], (some 64), none⟩, false, false, 0, 0⟩,
 ⟨⟨(.indexAddrS 1), [.tmp 61, .tmp 64], (some 65), none⟩, false, false, 0, 0⟩,
 ⟨⟨(.load false 1), [.tmp 65], (some 66), none⟩, false, false, 0, 0⟩,
 ⟨⟨.move, [.tmp 0], (some 67), none⟩, false, false, 0, 0⟩,
 ⟨⟨.move, [.tmp 3], (some 68), none⟩, false, false, 0, 0⟩,
 ⟨⟨.move, [.tmp 8], (some 69), none⟩, false, false, 0, 0⟩,
 ⟨⟨(.bin .add), [.tmp 68, .tmp 69], (some 70), none⟩, false, false, 0, 0⟩,
 ⟨⟨(.indexAddrS 1), [.tmp 67, .tmp 70], (some 71), none⟩, false, false, 0, 0⟩,
 ⟨⟨(.load false 1), [.tmp 71], (some 72), none⟩, false, false, 0, 0⟩,
 ⟨⟨(.indexAddrS 1), [.tmp 53, .tmp 56], (some 73), none⟩, false, false, 0, 0⟩,
 ⟨⟨(.store 1), [.tmp 73, .tmp 66], none, none⟩, true, false, 0, 1⟩,
 ⟨⟨(.indexAddrS 1), [.tmp 57, .tmp 60], (some 74), none⟩, false, false, 1, 1⟩,
 ⟨⟨(.store 1), [.tmp 74, .tmp 72], none, none⟩, true, false, 1, 2⟩])
 (.seqR [⟨.move, [.tmp 9], (some 75), none⟩,
 ⟨.move, [.tmp 75], (some 8), none⟩])))))))))), []⟩
theorem c113_ok : compFunc Tryz.prog Tryz.f113 = some c113 := by kernel_rfl
theorem c113_body : hasBody Tryz.prog 113 = true := hasBody_of Tryz.func113 (by kernel_rfl)
/-- slices.nextPowerOfTwo -/
def c114 : PFn := ⟨7, Tr.ofList (List.replicate 7 undefA), (.seq (.seqR [⟨.move, [.const (.int .u64 0)], (some 2), none⟩])
 (.seq (.seqR [⟨.move, [.tmp 0], (some 3), none⟩,
 ⟨(.conv .u64), [.tmp 3], (some 4), none⟩,
 ⟨(.callF 49), [.tmp 4], (some 5), none⟩,
 ⟨(.bin .shl), [.const (.int .u64 1), .tmp 5], (some 6), none⟩,
 ⟨.move, [.tmp 6], (some 2), none⟩])
 .ret)), [.tmp 2]⟩
theorem c114_ok : compFunc Tryz.prog Tryz.f114 = some c114 := by kernel_rfl
theorem c114_body : hasBody Tryz.prog 114 = true := hasBody_of Tryz.func114 (by kernel_rfl)
/-- (*slices.xorshift).Next -/
def c115 : PFn := ⟨33, Tr.ofList (List.replicate 33 undefA), (.seq (.seqR [⟨.move, [.const (.int .u64 0)], (some 2), none⟩])
 (.seq (.drawR [⟨⟨.move, [.tmp 0], (some 3), none⟩, false, false, 0, 0⟩,
 ⟨⟨.nilCheck, [.tmp 3], (some 4), none⟩, false, false, 0, 0⟩,
 ⟨⟨(.load false 1), [.tmp 4], (some 5), none⟩, false, false, 0, 0⟩,
 ⟨⟨.move, [.tmp 0], (some 6), none⟩, false, false, 0, 0⟩,
 ⟨⟨.nilCheck, [.tmp 6], (some 7), none⟩, false, false, 0, 0⟩,
 ⟨⟨(.load false 1), [.tmp 7], (some 8), none⟩, false, false, 0, 0⟩,
 ⟨⟨(.bin .shl), [.tmp 8, .const (.int .u64 13)], (some 9), none⟩, false, false, 0, 0⟩,
 ⟨⟨(.bin .xor), [.tmp 5, .tmp 9], (some 10), none⟩, false, false, 0, 0⟩,
 ⟨⟨.nilCheck, [.tmp 3], (some 11), none⟩, false, false, 0, 0⟩,
 ⟨⟨(.store 1), [.tmp 11, .tmp 10], none, none⟩, true, false, 0, 1⟩])
 (.seq (.drawR [⟨⟨.move, [.tmp 0], (some 12), none⟩, false, false, 0, 0⟩,
 ⟨⟨.nilCheck, [.tmp 12], (some 13), none⟩, false, false, 0, 0⟩,
 ⟨⟨(.load false 1), [.tmp 13], (some 14), none⟩, false, false, 0, 0⟩,
 ⟨⟨.move, [.tmp 0], (some 15), none⟩, false, false, 0, 0⟩,
 ⟨⟨.nilCheck, [.tmp 15], (some 16), none⟩, false, false, 0, 0⟩,
 ⟨⟨(.load false 1), [.tmp 16], (some 17), none⟩, false, false, 0, 0⟩,
 ⟨⟨(.bin .shr), [.tmp 17, .const (.int .u64 7)], (some 18), none⟩, false, false, 0, 0⟩,
 ⟨⟨(.bin .xor), [.tmp 14, .tmp 18], (some 19), none⟩, false, false, 0, 0⟩,
 ⟨⟨.nilCheck, [.tmp 12], (some 20), none⟩, false, false, 0, 0⟩,
 ⟨⟨(.store 1), [.tmp 20, .tmp 19], none, none⟩, true, false, 0, 1⟩])
 (.seq (.drawR [⟨⟨.move, [.tmp 0], (some 21), none⟩, false, false, 0, 0⟩,
 ⟨⟨.nilCheck, [.tmp 21], (some 22), none⟩, false, false, 0, 0⟩,
 ⟨⟨(.load false 1), [.tmp 22], (some 23), none⟩, false, false, 0, 0⟩,
 ⟨⟨.move, [.tmp 0], (some 24), none⟩, false, false, 0, 0⟩,
 ⟨⟨.nilCheck, [.tmp 24], (some 25), none⟩, false, false, 0, 0⟩,
 ⟨⟨(.load false 1), [.tmp 25], (some 26), none⟩, false, false, 0, 0⟩,
 ⟨⟨(.bin .shl), [.tmp 26, .const (.int .u64 17)], (some 27), none⟩, false, false, 0, 0⟩,
 ⟨⟨(.bin .xor), [.tmp 23, .tmp 27], (some 28), none⟩, false, false, 0, 0⟩,
 ⟨⟨.nilCheck, [.tmp 21], (some 29), none⟩, false, false, 0, 0⟩,
 ⟨⟨(.store 1), [.tmp 29, .tmp 28], none, none⟩, true, false, 0, 1⟩])
 (.seq (.seqR [⟨.move, [.tmp 0], (some 30), none⟩,
 ⟨.nilCheck, [.tmp 30], (some 31), none⟩,
 ⟨(.load false 1), [.tmp 31], (some 32), none⟩,
 ⟨.move, [.tmp 32], (some 2), none⟩])
 .ret))))), [.tmp 2]⟩
theorem c115_ok : compFunc Tryz.prog Tryz.f115 = some c115 := by kernel_rfl
theorem c115_body : hasBody Tryz.prog 115 = true := hasBody_of Tryz.func115 (by kernel_rfl)
/-- slices.medianAdjacentOrdered[uint64] -/
def c116 : PFn := ⟨15, Tr.ofList (List.replicate 15 undefA), (.seq (.seqR [⟨.move, [.const (.int .i64 0)], (some 6), none⟩])
 (.seq (.seqR [⟨.move, [.tmp 0], (some 7), none⟩,
 ⟨.move, [.tmp 1], (some 8), none⟩,
 ⟨(.bin .sub), [.tmp 8, .const (.int .i64 1)], (some 9), none⟩,
 ⟨.move, [.tmp 1], (some 10), none⟩,
 ⟨.move, [.tmp 1], (some 11), none⟩,
 ⟨(.bin .add), [.tmp 11, .const (.int .i64 1)], (some 12), none⟩,
 ⟨.move, [.tmp 2], (some 13), none⟩,
 ⟨(.callF 117), [.tmp 7, .tmp 9, .tmp 10, .tmp 12, .tmp 13], (some 14), none⟩,
 ⟨.move, [.tmp 14], (some 6), none⟩])
 .ret)), [.tmp 6]⟩
theorem c116_ok : compFunc Tryz.prog Tryz.f116 = some c116 := by kernel_rfl
theorem c116_body : hasBody Tryz.prog 116 = true := hasBody_of Tryz.func116 (by kernel_rfl)
/-- slices.medianOrdered[uint64] -/
def c117 : PFn := ⟨36, Tr.ofList (List.replicate 36 undefA), (.seq (.seqR [⟨.move, [.const (.int .i64 0)], (some 10), none⟩])
 (.seq (.seqR [⟨.move, [.tmp 0], (some 12), none⟩,
 ⟨.move, [.tmp 1], (some 13), none⟩,
 ⟨.move, [.tmp 2], (some 14), none⟩,
 ⟨.move, [.tmp 4], (some 15), none⟩,
 ⟨(.callF 147), [.tmp 12, .tmp 13, .tmp 14, .tmp 15], (some 16), none⟩,
 ⟨.move, [.tmp 16], (some 11), none⟩,
 ⟨(.extract 0), [.tmp 11], (some 17), none⟩,
 ⟨(.extract 1), [.tmp 11], (some 18), none⟩,
 ⟨.move, [.tmp 17], (some 1), none⟩,
 ⟨.move, [.tmp 18], (some 2), none⟩])
 (.seq (.seqR [⟨.move, [.tmp 0], (some 20), none⟩,
 ⟨.move, [.tmp 2], (some 21), none⟩,
 ⟨.move, [.tmp 3], (some 22), none⟩,
 ⟨.move, [.tmp 4], (some 23), none⟩,
 ⟨(.callF 147), [.tmp 20, .tmp 21, .tmp 22, .tmp 23], (some 24), none⟩,
 ⟨.move, [.tmp 24], (some 19), none⟩,
 ⟨(.extract 0), [.tmp 19], (some 25), none⟩,
 ⟨(.extract 1), [.tmp 19], (some 26), none⟩,
 ⟨.move, [.tmp 25], (some 2), none⟩,
 ⟨.move, [.tmp 26], (some 3), none⟩])
 (.seq (.seqR [⟨.move, [.tmp 0], (some 28), none⟩,
 ⟨.move, [.tmp 1], (some 29), none⟩,
 ⟨.move, [.tmp 2], (some 30), none⟩,
 ⟨.move, [.tmp 4], (some 31), none⟩,
 ⟨(.callF 147), [.tmp 28, .tmp 29, .tmp 30, .tmp 31], (some 32), none⟩,
 ⟨.move, [.tmp 32], (some 27), none⟩,
 ⟨(.extract 0), [.tmp 27], (some 33), none⟩,
 ⟨(.extract 1), [.tmp 27], (some 34), none⟩,
 ⟨.move, [.tmp 33], (some 1), none⟩,
 ⟨.move, [.tmp 34], (some 2), none⟩])
 (.seq (.seqR [⟨.move, [.tmp 2], (some 35), none⟩,
 ⟨.move, [.tmp 35], (some 10), none⟩])
 .ret))))), [.tmp 10]⟩
theorem c117_ok : compFunc Tryz.prog Tryz.f117 = some c117 := by kernel_rfl
theorem c117_body : hasBody Tryz.prog 117 = true := hasBody_of Tryz.func117 (by kernel_rfl)
/-- cmp.isNaN[uint64] -/
def c118 : PFn := ⟨6, Tr.ofList (List.replicate 6 undefA), (.seq (.seqR [⟨.move, [.const (.bool false)], (some 2), none⟩])
 (.seq (.seqR [⟨.move, [.tmp 0], (some 3), none⟩,
 ⟨.move, [.tmp 0], (some 4), none⟩,
 ⟨(.bin .neq), [.tmp 3, .tmp 4], (some 5), none⟩,
 ⟨.move, [.tmp 5], (some 2), none⟩])
 .ret)), [.tmp 2]⟩
theorem c118_ok : compFunc Tryz.prog Tryz.f118 = some c118 := by kernel_rfl
theorem c118_body : hasBody Tryz.prog 118 = true := hasBody_of Tryz.func118 (by kernel_rfl)
/-- (coachyard/queue.Line).Right -/
def c119 : PFn := ⟨26, Tr.ofList (List.replicate 26 undefA), (.seq (.seqR [⟨.box, [.tmp 0], (some 1), none⟩,
 ⟨.move, [.const (.bool false)], (some 2), none⟩])
 (.seq (.seqR [⟨(.fieldAddr 1), [.tmp 1], (some 3), none⟩,
 ⟨(.load false 1), [.tmp 3], (some 4), none⟩,
 ⟨(.bin .geq), [.tmp 4, .const (.int .i64 2)], (some 5), none⟩,
 ⟨.move, [.tmp 5], (some 6), none⟩,
 ⟨(.fieldAddr 1), [.tmp 1], (some 7), some (6, true)⟩,
 ⟨(.load false 1), [.tmp 7], (some 8), some (6, true)⟩,
 ⟨(.bin .leq), [.tmp 8, .const (.int .i64 4096)], (some 9), some (6, true)⟩,
 ⟨.pick, [.tmp 6, .tmp 9, .const (.bool false)], (some 10), none⟩,
 ⟨.move, [.tmp 10], (some 11), none⟩,
 ⟨(.fieldAddr 0), [.tmp 1], (some 12), some (11, true)⟩,
 ⟨(.load false 1), [.tmp 12], (some 13), some (11, true)⟩,
 ⟨(.bin .geq), [.tmp 13, .const (.int .i64 0)], (some 14), some (11, true)⟩,
 ⟨.pick, [.tmp 11, .tmp 14, .const (.bool false)], (some 15), none⟩,
 ⟨.move, [.tmp 15], (some 16), none⟩,
 ⟨(.fieldAddr 0), [.tmp 1], (some 17), some (16, true)⟩,
 ⟨(.load false 1), [.tmp 17], (some 18), some (16, true)⟩,
 ⟨(.fieldAddr 1), [.tmp 1], (some 19), some (16, true)⟩,
 ⟨(.load false 1), [.tmp 19], (some 20), some (16, true)⟩,
 ⟨(.bin .mul), [.const (.int .i64 3), .tmp 20], (some 21), some (16, true)⟩,
 ⟨(.bin .sub), [.const (.int .i64 65536), .tmp 21], (some 22), some (16, true)⟩,
 ⟨(.bin .sub), [.tmp 22, .const (.int .i64 2)], (some 23), some (16, true)⟩,
 ⟨(.bin .lss), [.tmp 18, .tmp 23], (some 24), some (16, true)⟩,
 ⟨.pick, [.tmp 16, .tmp 24, .const (.bool false)], (some 25), none⟩,
 ⟨.move, [.tmp 25], (some 2), none⟩])
 .ret)), [.tmp 2]⟩
theorem c119_ok : compFunc Tryz.prog Tryz.f119 = some c119 := by kernel_rfl
theorem c119_body : hasBody Tryz.prog 119 = true := hasBody_of Tryz.func119 (by kernel_rfl)
/-- (*coachyard/cells.Mem).Len -/
def c120 : PFn := ⟨10, Tr.ofList (List.replicate 10 undefA), (.seq (.seqR [⟨.move, [.const (.int .i64 0)], (some 2), none⟩])
 (.seq (.seq (.seqR [⟨.move, [.tmp 0], (some 3), none⟩,
 ⟨(.eqPtr false), [.tmp 3, .const (.ptr none)], (some 4), none⟩])
 (.cond (.tmp 4) (.seq (.seqR [⟨.move, [.const (.int .i64 0)], (some 2), none⟩])
 .ret)
 .skip))
 (.seq (.seqR [⟨.move, [.tmp 0], (some 5), none⟩,
 ⟨.nilCheck, [.tmp 5], (some 6), none⟩,
 ⟨(.fieldAddr 0), [.tmp 6], (some 7), none⟩,
 ⟨(.load false 1), [.tmp 7], (some 8), none⟩,
 ⟨.lenS, [.tmp 8], (some 9), none⟩,
 ⟨.move, [.tmp 9], (some 2), none⟩])
 .ret))), [.tmp 2]⟩
theorem c120_ok : compFunc Tryz.prog Tryz.f120 = some c120 := by kernel_rfl
theorem c120_body : hasBody Tryz.prog 120 = true := hasBody_of Tryz.func120 (by kernel_rfl)
/-- (coachyard/arena.Arena).check -/
def c121 : PFn := ⟨21, Tr.ofList (List.replicate 21 undefA), (.seq (.seqR [⟨.box, [.tmp 0], (some 2), none⟩,
 ⟨.move, [.const (.int .i64 0)], (some 4), none⟩])
 (.seq (.block 0 (.seq (.seqR [⟨.move, [.tmp 1], (some 6), none⟩,
 ⟨(.eqPtr false), [.tmp 6, .const (.ptr none)], (some 7), none⟩,
 ⟨.move, [.tmp 7], (some 5), none⟩])
 (.cond (.tmp 5) (.seq (.seqR [⟨.move, [.const (.int .i64 1)], (some 4), none⟩])
 .ret)
 (.seq (.seqR [⟨(.load true 2), [.tmp 2], (some 9), none⟩,
 ⟨(.callF 122), [.tmp 9], (some 10), none⟩,
 ⟨.not, [.tmp 10], (some 11), none⟩,
 ⟨.move, [.tmp 11], (some 8), none⟩])
 (.cond (.tmp 8) (.seq (.seqR [⟨.move, [.const (.int .i64 2)], (some 4), none⟩])
 .ret)
 (.seq (.drawR [⟨⟨.move, [.tmp 1], (some 13), none⟩, false, false, 0, 0⟩,
 ⟨⟨(.callF 120), [.tmp 13], (some 14), none⟩, true, false, 0, 1⟩,
 ⟨⟨(.fieldAddr 0), [.tmp 2], (some 15), none⟩, false, false, 0, 1⟩,
 ⟨⟨(.load false 1), [.tmp 15], (some 16), none⟩, false, false, 0, 1⟩,
 ⟨⟨(.fieldAddr 1), [.tmp 2], (some 17), none⟩, false, false, 0, 1⟩,
 ⟨⟨(.load false 1), [.tmp 17], (some 18), none⟩, false, false, 0, 1⟩,
 ⟨⟨(.bin .add), [.tmp 16, .tmp 18], (some 19), none⟩, false, false, 0, 1⟩,
 ⟨⟨(.bin .leq), [.tmp 14, .tmp 19], (some 20), none⟩, false, false, 1, 1⟩,
 ⟨⟨.move, [.tmp 20], (some 12), none⟩, false, false, 1, 1⟩])
 (.cond (.tmp 12) (.seq (.seqR [⟨.move, [.const (.int .i64 3)], (some 4), none⟩])
 .ret)
 .skip)))))))
 (.seq (.seqR [⟨.move, [.const (.int .i64 0)], (some 4), none⟩])
 .ret))), [.tmp 4]⟩
theorem c121_ok : compFunc Tryz.prog Tryz.f121 = some c121 := by kernel_rfl
theorem c121_body : hasBody Tryz.prog 121 = true := hasBody_of Tryz.func121 (by kernel_rfl)
/-- (coachyard/arena.Arena).Right -/
def c122 : PFn := ⟨24, Tr.ofList (List.replicate 24 undefA), (.seq (.seqR [⟨.box, [.tmp 0], (some 1), none⟩,
 ⟨.move, [.const (.bool false)], (some 2), none⟩])
 (.seq (.seqR [⟨(.fieldAddr 1), [.tmp 1], (some 3), none⟩,
 ⟨(.load false 1), [.tmp 3], (some 4), none⟩,
 ⟨(.bin .geq), [.tmp 4, .const (.int .i64 1)], (some 5), none⟩,
 ⟨.move, [.tmp 5], (some 6), none⟩,
 ⟨(.fieldAddr 1), [.tmp 1], (some 7), some (6, true)⟩,
 ⟨(.load false 1), [.tmp 7], (some 8), some (6, true)⟩,
 ⟨(.bin .leq), [.tmp 8, .const (.int .i64 4096)], (some 9), some (6, true)⟩,
 ⟨.pick, [.tmp 6, .tmp 9, .const (.bool false)], (some 10), none⟩,
 ⟨.move, [.tmp 10], (some 11), none⟩,
 ⟨(.fieldAddr 0), [.tmp 1], (some 12), some (11, true)⟩,
 ⟨(.load false 1), [.tmp 12], (some 13), some (11, true)⟩,
 ⟨(.bin .geq), [.tmp 13, .const (.int .i64 0)], (some 14), some (11, true)⟩,
 ⟨.pick, [.tmp 11, .tmp 14, .const (.bool false)], (some 15), none⟩,
 ⟨.move, [.tmp 15], (some 16), none⟩,
 ⟨(.fieldAddr 0), [.tmp 1], (some 17), some (16, true)⟩,
 ⟨(.load false 1), [.tmp 17], (some 18), some (16, true)⟩,
 ⟨(.fieldAddr 1), [.tmp 1], (some 19), some (16, true)⟩,
 ⟨(.load false 1), [.tmp 19], (some 20), some (16, true)⟩,
 ⟨(.bin .sub), [.const (.int .i64 65536), .tmp 20], (some 21), some (16, true)⟩,
 ⟨(.bin .lss), [.tmp 18, .tmp 21], (some 22), some (16, true)⟩,
 ⟨.pick, [.tmp 16, .tmp 22, .const (.bool false)], (some 23), none⟩,
 ⟨.move, [.tmp 23], (some 2), none⟩])
 .ret)), [.tmp 2]⟩
theorem c122_ok : compFunc Tryz.prog Tryz.f122 = some c122 := by kernel_rfl
theorem c122_body : hasBody Tryz.prog 122 = true := hasBody_of Tryz.func122 (by kernel_rfl)
/-- (*coachyard/pool.Pool).begun$1 -/
def c123 : PFn := ⟨23, Tr.ofList (List.replicate 23 undefA), (.block 0 (.seq (.seqR [⟨(.load false 1), [.tmp 1], (some 12), none⟩,
 ⟨(.eqPtr false), [.tmp 12, .const (.ptr none)], (some 13), none⟩,
 ⟨.move, [.tmp 13], (some 11), none⟩])
 (.cond (.tmp 11) (.seqR [⟨.move, [.tmp 0], (some 14), none⟩,
 ⟨(.callF 62), [.tmp 14, .const (.int .i64 1)], (some 15), none⟩])
 (.seq (.seqR [⟨(.load false 1), [.tmp 1], (some 17), none⟩,
 ⟨(.load false 1), [.tmp 2], (some 18), none⟩,
 ⟨(.callF 110), [.tmp 17, .tmp 18], (some 19), none⟩,
 ⟨.not, [.tmp 19], (some 20), none⟩,
 ⟨.move, [.tmp 20], (some 16), none⟩])
 (.cond (.tmp 16) (.seqR [⟨.move, [.tmp 0], (some 21), none⟩,
 ⟨(.callF 62), [.tmp 21, .const (.int .i64 2)], (some 22), none⟩])
 (.seqR [⟨(.load false 1), [.tmp 3], (some 5), none⟩,
 ⟨(.load false 1), [.tmp 1], (some 6), none⟩,
 ⟨.move, [.tmp 0], (some 7), none⟩,
 ⟨(.load false 1), [.tmp 2], (some 8), none⟩,
 ⟨(.build [(.ptr none), (.ptr none), (.int .i64 0)] [(0, 1), (1, 1), (2, 1)]), [.tmp 6, .tmp 7, .tmp 8], (some 9), none⟩,
 ⟨.callV, [.tmp 5, .tmp 9], (some 10), none⟩])))))), []⟩
theorem c123_ok : compFunc Tryz.prog Tryz.f123 = some c123 := by kernel_rfl
theorem c123_body : hasBody Tryz.prog 123 = true := hasBody_of Tryz.func123 (by kernel_rfl)
/-- (*coachyard/walk.Walk).free -/
def c124 : PFn := ⟨12, Tr.ofList (List.replicate 12 undefA), (.seq (.seqR [⟨.move, [.const (.bool false)], (some 2), none⟩])
 (.seq (.seqR [⟨.move, [.tmp 0], (some 3), none⟩,
 ⟨(.eqPtr true), [.tmp 3, .const (.ptr none)], (some 4), none⟩,
 ⟨.move, [.tmp 4], (some 5), none⟩,
 ⟨.move, [.tmp 0], (some 6), some (5, true)⟩,
 ⟨.nilCheck, [.tmp 6], (some 7), some (5, true)⟩,
 ⟨(.fieldAddr 8), [.tmp 7], (some 8), some (5, true)⟩,
 ⟨(.load false 1), [.tmp 8], (some 9), some (5, true)⟩,
 ⟨.not, [.tmp 9], (some 10), some (5, true)⟩,
 ⟨.pick, [.tmp 5, .tmp 10, .const (.bool false)], (some 11), none⟩,
 ⟨.move, [.tmp 11], (some 2), none⟩])
 .ret)), [.tmp 2]⟩
theorem c124_ok : compFunc Tryz.prog Tryz.f124 = some c124 := by kernel_rfl
theorem c124_body : hasBody Tryz.prog 124 = true := hasBody_of Tryz.func124 (by kernel_rfl)
/-- (coachyard/pool.call).wake -/
def c125 : PFn := ⟨15, Tr.ofList (List.replicate 15 undefA), (.seq (.seqR [⟨.box, [.tmp 0], (some 2), none⟩,
 ⟨.box, [.tmp 1], (some 3), none⟩])
 (.drawR [⟨⟨(.fieldAddr 1), [.tmp 2], (some 4), none⟩, false, false, 0, 2⟩,
 ⟨⟨(.load false 1), [.tmp 4], (some 5), none⟩, false, false, 0, 2⟩,
 ⟨⟨(.fieldAddr 0), [.tmp 2], (some 6), none⟩, false, false, 0, 0⟩,
 ⟨⟨(.load false 1), [.tmp 6], (some 7), none⟩, false, false, 0, 0⟩,
 ⟨⟨.nilCheck, [.tmp 7], (some 8), none⟩, false, false, 0, 0⟩,
 ⟨⟨(.fieldAddr 0), [.tmp 8], (some 9), none⟩, false, false, 0, 0⟩,
 ⟨⟨(.load true 4), [.tmp 9], (some 10), none⟩, false, false, 0, 0⟩,
 ⟨⟨(.callF 135), [.tmp 10], (some 11), none⟩, true, false, 0, 1⟩,
 ⟨⟨(.callF 148), [.tmp 11], (some 12), none⟩, true, false, 1, 2⟩,
 ⟨⟨(.mkFunc (.func 149) 0), [.tmp 3, .tmp 2], (some 13), none⟩, false, false, 0, 2⟩,
 ⟨⟨(.callF 92), [.tmp 5, .tmp 12, .tmp 13], (some 14), none⟩, true, false, 2, 3⟩])), []⟩
theorem c125_ok : compFunc Tryz.prog Tryz.f125 = some c125 := by kernel_rfl
theorem c125_body : hasBody Tryz.prog 125 = true := hasBody_of Tryz.func125 (by kernel_rfl)
/-- (coachyard/pool.call).fine -/
def c126 : PFn := ⟨6, Tr.ofList (List.replicate 6 undefA), (.seq (.seqR [⟨.box, [.tmp 0], (some 1), none⟩])
 (.seqR [⟨(.fieldAddr 1), [.tmp 1], (some 2), none⟩,
 ⟨(.load false 1), [.tmp 2], (some 3), none⟩,
 ⟨(.build [(.int .i64 0), (.int .u64 0), (.slice none 0 0 false)] []), [], (some 4), none⟩,
 ⟨(.callF 99), [.tmp 3, .tmp 4], (some 5), none⟩])), []⟩
theorem c126_ok : compFunc Tryz.prog Tryz.f126 = some c126 := by kernel_rfl
theorem c126_body : hasBody Tryz.prog 126 = true := hasBody_of Tryz.func126 (by kernel_rfl)
/-- (*coachyard/pool.next).or -/
def c129 : PFn := ⟨26, Tr.ofList (List.replicate 26 undefA), (.seq (.seqR [⟨.box, [.tmp 1], (some 5), none⟩])
 (.seq (.seq (.seqR [⟨(.fieldAddr 0), [.tmp 5], (some 8), none⟩,
 ⟨(.load false 1), [.tmp 8], (some 9), none⟩,
 ⟨(.bin .eql), [.tmp 9, .const (.int .i64 5)], (some 10), none⟩])
 (.cond (.tmp 10) (.seq (.seqR [⟨.move, [.tmp 0], (some 11), none⟩,
 ⟨.nilCheck, [.tmp 11], (some 12), none⟩,
 ⟨(.fieldAddr 0), [.tmp 12], (some 13), none⟩,
 ⟨(.fieldAddr 1), [.tmp 13], (some 14), none⟩,
 ⟨(.load false 1), [.tmp 14], (some 15), none⟩,
 ⟨.move, [.tmp 2], (some 16), none⟩,
 ⟨.move, [.tmp 3], (some 17), none⟩,
 ⟨(.callF 92), [.tmp 15, .tmp 16, .tmp 17], (some 18), none⟩])
 .ret)
 .skip))
 (.drawR [⟨⟨.move, [.tmp 0], (some 19), none⟩, false, false, 0, 0⟩,
 ⟨⟨.nilCheck, [.tmp 19], (some 20), none⟩, false, false, 0, 0⟩,
 ⟨⟨(.fieldAddr 0), [.tmp 20], (some 21), none⟩, false, false, 0, 0⟩,
 ⟨⟨(.fieldAddr 1), [.tmp 21], (some 22), none⟩, false, false, 0, 0⟩,
 ⟨⟨(.load false 1), [.tmp 22], (some 23), none⟩, false, false, 0, 0⟩,
 ⟨⟨(.load true 3), [.tmp 5], (some 24), none⟩, false, false, 0, 0⟩,
 ⟨⟨(.callF 99), [.tmp 23, .tmp 24], (some 25), none⟩, true, false, 0, 1⟩]))), []⟩
theorem c129_ok : compFunc Tryz.prog Tryz.f129 = some c129 := by kernel_rfl
theorem c129_body : hasBody Tryz.prog 129 = true := hasBody_of Tryz.func129 (by kernel_rfl)
/-- (coachyard/queue.Line).Take -/
def c130 : PFn := ⟨5, Tr.ofList (List.replicate 5 undefA), (.seq (.seqR [⟨.box, [.tmp 0], (some 1), none⟩,
 ⟨.move, [.const (.ptr none)], (some 2), none⟩])
 (.seq (.seqR [⟨(.mkFunc (.func 156) 0), [.tmp 1], (some 3), none⟩,
 ⟨(.callF 60), [.tmp 3], (some 4), none⟩,
 ⟨.move, [.tmp 4], (some 2), none⟩])
 .ret)), [.tmp 2]⟩
theorem c130_ok : compFunc Tryz.prog Tryz.f130 = some c130 := by kernel_rfl
theorem c130_body : hasBody Tryz.prog 130 = true := hasBody_of Tryz.func130 (by kernel_rfl)
/-- (*coachyard/pool.next).taken -/
def c131 : PFn := ⟨24, Tr.ofList (List.replicate 24 undefA), (.seq (.seqR [⟨.box, [.tmp 1], (some 3), none⟩])
 (.drawR [⟨⟨.move, [.tmp 0], (some 4), none⟩, false, false, 0, 2⟩,
 ⟨⟨(.load true 3), [.tmp 3], (some 5), none⟩, false, false, 0, 2⟩,
 ⟨⟨.move, [.tmp 0], (some 6), none⟩, false, false, 0, 0⟩,
 ⟨⟨.nilCheck, [.tmp 6], (some 7), none⟩, false, false, 0, 0⟩,
 ⟨⟨(.fieldAddr 0), [.tmp 7], (some 8), none⟩, false, false, 0, 0⟩,
 ⟨⟨(.fieldAddr 0), [.tmp 8], (some 9), none⟩, false, false, 0, 0⟩,
 ⟨⟨(.load false 1), [.tmp 9], (some 10), none⟩, false, false, 0, 0⟩,
 ⟨⟨.nilCheck, [.tmp 10], (some 11), none⟩, false, false, 0, 0⟩,
 ⟨⟨(.fieldAddr 0), [.tmp 11], (some 12), none⟩, false, false, 0, 0⟩,
 ⟨⟨(.load true 4), [.tmp 12], (some 13), none⟩, false, false, 0, 0⟩,
 ⟨⟨(.callF 135), [.tmp 13], (some 14), none⟩, true, false, 0, 1⟩,
 ⟨⟨.move, [.tmp 0], (some 15), none⟩, false, false, 0, 1⟩,
 ⟨⟨.nilCheck, [.tmp 15], (some 16), none⟩, false, false, 0, 1⟩,
 ⟨⟨(.fieldAddr 0), [.tmp 16], (some 17), none⟩, false, false, 0, 1⟩,
 ⟨⟨(.fieldAddr 2), [.tmp 17], (some 18), none⟩, false, false, 0, 1⟩,
 ⟨⟨(.load false 1), [.tmp 18], (some 19), none⟩, false, false, 0, 1⟩,
 ⟨⟨(.callF 158), [.tmp 14, .tmp 19], (some 20), none⟩, true, false, 1, 2⟩,
 ⟨⟨.move, [.tmp 0], (some 21), none⟩, false, false, 0, 2⟩,
 ⟨⟨(.mkFunc (.func 159) 1), [.tmp 21], (some 22), none⟩, false, false, 0, 2⟩,
 ⟨⟨(.callF 129), [.tmp 4, .tmp 5, .tmp 20, .tmp 22], (some 23), none⟩, true, false, 2, 3⟩])), []⟩
theorem c131_ok : compFunc Tryz.prog Tryz.f131 = some c131 := by kernel_rfl
theorem c131_body : hasBody Tryz.prog 131 = true := hasBody_of Tryz.func131 (by kernel_rfl)
/-- (coachyard/plan.Plan).there -/
def c132 : PFn := ⟨14, Tr.ofList (List.replicate 14 undefA), (.seq (.seqR [⟨.box, [.tmp 0], (some 2), none⟩,
 ⟨.move, [.const (.bool false)], (some 4), none⟩])
 (.seq (.seqR [⟨.move, [.tmp 1], (some 5), none⟩,
 ⟨(.bin .geq), [.tmp 5, .const (.int .i64 0)], (some 6), none⟩,
 ⟨.move, [.tmp 6], (some 7), none⟩,
 ⟨.move, [.tmp 1], (some 8), some (7, true)⟩,
 ⟨(.fieldAddr 0), [.tmp 2], (some 9), some (7, true)⟩,
 ⟨(.fieldAddr 0), [.tmp 9], (some 10), some (7, true)⟩,
 ⟨(.load false 1), [.tmp 10], (some 11), some (7, true)⟩,
 ⟨(.bin .lss), [.tmp 8, .tmp 11], (some 12), some (7, true)⟩,
 ⟨.pick, [.tmp 7, .tmp 12, .const (.bool false)], (some 13), none⟩,
 ⟨.move, [.tmp 13], (some 4), none⟩])
 .ret)), [.tmp 4]⟩
theorem c132_ok : compFunc Tryz.prog Tryz.f132 = some c132 := by kernel_rfl
theorem c132_body : hasBody Tryz.prog 132 = true := hasBody_of Tryz.func132 (by kernel_rfl)
/-- (coachyard/park.Spot).once -/
def c133 : PFn := ⟨12, Tr.ofList (List.replicate 12 undefA), (.seq (.seqR [⟨.box, [.tmp 0], (some 4), none⟩,
 ⟨.box, [.tmp 1], (some 5), none⟩,
 ⟨.box, [.tmp 2], (some 6), none⟩,
 ⟨.box, [.tmp 3], (some 7), none⟩,
 ⟨.move, [.const (.ptr none)], (some 8), none⟩])
 (.seq (.seqR [⟨(.load true 1), [.tmp 4], (some 9), none⟩,
 ⟨(.mkFunc (.func 161) 0), [.tmp 5, .tmp 4, .tmp 6, .tmp 7], (some 10), none⟩,
 ⟨(.callF 160), [.tmp 9, .tmp 10], (some 11), none⟩,
 ⟨.move, [.tmp 11], (some 8), none⟩])
 .ret)), [.tmp 8]⟩
theorem c133_ok : compFunc Tryz.prog Tryz.f133 = some c133 := by kernel_rfl
theorem c133_body : hasBody Tryz.prog 133 = true := hasBody_of Tryz.func133 (by kernel_rfl)
/-- coachyard/park.epoch -/
def c134 : PFn := ⟨12, Tr.ofList (List.replicate 12 undefA), (.seq (.seqR [⟨.move, [.const (.int .u64 0)], (some 2), none⟩])
 (.seq (.seqR [⟨.move, [.tmp 0], (some 6), none⟩,
 ⟨(.callF 146), [.tmp 6], (some 7), none⟩,
 ⟨.move, [.tmp 7], (some 5), none⟩,
 ⟨(.extract 0), [.tmp 5], (some 8), none⟩,
 ⟨(.extract 1), [.tmp 5], (some 9), none⟩,
 ⟨.move, [.tmp 8], (some 3), none⟩,
 ⟨.move, [.tmp 9], (some 4), none⟩])
 (.seq (.seqR [⟨.move, [.tmp 3], (some 10), none⟩,
 ⟨(.conv .u64), [.tmp 10], (some 11), none⟩,
 ⟨.move, [.tmp 11], (some 2), none⟩])
 .ret))), [.tmp 2]⟩
theorem c134_ok : compFunc Tryz.prog Tryz.f134 = some c134 := by kernel_rfl
theorem c134_body : hasBody Tryz.prog 134 = true := hasBody_of Tryz.func134 (by kernel_rfl)
/-- (coachyard/plan.Plan).Yard -/
def c135 : PFn := ⟨7, Tr.ofList (List.replicate 7 undefA), (.seq (.seqR [⟨.box, [.tmp 0], (some 1), none⟩,
 ⟨(.new [(.int .i64 0), (.int .i64 0)]), [], (some 2), none⟩])
 (.seq (.seqR [⟨(.fieldAddr 0), [.tmp 1], (some 3), none⟩,
 ⟨(.fieldAddr 0), [.tmp 3], (some 4), none⟩,
 ⟨(.load false 1), [.tmp 4], (some 5), none⟩,
 ⟨(.build [(.int .i64 0), (.int .i64 0)] [(1, 1)]), [.tmp 5], (some 6), none⟩,
 ⟨(.store 2), [.tmp 2, .tmp 6], none, none⟩])
 .ret)), [.cell 2 true 2]⟩
theorem c135_ok : compFunc Tryz.prog Tryz.f135 = some c135 := by kernel_rfl
theorem c135_body : hasBody Tryz.prog 135 = true := hasBody_of Tryz.func135 (by kernel_rfl)
/-- (coachyard/idle.Yard).Sleep -/
def c136 : PFn := ⟨12, Tr.ofList (List.replicate 12 undefA), (.seq (.seqR [⟨.box, [.tmp 0], (some 2), none⟩,
 ⟨.move, [.const (.ptr none)], (some 4), none⟩])
 (.seq (.drawR [⟨⟨(.load true 2), [.tmp 2], (some 5), none⟩, false, false, 0, 1⟩,
 ⟨⟨.move, [.tmp 1], (some 6), none⟩, false, false, 0, 1⟩,
 ⟨⟨(.load true 2), [.tmp 2], (some 7), none⟩, false, false, 0, 0⟩,
 ⟨⟨.move, [.tmp 1], (some 8), none⟩, false, false, 0, 0⟩,
 ⟨⟨(.callF 165), [.tmp 7, .tmp 8], (some 9), none⟩, true, false, 0, 1⟩,
 ⟨⟨(.mkFunc (.func 166) 1), [.tmp 9], (some 10), none⟩, false, false, 1, 1⟩,
 ⟨⟨(.callF 164), [.tmp 5, .tmp 6, .tmp 10], (some 11), none⟩, true, false, 1, 2⟩,
 ⟨⟨.move, [.tmp 11], (some 4), none⟩, false, false, 2, 2⟩])
 .ret)), [.tmp 4]⟩
theorem c136_ok : compFunc Tryz.prog Tryz.f136 = some c136 := by kernel_rfl
theorem c136_body : hasBody Tryz.prog 136 = true := hasBody_of Tryz.func136 (by kernel_rfl)
/-- (*coachyard/pool.parker).prepared$1 -/
def c137 : PFn := ⟨5, Tr.ofList (List.replicate 5 undefA), (.seq (.seqR [⟨.box, [.tmp 0], (some 2), none⟩])
 (.seqR [⟨(.load false 1), [.tmp 1], (some 3), none⟩,
 ⟨(.callF 138), [.tmp 3], (some 4), none⟩])), []⟩
theorem c137_ok : compFunc Tryz.prog Tryz.f137 = some c137 := by kernel_rfl
theorem c137_body : hasBody Tryz.prog 137 = true := hasBody_of Tryz.func137 (by kernel_rfl)
/-- (*coachyard/pool.parker).peek -/
def c138 : PFn := ⟨94, Tr.ofList (List.replicate 94 undefA), (.seq (.seqR [⟨.move, [.tmp 0], (some 3), none⟩,
 ⟨.nilCheck, [.tmp 3], (some 4), none⟩,
 ⟨(.fieldAddr 0), [.tmp 4], (some 5), none⟩,
 ⟨(.fieldAddr 0), [.tmp 5], (some 6), none⟩,
 ⟨(.load false 1), [.tmp 6], (some 7), none⟩,
 ⟨.nilCheck, [.tmp 7], (some 8), none⟩,
 ⟨(.fieldAddr 0), [.tmp 8], (some 9), none⟩,
 ⟨(.load true 4), [.tmp 9], (some 10), none⟩,
 ⟨(.callF 71), [.tmp 10], (some 11), none⟩,
 ⟨(.field 0 1 false), [.tmp 11], (some 12), none⟩,
 ⟨.move, [.tmp 12], (some 2), none⟩])
 (.block 0 (.seq (.seqR [⟨.move, [.tmp 0], (some 44), none⟩,
 ⟨.nilCheck, [.tmp 44], (some 45), none⟩,
 ⟨(.fieldAddr 4), [.tmp 45], (some 46), none⟩,
 ⟨(.load false 1), [.tmp 46], (some 47), none⟩,
 ⟨.move, [.tmp 2], (some 48), none⟩,
 ⟨(.bin .lss), [.tmp 47, .tmp 48], (some 49), none⟩,
 ⟨.move, [.tmp 49], (some 43), none⟩])
 (.cond (.tmp 43) (.drawR [⟨⟨.move, [.tmp 0], (some 50), none⟩, false, false, 0, 2⟩,
 ⟨⟨.nilCheck, [.tmp 50], (some 51), none⟩, false, false, 0, 2⟩,
 ⟨⟨(.fieldAddr 0), [.tmp 51], (some 52), none⟩, false, false, 0, 2⟩,
 ⟨⟨(.fieldAddr 1), [.tmp 52], (some 53), none⟩, false, false, 0, 2⟩,
 ⟨⟨(.load false 1), [.tmp 53], (some 54), none⟩, false, false, 0, 2⟩,
 ⟨⟨.move, [.tmp 0], (some 55), none⟩, false, false, 0, 0⟩,
 ⟨⟨.nilCheck, [.tmp 55], (some 56), none⟩, false, false, 0, 0⟩,
 ⟨⟨(.fieldAddr 0), [.tmp 56], (some 57), none⟩, false, false, 0, 0⟩,
 ⟨⟨(.fieldAddr 0), [.tmp 57], (some 58), none⟩, false, false, 0, 0⟩,
 ⟨⟨(.load false 1), [.tmp 58], (some 59), none⟩, false, false, 0, 0⟩,
 ⟨⟨.move, [.tmp 0], (some 60), none⟩, false, false, 0, 0⟩,
 ⟨⟨.nilCheck, [.tmp 60], (some 61), none⟩, false, false, 0, 0⟩,
 ⟨⟨(.fieldAddr 4), [.tmp 61], (some 62), none⟩, false, false, 0, 0⟩,
 ⟨⟨(.load false 1), [.tmp 62], (some 63), none⟩, false, false, 0, 0⟩,
 ⟨⟨(.callF 72), [.tmp 59, .tmp 63], (some 64), none⟩, true, false, 0, 1⟩,
 ⟨⟨(.callF 167), [.tmp 64], (some 65), none⟩, true, false, 1, 2⟩,
 ⟨⟨.move, [.tmp 0], (some 66), none⟩, false, false, 0, 2⟩,
 ⟨⟨(.mkFunc (.func 168) 1), [.tmp 66], (some 67), none⟩, false, false, 0, 2⟩,
 ⟨⟨(.callF 92), [.tmp 54, .tmp 65, .tmp 67], (some 68), none⟩, true, false, 2, 3⟩])
 (.seq (.seqR [⟨.move, [.tmp 0], (some 70), none⟩,
 ⟨.nilCheck, [.tmp 70], (some 71), none⟩,
 ⟨(.fieldAddr 4), [.tmp 71], (some 72), none⟩,
 ⟨(.load false 1), [.tmp 72], (some 73), none⟩,
 ⟨.move, [.tmp 2], (some 74), none⟩,
 ⟨(.bin .eql), [.tmp 73, .tmp 74], (some 75), none⟩,
 ⟨.move, [.tmp 75], (some 69), none⟩])
 (.cond (.tmp 69) (.drawR [⟨⟨.move, [.tmp 0], (some 76), none⟩, false, false, 0, 2⟩,
 ⟨⟨.nilCheck, [.tmp 76], (some 77), none⟩, false, false, 0, 2⟩,
 ⟨⟨(.fieldAddr 0), [.tmp 77], (some 78), none⟩, false, false, 0, 2⟩,
 ⟨⟨(.fieldAddr 1), [.tmp 78], (some 79), none⟩, false, false, 0, 2⟩,
 ⟨⟨(.load false 1), [.tmp 79], (some 80), none⟩, false, false, 0, 2⟩,
 ⟨⟨.move, [.tmp 0], (some 81), none⟩, false, false, 0, 0⟩,
 ⟨⟨.nilCheck, [.tmp 81], (some 82), none⟩, false, false, 0, 0⟩,
 ⟨⟨(.fieldAddr 0), [.tmp 82], (some 83), none⟩, false, false, 0, 0⟩,
 ⟨⟨(.fieldAddr 0), [.tmp 83], (some 84), none⟩, false, false, 0, 0⟩,
 ⟨⟨(.load false 1), [.tmp 84], (some 85), none⟩, false, false, 0, 0⟩,
 ⟨⟨.nilCheck, [.tmp 85], (some 86), none⟩, false, false, 0, 0⟩,
 ⟨⟨(.fieldAddr 0), [.tmp 86], (some 87), none⟩, false, false, 0, 0⟩,
 ⟨⟨(.load true 4), [.tmp 87], (some 88), none⟩, false, false, 0, 0⟩,
 ⟨⟨(.callF 53), [.tmp 88], (some 89), none⟩, true, false, 0, 1⟩,
 ⟨⟨(.callF 169), [.tmp 89], (some 90), none⟩, true, false, 1, 2⟩,
 ⟨⟨.move, [.tmp 0], (some 91), none⟩, false, false, 0, 2⟩,
 ⟨⟨(.mkFunc (.func 168) 1), [.tmp 91], (some 92), none⟩, false, false, 0, 2⟩,
 ⟨⟨(.callF 92), [.tmp 80, .tmp 90, .tmp 92], (some 93), none⟩, true, false, 2, 3⟩])
 (.seq (.seqR [⟨.move, [.tmp 0], (some 13), none⟩,
 ⟨.nilCheck, [.tmp 13], (some 14), none⟩,
 ⟨(.fieldAddr 5), [.tmp 14], (some 15), none⟩,
 ⟨(.store 1), [.tmp 15, .const (.int .u64 1)], none, none⟩])
 (.drawR [⟨⟨.move, [.tmp 0], (some 16), none⟩, false, false, 0, 2⟩,
 ⟨⟨.nilCheck, [.tmp 16], (some 17), none⟩, false, false, 0, 2⟩,
 ⟨⟨(.fieldAddr 0), [.tmp 17], (some 18), none⟩, false, false, 0, 2⟩,
 ⟨⟨(.fieldAddr 1), [.tmp 18], (some 19), none⟩, false, false, 0, 2⟩,
 ⟨⟨(.load false 1), [.tmp 19], (some 20), none⟩, false, false, 0, 2⟩,
 ⟨⟨.move, [.tmp 0], (some 21), none⟩, false, false, 0, 0⟩,
 ⟨⟨.nilCheck, [.tmp 21], (some 22), none⟩, false, false, 0, 0⟩,
 ⟨⟨(.fieldAddr 0), [.tmp 22], (some 23), none⟩, false, false, 0, 0⟩,
 ⟨⟨(.fieldAddr 0), [.tmp 23], (some 24), none⟩, false, false, 0, 0⟩,
 ⟨⟨(.load false 1), [.tmp 24], (some 25), none⟩, false, false, 0, 0⟩,
 ⟨⟨.nilCheck, [.tmp 25], (some 26), none⟩, false, false, 0, 0⟩,
 ⟨⟨(.fieldAddr 0), [.tmp 26], (some 27), none⟩, false, false, 0, 0⟩,
 ⟨⟨(.load true 4), [.tmp 27], (some 28), none⟩, false, false, 0, 0⟩,
 ⟨⟨.move, [.tmp 0], (some 29), none⟩, false, false, 0, 0⟩,
 ⟨⟨.nilCheck, [.tmp 29], (some 30), none⟩, false, false, 0, 0⟩,
 ⟨⟨(.fieldAddr 0), [.tmp 30], (some 31), none⟩, false, false, 0, 0⟩,
 ⟨⟨(.fieldAddr 2), [.tmp 31], (some 32), none⟩, false, false, 0, 0⟩,
 ⟨⟨(.load false 1), [.tmp 32], (some 33), none⟩, false, false, 0, 0⟩,
 ⟨⟨(.callF 101), [.tmp 28, .tmp 33], (some 34), none⟩, true, false, 0, 1⟩,
 ⟨⟨.move, [.tmp 0], (some 35), none⟩, false, false, 0, 1⟩,
 ⟨⟨.nilCheck, [.tmp 35], (some 36), none⟩, false, false, 0, 1⟩,
 ⟨⟨(.fieldAddr 3), [.tmp 36], (some 37), none⟩, false, false, 0, 1⟩,
 ⟨⟨(.load false 1), [.tmp 37], (some 38), none⟩, false, false, 0, 1⟩,
 ⟨⟨(.callF 170), [.tmp 34, .tmp 38], (some 39), none⟩, true, false, 1, 2⟩,
 ⟨⟨.move, [.tmp 0], (some 40), none⟩, false, false, 0, 2⟩,
 ⟨⟨(.mkFunc (.func 171) 1), [.tmp 40], (some 41), none⟩, false, false, 0, 2⟩,
 ⟨⟨(.callF 92), [.tmp 20, .tmp 39, .tmp 41], (some 42), none⟩, true, false, 2, 3⟩])))))))), []⟩
theorem c138_ok : compFunc Tryz.prog Tryz.f138 = some c138 := by kernel_rfl
theorem c138_body : hasBody Tryz.prog 138 = true := hasBody_of Tryz.func138 (by kernel_rfl)
/-- coachyard/cells.load -/
def c139 : PFn := ⟨7, Tr.ofList (List.replicate 7 undefA), (.seq (.seqR [⟨.box, [.tmp 1], (some 3), none⟩,
 ⟨.move, [.const (.int .u64 0)], (some 4), none⟩,
 ⟨.move, [.const (.bool false)], (some 5), none⟩])
 (.seq (.seqR [⟨.move, [.tmp 0], (some 6), none⟩,
 ⟨.move, [.tmp 6], (some 4), none⟩,
 ⟨.move, [.const (.bool true)], (some 5), none⟩])
 .ret)), [.tmp 4, .tmp 5]⟩
theorem c139_ok : compFunc Tryz.prog Tryz.f139 = some c139 := by kernel_rfl
theorem c139_body : hasBody Tryz.prog 139 = true := hasBody_of Tryz.func139 (by kernel_rfl)
/-- coachyard/cells.store -/
def c140 : PFn := ⟨8, Tr.ofList (List.replicate 8 undefA), (.seq (.seqR [⟨.box, [.tmp 1], (some 3), none⟩,
 ⟨.move, [.const (.int .u64 0)], (some 4), none⟩,
 ⟨.move, [.const (.bool false)], (some 5), none⟩])
 (.seq (.seqR [⟨(.fieldAddr 2), [.tmp 3], (some 6), none⟩,
 ⟨(.load false 1), [.tmp 6], (some 7), none⟩,
 ⟨.move, [.tmp 7], (some 4), none⟩,
 ⟨.move, [.const (.bool true)], (some 5), none⟩])
 .ret)), [.tmp 4, .tmp 5]⟩
theorem c140_ok : compFunc Tryz.prog Tryz.f140 = some c140 := by kernel_rfl
theorem c140_body : hasBody Tryz.prog 140 = true := hasBody_of Tryz.func140 (by kernel_rfl)
/-- coachyard/cells.cas -/
def c141 : PFn := ⟨13, Tr.ofList (List.replicate 13 undefA), (.seq (.seqR [⟨.box, [.tmp 1], (some 3), none⟩,
 ⟨.move, [.const (.int .u64 0)], (some 4), none⟩,
 ⟨.move, [.const (.bool false)], (some 5), none⟩])
 (.seq (.seq (.seqR [⟨.move, [.tmp 0], (some 6), none⟩,
 ⟨(.fieldAddr 2), [.tmp 3], (some 7), none⟩,
 ⟨(.load false 1), [.tmp 7], (some 8), none⟩,
 ⟨(.bin .neq), [.tmp 6, .tmp 8], (some 9), none⟩])
 (.cond (.tmp 9) (.seq (.seqR [⟨.move, [.tmp 0], (some 10), none⟩,
 ⟨.move, [.tmp 10], (some 4), none⟩,
 ⟨.move, [.const (.bool false)], (some 5), none⟩])
 .ret)
 .skip))
 (.seq (.seqR [⟨(.fieldAddr 3), [.tmp 3], (some 11), none⟩,
 ⟨(.load false 1), [.tmp 11], (some 12), none⟩,
 ⟨.move, [.tmp 12], (some 4), none⟩,
 ⟨.move, [.const (.bool true)], (some 5), none⟩])
 .ret))), [.tmp 4, .tmp 5]⟩
theorem c141_ok : compFunc Tryz.prog Tryz.f141 = some c141 := by kernel_rfl
theorem c141_body : hasBody Tryz.prog 141 = true := hasBody_of Tryz.func141 (by kernel_rfl)
/-- coachyard/cells.add -/
def c142 : PFn := ⟨10, Tr.ofList (List.replicate 10 undefA), (.seq (.seqR [⟨.box, [.tmp 1], (some 3), none⟩,
 ⟨.move, [.const (.int .u64 0)], (some 4), none⟩,
 ⟨.move, [.const (.bool false)], (some 5), none⟩])
 (.seq (.seqR [⟨.move, [.tmp 0], (some 6), none⟩,
 ⟨(.fieldAddr 2), [.tmp 3], (some 7), none⟩,
 ⟨(.load false 1), [.tmp 7], (some 8), none⟩,
 ⟨(.bin .add), [.tmp 6, .tmp 8], (some 9), none⟩,
 ⟨.move, [.tmp 9], (some 4), none⟩,
 ⟨.move, [.const (.bool true)], (some 5), none⟩])
 .ret)), [.tmp 4, .tmp 5]⟩
theorem c142_ok : compFunc Tryz.prog Tryz.f142 = some c142 := by kernel_rfl
theorem c142_body : hasBody Tryz.prog 142 = true := hasBody_of Tryz.func142 (by kernel_rfl)
/-- coachyard/cells.or -/
def c143 : PFn := ⟨10, Tr.ofList (List.replicate 10 undefA), (.seq (.seqR [⟨.box, [.tmp 1], (some 3), none⟩,
 ⟨.move, [.const (.int .u64 0)], (some 4), none⟩,
 ⟨.move, [.const (.bool false)], (some 5), none⟩])
 (.seq (.seqR [⟨.move, [.tmp 0], (some 6), none⟩,
 ⟨(.fieldAddr 2), [.tmp 3], (some 7), none⟩,
 ⟨(.load false 1), [.tmp 7], (some 8), none⟩,
 ⟨(.bin .or), [.tmp 6, .tmp 8], (some 9), none⟩,
 ⟨.move, [.tmp 9], (some 4), none⟩,
 ⟨.move, [.const (.bool true)], (some 5), none⟩])
 .ret)), [.tmp 4, .tmp 5]⟩
theorem c143_ok : compFunc Tryz.prog Tryz.f143 = some c143 := by kernel_rfl
theorem c143_body : hasBody Tryz.prog 143 = true := hasBody_of Tryz.func143 (by kernel_rfl)
/-- coachyard/cells.and -/
def c144 : PFn := ⟨10, Tr.ofList (List.replicate 10 undefA), (.seq (.seqR [⟨.box, [.tmp 1], (some 3), none⟩,
 ⟨.move, [.const (.int .u64 0)], (some 4), none⟩,
 ⟨.move, [.const (.bool false)], (some 5), none⟩])
 (.seq (.seqR [⟨.move, [.tmp 0], (some 6), none⟩,
 ⟨(.fieldAddr 2), [.tmp 3], (some 7), none⟩,
 ⟨(.load false 1), [.tmp 7], (some 8), none⟩,
 ⟨(.bin .and), [.tmp 6, .tmp 8], (some 9), none⟩,
 ⟨.move, [.tmp 9], (some 4), none⟩,
 ⟨.move, [.const (.bool true)], (some 5), none⟩])
 .ret)), [.tmp 4, .tmp 5]⟩
theorem c144_ok : compFunc Tryz.prog Tryz.f144 = some c144 := by kernel_rfl
theorem c144_body : hasBody Tryz.prog 144 = true := hasBody_of Tryz.func144 (by kernel_rfl)
/-- coachyard/cells.wait -/
def c145 : PFn := ⟨11, Tr.ofList (List.replicate 11 undefA), (.seq (.seqR [⟨.box, [.tmp 1], (some 3), none⟩,
 ⟨.move, [.const (.int .u64 0)], (some 4), none⟩,
 ⟨.move, [.const (.bool false)], (some 5), none⟩])
 (.seq (.drawR [⟨⟨.move, [.tmp 0], (some 6), none⟩, false, false, 0, 0⟩,
 ⟨⟨.move, [.tmp 0], (some 7), none⟩, false, false, 0, 0⟩,
 ⟨⟨(.fieldAddr 2), [.tmp 3], (some 8), none⟩, false, false, 0, 0⟩,
 ⟨⟨(.load false 1), [.tmp 8], (some 9), none⟩, false, false, 0, 0⟩,
 ⟨⟨(.bin .neq), [.tmp 7, .tmp 9], (some 10), none⟩, false, false, 0, 0⟩,
 ⟨⟨.move, [.tmp 6], (some 4), none⟩, false, false, 0, 0⟩,
 ⟨⟨.move, [.tmp 10], (some 5), none⟩, false, false, 0, 0⟩])
 .ret)), [.tmp 4, .tmp 5]⟩
theorem c145_ok : compFunc Tryz.prog Tryz.f145 = some c145 := by kernel_rfl
theorem c145_body : hasBody Tryz.prog 145 = true := hasBody_of Tryz.func145 (by kernel_rfl)
/-- coachyard/word.Split -/
def c146 : PFn := ⟨9, Tr.ofList (List.replicate 9 undefA), (.seq (.seqR [⟨.move, [.const (.int .u32 0)], (some 2), none⟩,
 ⟨.move, [.const (.int .u32 0)], (some 3), none⟩])
 (.seq (.seqR [⟨.move, [.tmp 0], (some 4), none⟩,
 ⟨(.bin .shr), [.tmp 4, .const (.int .u64 32)], (some 5), none⟩,
 ⟨(.conv .u32), [.tmp 5], (some 6), none⟩,
 ⟨.move, [.tmp 0], (some 7), none⟩,
 ⟨(.conv .u32), [.tmp 7], (some 8), none⟩,
 ⟨.move, [.tmp 6], (some 2), none⟩,
 ⟨.move, [.tmp 8], (some 3), none⟩])
 .ret)), [.tmp 2, .tmp 3]⟩
theorem c146_ok : compFunc Tryz.prog Tryz.f146 = some c146 := by kernel_rfl
theorem c146_body : hasBody Tryz.prog 146 = true := hasBody_of Tryz.func146 (by kernel_rfl)
/-- slices.order2Ordered[uint64] -/
def c147 : PFn := ⟨28, Tr.ofList (List.replicate 28 undefA), (.seq (.seqR [⟨.move, [.const (.int .i64 0)], (some 8), none⟩,
 ⟨.move, [.const (.int .i64 0)], (some 9), none⟩])
 (.seq (.seq (.drawR [⟨⟨.move, [.tmp 0], (some 10), none⟩, false, false, 0, 0⟩,
 ⟨⟨.move, [.tmp 2], (some 11), none⟩, false, false, 0, 0⟩,
 ⟨⟨(.indexAddrS 1), [.tmp 10, .tmp 11], (some 12), none⟩, false, false, 0, 0⟩,
 ⟨⟨(.load false 1), [.tmp 12], (some 13), none⟩, false, false, 0, 0⟩,
 ⟨⟨.move, [.tmp 0], (some 14), none⟩, false, false, 0, 0⟩,
 ⟨⟨.move, [.tmp 1], (some 15), none⟩, false, false, 0, 0⟩,
 ⟨⟨(.indexAddrS 1), [.tmp 14, .tmp 15], (some 16), none⟩, false, false, 0, 0⟩,
 ⟨⟨(.load false 1), [.tmp 16], (some 17), none⟩, false, false, 0, 0⟩,
 ⟨⟨(.callF 80), [.tmp 13, .tmp 17], (some 18), none⟩, true, false, 0, 1⟩])
 (.cond (.tmp 18) (.seq (.seqR [⟨.move, [.tmp 3], (some 19), none⟩,
 ⟨.nilCheck, [.tmp 19], (some 20), none⟩,
 ⟨(.load false 1), [.tmp 20], (some 21), none⟩,
 ⟨(.bin .add), [.tmp 21, .const (.int .i64 1)], (some 22), none⟩,
 ⟨.nilCheck, [.tmp 19], (some 23), none⟩,
 ⟨(.store 1), [.tmp 23, .tmp 22], none, none⟩])
 (.seq (.seqR [⟨.move, [.tmp 2], (some 24), none⟩,
 ⟨.move, [.tmp 1], (some 25), none⟩,
 ⟨.move, [.tmp 24], (some 8), none⟩,
 ⟨.move, [.tmp 25], (some 9), none⟩])
 .ret))
 .skip))
 (.seq (.seqR [⟨.move, [.tmp 1], (some 26), none⟩,
 ⟨.move, [.tmp 2], (some 27), none⟩,
 ⟨.move, [.tmp 26], (some 8), none⟩,
 ⟨.move, [.tmp 27], (some 9), none⟩])
 .ret))), [.tmp 8, .tmp 9]⟩
theorem c147_ok : compFunc Tryz.prog Tryz.f147 = some c147 := by kernel_rfl
theorem c147_body : hasBody Tryz.prog 147 = true := hasBody_of Tryz.func147 (by kernel_rfl)
/-- (coachyard/idle.Yard).Choose -/
def c148 : PFn := ⟨8, Tr.ofList (List.replicate 8 undefA), (.seq (.seqR [⟨.box, [.tmp 0], (some 1), none⟩,
 ⟨.move, [.const (.ptr none)], (some 2), none⟩])
 (.seq (.drawR [⟨⟨(.load true 2), [.tmp 1], (some 3), none⟩, false, false, 0, 1⟩,
 ⟨⟨(.load true 2), [.tmp 1], (some 4), none⟩, false, false, 0, 0⟩,
 ⟨⟨(.callF 165), [.tmp 4, .const (.int .i64 0)], (some 5), none⟩, true, false, 0, 1⟩,
 ⟨⟨(.mkFunc (.func 172) 1), [.tmp 5], (some 6), none⟩, false, false, 1, 1⟩,
 ⟨⟨(.callF 164), [.tmp 3, .const (.int .i64 0), .tmp 6], (some 7), none⟩, true, false, 1, 2⟩,
 ⟨⟨.move, [.tmp 7], (some 2), none⟩, false, false, 2, 2⟩])
 .ret)), [.tmp 2]⟩
theorem c148_ok : compFunc Tryz.prog Tryz.f148 = some c148 := by kernel_rfl
theorem c148_body : hasBody Tryz.prog 148 = true := hasBody_of Tryz.func148 (by kernel_rfl)
/-- (coachyard/pool.call).wake$1 -/
def c149 : PFn := ⟨23, Tr.ofList (List.replicate 23 undefA), (.seq (.seqR [⟨.box, [.tmp 0], (some 3), none⟩])
 (.seq (.seq (.seqR [⟨(.fieldAddr 0), [.tmp 3], (some 4), none⟩,
 ⟨(.load false 1), [.tmp 4], (some 5), none⟩,
 ⟨(.bin .neq), [.tmp 5, .const (.int .i64 0)], (some 6), none⟩])
 (.cond (.tmp 6) (.seq (.seqR [⟨(.load false 1), [.tmp 1], (some 7), none⟩,
 ⟨.callV, [.tmp 7], (some 8), none⟩])
 .ret)
 .skip))
 (.drawR [⟨⟨(.fieldAddr 1), [.tmp 2], (some 9), none⟩, false, false, 0, 2⟩,
 ⟨⟨(.load false 1), [.tmp 9], (some 10), none⟩, false, false, 0, 2⟩,
 ⟨⟨(.fieldAddr 0), [.tmp 2], (some 11), none⟩, false, false, 0, 0⟩,
 ⟨⟨(.load false 1), [.tmp 11], (some 12), none⟩, false, false, 0, 0⟩,
 ⟨⟨.nilCheck, [.tmp 12], (some 13), none⟩, false, false, 0, 0⟩,
 ⟨⟨(.fieldAddr 0), [.tmp 13], (some 14), none⟩, false, false, 0, 0⟩,
 ⟨⟨(.load true 4), [.tmp 14], (some 15), none⟩, false, false, 0, 0⟩,
 ⟨⟨(.fieldAddr 1), [.tmp 3], (some 16), none⟩, false, false, 0, 0⟩,
 ⟨⟨(.load false 1), [.tmp 16], (some 17), none⟩, false, false, 0, 0⟩,
 ⟨⟨(.conv .i64), [.tmp 17], (some 18), none⟩, false, false, 0, 0⟩,
 ⟨⟨(.callF 101), [.tmp 15, .tmp 18], (some 19), none⟩, true, false, 0, 1⟩,
 ⟨⟨(.callF 150), [.tmp 19], (some 20), none⟩, true, false, 1, 2⟩,
 ⟨⟨(.mkFunc (.func 151) 0), [.tmp 1], (some 21), none⟩, false, false, 0, 2⟩,
 ⟨⟨(.callF 92), [.tmp 10, .tmp 20, .tmp 21], (some 22), none⟩, true, false, 2, 3⟩]))), []⟩
theorem c149_ok : compFunc Tryz.prog Tryz.f149 = some c149 := by kernel_rfl
theorem c149_body : hasBody Tryz.prog 149 = true := hasBody_of Tryz.func149 (by kernel_rfl)
/-- (coachyard/park.Spot).Call -/
def c150 : PFn := ⟨5, Tr.ofList (List.replicate 5 undefA), (.seq (.seqR [⟨.box, [.tmp 0], (some 1), none⟩,
 ⟨.move, [.const (.ptr none)], (some 2), none⟩])
 (.seq (.seqR [⟨(.load true 1), [.tmp 1], (some 3), none⟩,
 ⟨(.callF 133), [.tmp 3, .const (.int .i64 4), .const (.int .u64 4294967296), .const (.func (.func 173) [] [])], (some 4), none⟩,
 ⟨.move, [.tmp 4], (some 2), none⟩])
 .ret)), [.tmp 2]⟩
theorem c150_ok : compFunc Tryz.prog Tryz.f150 = some c150 := by kernel_rfl
theorem c150_body : hasBody Tryz.prog 150 = true := hasBody_of Tryz.func150 (by kernel_rfl)
/-- (coachyard/pool.call).wake$1$1 -/
def c151 : PFn := ⟨5, Tr.ofList (List.replicate 5 undefA), (.seq (.seqR [⟨.box, [.tmp 0], (some 2), none⟩])
 (.seqR [⟨(.load false 1), [.tmp 1], (some 3), none⟩,
 ⟨.callV, [.tmp 3], (some 4), none⟩])), []⟩
theorem c151_ok : compFunc Tryz.prog Tryz.f151 = some c151 := by kernel_rfl
theorem c151_body : hasBody Tryz.prog 151 = true := hasBody_of Tryz.func151 (by kernel_rfl)
/-- (*coachyard/walk.Walk).Hold -/
def c153 : PFn := ⟨11, Tr.ofList (List.replicate 11 undefA), (.seq (.seqR [⟨.move, [.tmp 0], (some 4), none⟩,
 ⟨(.eqPtr true), [.tmp 4, .const (.ptr none)], (some 5), none⟩])
 (.cond (.tmp 5) (.seqR [⟨.move, [.tmp 0], (some 6), none⟩,
 ⟨.move, [.tmp 1], (some 7), none⟩,
 ⟨(.callF 68), [.tmp 7], (some 8), none⟩,
 ⟨.nilCheck, [.tmp 6], (some 9), none⟩,
 ⟨(.fieldAddr 12), [.tmp 9], (some 10), none⟩,
 ⟨(.store 1), [.tmp 10, .tmp 8], none, none⟩])
 .skip)), []⟩
theorem c153_ok : compFunc Tryz.prog Tryz.f153 = some c153 := by kernel_rfl
theorem c153_body : hasBody Tryz.prog 153 = true := hasBody_of Tryz.func153 (by kernel_rfl)
/-- (coachyard/queue.Line).Take$1 -/
def c156 : PFn := ⟨14, Tr.ofList (List.replicate 14 undefA), (.seq (.seq (.seqR [⟨(.load true 2), [.tmp 1], (some 3), none⟩,
 ⟨(.callF 119), [.tmp 3], (some 4), none⟩,
 ⟨.not, [.tmp 4], (some 5), none⟩])
 (.cond (.tmp 5) (.seq (.seqR [⟨.move, [.tmp 0], (some 6), none⟩,
 ⟨(.callF 62), [.tmp 6, .const (.int .i64 2)], (some 7), none⟩])
 .ret)
 .skip))
 (.seqR [⟨(.load true 2), [.tmp 1], (some 8), none⟩,
 ⟨.move, [.tmp 0], (some 9), none⟩,
 ⟨(.build [(.int .i64 0), (.int .i64 0), (.ptr none)] [(0, 2), (2, 1)]), [.tmp 8, .tmp 9], (some 10), none⟩,
 ⟨(.build [(.int .i64 0), (.int .i64 0), (.ptr none), (.int .u64 0), (.int .u64 0), (.int .u64 0), (.int .u64 0), (.int .u32 0), (.int .u32 0)] [(0, 3)]), [.tmp 10], (some 11), none⟩,
 ⟨.box, [.tmp 11], (some 12), none⟩,
 ⟨(.callF 157), [.tmp 12], (some 13), none⟩])), []⟩
theorem c156_ok : compFunc Tryz.prog Tryz.f156 = some c156 := by kernel_rfl
theorem c156_body : hasBody Tryz.prog 156 = true := hasBody_of Tryz.func156 (by kernel_rfl)
/-- (*coachyard/queue.take).begin -/
def c157 : PFn := ⟨14, Tr.ofList (List.replicate 14 undefA), (.drawR [⟨⟨.move, [.tmp 0], (some 2), none⟩, false, false, 0, 0⟩,
 ⟨⟨.nilCheck, [.tmp 2], (some 3), none⟩, false, false, 0, 0⟩,
 ⟨⟨(.fieldAddr 0), [.tmp 3], (some 4), none⟩, false, false, 0, 0⟩,
 ⟨⟨.move, [.tmp 0], (some 5), none⟩, false, false, 0, 0⟩,
 ⟨⟨.nilCheck, [.tmp 5], (some 6), none⟩, false, false, 0, 0⟩,
 ⟨⟨(.fieldAddr 0), [.tmp 6], (some 7), none⟩, false, false, 0, 0⟩,
 ⟨⟨(.fieldAddr 0), [.tmp 7], (some 8), none⟩, false, false, 0, 0⟩,
 ⟨⟨(.fieldAddr 0), [.tmp 8], (some 9), none⟩, false, false, 0, 0⟩,
 ⟨⟨(.load false 1), [.tmp 9], (some 10), none⟩, false, false, 0, 0⟩,
 ⟨⟨.move, [.tmp 0], (some 11), none⟩, false, false, 0, 0⟩,
 ⟨⟨(.mkFunc (.func 178) 1), [.tmp 11], (some 12), none⟩, false, false, 0, 0⟩,
 ⟨⟨(.callF 177), [.tmp 4, .tmp 10, .tmp 12], (some 13), none⟩, true, false, 0, 1⟩]), []⟩
theorem c157_ok : compFunc Tryz.prog Tryz.f157 = some c157 := by kernel_rfl
theorem c157_body : hasBody Tryz.prog 157 = true := hasBody_of Tryz.func157 (by kernel_rfl)
/-- (coachyard/idle.Yard).Search -/
def c158 : PFn := ⟨12, Tr.ofList (List.replicate 12 undefA), (.seq (.seqR [⟨.box, [.tmp 0], (some 2), none⟩,
 ⟨.move, [.const (.ptr none)], (some 4), none⟩])
 (.seq (.drawR [⟨⟨(.load true 2), [.tmp 2], (some 5), none⟩, false, false, 0, 1⟩,
 ⟨⟨.move, [.tmp 1], (some 6), none⟩, false, false, 0, 1⟩,
 ⟨⟨(.load true 2), [.tmp 2], (some 7), none⟩, false, false, 0, 0⟩,
 ⟨⟨.move, [.tmp 1], (some 8), none⟩, false, false, 0, 0⟩,
 ⟨⟨(.callF 165), [.tmp 7, .tmp 8], (some 9), none⟩, true, false, 0, 1⟩,
 ⟨⟨(.mkFunc (.func 179) 1), [.tmp 9], (some 10), none⟩, false, false, 1, 1⟩,
 ⟨⟨(.callF 164), [.tmp 5, .tmp 6, .tmp 10], (some 11), none⟩, true, false, 1, 2⟩,
 ⟨⟨.move, [.tmp 11], (some 4), none⟩, false, false, 2, 2⟩])
 .ret)), [.tmp 4]⟩
theorem c158_ok : compFunc Tryz.prog Tryz.f158 = some c158 := by kernel_rfl
theorem c158_body : hasBody Tryz.prog 158 = true := hasBody_of Tryz.func158 (by kernel_rfl)
/-- (*coachyard/pool.next).searches -/
def c159 : PFn := ⟨16, Tr.ofList (List.replicate 16 undefA), (.seq (.seqR [⟨.box, [.tmp 1], (some 3), none⟩])
 (.seq (.seqR [⟨.move, [.tmp 0], (some 4), none⟩,
 ⟨(.fieldAddr 0), [.tmp 3], (some 5), none⟩,
 ⟨(.load false 1), [.tmp 5], (some 6), none⟩,
 ⟨(.bin .eql), [.tmp 6, .const (.int .i64 0)], (some 7), none⟩,
 ⟨.nilCheck, [.tmp 4], (some 8), none⟩,
 ⟨(.fieldAddr 4), [.tmp 8], (some 9), none⟩,
 ⟨(.store 1), [.tmp 9, .tmp 7], none, none⟩])
 (.seq (.seqR [⟨.move, [.tmp 0], (some 10), none⟩,
 ⟨(.build [(.int .i64 0), (.int .u64 0), (.slice none 0 0 false)] [(0, 1)]), [.const (.int .i64 5)], (some 11), none⟩,
 ⟨.nilCheck, [.tmp 10], (some 12), none⟩,
 ⟨(.fieldAddr 5), [.tmp 12], (some 13), none⟩,
 ⟨(.store 3), [.tmp 13, .tmp 11], none, none⟩])
 (.seqR [⟨.move, [.tmp 0], (some 14), none⟩,
 ⟨(.callF 180), [.tmp 14], (some 15), none⟩])))), []⟩
theorem c159_ok : compFunc Tryz.prog Tryz.f159 = some c159 := by kernel_rfl
theorem c159_body : hasBody Tryz.prog 159 = true := hasBody_of Tryz.func159 (by kernel_rfl)
/-- (coachyard/park.Spot).begun -/
def c160 : PFn := ⟨7, Tr.ofList (List.replicate 7 undefA), (.seq (.seqR [⟨.box, [.tmp 0], (some 2), none⟩,
 ⟨.box, [.tmp 1], (some 3), none⟩,
 ⟨.move, [.const (.ptr none)], (some 4), none⟩])
 (.seq (.seqR [⟨(.mkFunc (.func 181) 0), [.tmp 2, .tmp 3], (some 5), none⟩,
 ⟨(.callF 60), [.tmp 5], (some 6), none⟩,
 ⟨.move, [.tmp 6], (some 4), none⟩])
 .ret)), [.tmp 4]⟩
theorem c160_ok : compFunc Tryz.prog Tryz.f160 = some c160 := by kernel_rfl
theorem c160_body : hasBody Tryz.prog 160 = true := hasBody_of Tryz.func160 (by kernel_rfl)
/-- (coachyard/park.Spot).once$1 -/
def c161 : PFn := ⟨14, Tr.ofList (List.replicate 14 undefA), (.seq (.seqR [⟨.box, [.tmp 0], (some 5), none⟩])
 (.seqR [⟨(.load false 1), [.tmp 5], (some 6), none⟩,
 ⟨(.load false 1), [.tmp 1], (some 7), none⟩,
 ⟨(.fieldAddr 0), [.tmp 2], (some 8), none⟩,
 ⟨(.load false 1), [.tmp 8], (some 9), none⟩,
 ⟨(.load false 1), [.tmp 3], (some 10), none⟩,
 ⟨(.build [(.int .i64 0), (.int .i64 0), (.int .u64 0), (.int .u64 0)] [(0, 1), (1, 1), (2, 1)]), [.tmp 7, .tmp 9, .tmp 10], (some 11), none⟩,
 ⟨(.mkFunc (.func 163) 0), [.tmp 5, .tmp 4], (some 12), none⟩,
 ⟨(.callF 162), [.tmp 6, .tmp 11, .tmp 12], (some 13), none⟩])), []⟩
theorem c161_ok : compFunc Tryz.prog Tryz.f161 = some c161 := by kernel_rfl
theorem c161_body : hasBody Tryz.prog 161 = true := hasBody_of Tryz.func161 (by kernel_rfl)
/-- (*coachyard/walk.Walk).Ask -/
def c162 : PFn := ⟨19, Tr.ofList (List.replicate 19 undefA), (.seq (.seqR [⟨.box, [.tmp 1], (some 4), none⟩])
 (.seq (.seqR [⟨.move, [.tmp 0], (some 6), none⟩,
 ⟨(.callF 124), [.tmp 6], (some 7), none⟩])
 (.cond (.tmp 7) (.seqR [⟨.move, [.tmp 0], (some 8), none⟩,
 ⟨.move, [.tmp 0], (some 9), none⟩,
 ⟨.move, [.tmp 0], (some 10), none⟩,
 ⟨(.load true 4), [.tmp 4], (some 11), none⟩,
 ⟨.move, [.tmp 2], (some 12), none⟩,
 ⟨.nilCheck, [.tmp 8], (some 13), none⟩,
 ⟨(.fieldAddr 0), [.tmp 13], (some 14), none⟩,
 ⟨(.store 4), [.tmp 14, .tmp 11], none, none⟩,
 ⟨.nilCheck, [.tmp 9], (some 15), none⟩,
 ⟨(.fieldAddr 4), [.tmp 15], (some 16), none⟩,
 ⟨(.store 1), [.tmp 16, .tmp 12], none, none⟩,
 ⟨.nilCheck, [.tmp 10], (some 17), none⟩,
 ⟨(.fieldAddr 5), [.tmp 17], (some 18), none⟩,
 ⟨(.store 1), [.tmp 18, .const (.bool true)], none, none⟩])
 .skip))), []⟩
theorem c162_ok : compFunc Tryz.prog Tryz.f162 = some c162 := by kernel_rfl
theorem c162_body : hasBody Tryz.prog 162 = true := hasBody_of Tryz.func162 (by kernel_rfl)
/-- (coachyard/park.Spot).once$1$1 -/
def c163 : PFn := ⟨12, Tr.ofList (List.replicate 12 undefA), (.drawR [⟨⟨(.load false 1), [.tmp 2], (some 6), none⟩, false, false, 0, 1⟩,
 ⟨⟨(.load false 1), [.tmp 3], (some 7), none⟩, false, false, 0, 0⟩,
 ⟨⟨.move, [.tmp 0], (some 8), none⟩, false, false, 0, 0⟩,
 ⟨⟨.callV, [.tmp 7, .tmp 8], (some 9), none⟩, true, false, 0, 1⟩,
 ⟨⟨(.build [(.int .i64 0), (.int .u64 0), (.slice none 0 0 false)] [(1, 1)]), [.tmp 9], (some 10), none⟩, false, false, 1, 1⟩,
 ⟨⟨(.callF 99), [.tmp 6, .tmp 10], (some 11), none⟩, true, false, 1, 2⟩]), []⟩
theorem c163_ok : compFunc Tryz.prog Tryz.f163 = some c163 := by kernel_rfl
theorem c163_body : hasBody Tryz.prog 163 = true := hasBody_of Tryz.func163 (by kernel_rfl)
/-- (coachyard/idle.Yard).begun -/
def c164 : PFn := ⟨9, Tr.ofList (List.replicate 9 undefA), (.seq (.seqR [⟨.box, [.tmp 0], (some 3), none⟩,
 ⟨.box, [.tmp 1], (some 4), none⟩,
 ⟨.box, [.tmp 2], (some 5), none⟩,
 ⟨.move, [.const (.ptr none)], (some 6), none⟩])
 (.seq (.seqR [⟨(.mkFunc (.func 183) 0), [.tmp 3, .tmp 4, .tmp 5], (some 7), none⟩,
 ⟨(.callF 60), [.tmp 7], (some 8), none⟩,
 ⟨.move, [.tmp 8], (some 6), none⟩])
 .ret)), [.tmp 6]⟩
theorem c164_ok : compFunc Tryz.prog Tryz.f164 = some c164 := by kernel_rfl
theorem c164_body : hasBody Tryz.prog 164 = true := hasBody_of Tryz.func164 (by kernel_rfl)
/-- (coachyard/idle.Yard).of -/
def c165 : PFn := ⟨24, Tr.ofList (List.replicate 24 undefA), (.seq (.seqR [⟨.box, [.tmp 0], (some 2), none⟩,
 ⟨(.new [(.int .i64 0), (.int .i64 0), (.int .u32 0)]), [], (some 4), none⟩])
 (.seq (.seq (.seqR [⟨.move, [.tmp 1], (some 5), none⟩,
 ⟨(.bin .lss), [.tmp 5, .const (.int .i64 0)], (some 6), none⟩,
 ⟨.move, [.tmp 6], (some 7), none⟩,
 ⟨.move, [.tmp 1], (some 8), some (7, false)⟩,
 ⟨(.fieldAddr 1), [.tmp 2], (some 9), some (7, false)⟩,
 ⟨(.load false 1), [.tmp 9], (some 10), some (7, false)⟩,
 ⟨(.bin .geq), [.tmp 8, .tmp 10], (some 11), some (7, false)⟩,
 ⟨.pick, [.tmp 7, .const (.bool true), .tmp 11], (some 12), none⟩,
 ⟨.move, [.tmp 12], (some 13), none⟩,
 ⟨(.load true 2), [.tmp 2], (some 14), some (13, false)⟩,
 ⟨(.callF 184), [.tmp 14], (some 15), some (13, false)⟩,
 ⟨.not, [.tmp 15], (some 16), some (13, false)⟩,
 ⟨.pick, [.tmp 13, .const (.bool true), .tmp 16], (some 17), none⟩])
 (.cond (.tmp 17) (.seq (.seqR [⟨(.load true 2), [.tmp 2], (some 18), none⟩,
 ⟨(.build [(.int .i64 0), (.int .i64 0), (.int .u32 0)] [(0, 2)]), [.tmp 18], (some 19), none⟩,
 ⟨(.store 3), [.tmp 4, .tmp 19], none, none⟩])
 .ret)
 .skip))
 (.seq (.drawR [⟨⟨(.load true 2), [.tmp 2], (some 20), none⟩, false, false, 0, 0⟩,
 ⟨⟨.move, [.tmp 1], (some 21), none⟩, false, false, 0, 0⟩,
 ⟨⟨(.bin .shl), [.const (.int .u32 1), .tmp 21], (some 22), none⟩, false, false, 0, 0⟩,
 ⟨⟨(.build [(.int .i64 0), (.int .i64 0), (.int .u32 0)] [(0, 2), (2, 1)]), [.tmp 20, .tmp 22], (some 23), none⟩, false, false, 0, 0⟩,
 ⟨⟨(.store 3), [.tmp 4, .tmp 23], none, none⟩, true, false, 0, 1⟩])
 .ret))), [.cell 4 true 3]⟩
theorem c165_ok : compFunc Tryz.prog Tryz.f165 = some c165 := by kernel_rfl
theorem c165_body : hasBody Tryz.prog 165 = true := hasBody_of Tryz.func165 (by kernel_rfl)
/-- (coachyard/idle.one).sleep -/
def c166 : PFn := ⟨14, Tr.ofList (List.replicate 14 undefA), (.seq (.seqR [⟨.box, [.tmp 0], (some 2), none⟩,
 ⟨.box, [.tmp 1], (some 3), none⟩,
 ⟨(.new [(.int .u32 0), (.int .u32 0)]), [], (some 4), none⟩,
 ⟨.move, [.const (.int .u64 0)], (some 5), none⟩,
 ⟨.move, [.const (.int .i64 0)], (some 6), none⟩])
 (.seq (.seqR [⟨(.fieldAddr 1), [.tmp 3], (some 7), none⟩,
 ⟨(.load false 1), [.tmp 7], (some 8), none⟩,
 ⟨(.fieldAddr 2), [.tmp 2], (some 9), none⟩,
 ⟨(.load false 1), [.tmp 9], (some 10), none⟩,
 ⟨(.bin .or), [.tmp 8, .tmp 10], (some 11), none⟩,
 ⟨(.fieldAddr 1), [.tmp 3], (some 12), none⟩,
 ⟨(.store 1), [.tmp 12, .tmp 11], none, none⟩])
 (.seq (.seqR [⟨(.load true 2), [.tmp 3], (some 13), none⟩,
 ⟨(.store 2), [.tmp 4, .tmp 13], none, none⟩,
 ⟨.move, [.const (.int .u64 0)], (some 5), none⟩,
 ⟨.move, [.const (.int .i64 0)], (some 6), none⟩])
 .ret))), [.cell 4 true 2, .tmp 5, .tmp 6]⟩
theorem c166_ok : compFunc Tryz.prog Tryz.f166 = some c166 := by kernel_rfl
theorem c166_body : hasBody Tryz.prog 166 = true := hasBody_of Tryz.func166 (by kernel_rfl)
/-- (coachyard/local.Row).Peek -/
def c167 : PFn := ⟨9, Tr.ofList (List.replicate 9 undefA), (.seq (.seqR [⟨.box, [.tmp 0], (some 1), none⟩,
 ⟨.move, [.const (.ptr none)], (some 2), none⟩])
 (.seq (.seq (.seqR [⟨(.load true 3), [.tmp 1], (some 3), none⟩,
 ⟨(.callF 186), [.tmp 3], (some 4), none⟩,
 ⟨.not, [.tmp 4], (some 5), none⟩])
 (.cond (.tmp 5) (.seq (.seqR [⟨(.callF 187), [], (some 6), none⟩,
 ⟨.move, [.tmp 6], (some 2), none⟩])
 .ret)
 .skip))
 (.seq (.seqR [⟨(.mkFunc (.func 188) 0), [.tmp 1], (some 7), none⟩,
 ⟨(.callF 60), [.tmp 7], (some 8), none⟩,
 ⟨.move, [.tmp 8], (some 2), none⟩])
 .ret))), [.tmp 2]⟩
theorem c167_ok : compFunc Tryz.prog Tryz.f167 = some c167 := by kernel_rfl
theorem c167_body : hasBody Tryz.prog 167 = true := hasBody_of Tryz.func167 (by kernel_rfl)
/-- (*coachyard/pool.parker).seen -/
def c168 : PFn := ⟨24, Tr.ofList (List.replicate 24 undefA), (.seq (.seqR [⟨.box, [.tmp 1], (some 3), none⟩])
 (.seq (.seq (.seqR [⟨(.fieldAddr 0), [.tmp 3], (some 4), none⟩,
 ⟨(.load false 1), [.tmp 4], (some 5), none⟩,
 ⟨(.bin .neq), [.tmp 5, .const (.int .i64 0)], (some 6), none⟩,
 ⟨.move, [.tmp 6], (some 7), none⟩,
 ⟨(.fieldAddr 1), [.tmp 3], (some 8), some (7, false)⟩,
 ⟨(.load false 1), [.tmp 8], (some 9), some (7, false)⟩,
 ⟨(.bin .neq), [.tmp 9, .const (.int .u64 0)], (some 10), some (7, false)⟩,
 ⟨.pick, [.tmp 7, .const (.bool true), .tmp 10], (some 11), none⟩])
 (.cond (.tmp 11) (.seq (.seqR [⟨.move, [.tmp 0], (some 12), none⟩,
 ⟨(.load true 3), [.tmp 3], (some 13), none⟩,
 ⟨(.callF 171), [.tmp 12, .tmp 13], (some 14), none⟩])
 .ret)
 .skip))
 (.seq (.seqR [⟨.move, [.tmp 0], (some 15), none⟩,
 ⟨.nilCheck, [.tmp 15], (some 16), none⟩,
 ⟨(.fieldAddr 4), [.tmp 16], (some 17), none⟩,
 ⟨(.load false 1), [.tmp 17], (some 18), none⟩,
 ⟨(.bin .add), [.tmp 18, .const (.int .i64 1)], (some 19), none⟩,
 ⟨.nilCheck, [.tmp 15], (some 20), none⟩,
 ⟨(.fieldAddr 4), [.tmp 20], (some 21), none⟩,
 ⟨(.store 1), [.tmp 21, .tmp 19], none, none⟩])
 (.seqR [⟨.move, [.tmp 0], (some 22), none⟩,
 ⟨(.callF 138), [.tmp 22], (some 23), none⟩])))), []⟩
theorem c168_ok : compFunc Tryz.prog Tryz.f168 = some c168 := by kernel_rfl
theorem c168_body : hasBody Tryz.prog 168 = true := hasBody_of Tryz.func168 (by kernel_rfl)
/-- coachyard/local.Peek -/
def c169 : PFn := ⟨9, Tr.ofList (List.replicate 9 undefA), (.seq (.seqR [⟨.box, [.tmp 0], (some 1), none⟩,
 ⟨.move, [.const (.ptr none)], (some 2), none⟩])
 (.seq (.seq (.seqR [⟨(.load true 2), [.tmp 1], (some 3), none⟩,
 ⟨(.callF 119), [.tmp 3], (some 4), none⟩,
 ⟨.not, [.tmp 4], (some 5), none⟩])
 (.cond (.tmp 5) (.seq (.seqR [⟨(.callF 187), [], (some 6), none⟩,
 ⟨.move, [.tmp 6], (some 2), none⟩])
 .ret)
 .skip))
 (.seq (.seqR [⟨(.mkFunc (.func 194) 0), [.tmp 1], (some 7), none⟩,
 ⟨(.callF 60), [.tmp 7], (some 8), none⟩,
 ⟨.move, [.tmp 8], (some 2), none⟩])
 .ret))), [.tmp 2]⟩
theorem c169_ok : compFunc Tryz.prog Tryz.f169 = some c169 := by kernel_rfl
theorem c169_body : hasBody Tryz.prog 169 = true := hasBody_of Tryz.func169 (by kernel_rfl)
/-- (coachyard/park.Spot).Wait -/
def c170 : PFn := ⟨8, Tr.ofList (List.replicate 8 undefA), (.seq (.seqR [⟨.box, [.tmp 0], (some 2), none⟩,
 ⟨.box, [.tmp 1], (some 3), none⟩,
 ⟨.move, [.const (.ptr none)], (some 4), none⟩])
 (.seq (.seqR [⟨(.load true 1), [.tmp 2], (some 5), none⟩,
 ⟨(.mkFunc (.func 197) 0), [.tmp 2, .tmp 3], (some 6), none⟩,
 ⟨(.callF 160), [.tmp 5, .tmp 6], (some 7), none⟩,
 ⟨.move, [.tmp 7], (some 4), none⟩])
 .ret)), [.tmp 4]⟩
theorem c170_ok : compFunc Tryz.prog Tryz.f170 = some c170 := by kernel_rfl
theorem c170_body : hasBody Tryz.prog 170 = true := hasBody_of Tryz.func170 (by kernel_rfl)
/-- (*coachyard/pool.parker).leave -/
def c171 : PFn := ⟨27, Tr.ofList (List.replicate 27 undefA), (.seq (.seqR [⟨.box, [.tmp 1], (some 3), none⟩])
 (.drawR [⟨⟨.move, [.tmp 0], (some 4), none⟩, false, false, 0, 2⟩,
 ⟨⟨.nilCheck, [.tmp 4], (some 5), none⟩, false, false, 0, 2⟩,
 ⟨⟨(.fieldAddr 0), [.tmp 5], (some 6), none⟩, false, false, 0, 2⟩,
 ⟨⟨(.fieldAddr 1), [.tmp 6], (some 7), none⟩, false, false, 0, 2⟩,
 ⟨⟨(.load false 1), [.tmp 7], (some 8), none⟩, false, false, 0, 2⟩,
 ⟨⟨.move, [.tmp 0], (some 9), none⟩, false, false, 0, 0⟩,
 ⟨⟨.nilCheck, [.tmp 9], (some 10), none⟩, false, false, 0, 0⟩,
 ⟨⟨(.fieldAddr 0), [.tmp 10], (some 11), none⟩, false, false, 0, 0⟩,
 ⟨⟨(.fieldAddr 0), [.tmp 11], (some 12), none⟩, false, false, 0, 0⟩,
 ⟨⟨(.load false 1), [.tmp 12], (some 13), none⟩, false, false, 0, 0⟩,
 ⟨⟨.nilCheck, [.tmp 13], (some 14), none⟩, false, false, 0, 0⟩,
 ⟨⟨(.fieldAddr 0), [.tmp 14], (some 15), none⟩, false, false, 0, 0⟩,
 ⟨⟨(.load true 4), [.tmp 15], (some 16), none⟩, false, false, 0, 0⟩,
 ⟨⟨(.callF 135), [.tmp 16], (some 17), none⟩, true, false, 0, 1⟩,
 ⟨⟨.move, [.tmp 0], (some 18), none⟩, false, false, 0, 1⟩,
 ⟨⟨.nilCheck, [.tmp 18], (some 19), none⟩, false, false, 0, 1⟩,
 ⟨⟨(.fieldAddr 0), [.tmp 19], (some 20), none⟩, false, false, 0, 1⟩,
 ⟨⟨(.fieldAddr 2), [.tmp 20], (some 21), none⟩, false, false, 0, 1⟩,
 ⟨⟨(.load false 1), [.tmp 21], (some 22), none⟩, false, false, 0, 1⟩,
 ⟨⟨(.callF 199), [.tmp 17, .tmp 22], (some 23), none⟩, true, false, 1, 2⟩,
 ⟨⟨.move, [.tmp 0], (some 24), none⟩, false, false, 0, 2⟩,
 ⟨⟨(.mkFunc (.func 200) 1), [.tmp 24], (some 25), none⟩, false, false, 0, 2⟩,
 ⟨⟨(.callF 92), [.tmp 8, .tmp 23, .tmp 25], (some 26), none⟩, true, false, 2, 3⟩])), []⟩
theorem c171_ok : compFunc Tryz.prog Tryz.f171 = some c171 := by kernel_rfl
theorem c171_body : hasBody Tryz.prog 171 = true := hasBody_of Tryz.func171 (by kernel_rfl)
/-- (coachyard/idle.one).choose -/
def c172 : PFn := ⟨41, Tr.ofList (List.replicate 41 undefA), (.seq (.seqR [⟨.box, [.tmp 0], (some 2), none⟩,
 ⟨.box, [.tmp 1], (some 3), none⟩,
 ⟨(.new [(.int .u32 0), (.int .u32 0)]), [], (some 4), none⟩,
 ⟨.move, [.const (.int .u64 0)], (some 5), none⟩,
 ⟨.move, [.const (.int .i64 0)], (some 6), none⟩])
 (.seq (.drawR [⟨⟨(.fieldAddr 1), [.tmp 3], (some 10), none⟩, false, false, 0, 1⟩,
 ⟨⟨(.load false 1), [.tmp 10], (some 11), none⟩, false, false, 0, 1⟩,
 ⟨⟨(.fieldAddr 0), [.tmp 2], (some 12), none⟩, false, false, 0, 0⟩,
 ⟨⟨(.load true 2), [.tmp 12], (some 13), none⟩, false, false, 0, 0⟩,
 ⟨⟨(.callF 202), [.tmp 13], (some 14), none⟩, true, false, 0, 1⟩,
 ⟨⟨(.bin .and), [.tmp 11, .tmp 14], (some 15), none⟩, false, false, 1, 1⟩,
 ⟨⟨(.conv .u64), [.tmp 15], (some 16), none⟩, false, false, 1, 1⟩,
 ⟨⟨(.callF 201), [.tmp 16], (some 17), none⟩, true, false, 1, 2⟩,
 ⟨⟨.move, [.tmp 17], (some 9), none⟩, false, false, 2, 2⟩,
 ⟨⟨(.extract 0), [.tmp 9], (some 18), none⟩, false, false, 2, 2⟩,
 ⟨⟨(.extract 1), [.tmp 9], (some 19), none⟩, false, false, 2, 2⟩,
 ⟨⟨.move, [.tmp 18], (some 7), none⟩, false, false, 2, 2⟩,
 ⟨⟨.move, [.tmp 19], (some 8), none⟩, false, false, 2, 2⟩])
 (.seq (.seq (.seqR [⟨(.fieldAddr 0), [.tmp 3], (some 20), none⟩,
 ⟨(.load false 1), [.tmp 20], (some 21), none⟩,
 ⟨(.bin .gtr), [.tmp 21, .const (.int .u32 0)], (some 22), none⟩,
 ⟨.move, [.tmp 22], (some 23), none⟩,
 ⟨.move, [.tmp 8], (some 24), some (23, false)⟩,
 ⟨.not, [.tmp 24], (some 25), some (23, false)⟩,
 ⟨.pick, [.tmp 23, .const (.bool true), .tmp 25], (some 26), none⟩])
 (.cond (.tmp 26) (.seq (.seqR [⟨(.build [(.int .u32 0), (.int .u32 0)] []), [], (some 27), none⟩,
 ⟨(.store 2), [.tmp 4, .tmp 27], none, none⟩,
 ⟨.move, [.const (.int .u64 0)], (some 5), none⟩,
 ⟨.move, [.const (.int .i64 5)], (some 6), none⟩])
 .ret)
 .skip))
 (.seq (.seqR [⟨(.fieldAddr 0), [.tmp 3], (some 28), none⟩,
 ⟨(.load false 1), [.tmp 28], (some 29), none⟩,
 ⟨(.bin .add), [.tmp 29, .const (.int .u32 1)], (some 30), none⟩,
 ⟨(.fieldAddr 0), [.tmp 3], (some 31), none⟩,
 ⟨(.store 1), [.tmp 31, .tmp 30], none, none⟩])
 (.seq (.drawR [⟨⟨(.fieldAddr 1), [.tmp 3], (some 32), none⟩, false, false, 0, 0⟩,
 ⟨⟨(.load false 1), [.tmp 32], (some 33), none⟩, false, false, 0, 0⟩,
 ⟨⟨.move, [.tmp 7], (some 34), none⟩, false, false, 0, 0⟩,
 ⟨⟨(.bin .shl), [.const (.int .u32 1), .tmp 34], (some 35), none⟩, false, false, 0, 0⟩,
 ⟨⟨(.bin .andNot), [.tmp 33, .tmp 35], (some 36), none⟩, false, false, 0, 0⟩,
 ⟨⟨(.fieldAddr 1), [.tmp 3], (some 37), none⟩, false, false, 0, 0⟩,
 ⟨⟨(.store 1), [.tmp 37, .tmp 36], none, none⟩, true, false, 0, 1⟩])
 (.seq (.seqR [⟨(.load true 2), [.tmp 3], (some 38), none⟩,
 ⟨.move, [.tmp 7], (some 39), none⟩,
 ⟨(.conv .u64), [.tmp 39], (some 40), none⟩,
 ⟨(.store 2), [.tmp 4, .tmp 38], none, none⟩,
 ⟨.move, [.tmp 40], (some 5), none⟩,
 ⟨.move, [.const (.int .i64 0)], (some 6), none⟩])
 .ret)))))), [.cell 4 true 2, .tmp 5, .tmp 6]⟩
theorem c172_ok : compFunc Tryz.prog Tryz.f172 = some c172 := by kernel_rfl
theorem c172_body : hasBody Tryz.prog 172 = true := hasBody_of Tryz.func172 (by kernel_rfl)
/-- (coachyard/park.Spot).Call$1 -/
def c173 : PFn := ⟨5, Tr.ofList (List.replicate 5 undefA), (.seq (.seqR [⟨.move, [.const (.int .u64 0)], (some 2), none⟩])
 (.seq (.seqR [⟨.move, [.tmp 0], (some 3), none⟩,
 ⟨(.bin .and), [.tmp 3, .const (.int .u64 1)], (some 4), none⟩,
 ⟨.move, [.tmp 4], (some 2), none⟩])
 .ret)), [.tmp 2]⟩
theorem c173_ok : compFunc Tryz.prog Tryz.f173 = some c173 := by kernel_rfl
theorem c173_body : hasBody Tryz.prog 173 = true := hasBody_of Tryz.func173 (by kernel_rfl)
/-- (*coachyard/queue.way).load -/
def c177 : PFn := ⟨14, Tr.ofList (List.replicate 14 undefA), (.seqR [⟨.move, [.tmp 0], (some 6), none⟩,
 ⟨.nilCheck, [.tmp 6], (some 7), none⟩,
 ⟨(.fieldAddr 2), [.tmp 7], (some 8), none⟩,
 ⟨(.load false 1), [.tmp 8], (some 9), none⟩,
 ⟨.move, [.tmp 1], (some 10), none⟩,
 ⟨(.build [(.int .i64 0), (.int .i64 0), (.int .u64 0), (.int .u64 0)] [(0, 1), (1, 1)]), [.const (.int .i64 1), .tmp 10], (some 11), none⟩,
 ⟨.move, [.tmp 2], (some 12), none⟩,
 ⟨(.callF 162), [.tmp 9, .tmp 11, .tmp 12], (some 13), none⟩]), []⟩
theorem c177_ok : compFunc Tryz.prog Tryz.f177 = some c177 := by kernel_rfl
theorem c177_body : hasBody Tryz.prog 177 = true := hasBody_of Tryz.func177 (by kernel_rfl)
/-- (*coachyard/queue.take).atHead -/
def c178 : PFn := ⟨47, Tr.ofList (List.replicate 47 undefA), (.seq (.seqR [⟨.move, [.tmp 0], (some 8), none⟩,
 ⟨.move, [.tmp 1], (some 9), none⟩,
 ⟨.nilCheck, [.tmp 8], (some 10), none⟩,
 ⟨(.fieldAddr 3), [.tmp 10], (some 11), none⟩,
 ⟨(.store 1), [.tmp 11, .tmp 9], none, none⟩])
 (.seq (.seqR [⟨.move, [.tmp 0], (some 13), none⟩,
 ⟨.nilCheck, [.tmp 13], (some 14), none⟩,
 ⟨(.fieldAddr 0), [.tmp 14], (some 15), none⟩,
 ⟨(.fieldAddr 0), [.tmp 15], (some 16), none⟩,
 ⟨(.load true 2), [.tmp 16], (some 17), none⟩,
 ⟨.move, [.tmp 1], (some 18), none⟩,
 ⟨(.callF 107), [.tmp 17, .tmp 18], (some 19), none⟩,
 ⟨.move, [.tmp 19], (some 12), none⟩,
 ⟨(.extract 0), [.tmp 12], (some 20), none⟩,
 ⟨(.extract 1), [.tmp 12], (some 21), none⟩,
 ⟨.move, [.tmp 20], (some 6), none⟩,
 ⟨.move, [.tmp 21], (some 7), none⟩])
 (.seq (.seq (.seqR [⟨.move, [.tmp 7], (some 22), none⟩,
 ⟨.not, [.tmp 22], (some 23), none⟩])
 (.cond (.tmp 23) (.seq (.seqR [⟨.move, [.tmp 0], (some 24), none⟩,
 ⟨.nilCheck, [.tmp 24], (some 25), none⟩,
 ⟨(.fieldAddr 0), [.tmp 25], (some 26), none⟩,
 ⟨(.fieldAddr 2), [.tmp 26], (some 27), none⟩,
 ⟨(.load false 1), [.tmp 27], (some 28), none⟩,
 ⟨(.callF 62), [.tmp 28, .const (.int .i64 9)], (some 29), none⟩])
 .ret)
 .skip))
 (.seq (.seqR [⟨.move, [.tmp 0], (some 30), none⟩,
 ⟨.move, [.tmp 6], (some 31), none⟩,
 ⟨.nilCheck, [.tmp 30], (some 32), none⟩,
 ⟨(.fieldAddr 7), [.tmp 32], (some 33), none⟩,
 ⟨(.store 1), [.tmp 33, .tmp 31], none, none⟩])
 (.drawR [⟨⟨.move, [.tmp 0], (some 34), none⟩, false, false, 0, 0⟩,
 ⟨⟨.nilCheck, [.tmp 34], (some 35), none⟩, false, false, 0, 0⟩,
 ⟨⟨(.fieldAddr 0), [.tmp 35], (some 36), none⟩, false, false, 0, 0⟩,
 ⟨⟨.move, [.tmp 0], (some 37), none⟩, false, false, 0, 0⟩,
 ⟨⟨.nilCheck, [.tmp 37], (some 38), none⟩, false, false, 0, 0⟩,
 ⟨⟨(.fieldAddr 0), [.tmp 38], (some 39), none⟩, false, false, 0, 0⟩,
 ⟨⟨(.fieldAddr 0), [.tmp 39], (some 40), none⟩, false, false, 0, 0⟩,
 ⟨⟨(.fieldAddr 0), [.tmp 40], (some 41), none⟩, false, false, 0, 0⟩,
 ⟨⟨(.load false 1), [.tmp 41], (some 42), none⟩, false, false, 0, 0⟩,
 ⟨⟨(.bin .add), [.tmp 42, .const (.int .i64 1)], (some 43), none⟩, false, false, 0, 0⟩,
 ⟨⟨.move, [.tmp 0], (some 44), none⟩, false, false, 0, 0⟩,
 ⟨⟨(.mkFunc (.func 210) 1), [.tmp 44], (some 45), none⟩, false, false, 0, 0⟩,
 ⟨⟨(.callF 177), [.tmp 36, .tmp 43, .tmp 45], (some 46), none⟩, true, false, 0, 1⟩]))))), []⟩
theorem c178_ok : compFunc Tryz.prog Tryz.f178 = some c178 := by kernel_rfl
theorem c178_body : hasBody Tryz.prog 178 = true := hasBody_of Tryz.func178 (by kernel_rfl)
/-- (coachyard/idle.one).search -/
def c179 : PFn := ⟨22, Tr.ofList (List.replicate 22 undefA), (.seq (.seqR [⟨.box, [.tmp 0], (some 2), none⟩,
 ⟨.box, [.tmp 1], (some 3), none⟩,
 ⟨(.new [(.int .u32 0), (.int .u32 0)]), [], (some 4), none⟩,
 ⟨.move, [.const (.int .u64 0)], (some 5), none⟩,
 ⟨.move, [.const (.int .i64 0)], (some 6), none⟩])
 (.seq (.seq (.seqR [⟨(.fieldAddr 0), [.tmp 3], (some 7), none⟩,
 ⟨(.load false 1), [.tmp 7], (some 8), none⟩,
 ⟨(.conv .u64), [.tmp 8], (some 9), none⟩,
 ⟨(.bin .mul), [.const (.int .u64 2), .tmp 9], (some 10), none⟩,
 ⟨(.fieldAddr 0), [.tmp 2], (some 11), none⟩,
 ⟨(.fieldAddr 1), [.tmp 11], (some 12), none⟩,
 ⟨(.load false 1), [.tmp 12], (some 13), none⟩,
 ⟨(.conv .u64), [.tmp 13], (some 14), none⟩,
 ⟨(.bin .geq), [.tmp 10, .tmp 14], (some 15), none⟩])
 (.cond (.tmp 15) (.seq (.seqR [⟨(.build [(.int .u32 0), (.int .u32 0)] []), [], (some 16), none⟩,
 ⟨(.store 2), [.tmp 4, .tmp 16], none, none⟩,
 ⟨.move, [.const (.int .u64 0)], (some 5), none⟩,
 ⟨.move, [.const (.int .i64 8)], (some 6), none⟩])
 .ret)
 .skip))
 (.seq (.seqR [⟨(.fieldAddr 0), [.tmp 3], (some 17), none⟩,
 ⟨(.load false 1), [.tmp 17], (some 18), none⟩,
 ⟨(.bin .add), [.tmp 18, .const (.int .u32 1)], (some 19), none⟩,
 ⟨(.fieldAddr 0), [.tmp 3], (some 20), none⟩,
 ⟨(.store 1), [.tmp 20, .tmp 19], none, none⟩])
 (.seq (.seqR [⟨(.load true 2), [.tmp 3], (some 21), none⟩,
 ⟨(.store 2), [.tmp 4, .tmp 21], none, none⟩,
 ⟨.move, [.const (.int .u64 0)], (some 5), none⟩,
 ⟨.move, [.const (.int .i64 0)], (some 6), none⟩])
 .ret)))), [.cell 4 true 2, .tmp 5, .tmp 6]⟩
theorem c179_ok : compFunc Tryz.prog Tryz.f179 = some c179 := by kernel_rfl
theorem c179_body : hasBody Tryz.prog 179 = true := hasBody_of Tryz.func179 (by kernel_rfl)
/-- (*coachyard/pool.next).steal -/
def c180 : PFn := ⟨42, Tr.ofList (List.replicate 42 undefA), (.seq (.seq (.seqR [⟨.move, [.tmp 0], (some 2), none⟩,
 ⟨.nilCheck, [.tmp 2], (some 3), none⟩,
 ⟨(.fieldAddr 3), [.tmp 3], (some 4), none⟩,
 ⟨(.load false 1), [.tmp 4], (some 5), none⟩,
 ⟨.lenS, [.tmp 5], (some 6), none⟩,
 ⟨(.bin .eql), [.tmp 6, .const (.int .i64 0)], (some 7), none⟩])
 (.cond (.tmp 7) (.seq (.seqR [⟨.move, [.tmp 0], (some 8), none⟩,
 ⟨(.callF 211), [.tmp 8], (some 9), none⟩])
 .ret)
 .skip))
 (.drawR [⟨⟨.move, [.tmp 0], (some 10), none⟩, false, false, 0, 3⟩,
 ⟨⟨.nilCheck, [.tmp 10], (some 11), none⟩, false, false, 0, 3⟩,
 ⟨⟨(.fieldAddr 0), [.tmp 11], (some 12), none⟩, false, false, 0, 3⟩,
 ⟨⟨(.fieldAddr 1), [.tmp 12], (some 13), none⟩, false, false, 0, 3⟩,
 ⟨⟨(.load false 1), [.tmp 13], (some 14), none⟩, false, false, 0, 3⟩,
 ⟨⟨.move, [.tmp 0], (some 15), none⟩, false, false, 0, 0⟩,
 ⟨⟨.nilCheck, [.tmp 15], (some 16), none⟩, false, false, 0, 0⟩,
 ⟨⟨(.fieldAddr 0), [.tmp 16], (some 17), none⟩, false, false, 0, 0⟩,
 ⟨⟨(.fieldAddr 0), [.tmp 17], (some 18), none⟩, false, false, 0, 0⟩,
 ⟨⟨(.load false 1), [.tmp 18], (some 19), none⟩, false, false, 0, 0⟩,
 ⟨⟨.move, [.tmp 0], (some 20), none⟩, false, false, 0, 0⟩,
 ⟨⟨.nilCheck, [.tmp 20], (some 21), none⟩, false, false, 0, 0⟩,
 ⟨⟨(.fieldAddr 3), [.tmp 21], (some 22), none⟩, false, false, 0, 0⟩,
 ⟨⟨(.load false 1), [.tmp 22], (some 23), none⟩, false, false, 0, 0⟩,
 ⟨⟨(.indexAddrS 1), [.tmp 23, .const (.int .i64 0)], (some 24), none⟩, false, false, 0, 0⟩,
 ⟨⟨(.load false 1), [.tmp 24], (some 25), none⟩, false, false, 0, 0⟩,
 ⟨⟨(.callF 72), [.tmp 19, .tmp 25], (some 26), none⟩, true, false, 0, 1⟩,
 ⟨⟨.move, [.tmp 0], (some 27), none⟩, false, false, 0, 1⟩,
 ⟨⟨.nilCheck, [.tmp 27], (some 28), none⟩, false, false, 0, 1⟩,
 ⟨⟨(.fieldAddr 0), [.tmp 28], (some 29), none⟩, false, false, 0, 1⟩,
 ⟨⟨(.fieldAddr 0), [.tmp 29], (some 30), none⟩, false, false, 0, 1⟩,
 ⟨⟨(.load false 1), [.tmp 30], (some 31), none⟩, false, false, 0, 1⟩,
 ⟨⟨.move, [.tmp 0], (some 32), none⟩, false, false, 0, 1⟩,
 ⟨⟨.nilCheck, [.tmp 32], (some 33), none⟩, false, false, 0, 1⟩,
 ⟨⟨(.fieldAddr 0), [.tmp 33], (some 34), none⟩, false, false, 0, 1⟩,
 ⟨⟨(.fieldAddr 2), [.tmp 34], (some 35), none⟩, false, false, 0, 1⟩,
 ⟨⟨(.load false 1), [.tmp 35], (some 36), none⟩, false, false, 0, 1⟩,
 ⟨⟨(.callF 72), [.tmp 31, .tmp 36], (some 37), none⟩, true, false, 1, 2⟩,
 ⟨⟨(.callF 212), [.tmp 26, .tmp 37], (some 38), none⟩, true, false, 2, 3⟩,
 ⟨⟨.move, [.tmp 0], (some 39), none⟩, false, false, 0, 3⟩,
 ⟨⟨(.mkFunc (.func 213) 1), [.tmp 39], (some 40), none⟩, false, false, 0, 3⟩,
 ⟨⟨(.callF 92), [.tmp 14, .tmp 38, .tmp 40], (some 41), none⟩, true, false, 3, 4⟩])), []⟩
theorem c180_ok : compFunc Tryz.prog Tryz.f180 = some c180 := by kernel_rfl
theorem c180_body : hasBody Tryz.prog 180 = true := hasBody_of Tryz.func180 (by kernel_rfl)
/-- (coachyard/park.Spot).begun$1 -/
def c181 : PFn := ⟨12, Tr.ofList (List.replicate 12 undefA), (.seq (.seq (.seqR [⟨(.load true 1), [.tmp 1], (some 4), none⟩,
 ⟨(.callF 182), [.tmp 4], (some 5), none⟩,
 ⟨.not, [.tmp 5], (some 6), none⟩])
 (.cond (.tmp 6) (.seq (.seqR [⟨.move, [.tmp 0], (some 7), none⟩,
 ⟨(.callF 62), [.tmp 7, .const (.int .i64 2)], (some 8), none⟩])
 .ret)
 .skip))
 (.seqR [⟨(.load false 1), [.tmp 2], (some 9), none⟩,
 ⟨.move, [.tmp 0], (some 10), none⟩,
 ⟨.callV, [.tmp 9, .tmp 10], (some 11), none⟩])), []⟩
theorem c181_ok : compFunc Tryz.prog Tryz.f181 = some c181 := by kernel_rfl
theorem c181_body : hasBody Tryz.prog 181 = true := hasBody_of Tryz.func181 (by kernel_rfl)
/-- (coachyard/park.Spot).right -/
def c182 : PFn := ⟨11, Tr.ofList (List.replicate 11 undefA), (.seq (.seqR [⟨.box, [.tmp 0], (some 1), none⟩,
 ⟨.move, [.const (.bool false)], (some 2), none⟩])
 (.seq (.seqR [⟨(.fieldAddr 0), [.tmp 1], (some 3), none⟩,
 ⟨(.load false 1), [.tmp 3], (some 4), none⟩,
 ⟨(.bin .geq), [.tmp 4, .const (.int .i64 0)], (some 5), none⟩,
 ⟨.move, [.tmp 5], (some 6), none⟩,
 ⟨(.fieldAddr 0), [.tmp 1], (some 7), some (6, true)⟩,
 ⟨(.load false 1), [.tmp 7], (some 8), some (6, true)⟩,
 ⟨(.bin .lss), [.tmp 8, .const (.int .i64 65536)], (some 9), some (6, true)⟩,
 ⟨.pick, [.tmp 6, .tmp 9, .const (.bool false)], (some 10), none⟩,
 ⟨.move, [.tmp 10], (some 2), none⟩])
 .ret)), [.tmp 2]⟩
theorem c182_ok : compFunc Tryz.prog Tryz.f182 = some c182 := by kernel_rfl
theorem c182_body : hasBody Tryz.prog 182 = true := hasBody_of Tryz.func182 (by kernel_rfl)
/-- (coachyard/idle.Yard).begun$1 -/
def c183 : PFn := ⟨31, Tr.ofList (List.replicate 31 undefA), (.seq (.seq (.seqR [⟨(.load true 2), [.tmp 1], (some 5), none⟩,
 ⟨(.callF 184), [.tmp 5], (some 6), none⟩,
 ⟨.not, [.tmp 6], (some 7), none⟩,
 ⟨.move, [.tmp 7], (some 8), none⟩,
 ⟨(.load false 1), [.tmp 2], (some 9), some (8, false)⟩,
 ⟨(.bin .lss), [.tmp 9, .const (.int .i64 0)], (some 10), some (8, false)⟩,
 ⟨.pick, [.tmp 8, .const (.bool true), .tmp 10], (some 11), none⟩,
 ⟨.move, [.tmp 11], (some 12), none⟩,
 ⟨(.load false 1), [.tmp 2], (some 13), some (12, false)⟩,
 ⟨(.fieldAddr 1), [.tmp 1], (some 14), some (12, false)⟩,
 ⟨(.load false 1), [.tmp 14], (some 15), some (12, false)⟩,
 ⟨(.bin .geq), [.tmp 13, .tmp 15], (some 16), some (12, false)⟩,
 ⟨.pick, [.tmp 12, .const (.bool true), .tmp 16], (some 17), none⟩])
 (.cond (.tmp 17) (.seq (.seqR [⟨.move, [.tmp 0], (some 18), none⟩,
 ⟨(.callF 62), [.tmp 18, .const (.int .i64 2)], (some 19), none⟩])
 .ret)
 .skip))
 (.seqR [⟨.move, [.tmp 0], (some 20), none⟩,
 ⟨(.fieldAddr 0), [.tmp 1], (some 21), none⟩,
 ⟨(.load false 1), [.tmp 21], (some 22), none⟩,
 ⟨(.build [(.int .i64 0), (.int .i64 0), (.int .u64 0), (.int .u64 0)] [(0, 1), (1, 1)]), [.const (.int .i64 1), .tmp 22], (some 23), none⟩,
 ⟨(.load true 2), [.tmp 1], (some 24), none⟩,
 ⟨.move, [.tmp 0], (some 25), none⟩,
 ⟨(.load false 1), [.tmp 3], (some 26), none⟩,
 ⟨(.build [(.int .i64 0), (.int .i64 0), (.ptr none), .nilFunc, (.int .u64 0), (.int .u64 0)] [(0, 2), (2, 1), (3, 1)]), [.tmp 24, .tmp 25, .tmp 26], (some 27), none⟩,
 ⟨.box, [.tmp 27], (some 28), none⟩,
 ⟨(.mkFunc (.func 185) 1), [.tmp 28], (some 29), none⟩,
 ⟨(.callF 162), [.tmp 20, .tmp 23, .tmp 29], (some 30), none⟩])), []⟩
theorem c183_ok : compFunc Tryz.prog Tryz.f183 = some c183 := by kernel_rfl
theorem c183_body : hasBody Tryz.prog 183 = true := hasBody_of Tryz.func183 (by kernel_rfl)
end Go.Proofs.YtefcnhmbpkdlmabGreatDoor
