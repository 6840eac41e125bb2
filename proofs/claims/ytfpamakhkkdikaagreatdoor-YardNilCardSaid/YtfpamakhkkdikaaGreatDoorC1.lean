/- The code of the small machine for some of the program's functions: printed by program; each is what the rules make of the program's own. -/
import Derived.Test.YtfpamakhkkdikaaGreatDoorVx16
import Derived.Test.YtfpamakhkkdikaaGreatDoorProg
import Derived.KernelRfl
namespace Go.Proofs.YtfpamakhkkdikaaGreatDoor
open Go Go.Vx Go.Proofs
/-- (*coachyard/pool.Pool).there -/
def c67 : PFn := ⟨15, Tr.ofList (List.replicate 15 undefA), (.seq (.seqR [⟨.move, [.const (.bool false)], (some 4), none⟩])
 (.seq (.seqR [⟨.move, [.tmp 1], (some 5), none⟩,
 ⟨(.bin .geq), [.tmp 5, .const (.int .i64 0)], (some 6), none⟩,
 ⟨.move, [.tmp 6], (some 7), none⟩,
 ⟨.move, [.tmp 1], (some 8), some (7, true)⟩,
 ⟨.move, [.tmp 0], (some 9), some (7, true)⟩,
 ⟨(.callF 16), [.tmp 9], (some 10), some (7, true)⟩,
 ⟨(.callF 65), [.tmp 10], (some 11), some (7, true)⟩,
 ⟨(.field 0 1 false), [.tmp 11], (some 12), some (7, true)⟩,
 ⟨(.bin .lss), [.tmp 8, .tmp 12], (some 13), some (7, true)⟩,
 ⟨.pick, [.tmp 7, .tmp 13, .const (.bool false)], (some 14), none⟩,
 ⟨.move, [.tmp 14], (some 4), none⟩])
 .ret)), [.tmp 4]⟩
theorem c67_ok : compFunc Tryz.prog Tryz.f67 = some c67 := by kernel_rfl
theorem c67_body : hasBody Tryz.prog 67 = true := hasBody_of Tryz.func67 (by kernel_rfl)
/-- (coachyard/plan.Plan).Local -/
def c68 : PFn := ⟨19, Tr.ofList (List.replicate 19 undefA), (.seq (.seqR [⟨.box, [.tmp 0], (some 2), none⟩,
 ⟨.move, [.const (.int .i64 0)], (some 4), none⟩])
 (.seq (.seq (.seqR [⟨(.load true 4), [.tmp 2], (some 5), none⟩,
 ⟨.move, [.tmp 1], (some 6), none⟩,
 ⟨(.callF 99), [.tmp 5, .tmp 6], (some 7), none⟩,
 ⟨.not, [.tmp 7], (some 8), none⟩])
 (.cond (.tmp 8) (.seq (.seqR [⟨.move, [.const (.int .i64 (-1))], (some 4), none⟩])
 .ret)
 .skip))
 (.seq (.drawR [⟨⟨(.fieldAddr 0), [.tmp 2], (some 9), none⟩, false, false, 0, 0⟩,
 ⟨⟨(.load true 4), [.tmp 9], (some 10), none⟩, false, false, 0, 0⟩,
 ⟨⟨(.callF 69), [.tmp 10], (some 11), none⟩, true, false, 0, 1⟩,
 ⟨⟨.move, [.tmp 1], (some 12), none⟩, false, false, 0, 1⟩,
 ⟨⟨(.fieldAddr 0), [.tmp 2], (some 13), none⟩, false, false, 0, 1⟩,
 ⟨⟨(.fieldAddr 2), [.tmp 13], (some 14), none⟩, false, false, 0, 1⟩,
 ⟨⟨(.load false 1), [.tmp 14], (some 15), none⟩, false, false, 0, 1⟩,
 ⟨⟨(.bin .add), [.tmp 15, .const (.int .i64 2)], (some 16), none⟩, false, false, 0, 1⟩,
 ⟨⟨(.bin .mul), [.tmp 12, .tmp 16], (some 17), none⟩, false, false, 0, 1⟩,
 ⟨⟨(.bin .add), [.tmp 11, .tmp 17], (some 18), none⟩, false, false, 1, 1⟩,
 ⟨⟨.move, [.tmp 18], (some 4), none⟩, false, false, 1, 1⟩])
 .ret))), [.tmp 4]⟩
theorem c68_ok : compFunc Tryz.prog Tryz.f68 = some c68 := by kernel_rfl
theorem c68_body : hasBody Tryz.prog 68 = true := hasBody_of Tryz.func68 (by kernel_rfl)
/-- coachyard/plan.size -/
def c69 : PFn := ⟨11, Tr.ofList (List.replicate 11 undefA), (.seq (.seqR [⟨.box, [.tmp 0], (some 1), none⟩,
 ⟨.move, [.const (.int .i64 0)], (some 2), none⟩])
 (.seq (.seqR [⟨(.fieldAddr 0), [.tmp 1], (some 3), none⟩,
 ⟨(.load false 1), [.tmp 3], (some 4), none⟩,
 ⟨(.bin .add), [.const (.int .i64 1), .tmp 4], (some 5), none⟩,
 ⟨(.fieldAddr 3), [.tmp 1], (some 6), none⟩,
 ⟨(.load false 1), [.tmp 6], (some 7), none⟩,
 ⟨(.bin .mul), [.const (.int .i64 3), .tmp 7], (some 8), none⟩,
 ⟨(.bin .add), [.tmp 5, .tmp 8], (some 9), none⟩,
 ⟨(.bin .add), [.tmp 9, .const (.int .i64 3)], (some 10), none⟩,
 ⟨.move, [.tmp 10], (some 2), none⟩])
 .ret)), [.tmp 2]⟩
theorem c69_ok : compFunc Tryz.prog Tryz.f69 = some c69 := by kernel_rfl
theorem c69_body : hasBody Tryz.prog 69 = true := hasBody_of Tryz.func69 (by kernel_rfl)
/-- coachyard/yard.own -/
def c70 : PFn := ⟨8, Tr.ofList (List.replicate 8 undefA), (.seq (.seqR [⟨.box, [.tmp 0], (some 1), none⟩,
 ⟨(.new [(.int .i64 0), (.int .u64 0), (.slice none 0 0 false)]), [], (some 2), none⟩])
 (.seq (.seqR [⟨(.fieldAddr 2), [.tmp 1], (some 3), none⟩,
 ⟨(.load false 1), [.tmp 3], (some 4), none⟩,
 ⟨(.callF 111), [.tmp 4], (some 5), none⟩,
 ⟨(.fieldAddr 2), [.tmp 1], (some 6), none⟩,
 ⟨(.store 1), [.tmp 6, .tmp 5], none, none⟩])
 (.seq (.seqR [⟨(.load true 3), [.tmp 1], (some 7), none⟩,
 ⟨(.store 3), [.tmp 2, .tmp 7], none, none⟩])
 .ret))), [.cell 2 true 3]⟩
theorem c70_ok : compFunc Tryz.prog Tryz.f70 = some c70 := by kernel_rfl
theorem c70_body : hasBody Tryz.prog 70 = true := hasBody_of Tryz.func70 (by kernel_rfl)
/-- (*coachyard/yard.Yard).note -/
def c71 : PFn := ⟨39, Tr.ofList (List.replicate 39 undefA), (.seq (.seqR [⟨.box, [.tmp 3], (some 7), none⟩])
 (.seq (.seqR [⟨.move, [.tmp 0], (some 9), none⟩,
 ⟨.nilCheck, [.tmp 9], (some 10), none⟩,
 ⟨(.fieldAddr 2), [.tmp 10], (some 11), none⟩,
 ⟨(.load false 1), [.tmp 11], (some 12), none⟩,
 ⟨.move, [.tmp 1], (some 13), none⟩,
 ⟨(.indexAddrS 5), [.tmp 12, .tmp 13], (some 14), none⟩,
 ⟨(.load true 5), [.tmp 14], (some 15), none⟩,
 ⟨(.new [(.int .i64 0), (.int .u64 0), (.slice none 0 0 false), (.bool false), (.int .i64 0)]), [], (some 8), none⟩,
 ⟨(.store 5), [.tmp 8, .tmp 15], none, none⟩])
 (.drawR [⟨⟨.move, [.tmp 0], (some 16), none⟩, false, false, 0, 4⟩,
 ⟨⟨.move, [.tmp 0], (some 17), none⟩, false, false, 0, 3⟩,
 ⟨⟨.nilCheck, [.tmp 17], (some 18), none⟩, false, false, 0, 3⟩,
 ⟨⟨(.fieldAddr 3), [.tmp 18], (some 19), none⟩, false, false, 0, 3⟩,
 ⟨⟨(.load false 1), [.tmp 19], (some 20), none⟩, false, false, 0, 3⟩,
 ⟨⟨.move, [.tmp 0], (some 21), none⟩, false, false, 0, 0⟩,
 ⟨⟨.nilCheck, [.tmp 21], (some 22), none⟩, false, false, 0, 0⟩,
 ⟨⟨(.fieldAddr 1), [.tmp 22], (some 23), none⟩, false, false, 0, 0⟩,
 ⟨⟨(.load false 1), [.tmp 23], (some 24), none⟩, false, false, 0, 0⟩,
 ⟨⟨(.callF 112), [.tmp 24], (some 25), none⟩, true, false, 0, 1⟩,
 ⟨⟨.move, [.tmp 1], (some 26), none⟩, false, false, 0, 2⟩,
 ⟨⟨(.fieldAddr 4), [.tmp 8], (some 27), none⟩, false, false, 0, 2⟩,
 ⟨⟨(.load false 1), [.tmp 27], (some 28), none⟩, false, false, 0, 2⟩,
 ⟨⟨.move, [.tmp 2], (some 29), none⟩, false, false, 0, 2⟩,
 ⟨⟨(.fieldAddr 0), [.tmp 8], (some 30), none⟩, false, false, 0, 1⟩,
 ⟨⟨(.load true 3), [.tmp 30], (some 31), none⟩, false, false, 0, 1⟩,
 ⟨⟨(.callF 70), [.tmp 31], (some 32), none⟩, true, false, 1, 2⟩,
 ⟨⟨(.load true 3), [.tmp 7], (some 33), none⟩, false, false, 0, 2⟩,
 ⟨⟨(.build [(.int .i64 0), (.int .i64 0), (.int .i64 0), (.bool false), (.int .i64 0), (.int .u64 0), (.slice none 0 0 false), (.int .i64 0), (.int .u64 0), (.slice none 0 0 false)] [(0, 1), (1, 1), (2, 1), (3, 1), (4, 3), (7, 3)]), [.tmp 25, .tmp 26, .tmp 28, .tmp 29, .tmp 32, .tmp 33], (some 34), none⟩, false, false, 2, 2⟩,
 ⟨⟨(.sliceLit 1 [(.int .i64 0), (.int .i64 0), (.int .i64 0), (.bool false), (.int .i64 0), (.int .u64 0), (.slice none 0 0 false), (.int .i64 0), (.int .u64 0), (.slice none 0 0 false)] [(0, 10)]), [.tmp 34], (some 35), none⟩, true, false, 2, 3⟩,
 ⟨⟨(.append 10 112), [.tmp 20, .tmp 35], (some 36), none⟩, true, false, 3, 4⟩,
 ⟨⟨.nilCheck, [.tmp 16], (some 37), none⟩, false, false, 4, 4⟩,
 ⟨⟨(.fieldAddr 3), [.tmp 37], (some 38), none⟩, false, false, 4, 4⟩,
 ⟨⟨(.store 1), [.tmp 38, .tmp 36], none, none⟩, true, false, 4, 5⟩]))), []⟩
theorem c71_ok : compFunc Tryz.prog Tryz.f71 = some c71 := by kernel_rfl
theorem c71_body : hasBody Tryz.prog 71 = true := hasBody_of Tryz.func71 (by kernel_rfl)
/-- (*coachyard/loom.Loom).Pick -/
def c72 : PFn := ⟨55, Tr.ofList (List.replicate 55 undefA), (.seq (.seqR [⟨.move, [.const (.int .i64 0)], (some 4), none⟩])
 (.seq (.seqR [⟨.move, [.tmp 0], (some 10), none⟩,
 ⟨.move, [.tmp 1], (some 11), none⟩,
 ⟨(.callF 85), [.tmp 10, .tmp 11], (some 12), none⟩,
 ⟨.move, [.tmp 12], (some 9), none⟩,
 ⟨(.extract 0), [.tmp 9], (some 13), none⟩,
 ⟨(.extract 1), [.tmp 9], (some 14), none⟩,
 ⟨(.new [(.int .i64 0), (.int .i64 0), (.int .u64 0), (.int .u64 0)]), [], (some 5), none⟩,
 ⟨(.store 4), [.tmp 5, .tmp 13], none, none⟩,
 ⟨.move, [.tmp 14], (some 6), none⟩])
 (.seq (.seq (.seqR [⟨.move, [.tmp 6], (some 15), none⟩,
 ⟨(.bin .neq), [.tmp 15, .const (.int .i64 0)], (some 16), none⟩])
 (.cond (.tmp 16) (.seq (.seqR [⟨.move, [.tmp 6], (some 17), none⟩,
 ⟨.move, [.tmp 17], (some 4), none⟩])
 .ret)
 .skip))
 (.seq (.seqR [⟨.move, [.tmp 0], (some 18), none⟩,
 ⟨.nilCheck, [.tmp 18], (some 19), none⟩,
 ⟨(.fieldAddr 2), [.tmp 19], (some 20), none⟩,
 ⟨(.load false 1), [.tmp 20], (some 21), none⟩,
 ⟨(.bin .add), [.tmp 21, .const (.int .i64 1)], (some 22), none⟩,
 ⟨.nilCheck, [.tmp 18], (some 23), none⟩,
 ⟨(.fieldAddr 2), [.tmp 23], (some 24), none⟩,
 ⟨(.store 1), [.tmp 24, .tmp 22], none, none⟩])
 (.seq (.drawR [⟨⟨.move, [.tmp 0], (some 26), none⟩, false, false, 0, 0⟩,
 ⟨⟨.nilCheck, [.tmp 26], (some 27), none⟩, false, false, 0, 0⟩,
 ⟨⟨(.fieldAddr 0), [.tmp 27], (some 28), none⟩, false, false, 0, 0⟩,
 ⟨⟨(.load false 1), [.tmp 28], (some 29), none⟩, false, false, 0, 0⟩,
 ⟨⟨(.load true 4), [.tmp 5], (some 30), none⟩, false, false, 0, 0⟩,
 ⟨⟨(.callF 113), [.tmp 29, .tmp 30], (some 31), none⟩, true, false, 0, 1⟩,
 ⟨⟨.move, [.tmp 31], (some 25), none⟩, false, false, 1, 1⟩,
 ⟨⟨(.extract 0), [.tmp 25], (some 32), none⟩, false, false, 1, 1⟩,
 ⟨⟨(.extract 1), [.tmp 25], (some 33), none⟩, false, false, 1, 1⟩,
 ⟨⟨(.extract 2), [.tmp 25], (some 34), none⟩, false, false, 1, 1⟩,
 ⟨⟨.move, [.tmp 32], (some 7), none⟩, false, false, 1, 1⟩,
 ⟨⟨.move, [.tmp 33], (some 8), none⟩, false, false, 1, 1⟩,
 ⟨⟨.move, [.tmp 34], (some 6), none⟩, false, false, 1, 1⟩])
 (.seq (.seq (.seqR [⟨.move, [.tmp 6], (some 35), none⟩,
 ⟨(.bin .neq), [.tmp 35, .const (.int .i64 0)], (some 36), none⟩])
 (.cond (.tmp 36) (.seq (.seqR [⟨.move, [.tmp 0], (some 37), none⟩,
 ⟨.nilCheck, [.tmp 37], (some 38), none⟩,
 ⟨(.fieldAddr 1), [.tmp 38], (some 39), none⟩,
 ⟨(.load false 1), [.tmp 39], (some 40), none⟩,
 ⟨.move, [.tmp 1], (some 41), none⟩,
 ⟨(.indexAddrS 1), [.tmp 40, .tmp 41], (some 42), none⟩,
 ⟨(.load false 1), [.tmp 42], (some 43), none⟩,
 ⟨(.callF 48), [.tmp 43, .const (.int .i64 9)], (some 44), none⟩])
 (.seq (.seqR [⟨.move, [.const (.int .i64 9)], (some 4), none⟩])
 .ret))
 .skip))
 (.seq (.seqR [⟨.move, [.tmp 0], (some 45), none⟩,
 ⟨.nilCheck, [.tmp 45], (some 46), none⟩,
 ⟨(.fieldAddr 1), [.tmp 46], (some 47), none⟩,
 ⟨(.load false 1), [.tmp 47], (some 48), none⟩,
 ⟨.move, [.tmp 1], (some 49), none⟩,
 ⟨(.indexAddrS 1), [.tmp 48, .tmp 49], (some 50), none⟩,
 ⟨(.load false 1), [.tmp 50], (some 51), none⟩,
 ⟨.move, [.tmp 7], (some 52), none⟩,
 ⟨.move, [.tmp 8], (some 53), none⟩,
 ⟨(.callF 114), [.tmp 51, .tmp 52, .tmp 53], (some 54), none⟩])
 (.seq (.seqR [⟨.move, [.const (.int .i64 0)], (some 4), none⟩])
 .ret)))))))), [.tmp 4]⟩
theorem c72_ok : compFunc Tryz.prog Tryz.f72 = some c72 := by kernel_rfl
theorem c72_body : hasBody Tryz.prog 72 = true := hasBody_of Tryz.func72 (by kernel_rfl)
/-- (*coachyard/yard.Yard).ended -/
def c73 : PFn := ⟨48, Tr.ofList (List.replicate 48 undefA), (.seq (.seqR [⟨.move, [.tmp 0], (some 7), none⟩,
 ⟨.nilCheck, [.tmp 7], (some 8), none⟩,
 ⟨(.fieldAddr 1), [.tmp 8], (some 9), none⟩,
 ⟨(.load false 1), [.tmp 9], (some 10), none⟩,
 ⟨.move, [.tmp 1], (some 11), none⟩,
 ⟨(.callF 41), [.tmp 10, .tmp 11], (some 12), none⟩,
 ⟨.move, [.tmp 12], (some 6), none⟩,
 ⟨(.extract 0), [.tmp 6], (some 13), none⟩,
 ⟨(.extract 1), [.tmp 6], (some 14), none⟩,
 ⟨(.new [(.int .i64 0), (.int .u64 0), (.slice none 0 0 false)]), [], (some 4), none⟩,
 ⟨(.store 3), [.tmp 4, .tmp 13], none, none⟩,
 ⟨.move, [.tmp 14], (some 5), none⟩])
 (.seq (.seqR [⟨.move, [.tmp 5], (some 15), none⟩,
 ⟨.move, [.tmp 15], (some 16), none⟩,
 ⟨.move, [.tmp 0], (some 17), some (16, true)⟩,
 ⟨.nilCheck, [.tmp 17], (some 18), some (16, true)⟩,
 ⟨(.fieldAddr 2), [.tmp 18], (some 19), some (16, true)⟩,
 ⟨(.load false 1), [.tmp 19], (some 20), some (16, true)⟩,
 ⟨.move, [.tmp 1], (some 21), some (16, true)⟩,
 ⟨(.indexAddrS 5), [.tmp 20, .tmp 21], (some 22), some (16, true)⟩,
 ⟨(.fieldAddr 3), [.tmp 22], (some 23), some (16, true)⟩,
 ⟨(.load false 1), [.tmp 23], (some 24), some (16, true)⟩,
 ⟨.pick, [.tmp 16, .tmp 24, .const (.bool false)], (some 25), none⟩])
 (.cond (.tmp 25) (.seq (.seqR [⟨.move, [.tmp 0], (some 26), none⟩,
 ⟨.move, [.tmp 1], (some 27), none⟩,
 ⟨(.load true 3), [.tmp 4], (some 28), none⟩,
 ⟨(.callF 71), [.tmp 26, .tmp 27, .const (.bool true), .tmp 28], (some 29), none⟩])
 (.seq (.seqR [⟨.move, [.tmp 0], (some 30), none⟩,
 ⟨.nilCheck, [.tmp 30], (some 31), none⟩,
 ⟨(.fieldAddr 2), [.tmp 31], (some 32), none⟩,
 ⟨(.load false 1), [.tmp 32], (some 33), none⟩,
 ⟨.move, [.tmp 1], (some 34), none⟩,
 ⟨(.indexAddrS 5), [.tmp 33, .tmp 34], (some 35), none⟩,
 ⟨(.fieldAddr 3), [.tmp 35], (some 36), none⟩,
 ⟨(.store 1), [.tmp 36, .const (.bool false)], none, none⟩])
 (.seqR [⟨.move, [.tmp 0], (some 37), none⟩,
 ⟨.nilCheck, [.tmp 37], (some 38), none⟩,
 ⟨(.fieldAddr 2), [.tmp 38], (some 39), none⟩,
 ⟨(.load false 1), [.tmp 39], (some 40), none⟩,
 ⟨.move, [.tmp 1], (some 41), none⟩,
 ⟨(.indexAddrS 5), [.tmp 40, .tmp 41], (some 42), none⟩,
 ⟨(.fieldAddr 4), [.tmp 42], (some 43), none⟩,
 ⟨(.load false 1), [.tmp 43], (some 44), none⟩,
 ⟨(.bin .add), [.tmp 44, .const (.int .i64 1)], (some 45), none⟩,
 ⟨(.indexAddrS 5), [.tmp 40, .tmp 41], (some 46), none⟩,
 ⟨(.fieldAddr 4), [.tmp 46], (some 47), none⟩,
 ⟨(.store 1), [.tmp 47, .tmp 45], none, none⟩])))
 .skip))), []⟩
theorem c73_ok : compFunc Tryz.prog Tryz.f73 = some c73 := by kernel_rfl
theorem c73_body : hasBody Tryz.prog 73 = true := hasBody_of Tryz.func73 (by kernel_rfl)
/-- (*coachyard/loom.Loom).Busy -/
def c74 : PFn := ⟨34, Tr.ofList (List.replicate 34 undefA), (.seq (.seqR [⟨.move, [.const (.bool false)], (some 4), none⟩])
 (.seq (.seq (.seqR [⟨.move, [.tmp 0], (some 7), none⟩,
 ⟨.move, [.tmp 1], (some 8), none⟩,
 ⟨(.callF 84), [.tmp 7, .tmp 8], (some 9), none⟩,
 ⟨(.bin .neq), [.tmp 9, .const (.int .i64 0)], (some 10), none⟩,
 ⟨.move, [.tmp 10], (some 11), none⟩,
 ⟨.move, [.tmp 0], (some 12), some (11, false)⟩,
 ⟨.nilCheck, [.tmp 12], (some 13), some (11, false)⟩,
 ⟨(.fieldAddr 1), [.tmp 13], (some 14), some (11, false)⟩,
 ⟨(.load false 1), [.tmp 14], (some 15), some (11, false)⟩,
 ⟨.move, [.tmp 1], (some 16), some (11, false)⟩,
 ⟨(.indexAddrS 1), [.tmp 15, .tmp 16], (some 17), some (11, false)⟩,
 ⟨(.load false 1), [.tmp 17], (some 18), some (11, false)⟩,
 ⟨(.eqPtr false), [.tmp 18, .const (.ptr none)], (some 19), some (11, false)⟩,
 ⟨.pick, [.tmp 11, .const (.bool true), .tmp 19], (some 20), none⟩])
 (.cond (.tmp 20) (.seq (.seqR [⟨.move, [.const (.bool false)], (some 4), none⟩])
 .ret)
 .skip))
 (.seq (.seqR [⟨.move, [.tmp 0], (some 22), none⟩,
 ⟨.nilCheck, [.tmp 22], (some 23), none⟩,
 ⟨(.fieldAddr 1), [.tmp 23], (some 24), none⟩,
 ⟨(.load false 1), [.tmp 24], (some 25), none⟩,
 ⟨.move, [.tmp 1], (some 26), none⟩,
 ⟨(.indexAddrS 1), [.tmp 25, .tmp 26], (some 27), none⟩,
 ⟨(.load false 1), [.tmp 27], (some 28), none⟩,
 ⟨(.callF 9), [.tmp 28], (some 29), none⟩,
 ⟨.move, [.tmp 29], (some 21), none⟩,
 ⟨(.extract 0), [.tmp 21], (some 30), none⟩,
 ⟨(.extract 1), [.tmp 21], (some 31), none⟩,
 ⟨(.new [(.int .i64 0), (.int .u64 0), (.slice none 0 0 false)]), [], (some 5), none⟩,
 ⟨(.store 3), [.tmp 5, .tmp 30], none, none⟩,
 ⟨.move, [.tmp 31], (some 6), none⟩])
 (.seq (.seqR [⟨.move, [.tmp 6], (some 32), none⟩,
 ⟨.not, [.tmp 32], (some 33), none⟩,
 ⟨.move, [.tmp 33], (some 4), none⟩])
 .ret)))), [.tmp 4]⟩
theorem c74_ok : compFunc Tryz.prog Tryz.f74 = some c74 := by kernel_rfl
theorem c74_body : hasBody Tryz.prog 74 = true := hasBody_of Tryz.func74 (by kernel_rfl)
/-- (*coachyard/loom.Loom).Parked -/
def c75 : PFn := ⟨15, Tr.ofList (List.replicate 15 undefA), (.seq (.seqR [⟨.move, [.const (.bool false)], (some 4), none⟩])
 (.seq (.seqR [⟨.move, [.tmp 0], (some 8), none⟩,
 ⟨.move, [.tmp 1], (some 9), none⟩,
 ⟨(.callF 85), [.tmp 8, .tmp 9], (some 10), none⟩,
 ⟨.move, [.tmp 10], (some 7), none⟩,
 ⟨(.extract 0), [.tmp 7], (some 11), none⟩,
 ⟨(.extract 1), [.tmp 7], (some 12), none⟩,
 ⟨(.new [(.int .i64 0), (.int .i64 0), (.int .u64 0), (.int .u64 0)]), [], (some 5), none⟩,
 ⟨(.store 4), [.tmp 5, .tmp 11], none, none⟩,
 ⟨.move, [.tmp 12], (some 6), none⟩])
 (.seq (.seqR [⟨.move, [.tmp 6], (some 13), none⟩,
 ⟨(.bin .eql), [.tmp 13, .const (.int .i64 11)], (some 14), none⟩,
 ⟨.move, [.tmp 14], (some 4), none⟩])
 .ret))), [.tmp 4]⟩
theorem c75_ok : compFunc Tryz.prog Tryz.f75 = some c75 := by kernel_rfl
theorem c75_body : hasBody Tryz.prog 75 = true := hasBody_of Tryz.func75 (by kernel_rfl)
/-- slices.Clone[[]coachyard/api.Event,coachyard/api.Event] -/
def c76 : PFn := ⟨8, Tr.ofList (List.replicate 8 undefA), (.seq (.seqR [⟨.move, [.const (.slice none 0 0 false)], (some 2), none⟩])
 (.seq (.seq (.seqR [⟨.move, [.tmp 0], (some 3), none⟩,
 ⟨(.eqNil 0 false), [.tmp 3, .const (.slice none 0 0 false)], (some 4), none⟩])
 (.cond (.tmp 4) (.seq (.seqR [⟨.move, [.const (.slice none 0 0 false)], (some 2), none⟩])
 .ret)
 .skip))
 (.seq (.seqR [⟨(.sliceLit 0 [] []), [], (some 5), none⟩,
 ⟨.move, [.tmp 0], (some 6), none⟩,
 ⟨(.append 10 112), [.tmp 5, .tmp 6], (some 7), none⟩,
 ⟨.move, [.tmp 7], (some 2), none⟩])
 .ret))), [.tmp 2]⟩
theorem c76_ok : compFunc Tryz.prog Tryz.f76 = some c76 := by kernel_rfl
theorem c76_body : hasBody Tryz.prog 76 = true := hasBody_of Tryz.func76 (by kernel_rfl)
/-- coachyard/diary.Spans -/
def c77 : PFn := ⟨36, Tr.ofList (List.replicate 36 undefA), (.seq (.seqR [⟨.move, [.const (.slice none 0 0 false)], (some 2), none⟩,
 ⟨.move, [.const (.int .i64 0)], (some 3), none⟩])
 (.seq (.seqR [⟨(.build [(.int .i64 0), (.int .i64 0), (.int .i64 0), (.int .i64 0), (.int .i64 0), (.int .i64 0), (.int .i64 0), (.int .i64 0), (.int .i64 0), (.int .i64 0), (.int .i64 0), (.int .i64 0), (.int .i64 0), (.int .i64 0), (.int .i64 0), (.int .i64 0), (.int .i64 0), (.int .i64 0), (.int .i64 0), (.int .i64 0), (.int .i64 0), (.int .i64 0), (.int .i64 0), (.int .i64 0), (.int .i64 0), (.int .i64 0), (.int .i64 0), (.int .i64 0), (.int .i64 0), (.int .i64 0), (.int .i64 0), (.int .i64 0), (.int .i64 0), (.slice none 0 0 false)] []), [], (some 8), none⟩,
 ⟨.box, [.tmp 8], (some 9), none⟩,
 ⟨.move, [.tmp 9], (some 4), none⟩])
 (.seq (.seq (.seqR [⟨.move, [.const (.int .i64 0)], (some 10), none⟩])
 (.block 0 (.loop (.seq (.seqR [⟨(.bin .lss), [.tmp 10, .const (.int .i64 16)], (some 11), none⟩])
 (.seq (.cond (.tmp 11) .skip
 (.exit 0))
 (.seq (.block 1 (.seq (.seqR [⟨.move, [.tmp 10], (some 12), none⟩,
 ⟨.move, [.tmp 12], (some 5), none⟩])
 (.seqR [⟨.move, [.tmp 4], (some 13), none⟩,
 ⟨.move, [.tmp 5], (some 14), none⟩,
 ⟨.nilCheck, [.tmp 13], (some 15), none⟩,
 ⟨(.fieldAddr 17), [.tmp 15], (some 16), none⟩,
 ⟨(.indexAddrA 16 1), [.tmp 16, .tmp 14], (some 17), none⟩,
 ⟨(.store 1), [.tmp 17, .const (.int .i64 (-1))], none, none⟩])))
 (.seqR [⟨(.bin .add), [.tmp 10, .const (.int .i64 1)], (some 18), none⟩,
 ⟨.move, [.tmp 18], (some 10), none⟩])))))))
 (.seq (.seq (.seqR [⟨.move, [.tmp 0], (some 19), none⟩,
 ⟨.lenS, [.tmp 19], (some 20), none⟩,
 ⟨.move, [.const (.int .i64 0)], (some 21), none⟩])
 (.block 2 (.loop (.seq (.seqR [⟨(.bin .lss), [.tmp 21, .tmp 20], (some 22), none⟩])
 (.seq (.cond (.tmp 22) .skip
 (.exit 2))
 (.seq (.block 3 (.seq (.seqR [⟨.move, [.tmp 21], (some 23), none⟩,
 ⟨(.indexAddrS 10), [.tmp 19, .tmp 21], (some 24), none⟩,
 ⟨(.load true 10), [.tmp 24], (some 25), none⟩,
 ⟨(.new [(.int .i64 0), (.int .i64 0), (.int .i64 0), (.bool false), (.int .i64 0), (.int .u64 0), (.slice none 0 0 false), (.int .i64 0), (.int .u64 0), (.slice none 0 0 false)]), [], (some 7), none⟩,
 ⟨.move, [.tmp 23], (some 6), none⟩,
 ⟨(.store 10), [.tmp 7, .tmp 25], none, none⟩])
 (.seq (.seqR [⟨.move, [.tmp 4], (some 26), none⟩,
 ⟨.move, [.tmp 6], (some 27), none⟩,
 ⟨(.load true 10), [.tmp 7], (some 28), none⟩,
 ⟨(.callF 115), [.tmp 26, .tmp 27, .tmp 28], (some 29), none⟩,
 ⟨.not, [.tmp 29], (some 30), none⟩])
 (.cond (.tmp 30) (.seq (.seqR [⟨.move, [.const (.slice none 0 0 false)], (some 2), none⟩,
 ⟨.move, [.const (.int .i64 13)], (some 3), none⟩])
 .ret)
 .skip))))
 (.seqR [⟨(.bin .add), [.tmp 21, .const (.int .i64 1)], (some 31), none⟩,
 ⟨.move, [.tmp 31], (some 21), none⟩])))))))
 (.seq (.seqR [⟨.move, [.tmp 4], (some 32), none⟩,
 ⟨.nilCheck, [.tmp 32], (some 33), none⟩,
 ⟨(.fieldAddr 33), [.tmp 33], (some 34), none⟩,
 ⟨(.load false 1), [.tmp 34], (some 35), none⟩,
 ⟨.move, [.tmp 35], (some 2), none⟩,
 ⟨.move, [.const (.int .i64 0)], (some 3), none⟩])
 .ret))))), [.tmp 2, .tmp 3]⟩
theorem c77_ok : compFunc Tryz.prog Tryz.f77 = some c77 := by kernel_rfl
theorem c77_body : hasBody Tryz.prog 77 = true := hasBody_of Tryz.func77 (by kernel_rfl)
/-- coachyard/coachyardref07.Right -/
def c78 : PFn := ⟨22, Tr.ofList (List.replicate 22 undefA), (.seq (.seqR [⟨.move, [.const (.bool false)], (some 4), none⟩])
 (.seq (.seq (.seqR [⟨.move, [.const (.int .i64 2)], (some 5), none⟩])
 (.block 0 (.loop (.seq (.seq (.seqR [⟨.move, [.tmp 5], (some 6), none⟩,
 ⟨(.bin .leq), [.tmp 6, .const (.int .i64 256)], (some 7), none⟩])
 (.cond (.tmp 7) .skip
 (.exit 0)))
 (.seq (.block 1 (.seq (.seqR [⟨.move, [.tmp 5], (some 10), none⟩,
 ⟨.move, [.tmp 1], (some 11), none⟩,
 ⟨(.bin .eql), [.tmp 10, .tmp 11], (some 12), none⟩])
 (.cond (.tmp 12) (.seq (.seqR [⟨.move, [.tmp 0], (some 13), none⟩,
 ⟨(.bin .geq), [.tmp 13, .const (.int .i64 0)], (some 14), none⟩,
 ⟨.move, [.tmp 14], (some 15), none⟩,
 ⟨.move, [.tmp 0], (some 16), some (15, true)⟩,
 ⟨.move, [.tmp 1], (some 17), some (15, true)⟩,
 ⟨(.bin .sub), [.const (.int .i64 65536), .tmp 17], (some 18), some (15, true)⟩,
 ⟨(.bin .sub), [.tmp 18, .const (.int .i64 1)], (some 19), some (15, true)⟩,
 ⟨(.bin .lss), [.tmp 16, .tmp 19], (some 20), some (15, true)⟩,
 ⟨.pick, [.tmp 15, .tmp 20, .const (.bool false)], (some 21), none⟩,
 ⟨.move, [.tmp 21], (some 4), none⟩])
 .ret)
 .skip)))
 (.seqR [⟨.move, [.tmp 5], (some 8), none⟩,
 ⟨(.bin .mul), [.const (.int .i64 2), .tmp 8], (some 9), none⟩,
 ⟨.move, [.tmp 9], (some 5), none⟩]))))))
 (.seq (.seqR [⟨.move, [.const (.bool false)], (some 4), none⟩])
 .ret))), [.tmp 4]⟩
theorem c78_ok : compFunc Tryz.prog Tryz.f78 = some c78 := by kernel_rfl
theorem c78_body : hasBody Tryz.prog 78 = true := hasBody_of Tryz.func78 (by kernel_rfl)
/-- (coachyard/queue.Line).Init -/
def c83 : PFn := ⟨42, Tr.ofList (List.replicate 42 undefA), (.seq (.seqR [⟨.box, [.tmp 0], (some 2), none⟩,
 ⟨.move, [.const (.int .i64 0)], (some 4), none⟩])
 (.seq (.seq (.seqR [⟨(.load true 2), [.tmp 2], (some 8), none⟩,
 ⟨.move, [.tmp 1], (some 9), none⟩,
 ⟨(.callF 106), [.tmp 8, .tmp 9], (some 10), none⟩,
 ⟨.move, [.tmp 10], (some 5), none⟩])
 (.seq (.seqR [⟨.move, [.tmp 5], (some 11), none⟩,
 ⟨(.bin .neq), [.tmp 11, .const (.int .i64 0)], (some 12), none⟩])
 (.cond (.tmp 12) (.seq (.seqR [⟨.move, [.tmp 5], (some 13), none⟩,
 ⟨.move, [.tmp 13], (some 4), none⟩])
 .ret)
 .skip)))
 (.seq (.seq (.seqR [⟨(.load true 2), [.tmp 2], (some 14), none⟩,
 ⟨(.callF 119), [.tmp 14], (some 15), none⟩,
 ⟨.move, [.const (.int .i64 0)], (some 16), none⟩])
 (.block 0 (.loop (.seq (.seqR [⟨(.bin .lss), [.tmp 16, .tmp 15], (some 17), none⟩])
 (.seq (.cond (.tmp 17) .skip
 (.exit 0))
 (.seq (.block 1 (.seq (.seqR [⟨.move, [.tmp 16], (some 18), none⟩,
 ⟨.move, [.tmp 18], (some 6), none⟩])
 (.seqR [⟨.move, [.tmp 1], (some 19), none⟩,
 ⟨(.fieldAddr 0), [.tmp 2], (some 20), none⟩,
 ⟨(.load false 1), [.tmp 20], (some 21), none⟩,
 ⟨.move, [.tmp 6], (some 22), none⟩,
 ⟨(.bin .add), [.tmp 21, .tmp 22], (some 23), none⟩,
 ⟨(.build [(.int .i64 0), (.int .i64 0), (.int .u64 0), (.int .u64 0)] [(0, 1), (1, 1)]), [.const (.int .i64 2), .tmp 23], (some 24), none⟩,
 ⟨(.callF 113), [.tmp 19, .tmp 24], (some 25), none⟩])))
 (.seqR [⟨(.bin .add), [.tmp 16, .const (.int .i64 1)], (some 26), none⟩,
 ⟨.move, [.tmp 26], (some 16), none⟩])))))))
 (.seq (.seqR [⟨(.load true 2), [.tmp 2], (some 27), none⟩,
 ⟨(.callF 120), [.tmp 27], (some 28), none⟩,
 ⟨.move, [.tmp 1], (some 29), none⟩,
 ⟨(.callF 121), [.tmp 28, .tmp 29, .const (.int .i64 2)], (some 30), none⟩])
 (.seq (.seq (.seqR [⟨.move, [.const (.int .i64 0)], (some 31), none⟩])
 (.block 2 (.loop (.seq (.seqR [⟨(.bin .lss), [.tmp 31, .const (.int .i64 2)], (some 32), none⟩])
 (.seq (.cond (.tmp 32) .skip
 (.exit 2))
 (.seq (.block 3 (.seq (.seqR [⟨.move, [.tmp 31], (some 33), none⟩,
 ⟨.move, [.tmp 33], (some 7), none⟩])
 (.seqR [⟨.move, [.tmp 1], (some 34), none⟩,
 ⟨(.fieldAddr 0), [.tmp 2], (some 35), none⟩,
 ⟨(.load false 1), [.tmp 35], (some 36), none⟩,
 ⟨.move, [.tmp 7], (some 37), none⟩,
 ⟨(.bin .add), [.tmp 36, .tmp 37], (some 38), none⟩,
 ⟨(.build [(.int .i64 0), (.int .i64 0), (.int .u64 0), (.int .u64 0)] [(0, 1), (1, 1), (2, 1)]), [.const (.int .i64 2), .tmp 38, .const (.int .u64 1)], (some 39), none⟩,
 ⟨(.callF 113), [.tmp 34, .tmp 39], (some 40), none⟩])))
 (.seqR [⟨(.bin .add), [.tmp 31, .const (.int .i64 1)], (some 41), none⟩,
 ⟨.move, [.tmp 41], (some 31), none⟩])))))))
 (.seq (.seqR [⟨.move, [.const (.int .i64 0)], (some 4), none⟩])
 .ret)))))), [.tmp 4]⟩
theorem c83_ok : compFunc Tryz.prog Tryz.f83 = some c83 := by kernel_rfl
theorem c83_body : hasBody Tryz.prog 83 = true := hasBody_of Tryz.func83 (by kernel_rfl)
/-- (*coachyard/loom.Loom).check -/
def c84 : PFn := ⟨20, Tr.ofList (List.replicate 20 undefA), (.seq (.seqR [⟨.move, [.const (.int .i64 0)], (some 4), none⟩])
 (.seq (.block 0 (.seq (.seqR [⟨.move, [.tmp 0], (some 6), none⟩,
 ⟨(.eqPtr false), [.tmp 6, .const (.ptr none)], (some 7), none⟩,
 ⟨.move, [.tmp 7], (some 5), none⟩])
 (.cond (.tmp 5) (.seq (.seqR [⟨.move, [.const (.int .i64 1)], (some 4), none⟩])
 .ret)
 (.seq (.seqR [⟨.move, [.tmp 1], (some 9), none⟩,
 ⟨(.bin .lss), [.tmp 9, .const (.int .i64 0)], (some 10), none⟩,
 ⟨.move, [.tmp 10], (some 11), none⟩,
 ⟨.move, [.tmp 1], (some 12), some (11, false)⟩,
 ⟨.move, [.tmp 0], (some 13), some (11, false)⟩,
 ⟨.nilCheck, [.tmp 13], (some 14), some (11, false)⟩,
 ⟨(.fieldAddr 1), [.tmp 14], (some 15), some (11, false)⟩,
 ⟨(.load false 1), [.tmp 15], (some 16), some (11, false)⟩,
 ⟨.lenS, [.tmp 16], (some 17), some (11, false)⟩,
 ⟨(.bin .geq), [.tmp 12, .tmp 17], (some 18), some (11, false)⟩,
 ⟨.pick, [.tmp 11, .const (.bool true), .tmp 18], (some 19), none⟩,
 ⟨.move, [.tmp 19], (some 8), none⟩])
 (.cond (.tmp 8) (.seq (.seqR [⟨.move, [.const (.int .i64 3)], (some 4), none⟩])
 .ret)
 .skip)))))
 (.seq (.seqR [⟨.move, [.const (.int .i64 0)], (some 4), none⟩])
 .ret))), [.tmp 4]⟩
theorem c84_ok : compFunc Tryz.prog Tryz.f84 = some c84 := by kernel_rfl
theorem c84_body : hasBody Tryz.prog 84 = true := hasBody_of Tryz.func84 (by kernel_rfl)
/-- (*coachyard/loom.Loom).wants -/
def c85 : PFn := ⟨60, Tr.ofList (List.replicate 60 undefA), (.seq (.seqR [⟨(.new [(.int .i64 0), (.int .i64 0), (.int .u64 0), (.int .u64 0)]), [], (some 4), none⟩,
 ⟨.move, [.const (.int .i64 0)], (some 5), none⟩])
 (.seq (.seq (.seqR [⟨.move, [.tmp 0], (some 12), none⟩,
 ⟨.move, [.tmp 1], (some 13), none⟩,
 ⟨(.callF 84), [.tmp 12, .tmp 13], (some 14), none⟩,
 ⟨.move, [.tmp 14], (some 6), none⟩])
 (.seq (.seqR [⟨.move, [.tmp 6], (some 15), none⟩,
 ⟨(.bin .neq), [.tmp 15, .const (.int .i64 0)], (some 16), none⟩])
 (.cond (.tmp 16) (.seq (.seqR [⟨(.build [(.int .i64 0), (.int .i64 0), (.int .u64 0), (.int .u64 0)] []), [], (some 17), none⟩,
 ⟨.move, [.tmp 6], (some 18), none⟩,
 ⟨(.store 4), [.tmp 4, .tmp 17], none, none⟩,
 ⟨.move, [.tmp 18], (some 5), none⟩])
 .ret)
 .skip)))
 (.seq (.seqR [⟨.move, [.tmp 0], (some 20), none⟩,
 ⟨.nilCheck, [.tmp 20], (some 21), none⟩,
 ⟨(.fieldAddr 1), [.tmp 21], (some 22), none⟩,
 ⟨(.load false 1), [.tmp 22], (some 23), none⟩,
 ⟨.move, [.tmp 1], (some 24), none⟩,
 ⟨(.indexAddrS 1), [.tmp 23, .tmp 24], (some 25), none⟩,
 ⟨(.load false 1), [.tmp 25], (some 26), none⟩,
 ⟨(.callF 122), [.tmp 26], (some 27), none⟩,
 ⟨.move, [.tmp 27], (some 19), none⟩,
 ⟨(.extract 0), [.tmp 19], (some 28), none⟩,
 ⟨(.extract 1), [.tmp 19], (some 29), none⟩,
 ⟨(.new [(.int .i64 0), (.int .i64 0), (.int .u64 0), (.int .u64 0)]), [], (some 7), none⟩,
 ⟨(.store 4), [.tmp 7, .tmp 28], none, none⟩,
 ⟨.move, [.tmp 29], (some 8), none⟩])
 (.seq (.seq (.seqR [⟨.move, [.tmp 8], (some 30), none⟩,
 ⟨.not, [.tmp 30], (some 31), none⟩,
 ⟨.move, [.tmp 31], (some 32), none⟩,
 ⟨.move, [.tmp 0], (some 33), some (32, false)⟩,
 ⟨.move, [.tmp 1], (some 34), some (32, false)⟩,
 ⟨(.callF 74), [.tmp 33, .tmp 34], (some 35), some (32, false)⟩,
 ⟨.not, [.tmp 35], (some 36), some (32, false)⟩,
 ⟨.pick, [.tmp 32, .const (.bool true), .tmp 36], (some 37), none⟩])
 (.cond (.tmp 37) (.seq (.seqR [⟨(.build [(.int .i64 0), (.int .i64 0), (.int .u64 0), (.int .u64 0)] []), [], (some 38), none⟩,
 ⟨(.store 4), [.tmp 4, .tmp 38], none, none⟩,
 ⟨.move, [.const (.int .i64 10)], (some 5), none⟩])
 .ret)
 .skip))
 (.seq (.seq (.seqR [⟨(.fieldAddr 0), [.tmp 7], (some 39), none⟩,
 ⟨(.load false 1), [.tmp 39], (some 40), none⟩,
 ⟨(.bin .eql), [.tmp 40, .const (.int .i64 7)], (some 41), none⟩])
 (.cond (.tmp 41) (.seq (.drawR [⟨⟨.move, [.tmp 0], (some 43), none⟩, false, false, 0, 0⟩,
 ⟨⟨.nilCheck, [.tmp 43], (some 44), none⟩, false, false, 0, 0⟩,
 ⟨⟨(.fieldAddr 0), [.tmp 44], (some 45), none⟩, false, false, 0, 0⟩,
 ⟨⟨(.load false 1), [.tmp 45], (some 46), none⟩, false, false, 0, 0⟩,
 ⟨⟨(.load true 4), [.tmp 7], (some 47), none⟩, false, false, 0, 0⟩,
 ⟨⟨(.callF 113), [.tmp 46, .tmp 47], (some 48), none⟩, true, false, 0, 1⟩,
 ⟨⟨.move, [.tmp 48], (some 42), none⟩, false, false, 1, 1⟩,
 ⟨⟨(.extract 0), [.tmp 42], (some 49), none⟩, false, false, 1, 1⟩,
 ⟨⟨(.extract 1), [.tmp 42], (some 50), none⟩, false, false, 1, 1⟩,
 ⟨⟨(.extract 2), [.tmp 42], (some 51), none⟩, false, false, 1, 1⟩,
 ⟨⟨.move, [.tmp 49], (some 9), none⟩, false, false, 1, 1⟩,
 ⟨⟨.move, [.tmp 50], (some 10), none⟩, false, false, 1, 1⟩,
 ⟨⟨.move, [.tmp 51], (some 11), none⟩, false, false, 1, 1⟩])
 (.seq (.seqR [⟨.move, [.tmp 11], (some 52), none⟩,
 ⟨(.bin .eql), [.tmp 52, .const (.int .i64 0)], (some 53), none⟩,
 ⟨.move, [.tmp 53], (some 54), none⟩,
 ⟨.move, [.tmp 10], (some 55), some (54, true)⟩,
 ⟨.not, [.tmp 55], (some 56), some (54, true)⟩,
 ⟨.pick, [.tmp 54, .tmp 56, .const (.bool false)], (some 57), none⟩])
 (.cond (.tmp 57) (.seq (.seqR [⟨(.load true 4), [.tmp 7], (some 58), none⟩,
 ⟨(.store 4), [.tmp 4, .tmp 58], none, none⟩,
 ⟨.move, [.const (.int .i64 11)], (some 5), none⟩])
 .ret)
 .skip)))
 .skip))
 (.seq (.seqR [⟨(.load true 4), [.tmp 7], (some 59), none⟩,
 ⟨(.store 4), [.tmp 4, .tmp 59], none, none⟩,
 ⟨.move, [.const (.int .i64 0)], (some 5), none⟩])
 .ret)))))), [.cell 4 true 4, .tmp 5]⟩
theorem c85_ok : compFunc Tryz.prog Tryz.f85 = some c85 := by kernel_rfl
theorem c85_body : hasBody Tryz.prog 85 = true := hasBody_of Tryz.func85 (by kernel_rfl)
/-- coachyard/plan.right -/
def c86 : PFn := ⟨47, Tr.ofList (List.replicate 47 undefA), (.seq (.seqR [⟨.box, [.tmp 0], (some 1), none⟩,
 ⟨.move, [.const (.bool false)], (some 2), none⟩])
 (.seq (.block 0 (.seq (.seqR [⟨(.fieldAddr 0), [.tmp 1], (some 4), none⟩,
 ⟨(.load false 1), [.tmp 4], (some 5), none⟩,
 ⟨(.bin .lss), [.tmp 5, .const (.int .i64 1)], (some 6), none⟩,
 ⟨.move, [.tmp 6], (some 7), none⟩,
 ⟨(.fieldAddr 0), [.tmp 1], (some 8), some (7, false)⟩,
 ⟨(.load false 1), [.tmp 8], (some 9), some (7, false)⟩,
 ⟨(.bin .gtr), [.tmp 9, .const (.int .i64 16)], (some 10), some (7, false)⟩,
 ⟨.pick, [.tmp 7, .const (.bool true), .tmp 10], (some 11), none⟩,
 ⟨.move, [.tmp 11], (some 3), none⟩])
 (.cond (.tmp 3) (.seq (.seqR [⟨.move, [.const (.bool false)], (some 2), none⟩])
 .ret)
 (.seq (.seqR [⟨(.fieldAddr 1), [.tmp 1], (some 13), none⟩,
 ⟨(.load false 1), [.tmp 13], (some 14), none⟩,
 ⟨(.bin .neq), [.tmp 14, .const (.int .i64 0)], (some 15), none⟩,
 ⟨.move, [.tmp 15], (some 16), none⟩,
 ⟨(.fieldAddr 1), [.tmp 1], (some 17), some (16, true)⟩,
 ⟨(.load false 1), [.tmp 17], (some 18), some (16, true)⟩,
 ⟨(.bin .neq), [.tmp 18, .const (.int .i64 1)], (some 19), some (16, true)⟩,
 ⟨.pick, [.tmp 16, .tmp 19, .const (.bool false)], (some 20), none⟩,
 ⟨.move, [.tmp 20], (some 12), none⟩])
 (.cond (.tmp 12) (.seq (.seqR [⟨.move, [.const (.bool false)], (some 2), none⟩])
 .ret)
 (.seq (.seqR [⟨(.fieldAddr 2), [.tmp 1], (some 22), none⟩,
 ⟨(.load false 1), [.tmp 22], (some 23), none⟩,
 ⟨(.bin .lss), [.tmp 23, .const (.int .i64 2)], (some 24), none⟩,
 ⟨.move, [.tmp 24], (some 25), none⟩,
 ⟨(.fieldAddr 2), [.tmp 1], (some 26), some (25, false)⟩,
 ⟨(.load false 1), [.tmp 26], (some 27), some (25, false)⟩,
 ⟨(.bin .gtr), [.tmp 27, .const (.int .i64 256)], (some 28), some (25, false)⟩,
 ⟨.pick, [.tmp 25, .const (.bool true), .tmp 28], (some 29), none⟩,
 ⟨.move, [.tmp 29], (some 30), none⟩,
 ⟨(.fieldAddr 2), [.tmp 1], (some 31), some (30, false)⟩,
 ⟨(.load false 1), [.tmp 31], (some 32), some (30, false)⟩,
 ⟨(.fieldAddr 2), [.tmp 1], (some 33), some (30, false)⟩,
 ⟨(.load false 1), [.tmp 33], (some 34), some (30, false)⟩,
 ⟨(.bin .sub), [.tmp 34, .const (.int .i64 1)], (some 35), some (30, false)⟩,
 ⟨(.bin .and), [.tmp 32, .tmp 35], (some 36), some (30, false)⟩,
 ⟨(.bin .neq), [.tmp 36, .const (.int .i64 0)], (some 37), some (30, false)⟩,
 ⟨.pick, [.tmp 30, .const (.bool true), .tmp 37], (some 38), none⟩,
 ⟨.move, [.tmp 38], (some 21), none⟩])
 (.cond (.tmp 21) (.seq (.seqR [⟨.move, [.const (.bool false)], (some 2), none⟩])
 .ret)
 .skip)))))))
 (.seq (.seqR [⟨(.fieldAddr 3), [.tmp 1], (some 39), none⟩,
 ⟨(.load false 1), [.tmp 39], (some 40), none⟩,
 ⟨(.bin .geq), [.tmp 40, .const (.int .i64 2)], (some 41), none⟩,
 ⟨.move, [.tmp 41], (some 42), none⟩,
 ⟨(.fieldAddr 3), [.tmp 1], (some 43), some (42, true)⟩,
 ⟨(.load false 1), [.tmp 43], (some 44), some (42, true)⟩,
 ⟨(.bin .leq), [.tmp 44, .const (.int .i64 4096)], (some 45), some (42, true)⟩,
 ⟨.pick, [.tmp 42, .tmp 45, .const (.bool false)], (some 46), none⟩,
 ⟨.move, [.tmp 46], (some 2), none⟩])
 .ret))), [.tmp 2]⟩
theorem c86_ok : compFunc Tryz.prog Tryz.f86 = some c86 := by kernel_rfl
theorem c86_body : hasBody Tryz.prog 86 = true := hasBody_of Tryz.func86 (by kernel_rfl)
/-- (*coachyard/walk.Walk).End -/
def c87 : PFn := ⟨29, Tr.ofList (List.replicate 29 undefA), (.seq (.seqR [⟨.box, [.tmp 1], (some 3), none⟩])
 (.seq (.seqR [⟨.move, [.tmp 0], (some 4), none⟩,
 ⟨(.callF 89), [.tmp 4], (some 5), none⟩])
 (.cond (.tmp 5) (.seq (.seqR [⟨(.fieldAddr 2), [.tmp 3], (some 6), none⟩,
 ⟨(.load false 1), [.tmp 6], (some 7), none⟩,
 ⟨(.callF 49), [.tmp 7], (some 8), none⟩,
 ⟨(.fieldAddr 2), [.tmp 3], (some 9), none⟩,
 ⟨(.store 1), [.tmp 9, .tmp 8], none, none⟩])
 (.seq (.drawR [⟨⟨.move, [.tmp 0], (some 10), none⟩, false, false, 0, 0⟩,
 ⟨⟨.move, [.tmp 0], (some 11), none⟩, false, false, 0, 1⟩,
 ⟨⟨(.load true 3), [.tmp 3], (some 12), none⟩, false, false, 0, 1⟩,
 ⟨⟨.nilCheck, [.tmp 10], (some 13), none⟩, false, false, 0, 0⟩,
 ⟨⟨(.fieldAddr 8), [.tmp 13], (some 14), none⟩, false, false, 0, 0⟩,
 ⟨⟨(.store 1), [.tmp 14, .const (.bool true)], none, none⟩, true, false, 0, 1⟩,
 ⟨⟨.nilCheck, [.tmp 11], (some 15), none⟩, false, false, 1, 1⟩,
 ⟨⟨(.fieldAddr 9), [.tmp 15], (some 16), none⟩, false, false, 1, 1⟩,
 ⟨⟨(.store 3), [.tmp 16, .tmp 12], none, none⟩, true, false, 1, 2⟩])
 (.seqR [⟨.move, [.tmp 0], (some 17), none⟩,
 ⟨.move, [.tmp 0], (some 18), none⟩,
 ⟨.move, [.tmp 0], (some 19), none⟩,
 ⟨.move, [.tmp 0], (some 20), none⟩,
 ⟨.nilCheck, [.tmp 17], (some 21), none⟩,
 ⟨(.fieldAddr 5), [.tmp 21], (some 22), none⟩,
 ⟨(.store 1), [.tmp 22, .const (.bool false)], none, none⟩,
 ⟨.nilCheck, [.tmp 18], (some 23), none⟩,
 ⟨(.fieldAddr 4), [.tmp 23], (some 24), none⟩,
 ⟨(.store 1), [.tmp 24, .const .nilFunc], none, none⟩,
 ⟨.nilCheck, [.tmp 19], (some 25), none⟩,
 ⟨(.fieldAddr 6), [.tmp 25], (some 26), none⟩,
 ⟨(.store 1), [.tmp 26, .const (.ptr none)], none, none⟩,
 ⟨.nilCheck, [.tmp 20], (some 27), none⟩,
 ⟨(.fieldAddr 7), [.tmp 27], (some 28), none⟩,
 ⟨(.store 1), [.tmp 28, .const .nilFunc], none, none⟩])))
 .skip))), []⟩
theorem c87_ok : compFunc Tryz.prog Tryz.f87 = some c87 := by kernel_rfl
theorem c87_body : hasBody Tryz.prog 87 = true := hasBody_of Tryz.func87 (by kernel_rfl)
/-- (*coachyard/pool.Pool).begun$1 -/
def c88 : PFn := ⟨23, Tr.ofList (List.replicate 23 undefA), (.block 0 (.seq (.seqR [⟨(.load false 1), [.tmp 1], (some 12), none⟩,
 ⟨(.eqPtr false), [.tmp 12, .const (.ptr none)], (some 13), none⟩,
 ⟨.move, [.tmp 13], (some 11), none⟩])
 (.cond (.tmp 11) (.seqR [⟨.move, [.tmp 0], (some 14), none⟩,
 ⟨(.callF 48), [.tmp 14, .const (.int .i64 1)], (some 15), none⟩])
 (.seq (.seqR [⟨(.load false 1), [.tmp 1], (some 17), none⟩,
 ⟨(.load false 1), [.tmp 2], (some 18), none⟩,
 ⟨(.callF 67), [.tmp 17, .tmp 18], (some 19), none⟩,
 ⟨.not, [.tmp 19], (some 20), none⟩,
 ⟨.move, [.tmp 20], (some 16), none⟩])
 (.cond (.tmp 16) (.seqR [⟨.move, [.tmp 0], (some 21), none⟩,
 ⟨(.callF 48), [.tmp 21, .const (.int .i64 2)], (some 22), none⟩])
 (.seqR [⟨(.load false 1), [.tmp 3], (some 5), none⟩,
 ⟨(.load false 1), [.tmp 1], (some 6), none⟩,
 ⟨.move, [.tmp 0], (some 7), none⟩,
 ⟨(.load false 1), [.tmp 2], (some 8), none⟩,
 ⟨(.build [(.ptr none), (.ptr none), (.int .i64 0)] [(0, 1), (1, 1), (2, 1)]), [.tmp 6, .tmp 7, .tmp 8], (some 9), none⟩,
 ⟨.callV, [.tmp 5, .tmp 9], (some 10), none⟩])))))), []⟩
theorem c88_ok : compFunc Tryz.prog Tryz.f88 = some c88 := by kernel_rfl
theorem c88_body : hasBody Tryz.prog 88 = true := hasBody_of Tryz.func88 (by kernel_rfl)
/-- (*coachyard/walk.Walk).free -/
def c89 : PFn := ⟨12, Tr.ofList (List.replicate 12 undefA), (.seq (.seqR [⟨.move, [.const (.bool false)], (some 2), none⟩])
 (.seq (.seqR [⟨.move, [.tmp 0], (some 3), none⟩,
 ⟨(.eqPtr true), [.tmp 3, .const (.ptr none)], (some 4), none⟩,
 ⟨.move, [.tmp 4], (some 5), none⟩,
 ⟨.move, [.tmp 0], (some 6), some (5, true)⟩,
 ⟨.nilCheck, [.tmp 6], (some 7), some (5, true)⟩,
 ⟨(.fieldAddr 8), [.tmp 7], (some 8), some (5, true)⟩,
 ⟨(.load false 1), [.tmp 8], (some 9), some (5, true)⟩,
 ⟨.not, [.tmp 9], (some 10), some (5, true)⟩,
 ⟨.pick, [.tmp 5, .tmp 10, .const (.bool false)], (some 11), none⟩,
 ⟨.move, [.tmp 11], (some 2), none⟩])
 .ret)), [.tmp 2]⟩
theorem c89_ok : compFunc Tryz.prog Tryz.f89 = some c89 := by kernel_rfl
theorem c89_body : hasBody Tryz.prog 89 = true := hasBody_of Tryz.func89 (by kernel_rfl)
/-- (*coachyard/walk.Walk).leave -/
def c90 : PFn := ⟨41, Tr.ofList (List.replicate 41 undefA), (.seq (.seqR [⟨(.build [(.int .i64 0), (.int .u64 0), (.slice none 0 0 false)] [(0, 1)]), [.const (.int .i64 1)], (some 4), none⟩,
 ⟨(.new [(.int .i64 0), (.int .u64 0), (.slice none 0 0 false)]), [], (some 2), none⟩,
 ⟨(.store 3), [.tmp 2, .tmp 4], none, none⟩])
 (.seq (.seq (.seqR [⟨.move, [.tmp 0], (some 5), none⟩,
 ⟨.nilCheck, [.tmp 5], (some 6), none⟩,
 ⟨(.fieldAddr 6), [.tmp 6], (some 7), none⟩,
 ⟨(.load false 1), [.tmp 7], (some 8), none⟩,
 ⟨(.eqPtr true), [.tmp 8, .const (.ptr none)], (some 9), none⟩])
 (.cond (.tmp 9) (.seq (.seq (.seqR [⟨.move, [.tmp 0], (some 10), none⟩,
 ⟨.nilCheck, [.tmp 10], (some 11), none⟩,
 ⟨(.fieldAddr 6), [.tmp 11], (some 12), none⟩,
 ⟨(.load false 1), [.tmp 12], (some 13), none⟩,
 ⟨.nilCheck, [.tmp 13], (some 14), none⟩,
 ⟨(.fieldAddr 8), [.tmp 14], (some 15), none⟩,
 ⟨(.load false 1), [.tmp 15], (some 16), none⟩,
 ⟨.not, [.tmp 16], (some 17), none⟩])
 (.cond (.tmp 17) .ret
 .skip))
 (.seqR [⟨.move, [.tmp 0], (some 19), none⟩,
 ⟨.nilCheck, [.tmp 19], (some 20), none⟩,
 ⟨(.fieldAddr 6), [.tmp 20], (some 21), none⟩,
 ⟨(.load false 1), [.tmp 21], (some 22), none⟩,
 ⟨(.callF 9), [.tmp 22], (some 23), none⟩,
 ⟨.move, [.tmp 23], (some 18), none⟩,
 ⟨(.extract 0), [.tmp 18], (some 24), none⟩,
 ⟨(.extract 1), [.tmp 18], (some 25), none⟩,
 ⟨(.store 3), [.tmp 2, .tmp 24], none, none⟩]))
 .skip))
 (.seq (.seqR [⟨.move, [.tmp 0], (some 26), none⟩,
 ⟨.nilCheck, [.tmp 26], (some 27), none⟩,
 ⟨(.fieldAddr 7), [.tmp 27], (some 28), none⟩,
 ⟨(.load false 1), [.tmp 28], (some 29), none⟩,
 ⟨.move, [.tmp 29], (some 3), none⟩])
 (.seq (.seqR [⟨.move, [.tmp 0], (some 30), none⟩,
 ⟨.move, [.tmp 0], (some 31), none⟩,
 ⟨.nilCheck, [.tmp 30], (some 32), none⟩,
 ⟨(.fieldAddr 6), [.tmp 32], (some 33), none⟩,
 ⟨(.store 1), [.tmp 33, .const (.ptr none)], none, none⟩,
 ⟨.nilCheck, [.tmp 31], (some 34), none⟩,
 ⟨(.fieldAddr 7), [.tmp 34], (some 35), none⟩,
 ⟨(.store 1), [.tmp 35, .const .nilFunc], none, none⟩])
 (.seq (.seqR [⟨.move, [.tmp 3], (some 36), none⟩,
 ⟨(.eqNil 2 true), [.tmp 36, .const .nilFunc], (some 37), none⟩])
 (.cond (.tmp 37) (.seqR [⟨.move, [.tmp 3], (some 38), none⟩,
 ⟨(.load true 3), [.tmp 2], (some 39), none⟩,
 ⟨.callV, [.tmp 38, .tmp 39], (some 40), none⟩])
 .skip)))))), []⟩
theorem c90_ok : compFunc Tryz.prog Tryz.f90 = some c90 := by kernel_rfl
theorem c90_body : hasBody Tryz.prog 90 = true := hasBody_of Tryz.func90 (by kernel_rfl)
/-- (coachyard/local.Row).of -/
def c91 : PFn := ⟨23, Tr.ofList (List.replicate 23 undefA), (.seq (.seqR [⟨.box, [.tmp 0], (some 1), none⟩,
 ⟨.move, [.const .nilIface], (some 2), none⟩])
 (.seq (.seq (.seqR [⟨(.fieldAddr 0), [.tmp 1], (some 3), none⟩,
 ⟨(.load false 1), [.tmp 3], (some 4), none⟩])
 (.block 0 (.seq (.seqR [⟨(.bin .eql), [.tmp 4, .const (.int .i64 0)], (some 6), none⟩,
 ⟨.move, [.tmp 6], (some 5), none⟩])
 (.cond (.tmp 5) (.seq (.seqR [⟨(.fieldAddr 1), [.tmp 1], (some 7), none⟩,
 ⟨(.load false 1), [.tmp 7], (some 8), none⟩,
 ⟨(.fieldAddr 2), [.tmp 1], (some 9), none⟩,
 ⟨(.load false 1), [.tmp 9], (some 10), none⟩,
 ⟨(.build [(.int .i64 0), (.int .i64 0)] [(0, 1), (1, 1)]), [.tmp 8, .tmp 10], (some 11), none⟩,
 ⟨(.mkIface 202), [.tmp 11], (some 12), none⟩,
 ⟨.move, [.tmp 12], (some 2), none⟩])
 .ret)
 (.seq (.seqR [⟨(.bin .eql), [.tmp 4, .const (.int .i64 1)], (some 14), none⟩,
 ⟨.move, [.tmp 14], (some 13), none⟩])
 (.cond (.tmp 13) (.seq (.seqR [⟨(.fieldAddr 1), [.tmp 1], (some 15), none⟩,
 ⟨(.load false 1), [.tmp 15], (some 16), none⟩,
 ⟨(.fieldAddr 2), [.tmp 1], (some 17), none⟩,
 ⟨(.load false 1), [.tmp 17], (some 18), none⟩,
 ⟨(.build [(.int .i64 0), (.int .i64 0)] [(0, 1), (1, 1)]), [.tmp 16, .tmp 18], (some 19), none⟩,
 ⟨(.mkIface 203), [.tmp 19], (some 20), none⟩,
 ⟨.move, [.tmp 20], (some 2), none⟩])
 .ret)
 .skip))))))
 (.seq (.seqR [⟨(.build [] []), [], (some 21), none⟩,
 ⟨(.mkIface 205), [.tmp 21], (some 22), none⟩,
 ⟨.move, [.tmp 22], (some 2), none⟩])
 .ret))), [.tmp 2]⟩
theorem c91_ok : compFunc Tryz.prog Tryz.f91 = some c91 := by kernel_rfl
theorem c91_body : hasBody Tryz.prog 91 = true := hasBody_of Tryz.func91 (by kernel_rfl)
/-- (coachyard/pool.call).wake -/
def c92 : PFn := ⟨15, Tr.ofList (List.replicate 15 undefA), (.seq (.seqR [⟨.box, [.tmp 0], (some 2), none⟩,
 ⟨.box, [.tmp 1], (some 3), none⟩])
 (.drawR [⟨⟨(.fieldAddr 1), [.tmp 2], (some 4), none⟩, false, false, 0, 2⟩,
 ⟨⟨(.load false 1), [.tmp 4], (some 5), none⟩, false, false, 0, 2⟩,
 ⟨⟨(.fieldAddr 0), [.tmp 2], (some 6), none⟩, false, false, 0, 0⟩,
 ⟨⟨(.load false 1), [.tmp 6], (some 7), none⟩, false, false, 0, 0⟩,
 ⟨⟨.nilCheck, [.tmp 7], (some 8), none⟩, false, false, 0, 0⟩,
 ⟨⟨(.fieldAddr 0), [.tmp 8], (some 9), none⟩, false, false, 0, 0⟩,
 ⟨⟨(.load true 4), [.tmp 9], (some 10), none⟩, false, false, 0, 0⟩,
 ⟨⟨(.callF 102), [.tmp 10], (some 11), none⟩, true, false, 0, 1⟩,
 ⟨⟨(.callF 123), [.tmp 11], (some 12), none⟩, true, false, 1, 2⟩,
 ⟨⟨(.mkFunc (.func 124) 0), [.tmp 3, .tmp 2], (some 13), none⟩, false, false, 0, 2⟩,
 ⟨⟨(.callF 52), [.tmp 5, .tmp 12, .tmp 13], (some 14), none⟩, true, false, 2, 3⟩])), []⟩
theorem c92_ok : compFunc Tryz.prog Tryz.f92 = some c92 := by kernel_rfl
theorem c92_body : hasBody Tryz.prog 92 = true := hasBody_of Tryz.func92 (by kernel_rfl)
/-- (coachyard/pool.call).fine -/
def c93 : PFn := ⟨6, Tr.ofList (List.replicate 6 undefA), (.seq (.seqR [⟨.box, [.tmp 0], (some 1), none⟩])
 (.seqR [⟨(.fieldAddr 1), [.tmp 1], (some 2), none⟩,
 ⟨(.load false 1), [.tmp 2], (some 3), none⟩,
 ⟨(.build [(.int .i64 0), (.int .u64 0), (.slice none 0 0 false)] []), [], (some 4), none⟩,
 ⟨(.callF 87), [.tmp 3, .tmp 4], (some 5), none⟩])), []⟩
theorem c93_ok : compFunc Tryz.prog Tryz.f93 = some c93 := by kernel_rfl
theorem c93_body : hasBody Tryz.prog 93 = true := hasBody_of Tryz.func93 (by kernel_rfl)
/-- (*coachyard/pool.next).or -/
def c96 : PFn := ⟨26, Tr.ofList (List.replicate 26 undefA), (.seq (.seqR [⟨.box, [.tmp 1], (some 5), none⟩])
 (.seq (.seq (.seqR [⟨(.fieldAddr 0), [.tmp 5], (some 8), none⟩,
 ⟨(.load false 1), [.tmp 8], (some 9), none⟩,
 ⟨(.bin .eql), [.tmp 9, .const (.int .i64 5)], (some 10), none⟩])
 (.cond (.tmp 10) (.seq (.seqR [⟨.move, [.tmp 0], (some 11), none⟩,
 ⟨.nilCheck, [.tmp 11], (some 12), none⟩,
 ⟨(.fieldAddr 0), [.tmp 12], (some 13), none⟩,
 ⟨(.fieldAddr 1), [.tmp 13], (some 14), none⟩,
 ⟨(.load false 1), [.tmp 14], (some 15), none⟩,
 ⟨.move, [.tmp 2], (some 16), none⟩,
 ⟨.move, [.tmp 3], (some 17), none⟩,
 ⟨(.callF 52), [.tmp 15, .tmp 16, .tmp 17], (some 18), none⟩])
 .ret)
 .skip))
 (.drawR [⟨⟨.move, [.tmp 0], (some 19), none⟩, false, false, 0, 0⟩,
 ⟨⟨.nilCheck, [.tmp 19], (some 20), none⟩, false, false, 0, 0⟩,
 ⟨⟨(.fieldAddr 0), [.tmp 20], (some 21), none⟩, false, false, 0, 0⟩,
 ⟨⟨(.fieldAddr 1), [.tmp 21], (some 22), none⟩, false, false, 0, 0⟩,
 ⟨⟨(.load false 1), [.tmp 22], (some 23), none⟩, false, false, 0, 0⟩,
 ⟨⟨(.load true 3), [.tmp 5], (some 24), none⟩, false, false, 0, 0⟩,
 ⟨⟨(.callF 87), [.tmp 23, .tmp 24], (some 25), none⟩, true, false, 0, 1⟩]))), []⟩
theorem c96_ok : compFunc Tryz.prog Tryz.f96 = some c96 := by kernel_rfl
theorem c96_body : hasBody Tryz.prog 96 = true := hasBody_of Tryz.func96 (by kernel_rfl)
/-- (coachyard/queue.Line).Take -/
def c97 : PFn := ⟨5, Tr.ofList (List.replicate 5 undefA), (.seq (.seqR [⟨.box, [.tmp 0], (some 1), none⟩,
 ⟨.move, [.const (.ptr none)], (some 2), none⟩])
 (.seq (.seqR [⟨(.mkFunc (.func 132) 0), [.tmp 1], (some 3), none⟩,
 ⟨(.callF 46), [.tmp 3], (some 4), none⟩,
 ⟨.move, [.tmp 4], (some 2), none⟩])
 .ret)), [.tmp 2]⟩
theorem c97_ok : compFunc Tryz.prog Tryz.f97 = some c97 := by kernel_rfl
theorem c97_body : hasBody Tryz.prog 97 = true := hasBody_of Tryz.func97 (by kernel_rfl)
/-- (*coachyard/pool.next).taken -/
def c98 : PFn := ⟨24, Tr.ofList (List.replicate 24 undefA), (.seq (.seqR [⟨.box, [.tmp 1], (some 3), none⟩])
 (.drawR [⟨⟨.move, [.tmp 0], (some 4), none⟩, false, false, 0, 2⟩,
 ⟨⟨(.load true 3), [.tmp 3], (some 5), none⟩, false, false, 0, 2⟩,
 ⟨⟨.move, [.tmp 0], (some 6), none⟩, false, false, 0, 0⟩,
 ⟨⟨.nilCheck, [.tmp 6], (some 7), none⟩, false, false, 0, 0⟩,
 ⟨⟨(.fieldAddr 0), [.tmp 7], (some 8), none⟩, false, false, 0, 0⟩,
 ⟨⟨(.fieldAddr 0), [.tmp 8], (some 9), none⟩, false, false, 0, 0⟩,
 ⟨⟨(.load false 1), [.tmp 9], (some 10), none⟩, false, false, 0, 0⟩,
 ⟨⟨.nilCheck, [.tmp 10], (some 11), none⟩, false, false, 0, 0⟩,
 ⟨⟨(.fieldAddr 0), [.tmp 11], (some 12), none⟩, false, false, 0, 0⟩,
 ⟨⟨(.load true 4), [.tmp 12], (some 13), none⟩, false, false, 0, 0⟩,
 ⟨⟨(.callF 102), [.tmp 13], (some 14), none⟩, true, false, 0, 1⟩,
 ⟨⟨.move, [.tmp 0], (some 15), none⟩, false, false, 0, 1⟩,
 ⟨⟨.nilCheck, [.tmp 15], (some 16), none⟩, false, false, 0, 1⟩,
 ⟨⟨(.fieldAddr 0), [.tmp 16], (some 17), none⟩, false, false, 0, 1⟩,
 ⟨⟨(.fieldAddr 2), [.tmp 17], (some 18), none⟩, false, false, 0, 1⟩,
 ⟨⟨(.load false 1), [.tmp 18], (some 19), none⟩, false, false, 0, 1⟩,
 ⟨⟨(.callF 134), [.tmp 14, .tmp 19], (some 20), none⟩, true, false, 1, 2⟩,
 ⟨⟨.move, [.tmp 0], (some 21), none⟩, false, false, 0, 2⟩,
 ⟨⟨(.mkFunc (.func 135) 1), [.tmp 21], (some 22), none⟩, false, false, 0, 2⟩,
 ⟨⟨(.callF 96), [.tmp 4, .tmp 5, .tmp 20, .tmp 22], (some 23), none⟩, true, false, 2, 3⟩])), []⟩
theorem c98_ok : compFunc Tryz.prog Tryz.f98 = some c98 := by kernel_rfl
theorem c98_body : hasBody Tryz.prog 98 = true := hasBody_of Tryz.func98 (by kernel_rfl)
/-- (coachyard/plan.Plan).there -/
def c99 : PFn := ⟨14, Tr.ofList (List.replicate 14 undefA), (.seq (.seqR [⟨.box, [.tmp 0], (some 2), none⟩,
 ⟨.move, [.const (.bool false)], (some 4), none⟩])
 (.seq (.seqR [⟨.move, [.tmp 1], (some 5), none⟩,
 ⟨(.bin .geq), [.tmp 5, .const (.int .i64 0)], (some 6), none⟩,
 ⟨.move, [.tmp 6], (some 7), none⟩,
 ⟨.move, [.tmp 1], (some 8), some (7, true)⟩,
 ⟨(.fieldAddr 0), [.tmp 2], (some 9), some (7, true)⟩,
 ⟨(.fieldAddr 0), [.tmp 9], (some 10), some (7, true)⟩,
 ⟨(.load false 1), [.tmp 10], (some 11), some (7, true)⟩,
 ⟨(.bin .lss), [.tmp 8, .tmp 11], (some 12), some (7, true)⟩,
 ⟨.pick, [.tmp 7, .tmp 12, .const (.bool false)], (some 13), none⟩,
 ⟨.move, [.tmp 13], (some 4), none⟩])
 .ret)), [.tmp 4]⟩
theorem c99_ok : compFunc Tryz.prog Tryz.f99 = some c99 := by kernel_rfl
theorem c99_body : hasBody Tryz.prog 99 = true := hasBody_of Tryz.func99 (by kernel_rfl)
/-- (coachyard/park.Spot).once -/
def c100 : PFn := ⟨12, Tr.ofList (List.replicate 12 undefA), (.seq (.seqR [⟨.box, [.tmp 0], (some 4), none⟩,
 ⟨.box, [.tmp 1], (some 5), none⟩,
 ⟨.box, [.tmp 2], (some 6), none⟩,
 ⟨.box, [.tmp 3], (some 7), none⟩,
 ⟨.move, [.const (.ptr none)], (some 8), none⟩])
 (.seq (.seqR [⟨(.load true 1), [.tmp 4], (some 9), none⟩,
 ⟨(.mkFunc (.func 137) 0), [.tmp 5, .tmp 4, .tmp 6, .tmp 7], (some 10), none⟩,
 ⟨(.callF 136), [.tmp 9, .tmp 10], (some 11), none⟩,
 ⟨.move, [.tmp 11], (some 8), none⟩])
 .ret)), [.tmp 8]⟩
theorem c100_ok : compFunc Tryz.prog Tryz.f100 = some c100 := by kernel_rfl
theorem c100_body : hasBody Tryz.prog 100 = true := hasBody_of Tryz.func100 (by kernel_rfl)
/-- coachyard/park.epoch -/
def c101 : PFn := ⟨12, Tr.ofList (List.replicate 12 undefA), (.seq (.seqR [⟨.move, [.const (.int .u64 0)], (some 2), none⟩])
 (.seq (.seqR [⟨.move, [.tmp 0], (some 6), none⟩,
 ⟨(.callF 140), [.tmp 6], (some 7), none⟩,
 ⟨.move, [.tmp 7], (some 5), none⟩,
 ⟨(.extract 0), [.tmp 5], (some 8), none⟩,
 ⟨(.extract 1), [.tmp 5], (some 9), none⟩,
 ⟨.move, [.tmp 8], (some 3), none⟩,
 ⟨.move, [.tmp 9], (some 4), none⟩])
 (.seq (.seqR [⟨.move, [.tmp 3], (some 10), none⟩,
 ⟨(.conv .u64), [.tmp 10], (some 11), none⟩,
 ⟨.move, [.tmp 11], (some 2), none⟩])
 .ret))), [.tmp 2]⟩
theorem c101_ok : compFunc Tryz.prog Tryz.f101 = some c101 := by kernel_rfl
theorem c101_body : hasBody Tryz.prog 101 = true := hasBody_of Tryz.func101 (by kernel_rfl)
/-- (coachyard/plan.Plan).Yard -/
def c102 : PFn := ⟨7, Tr.ofList (List.replicate 7 undefA), (.seq (.seqR [⟨.box, [.tmp 0], (some 1), none⟩,
 ⟨(.new [(.int .i64 0), (.int .i64 0)]), [], (some 2), none⟩])
 (.seq (.seqR [⟨(.fieldAddr 0), [.tmp 1], (some 3), none⟩,
 ⟨(.fieldAddr 0), [.tmp 3], (some 4), none⟩,
 ⟨(.load false 1), [.tmp 4], (some 5), none⟩,
 ⟨(.build [(.int .i64 0), (.int .i64 0)] [(1, 1)]), [.tmp 5], (some 6), none⟩,
 ⟨(.store 2), [.tmp 2, .tmp 6], none, none⟩])
 .ret)), [.cell 2 true 2]⟩
theorem c102_ok : compFunc Tryz.prog Tryz.f102 = some c102 := by kernel_rfl
theorem c102_body : hasBody Tryz.prog 102 = true := hasBody_of Tryz.func102 (by kernel_rfl)
/-- (coachyard/idle.Yard).Sleep -/
def c103 : PFn := ⟨12, Tr.ofList (List.replicate 12 undefA), (.seq (.seqR [⟨.box, [.tmp 0], (some 2), none⟩,
 ⟨.move, [.const (.ptr none)], (some 4), none⟩])
 (.seq (.drawR [⟨⟨(.load true 2), [.tmp 2], (some 5), none⟩, false, false, 0, 1⟩,
 ⟨⟨.move, [.tmp 1], (some 6), none⟩, false, false, 0, 1⟩,
 ⟨⟨(.load true 2), [.tmp 2], (some 7), none⟩, false, false, 0, 0⟩,
 ⟨⟨.move, [.tmp 1], (some 8), none⟩, false, false, 0, 0⟩,
 ⟨⟨(.callF 142), [.tmp 7, .tmp 8], (some 9), none⟩, true, false, 0, 1⟩,
 ⟨⟨(.mkFunc (.func 143) 1), [.tmp 9], (some 10), none⟩, false, false, 1, 1⟩,
 ⟨⟨(.callF 141), [.tmp 5, .tmp 6, .tmp 10], (some 11), none⟩, true, false, 1, 2⟩,
 ⟨⟨.move, [.tmp 11], (some 4), none⟩, false, false, 2, 2⟩])
 .ret)), [.tmp 4]⟩
theorem c103_ok : compFunc Tryz.prog Tryz.f103 = some c103 := by kernel_rfl
theorem c103_body : hasBody Tryz.prog 103 = true := hasBody_of Tryz.func103 (by kernel_rfl)
/-- (*coachyard/pool.parker).prepared$1 -/
def c104 : PFn := ⟨5, Tr.ofList (List.replicate 5 undefA), (.seq (.seqR [⟨.box, [.tmp 0], (some 2), none⟩])
 (.seqR [⟨(.load false 1), [.tmp 1], (some 3), none⟩,
 ⟨(.callF 105), [.tmp 3], (some 4), none⟩])), []⟩
theorem c104_ok : compFunc Tryz.prog Tryz.f104 = some c104 := by kernel_rfl
theorem c104_body : hasBody Tryz.prog 104 = true := hasBody_of Tryz.func104 (by kernel_rfl)
/-- (*coachyard/pool.parker).peek -/
def c105 : PFn := ⟨94, Tr.ofList (List.replicate 94 undefA), (.seq (.seqR [⟨.move, [.tmp 0], (some 3), none⟩,
 ⟨.nilCheck, [.tmp 3], (some 4), none⟩,
 ⟨(.fieldAddr 0), [.tmp 4], (some 5), none⟩,
 ⟨(.fieldAddr 0), [.tmp 5], (some 6), none⟩,
 ⟨(.load false 1), [.tmp 6], (some 7), none⟩,
 ⟨.nilCheck, [.tmp 7], (some 8), none⟩,
 ⟨(.fieldAddr 0), [.tmp 8], (some 9), none⟩,
 ⟨(.load true 4), [.tmp 9], (some 10), none⟩,
 ⟨(.callF 65), [.tmp 10], (some 11), none⟩,
 ⟨(.field 0 1 false), [.tmp 11], (some 12), none⟩,
 ⟨.move, [.tmp 12], (some 2), none⟩])
 (.block 0 (.seq (.seqR [⟨.move, [.tmp 0], (some 44), none⟩,
 ⟨.nilCheck, [.tmp 44], (some 45), none⟩,
 ⟨(.fieldAddr 4), [.tmp 45], (some 46), none⟩,
 ⟨(.load false 1), [.tmp 46], (some 47), none⟩,
 ⟨.move, [.tmp 2], (some 48), none⟩,
 ⟨(.bin .lss), [.tmp 47, .tmp 48], (some 49), none⟩,
 ⟨.move, [.tmp 49], (some 43), none⟩])
 (.cond (.tmp 43) (.drawR [⟨⟨.move, [.tmp 0], (some 50), none⟩, false, false, 0, 2⟩,
 ⟨⟨.nilCheck, [.tmp 50], (some 51), none⟩, false, false, 0, 2⟩,
 ⟨⟨(.fieldAddr 0), [.tmp 51], (some 52), none⟩, false, false, 0, 2⟩,
 ⟨⟨(.fieldAddr 1), [.tmp 52], (some 53), none⟩, false, false, 0, 2⟩,
 ⟨⟨(.load false 1), [.tmp 53], (some 54), none⟩, false, false, 0, 2⟩,
 ⟨⟨.move, [.tmp 0], (some 55), none⟩, false, false, 0, 0⟩,
 ⟨⟨.nilCheck, [.tmp 55], (some 56), none⟩, false, false, 0, 0⟩,
 ⟨⟨(.fieldAddr 0), [.tmp 56], (some 57), none⟩, false, false, 0, 0⟩,
 ⟨⟨(.fieldAddr 0), [.tmp 57], (some 58), none⟩, false, false, 0, 0⟩,
 ⟨⟨(.load false 1), [.tmp 58], (some 59), none⟩, false, false, 0, 0⟩,
 ⟨⟨.move, [.tmp 0], (some 60), none⟩, false, false, 0, 0⟩,
 ⟨⟨.nilCheck, [.tmp 60], (some 61), none⟩, false, false, 0, 0⟩,
 ⟨⟨(.fieldAddr 4), [.tmp 61], (some 62), none⟩, false, false, 0, 0⟩,
 ⟨⟨(.load false 1), [.tmp 62], (some 63), none⟩, false, false, 0, 0⟩,
 ⟨⟨(.callF 15), [.tmp 59, .tmp 63], (some 64), none⟩, true, false, 0, 1⟩,
 ⟨⟨(.callF 144), [.tmp 64], (some 65), none⟩, true, false, 1, 2⟩,
 ⟨⟨.move, [.tmp 0], (some 66), none⟩, false, false, 0, 2⟩,
 ⟨⟨(.mkFunc (.func 145) 1), [.tmp 66], (some 67), none⟩, false, false, 0, 2⟩,
 ⟨⟨(.callF 52), [.tmp 54, .tmp 65, .tmp 67], (some 68), none⟩, true, false, 2, 3⟩])
 (.seq (.seqR [⟨.move, [.tmp 0], (some 70), none⟩,
 ⟨.nilCheck, [.tmp 70], (some 71), none⟩,
 ⟨(.fieldAddr 4), [.tmp 71], (some 72), none⟩,
 ⟨(.load false 1), [.tmp 72], (some 73), none⟩,
 ⟨.move, [.tmp 2], (some 74), none⟩,
 ⟨(.bin .eql), [.tmp 73, .tmp 74], (some 75), none⟩,
 ⟨.move, [.tmp 75], (some 69), none⟩])
 (.cond (.tmp 69) (.drawR [⟨⟨.move, [.tmp 0], (some 76), none⟩, false, false, 0, 2⟩,
 ⟨⟨.nilCheck, [.tmp 76], (some 77), none⟩, false, false, 0, 2⟩,
 ⟨⟨(.fieldAddr 0), [.tmp 77], (some 78), none⟩, false, false, 0, 2⟩,
 ⟨⟨(.fieldAddr 1), [.tmp 78], (some 79), none⟩, false, false, 0, 2⟩,
 ⟨⟨(.load false 1), [.tmp 79], (some 80), none⟩, false, false, 0, 2⟩,
 ⟨⟨.move, [.tmp 0], (some 81), none⟩, false, false, 0, 0⟩,
 ⟨⟨.nilCheck, [.tmp 81], (some 82), none⟩, false, false, 0, 0⟩,
 ⟨⟨(.fieldAddr 0), [.tmp 82], (some 83), none⟩, false, false, 0, 0⟩,
 ⟨⟨(.fieldAddr 0), [.tmp 83], (some 84), none⟩, false, false, 0, 0⟩,
 ⟨⟨(.load false 1), [.tmp 84], (some 85), none⟩, false, false, 0, 0⟩,
 ⟨⟨.nilCheck, [.tmp 85], (some 86), none⟩, false, false, 0, 0⟩,
 ⟨⟨(.fieldAddr 0), [.tmp 86], (some 87), none⟩, false, false, 0, 0⟩,
 ⟨⟨(.load true 4), [.tmp 87], (some 88), none⟩, false, false, 0, 0⟩,
 ⟨⟨(.callF 63), [.tmp 88], (some 89), none⟩, true, false, 0, 1⟩,
 ⟨⟨(.callF 146), [.tmp 89], (some 90), none⟩, true, false, 1, 2⟩,
 ⟨⟨.move, [.tmp 0], (some 91), none⟩, false, false, 0, 2⟩,
 ⟨⟨(.mkFunc (.func 145) 1), [.tmp 91], (some 92), none⟩, false, false, 0, 2⟩,
 ⟨⟨(.callF 52), [.tmp 80, .tmp 90, .tmp 92], (some 93), none⟩, true, false, 2, 3⟩])
 (.seq (.seqR [⟨.move, [.tmp 0], (some 13), none⟩,
 ⟨.nilCheck, [.tmp 13], (some 14), none⟩,
 ⟨(.fieldAddr 5), [.tmp 14], (some 15), none⟩,
 ⟨(.store 1), [.tmp 15, .const (.int .u64 1)], none, none⟩])
 (.drawR [⟨⟨.move, [.tmp 0], (some 16), none⟩, false, false, 0, 2⟩,
 ⟨⟨.nilCheck, [.tmp 16], (some 17), none⟩, false, false, 0, 2⟩,
 ⟨⟨(.fieldAddr 0), [.tmp 17], (some 18), none⟩, false, false, 0, 2⟩,
 ⟨⟨(.fieldAddr 1), [.tmp 18], (some 19), none⟩, false, false, 0, 2⟩,
 ⟨⟨(.load false 1), [.tmp 19], (some 20), none⟩, false, false, 0, 2⟩,
 ⟨⟨.move, [.tmp 0], (some 21), none⟩, false, false, 0, 0⟩,
 ⟨⟨.nilCheck, [.tmp 21], (some 22), none⟩, false, false, 0, 0⟩,
 ⟨⟨(.fieldAddr 0), [.tmp 22], (some 23), none⟩, false, false, 0, 0⟩,
 ⟨⟨(.fieldAddr 0), [.tmp 23], (some 24), none⟩, false, false, 0, 0⟩,
 ⟨⟨(.load false 1), [.tmp 24], (some 25), none⟩, false, false, 0, 0⟩,
 ⟨⟨.nilCheck, [.tmp 25], (some 26), none⟩, false, false, 0, 0⟩,
 ⟨⟨(.fieldAddr 0), [.tmp 26], (some 27), none⟩, false, false, 0, 0⟩,
 ⟨⟨(.load true 4), [.tmp 27], (some 28), none⟩, false, false, 0, 0⟩,
 ⟨⟨.move, [.tmp 0], (some 29), none⟩, false, false, 0, 0⟩,
 ⟨⟨.nilCheck, [.tmp 29], (some 30), none⟩, false, false, 0, 0⟩,
 ⟨⟨(.fieldAddr 0), [.tmp 30], (some 31), none⟩, false, false, 0, 0⟩,
 ⟨⟨(.fieldAddr 2), [.tmp 31], (some 32), none⟩, false, false, 0, 0⟩,
 ⟨⟨(.load false 1), [.tmp 32], (some 33), none⟩, false, false, 0, 0⟩,
 ⟨⟨(.callF 60), [.tmp 28, .tmp 33], (some 34), none⟩, true, false, 0, 1⟩,
 ⟨⟨.move, [.tmp 0], (some 35), none⟩, false, false, 0, 1⟩,
 ⟨⟨.nilCheck, [.tmp 35], (some 36), none⟩, false, false, 0, 1⟩,
 ⟨⟨(.fieldAddr 3), [.tmp 36], (some 37), none⟩, false, false, 0, 1⟩,
 ⟨⟨(.load false 1), [.tmp 37], (some 38), none⟩, false, false, 0, 1⟩,
 ⟨⟨(.callF 147), [.tmp 34, .tmp 38], (some 39), none⟩, true, false, 1, 2⟩,
 ⟨⟨.move, [.tmp 0], (some 40), none⟩, false, false, 0, 2⟩,
 ⟨⟨(.mkFunc (.func 148) 1), [.tmp 40], (some 41), none⟩, false, false, 0, 2⟩,
 ⟨⟨(.callF 52), [.tmp 20, .tmp 39, .tmp 41], (some 42), none⟩, true, false, 2, 3⟩])))))))), []⟩
theorem c105_ok : compFunc Tryz.prog Tryz.f105 = some c105 := by kernel_rfl
theorem c105_body : hasBody Tryz.prog 105 = true := hasBody_of Tryz.func105 (by kernel_rfl)
/-- (coachyard/queue.Line).check -/
def c106 : PFn := ⟨23, Tr.ofList (List.replicate 23 undefA), (.seq (.seqR [⟨.box, [.tmp 0], (some 2), none⟩,
 ⟨.move, [.const (.int .i64 0)], (some 4), none⟩])
 (.seq (.block 0 (.seq (.seqR [⟨.move, [.tmp 1], (some 6), none⟩,
 ⟨(.eqPtr false), [.tmp 6, .const (.ptr none)], (some 7), none⟩,
 ⟨.move, [.tmp 7], (some 5), none⟩])
 (.cond (.tmp 5) (.seq (.seqR [⟨.move, [.const (.int .i64 1)], (some 4), none⟩])
 .ret)
 (.seq (.seqR [⟨(.load true 2), [.tmp 2], (some 9), none⟩,
 ⟨(.callF 128), [.tmp 9], (some 10), none⟩,
 ⟨.not, [.tmp 10], (some 11), none⟩,
 ⟨.move, [.tmp 11], (some 8), none⟩])
 (.cond (.tmp 8) (.seq (.seqR [⟨.move, [.const (.int .i64 2)], (some 4), none⟩])
 .ret)
 (.seq (.drawR [⟨⟨.move, [.tmp 1], (some 13), none⟩, false, false, 0, 0⟩,
 ⟨⟨(.callF 149), [.tmp 13], (some 14), none⟩, true, false, 0, 1⟩,
 ⟨⟨(.fieldAddr 0), [.tmp 2], (some 15), none⟩, false, false, 0, 1⟩,
 ⟨⟨(.load false 1), [.tmp 15], (some 16), none⟩, false, false, 0, 1⟩,
 ⟨⟨(.fieldAddr 1), [.tmp 2], (some 17), none⟩, false, false, 0, 1⟩,
 ⟨⟨(.load false 1), [.tmp 17], (some 18), none⟩, false, false, 0, 1⟩,
 ⟨⟨(.bin .mul), [.const (.int .i64 3), .tmp 18], (some 19), none⟩, false, false, 0, 1⟩,
 ⟨⟨(.bin .add), [.tmp 16, .tmp 19], (some 20), none⟩, false, false, 0, 1⟩,
 ⟨⟨(.bin .add), [.tmp 20, .const (.int .i64 2)], (some 21), none⟩, false, false, 0, 1⟩,
 ⟨⟨(.bin .leq), [.tmp 14, .tmp 21], (some 22), none⟩, false, false, 1, 1⟩,
 ⟨⟨.move, [.tmp 22], (some 12), none⟩, false, false, 1, 1⟩])
 (.cond (.tmp 12) (.seq (.seqR [⟨.move, [.const (.int .i64 3)], (some 4), none⟩])
 .ret)
 .skip)))))))
 (.seq (.seqR [⟨.move, [.const (.int .i64 0)], (some 4), none⟩])
 .ret))), [.tmp 4]⟩
theorem c106_ok : compFunc Tryz.prog Tryz.f106 = some c106 := by kernel_rfl
theorem c106_body : hasBody Tryz.prog 106 = true := hasBody_of Tryz.func106 (by kernel_rfl)
/-- (*coachyard/cells.Mem).All -/
def c107 : PFn := ⟨10, Tr.ofList (List.replicate 10 undefA), (.seq (.seqR [⟨.move, [.const (.slice none 0 0 false)], (some 2), none⟩])
 (.seq (.seq (.seqR [⟨.move, [.tmp 0], (some 3), none⟩,
 ⟨(.eqPtr false), [.tmp 3, .const (.ptr none)], (some 4), none⟩])
 (.cond (.tmp 4) (.seq (.seqR [⟨.move, [.const (.slice none 0 0 false)], (some 2), none⟩])
 .ret)
 .skip))
 (.seq (.seqR [⟨.move, [.tmp 0], (some 5), none⟩,
 ⟨.nilCheck, [.tmp 5], (some 6), none⟩,
 ⟨(.fieldAddr 0), [.tmp 6], (some 7), none⟩,
 ⟨(.load false 1), [.tmp 7], (some 8), none⟩,
 ⟨(.callF 49), [.tmp 8], (some 9), none⟩,
 ⟨.move, [.tmp 9], (some 2), none⟩])
 .ret))), [.tmp 2]⟩
theorem c107_ok : compFunc Tryz.prog Tryz.f107 = some c107 := by kernel_rfl
theorem c107_body : hasBody Tryz.prog 107 = true := hasBody_of Tryz.func107 (by kernel_rfl)
/-- (coachyard/queue.Line).node -/
def c108 : PFn := ⟨23, Tr.ofList (List.replicate 23 undefA), (.seq (.seqR [⟨.box, [.tmp 0], (some 2), none⟩,
 ⟨.move, [.const (.int .u32 0)], (some 4), none⟩,
 ⟨.move, [.const (.bool false)], (some 5), none⟩])
 (.seq (.seqR [⟨.move, [.tmp 1], (some 9), none⟩,
 ⟨(.callF 140), [.tmp 9], (some 10), none⟩,
 ⟨.move, [.tmp 10], (some 8), none⟩,
 ⟨(.extract 0), [.tmp 8], (some 11), none⟩,
 ⟨(.extract 1), [.tmp 8], (some 12), none⟩,
 ⟨.move, [.tmp 11], (some 6), none⟩,
 ⟨.move, [.tmp 12], (some 7), none⟩])
 (.seq (.drawR [⟨⟨.move, [.tmp 7], (some 13), none⟩, false, false, 0, 0⟩,
 ⟨⟨.move, [.tmp 7], (some 14), none⟩, false, false, 0, 0⟩,
 ⟨⟨(.bin .geq), [.tmp 14, .const (.int .u32 1)], (some 15), none⟩, false, false, 0, 0⟩,
 ⟨⟨.move, [.tmp 15], (some 16), none⟩, false, false, 0, 0⟩,
 ⟨⟨.move, [.tmp 7], (some 17), some (16, true)⟩, false, false, 0, 0⟩,
 ⟨⟨(.conv .i64), [.tmp 17], (some 18), some (16, true)⟩, false, false, 0, 0⟩,
 ⟨⟨(.fieldAddr 1), [.tmp 2], (some 19), some (16, true)⟩, false, false, 0, 0⟩,
 ⟨⟨(.load false 1), [.tmp 19], (some 20), some (16, true)⟩, false, false, 0, 0⟩,
 ⟨⟨(.bin .leq), [.tmp 18, .tmp 20], (some 21), some (16, true)⟩, false, false, 0, 0⟩,
 ⟨⟨.pick, [.tmp 16, .tmp 21, .const (.bool false)], (some 22), none⟩, false, false, 0, 0⟩,
 ⟨⟨.move, [.tmp 13], (some 4), none⟩, false, false, 0, 0⟩,
 ⟨⟨.move, [.tmp 22], (some 5), none⟩, false, false, 0, 0⟩])
 .ret))), [.tmp 4, .tmp 5]⟩
theorem c108_ok : compFunc Tryz.prog Tryz.f108 = some c108 := by kernel_rfl
theorem c108_body : hasBody Tryz.prog 108 = true := hasBody_of Tryz.func108 (by kernel_rfl)
/-- (coachyard/queue.Line).task -/
def c109 : PFn := ⟨14, Tr.ofList (List.replicate 14 undefA), (.seq (.seqR [⟨.box, [.tmp 0], (some 2), none⟩,
 ⟨.move, [.const (.int .i64 0)], (some 4), none⟩])
 (.seq (.seqR [⟨(.fieldAddr 0), [.tmp 2], (some 5), none⟩,
 ⟨(.load false 1), [.tmp 5], (some 6), none⟩,
 ⟨(.bin .add), [.tmp 6, .const (.int .i64 2)], (some 7), none⟩,
 ⟨(.fieldAddr 1), [.tmp 2], (some 8), none⟩,
 ⟨(.load false 1), [.tmp 8], (some 9), none⟩,
 ⟨(.bin .add), [.tmp 7, .tmp 9], (some 10), none⟩,
 ⟨.move, [.tmp 1], (some 11), none⟩,
 ⟨(.conv .i64), [.tmp 11], (some 12), none⟩,
 ⟨(.bin .add), [.tmp 10, .tmp 12], (some 13), none⟩,
 ⟨.move, [.tmp 13], (some 4), none⟩])
 .ret)), [.tmp 4]⟩
theorem c109_ok : compFunc Tryz.prog Tryz.f109 = some c109 := by kernel_rfl
theorem c109_body : hasBody Tryz.prog 109 = true := hasBody_of Tryz.func109 (by kernel_rfl)
/-- (coachyard/queue.Line).next -/
def c110 : PFn := ⟨15, Tr.ofList (List.replicate 15 undefA), (.seq (.seqR [⟨.box, [.tmp 0], (some 2), none⟩,
 ⟨.move, [.const (.int .i64 0)], (some 4), none⟩])
 (.seq (.seqR [⟨(.fieldAddr 0), [.tmp 2], (some 5), none⟩,
 ⟨(.load false 1), [.tmp 5], (some 6), none⟩,
 ⟨(.bin .add), [.tmp 6, .const (.int .i64 2)], (some 7), none⟩,
 ⟨(.fieldAddr 1), [.tmp 2], (some 8), none⟩,
 ⟨(.load false 1), [.tmp 8], (some 9), none⟩,
 ⟨(.bin .mul), [.const (.int .i64 2), .tmp 9], (some 10), none⟩,
 ⟨(.bin .add), [.tmp 7, .tmp 10], (some 11), none⟩,
 ⟨.move, [.tmp 1], (some 12), none⟩,
 ⟨(.conv .i64), [.tmp 12], (some 13), none⟩,
 ⟨(.bin .add), [.tmp 11, .tmp 13], (some 14), none⟩,
 ⟨.move, [.tmp 14], (some 4), none⟩])
 .ret)), [.tmp 4]⟩
theorem c110_ok : compFunc Tryz.prog Tryz.f110 = some c110 := by kernel_rfl
theorem c110_body : hasBody Tryz.prog 110 = true := hasBody_of Tryz.func110 (by kernel_rfl)
/-- slices.Clone[[]int,int] -/
def c111 : PFn := ⟨8, Tr.ofList (List.replicate 8 undefA), (.seq (.seqR [⟨.move, [.const (.slice none 0 0 false)], (some 2), none⟩])
 (.seq (.seq (.seqR [⟨.move, [.tmp 0], (some 3), none⟩,
 ⟨(.eqNil 0 false), [.tmp 3, .const (.slice none 0 0 false)], (some 4), none⟩])
 (.cond (.tmp 4) (.seq (.seqR [⟨.move, [.const (.slice none 0 0 false)], (some 2), none⟩])
 .ret)
 .skip))
 (.seq (.seqR [⟨(.sliceLit 0 [] []), [], (some 5), none⟩,
 ⟨.move, [.tmp 0], (some 6), none⟩,
 ⟨(.append 1 8), [.tmp 5, .tmp 6], (some 7), none⟩,
 ⟨.move, [.tmp 7], (some 2), none⟩])
 .ret))), [.tmp 2]⟩
theorem c111_ok : compFunc Tryz.prog Tryz.f111 = some c111 := by kernel_rfl
theorem c111_body : hasBody Tryz.prog 111 = true := hasBody_of Tryz.func111 (by kernel_rfl)
/-- (*coachyard/loom.Loom).Steps -/
def c112 : PFn := ⟨9, Tr.ofList (List.replicate 9 undefA), (.seq (.seqR [⟨.move, [.const (.int .i64 0)], (some 2), none⟩])
 (.seq (.seq (.seqR [⟨.move, [.tmp 0], (some 3), none⟩,
 ⟨(.eqPtr false), [.tmp 3, .const (.ptr none)], (some 4), none⟩])
 (.cond (.tmp 4) (.seq (.seqR [⟨.move, [.const (.int .i64 0)], (some 2), none⟩])
 .ret)
 .skip))
 (.seq (.seqR [⟨.move, [.tmp 0], (some 5), none⟩,
 ⟨.nilCheck, [.tmp 5], (some 6), none⟩,
 ⟨(.fieldAddr 2), [.tmp 6], (some 7), none⟩,
 ⟨(.load false 1), [.tmp 7], (some 8), none⟩,
 ⟨.move, [.tmp 8], (some 2), none⟩])
 .ret))), [.tmp 2]⟩
theorem c112_ok : compFunc Tryz.prog Tryz.f112 = some c112 := by kernel_rfl
theorem c112_body : hasBody Tryz.prog 112 = true := hasBody_of Tryz.func112 (by kernel_rfl)
/-- (*coachyard/cells.Mem).Do -/
def c113 : PFn := ⟨58, Tr.ofList (List.replicate 58 undefA), (.seq (.seqR [⟨.box, [.tmp 1], (some 3), none⟩,
 ⟨.move, [.const (.int .u64 0)], (some 4), none⟩,
 ⟨.move, [.const (.bool false)], (some 5), none⟩,
 ⟨.move, [.const (.int .i64 0)], (some 6), none⟩])
 (.seq (.seq (.seqR [⟨.move, [.tmp 0], (some 11), none⟩,
 ⟨(.eqPtr false), [.tmp 11, .const (.ptr none)], (some 12), none⟩])
 (.cond (.tmp 12) (.seq (.seqR [⟨.move, [.const (.int .u64 0)], (some 4), none⟩,
 ⟨.move, [.const (.bool false)], (some 5), none⟩,
 ⟨.move, [.const (.int .i64 1)], (some 6), none⟩])
 .ret)
 .skip))
 (.seq (.seqR [⟨(.fieldAddr 0), [.tmp 3], (some 13), none⟩,
 ⟨(.load false 1), [.tmp 13], (some 14), none⟩,
 ⟨(.callF 150), [.tmp 14], (some 15), none⟩,
 ⟨.move, [.tmp 15], (some 7), none⟩])
 (.seq (.block 0 (.seq (.seqR [⟨.move, [.tmp 7], (some 17), none⟩,
 ⟨(.eqNil 2 false), [.tmp 17, .const .nilFunc], (some 18), none⟩,
 ⟨.move, [.tmp 18], (some 16), none⟩])
 (.cond (.tmp 16) (.seq (.seqR [⟨.move, [.const (.int .u64 0)], (some 4), none⟩,
 ⟨.move, [.const (.bool false)], (some 5), none⟩,
 ⟨.move, [.const (.int .i64 2)], (some 6), none⟩])
 .ret)
 (.seq (.drawR [⟨⟨(.fieldAddr 1), [.tmp 3], (some 20), none⟩, false, false, 0, 0⟩,
 ⟨⟨(.load false 1), [.tmp 20], (some 21), none⟩, false, false, 0, 0⟩,
 ⟨⟨(.bin .lss), [.tmp 21, .const (.int .i64 0)], (some 22), none⟩, false, false, 0, 0⟩,
 ⟨⟨.move, [.tmp 22], (some 23), none⟩, false, false, 0, 0⟩,
 ⟨⟨(.fieldAddr 1), [.tmp 3], (some 24), some (23, false)⟩, false, false, 0, 0⟩,
 ⟨⟨(.load false 1), [.tmp 24], (some 25), some (23, false)⟩, false, false, 0, 0⟩,
 ⟨⟨.move, [.tmp 0], (some 26), some (23, false)⟩, false, false, 0, 0⟩,
 ⟨⟨.nilCheck, [.tmp 26], (some 27), some (23, false)⟩, false, false, 0, 0⟩,
 ⟨⟨(.fieldAddr 0), [.tmp 27], (some 28), some (23, false)⟩, false, false, 0, 0⟩,
 ⟨⟨(.load false 1), [.tmp 28], (some 29), some (23, false)⟩, false, false, 0, 0⟩,
 ⟨⟨.lenS, [.tmp 29], (some 30), some (23, false)⟩, false, false, 0, 0⟩,
 ⟨⟨(.bin .geq), [.tmp 25, .tmp 30], (some 31), some (23, false)⟩, false, false, 0, 0⟩,
 ⟨⟨.pick, [.tmp 23, .const (.bool true), .tmp 31], (some 32), none⟩, false, false, 0, 0⟩,
 ⟨⟨.move, [.tmp 32], (some 19), none⟩, false, false, 0, 0⟩])
 (.cond (.tmp 19) (.seq (.seqR [⟨.move, [.const (.int .u64 0)], (some 4), none⟩,
 ⟨.move, [.const (.bool false)], (some 5), none⟩,
 ⟨.move, [.const (.int .i64 3)], (some 6), none⟩])
 .ret)
 .skip)))))
 (.seq (.drawR [⟨⟨.move, [.tmp 0], (some 33), none⟩, false, false, 0, 0⟩,
 ⟨⟨.nilCheck, [.tmp 33], (some 34), none⟩, false, false, 0, 0⟩,
 ⟨⟨(.fieldAddr 0), [.tmp 34], (some 35), none⟩, false, false, 0, 0⟩,
 ⟨⟨(.load false 1), [.tmp 35], (some 36), none⟩, false, false, 0, 0⟩,
 ⟨⟨(.fieldAddr 1), [.tmp 3], (some 37), none⟩, false, false, 0, 0⟩,
 ⟨⟨(.load false 1), [.tmp 37], (some 38), none⟩, false, false, 0, 0⟩,
 ⟨⟨(.indexAddrS 1), [.tmp 36, .tmp 38], (some 39), none⟩, false, false, 0, 0⟩,
 ⟨⟨(.load false 1), [.tmp 39], (some 40), none⟩, false, false, 0, 0⟩,
 ⟨⟨.move, [.tmp 40], (some 8), none⟩, false, false, 0, 0⟩])
 (.seq (.seqR [⟨.move, [.tmp 7], (some 42), none⟩,
 ⟨.move, [.tmp 8], (some 43), none⟩,
 ⟨(.load true 4), [.tmp 3], (some 44), none⟩,
 ⟨.callV, [.tmp 42, .tmp 43, .tmp 44], (some 45), none⟩,
 ⟨.move, [.tmp 45], (some 41), none⟩,
 ⟨(.extract 0), [.tmp 41], (some 46), none⟩,
 ⟨(.extract 1), [.tmp 41], (some 47), none⟩,
 ⟨.move, [.tmp 46], (some 9), none⟩,
 ⟨.move, [.tmp 47], (some 10), none⟩])
 (.seq (.drawR [⟨⟨.move, [.tmp 0], (some 48), none⟩, false, false, 0, 0⟩,
 ⟨⟨.nilCheck, [.tmp 48], (some 49), none⟩, false, false, 0, 0⟩,
 ⟨⟨(.fieldAddr 0), [.tmp 49], (some 50), none⟩, false, false, 0, 0⟩,
 ⟨⟨(.load false 1), [.tmp 50], (some 51), none⟩, false, false, 0, 0⟩,
 ⟨⟨(.fieldAddr 1), [.tmp 3], (some 52), none⟩, false, false, 0, 0⟩,
 ⟨⟨(.load false 1), [.tmp 52], (some 53), none⟩, false, false, 0, 0⟩,
 ⟨⟨.move, [.tmp 9], (some 54), none⟩, false, false, 0, 0⟩,
 ⟨⟨(.indexAddrS 1), [.tmp 51, .tmp 53], (some 55), none⟩, false, false, 0, 0⟩,
 ⟨⟨(.store 1), [.tmp 55, .tmp 54], none, none⟩, true, false, 0, 1⟩])
 (.seq (.seqR [⟨.move, [.tmp 8], (some 56), none⟩,
 ⟨.move, [.tmp 10], (some 57), none⟩,
 ⟨.move, [.tmp 56], (some 4), none⟩,
 ⟨.move, [.tmp 57], (some 5), none⟩,
 ⟨.move, [.const (.int .i64 0)], (some 6), none⟩])
 .ret)))))))), [.tmp 4, .tmp 5, .tmp 6]⟩
theorem c113_ok : compFunc Tryz.prog Tryz.f113 = some c113 := by kernel_rfl
theorem c113_body : hasBody Tryz.prog 113 = true := hasBody_of Tryz.func113 (by kernel_rfl)
/-- (*coachyard/walk.Walk).Give -/
def c114 : PFn := ⟨46, Tr.ofList (List.replicate 46 undefA), (.block 0 (.seq (.seqR [⟨.move, [.tmp 0], (some 8), none⟩,
 ⟨(.eqPtr false), [.tmp 8, .const (.ptr none)], (some 9), none⟩,
 ⟨.move, [.tmp 9], (some 7), none⟩])
 (.cond (.tmp 7) .skip
 (.seq (.seqR [⟨.move, [.tmp 0], (some 11), none⟩,
 ⟨.nilCheck, [.tmp 11], (some 12), none⟩,
 ⟨(.fieldAddr 6), [.tmp 12], (some 13), none⟩,
 ⟨(.load false 1), [.tmp 13], (some 14), none⟩,
 ⟨(.eqPtr true), [.tmp 14, .const (.ptr none)], (some 15), none⟩,
 ⟨.move, [.tmp 15], (some 10), none⟩])
 (.cond (.tmp 10) (.seq (.seqR [⟨.move, [.tmp 0], (some 16), none⟩,
 ⟨.nilCheck, [.tmp 16], (some 17), none⟩,
 ⟨(.fieldAddr 6), [.tmp 17], (some 18), none⟩,
 ⟨(.load false 1), [.tmp 18], (some 19), none⟩,
 ⟨.move, [.tmp 1], (some 20), none⟩,
 ⟨.move, [.tmp 2], (some 21), none⟩,
 ⟨(.callF 114), [.tmp 19, .tmp 20, .tmp 21], (some 22), none⟩])
 (.seqR [⟨.move, [.tmp 0], (some 23), none⟩,
 ⟨(.callF 90), [.tmp 23], (some 24), none⟩]))
 (.seq (.seqR [⟨.move, [.tmp 0], (some 26), none⟩,
 ⟨.nilCheck, [.tmp 26], (some 27), none⟩,
 ⟨(.fieldAddr 5), [.tmp 27], (some 28), none⟩,
 ⟨(.load false 1), [.tmp 28], (some 29), none⟩,
 ⟨.move, [.tmp 29], (some 25), none⟩])
 (.cond (.tmp 25) (.seq (.seqR [⟨.move, [.tmp 0], (some 30), none⟩,
 ⟨.nilCheck, [.tmp 30], (some 31), none⟩,
 ⟨(.fieldAddr 4), [.tmp 31], (some 32), none⟩,
 ⟨(.load false 1), [.tmp 32], (some 33), none⟩,
 ⟨.move, [.tmp 33], (some 6), none⟩])
 (.seq (.seqR [⟨.move, [.tmp 0], (some 34), none⟩,
 ⟨.move, [.tmp 0], (some 35), none⟩,
 ⟨.nilCheck, [.tmp 34], (some 36), none⟩,
 ⟨(.fieldAddr 5), [.tmp 36], (some 37), none⟩,
 ⟨(.store 1), [.tmp 37, .const (.bool false)], none, none⟩,
 ⟨.nilCheck, [.tmp 35], (some 38), none⟩,
 ⟨(.fieldAddr 4), [.tmp 38], (some 39), none⟩,
 ⟨(.store 1), [.tmp 39, .const .nilFunc], none, none⟩])
 (.seq (.seqR [⟨.move, [.tmp 6], (some 40), none⟩,
 ⟨(.eqNil 2 true), [.tmp 40, .const .nilFunc], (some 41), none⟩])
 (.cond (.tmp 41) (.seqR [⟨.move, [.tmp 6], (some 42), none⟩,
 ⟨.move, [.tmp 1], (some 43), none⟩,
 ⟨.move, [.tmp 2], (some 44), none⟩,
 ⟨.callV, [.tmp 42, .tmp 43, .tmp 44], (some 45), none⟩])
 .skip))))
 .skip))))))), []⟩
theorem c114_ok : compFunc Tryz.prog Tryz.f114 = some c114 := by kernel_rfl
theorem c114_body : hasBody Tryz.prog 114 = true := hasBody_of Tryz.func114 (by kernel_rfl)
/-- (*coachyard/diary.reader).take -/
def c115 : PFn := ⟨150, Tr.ofList (List.replicate 150 undefA), (.seq (.seqR [⟨.box, [.tmp 2], (some 5), none⟩,
 ⟨.move, [.const (.bool false)], (some 6), none⟩])
 (.seq (.seq (.drawR [⟨⟨(.fieldAddr 0), [.tmp 5], (some 8), none⟩, false, false, 0, 0⟩,
 ⟨⟨(.load false 1), [.tmp 8], (some 9), none⟩, false, false, 0, 0⟩,
 ⟨⟨.move, [.tmp 0], (some 10), none⟩, false, false, 0, 0⟩,
 ⟨⟨.nilCheck, [.tmp 10], (some 11), none⟩, false, false, 0, 0⟩,
 ⟨⟨(.fieldAddr 0), [.tmp 11], (some 12), none⟩, false, false, 0, 0⟩,
 ⟨⟨(.load false 1), [.tmp 12], (some 13), none⟩, false, false, 0, 0⟩,
 ⟨⟨(.bin .lss), [.tmp 9, .tmp 13], (some 14), none⟩, false, false, 0, 0⟩,
 ⟨⟨.move, [.tmp 14], (some 15), none⟩, false, false, 0, 0⟩,
 ⟨⟨(.fieldAddr 1), [.tmp 5], (some 16), some (15, false)⟩, false, false, 0, 0⟩,
 ⟨⟨(.load false 1), [.tmp 16], (some 17), some (15, false)⟩, false, false, 0, 0⟩,
 ⟨⟨(.bin .lss), [.tmp 17, .const (.int .i64 0)], (some 18), some (15, false)⟩, false, false, 0, 0⟩,
 ⟨⟨.pick, [.tmp 15, .const (.bool true), .tmp 18], (some 19), none⟩, false, false, 0, 0⟩,
 ⟨⟨.move, [.tmp 19], (some 20), none⟩, false, false, 0, 0⟩,
 ⟨⟨(.fieldAddr 1), [.tmp 5], (some 21), some (20, false)⟩, false, false, 0, 0⟩,
 ⟨⟨(.load false 1), [.tmp 21], (some 22), some (20, false)⟩, false, false, 0, 0⟩,
 ⟨⟨(.bin .geq), [.tmp 22, .const (.int .i64 16)], (some 23), some (20, false)⟩, false, false, 0, 0⟩,
 ⟨⟨.pick, [.tmp 20, .const (.bool true), .tmp 23], (some 24), none⟩, false, false, 0, 0⟩,
 ⟨⟨.move, [.tmp 24], (some 25), none⟩, false, false, 0, 0⟩,
 ⟨⟨(.fieldAddr 2), [.tmp 5], (some 26), some (25, false)⟩, false, false, 0, 0⟩,
 ⟨⟨(.load false 1), [.tmp 26], (some 27), some (25, false)⟩, false, false, 0, 0⟩,
 ⟨⟨.move, [.tmp 0], (some 28), some (25, false)⟩, false, false, 0, 0⟩,
 ⟨⟨(.fieldAddr 1), [.tmp 5], (some 29), some (25, false)⟩, false, false, 0, 0⟩,
 ⟨⟨(.load false 1), [.tmp 29], (some 30), some (25, false)⟩, false, false, 0, 0⟩,
 ⟨⟨.nilCheck, [.tmp 28], (some 31), some (25, false)⟩, false, false, 0, 0⟩,
 ⟨⟨(.fieldAddr 1), [.tmp 31], (some 32), some (25, false)⟩, false, false, 0, 0⟩,
 ⟨⟨(.indexAddrA 16 1), [.tmp 32, .tmp 30], (some 33), some (25, false)⟩, false, false, 0, 0⟩,
 ⟨⟨(.load false 1), [.tmp 33], (some 34), some (25, false)⟩, false, false, 0, 0⟩,
 ⟨⟨(.bin .neq), [.tmp 27, .tmp 34], (some 35), some (25, false)⟩, false, false, 0, 0⟩,
 ⟨⟨.pick, [.tmp 25, .const (.bool true), .tmp 35], (some 36), none⟩, false, false, 0, 0⟩])
 (.cond (.tmp 36) (.seq (.seqR [⟨.move, [.const (.bool false)], (some 6), none⟩])
 .ret)
 .skip))
 (.seq (.seqR [⟨.move, [.tmp 0], (some 37), none⟩,
 ⟨(.fieldAddr 0), [.tmp 5], (some 38), none⟩,
 ⟨(.load false 1), [.tmp 38], (some 39), none⟩,
 ⟨.nilCheck, [.tmp 37], (some 40), none⟩,
 ⟨(.fieldAddr 0), [.tmp 40], (some 41), none⟩,
 ⟨(.store 1), [.tmp 41, .tmp 39], none, none⟩])
 (.seq (.drawR [⟨⟨.move, [.tmp 0], (some 42), none⟩, false, false, 0, 0⟩,
 ⟨⟨(.fieldAddr 1), [.tmp 5], (some 43), none⟩, false, false, 0, 0⟩,
 ⟨⟨(.load false 1), [.tmp 43], (some 44), none⟩, false, false, 0, 0⟩,
 ⟨⟨.nilCheck, [.tmp 42], (some 45), none⟩, false, false, 0, 0⟩,
 ⟨⟨(.fieldAddr 17), [.tmp 45], (some 46), none⟩, false, false, 0, 0⟩,
 ⟨⟨(.indexAddrA 16 1), [.tmp 46, .tmp 44], (some 47), none⟩, false, false, 0, 0⟩,
 ⟨⟨(.load false 1), [.tmp 47], (some 48), none⟩, false, false, 0, 0⟩,
 ⟨⟨.move, [.tmp 48], (some 7), none⟩, false, false, 0, 0⟩])
 (.seq (.block 0 (.seq (.seqR [⟨(.fieldAddr 3), [.tmp 5], (some 50), none⟩,
 ⟨(.load false 1), [.tmp 50], (some 51), none⟩,
 ⟨.not, [.tmp 51], (some 52), none⟩,
 ⟨.move, [.tmp 52], (some 53), none⟩,
 ⟨.move, [.tmp 7], (some 54), some (53, true)⟩,
 ⟨(.bin .geq), [.tmp 54, .const (.int .i64 0)], (some 55), some (53, true)⟩,
 ⟨.move, [.tmp 55], (some 56), some (53, true)⟩,
 ⟨(.fieldAddr 7), [.tmp 5], (some 57), some (56, false)⟩,
 ⟨(.load true 3), [.tmp 57], (some 58), some (56, false)⟩,
 ⟨(.callF 151), [.tmp 58], (some 59), some (56, false)⟩,
 ⟨.not, [.tmp 59], (some 60), some (56, false)⟩,
 ⟨.pick, [.tmp 56, .const (.bool true), .tmp 60], (some 61), some (53, true)⟩,
 ⟨.pick, [.tmp 53, .tmp 61, .const (.bool false)], (some 62), none⟩,
 ⟨.move, [.tmp 62], (some 49), none⟩])
 (.cond (.tmp 49) (.seq (.seqR [⟨.move, [.const (.bool false)], (some 6), none⟩])
 .ret)
 (.seq (.seqR [⟨(.fieldAddr 3), [.tmp 5], (some 64), none⟩,
 ⟨(.load false 1), [.tmp 64], (some 65), none⟩,
 ⟨.not, [.tmp 65], (some 66), none⟩,
 ⟨.move, [.tmp 66], (some 63), none⟩])
 (.cond (.tmp 63) (.seq (.drawR [⟨⟨.move, [.tmp 0], (some 67), none⟩, false, false, 0, 0⟩,
 ⟨⟨(.fieldAddr 1), [.tmp 5], (some 68), none⟩, false, false, 0, 0⟩,
 ⟨⟨(.load false 1), [.tmp 68], (some 69), none⟩, false, false, 0, 0⟩,
 ⟨⟨.move, [.tmp 0], (some 70), none⟩, false, false, 0, 0⟩,
 ⟨⟨.nilCheck, [.tmp 70], (some 71), none⟩, false, false, 0, 0⟩,
 ⟨⟨(.fieldAddr 33), [.tmp 71], (some 72), none⟩, false, false, 0, 0⟩,
 ⟨⟨(.load false 1), [.tmp 72], (some 73), none⟩, false, false, 0, 0⟩,
 ⟨⟨.lenS, [.tmp 73], (some 74), none⟩, false, false, 0, 0⟩,
 ⟨⟨.nilCheck, [.tmp 67], (some 75), none⟩, false, false, 0, 0⟩,
 ⟨⟨(.fieldAddr 17), [.tmp 75], (some 76), none⟩, false, false, 0, 0⟩,
 ⟨⟨(.indexAddrA 16 1), [.tmp 76, .tmp 69], (some 77), none⟩, false, false, 0, 0⟩,
 ⟨⟨(.store 1), [.tmp 77, .tmp 74], none, none⟩, true, false, 0, 1⟩])
 (.seq (.drawR [⟨⟨.move, [.tmp 0], (some 78), none⟩, false, false, 0, 3⟩,
 ⟨⟨.move, [.tmp 0], (some 79), none⟩, false, false, 0, 2⟩,
 ⟨⟨.nilCheck, [.tmp 79], (some 80), none⟩, false, false, 0, 2⟩,
 ⟨⟨(.fieldAddr 33), [.tmp 80], (some 81), none⟩, false, false, 0, 2⟩,
 ⟨⟨(.load false 1), [.tmp 81], (some 82), none⟩, false, false, 0, 2⟩,
 ⟨⟨(.fieldAddr 1), [.tmp 5], (some 83), none⟩, false, false, 0, 0⟩,
 ⟨⟨(.load false 1), [.tmp 83], (some 84), none⟩, false, false, 0, 0⟩,
 ⟨⟨(.fieldAddr 2), [.tmp 5], (some 85), none⟩, false, false, 0, 0⟩,
 ⟨⟨(.load false 1), [.tmp 85], (some 86), none⟩, false, false, 0, 0⟩,
 ⟨⟨.move, [.tmp 1], (some 87), none⟩, false, false, 0, 0⟩,
 ⟨⟨(.fieldAddr 4), [.tmp 5], (some 88), none⟩, false, false, 0, 0⟩,
 ⟨⟨(.load true 3), [.tmp 88], (some 89), none⟩, false, false, 0, 0⟩,
 ⟨⟨(.build [(.int .i64 0), (.int .i64 0), (.int .i64 0), (.int .i64 0), (.int .i64 0), (.int .u64 0), (.slice none 0 0 false), (.int .i64 0), (.int .u64 0), (.slice none 0 0 false)] [(0, 1), (1, 1), (2, 1), (3, 1), (4, 3)]), [.tmp 84, .tmp 86, .tmp 87, .const (.int .i64 (-1)), .tmp 89], (some 90), none⟩, false, false, 0, 0⟩,
 ⟨⟨(.callF 152), [.tmp 90], (some 91), none⟩, true, false, 0, 1⟩,
 ⟨⟨(.sliceLit 1 [(.int .i64 0), (.int .i64 0), (.int .i64 0), (.int .i64 0), (.int .i64 0), (.int .u64 0), (.slice none 0 0 false), (.int .i64 0), (.int .u64 0), (.slice none 0 0 false)] [(0, 10)]), [.tmp 91], (some 92), none⟩, true, false, 1, 2⟩,
 ⟨⟨(.append 10 112), [.tmp 82, .tmp 92], (some 93), none⟩, true, false, 2, 3⟩,
 ⟨⟨.nilCheck, [.tmp 78], (some 94), none⟩, false, false, 3, 3⟩,
 ⟨⟨(.fieldAddr 33), [.tmp 94], (some 95), none⟩, false, false, 3, 3⟩,
 ⟨⟨(.store 1), [.tmp 95, .tmp 93], none, none⟩, true, false, 3, 4⟩])
 (.seq (.seqR [⟨.move, [.const (.bool true)], (some 6), none⟩])
 .ret)))
 (.seq (.drawR [⟨⟨.move, [.tmp 7], (some 97), none⟩, false, false, 0, 0⟩,
 ⟨⟨(.bin .lss), [.tmp 97, .const (.int .i64 0)], (some 98), none⟩, false, false, 0, 0⟩,
 ⟨⟨.move, [.tmp 98], (some 99), none⟩, false, false, 0, 0⟩,
 ⟨⟨.move, [.tmp 0], (some 100), some (99, false)⟩, false, false, 0, 0⟩,
 ⟨⟨.nilCheck, [.tmp 100], (some 101), some (99, false)⟩, false, false, 0, 0⟩,
 ⟨⟨(.fieldAddr 33), [.tmp 101], (some 102), some (99, false)⟩, false, false, 0, 0⟩,
 ⟨⟨(.load false 1), [.tmp 102], (some 103), some (99, false)⟩, false, false, 0, 0⟩,
 ⟨⟨.move, [.tmp 7], (some 104), some (99, false)⟩, false, false, 0, 0⟩,
 ⟨⟨(.indexAddrS 10), [.tmp 103, .tmp 104], (some 105), some (99, false)⟩, false, false, 0, 0⟩,
 ⟨⟨(.fieldAddr 4), [.tmp 105], (some 106), some (99, false)⟩, false, false, 0, 0⟩,
 ⟨⟨(.load true 3), [.tmp 106], (some 107), some (99, false)⟩, false, false, 0, 0⟩,
 ⟨⟨(.fieldAddr 4), [.tmp 5], (some 108), some (99, false)⟩, false, false, 0, 0⟩,
 ⟨⟨(.load true 3), [.tmp 108], (some 109), some (99, false)⟩, false, false, 0, 0⟩,
 ⟨⟨(.callF 153), [.tmp 107, .tmp 109], (some 110), some (99, false)⟩, true, false, 0, 1⟩,
 ⟨⟨.not, [.tmp 110], (some 111), some (99, false)⟩, false, false, 1, 1⟩,
 ⟨⟨.pick, [.tmp 99, .const (.bool true), .tmp 111], (some 112), none⟩, false, false, 1, 1⟩,
 ⟨⟨.move, [.tmp 112], (some 96), none⟩, false, false, 1, 1⟩])
 (.cond (.tmp 96) (.seq (.seqR [⟨.move, [.const (.bool false)], (some 6), none⟩])
 .ret)
 .skip)))))))
 (.seq (.seqR [⟨.move, [.tmp 0], (some 113), none⟩,
 ⟨.nilCheck, [.tmp 113], (some 114), none⟩,
 ⟨(.fieldAddr 33), [.tmp 114], (some 115), none⟩,
 ⟨(.load false 1), [.tmp 115], (some 116), none⟩,
 ⟨.move, [.tmp 7], (some 117), none⟩,
 ⟨.move, [.tmp 1], (some 118), none⟩,
 ⟨(.indexAddrS 10), [.tmp 116, .tmp 117], (some 119), none⟩,
 ⟨(.fieldAddr 3), [.tmp 119], (some 120), none⟩,
 ⟨(.store 1), [.tmp 120, .tmp 118], none, none⟩])
 (.seq (.drawR [⟨⟨.move, [.tmp 0], (some 121), none⟩, false, false, 0, 1⟩,
 ⟨⟨.nilCheck, [.tmp 121], (some 122), none⟩, false, false, 0, 1⟩,
 ⟨⟨(.fieldAddr 33), [.tmp 122], (some 123), none⟩, false, false, 0, 1⟩,
 ⟨⟨(.load false 1), [.tmp 123], (some 124), none⟩, false, false, 0, 1⟩,
 ⟨⟨.move, [.tmp 7], (some 125), none⟩, false, false, 0, 1⟩,
 ⟨⟨(.fieldAddr 7), [.tmp 5], (some 126), none⟩, false, false, 0, 0⟩,
 ⟨⟨(.load true 3), [.tmp 126], (some 127), none⟩, false, false, 0, 0⟩,
 ⟨⟨(.build [(.int .i64 0), (.int .i64 0), (.int .i64 0), (.int .i64 0), (.int .i64 0), (.int .u64 0), (.slice none 0 0 false), (.int .i64 0), (.int .u64 0), (.slice none 0 0 false)] [(7, 3)]), [.tmp 127], (some 128), none⟩, false, false, 0, 0⟩,
 ⟨⟨(.callF 152), [.tmp 128], (some 129), none⟩, true, false, 0, 1⟩,
 ⟨⟨(.field 7 3 true), [.tmp 129], (some 130), none⟩, false, false, 1, 1⟩,
 ⟨⟨(.indexAddrS 10), [.tmp 124, .tmp 125], (some 131), none⟩, false, false, 1, 1⟩,
 ⟨⟨(.fieldAddr 7), [.tmp 131], (some 132), none⟩, false, false, 1, 1⟩,
 ⟨⟨(.store 3), [.tmp 132, .tmp 130], none, none⟩, true, false, 1, 2⟩])
 (.seq (.drawR [⟨⟨.move, [.tmp 0], (some 133), none⟩, false, false, 0, 0⟩,
 ⟨⟨(.fieldAddr 1), [.tmp 5], (some 134), none⟩, false, false, 0, 0⟩,
 ⟨⟨(.load false 1), [.tmp 134], (some 135), none⟩, false, false, 0, 0⟩,
 ⟨⟨.nilCheck, [.tmp 133], (some 136), none⟩, false, false, 0, 0⟩,
 ⟨⟨(.fieldAddr 17), [.tmp 136], (some 137), none⟩, false, false, 0, 0⟩,
 ⟨⟨(.indexAddrA 16 1), [.tmp 137, .tmp 135], (some 138), none⟩, false, false, 0, 0⟩,
 ⟨⟨(.store 1), [.tmp 138, .const (.int .i64 (-1))], none, none⟩, true, false, 0, 1⟩])
 (.seq (.drawR [⟨⟨.move, [.tmp 0], (some 139), none⟩, false, false, 0, 0⟩,
 ⟨⟨(.fieldAddr 1), [.tmp 5], (some 140), none⟩, false, false, 0, 0⟩,
 ⟨⟨(.load false 1), [.tmp 140], (some 141), none⟩, false, false, 0, 0⟩,
 ⟨⟨.nilCheck, [.tmp 139], (some 142), none⟩, false, false, 0, 0⟩,
 ⟨⟨(.fieldAddr 1), [.tmp 142], (some 143), none⟩, false, false, 0, 0⟩,
 ⟨⟨(.indexAddrA 16 1), [.tmp 143, .tmp 141], (some 144), none⟩, false, false, 0, 0⟩,
 ⟨⟨(.load false 1), [.tmp 144], (some 145), none⟩, false, false, 0, 0⟩,
 ⟨⟨(.bin .add), [.tmp 145, .const (.int .i64 1)], (some 146), none⟩, false, false, 0, 0⟩,
 ⟨⟨.nilCheck, [.tmp 139], (some 147), none⟩, false, false, 0, 0⟩,
 ⟨⟨(.fieldAddr 1), [.tmp 147], (some 148), none⟩, false, false, 0, 0⟩,
 ⟨⟨(.indexAddrA 16 1), [.tmp 148, .tmp 141], (some 149), none⟩, false, false, 0, 0⟩,
 ⟨⟨(.store 1), [.tmp 149, .tmp 146], none, none⟩, true, false, 0, 1⟩])
 (.seq (.seqR [⟨.move, [.const (.bool true)], (some 6), none⟩])
 .ret)))))))))), [.tmp 6]⟩
theorem c115_ok : compFunc Tryz.prog Tryz.f115 = some c115 := by kernel_rfl
theorem c115_body : hasBody Tryz.prog 115 = true := hasBody_of Tryz.func115 (by kernel_rfl)
/-- (coachyard/queue.Line).Cells -/
def c119 : PFn := ⟨10, Tr.ofList (List.replicate 10 undefA), (.seq (.seqR [⟨.box, [.tmp 0], (some 1), none⟩,
 ⟨.move, [.const (.int .i64 0)], (some 2), none⟩])
 (.seq (.seq (.seqR [⟨(.load true 2), [.tmp 1], (some 3), none⟩,
 ⟨(.callF 128), [.tmp 3], (some 4), none⟩,
 ⟨.not, [.tmp 4], (some 5), none⟩])
 (.cond (.tmp 5) (.seq (.seqR [⟨.move, [.const (.int .i64 0)], (some 2), none⟩])
 .ret)
 .skip))
 (.seq (.seqR [⟨(.fieldAddr 1), [.tmp 1], (some 6), none⟩,
 ⟨(.load false 1), [.tmp 6], (some 7), none⟩,
 ⟨(.bin .mul), [.const (.int .i64 3), .tmp 7], (some 8), none⟩,
 ⟨(.bin .add), [.tmp 8, .const (.int .i64 3)], (some 9), none⟩,
 ⟨.move, [.tmp 9], (some 2), none⟩])
 .ret))), [.tmp 2]⟩
theorem c119_ok : compFunc Tryz.prog Tryz.f119 = some c119 := by kernel_rfl
theorem c119_body : hasBody Tryz.prog 119 = true := hasBody_of Tryz.func119 (by kernel_rfl)
/-- (coachyard/queue.Line).Arena -/
def c120 : PFn := ⟨9, Tr.ofList (List.replicate 9 undefA), (.seq (.seqR [⟨.box, [.tmp 0], (some 1), none⟩,
 ⟨(.new [(.int .i64 0), (.int .i64 0)]), [], (some 2), none⟩])
 (.seq (.seqR [⟨(.fieldAddr 0), [.tmp 1], (some 3), none⟩,
 ⟨(.load false 1), [.tmp 3], (some 4), none⟩,
 ⟨(.bin .add), [.tmp 4, .const (.int .i64 2)], (some 5), none⟩,
 ⟨(.fieldAddr 1), [.tmp 1], (some 6), none⟩,
 ⟨(.load false 1), [.tmp 6], (some 7), none⟩,
 ⟨(.build [(.int .i64 0), (.int .i64 0)] [(0, 1), (1, 1)]), [.tmp 5, .tmp 7], (some 8), none⟩,
 ⟨(.store 2), [.tmp 2, .tmp 8], none, none⟩])
 .ret)), [.cell 2 true 2]⟩
theorem c120_ok : compFunc Tryz.prog Tryz.f120 = some c120 := by kernel_rfl
theorem c120_body : hasBody Tryz.prog 120 = true := hasBody_of Tryz.func120 (by kernel_rfl)
/-- (coachyard/arena.Arena).Init -/
def c121 : PFn := ⟨72, Tr.ofList (List.replicate 72 undefA), (.seq (.seqR [⟨.box, [.tmp 0], (some 3), none⟩,
 ⟨.move, [.const (.int .i64 0)], (some 6), none⟩])
 (.seq (.seqR [⟨(.load true 2), [.tmp 3], (some 11), none⟩,
 ⟨.move, [.tmp 1], (some 12), none⟩,
 ⟨(.callF 155), [.tmp 11, .tmp 12], (some 13), none⟩,
 ⟨.move, [.tmp 13], (some 7), none⟩])
 (.seq (.seq (.seqR [⟨.move, [.tmp 7], (some 14), none⟩,
 ⟨(.bin .eql), [.tmp 14, .const (.int .i64 1)], (some 15), none⟩])
 (.cond (.tmp 15) (.seq (.seqR [⟨.move, [.tmp 7], (some 16), none⟩,
 ⟨.move, [.tmp 16], (some 6), none⟩])
 .ret)
 .skip))
 (.seq (.seq (.seqR [⟨(.load true 2), [.tmp 3], (some 17), none⟩,
 ⟨(.callF 156), [.tmp 17], (some 18), none⟩,
 ⟨.not, [.tmp 18], (some 19), none⟩,
 ⟨.move, [.tmp 19], (some 20), none⟩,
 ⟨.move, [.tmp 2], (some 21), some (20, false)⟩,
 ⟨(.bin .lss), [.tmp 21, .const (.int .i64 1)], (some 22), some (20, false)⟩,
 ⟨.pick, [.tmp 20, .const (.bool true), .tmp 22], (some 23), none⟩,
 ⟨.move, [.tmp 23], (some 24), none⟩,
 ⟨.move, [.tmp 2], (some 25), some (24, false)⟩,
 ⟨(.fieldAddr 1), [.tmp 3], (some 26), some (24, false)⟩,
 ⟨(.load false 1), [.tmp 26], (some 27), some (24, false)⟩,
 ⟨(.bin .add), [.tmp 27, .const (.int .i64 1)], (some 28), some (24, false)⟩,
 ⟨(.bin .gtr), [.tmp 25, .tmp 28], (some 29), some (24, false)⟩,
 ⟨.pick, [.tmp 24, .const (.bool true), .tmp 29], (some 30), none⟩])
 (.cond (.tmp 30) (.seq (.seqR [⟨.move, [.const (.int .i64 2)], (some 6), none⟩])
 .ret)
 .skip))
 (.seq (.seq (.seqR [⟨.move, [.tmp 7], (some 31), none⟩,
 ⟨(.bin .neq), [.tmp 31, .const (.int .i64 0)], (some 32), none⟩])
 (.cond (.tmp 32) (.seq (.seqR [⟨.move, [.tmp 7], (some 33), none⟩,
 ⟨.move, [.tmp 33], (some 6), none⟩])
 .ret)
 .skip))
 (.seq (.seqR [⟨.move, [.const (.int .u64 0)], (some 8), none⟩])
 (.seq (.seq (.seqR [⟨.move, [.tmp 2], (some 34), none⟩,
 ⟨(.fieldAddr 1), [.tmp 3], (some 35), none⟩,
 ⟨(.load false 1), [.tmp 35], (some 36), none⟩,
 ⟨(.bin .leq), [.tmp 34, .tmp 36], (some 37), none⟩])
 (.cond (.tmp 37) (.seqR [⟨.move, [.tmp 2], (some 38), none⟩,
 ⟨(.conv .u64), [.tmp 38], (some 39), none⟩,
 ⟨.move, [.tmp 39], (some 8), none⟩])
 .skip))
 (.seq (.seqR [⟨.move, [.tmp 1], (some 40), none⟩,
 ⟨(.fieldAddr 0), [.tmp 3], (some 41), none⟩,
 ⟨(.load false 1), [.tmp 41], (some 42), none⟩,
 ⟨.move, [.tmp 8], (some 43), none⟩,
 ⟨(.build [(.int .i64 0), (.int .i64 0), (.int .u64 0), (.int .u64 0)] [(0, 1), (1, 1), (2, 1)]), [.const (.int .i64 2), .tmp 42, .tmp 43], (some 44), none⟩,
 ⟨(.callF 113), [.tmp 40, .tmp 44], (some 45), none⟩])
 (.seq (.seq (.seqR [⟨.move, [.const (.int .i64 1)], (some 9), none⟩])
 (.block 0 (.loop (.seq (.seq (.seqR [⟨.move, [.tmp 9], (some 46), none⟩,
 ⟨(.fieldAddr 1), [.tmp 3], (some 47), none⟩,
 ⟨(.load false 1), [.tmp 47], (some 48), none⟩,
 ⟨(.bin .leq), [.tmp 46, .tmp 48], (some 49), none⟩])
 (.cond (.tmp 49) .skip
 (.exit 0)))
 (.seq (.block 1 (.seq (.seqR [⟨.move, [.const (.int .u64 0)], (some 10), none⟩])
 (.seq (.seq (.seqR [⟨.move, [.tmp 9], (some 52), none⟩,
 ⟨.move, [.tmp 2], (some 53), none⟩,
 ⟨(.bin .geq), [.tmp 52, .tmp 53], (some 54), none⟩,
 ⟨.move, [.tmp 54], (some 55), none⟩,
 ⟨.move, [.tmp 9], (some 56), some (55, true)⟩,
 ⟨(.fieldAddr 1), [.tmp 3], (some 57), some (55, true)⟩,
 ⟨(.load false 1), [.tmp 57], (some 58), some (55, true)⟩,
 ⟨(.bin .lss), [.tmp 56, .tmp 58], (some 59), some (55, true)⟩,
 ⟨.pick, [.tmp 55, .tmp 59, .const (.bool false)], (some 60), none⟩])
 (.cond (.tmp 60) (.seqR [⟨.move, [.tmp 9], (some 61), none⟩,
 ⟨(.conv .u64), [.tmp 61], (some 62), none⟩,
 ⟨(.bin .add), [.tmp 62, .const (.int .u64 1)], (some 63), none⟩,
 ⟨.move, [.tmp 63], (some 10), none⟩])
 .skip))
 (.seqR [⟨.move, [.tmp 1], (some 64), none⟩,
 ⟨(.fieldAddr 0), [.tmp 3], (some 65), none⟩,
 ⟨(.load false 1), [.tmp 65], (some 66), none⟩,
 ⟨.move, [.tmp 9], (some 67), none⟩,
 ⟨(.bin .add), [.tmp 66, .tmp 67], (some 68), none⟩,
 ⟨.move, [.tmp 10], (some 69), none⟩,
 ⟨(.build [(.int .i64 0), (.int .i64 0), (.int .u64 0), (.int .u64 0)] [(0, 1), (1, 1), (2, 1)]), [.const (.int .i64 2), .tmp 68, .tmp 69], (some 70), none⟩,
 ⟨(.callF 113), [.tmp 64, .tmp 70], (some 71), none⟩]))))
 (.seqR [⟨.move, [.tmp 9], (some 50), none⟩,
 ⟨(.bin .add), [.tmp 50, .const (.int .i64 1)], (some 51), none⟩,
 ⟨.move, [.tmp 51], (some 9), none⟩]))))))
 (.seq (.seqR [⟨.move, [.const (.int .i64 0)], (some 6), none⟩])
 .ret)))))))))), [.tmp 6]⟩
theorem c121_ok : compFunc Tryz.prog Tryz.f121 = some c121 := by kernel_rfl
theorem c121_body : hasBody Tryz.prog 121 = true := hasBody_of Tryz.func121 (by kernel_rfl)
/-- (*coachyard/walk.Walk).Want -/
def c122 : PFn := ⟨32, Tr.ofList (List.replicate 32 undefA), (.seq (.seqR [⟨(.new [(.int .i64 0), (.int .i64 0), (.int .u64 0), (.int .u64 0)]), [], (some 2), none⟩,
 ⟨.move, [.const (.bool false)], (some 3), none⟩])
 (.seq (.block 0 (.seq (.seqR [⟨.move, [.tmp 0], (some 5), none⟩,
 ⟨(.eqPtr false), [.tmp 5, .const (.ptr none)], (some 6), none⟩,
 ⟨.move, [.tmp 6], (some 4), none⟩])
 (.cond (.tmp 4) (.seq (.seqR [⟨(.build [(.int .i64 0), (.int .i64 0), (.int .u64 0), (.int .u64 0)] []), [], (some 7), none⟩,
 ⟨(.store 4), [.tmp 2, .tmp 7], none, none⟩,
 ⟨.move, [.const (.bool false)], (some 3), none⟩])
 .ret)
 (.seq (.seqR [⟨.move, [.tmp 0], (some 9), none⟩,
 ⟨.nilCheck, [.tmp 9], (some 10), none⟩,
 ⟨(.fieldAddr 6), [.tmp 10], (some 11), none⟩,
 ⟨(.load false 1), [.tmp 11], (some 12), none⟩,
 ⟨(.eqPtr true), [.tmp 12, .const (.ptr none)], (some 13), none⟩,
 ⟨.move, [.tmp 13], (some 8), none⟩])
 (.cond (.tmp 8) (.seq (.seqR [⟨.move, [.tmp 0], (some 14), none⟩,
 ⟨.nilCheck, [.tmp 14], (some 15), none⟩,
 ⟨(.fieldAddr 6), [.tmp 15], (some 16), none⟩,
 ⟨(.load false 1), [.tmp 16], (some 17), none⟩,
 ⟨(.callF 122), [.tmp 17], (some 18), none⟩,
 ⟨(.extract 0), [.tmp 18], (some 19), none⟩,
 ⟨(.extract 1), [.tmp 18], (some 20), none⟩,
 ⟨(.store 4), [.tmp 2, .tmp 19], none, none⟩,
 ⟨.move, [.tmp 20], (some 3), none⟩])
 .ret)
 (.seq (.seqR [⟨.move, [.tmp 0], (some 22), none⟩,
 ⟨.nilCheck, [.tmp 22], (some 23), none⟩,
 ⟨(.fieldAddr 5), [.tmp 23], (some 24), none⟩,
 ⟨(.load false 1), [.tmp 24], (some 25), none⟩,
 ⟨.not, [.tmp 25], (some 26), none⟩,
 ⟨.move, [.tmp 26], (some 21), none⟩])
 (.cond (.tmp 21) (.seq (.seqR [⟨(.build [(.int .i64 0), (.int .i64 0), (.int .u64 0), (.int .u64 0)] []), [], (some 27), none⟩,
 ⟨(.store 4), [.tmp 2, .tmp 27], none, none⟩,
 ⟨.move, [.const (.bool false)], (some 3), none⟩])
 .ret)
 .skip)))))))
 (.seq (.seqR [⟨.move, [.tmp 0], (some 28), none⟩,
 ⟨.nilCheck, [.tmp 28], (some 29), none⟩,
 ⟨(.fieldAddr 0), [.tmp 29], (some 30), none⟩,
 ⟨(.load true 4), [.tmp 30], (some 31), none⟩,
 ⟨(.store 4), [.tmp 2, .tmp 31], none, none⟩,
 ⟨.move, [.const (.bool true)], (some 3), none⟩])
 .ret))), [.cell 2 true 4, .tmp 3]⟩
theorem c122_ok : compFunc Tryz.prog Tryz.f122 = some c122 := by kernel_rfl
theorem c122_body : hasBody Tryz.prog 122 = true := hasBody_of Tryz.func122 (by kernel_rfl)
/-- (coachyard/idle.Yard).Choose -/
def c123 : PFn := ⟨8, Tr.ofList (List.replicate 8 undefA), (.seq (.seqR [⟨.box, [.tmp 0], (some 1), none⟩,
 ⟨.move, [.const (.ptr none)], (some 2), none⟩])
 (.seq (.drawR [⟨⟨(.load true 2), [.tmp 1], (some 3), none⟩, false, false, 0, 1⟩,
 ⟨⟨(.load true 2), [.tmp 1], (some 4), none⟩, false, false, 0, 0⟩,
 ⟨⟨(.callF 142), [.tmp 4, .const (.int .i64 0)], (some 5), none⟩, true, false, 0, 1⟩,
 ⟨⟨(.mkFunc (.func 157) 1), [.tmp 5], (some 6), none⟩, false, false, 1, 1⟩,
 ⟨⟨(.callF 141), [.tmp 3, .const (.int .i64 0), .tmp 6], (some 7), none⟩, true, false, 1, 2⟩,
 ⟨⟨.move, [.tmp 7], (some 2), none⟩, false, false, 2, 2⟩])
 .ret)), [.tmp 2]⟩
theorem c123_ok : compFunc Tryz.prog Tryz.f123 = some c123 := by kernel_rfl
theorem c123_body : hasBody Tryz.prog 123 = true := hasBody_of Tryz.func123 (by kernel_rfl)
/-- (coachyard/pool.call).wake$1 -/
def c124 : PFn := ⟨23, Tr.ofList (List.replicate 23 undefA), (.seq (.seqR [⟨.box, [.tmp 0], (some 3), none⟩])
 (.seq (.seq (.seqR [⟨(.fieldAddr 0), [.tmp 3], (some 4), none⟩,
 ⟨(.load false 1), [.tmp 4], (some 5), none⟩,
 ⟨(.bin .neq), [.tmp 5, .const (.int .i64 0)], (some 6), none⟩])
 (.cond (.tmp 6) (.seq (.seqR [⟨(.load false 1), [.tmp 1], (some 7), none⟩,
 ⟨.callV, [.tmp 7], (some 8), none⟩])
 .ret)
 .skip))
 (.drawR [⟨⟨(.fieldAddr 1), [.tmp 2], (some 9), none⟩, false, false, 0, 2⟩,
 ⟨⟨(.load false 1), [.tmp 9], (some 10), none⟩, false, false, 0, 2⟩,
 ⟨⟨(.fieldAddr 0), [.tmp 2], (some 11), none⟩, false, false, 0, 0⟩,
 ⟨⟨(.load false 1), [.tmp 11], (some 12), none⟩, false, false, 0, 0⟩,
 ⟨⟨.nilCheck, [.tmp 12], (some 13), none⟩, false, false, 0, 0⟩,
 ⟨⟨(.fieldAddr 0), [.tmp 13], (some 14), none⟩, false, false, 0, 0⟩,
 ⟨⟨(.load true 4), [.tmp 14], (some 15), none⟩, false, false, 0, 0⟩,
 ⟨⟨(.fieldAddr 1), [.tmp 3], (some 16), none⟩, false, false, 0, 0⟩,
 ⟨⟨(.load false 1), [.tmp 16], (some 17), none⟩, false, false, 0, 0⟩,
 ⟨⟨(.conv .i64), [.tmp 17], (some 18), none⟩, false, false, 0, 0⟩,
 ⟨⟨(.callF 60), [.tmp 15, .tmp 18], (some 19), none⟩, true, false, 0, 1⟩,
 ⟨⟨(.callF 125), [.tmp 19], (some 20), none⟩, true, false, 1, 2⟩,
 ⟨⟨(.mkFunc (.func 126) 0), [.tmp 1], (some 21), none⟩, false, false, 0, 2⟩,
 ⟨⟨(.callF 52), [.tmp 10, .tmp 20, .tmp 21], (some 22), none⟩, true, false, 2, 3⟩]))), []⟩
theorem c124_ok : compFunc Tryz.prog Tryz.f124 = some c124 := by kernel_rfl
theorem c124_body : hasBody Tryz.prog 124 = true := hasBody_of Tryz.func124 (by kernel_rfl)
/-- (coachyard/park.Spot).Call -/
def c125 : PFn := ⟨5, Tr.ofList (List.replicate 5 undefA), (.seq (.seqR [⟨.box, [.tmp 0], (some 1), none⟩,
 ⟨.move, [.const (.ptr none)], (some 2), none⟩])
 (.seq (.seqR [⟨(.load true 1), [.tmp 1], (some 3), none⟩,
 ⟨(.callF 100), [.tmp 3, .const (.int .i64 4), .const (.int .u64 4294967296), .const (.func (.func 158) [] [])], (some 4), none⟩,
 ⟨.move, [.tmp 4], (some 2), none⟩])
 .ret)), [.tmp 2]⟩
theorem c125_ok : compFunc Tryz.prog Tryz.f125 = some c125 := by kernel_rfl
theorem c125_body : hasBody Tryz.prog 125 = true := hasBody_of Tryz.func125 (by kernel_rfl)
/-- (coachyard/pool.call).wake$1$1 -/
def c126 : PFn := ⟨5, Tr.ofList (List.replicate 5 undefA), (.seq (.seqR [⟨.box, [.tmp 0], (some 2), none⟩])
 (.seqR [⟨(.load false 1), [.tmp 1], (some 3), none⟩,
 ⟨.callV, [.tmp 3], (some 4), none⟩])), []⟩
theorem c126_ok : compFunc Tryz.prog Tryz.f126 = some c126 := by kernel_rfl
theorem c126_body : hasBody Tryz.prog 126 = true := hasBody_of Tryz.func126 (by kernel_rfl)
/-- (coachyard/queue.Line).Right -/
def c128 : PFn := ⟨26, Tr.ofList (List.replicate 26 undefA), (.seq (.seqR [⟨.box, [.tmp 0], (some 1), none⟩,
 ⟨.move, [.const (.bool false)], (some 2), none⟩])
 (.seq (.seqR [⟨(.fieldAddr 1), [.tmp 1], (some 3), none⟩,
 ⟨(.load false 1), [.tmp 3], (some 4), none⟩,
 ⟨(.bin .geq), [.tmp 4, .const (.int .i64 2)], (some 5), none⟩,
 ⟨.move, [.tmp 5], (some 6), none⟩,
 ⟨(.fieldAddr 1), [.tmp 1], (some 7), some (6, true)⟩,
 ⟨(.load false 1), [.tmp 7], (some 8), some (6, true)⟩,
 ⟨(.bin .leq), [.tmp 8, .const (.int .i64 4096)], (some 9), some (6, true)⟩,
 ⟨.pick, [.tmp 6, .tmp 9, .const (.bool false)], (some 10), none⟩,
 ⟨.move, [.tmp 10], (some 11), none⟩,
 ⟨(.fieldAddr 0), [.tmp 1], (some 12), some (11, true)⟩,
 ⟨(.load false 1), [.tmp 12], (some 13), some (11, true)⟩,
 ⟨(.bin .geq), [.tmp 13, .const (.int .i64 0)], (some 14), some (11, true)⟩,
 ⟨.pick, [.tmp 11, .tmp 14, .const (.bool false)], (some 15), none⟩,
 ⟨.move, [.tmp 15], (some 16), none⟩,
 ⟨(.fieldAddr 0), [.tmp 1], (some 17), some (16, true)⟩,
 ⟨(.load false 1), [.tmp 17], (some 18), some (16, true)⟩,
 ⟨(.fieldAddr 1), [.tmp 1], (some 19), some (16, true)⟩,
 ⟨(.load false 1), [.tmp 19], (some 20), some (16, true)⟩,
 ⟨(.bin .mul), [.const (.int .i64 3), .tmp 20], (some 21), some (16, true)⟩,
 ⟨(.bin .sub), [.const (.int .i64 65536), .tmp 21], (some 22), some (16, true)⟩,
 ⟨(.bin .sub), [.tmp 22, .const (.int .i64 2)], (some 23), some (16, true)⟩,
 ⟨(.bin .lss), [.tmp 18, .tmp 23], (some 24), some (16, true)⟩,
 ⟨.pick, [.tmp 16, .tmp 24, .const (.bool false)], (some 25), none⟩,
 ⟨.move, [.tmp 25], (some 2), none⟩])
 .ret)), [.tmp 2]⟩
theorem c128_ok : compFunc Tryz.prog Tryz.f128 = some c128 := by kernel_rfl
theorem c128_body : hasBody Tryz.prog 128 = true := hasBody_of Tryz.func128 (by kernel_rfl)
/-- (*coachyard/walk.Walk).Hold -/
def c129 : PFn := ⟨11, Tr.ofList (List.replicate 11 undefA), (.seq (.seqR [⟨.move, [.tmp 0], (some 4), none⟩,
 ⟨(.eqPtr true), [.tmp 4, .const (.ptr none)], (some 5), none⟩])
 (.cond (.tmp 5) (.seqR [⟨.move, [.tmp 0], (some 6), none⟩,
 ⟨.move, [.tmp 1], (some 7), none⟩,
 ⟨(.callF 49), [.tmp 7], (some 8), none⟩,
 ⟨.nilCheck, [.tmp 6], (some 9), none⟩,
 ⟨(.fieldAddr 12), [.tmp 9], (some 10), none⟩,
 ⟨(.store 1), [.tmp 10, .tmp 8], none, none⟩])
 .skip)), []⟩
theorem c129_ok : compFunc Tryz.prog Tryz.f129 = some c129 := by kernel_rfl
theorem c129_body : hasBody Tryz.prog 129 = true := hasBody_of Tryz.func129 (by kernel_rfl)
/-- (coachyard/queue.Line).Take$1 -/
def c132 : PFn := ⟨14, Tr.ofList (List.replicate 14 undefA), (.seq (.seq (.seqR [⟨(.load true 2), [.tmp 1], (some 3), none⟩,
 ⟨(.callF 128), [.tmp 3], (some 4), none⟩,
 ⟨.not, [.tmp 4], (some 5), none⟩])
 (.cond (.tmp 5) (.seq (.seqR [⟨.move, [.tmp 0], (some 6), none⟩,
 ⟨(.callF 48), [.tmp 6, .const (.int .i64 2)], (some 7), none⟩])
 .ret)
 .skip))
 (.seqR [⟨(.load true 2), [.tmp 1], (some 8), none⟩,
 ⟨.move, [.tmp 0], (some 9), none⟩,
 ⟨(.build [(.int .i64 0), (.int .i64 0), (.ptr none)] [(0, 2), (2, 1)]), [.tmp 8, .tmp 9], (some 10), none⟩,
 ⟨(.build [(.int .i64 0), (.int .i64 0), (.ptr none), (.int .u64 0), (.int .u64 0), (.int .u64 0), (.int .u64 0), (.int .u32 0), (.int .u32 0)] [(0, 3)]), [.tmp 10], (some 11), none⟩,
 ⟨.box, [.tmp 11], (some 12), none⟩,
 ⟨(.callF 133), [.tmp 12], (some 13), none⟩])), []⟩
theorem c132_ok : compFunc Tryz.prog Tryz.f132 = some c132 := by kernel_rfl
theorem c132_body : hasBody Tryz.prog 132 = true := hasBody_of Tryz.func132 (by kernel_rfl)
/-- (*coachyard/queue.take).begin -/
def c133 : PFn := ⟨14, Tr.ofList (List.replicate 14 undefA), (.drawR [⟨⟨.move, [.tmp 0], (some 2), none⟩, false, false, 0, 0⟩,
 ⟨⟨.nilCheck, [.tmp 2], (some 3), none⟩, false, false, 0, 0⟩,
 ⟨⟨(.fieldAddr 0), [.tmp 3], (some 4), none⟩, false, false, 0, 0⟩,
 ⟨⟨.move, [.tmp 0], (some 5), none⟩, false, false, 0, 0⟩,
 ⟨⟨.nilCheck, [.tmp 5], (some 6), none⟩, false, false, 0, 0⟩,
 ⟨⟨(.fieldAddr 0), [.tmp 6], (some 7), none⟩, false, false, 0, 0⟩,
 ⟨⟨(.fieldAddr 0), [.tmp 7], (some 8), none⟩, false, false, 0, 0⟩,
 ⟨⟨(.fieldAddr 0), [.tmp 8], (some 9), none⟩, false, false, 0, 0⟩,
 ⟨⟨(.load false 1), [.tmp 9], (some 10), none⟩, false, false, 0, 0⟩,
 ⟨⟨.move, [.tmp 0], (some 11), none⟩, false, false, 0, 0⟩,
 ⟨⟨(.mkFunc (.func 163) 1), [.tmp 11], (some 12), none⟩, false, false, 0, 0⟩,
 ⟨⟨(.callF 162), [.tmp 4, .tmp 10, .tmp 12], (some 13), none⟩, true, false, 0, 1⟩]), []⟩
theorem c133_ok : compFunc Tryz.prog Tryz.f133 = some c133 := by kernel_rfl
theorem c133_body : hasBody Tryz.prog 133 = true := hasBody_of Tryz.func133 (by kernel_rfl)
/-- (coachyard/idle.Yard).Search -/
def c134 : PFn := ⟨12, Tr.ofList (List.replicate 12 undefA), (.seq (.seqR [⟨.box, [.tmp 0], (some 2), none⟩,
 ⟨.move, [.const (.ptr none)], (some 4), none⟩])
 (.seq (.drawR [⟨⟨(.load true 2), [.tmp 2], (some 5), none⟩, false, false, 0, 1⟩,
 ⟨⟨.move, [.tmp 1], (some 6), none⟩, false, false, 0, 1⟩,
 ⟨⟨(.load true 2), [.tmp 2], (some 7), none⟩, false, false, 0, 0⟩,
 ⟨⟨.move, [.tmp 1], (some 8), none⟩, false, false, 0, 0⟩,
 ⟨⟨(.callF 142), [.tmp 7, .tmp 8], (some 9), none⟩, true, false, 0, 1⟩,
 ⟨⟨(.mkFunc (.func 164) 1), [.tmp 9], (some 10), none⟩, false, false, 1, 1⟩,
 ⟨⟨(.callF 141), [.tmp 5, .tmp 6, .tmp 10], (some 11), none⟩, true, false, 1, 2⟩,
 ⟨⟨.move, [.tmp 11], (some 4), none⟩, false, false, 2, 2⟩])
 .ret)), [.tmp 4]⟩
theorem c134_ok : compFunc Tryz.prog Tryz.f134 = some c134 := by kernel_rfl
theorem c134_body : hasBody Tryz.prog 134 = true := hasBody_of Tryz.func134 (by kernel_rfl)
/-- (*coachyard/pool.next).searches -/
def c135 : PFn := ⟨16, Tr.ofList (List.replicate 16 undefA), (.seq (.seqR [⟨.box, [.tmp 1], (some 3), none⟩])
 (.seq (.seqR [⟨.move, [.tmp 0], (some 4), none⟩,
 ⟨(.fieldAddr 0), [.tmp 3], (some 5), none⟩,
 ⟨(.load false 1), [.tmp 5], (some 6), none⟩,
 ⟨(.bin .eql), [.tmp 6, .const (.int .i64 0)], (some 7), none⟩,
 ⟨.nilCheck, [.tmp 4], (some 8), none⟩,
 ⟨(.fieldAddr 4), [.tmp 8], (some 9), none⟩,
 ⟨(.store 1), [.tmp 9, .tmp 7], none, none⟩])
 (.seq (.seqR [⟨.move, [.tmp 0], (some 10), none⟩,
 ⟨(.build [(.int .i64 0), (.int .u64 0), (.slice none 0 0 false)] [(0, 1)]), [.const (.int .i64 5)], (some 11), none⟩,
 ⟨.nilCheck, [.tmp 10], (some 12), none⟩,
 ⟨(.fieldAddr 5), [.tmp 12], (some 13), none⟩,
 ⟨(.store 3), [.tmp 13, .tmp 11], none, none⟩])
 (.seqR [⟨.move, [.tmp 0], (some 14), none⟩,
 ⟨(.callF 165), [.tmp 14], (some 15), none⟩])))), []⟩
theorem c135_ok : compFunc Tryz.prog Tryz.f135 = some c135 := by kernel_rfl
theorem c135_body : hasBody Tryz.prog 135 = true := hasBody_of Tryz.func135 (by kernel_rfl)
/-- (coachyard/park.Spot).begun -/
def c136 : PFn := ⟨7, Tr.ofList (List.replicate 7 undefA), (.seq (.seqR [⟨.box, [.tmp 0], (some 2), none⟩,
 ⟨.box, [.tmp 1], (some 3), none⟩,
 ⟨.move, [.const (.ptr none)], (some 4), none⟩])
 (.seq (.seqR [⟨(.mkFunc (.func 166) 0), [.tmp 2, .tmp 3], (some 5), none⟩,
 ⟨(.callF 46), [.tmp 5], (some 6), none⟩,
 ⟨.move, [.tmp 6], (some 4), none⟩])
 .ret)), [.tmp 4]⟩
theorem c136_ok : compFunc Tryz.prog Tryz.f136 = some c136 := by kernel_rfl
theorem c136_body : hasBody Tryz.prog 136 = true := hasBody_of Tryz.func136 (by kernel_rfl)
/-- (coachyard/park.Spot).once$1 -/
def c137 : PFn := ⟨14, Tr.ofList (List.replicate 14 undefA), (.seq (.seqR [⟨.box, [.tmp 0], (some 5), none⟩])
 (.seqR [⟨(.load false 1), [.tmp 5], (some 6), none⟩,
 ⟨(.load false 1), [.tmp 1], (some 7), none⟩,
 ⟨(.fieldAddr 0), [.tmp 2], (some 8), none⟩,
 ⟨(.load false 1), [.tmp 8], (some 9), none⟩,
 ⟨(.load false 1), [.tmp 3], (some 10), none⟩,
 ⟨(.build [(.int .i64 0), (.int .i64 0), (.int .u64 0), (.int .u64 0)] [(0, 1), (1, 1), (2, 1)]), [.tmp 7, .tmp 9, .tmp 10], (some 11), none⟩,
 ⟨(.mkFunc (.func 139) 0), [.tmp 5, .tmp 4], (some 12), none⟩,
 ⟨(.callF 138), [.tmp 6, .tmp 11, .tmp 12], (some 13), none⟩])), []⟩
theorem c137_ok : compFunc Tryz.prog Tryz.f137 = some c137 := by kernel_rfl
theorem c137_body : hasBody Tryz.prog 137 = true := hasBody_of Tryz.func137 (by kernel_rfl)
/-- (*coachyard/walk.Walk).Ask -/
def c138 : PFn := ⟨19, Tr.ofList (List.replicate 19 undefA), (.seq (.seqR [⟨.box, [.tmp 1], (some 4), none⟩])
 (.seq (.seqR [⟨.move, [.tmp 0], (some 6), none⟩,
 ⟨(.callF 89), [.tmp 6], (some 7), none⟩])
 (.cond (.tmp 7) (.seqR [⟨.move, [.tmp 0], (some 8), none⟩,
 ⟨.move, [.tmp 0], (some 9), none⟩,
 ⟨.move, [.tmp 0], (some 10), none⟩,
 ⟨(.load true 4), [.tmp 4], (some 11), none⟩,
 ⟨.move, [.tmp 2], (some 12), none⟩,
 ⟨.nilCheck, [.tmp 8], (some 13), none⟩,
 ⟨(.fieldAddr 0), [.tmp 13], (some 14), none⟩,
 ⟨(.store 4), [.tmp 14, .tmp 11], none, none⟩,
 ⟨.nilCheck, [.tmp 9], (some 15), none⟩,
 ⟨(.fieldAddr 4), [.tmp 15], (some 16), none⟩,
 ⟨(.store 1), [.tmp 16, .tmp 12], none, none⟩,
 ⟨.nilCheck, [.tmp 10], (some 17), none⟩,
 ⟨(.fieldAddr 5), [.tmp 17], (some 18), none⟩,
 ⟨(.store 1), [.tmp 18, .const (.bool true)], none, none⟩])
 .skip))), []⟩
theorem c138_ok : compFunc Tryz.prog Tryz.f138 = some c138 := by kernel_rfl
theorem c138_body : hasBody Tryz.prog 138 = true := hasBody_of Tryz.func138 (by kernel_rfl)
/-- (coachyard/park.Spot).once$1$1 -/
def c139 : PFn := ⟨12, Tr.ofList (List.replicate 12 undefA), (.drawR [⟨⟨(.load false 1), [.tmp 2], (some 6), none⟩, false, false, 0, 1⟩,
 ⟨⟨(.load false 1), [.tmp 3], (some 7), none⟩, false, false, 0, 0⟩,
 ⟨⟨.move, [.tmp 0], (some 8), none⟩, false, false, 0, 0⟩,
 ⟨⟨.callV, [.tmp 7, .tmp 8], (some 9), none⟩, true, false, 0, 1⟩,
 ⟨⟨(.build [(.int .i64 0), (.int .u64 0), (.slice none 0 0 false)] [(1, 1)]), [.tmp 9], (some 10), none⟩, false, false, 1, 1⟩,
 ⟨⟨(.callF 87), [.tmp 6, .tmp 10], (some 11), none⟩, true, false, 1, 2⟩]), []⟩
theorem c139_ok : compFunc Tryz.prog Tryz.f139 = some c139 := by kernel_rfl
theorem c139_body : hasBody Tryz.prog 139 = true := hasBody_of Tryz.func139 (by kernel_rfl)
/-- coachyard/word.Split -/
def c140 : PFn := ⟨9, Tr.ofList (List.replicate 9 undefA), (.seq (.seqR [⟨.move, [.const (.int .u32 0)], (some 2), none⟩,
 ⟨.move, [.const (.int .u32 0)], (some 3), none⟩])
 (.seq (.seqR [⟨.move, [.tmp 0], (some 4), none⟩,
 ⟨(.bin .shr), [.tmp 4, .const (.int .u64 32)], (some 5), none⟩,
 ⟨(.conv .u32), [.tmp 5], (some 6), none⟩,
 ⟨.move, [.tmp 0], (some 7), none⟩,
 ⟨(.conv .u32), [.tmp 7], (some 8), none⟩,
 ⟨.move, [.tmp 6], (some 2), none⟩,
 ⟨.move, [.tmp 8], (some 3), none⟩])
 .ret)), [.tmp 2, .tmp 3]⟩
theorem c140_ok : compFunc Tryz.prog Tryz.f140 = some c140 := by kernel_rfl
theorem c140_body : hasBody Tryz.prog 140 = true := hasBody_of Tryz.func140 (by kernel_rfl)
/-- (coachyard/idle.Yard).begun -/
def c141 : PFn := ⟨9, Tr.ofList (List.replicate 9 undefA), (.seq (.seqR [⟨.box, [.tmp 0], (some 3), none⟩,
 ⟨.box, [.tmp 1], (some 4), none⟩,
 ⟨.box, [.tmp 2], (some 5), none⟩,
 ⟨.move, [.const (.ptr none)], (some 6), none⟩])
 (.seq (.seqR [⟨(.mkFunc (.func 168) 0), [.tmp 3, .tmp 4, .tmp 5], (some 7), none⟩,
 ⟨(.callF 46), [.tmp 7], (some 8), none⟩,
 ⟨.move, [.tmp 8], (some 6), none⟩])
 .ret)), [.tmp 6]⟩
theorem c141_ok : compFunc Tryz.prog Tryz.f141 = some c141 := by kernel_rfl
theorem c141_body : hasBody Tryz.prog 141 = true := hasBody_of Tryz.func141 (by kernel_rfl)
/-- (coachyard/idle.Yard).of -/
def c142 : PFn := ⟨24, Tr.ofList (List.replicate 24 undefA), (.seq (.seqR [⟨.box, [.tmp 0], (some 2), none⟩,
 ⟨(.new [(.int .i64 0), (.int .i64 0), (.int .u32 0)]), [], (some 4), none⟩])
 (.seq (.seq (.seqR [⟨.move, [.tmp 1], (some 5), none⟩,
 ⟨(.bin .lss), [.tmp 5, .const (.int .i64 0)], (some 6), none⟩,
 ⟨.move, [.tmp 6], (some 7), none⟩,
 ⟨.move, [.tmp 1], (some 8), some (7, false)⟩,
 ⟨(.fieldAddr 1), [.tmp 2], (some 9), some (7, false)⟩,
 ⟨(.load false 1), [.tmp 9], (some 10), some (7, false)⟩,
 ⟨(.bin .geq), [.tmp 8, .tmp 10], (some 11), some (7, false)⟩,
 ⟨.pick, [.tmp 7, .const (.bool true), .tmp 11], (some 12), none⟩,
 ⟨.move, [.tmp 12], (some 13), none⟩,
 ⟨(.load true 2), [.tmp 2], (some 14), some (13, false)⟩,
 ⟨(.callF 169), [.tmp 14], (some 15), some (13, false)⟩,
 ⟨.not, [.tmp 15], (some 16), some (13, false)⟩,
 ⟨.pick, [.tmp 13, .const (.bool true), .tmp 16], (some 17), none⟩])
 (.cond (.tmp 17) (.seq (.seqR [⟨(.load true 2), [.tmp 2], (some 18), none⟩,
 ⟨(.build [(.int .i64 0), (.int .i64 0), (.int .u32 0)] [(0, 2)]), [.tmp 18], (some 19), none⟩,
 ⟨(.store 3), [.tmp 4, .tmp 19], none, none⟩])
 .ret)
 .skip))
 (.seq (.drawR [⟨⟨(.load true 2), [.tmp 2], (some 20), none⟩, false, false, 0, 0⟩,
 ⟨⟨.move, [.tmp 1], (some 21), none⟩, false, false, 0, 0⟩,
 ⟨⟨(.bin .shl), [.const (.int .u32 1), .tmp 21], (some 22), none⟩, false, false, 0, 0⟩,
 ⟨⟨(.build [(.int .i64 0), (.int .i64 0), (.int .u32 0)] [(0, 2), (2, 1)]), [.tmp 20, .tmp 22], (some 23), none⟩, false, false, 0, 0⟩,
 ⟨⟨(.store 3), [.tmp 4, .tmp 23], none, none⟩, true, false, 0, 1⟩])
 .ret))), [.cell 4 true 3]⟩
theorem c142_ok : compFunc Tryz.prog Tryz.f142 = some c142 := by kernel_rfl
theorem c142_body : hasBody Tryz.prog 142 = true := hasBody_of Tryz.func142 (by kernel_rfl)
/-- (coachyard/idle.one).sleep -/
def c143 : PFn := ⟨14, Tr.ofList (List.replicate 14 undefA), (.seq (.seqR [⟨.box, [.tmp 0], (some 2), none⟩,
 ⟨.box, [.tmp 1], (some 3), none⟩,
 ⟨(.new [(.int .u32 0), (.int .u32 0)]), [], (some 4), none⟩,
 ⟨.move, [.const (.int .u64 0)], (some 5), none⟩,
 ⟨.move, [.const (.int .i64 0)], (some 6), none⟩])
 (.seq (.seqR [⟨(.fieldAddr 1), [.tmp 3], (some 7), none⟩,
 ⟨(.load false 1), [.tmp 7], (some 8), none⟩,
 ⟨(.fieldAddr 2), [.tmp 2], (some 9), none⟩,
 ⟨(.load false 1), [.tmp 9], (some 10), none⟩,
 ⟨(.bin .or), [.tmp 8, .tmp 10], (some 11), none⟩,
 ⟨(.fieldAddr 1), [.tmp 3], (some 12), none⟩,
 ⟨(.store 1), [.tmp 12, .tmp 11], none, none⟩])
 (.seq (.seqR [⟨(.load true 2), [.tmp 3], (some 13), none⟩,
 ⟨(.store 2), [.tmp 4, .tmp 13], none, none⟩,
 ⟨.move, [.const (.int .u64 0)], (some 5), none⟩,
 ⟨.move, [.const (.int .i64 0)], (some 6), none⟩])
 .ret))), [.cell 4 true 2, .tmp 5, .tmp 6]⟩
theorem c143_ok : compFunc Tryz.prog Tryz.f143 = some c143 := by kernel_rfl
theorem c143_body : hasBody Tryz.prog 143 = true := hasBody_of Tryz.func143 (by kernel_rfl)
/-- (coachyard/local.Row).Peek -/
def c144 : PFn := ⟨9, Tr.ofList (List.replicate 9 undefA), (.seq (.seqR [⟨.box, [.tmp 0], (some 1), none⟩,
 ⟨.move, [.const (.ptr none)], (some 2), none⟩])
 (.seq (.seq (.seqR [⟨(.load true 3), [.tmp 1], (some 3), none⟩,
 ⟨(.callF 171), [.tmp 3], (some 4), none⟩,
 ⟨.not, [.tmp 4], (some 5), none⟩])
 (.cond (.tmp 5) (.seq (.seqR [⟨(.callF 172), [], (some 6), none⟩,
 ⟨.move, [.tmp 6], (some 2), none⟩])
 .ret)
 .skip))
 (.seq (.seqR [⟨(.mkFunc (.func 173) 0), [.tmp 1], (some 7), none⟩,
 ⟨(.callF 46), [.tmp 7], (some 8), none⟩,
 ⟨.move, [.tmp 8], (some 2), none⟩])
 .ret))), [.tmp 2]⟩
theorem c144_ok : compFunc Tryz.prog Tryz.f144 = some c144 := by kernel_rfl
theorem c144_body : hasBody Tryz.prog 144 = true := hasBody_of Tryz.func144 (by kernel_rfl)
/-- (*coachyard/pool.parker).seen -/
def c145 : PFn := ⟨24, Tr.ofList (List.replicate 24 undefA), (.seq (.seqR [⟨.box, [.tmp 1], (some 3), none⟩])
 (.seq (.seq (.seqR [⟨(.fieldAddr 0), [.tmp 3], (some 4), none⟩,
 ⟨(.load false 1), [.tmp 4], (some 5), none⟩,
 ⟨(.bin .neq), [.tmp 5, .const (.int .i64 0)], (some 6), none⟩,
 ⟨.move, [.tmp 6], (some 7), none⟩,
 ⟨(.fieldAddr 1), [.tmp 3], (some 8), some (7, false)⟩,
 ⟨(.load false 1), [.tmp 8], (some 9), some (7, false)⟩,
 ⟨(.bin .neq), [.tmp 9, .const (.int .u64 0)], (some 10), some (7, false)⟩,
 ⟨.pick, [.tmp 7, .const (.bool true), .tmp 10], (some 11), none⟩])
 (.cond (.tmp 11) (.seq (.seqR [⟨.move, [.tmp 0], (some 12), none⟩,
 ⟨(.load true 3), [.tmp 3], (some 13), none⟩,
 ⟨(.callF 148), [.tmp 12, .tmp 13], (some 14), none⟩])
 .ret)
 .skip))
 (.seq (.seqR [⟨.move, [.tmp 0], (some 15), none⟩,
 ⟨.nilCheck, [.tmp 15], (some 16), none⟩,
 ⟨(.fieldAddr 4), [.tmp 16], (some 17), none⟩,
 ⟨(.load false 1), [.tmp 17], (some 18), none⟩,
 ⟨(.bin .add), [.tmp 18, .const (.int .i64 1)], (some 19), none⟩,
 ⟨.nilCheck, [.tmp 15], (some 20), none⟩,
 ⟨(.fieldAddr 4), [.tmp 20], (some 21), none⟩,
 ⟨(.store 1), [.tmp 21, .tmp 19], none, none⟩])
 (.seqR [⟨.move, [.tmp 0], (some 22), none⟩,
 ⟨(.callF 105), [.tmp 22], (some 23), none⟩])))), []⟩
theorem c145_ok : compFunc Tryz.prog Tryz.f145 = some c145 := by kernel_rfl
theorem c145_body : hasBody Tryz.prog 145 = true := hasBody_of Tryz.func145 (by kernel_rfl)
end Go.Proofs.YtfpamakhkkdikaaGreatDoor
