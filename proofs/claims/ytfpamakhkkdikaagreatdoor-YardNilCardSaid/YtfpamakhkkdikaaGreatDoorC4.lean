/- The code of the small machine for some of the program's functions: printed by program; each is what the rules make of the program's own. -/
import Derived.Test.YtfpamakhkkdikaaGreatDoorVx16
import Derived.Test.YtfpamakhkkdikaaGreatDoorProg
import Derived.KernelRfl
namespace Go.Proofs.YtfpamakhkkdikaaGreatDoor
open Go Go.Vx Go.Proofs
/-- (*coachyard/ring.push).laid -/
def c329 : PFn := ⟨26, Tr.ofList (List.replicate 26 undefA), (.drawR [⟨⟨.move, [.tmp 0], (some 6), none⟩, false, false, 0, 1⟩,
 ⟨⟨.nilCheck, [.tmp 6], (some 7), none⟩, false, false, 0, 1⟩,
 ⟨⟨(.fieldAddr 0), [.tmp 7], (some 8), none⟩, false, false, 0, 1⟩,
 ⟨⟨(.fieldAddr 2), [.tmp 8], (some 9), none⟩, false, false, 0, 1⟩,
 ⟨⟨(.load false 1), [.tmp 9], (some 10), none⟩, false, false, 0, 1⟩,
 ⟨⟨.move, [.tmp 0], (some 11), none⟩, false, false, 0, 0⟩,
 ⟨⟨.nilCheck, [.tmp 11], (some 12), none⟩, false, false, 0, 0⟩,
 ⟨⟨(.fieldAddr 0), [.tmp 12], (some 13), none⟩, false, false, 0, 0⟩,
 ⟨⟨(.fieldAddr 0), [.tmp 13], (some 14), none⟩, false, false, 0, 0⟩,
 ⟨⟨(.load true 2), [.tmp 14], (some 15), none⟩, false, false, 0, 0⟩,
 ⟨⟨.move, [.tmp 0], (some 16), none⟩, false, false, 0, 0⟩,
 ⟨⟨.nilCheck, [.tmp 16], (some 17), none⟩, false, false, 0, 0⟩,
 ⟨⟨(.fieldAddr 0), [.tmp 17], (some 18), none⟩, false, false, 0, 0⟩,
 ⟨⟨(.fieldAddr 6), [.tmp 18], (some 19), none⟩, false, false, 0, 0⟩,
 ⟨⟨(.load false 1), [.tmp 19], (some 20), none⟩, false, false, 0, 0⟩,
 ⟨⟨(.bin .add), [.tmp 20, .const (.int .u32 1)], (some 21), none⟩, false, false, 0, 0⟩,
 ⟨⟨(.callF 285), [.tmp 15, .tmp 21], (some 22), none⟩, true, false, 0, 1⟩,
 ⟨⟨.move, [.tmp 0], (some 23), none⟩, false, false, 0, 1⟩,
 ⟨⟨(.mkFunc (.func 332) 1), [.tmp 23], (some 24), none⟩, false, false, 0, 1⟩,
 ⟨⟨(.callF 138), [.tmp 10, .tmp 22, .tmp 24], (some 25), none⟩, true, false, 1, 2⟩]), []⟩
theorem c329_ok : compFunc Tryz.prog Tryz.f329 = some c329 := by kernel_rfl
theorem c329_body : hasBody Tryz.prog 329 = true := hasBody_of Tryz.func329 (by kernel_rfl)
/-- (*coachyard/ring.push).claimed -/
def c330 : PFn := ⟨30, Tr.ofList (List.replicate 30 undefA), (.seq (.seq (.seqR [⟨.move, [.tmp 2], (some 6), none⟩,
 ⟨.not, [.tmp 6], (some 7), none⟩])
 (.cond (.tmp 7) (.seq (.seqR [⟨.move, [.tmp 0], (some 8), none⟩,
 ⟨.move, [.tmp 1], (some 9), none⟩,
 ⟨(.callF 325), [.tmp 8, .tmp 9, .const (.bool true)], (some 10), none⟩])
 .ret)
 .skip))
 (.drawR [⟨⟨.move, [.tmp 0], (some 11), none⟩, false, false, 0, 1⟩,
 ⟨⟨.nilCheck, [.tmp 11], (some 12), none⟩, false, false, 0, 1⟩,
 ⟨⟨(.fieldAddr 0), [.tmp 12], (some 13), none⟩, false, false, 0, 1⟩,
 ⟨⟨(.fieldAddr 2), [.tmp 13], (some 14), none⟩, false, false, 0, 1⟩,
 ⟨⟨(.load false 1), [.tmp 14], (some 15), none⟩, false, false, 0, 1⟩,
 ⟨⟨.move, [.tmp 0], (some 16), none⟩, false, false, 0, 0⟩,
 ⟨⟨.nilCheck, [.tmp 16], (some 17), none⟩, false, false, 0, 0⟩,
 ⟨⟨(.fieldAddr 0), [.tmp 17], (some 18), none⟩, false, false, 0, 0⟩,
 ⟨⟨(.fieldAddr 0), [.tmp 18], (some 19), none⟩, false, false, 0, 0⟩,
 ⟨⟨(.load true 2), [.tmp 19], (some 20), none⟩, false, false, 0, 0⟩,
 ⟨⟨.move, [.tmp 0], (some 21), none⟩, false, false, 0, 0⟩,
 ⟨⟨.nilCheck, [.tmp 21], (some 22), none⟩, false, false, 0, 0⟩,
 ⟨⟨(.fieldAddr 0), [.tmp 22], (some 23), none⟩, false, false, 0, 0⟩,
 ⟨⟨(.fieldAddr 5), [.tmp 23], (some 24), none⟩, false, false, 0, 0⟩,
 ⟨⟨(.load false 1), [.tmp 24], (some 25), none⟩, false, false, 0, 0⟩,
 ⟨⟨(.callF 278), [.tmp 20, .tmp 25], (some 26), none⟩, true, false, 0, 1⟩,
 ⟨⟨.move, [.tmp 0], (some 27), none⟩, false, false, 0, 1⟩,
 ⟨⟨(.mkFunc (.func 333) 1), [.tmp 27], (some 28), none⟩, false, false, 0, 1⟩,
 ⟨⟨(.callF 138), [.tmp 15, .tmp 26, .tmp 28], (some 29), none⟩, true, false, 1, 2⟩])), []⟩
theorem c330_ok : compFunc Tryz.prog Tryz.f330 = some c330 := by kernel_rfl
theorem c330_body : hasBody Tryz.prog 330 = true := hasBody_of Tryz.func330 (by kernel_rfl)
/-- (*coachyard/ring.pop).got -/
def c331 : PFn := ⟨14, Tr.ofList (List.replicate 14 undefA), (.seqR [⟨.move, [.tmp 0], (some 6), none⟩,
 ⟨.nilCheck, [.tmp 6], (some 7), none⟩,
 ⟨(.fieldAddr 0), [.tmp 7], (some 8), none⟩,
 ⟨(.fieldAddr 2), [.tmp 8], (some 9), none⟩,
 ⟨(.load false 1), [.tmp 9], (some 10), none⟩,
 ⟨.move, [.tmp 1], (some 11), none⟩,
 ⟨(.build [(.int .i64 0), (.int .u64 0), (.slice none 0 0 false)] [(1, 1)]), [.tmp 11], (some 12), none⟩,
 ⟨(.callF 87), [.tmp 10, .tmp 12], (some 13), none⟩]), []⟩
theorem c331_ok : compFunc Tryz.prog Tryz.f331 = some c331 := by kernel_rfl
theorem c331_body : hasBody Tryz.prog 331 = true := hasBody_of Tryz.func331 (by kernel_rfl)
/-- (*coachyard/ring.push).done -/
def c332 : PFn := ⟨11, Tr.ofList (List.replicate 11 undefA), (.seqR [⟨.move, [.tmp 0], (some 6), none⟩,
 ⟨.nilCheck, [.tmp 6], (some 7), none⟩,
 ⟨(.fieldAddr 0), [.tmp 7], (some 8), none⟩,
 ⟨(.build [(.int .i64 0), (.int .u64 0), (.slice none 0 0 false)] []), [], (some 9), none⟩,
 ⟨(.callF 287), [.tmp 8, .tmp 9], (some 10), none⟩]), []⟩
theorem c332_ok : compFunc Tryz.prog Tryz.f332 = some c332 := by kernel_rfl
theorem c332_body : hasBody Tryz.prog 332 = true := hasBody_of Tryz.func332 (by kernel_rfl)
/-- (*coachyard/ring.push).got -/
def c333 : PFn := ⟨61, Tr.ofList (List.replicate 61 undefA), (.seq (.seqR [⟨.move, [.tmp 0], (some 7), none⟩,
 ⟨.nilCheck, [.tmp 7], (some 8), none⟩,
 ⟨(.fieldAddr 0), [.tmp 8], (some 9), none⟩,
 ⟨.move, [.tmp 1], (some 10), none⟩,
 ⟨(.callF 281), [.tmp 9, .tmp 10], (some 11), none⟩])
 (.seq (.seq (.seqR [⟨.move, [.tmp 0], (some 12), none⟩,
 ⟨.nilCheck, [.tmp 12], (some 13), none⟩,
 ⟨(.fieldAddr 0), [.tmp 13], (some 14), none⟩,
 ⟨(.fieldAddr 7), [.tmp 14], (some 15), none⟩,
 ⟨(.load false 1), [.tmp 15], (some 16), none⟩,
 ⟨.lenS, [.tmp 16], (some 17), none⟩,
 ⟨(.bin .sub), [.tmp 17, .const (.int .i64 1)], (some 18), none⟩,
 ⟨.move, [.tmp 18], (some 6), none⟩])
 (.seq (.seqR [⟨.move, [.tmp 6], (some 19), none⟩,
 ⟨.move, [.tmp 0], (some 20), none⟩,
 ⟨.nilCheck, [.tmp 20], (some 21), none⟩,
 ⟨(.fieldAddr 0), [.tmp 21], (some 22), none⟩,
 ⟨(.fieldAddr 0), [.tmp 22], (some 23), none⟩,
 ⟨(.fieldAddr 1), [.tmp 23], (some 24), none⟩,
 ⟨(.load false 1), [.tmp 24], (some 25), none⟩,
 ⟨(.bin .quo), [.tmp 25, .const (.int .i64 2)], (some 26), none⟩,
 ⟨(.bin .lss), [.tmp 19, .tmp 26], (some 27), none⟩])
 (.cond (.tmp 27) (.seq (.drawR [⟨⟨.move, [.tmp 0], (some 28), none⟩, false, false, 0, 1⟩,
 ⟨⟨.nilCheck, [.tmp 28], (some 29), none⟩, false, false, 0, 1⟩,
 ⟨⟨(.fieldAddr 0), [.tmp 29], (some 30), none⟩, false, false, 0, 1⟩,
 ⟨⟨(.fieldAddr 2), [.tmp 30], (some 31), none⟩, false, false, 0, 1⟩,
 ⟨⟨(.load false 1), [.tmp 31], (some 32), none⟩, false, false, 0, 1⟩,
 ⟨⟨.move, [.tmp 0], (some 33), none⟩, false, false, 0, 0⟩,
 ⟨⟨.nilCheck, [.tmp 33], (some 34), none⟩, false, false, 0, 0⟩,
 ⟨⟨(.fieldAddr 0), [.tmp 34], (some 35), none⟩, false, false, 0, 0⟩,
 ⟨⟨(.fieldAddr 0), [.tmp 35], (some 36), none⟩, false, false, 0, 0⟩,
 ⟨⟨(.load true 2), [.tmp 36], (some 37), none⟩, false, false, 0, 0⟩,
 ⟨⟨.move, [.tmp 0], (some 38), none⟩, false, false, 0, 0⟩,
 ⟨⟨.nilCheck, [.tmp 38], (some 39), none⟩, false, false, 0, 0⟩,
 ⟨⟨(.fieldAddr 0), [.tmp 39], (some 40), none⟩, false, false, 0, 0⟩,
 ⟨⟨(.fieldAddr 5), [.tmp 40], (some 41), none⟩, false, false, 0, 0⟩,
 ⟨⟨(.load false 1), [.tmp 41], (some 42), none⟩, false, false, 0, 0⟩,
 ⟨⟨.move, [.tmp 6], (some 43), none⟩, false, false, 0, 0⟩,
 ⟨⟨(.conv .u32), [.tmp 43], (some 44), none⟩, false, false, 0, 0⟩,
 ⟨⟨(.bin .add), [.tmp 42, .tmp 44], (some 45), none⟩, false, false, 0, 0⟩,
 ⟨⟨(.callF 278), [.tmp 37, .tmp 45], (some 46), none⟩, true, false, 0, 1⟩,
 ⟨⟨.move, [.tmp 0], (some 47), none⟩, false, false, 0, 1⟩,
 ⟨⟨(.mkFunc (.func 333) 1), [.tmp 47], (some 48), none⟩, false, false, 0, 1⟩,
 ⟨⟨(.callF 138), [.tmp 32, .tmp 46, .tmp 48], (some 49), none⟩, true, false, 1, 2⟩])
 .ret)
 .skip)))
 (.drawR [⟨⟨.move, [.tmp 0], (some 50), none⟩, false, false, 0, 0⟩,
 ⟨⟨.nilCheck, [.tmp 50], (some 51), none⟩, false, false, 0, 0⟩,
 ⟨⟨(.fieldAddr 0), [.tmp 51], (some 52), none⟩, false, false, 0, 0⟩,
 ⟨⟨.move, [.tmp 0], (some 53), none⟩, false, false, 0, 0⟩,
 ⟨⟨.nilCheck, [.tmp 53], (some 54), none⟩, false, false, 0, 0⟩,
 ⟨⟨(.fieldAddr 0), [.tmp 54], (some 55), none⟩, false, false, 0, 0⟩,
 ⟨⟨(.fieldAddr 7), [.tmp 55], (some 56), none⟩, false, false, 0, 0⟩,
 ⟨⟨(.load false 1), [.tmp 56], (some 57), none⟩, false, false, 0, 0⟩,
 ⟨⟨(.slice 1 true false false), [.tmp 57, .const (.int .i64 1)], (some 58), none⟩, false, false, 0, 0⟩,
 ⟨⟨(.build [(.int .i64 0), (.int .u64 0), (.slice none 0 0 false)] [(0, 1), (2, 1)]), [.const (.int .i64 4), .tmp 58], (some 59), none⟩, false, false, 0, 0⟩,
 ⟨⟨(.callF 287), [.tmp 52, .tmp 59], (some 60), none⟩, true, false, 0, 1⟩]))), []⟩
theorem c333_ok : compFunc Tryz.prog Tryz.f333 = some c333 := by kernel_rfl
theorem c333_body : hasBody Tryz.prog 333 = true := hasBody_of Tryz.func333 (by kernel_rfl)
/-- (coachyard/local.none).All -/
def c334 : PFn := ⟨8, Tr.ofList (List.replicate 8 undefA), (.seq (.seqR [⟨.box, [.tmp 0], (some 2), none⟩,
 ⟨.move, [.const (.slice none 0 0 false)], (some 4), none⟩,
 ⟨.move, [.const (.int .i64 0)], (some 5), none⟩])
 (.seq (.seq (.seqR [⟨.move, [.tmp 1], (some 6), none⟩,
 ⟨(.eqPtr false), [.tmp 6, .const (.ptr none)], (some 7), none⟩])
 (.cond (.tmp 7) (.seq (.seqR [⟨.move, [.const (.slice none 0 0 false)], (some 4), none⟩,
 ⟨.move, [.const (.int .i64 1)], (some 5), none⟩])
 .ret)
 .skip))
 (.seq (.seqR [⟨.move, [.const (.slice none 0 0 false)], (some 4), none⟩,
 ⟨.move, [.const (.int .i64 2)], (some 5), none⟩])
 .ret))), [.tmp 4, .tmp 5]⟩
theorem c334_ok : compFunc Tryz.prog Tryz.f334 = some c334 := by kernel_rfl
theorem c334_body : hasBody Tryz.prog 334 = true := hasBody_of Tryz.func334 (by kernel_rfl)
/-- (coachyard/local.none).Pop -/
def c335 : PFn := ⟨4, Tr.ofList (List.replicate 4 undefA), (.seq (.seqR [⟨.box, [.tmp 0], (some 1), none⟩,
 ⟨.move, [.const (.ptr none)], (some 2), none⟩])
 (.seq (.seqR [⟨(.callF 172), [], (some 3), none⟩,
 ⟨.move, [.tmp 3], (some 2), none⟩])
 .ret)), [.tmp 2]⟩
theorem c335_ok : compFunc Tryz.prog Tryz.f335 = some c335 := by kernel_rfl
theorem c335_body : hasBody Tryz.prog 335 = true := hasBody_of Tryz.func335 (by kernel_rfl)
/-- (coachyard/local.none).Push -/
def c336 : PFn := ⟨6, Tr.ofList (List.replicate 6 undefA), (.seq (.seqR [⟨.box, [.tmp 0], (some 2), none⟩,
 ⟨.move, [.const (.ptr none)], (some 4), none⟩])
 (.seq (.seqR [⟨(.callF 172), [], (some 5), none⟩,
 ⟨.move, [.tmp 5], (some 4), none⟩])
 .ret)), [.tmp 4]⟩
theorem c336_ok : compFunc Tryz.prog Tryz.f336 = some c336 := by kernel_rfl
theorem c336_body : hasBody Tryz.prog 336 = true := hasBody_of Tryz.func336 (by kernel_rfl)
/-- (coachyard/local.none).Right -/
def c337 : PFn := ⟨3, Tr.ofList (List.replicate 3 undefA), (.seq (.seqR [⟨.box, [.tmp 0], (some 1), none⟩,
 ⟨.move, [.const (.bool false)], (some 2), none⟩])
 (.seq (.seqR [⟨.move, [.const (.bool false)], (some 2), none⟩])
 .ret)), [.tmp 2]⟩
theorem c337_ok : compFunc Tryz.prog Tryz.f337 = some c337 := by kernel_rfl
theorem c337_body : hasBody Tryz.prog 337 = true := hasBody_of Tryz.func337 (by kernel_rfl)
end Go.Proofs.YtfpamakhkkdikaaGreatDoor
