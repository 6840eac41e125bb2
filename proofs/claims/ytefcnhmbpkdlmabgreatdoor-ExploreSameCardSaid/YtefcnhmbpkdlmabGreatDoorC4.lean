/- The code of the small machine for some of the program's functions: printed by program; each is what the rules make of the program's own. -/
import Derived.Test.YtefcnhmbpkdlmabGreatDoorVx16
import Derived.Test.YtefcnhmbpkdlmabGreatDoorProg
import Derived.KernelRfl
namespace Go.Proofs.YtefcnhmbpkdlmabGreatDoor
open Go Go.Vx Go.Proofs
/-- (coachyard/deque.Row).top -/
def c276 : PFn := ⟨11, Tr.ofList (List.replicate 11 undefA), (.seq (.seqR [⟨.box, [.tmp 0], (some 2), none⟩,
 ⟨(.new [(.int .i64 0), (.int .i64 0), (.int .u64 0), (.int .u64 0)]), [], (some 4), none⟩])
 (.seq (.seqR [⟨(.fieldAddr 0), [.tmp 2], (some 5), none⟩,
 ⟨(.load false 1), [.tmp 5], (some 6), none⟩,
 ⟨.move, [.tmp 1], (some 7), none⟩,
 ⟨.move, [.tmp 1], (some 8), none⟩,
 ⟨(.bin .add), [.tmp 8, .const (.int .u64 1)], (some 9), none⟩,
 ⟨(.build [(.int .i64 0), (.int .i64 0), (.int .u64 0), (.int .u64 0)] [(0, 1), (1, 1), (2, 1), (3, 1)]), [.const (.int .i64 3), .tmp 6, .tmp 7, .tmp 9], (some 10), none⟩,
 ⟨(.store 4), [.tmp 4, .tmp 10], none, none⟩])
 .ret)), [.cell 4 true 4]⟩
theorem c276_ok : compFunc Tryz.prog Tryz.f276 = some c276 := by kernel_rfl
theorem c276_body : hasBody Tryz.prog 276 = true := hasBody_of Tryz.func276 (by kernel_rfl)
/-- (*coachyard/deque.steal).tried -/
def c277 : PFn := ⟨23, Tr.ofList (List.replicate 23 undefA), (.seq (.seq (.seqR [⟨.move, [.tmp 2], (some 6), none⟩,
 ⟨.not, [.tmp 6], (some 7), none⟩])
 (.cond (.tmp 7) (.seq (.seqR [⟨.move, [.tmp 0], (some 8), none⟩,
 ⟨.nilCheck, [.tmp 8], (some 9), none⟩,
 ⟨(.fieldAddr 2), [.tmp 9], (some 10), none⟩,
 ⟨(.load false 1), [.tmp 10], (some 11), none⟩,
 ⟨(.callF 62), [.tmp 11, .const (.int .i64 6)], (some 12), none⟩])
 .ret)
 .skip))
 (.drawR [⟨⟨.move, [.tmp 0], (some 13), none⟩, false, false, 0, 0⟩,
 ⟨⟨.nilCheck, [.tmp 13], (some 14), none⟩, false, false, 0, 0⟩,
 ⟨⟨(.fieldAddr 2), [.tmp 14], (some 15), none⟩, false, false, 0, 0⟩,
 ⟨⟨(.load false 1), [.tmp 15], (some 16), none⟩, false, false, 0, 0⟩,
 ⟨⟨.move, [.tmp 0], (some 17), none⟩, false, false, 0, 0⟩,
 ⟨⟨.nilCheck, [.tmp 17], (some 18), none⟩, false, false, 0, 0⟩,
 ⟨⟨(.fieldAddr 4), [.tmp 18], (some 19), none⟩, false, false, 0, 0⟩,
 ⟨⟨(.load false 1), [.tmp 19], (some 20), none⟩, false, false, 0, 0⟩,
 ⟨⟨(.build [(.int .i64 0), (.int .u64 0), (.slice none 0 0 false)] [(1, 1)]), [.tmp 20], (some 21), none⟩, false, false, 0, 0⟩,
 ⟨⟨(.callF 99), [.tmp 16, .tmp 21], (some 22), none⟩, true, false, 0, 1⟩])), []⟩
theorem c277_ok : compFunc Tryz.prog Tryz.f277 = some c277 := by kernel_rfl
theorem c277_body : hasBody Tryz.prog 277 = true := hasBody_of Tryz.func277 (by kernel_rfl)
/-- (*coachyard/ring.way).know -/
def c278 : PFn := ⟨19, Tr.ofList (List.replicate 19 undefA), (.seq (.seqR [⟨.move, [.tmp 0], (some 4), none⟩,
 ⟨.move, [.tmp 1], (some 5), none⟩,
 ⟨.nilCheck, [.tmp 4], (some 6), none⟩,
 ⟨(.fieldAddr 3), [.tmp 6], (some 7), none⟩,
 ⟨(.store 1), [.tmp 7, .tmp 5], none, none⟩])
 (.seqR [⟨.move, [.tmp 0], (some 9), none⟩,
 ⟨.move, [.tmp 0], (some 10), none⟩,
 ⟨.move, [.tmp 1], (some 11), none⟩,
 ⟨(.callF 146), [.tmp 11], (some 12), none⟩,
 ⟨.move, [.tmp 12], (some 8), none⟩,
 ⟨(.extract 0), [.tmp 8], (some 13), none⟩,
 ⟨(.extract 1), [.tmp 8], (some 14), none⟩,
 ⟨.nilCheck, [.tmp 9], (some 15), none⟩,
 ⟨(.fieldAddr 4), [.tmp 15], (some 16), none⟩,
 ⟨(.store 1), [.tmp 16, .tmp 13], none, none⟩,
 ⟨.nilCheck, [.tmp 10], (some 17), none⟩,
 ⟨(.fieldAddr 5), [.tmp 17], (some 18), none⟩,
 ⟨(.store 1), [.tmp 18, .tmp 14], none, none⟩])), []⟩
theorem c278_ok : compFunc Tryz.prog Tryz.f278 = some c278 := by kernel_rfl
theorem c278_body : hasBody Tryz.prog 278 = true := hasBody_of Tryz.func278 (by kernel_rfl)
/-- (*coachyard/ring.steal).atTail -/
def c279 : PFn := ⟨107, Tr.ofList (List.replicate 107 undefA), (.seq (.drawR [⟨⟨.move, [.tmp 1], (some 7), none⟩, false, false, 0, 0⟩,
 ⟨⟨(.callF 266), [.tmp 7], (some 8), none⟩, true, false, 0, 1⟩,
 ⟨⟨.move, [.tmp 0], (some 9), none⟩, false, false, 0, 1⟩,
 ⟨⟨.nilCheck, [.tmp 9], (some 10), none⟩, false, false, 0, 1⟩,
 ⟨⟨(.fieldAddr 0), [.tmp 10], (some 11), none⟩, false, false, 0, 1⟩,
 ⟨⟨(.fieldAddr 5), [.tmp 11], (some 12), none⟩, false, false, 0, 1⟩,
 ⟨⟨(.load false 1), [.tmp 12], (some 13), none⟩, false, false, 0, 1⟩,
 ⟨⟨(.callF 217), [.tmp 8, .tmp 13], (some 14), none⟩, true, false, 1, 2⟩,
 ⟨⟨.move, [.tmp 14], (some 6), none⟩, false, false, 2, 2⟩])
 (.block 0 (.seq (.drawR [⟨⟨.move, [.tmp 0], (some 58), none⟩, false, false, 0, 0⟩,
 ⟨⟨.nilCheck, [.tmp 58], (some 59), none⟩, false, false, 0, 0⟩,
 ⟨⟨(.fieldAddr 0), [.tmp 59], (some 60), none⟩, false, false, 0, 0⟩,
 ⟨⟨(.fieldAddr 4), [.tmp 60], (some 61), none⟩, false, false, 0, 0⟩,
 ⟨⟨(.load false 1), [.tmp 61], (some 62), none⟩, false, false, 0, 0⟩,
 ⟨⟨.move, [.tmp 0], (some 63), none⟩, false, false, 0, 0⟩,
 ⟨⟨.nilCheck, [.tmp 63], (some 64), none⟩, false, false, 0, 0⟩,
 ⟨⟨(.fieldAddr 0), [.tmp 64], (some 65), none⟩, false, false, 0, 0⟩,
 ⟨⟨(.fieldAddr 5), [.tmp 65], (some 66), none⟩, false, false, 0, 0⟩,
 ⟨⟨(.load false 1), [.tmp 66], (some 67), none⟩, false, false, 0, 0⟩,
 ⟨⟨(.bin .neq), [.tmp 62, .tmp 67], (some 68), none⟩, false, false, 0, 0⟩,
 ⟨⟨.move, [.tmp 68], (some 57), none⟩, false, false, 0, 0⟩])
 (.cond (.tmp 57) (.seqR [⟨.move, [.tmp 0], (some 69), none⟩,
 ⟨.nilCheck, [.tmp 69], (some 70), none⟩,
 ⟨(.fieldAddr 0), [.tmp 70], (some 71), none⟩,
 ⟨(.fieldAddr 2), [.tmp 71], (some 72), none⟩,
 ⟨(.load false 1), [.tmp 72], (some 73), none⟩,
 ⟨(.callF 62), [.tmp 73, .const (.int .i64 8)], (some 74), none⟩])
 (.seq (.seqR [⟨.move, [.tmp 6], (some 76), none⟩,
 ⟨.move, [.tmp 0], (some 77), none⟩,
 ⟨.nilCheck, [.tmp 77], (some 78), none⟩,
 ⟨(.fieldAddr 0), [.tmp 78], (some 79), none⟩,
 ⟨(.fieldAddr 0), [.tmp 79], (some 80), none⟩,
 ⟨(.fieldAddr 1), [.tmp 80], (some 81), none⟩,
 ⟨(.load false 1), [.tmp 81], (some 82), none⟩,
 ⟨(.bin .gtr), [.tmp 76, .tmp 82], (some 83), none⟩,
 ⟨.move, [.tmp 83], (some 75), none⟩])
 (.cond (.tmp 75) (.drawR [⟨⟨.move, [.tmp 0], (some 84), none⟩, false, false, 0, 1⟩,
 ⟨⟨.nilCheck, [.tmp 84], (some 85), none⟩, false, false, 0, 1⟩,
 ⟨⟨(.fieldAddr 0), [.tmp 85], (some 86), none⟩, false, false, 0, 1⟩,
 ⟨⟨(.fieldAddr 2), [.tmp 86], (some 87), none⟩, false, false, 0, 1⟩,
 ⟨⟨(.load false 1), [.tmp 87], (some 88), none⟩, false, false, 0, 1⟩,
 ⟨⟨.move, [.tmp 0], (some 89), none⟩, false, false, 0, 0⟩,
 ⟨⟨.nilCheck, [.tmp 89], (some 90), none⟩, false, false, 0, 0⟩,
 ⟨⟨(.fieldAddr 0), [.tmp 90], (some 91), none⟩, false, false, 0, 0⟩,
 ⟨⟨(.fieldAddr 0), [.tmp 91], (some 92), none⟩, false, false, 0, 0⟩,
 ⟨⟨(.load true 2), [.tmp 92], (some 93), none⟩, false, false, 0, 0⟩,
 ⟨⟨(.callF 254), [.tmp 93, .const (.int .i64 0)], (some 94), none⟩, true, false, 0, 1⟩,
 ⟨⟨.move, [.tmp 0], (some 95), none⟩, false, false, 0, 1⟩,
 ⟨⟨(.mkFunc (.func 274) 1), [.tmp 95], (some 96), none⟩, false, false, 0, 1⟩,
 ⟨⟨(.callF 162), [.tmp 88, .tmp 94, .tmp 96], (some 97), none⟩, true, false, 1, 2⟩])
 (.seq (.seqR [⟨.move, [.tmp 6], (some 99), none⟩,
 ⟨(.bin .lss), [.tmp 99, .const (.int .i64 1)], (some 100), none⟩,
 ⟨.move, [.tmp 100], (some 98), none⟩])
 (.cond (.tmp 98) (.seqR [⟨.move, [.tmp 0], (some 101), none⟩,
 ⟨.nilCheck, [.tmp 101], (some 102), none⟩,
 ⟨(.fieldAddr 0), [.tmp 102], (some 103), none⟩,
 ⟨(.fieldAddr 2), [.tmp 103], (some 104), none⟩,
 ⟨(.load false 1), [.tmp 104], (some 105), none⟩,
 ⟨(.callF 62), [.tmp 105, .const (.int .i64 5)], (some 106), none⟩])
 (.seq (.seqR [⟨.move, [.tmp 0], (some 15), none⟩,
 ⟨.move, [.tmp 6], (some 16), none⟩,
 ⟨.move, [.tmp 6], (some 17), none⟩,
 ⟨(.bin .quo), [.tmp 17, .const (.int .i64 2)], (some 18), none⟩,
 ⟨(.bin .sub), [.tmp 16, .tmp 18], (some 19), none⟩,
 ⟨.nilCheck, [.tmp 15], (some 20), none⟩,
 ⟨(.fieldAddr 11), [.tmp 20], (some 21), none⟩,
 ⟨(.store 1), [.tmp 21, .tmp 19], none, none⟩])
 (.drawR [⟨⟨.move, [.tmp 0], (some 22), none⟩, false, false, 0, 1⟩,
 ⟨⟨.nilCheck, [.tmp 22], (some 23), none⟩, false, false, 0, 1⟩,
 ⟨⟨(.fieldAddr 0), [.tmp 23], (some 24), none⟩, false, false, 0, 1⟩,
 ⟨⟨(.fieldAddr 2), [.tmp 24], (some 25), none⟩, false, false, 0, 1⟩,
 ⟨⟨(.load false 1), [.tmp 25], (some 26), none⟩, false, false, 0, 1⟩,
 ⟨⟨.move, [.tmp 0], (some 27), none⟩, false, false, 0, 0⟩,
 ⟨⟨.nilCheck, [.tmp 27], (some 28), none⟩, false, false, 0, 0⟩,
 ⟨⟨(.fieldAddr 0), [.tmp 28], (some 29), none⟩, false, false, 0, 0⟩,
 ⟨⟨(.fieldAddr 0), [.tmp 29], (some 30), none⟩, false, false, 0, 0⟩,
 ⟨⟨(.load true 2), [.tmp 30], (some 31), none⟩, false, false, 0, 0⟩,
 ⟨⟨.move, [.tmp 0], (some 32), none⟩, false, false, 0, 0⟩,
 ⟨⟨.nilCheck, [.tmp 32], (some 33), none⟩, false, false, 0, 0⟩,
 ⟨⟨(.fieldAddr 0), [.tmp 33], (some 34), none⟩, false, false, 0, 0⟩,
 ⟨⟨(.fieldAddr 3), [.tmp 34], (some 35), none⟩, false, false, 0, 0⟩,
 ⟨⟨(.load false 1), [.tmp 35], (some 36), none⟩, false, false, 0, 0⟩,
 ⟨⟨.move, [.tmp 0], (some 37), none⟩, false, false, 0, 0⟩,
 ⟨⟨.nilCheck, [.tmp 37], (some 38), none⟩, false, false, 0, 0⟩,
 ⟨⟨(.fieldAddr 0), [.tmp 38], (some 39), none⟩, false, false, 0, 0⟩,
 ⟨⟨(.fieldAddr 4), [.tmp 39], (some 40), none⟩, false, false, 0, 0⟩,
 ⟨⟨(.load false 1), [.tmp 40], (some 41), none⟩, false, false, 0, 0⟩,
 ⟨⟨.move, [.tmp 0], (some 42), none⟩, false, false, 0, 0⟩,
 ⟨⟨.nilCheck, [.tmp 42], (some 43), none⟩, false, false, 0, 0⟩,
 ⟨⟨(.fieldAddr 0), [.tmp 43], (some 44), none⟩, false, false, 0, 0⟩,
 ⟨⟨(.fieldAddr 5), [.tmp 44], (some 45), none⟩, false, false, 0, 0⟩,
 ⟨⟨(.load false 1), [.tmp 45], (some 46), none⟩, false, false, 0, 0⟩,
 ⟨⟨.move, [.tmp 0], (some 47), none⟩, false, false, 0, 0⟩,
 ⟨⟨.nilCheck, [.tmp 47], (some 48), none⟩, false, false, 0, 0⟩,
 ⟨⟨(.fieldAddr 11), [.tmp 48], (some 49), none⟩, false, false, 0, 0⟩,
 ⟨⟨(.load false 1), [.tmp 49], (some 50), none⟩, false, false, 0, 0⟩,
 ⟨⟨(.conv .u32), [.tmp 50], (some 51), none⟩, false, false, 0, 0⟩,
 ⟨⟨(.bin .add), [.tmp 46, .tmp 51], (some 52), none⟩, false, false, 0, 0⟩,
 ⟨⟨(.callF 280), [.tmp 31, .tmp 36, .tmp 41, .tmp 52], (some 53), none⟩, true, false, 0, 1⟩,
 ⟨⟨.move, [.tmp 0], (some 54), none⟩, false, false, 0, 1⟩,
 ⟨⟨(.mkFunc (.func 281) 1), [.tmp 54], (some 55), none⟩, false, false, 0, 1⟩,
 ⟨⟨(.callF 162), [.tmp 26, .tmp 53, .tmp 55], (some 56), none⟩, true, false, 1, 2⟩])))))))))), []⟩
theorem c279_ok : compFunc Tryz.prog Tryz.f279 = some c279 := by kernel_rfl
theorem c279_body : hasBody Tryz.prog 279 = true := hasBody_of Tryz.func279 (by kernel_rfl)
/-- (coachyard/ring.Row).head -/
def c280 : PFn := ⟨16, Tr.ofList (List.replicate 16 undefA), (.seq (.seqR [⟨.box, [.tmp 0], (some 4), none⟩,
 ⟨(.new [(.int .i64 0), (.int .i64 0), (.int .u64 0), (.int .u64 0)]), [], (some 8), none⟩])
 (.seq (.drawR [⟨⟨(.fieldAddr 0), [.tmp 4], (some 9), none⟩, false, false, 0, 1⟩,
 ⟨⟨(.load false 1), [.tmp 9], (some 10), none⟩, false, false, 0, 1⟩,
 ⟨⟨.move, [.tmp 1], (some 11), none⟩, false, false, 0, 1⟩,
 ⟨⟨.move, [.tmp 2], (some 12), none⟩, false, false, 0, 0⟩,
 ⟨⟨.move, [.tmp 3], (some 13), none⟩, false, false, 0, 0⟩,
 ⟨⟨(.callF 214), [.tmp 12, .tmp 13], (some 14), none⟩, true, false, 0, 1⟩,
 ⟨⟨(.build [(.int .i64 0), (.int .i64 0), (.int .u64 0), (.int .u64 0)] [(0, 1), (1, 1), (2, 1), (3, 1)]), [.const (.int .i64 3), .tmp 10, .tmp 11, .tmp 14], (some 15), none⟩, false, false, 1, 1⟩,
 ⟨⟨(.store 4), [.tmp 8, .tmp 15], none, none⟩, true, false, 1, 2⟩])
 .ret)), [.cell 8 true 4]⟩
theorem c280_ok : compFunc Tryz.prog Tryz.f280 = some c280 := by kernel_rfl
theorem c280_body : hasBody Tryz.prog 280 = true := hasBody_of Tryz.func280 (by kernel_rfl)
/-- (*coachyard/ring.steal).claimed -/
def c281 : PFn := ⟨30, Tr.ofList (List.replicate 30 undefA), (.seq (.seq (.seqR [⟨.move, [.tmp 2], (some 6), none⟩,
 ⟨.not, [.tmp 6], (some 7), none⟩])
 (.cond (.tmp 7) (.seq (.seqR [⟨.move, [.tmp 0], (some 8), none⟩,
 ⟨.move, [.tmp 1], (some 9), none⟩,
 ⟨(.callF 274), [.tmp 8, .tmp 9, .const (.bool true)], (some 10), none⟩])
 .ret)
 .skip))
 (.drawR [⟨⟨.move, [.tmp 0], (some 11), none⟩, false, false, 0, 1⟩,
 ⟨⟨.nilCheck, [.tmp 11], (some 12), none⟩, false, false, 0, 1⟩,
 ⟨⟨(.fieldAddr 0), [.tmp 12], (some 13), none⟩, false, false, 0, 1⟩,
 ⟨⟨(.fieldAddr 2), [.tmp 13], (some 14), none⟩, false, false, 0, 1⟩,
 ⟨⟨(.load false 1), [.tmp 14], (some 15), none⟩, false, false, 0, 1⟩,
 ⟨⟨.move, [.tmp 0], (some 16), none⟩, false, false, 0, 0⟩,
 ⟨⟨.nilCheck, [.tmp 16], (some 17), none⟩, false, false, 0, 0⟩,
 ⟨⟨(.fieldAddr 0), [.tmp 17], (some 18), none⟩, false, false, 0, 0⟩,
 ⟨⟨(.fieldAddr 0), [.tmp 18], (some 19), none⟩, false, false, 0, 0⟩,
 ⟨⟨(.load true 2), [.tmp 19], (some 20), none⟩, false, false, 0, 0⟩,
 ⟨⟨.move, [.tmp 0], (some 21), none⟩, false, false, 0, 0⟩,
 ⟨⟨.nilCheck, [.tmp 21], (some 22), none⟩, false, false, 0, 0⟩,
 ⟨⟨(.fieldAddr 0), [.tmp 22], (some 23), none⟩, false, false, 0, 0⟩,
 ⟨⟨(.fieldAddr 5), [.tmp 23], (some 24), none⟩, false, false, 0, 0⟩,
 ⟨⟨(.load false 1), [.tmp 24], (some 25), none⟩, false, false, 0, 0⟩,
 ⟨⟨(.callF 282), [.tmp 20, .tmp 25], (some 26), none⟩, true, false, 0, 1⟩,
 ⟨⟨.move, [.tmp 0], (some 27), none⟩, false, false, 0, 1⟩,
 ⟨⟨(.mkFunc (.func 283) 1), [.tmp 27], (some 28), none⟩, false, false, 0, 1⟩,
 ⟨⟨(.callF 162), [.tmp 15, .tmp 26, .tmp 28], (some 29), none⟩, true, false, 1, 2⟩])), []⟩
theorem c281_ok : compFunc Tryz.prog Tryz.f281 = some c281 := by kernel_rfl
theorem c281_body : hasBody Tryz.prog 281 = true := hasBody_of Tryz.func281 (by kernel_rfl)
/-- (coachyard/ring.Row).read -/
def c282 : PFn := ⟨9, Tr.ofList (List.replicate 9 undefA), (.seq (.seqR [⟨.box, [.tmp 0], (some 2), none⟩,
 ⟨(.new [(.int .i64 0), (.int .i64 0), (.int .u64 0), (.int .u64 0)]), [], (some 4), none⟩])
 (.seq (.seqR [⟨(.load true 2), [.tmp 2], (some 5), none⟩,
 ⟨.move, [.tmp 1], (some 6), none⟩,
 ⟨(.callF 284), [.tmp 5, .tmp 6], (some 7), none⟩,
 ⟨(.build [(.int .i64 0), (.int .i64 0), (.int .u64 0), (.int .u64 0)] [(0, 1), (1, 1)]), [.const (.int .i64 1), .tmp 7], (some 8), none⟩,
 ⟨(.store 4), [.tmp 4, .tmp 8], none, none⟩])
 .ret)), [.cell 4 true 4]⟩
theorem c282_ok : compFunc Tryz.prog Tryz.f282 = some c282 := by kernel_rfl
theorem c282_body : hasBody Tryz.prog 282 = true := hasBody_of Tryz.func282 (by kernel_rfl)
/-- (*coachyard/ring.steal).got -/
def c283 : PFn := ⟨61, Tr.ofList (List.replicate 61 undefA), (.seq (.seqR [⟨.move, [.tmp 0], (some 7), none⟩,
 ⟨.nilCheck, [.tmp 7], (some 8), none⟩,
 ⟨(.fieldAddr 0), [.tmp 8], (some 9), none⟩,
 ⟨.move, [.tmp 1], (some 10), none⟩,
 ⟨(.callF 285), [.tmp 9, .tmp 10], (some 11), none⟩])
 (.seq (.seq (.seqR [⟨.move, [.tmp 0], (some 12), none⟩,
 ⟨.nilCheck, [.tmp 12], (some 13), none⟩,
 ⟨(.fieldAddr 0), [.tmp 13], (some 14), none⟩,
 ⟨(.fieldAddr 7), [.tmp 14], (some 15), none⟩,
 ⟨(.load false 1), [.tmp 15], (some 16), none⟩,
 ⟨.lenS, [.tmp 16], (some 17), none⟩,
 ⟨.move, [.tmp 17], (some 6), none⟩])
 (.seq (.seqR [⟨.move, [.tmp 6], (some 18), none⟩,
 ⟨.move, [.tmp 0], (some 19), none⟩,
 ⟨.nilCheck, [.tmp 19], (some 20), none⟩,
 ⟨(.fieldAddr 11), [.tmp 20], (some 21), none⟩,
 ⟨(.load false 1), [.tmp 21], (some 22), none⟩,
 ⟨(.bin .lss), [.tmp 18, .tmp 22], (some 23), none⟩])
 (.cond (.tmp 23) (.seq (.drawR [⟨⟨.move, [.tmp 0], (some 24), none⟩, false, false, 0, 1⟩,
 ⟨⟨.nilCheck, [.tmp 24], (some 25), none⟩, false, false, 0, 1⟩,
 ⟨⟨(.fieldAddr 0), [.tmp 25], (some 26), none⟩, false, false, 0, 1⟩,
 ⟨⟨(.fieldAddr 2), [.tmp 26], (some 27), none⟩, false, false, 0, 1⟩,
 ⟨⟨(.load false 1), [.tmp 27], (some 28), none⟩, false, false, 0, 1⟩,
 ⟨⟨.move, [.tmp 0], (some 29), none⟩, false, false, 0, 0⟩,
 ⟨⟨.nilCheck, [.tmp 29], (some 30), none⟩, false, false, 0, 0⟩,
 ⟨⟨(.fieldAddr 8), [.tmp 30], (some 31), none⟩, false, false, 0, 0⟩,
 ⟨⟨(.load true 2), [.tmp 31], (some 32), none⟩, false, false, 0, 0⟩,
 ⟨⟨.move, [.tmp 0], (some 33), none⟩, false, false, 0, 0⟩,
 ⟨⟨.nilCheck, [.tmp 33], (some 34), none⟩, false, false, 0, 0⟩,
 ⟨⟨(.fieldAddr 10), [.tmp 34], (some 35), none⟩, false, false, 0, 0⟩,
 ⟨⟨(.load false 1), [.tmp 35], (some 36), none⟩, false, false, 0, 0⟩,
 ⟨⟨.move, [.tmp 6], (some 37), none⟩, false, false, 0, 0⟩,
 ⟨⟨(.conv .u32), [.tmp 37], (some 38), none⟩, false, false, 0, 0⟩,
 ⟨⟨(.bin .add), [.tmp 36, .tmp 38], (some 39), none⟩, false, false, 0, 0⟩,
 ⟨⟨(.bin .sub), [.tmp 39, .const (.int .u32 1)], (some 40), none⟩, false, false, 0, 0⟩,
 ⟨⟨(.callF 284), [.tmp 32, .tmp 40], (some 41), none⟩, true, false, 0, 1⟩,
 ⟨⟨.move, [.tmp 1], (some 42), none⟩, false, false, 0, 1⟩,
 ⟨⟨(.build [(.int .i64 0), (.int .i64 0), (.int .u64 0), (.int .u64 0)] [(0, 1), (1, 1), (2, 1)]), [.const (.int .i64 2), .tmp 41, .tmp 42], (some 43), none⟩, false, false, 1, 1⟩,
 ⟨⟨.move, [.tmp 0], (some 44), none⟩, false, false, 0, 1⟩,
 ⟨⟨(.mkFunc (.func 286) 1), [.tmp 44], (some 45), none⟩, false, false, 0, 1⟩,
 ⟨⟨(.callF 162), [.tmp 28, .tmp 43, .tmp 45], (some 46), none⟩, true, false, 1, 2⟩])
 .ret)
 .skip)))
 (.drawR [⟨⟨.move, [.tmp 0], (some 47), none⟩, false, false, 0, 1⟩,
 ⟨⟨.nilCheck, [.tmp 47], (some 48), none⟩, false, false, 0, 1⟩,
 ⟨⟨(.fieldAddr 0), [.tmp 48], (some 49), none⟩, false, false, 0, 1⟩,
 ⟨⟨(.fieldAddr 2), [.tmp 49], (some 50), none⟩, false, false, 0, 1⟩,
 ⟨⟨(.load false 1), [.tmp 50], (some 51), none⟩, false, false, 0, 1⟩,
 ⟨⟨.move, [.tmp 0], (some 52), none⟩, false, false, 0, 0⟩,
 ⟨⟨.nilCheck, [.tmp 52], (some 53), none⟩, false, false, 0, 0⟩,
 ⟨⟨(.fieldAddr 0), [.tmp 53], (some 54), none⟩, false, false, 0, 0⟩,
 ⟨⟨(.fieldAddr 0), [.tmp 54], (some 55), none⟩, false, false, 0, 0⟩,
 ⟨⟨(.load true 2), [.tmp 55], (some 56), none⟩, false, false, 0, 0⟩,
 ⟨⟨(.callF 254), [.tmp 56, .const (.int .i64 0)], (some 57), none⟩, true, false, 0, 1⟩,
 ⟨⟨.move, [.tmp 0], (some 58), none⟩, false, false, 0, 1⟩,
 ⟨⟨(.mkFunc (.func 287) 1), [.tmp 58], (some 59), none⟩, false, false, 0, 1⟩,
 ⟨⟨(.callF 162), [.tmp 51, .tmp 57, .tmp 59], (some 60), none⟩, true, false, 1, 2⟩]))), []⟩
theorem c283_ok : compFunc Tryz.prog Tryz.f283 = some c283 := by kernel_rfl
theorem c283_body : hasBody Tryz.prog 283 = true := hasBody_of Tryz.func283 (by kernel_rfl)
/-- (coachyard/ring.Row).slot -/
def c284 : PFn := ⟨16, Tr.ofList (List.replicate 16 undefA), (.seq (.seqR [⟨.box, [.tmp 0], (some 2), none⟩,
 ⟨.move, [.const (.int .i64 0)], (some 4), none⟩])
 (.seq (.seqR [⟨(.fieldAddr 0), [.tmp 2], (some 5), none⟩,
 ⟨(.load false 1), [.tmp 5], (some 6), none⟩,
 ⟨(.bin .add), [.tmp 6, .const (.int .i64 2)], (some 7), none⟩,
 ⟨.move, [.tmp 1], (some 8), none⟩,
 ⟨(.fieldAddr 1), [.tmp 2], (some 9), none⟩,
 ⟨(.load false 1), [.tmp 9], (some 10), none⟩,
 ⟨(.bin .sub), [.tmp 10, .const (.int .i64 1)], (some 11), none⟩,
 ⟨(.conv .u32), [.tmp 11], (some 12), none⟩,
 ⟨(.bin .and), [.tmp 8, .tmp 12], (some 13), none⟩,
 ⟨(.conv .i64), [.tmp 13], (some 14), none⟩,
 ⟨(.bin .add), [.tmp 7, .tmp 14], (some 15), none⟩,
 ⟨.move, [.tmp 15], (some 4), none⟩])
 .ret)), [.tmp 4]⟩
theorem c284_ok : compFunc Tryz.prog Tryz.f284 = some c284 := by kernel_rfl
theorem c284_body : hasBody Tryz.prog 284 = true := hasBody_of Tryz.func284 (by kernel_rfl)
/-- (*coachyard/ring.way).take -/
def c285 : PFn := ⟨23, Tr.ofList (List.replicate 23 undefA), (.seq (.seqR [⟨.move, [.tmp 0], (some 4), none⟩,
 ⟨.move, [.tmp 0], (some 5), none⟩,
 ⟨.nilCheck, [.tmp 5], (some 6), none⟩,
 ⟨(.fieldAddr 7), [.tmp 6], (some 7), none⟩,
 ⟨(.load false 1), [.tmp 7], (some 8), none⟩,
 ⟨.move, [.tmp 1], (some 9), none⟩,
 ⟨(.sliceLit 1 [(.int .u64 0)] [(0, 1)]), [.tmp 9], (some 10), none⟩,
 ⟨(.append 1 8), [.tmp 8, .tmp 10], (some 11), none⟩,
 ⟨.nilCheck, [.tmp 4], (some 12), none⟩,
 ⟨(.fieldAddr 7), [.tmp 12], (some 13), none⟩,
 ⟨(.store 1), [.tmp 13, .tmp 11], none, none⟩])
 (.drawR [⟨⟨.move, [.tmp 0], (some 14), none⟩, false, false, 0, 0⟩,
 ⟨⟨.nilCheck, [.tmp 14], (some 15), none⟩, false, false, 0, 0⟩,
 ⟨⟨(.fieldAddr 2), [.tmp 15], (some 16), none⟩, false, false, 0, 0⟩,
 ⟨⟨(.load false 1), [.tmp 16], (some 17), none⟩, false, false, 0, 0⟩,
 ⟨⟨.move, [.tmp 0], (some 18), none⟩, false, false, 0, 0⟩,
 ⟨⟨.nilCheck, [.tmp 18], (some 19), none⟩, false, false, 0, 0⟩,
 ⟨⟨(.fieldAddr 7), [.tmp 19], (some 20), none⟩, false, false, 0, 0⟩,
 ⟨⟨(.load false 1), [.tmp 20], (some 21), none⟩, false, false, 0, 0⟩,
 ⟨⟨(.callF 153), [.tmp 17, .tmp 21], (some 22), none⟩, true, false, 0, 1⟩])), []⟩
theorem c285_ok : compFunc Tryz.prog Tryz.f285 = some c285 := by kernel_rfl
theorem c285_body : hasBody Tryz.prog 285 = true := hasBody_of Tryz.func285 (by kernel_rfl)
/-- (*coachyard/ring.steal).laid -/
def c286 : PFn := ⟨33, Tr.ofList (List.replicate 33 undefA), (.drawR [⟨⟨.move, [.tmp 0], (some 6), none⟩, false, false, 0, 1⟩,
 ⟨⟨.nilCheck, [.tmp 6], (some 7), none⟩, false, false, 0, 1⟩,
 ⟨⟨(.fieldAddr 0), [.tmp 7], (some 8), none⟩, false, false, 0, 1⟩,
 ⟨⟨(.fieldAddr 2), [.tmp 8], (some 9), none⟩, false, false, 0, 1⟩,
 ⟨⟨(.load false 1), [.tmp 9], (some 10), none⟩, false, false, 0, 1⟩,
 ⟨⟨.move, [.tmp 0], (some 11), none⟩, false, false, 0, 0⟩,
 ⟨⟨.nilCheck, [.tmp 11], (some 12), none⟩, false, false, 0, 0⟩,
 ⟨⟨(.fieldAddr 0), [.tmp 12], (some 13), none⟩, false, false, 0, 0⟩,
 ⟨⟨(.fieldAddr 0), [.tmp 13], (some 14), none⟩, false, false, 0, 0⟩,
 ⟨⟨(.load true 2), [.tmp 14], (some 15), none⟩, false, false, 0, 0⟩,
 ⟨⟨.move, [.tmp 0], (some 16), none⟩, false, false, 0, 0⟩,
 ⟨⟨.nilCheck, [.tmp 16], (some 17), none⟩, false, false, 0, 0⟩,
 ⟨⟨(.fieldAddr 0), [.tmp 17], (some 18), none⟩, false, false, 0, 0⟩,
 ⟨⟨(.fieldAddr 5), [.tmp 18], (some 19), none⟩, false, false, 0, 0⟩,
 ⟨⟨(.load false 1), [.tmp 19], (some 20), none⟩, false, false, 0, 0⟩,
 ⟨⟨.move, [.tmp 0], (some 21), none⟩, false, false, 0, 0⟩,
 ⟨⟨.nilCheck, [.tmp 21], (some 22), none⟩, false, false, 0, 0⟩,
 ⟨⟨(.fieldAddr 0), [.tmp 22], (some 23), none⟩, false, false, 0, 0⟩,
 ⟨⟨(.fieldAddr 7), [.tmp 23], (some 24), none⟩, false, false, 0, 0⟩,
 ⟨⟨(.load false 1), [.tmp 24], (some 25), none⟩, false, false, 0, 0⟩,
 ⟨⟨.lenS, [.tmp 25], (some 26), none⟩, false, false, 0, 0⟩,
 ⟨⟨(.conv .u32), [.tmp 26], (some 27), none⟩, false, false, 0, 0⟩,
 ⟨⟨(.bin .add), [.tmp 20, .tmp 27], (some 28), none⟩, false, false, 0, 0⟩,
 ⟨⟨(.callF 282), [.tmp 15, .tmp 28], (some 29), none⟩, true, false, 0, 1⟩,
 ⟨⟨.move, [.tmp 0], (some 30), none⟩, false, false, 0, 1⟩,
 ⟨⟨(.mkFunc (.func 283) 1), [.tmp 30], (some 31), none⟩, false, false, 0, 1⟩,
 ⟨⟨(.callF 162), [.tmp 10, .tmp 29, .tmp 31], (some 32), none⟩, true, false, 1, 2⟩]), []⟩
theorem c286_ok : compFunc Tryz.prog Tryz.f286 = some c286 := by kernel_rfl
theorem c286_body : hasBody Tryz.prog 286 = true := hasBody_of Tryz.func286 (by kernel_rfl)
/-- (*coachyard/ring.steal).free -/
def c287 : PFn := ⟨25, Tr.ofList (List.replicate 25 undefA), (.drawR [⟨⟨.move, [.tmp 0], (some 6), none⟩, false, false, 0, 3⟩,
 ⟨⟨.nilCheck, [.tmp 6], (some 7), none⟩, false, false, 0, 3⟩,
 ⟨⟨(.fieldAddr 0), [.tmp 7], (some 8), none⟩, false, false, 0, 3⟩,
 ⟨⟨(.fieldAddr 2), [.tmp 8], (some 9), none⟩, false, false, 0, 3⟩,
 ⟨⟨(.load false 1), [.tmp 9], (some 10), none⟩, false, false, 0, 3⟩,
 ⟨⟨.move, [.tmp 0], (some 11), none⟩, false, false, 0, 2⟩,
 ⟨⟨.nilCheck, [.tmp 11], (some 12), none⟩, false, false, 0, 2⟩,
 ⟨⟨(.fieldAddr 0), [.tmp 12], (some 13), none⟩, false, false, 0, 2⟩,
 ⟨⟨(.fieldAddr 0), [.tmp 13], (some 14), none⟩, false, false, 0, 2⟩,
 ⟨⟨(.load true 2), [.tmp 14], (some 15), none⟩, false, false, 0, 2⟩,
 ⟨⟨.move, [.tmp 1], (some 16), none⟩, false, false, 0, 2⟩,
 ⟨⟨.move, [.tmp 1], (some 17), none⟩, false, false, 0, 0⟩,
 ⟨⟨(.callF 266), [.tmp 17], (some 18), none⟩, true, false, 0, 1⟩,
 ⟨⟨.move, [.tmp 1], (some 19), none⟩, false, false, 0, 1⟩,
 ⟨⟨(.callF 266), [.tmp 19], (some 20), none⟩, true, false, 1, 2⟩,
 ⟨⟨(.callF 280), [.tmp 15, .tmp 16, .tmp 18, .tmp 20], (some 21), none⟩, true, false, 2, 3⟩,
 ⟨⟨.move, [.tmp 0], (some 22), none⟩, false, false, 0, 3⟩,
 ⟨⟨(.mkFunc (.func 288) 1), [.tmp 22], (some 23), none⟩, false, false, 0, 3⟩,
 ⟨⟨(.callF 162), [.tmp 10, .tmp 21, .tmp 23], (some 24), none⟩, true, false, 3, 4⟩]), []⟩
theorem c287_ok : compFunc Tryz.prog Tryz.f287 = some c287 := by kernel_rfl
theorem c287_body : hasBody Tryz.prog 287 = true := hasBody_of Tryz.func287 (by kernel_rfl)
/-- (*coachyard/ring.steal).freed -/
def c288 : PFn := ⟨44, Tr.ofList (List.replicate 44 undefA), (.block 0 (.seq (.seqR [⟨.move, [.tmp 2], (some 9), none⟩,
 ⟨.not, [.tmp 9], (some 10), none⟩,
 ⟨.move, [.tmp 10], (some 8), none⟩])
 (.cond (.tmp 8) (.seqR [⟨.move, [.tmp 0], (some 11), none⟩,
 ⟨.move, [.tmp 1], (some 12), none⟩,
 ⟨(.callF 287), [.tmp 11, .tmp 12, .const (.bool true)], (some 13), none⟩])
 (.seq (.seqR [⟨.move, [.tmp 0], (some 15), none⟩,
 ⟨.nilCheck, [.tmp 15], (some 16), none⟩,
 ⟨(.fieldAddr 11), [.tmp 16], (some 17), none⟩,
 ⟨(.load false 1), [.tmp 17], (some 18), none⟩,
 ⟨(.bin .gtr), [.tmp 18, .const (.int .i64 1)], (some 19), none⟩,
 ⟨.move, [.tmp 19], (some 14), none⟩])
 (.cond (.tmp 14) (.drawR [⟨⟨.move, [.tmp 0], (some 20), none⟩, false, false, 0, 1⟩,
 ⟨⟨.nilCheck, [.tmp 20], (some 21), none⟩, false, false, 0, 1⟩,
 ⟨⟨(.fieldAddr 0), [.tmp 21], (some 22), none⟩, false, false, 0, 1⟩,
 ⟨⟨(.fieldAddr 2), [.tmp 22], (some 23), none⟩, false, false, 0, 1⟩,
 ⟨⟨(.load false 1), [.tmp 23], (some 24), none⟩, false, false, 0, 1⟩,
 ⟨⟨.move, [.tmp 0], (some 25), none⟩, false, false, 0, 0⟩,
 ⟨⟨.nilCheck, [.tmp 25], (some 26), none⟩, false, false, 0, 0⟩,
 ⟨⟨(.fieldAddr 8), [.tmp 26], (some 27), none⟩, false, false, 0, 0⟩,
 ⟨⟨(.load true 2), [.tmp 27], (some 28), none⟩, false, false, 0, 0⟩,
 ⟨⟨.move, [.tmp 0], (some 29), none⟩, false, false, 0, 0⟩,
 ⟨⟨.nilCheck, [.tmp 29], (some 30), none⟩, false, false, 0, 0⟩,
 ⟨⟨(.fieldAddr 10), [.tmp 30], (some 31), none⟩, false, false, 0, 0⟩,
 ⟨⟨(.load false 1), [.tmp 31], (some 32), none⟩, false, false, 0, 0⟩,
 ⟨⟨.move, [.tmp 0], (some 33), none⟩, false, false, 0, 0⟩,
 ⟨⟨.nilCheck, [.tmp 33], (some 34), none⟩, false, false, 0, 0⟩,
 ⟨⟨(.fieldAddr 11), [.tmp 34], (some 35), none⟩, false, false, 0, 0⟩,
 ⟨⟨(.load false 1), [.tmp 35], (some 36), none⟩, false, false, 0, 0⟩,
 ⟨⟨(.conv .u32), [.tmp 36], (some 37), none⟩, false, false, 0, 0⟩,
 ⟨⟨(.bin .add), [.tmp 32, .tmp 37], (some 38), none⟩, false, false, 0, 0⟩,
 ⟨⟨(.bin .sub), [.tmp 38, .const (.int .u32 1)], (some 39), none⟩, false, false, 0, 0⟩,
 ⟨⟨(.callF 289), [.tmp 28, .tmp 39], (some 40), none⟩, true, false, 0, 1⟩,
 ⟨⟨.move, [.tmp 0], (some 41), none⟩, false, false, 0, 1⟩,
 ⟨⟨(.mkFunc (.func 290) 1), [.tmp 41], (some 42), none⟩, false, false, 0, 1⟩,
 ⟨⟨(.callF 162), [.tmp 24, .tmp 40, .tmp 42], (some 43), none⟩, true, false, 1, 2⟩])
 (.seqR [⟨.move, [.tmp 0], (some 6), none⟩,
 ⟨(.callF 290), [.tmp 6, .const (.int .u64 0), .const (.bool true)], (some 7), none⟩])))))), []⟩
theorem c288_ok : compFunc Tryz.prog Tryz.f288 = some c288 := by kernel_rfl
theorem c288_body : hasBody Tryz.prog 288 = true := hasBody_of Tryz.func288 (by kernel_rfl)
/-- (coachyard/ring.Row).tail -/
def c289 : PFn := ⟨11, Tr.ofList (List.replicate 11 undefA), (.seq (.seqR [⟨.box, [.tmp 0], (some 2), none⟩,
 ⟨(.new [(.int .i64 0), (.int .i64 0), (.int .u64 0), (.int .u64 0)]), [], (some 4), none⟩])
 (.seq (.seqR [⟨(.fieldAddr 0), [.tmp 2], (some 5), none⟩,
 ⟨(.load false 1), [.tmp 5], (some 6), none⟩,
 ⟨(.bin .add), [.tmp 6, .const (.int .i64 1)], (some 7), none⟩,
 ⟨.move, [.tmp 1], (some 8), none⟩,
 ⟨(.conv .u64), [.tmp 8], (some 9), none⟩,
 ⟨(.build [(.int .i64 0), (.int .i64 0), (.int .u64 0), (.int .u64 0)] [(0, 1), (1, 1), (2, 1)]), [.const (.int .i64 2), .tmp 7, .tmp 9], (some 10), none⟩,
 ⟨(.store 4), [.tmp 4, .tmp 10], none, none⟩])
 .ret)), [.cell 4 true 4]⟩
theorem c289_ok : compFunc Tryz.prog Tryz.f289 = some c289 := by kernel_rfl
theorem c289_body : hasBody Tryz.prog 289 = true := hasBody_of Tryz.func289 (by kernel_rfl)
/-- (*coachyard/ring.steal).done -/
def c290 : PFn := ⟨23, Tr.ofList (List.replicate 23 undefA), (.drawR [⟨⟨.move, [.tmp 0], (some 6), none⟩, false, false, 0, 0⟩,
 ⟨⟨.nilCheck, [.tmp 6], (some 7), none⟩, false, false, 0, 0⟩,
 ⟨⟨(.fieldAddr 0), [.tmp 7], (some 8), none⟩, false, false, 0, 0⟩,
 ⟨⟨.move, [.tmp 0], (some 9), none⟩, false, false, 0, 0⟩,
 ⟨⟨.nilCheck, [.tmp 9], (some 10), none⟩, false, false, 0, 0⟩,
 ⟨⟨(.fieldAddr 0), [.tmp 10], (some 11), none⟩, false, false, 0, 0⟩,
 ⟨⟨(.fieldAddr 7), [.tmp 11], (some 12), none⟩, false, false, 0, 0⟩,
 ⟨⟨(.load false 1), [.tmp 12], (some 13), none⟩, false, false, 0, 0⟩,
 ⟨⟨.move, [.tmp 0], (some 14), none⟩, false, false, 0, 0⟩,
 ⟨⟨.nilCheck, [.tmp 14], (some 15), none⟩, false, false, 0, 0⟩,
 ⟨⟨(.fieldAddr 11), [.tmp 15], (some 16), none⟩, false, false, 0, 0⟩,
 ⟨⟨(.load false 1), [.tmp 16], (some 17), none⟩, false, false, 0, 0⟩,
 ⟨⟨(.bin .sub), [.tmp 17, .const (.int .i64 1)], (some 18), none⟩, false, false, 0, 0⟩,
 ⟨⟨(.indexAddrS 1), [.tmp 13, .tmp 18], (some 19), none⟩, false, false, 0, 0⟩,
 ⟨⟨(.load false 1), [.tmp 19], (some 20), none⟩, false, false, 0, 0⟩,
 ⟨⟨(.build [(.int .i64 0), (.int .u64 0), (.slice none 0 0 false)] [(1, 1)]), [.tmp 20], (some 21), none⟩, false, false, 0, 0⟩,
 ⟨⟨(.callF 291), [.tmp 8, .tmp 21], (some 22), none⟩, true, false, 0, 1⟩]), []⟩
theorem c290_ok : compFunc Tryz.prog Tryz.f290 = some c290 := by kernel_rfl
theorem c290_body : hasBody Tryz.prog 290 = true := hasBody_of Tryz.func290 (by kernel_rfl)
/-- (*coachyard/ring.way).end -/
def c291 : PFn := ⟨15, Tr.ofList (List.replicate 15 undefA), (.seq (.seqR [⟨.box, [.tmp 1], (some 3), none⟩])
 (.seq (.seqR [⟨.move, [.tmp 0], (some 4), none⟩,
 ⟨.nilCheck, [.tmp 4], (some 5), none⟩,
 ⟨(.fieldAddr 2), [.tmp 5], (some 6), none⟩,
 ⟨(.load false 1), [.tmp 6], (some 7), none⟩,
 ⟨(.callF 153), [.tmp 7, .const (.slice none 0 0 false)], (some 8), none⟩])
 (.drawR [⟨⟨.move, [.tmp 0], (some 9), none⟩, false, false, 0, 0⟩,
 ⟨⟨.nilCheck, [.tmp 9], (some 10), none⟩, false, false, 0, 0⟩,
 ⟨⟨(.fieldAddr 2), [.tmp 10], (some 11), none⟩, false, false, 0, 0⟩,
 ⟨⟨(.load false 1), [.tmp 11], (some 12), none⟩, false, false, 0, 0⟩,
 ⟨⟨(.load true 3), [.tmp 3], (some 13), none⟩, false, false, 0, 0⟩,
 ⟨⟨(.callF 99), [.tmp 12, .tmp 13], (some 14), none⟩, true, false, 0, 1⟩]))), []⟩
theorem c291_ok : compFunc Tryz.prog Tryz.f291 = some c291 := by kernel_rfl
theorem c291_body : hasBody Tryz.prog 291 = true := hasBody_of Tryz.func291 (by kernel_rfl)
/-- (coachyard/deque.Row).All -/
def c307 : PFn := ⟨68, Tr.ofList (List.replicate 68 undefA), (.seq (.seqR [⟨.box, [.tmp 0], (some 2), none⟩,
 ⟨.move, [.const (.slice none 0 0 false)], (some 4), none⟩,
 ⟨.move, [.const (.int .i64 0)], (some 5), none⟩])
 (.seq (.block 0 (.seq (.seqR [⟨.move, [.tmp 1], (some 12), none⟩,
 ⟨(.eqPtr false), [.tmp 12, .const (.ptr none)], (some 13), none⟩,
 ⟨.move, [.tmp 13], (some 11), none⟩])
 (.cond (.tmp 11) (.seq (.seqR [⟨.move, [.const (.slice none 0 0 false)], (some 4), none⟩,
 ⟨.move, [.const (.int .i64 1)], (some 5), none⟩])
 .ret)
 (.seq (.seqR [⟨(.load true 2), [.tmp 2], (some 15), none⟩,
 ⟨(.callF 263), [.tmp 15], (some 16), none⟩,
 ⟨.not, [.tmp 16], (some 17), none⟩,
 ⟨.move, [.tmp 17], (some 14), none⟩])
 (.cond (.tmp 14) (.seq (.seqR [⟨.move, [.const (.slice none 0 0 false)], (some 4), none⟩,
 ⟨.move, [.const (.int .i64 2)], (some 5), none⟩])
 .ret)
 (.seq (.drawR [⟨⟨.move, [.tmp 1], (some 19), none⟩, false, false, 0, 0⟩,
 ⟨⟨(.callF 120), [.tmp 19], (some 20), none⟩, true, false, 0, 1⟩,
 ⟨⟨(.fieldAddr 0), [.tmp 2], (some 21), none⟩, false, false, 0, 1⟩,
 ⟨⟨(.load false 1), [.tmp 21], (some 22), none⟩, false, false, 0, 1⟩,
 ⟨⟨(.fieldAddr 1), [.tmp 2], (some 23), none⟩, false, false, 0, 1⟩,
 ⟨⟨(.load false 1), [.tmp 23], (some 24), none⟩, false, false, 0, 1⟩,
 ⟨⟨(.bin .add), [.tmp 22, .tmp 24], (some 25), none⟩, false, false, 0, 1⟩,
 ⟨⟨(.bin .add), [.tmp 25, .const (.int .i64 1)], (some 26), none⟩, false, false, 0, 1⟩,
 ⟨⟨(.bin .leq), [.tmp 20, .tmp 26], (some 27), none⟩, false, false, 1, 1⟩,
 ⟨⟨.move, [.tmp 27], (some 18), none⟩, false, false, 1, 1⟩])
 (.cond (.tmp 18) (.seq (.seqR [⟨.move, [.const (.slice none 0 0 false)], (some 4), none⟩,
 ⟨.move, [.const (.int .i64 3)], (some 5), none⟩])
 .ret)
 .skip)))))))
 (.seq (.seqR [⟨.move, [.tmp 1], (some 28), none⟩,
 ⟨(.callF 106), [.tmp 28], (some 29), none⟩,
 ⟨.move, [.tmp 29], (some 6), none⟩])
 (.seq (.drawR [⟨⟨.move, [.tmp 6], (some 30), none⟩, false, false, 0, 0⟩,
 ⟨⟨(.fieldAddr 0), [.tmp 2], (some 31), none⟩, false, false, 0, 0⟩,
 ⟨⟨(.load false 1), [.tmp 31], (some 32), none⟩, false, false, 0, 0⟩,
 ⟨⟨(.indexAddrS 1), [.tmp 30, .tmp 32], (some 33), none⟩, false, false, 0, 0⟩,
 ⟨⟨(.load false 1), [.tmp 33], (some 34), none⟩, false, false, 0, 0⟩,
 ⟨⟨.move, [.tmp 6], (some 35), none⟩, false, false, 0, 0⟩,
 ⟨⟨(.fieldAddr 0), [.tmp 2], (some 36), none⟩, false, false, 0, 0⟩,
 ⟨⟨(.load false 1), [.tmp 36], (some 37), none⟩, false, false, 0, 0⟩,
 ⟨⟨(.bin .add), [.tmp 37, .const (.int .i64 1)], (some 38), none⟩, false, false, 0, 0⟩,
 ⟨⟨(.indexAddrS 1), [.tmp 35, .tmp 38], (some 39), none⟩, false, false, 0, 0⟩,
 ⟨⟨(.load false 1), [.tmp 39], (some 40), none⟩, false, false, 0, 0⟩,
 ⟨⟨.move, [.tmp 34], (some 7), none⟩, false, false, 0, 0⟩,
 ⟨⟨.move, [.tmp 40], (some 8), none⟩, false, false, 0, 0⟩])
 (.seq (.seqR [⟨.move, [.tmp 8], (some 41), none⟩,
 ⟨.move, [.tmp 7], (some 42), none⟩,
 ⟨(.callF 271), [.tmp 41, .tmp 42], (some 43), none⟩,
 ⟨.move, [.tmp 43], (some 9), none⟩])
 (.seq (.seq (.seqR [⟨.move, [.tmp 9], (some 44), none⟩,
 ⟨(.bin .lss), [.tmp 44, .const (.int .i64 (-1))], (some 45), none⟩,
 ⟨.move, [.tmp 45], (some 46), none⟩,
 ⟨.move, [.tmp 9], (some 47), some (46, false)⟩,
 ⟨(.fieldAddr 1), [.tmp 2], (some 48), some (46, false)⟩,
 ⟨(.load false 1), [.tmp 48], (some 49), some (46, false)⟩,
 ⟨(.bin .gtr), [.tmp 47, .tmp 49], (some 50), some (46, false)⟩,
 ⟨.pick, [.tmp 46, .const (.bool true), .tmp 50], (some 51), none⟩])
 (.cond (.tmp 51) (.seq (.seqR [⟨.move, [.const (.slice none 0 0 false)], (some 4), none⟩,
 ⟨.move, [.const (.int .i64 9)], (some 5), none⟩])
 .ret)
 .skip))
 (.seq (.seqR [⟨.move, [.const (.slice none 0 0 false)], (some 10), none⟩])
 (.seq (.block 1 (.loop (.seq (.seq (.seqR [⟨.move, [.tmp 9], (some 52), none⟩,
 ⟨(.bin .gtr), [.tmp 52, .const (.int .i64 0)], (some 53), none⟩])
 (.cond (.tmp 53) .skip
 (.exit 1)))
 (.seq (.block 2 (.seq (.seqR [⟨.move, [.tmp 10], (some 56), none⟩,
 ⟨.move, [.tmp 6], (some 57), none⟩,
 ⟨(.load true 2), [.tmp 2], (some 58), none⟩,
 ⟨.move, [.tmp 7], (some 59), none⟩,
 ⟨(.callF 272), [.tmp 58, .tmp 59], (some 60), none⟩,
 ⟨(.indexAddrS 1), [.tmp 57, .tmp 60], (some 61), none⟩,
 ⟨(.load false 1), [.tmp 61], (some 62), none⟩,
 ⟨(.sliceLit 1 [(.int .u64 0)] [(0, 1)]), [.tmp 62], (some 63), none⟩,
 ⟨(.append 1 8), [.tmp 56, .tmp 63], (some 64), none⟩,
 ⟨.move, [.tmp 64], (some 10), none⟩])
 (.seqR [⟨.move, [.tmp 7], (some 65), none⟩,
 ⟨(.bin .add), [.tmp 65, .const (.int .u64 1)], (some 66), none⟩,
 ⟨.move, [.tmp 66], (some 7), none⟩])))
 (.seqR [⟨.move, [.tmp 9], (some 54), none⟩,
 ⟨(.bin .sub), [.tmp 54, .const (.int .i64 1)], (some 55), none⟩,
 ⟨.move, [.tmp 55], (some 9), none⟩])))))
 (.seq (.seqR [⟨.move, [.tmp 10], (some 67), none⟩,
 ⟨.move, [.tmp 67], (some 4), none⟩,
 ⟨.move, [.const (.int .i64 0)], (some 5), none⟩])
 .ret))))))))), [.tmp 4, .tmp 5]⟩
theorem c307_ok : compFunc Tryz.prog Tryz.f307 = some c307 := by kernel_rfl
theorem c307_body : hasBody Tryz.prog 307 = true := hasBody_of Tryz.func307 (by kernel_rfl)
/-- (coachyard/deque.Row).Pop -/
def c308 : PFn := ⟨6, Tr.ofList (List.replicate 6 undefA), (.seq (.seqR [⟨.box, [.tmp 0], (some 1), none⟩,
 ⟨.move, [.const (.ptr none)], (some 2), none⟩])
 (.seq (.seqR [⟨(.load true 2), [.tmp 1], (some 3), none⟩,
 ⟨(.mkFunc (.func 310) 0), [.tmp 1], (some 4), none⟩,
 ⟨(.callF 246), [.tmp 3, .tmp 4], (some 5), none⟩,
 ⟨.move, [.tmp 5], (some 2), none⟩])
 .ret)), [.tmp 2]⟩
theorem c308_ok : compFunc Tryz.prog Tryz.f308 = some c308 := by kernel_rfl
theorem c308_body : hasBody Tryz.prog 308 = true := hasBody_of Tryz.func308 (by kernel_rfl)
/-- (coachyard/deque.Row).Push -/
def c309 : PFn := ⟨8, Tr.ofList (List.replicate 8 undefA), (.seq (.seqR [⟨.box, [.tmp 0], (some 2), none⟩,
 ⟨.box, [.tmp 1], (some 3), none⟩,
 ⟨.move, [.const (.ptr none)], (some 4), none⟩])
 (.seq (.seqR [⟨(.load true 2), [.tmp 2], (some 5), none⟩,
 ⟨(.mkFunc (.func 312) 0), [.tmp 2, .tmp 3], (some 6), none⟩,
 ⟨(.callF 246), [.tmp 5, .tmp 6], (some 7), none⟩,
 ⟨.move, [.tmp 7], (some 4), none⟩])
 .ret)), [.tmp 4]⟩
theorem c309_ok : compFunc Tryz.prog Tryz.f309 = some c309 := by kernel_rfl
theorem c309_body : hasBody Tryz.prog 309 = true := hasBody_of Tryz.func309 (by kernel_rfl)
/-- (coachyard/deque.Row).Pop$1 -/
def c310 : PFn := ⟨12, Tr.ofList (List.replicate 12 undefA), (.drawR [⟨⟨.move, [.tmp 0], (some 3), none⟩, false, false, 0, 2⟩,
 ⟨⟨(.load true 2), [.tmp 1], (some 4), none⟩, false, false, 0, 0⟩,
 ⟨⟨(.callF 248), [.tmp 4, .const (.int .i64 1)], (some 5), none⟩, true, false, 0, 2⟩,
 ⟨⟨(.load true 2), [.tmp 1], (some 6), none⟩, false, false, 0, 1⟩,
 ⟨⟨.move, [.tmp 0], (some 7), none⟩, false, false, 0, 1⟩,
 ⟨⟨(.build [(.int .i64 0), (.int .i64 0), (.ptr none), (.int .u64 0), (.int .u64 0), (.int .u64 0), (.bool false)] [(0, 2), (2, 1)]), [.tmp 6, .tmp 7], (some 8), none⟩, false, false, 0, 1⟩,
 ⟨⟨.box, [.tmp 8], (some 9), none⟩, true, true, 0, 2⟩,
 ⟨⟨(.mkFunc (.func 311) 1), [.tmp 9], (some 10), none⟩, false, false, 2, 2⟩,
 ⟨⟨(.callF 162), [.tmp 3, .tmp 5, .tmp 10], (some 11), none⟩, true, false, 2, 3⟩]), []⟩
theorem c310_ok : compFunc Tryz.prog Tryz.f310 = some c310 := by kernel_rfl
theorem c310_body : hasBody Tryz.prog 310 = true := hasBody_of Tryz.func310 (by kernel_rfl)
/-- (*coachyard/deque.pop).atBottom -/
def c311 : PFn := ⟨27, Tr.ofList (List.replicate 27 undefA), (.seq (.seqR [⟨.move, [.tmp 0], (some 6), none⟩,
 ⟨.move, [.tmp 1], (some 7), none⟩,
 ⟨(.bin .sub), [.tmp 7, .const (.int .u64 1)], (some 8), none⟩,
 ⟨.nilCheck, [.tmp 6], (some 9), none⟩,
 ⟨(.fieldAddr 3), [.tmp 9], (some 10), none⟩,
 ⟨(.store 1), [.tmp 10, .tmp 8], none, none⟩])
 (.drawR [⟨⟨.move, [.tmp 0], (some 11), none⟩, false, false, 0, 1⟩,
 ⟨⟨.nilCheck, [.tmp 11], (some 12), none⟩, false, false, 0, 1⟩,
 ⟨⟨(.fieldAddr 2), [.tmp 12], (some 13), none⟩, false, false, 0, 1⟩,
 ⟨⟨(.load false 1), [.tmp 13], (some 14), none⟩, false, false, 0, 1⟩,
 ⟨⟨.move, [.tmp 0], (some 15), none⟩, false, false, 0, 0⟩,
 ⟨⟨.nilCheck, [.tmp 15], (some 16), none⟩, false, false, 0, 0⟩,
 ⟨⟨(.fieldAddr 0), [.tmp 16], (some 17), none⟩, false, false, 0, 0⟩,
 ⟨⟨(.load true 2), [.tmp 17], (some 18), none⟩, false, false, 0, 0⟩,
 ⟨⟨.move, [.tmp 0], (some 19), none⟩, false, false, 0, 0⟩,
 ⟨⟨.nilCheck, [.tmp 19], (some 20), none⟩, false, false, 0, 0⟩,
 ⟨⟨(.fieldAddr 3), [.tmp 20], (some 21), none⟩, false, false, 0, 0⟩,
 ⟨⟨(.load false 1), [.tmp 21], (some 22), none⟩, false, false, 0, 0⟩,
 ⟨⟨(.callF 314), [.tmp 18, .tmp 22], (some 23), none⟩, true, false, 0, 1⟩,
 ⟨⟨.move, [.tmp 0], (some 24), none⟩, false, false, 0, 1⟩,
 ⟨⟨(.mkFunc (.func 315) 1), [.tmp 24], (some 25), none⟩, false, false, 0, 1⟩,
 ⟨⟨(.callF 162), [.tmp 14, .tmp 23, .tmp 25], (some 26), none⟩, true, false, 1, 2⟩])), []⟩
theorem c311_ok : compFunc Tryz.prog Tryz.f311 = some c311 := by kernel_rfl
theorem c311_body : hasBody Tryz.prog 311 = true := hasBody_of Tryz.func311 (by kernel_rfl)
/-- (coachyard/deque.Row).Push$1 -/
def c312 : PFn := ⟨20, Tr.ofList (List.replicate 20 undefA), (.seq (.seqR [⟨(.load true 2), [.tmp 1], (some 5), none⟩,
 ⟨.move, [.tmp 0], (some 6), none⟩,
 ⟨(.load false 1), [.tmp 2], (some 7), none⟩,
 ⟨(.build [(.int .i64 0), (.int .i64 0), (.ptr none), (.int .u64 0), (.int .u64 0)] [(0, 2), (2, 1), (3, 1)]), [.tmp 5, .tmp 6, .tmp 7], (some 8), none⟩,
 ⟨.box, [.tmp 8], (some 9), none⟩,
 ⟨.move, [.tmp 9], (some 4), none⟩])
 (.seq (.seqR [⟨.move, [.tmp 0], (some 10), none⟩,
 ⟨(.load false 1), [.tmp 2], (some 11), none⟩,
 ⟨(.sliceLit 1 [(.int .u64 0)] [(0, 1)]), [.tmp 11], (some 12), none⟩,
 ⟨(.callF 153), [.tmp 10, .tmp 12], (some 13), none⟩])
 (.seqR [⟨.move, [.tmp 0], (some 14), none⟩,
 ⟨(.load true 2), [.tmp 1], (some 15), none⟩,
 ⟨(.callF 248), [.tmp 15, .const (.int .i64 1)], (some 16), none⟩,
 ⟨.move, [.tmp 4], (some 17), none⟩,
 ⟨(.mkFunc (.func 313) 1), [.tmp 17], (some 18), none⟩,
 ⟨(.callF 162), [.tmp 14, .tmp 16, .tmp 18], (some 19), none⟩]))), []⟩
theorem c312_ok : compFunc Tryz.prog Tryz.f312 = some c312 := by kernel_rfl
theorem c312_body : hasBody Tryz.prog 312 = true := hasBody_of Tryz.func312 (by kernel_rfl)
/-- (*coachyard/deque.push).atBottom -/
def c313 : PFn := ⟨22, Tr.ofList (List.replicate 22 undefA), (.seq (.seqR [⟨.move, [.tmp 0], (some 6), none⟩,
 ⟨.move, [.tmp 1], (some 7), none⟩,
 ⟨.nilCheck, [.tmp 6], (some 8), none⟩,
 ⟨(.fieldAddr 4), [.tmp 8], (some 9), none⟩,
 ⟨(.store 1), [.tmp 9, .tmp 7], none, none⟩])
 (.drawR [⟨⟨.move, [.tmp 0], (some 10), none⟩, false, false, 0, 1⟩,
 ⟨⟨.nilCheck, [.tmp 10], (some 11), none⟩, false, false, 0, 1⟩,
 ⟨⟨(.fieldAddr 2), [.tmp 11], (some 12), none⟩, false, false, 0, 1⟩,
 ⟨⟨(.load false 1), [.tmp 12], (some 13), none⟩, false, false, 0, 1⟩,
 ⟨⟨.move, [.tmp 0], (some 14), none⟩, false, false, 0, 0⟩,
 ⟨⟨.nilCheck, [.tmp 14], (some 15), none⟩, false, false, 0, 0⟩,
 ⟨⟨(.fieldAddr 0), [.tmp 15], (some 16), none⟩, false, false, 0, 0⟩,
 ⟨⟨(.load true 2), [.tmp 16], (some 17), none⟩, false, false, 0, 0⟩,
 ⟨⟨(.callF 248), [.tmp 17, .const (.int .i64 0)], (some 18), none⟩, true, false, 0, 1⟩,
 ⟨⟨.move, [.tmp 0], (some 19), none⟩, false, false, 0, 1⟩,
 ⟨⟨(.mkFunc (.func 316) 1), [.tmp 19], (some 20), none⟩, false, false, 0, 1⟩,
 ⟨⟨(.callF 162), [.tmp 13, .tmp 18, .tmp 20], (some 21), none⟩, true, false, 1, 2⟩])), []⟩
theorem c313_ok : compFunc Tryz.prog Tryz.f313 = some c313 := by kernel_rfl
theorem c313_body : hasBody Tryz.prog 313 = true := hasBody_of Tryz.func313 (by kernel_rfl)
/-- (coachyard/deque.Row).bottom -/
def c314 : PFn := ⟨10, Tr.ofList (List.replicate 10 undefA), (.seq (.seqR [⟨.box, [.tmp 0], (some 2), none⟩,
 ⟨(.new [(.int .i64 0), (.int .i64 0), (.int .u64 0), (.int .u64 0)]), [], (some 4), none⟩])
 (.seq (.seqR [⟨(.fieldAddr 0), [.tmp 2], (some 5), none⟩,
 ⟨(.load false 1), [.tmp 5], (some 6), none⟩,
 ⟨(.bin .add), [.tmp 6, .const (.int .i64 1)], (some 7), none⟩,
 ⟨.move, [.tmp 1], (some 8), none⟩,
 ⟨(.build [(.int .i64 0), (.int .i64 0), (.int .u64 0), (.int .u64 0)] [(0, 1), (1, 1), (2, 1)]), [.const (.int .i64 2), .tmp 7, .tmp 8], (some 9), none⟩,
 ⟨(.store 4), [.tmp 4, .tmp 9], none, none⟩])
 .ret)), [.cell 4 true 4]⟩
theorem c314_ok : compFunc Tryz.prog Tryz.f314 = some c314 := by kernel_rfl
theorem c314_body : hasBody Tryz.prog 314 = true := hasBody_of Tryz.func314 (by kernel_rfl)
/-- (*coachyard/deque.pop).lowered -/
def c315 : PFn := ⟨18, Tr.ofList (List.replicate 18 undefA), (.drawR [⟨⟨.move, [.tmp 0], (some 6), none⟩, false, false, 0, 1⟩,
 ⟨⟨.nilCheck, [.tmp 6], (some 7), none⟩, false, false, 0, 1⟩,
 ⟨⟨(.fieldAddr 2), [.tmp 7], (some 8), none⟩, false, false, 0, 1⟩,
 ⟨⟨(.load false 1), [.tmp 8], (some 9), none⟩, false, false, 0, 1⟩,
 ⟨⟨.move, [.tmp 0], (some 10), none⟩, false, false, 0, 0⟩,
 ⟨⟨.nilCheck, [.tmp 10], (some 11), none⟩, false, false, 0, 0⟩,
 ⟨⟨(.fieldAddr 0), [.tmp 11], (some 12), none⟩, false, false, 0, 0⟩,
 ⟨⟨(.load true 2), [.tmp 12], (some 13), none⟩, false, false, 0, 0⟩,
 ⟨⟨(.callF 248), [.tmp 13, .const (.int .i64 0)], (some 14), none⟩, true, false, 0, 1⟩,
 ⟨⟨.move, [.tmp 0], (some 15), none⟩, false, false, 0, 1⟩,
 ⟨⟨(.mkFunc (.func 317) 1), [.tmp 15], (some 16), none⟩, false, false, 0, 1⟩,
 ⟨⟨(.callF 162), [.tmp 9, .tmp 14, .tmp 16], (some 17), none⟩, true, false, 1, 2⟩]), []⟩
theorem c315_ok : compFunc Tryz.prog Tryz.f315 = some c315 := by kernel_rfl
theorem c315_body : hasBody Tryz.prog 315 = true := hasBody_of Tryz.func315 (by kernel_rfl)
/-- (*coachyard/deque.push).atTop -/
def c316 : PFn := ⟨49, Tr.ofList (List.replicate 49 undefA), (.seq (.seq (.drawR [⟨⟨.move, [.tmp 0], (some 6), none⟩, false, false, 0, 0⟩,
 ⟨⟨.nilCheck, [.tmp 6], (some 7), none⟩, false, false, 0, 0⟩,
 ⟨⟨(.fieldAddr 4), [.tmp 7], (some 8), none⟩, false, false, 0, 0⟩,
 ⟨⟨(.load false 1), [.tmp 8], (some 9), none⟩, false, false, 0, 0⟩,
 ⟨⟨.move, [.tmp 1], (some 10), none⟩, false, false, 0, 0⟩,
 ⟨⟨(.callF 271), [.tmp 9, .tmp 10], (some 11), none⟩, true, false, 0, 1⟩,
 ⟨⟨.move, [.tmp 0], (some 12), none⟩, false, false, 0, 1⟩,
 ⟨⟨.nilCheck, [.tmp 12], (some 13), none⟩, false, false, 0, 1⟩,
 ⟨⟨(.fieldAddr 0), [.tmp 13], (some 14), none⟩, false, false, 0, 1⟩,
 ⟨⟨(.fieldAddr 1), [.tmp 14], (some 15), none⟩, false, false, 0, 1⟩,
 ⟨⟨(.load false 1), [.tmp 15], (some 16), none⟩, false, false, 0, 1⟩,
 ⟨⟨(.bin .geq), [.tmp 11, .tmp 16], (some 17), none⟩, false, false, 1, 1⟩])
 (.cond (.tmp 17) (.seq (.seqR [⟨.move, [.tmp 0], (some 18), none⟩,
 ⟨.nilCheck, [.tmp 18], (some 19), none⟩,
 ⟨(.fieldAddr 2), [.tmp 19], (some 20), none⟩,
 ⟨(.load false 1), [.tmp 20], (some 21), none⟩,
 ⟨(.callF 153), [.tmp 21, .const (.slice none 0 0 false)], (some 22), none⟩])
 (.seq (.seqR [⟨.move, [.tmp 0], (some 23), none⟩,
 ⟨.nilCheck, [.tmp 23], (some 24), none⟩,
 ⟨(.fieldAddr 2), [.tmp 24], (some 25), none⟩,
 ⟨(.load false 1), [.tmp 25], (some 26), none⟩,
 ⟨(.callF 62), [.tmp 26, .const (.int .i64 4)], (some 27), none⟩])
 .ret))
 .skip))
 (.drawR [⟨⟨.move, [.tmp 0], (some 28), none⟩, false, false, 0, 1⟩,
 ⟨⟨.nilCheck, [.tmp 28], (some 29), none⟩, false, false, 0, 1⟩,
 ⟨⟨(.fieldAddr 2), [.tmp 29], (some 30), none⟩, false, false, 0, 1⟩,
 ⟨⟨(.load false 1), [.tmp 30], (some 31), none⟩, false, false, 0, 1⟩,
 ⟨⟨.move, [.tmp 0], (some 32), none⟩, false, false, 0, 0⟩,
 ⟨⟨.nilCheck, [.tmp 32], (some 33), none⟩, false, false, 0, 0⟩,
 ⟨⟨(.fieldAddr 0), [.tmp 33], (some 34), none⟩, false, false, 0, 0⟩,
 ⟨⟨(.load true 2), [.tmp 34], (some 35), none⟩, false, false, 0, 0⟩,
 ⟨⟨.move, [.tmp 0], (some 36), none⟩, false, false, 0, 0⟩,
 ⟨⟨.nilCheck, [.tmp 36], (some 37), none⟩, false, false, 0, 0⟩,
 ⟨⟨(.fieldAddr 4), [.tmp 37], (some 38), none⟩, false, false, 0, 0⟩,
 ⟨⟨(.load false 1), [.tmp 38], (some 39), none⟩, false, false, 0, 0⟩,
 ⟨⟨(.callF 272), [.tmp 35, .tmp 39], (some 40), none⟩, true, false, 0, 1⟩,
 ⟨⟨.move, [.tmp 0], (some 41), none⟩, false, false, 0, 1⟩,
 ⟨⟨.nilCheck, [.tmp 41], (some 42), none⟩, false, false, 0, 1⟩,
 ⟨⟨(.fieldAddr 3), [.tmp 42], (some 43), none⟩, false, false, 0, 1⟩,
 ⟨⟨(.load false 1), [.tmp 43], (some 44), none⟩, false, false, 0, 1⟩,
 ⟨⟨(.build [(.int .i64 0), (.int .i64 0), (.int .u64 0), (.int .u64 0)] [(0, 1), (1, 1), (2, 1)]), [.const (.int .i64 2), .tmp 40, .tmp 44], (some 45), none⟩, false, false, 1, 1⟩,
 ⟨⟨.move, [.tmp 0], (some 46), none⟩, false, false, 0, 1⟩,
 ⟨⟨(.mkFunc (.func 318) 1), [.tmp 46], (some 47), none⟩, false, false, 0, 1⟩,
 ⟨⟨(.callF 162), [.tmp 31, .tmp 45, .tmp 47], (some 48), none⟩, true, false, 1, 2⟩])), []⟩
theorem c316_ok : compFunc Tryz.prog Tryz.f316 = some c316 := by kernel_rfl
theorem c316_body : hasBody Tryz.prog 316 = true := hasBody_of Tryz.func316 (by kernel_rfl)
/-- (*coachyard/deque.pop).atTop -/
def c317 : PFn := ⟨51, Tr.ofList (List.replicate 51 undefA), (.seq (.seqR [⟨.move, [.tmp 0], (some 6), none⟩,
 ⟨.move, [.tmp 1], (some 7), none⟩,
 ⟨.nilCheck, [.tmp 6], (some 8), none⟩,
 ⟨(.fieldAddr 4), [.tmp 8], (some 9), none⟩,
 ⟨(.store 1), [.tmp 9, .tmp 7], none, none⟩])
 (.seq (.seq (.seqR [⟨.move, [.tmp 0], (some 10), none⟩,
 ⟨.nilCheck, [.tmp 10], (some 11), none⟩,
 ⟨(.fieldAddr 3), [.tmp 11], (some 12), none⟩,
 ⟨(.load false 1), [.tmp 12], (some 13), none⟩,
 ⟨.move, [.tmp 1], (some 14), none⟩,
 ⟨(.callF 271), [.tmp 13, .tmp 14], (some 15), none⟩,
 ⟨(.bin .lss), [.tmp 15, .const (.int .i64 0)], (some 16), none⟩])
 (.cond (.tmp 16) (.seq (.drawR [⟨⟨.move, [.tmp 0], (some 17), none⟩, false, false, 0, 1⟩,
 ⟨⟨.nilCheck, [.tmp 17], (some 18), none⟩, false, false, 0, 1⟩,
 ⟨⟨(.fieldAddr 2), [.tmp 18], (some 19), none⟩, false, false, 0, 1⟩,
 ⟨⟨(.load false 1), [.tmp 19], (some 20), none⟩, false, false, 0, 1⟩,
 ⟨⟨.move, [.tmp 0], (some 21), none⟩, false, false, 0, 0⟩,
 ⟨⟨.nilCheck, [.tmp 21], (some 22), none⟩, false, false, 0, 0⟩,
 ⟨⟨(.fieldAddr 0), [.tmp 22], (some 23), none⟩, false, false, 0, 0⟩,
 ⟨⟨(.load true 2), [.tmp 23], (some 24), none⟩, false, false, 0, 0⟩,
 ⟨⟨.move, [.tmp 0], (some 25), none⟩, false, false, 0, 0⟩,
 ⟨⟨.nilCheck, [.tmp 25], (some 26), none⟩, false, false, 0, 0⟩,
 ⟨⟨(.fieldAddr 3), [.tmp 26], (some 27), none⟩, false, false, 0, 0⟩,
 ⟨⟨(.load false 1), [.tmp 27], (some 28), none⟩, false, false, 0, 0⟩,
 ⟨⟨(.bin .add), [.tmp 28, .const (.int .u64 1)], (some 29), none⟩, false, false, 0, 0⟩,
 ⟨⟨(.callF 314), [.tmp 24, .tmp 29], (some 30), none⟩, true, false, 0, 1⟩,
 ⟨⟨.move, [.tmp 0], (some 31), none⟩, false, false, 0, 1⟩,
 ⟨⟨(.mkFunc (.func 319) 1), [.tmp 31], (some 32), none⟩, false, false, 0, 1⟩,
 ⟨⟨(.callF 162), [.tmp 20, .tmp 30, .tmp 32], (some 33), none⟩, true, false, 1, 2⟩])
 .ret)
 .skip))
 (.drawR [⟨⟨.move, [.tmp 0], (some 34), none⟩, false, false, 0, 1⟩,
 ⟨⟨.nilCheck, [.tmp 34], (some 35), none⟩, false, false, 0, 1⟩,
 ⟨⟨(.fieldAddr 2), [.tmp 35], (some 36), none⟩, false, false, 0, 1⟩,
 ⟨⟨(.load false 1), [.tmp 36], (some 37), none⟩, false, false, 0, 1⟩,
 ⟨⟨.move, [.tmp 0], (some 38), none⟩, false, false, 0, 0⟩,
 ⟨⟨.nilCheck, [.tmp 38], (some 39), none⟩, false, false, 0, 0⟩,
 ⟨⟨(.fieldAddr 0), [.tmp 39], (some 40), none⟩, false, false, 0, 0⟩,
 ⟨⟨(.load true 2), [.tmp 40], (some 41), none⟩, false, false, 0, 0⟩,
 ⟨⟨.move, [.tmp 0], (some 42), none⟩, false, false, 0, 0⟩,
 ⟨⟨.nilCheck, [.tmp 42], (some 43), none⟩, false, false, 0, 0⟩,
 ⟨⟨(.fieldAddr 3), [.tmp 43], (some 44), none⟩, false, false, 0, 0⟩,
 ⟨⟨(.load false 1), [.tmp 44], (some 45), none⟩, false, false, 0, 0⟩,
 ⟨⟨(.callF 272), [.tmp 41, .tmp 45], (some 46), none⟩, true, false, 0, 1⟩,
 ⟨⟨(.build [(.int .i64 0), (.int .i64 0), (.int .u64 0), (.int .u64 0)] [(0, 1), (1, 1)]), [.const (.int .i64 1), .tmp 46], (some 47), none⟩, false, false, 1, 1⟩,
 ⟨⟨.move, [.tmp 0], (some 48), none⟩, false, false, 0, 1⟩,
 ⟨⟨(.mkFunc (.func 320) 1), [.tmp 48], (some 49), none⟩, false, false, 0, 1⟩,
 ⟨⟨(.callF 162), [.tmp 37, .tmp 47, .tmp 49], (some 50), none⟩, true, false, 1, 2⟩]))), []⟩
theorem c317_ok : compFunc Tryz.prog Tryz.f317 = some c317 := by kernel_rfl
theorem c317_body : hasBody Tryz.prog 317 = true := hasBody_of Tryz.func317 (by kernel_rfl)
/-- (*coachyard/deque.push).laid -/
def c318 : PFn := ⟨23, Tr.ofList (List.replicate 23 undefA), (.drawR [⟨⟨.move, [.tmp 0], (some 6), none⟩, false, false, 0, 1⟩,
 ⟨⟨.nilCheck, [.tmp 6], (some 7), none⟩, false, false, 0, 1⟩,
 ⟨⟨(.fieldAddr 2), [.tmp 7], (some 8), none⟩, false, false, 0, 1⟩,
 ⟨⟨(.load false 1), [.tmp 8], (some 9), none⟩, false, false, 0, 1⟩,
 ⟨⟨.move, [.tmp 0], (some 10), none⟩, false, false, 0, 0⟩,
 ⟨⟨.nilCheck, [.tmp 10], (some 11), none⟩, false, false, 0, 0⟩,
 ⟨⟨(.fieldAddr 0), [.tmp 11], (some 12), none⟩, false, false, 0, 0⟩,
 ⟨⟨(.load true 2), [.tmp 12], (some 13), none⟩, false, false, 0, 0⟩,
 ⟨⟨.move, [.tmp 0], (some 14), none⟩, false, false, 0, 0⟩,
 ⟨⟨.nilCheck, [.tmp 14], (some 15), none⟩, false, false, 0, 0⟩,
 ⟨⟨(.fieldAddr 4), [.tmp 15], (some 16), none⟩, false, false, 0, 0⟩,
 ⟨⟨(.load false 1), [.tmp 16], (some 17), none⟩, false, false, 0, 0⟩,
 ⟨⟨(.bin .add), [.tmp 17, .const (.int .u64 1)], (some 18), none⟩, false, false, 0, 0⟩,
 ⟨⟨(.callF 314), [.tmp 13, .tmp 18], (some 19), none⟩, true, false, 0, 1⟩,
 ⟨⟨.move, [.tmp 0], (some 20), none⟩, false, false, 0, 1⟩,
 ⟨⟨(.mkFunc (.func 321) 1), [.tmp 20], (some 21), none⟩, false, false, 0, 1⟩,
 ⟨⟨(.callF 162), [.tmp 9, .tmp 19, .tmp 21], (some 22), none⟩, true, false, 1, 2⟩]), []⟩
theorem c318_ok : compFunc Tryz.prog Tryz.f318 = some c318 := by kernel_rfl
theorem c318_body : hasBody Tryz.prog 318 = true := hasBody_of Tryz.func318 (by kernel_rfl)
/-- (*coachyard/deque.pop).done -/
def c319 : PFn := ⟨31, Tr.ofList (List.replicate 31 undefA), (.seq (.seqR [⟨.move, [.tmp 0], (some 6), none⟩,
 ⟨.nilCheck, [.tmp 6], (some 7), none⟩,
 ⟨(.fieldAddr 2), [.tmp 7], (some 8), none⟩,
 ⟨(.load false 1), [.tmp 8], (some 9), none⟩,
 ⟨(.callF 153), [.tmp 9, .const (.slice none 0 0 false)], (some 10), none⟩])
 (.seq (.seq (.seqR [⟨.move, [.tmp 0], (some 11), none⟩,
 ⟨.nilCheck, [.tmp 11], (some 12), none⟩,
 ⟨(.fieldAddr 6), [.tmp 12], (some 13), none⟩,
 ⟨(.load false 1), [.tmp 13], (some 14), none⟩,
 ⟨.not, [.tmp 14], (some 15), none⟩])
 (.cond (.tmp 15) (.seq (.seqR [⟨.move, [.tmp 0], (some 16), none⟩,
 ⟨.nilCheck, [.tmp 16], (some 17), none⟩,
 ⟨(.fieldAddr 2), [.tmp 17], (some 18), none⟩,
 ⟨(.load false 1), [.tmp 18], (some 19), none⟩,
 ⟨(.callF 62), [.tmp 19, .const (.int .i64 5)], (some 20), none⟩])
 .ret)
 .skip))
 (.drawR [⟨⟨.move, [.tmp 0], (some 21), none⟩, false, false, 0, 0⟩,
 ⟨⟨.nilCheck, [.tmp 21], (some 22), none⟩, false, false, 0, 0⟩,
 ⟨⟨(.fieldAddr 2), [.tmp 22], (some 23), none⟩, false, false, 0, 0⟩,
 ⟨⟨(.load false 1), [.tmp 23], (some 24), none⟩, false, false, 0, 0⟩,
 ⟨⟨.move, [.tmp 0], (some 25), none⟩, false, false, 0, 0⟩,
 ⟨⟨.nilCheck, [.tmp 25], (some 26), none⟩, false, false, 0, 0⟩,
 ⟨⟨(.fieldAddr 5), [.tmp 26], (some 27), none⟩, false, false, 0, 0⟩,
 ⟨⟨(.load false 1), [.tmp 27], (some 28), none⟩, false, false, 0, 0⟩,
 ⟨⟨(.build [(.int .i64 0), (.int .u64 0), (.slice none 0 0 false)] [(1, 1)]), [.tmp 28], (some 29), none⟩, false, false, 0, 0⟩,
 ⟨⟨(.callF 99), [.tmp 24, .tmp 29], (some 30), none⟩, true, false, 0, 1⟩]))), []⟩
theorem c319_ok : compFunc Tryz.prog Tryz.f319 = some c319 := by kernel_rfl
theorem c319_body : hasBody Tryz.prog 319 = true := hasBody_of Tryz.func319 (by kernel_rfl)
/-- (*coachyard/deque.pop).read -/
def c320 : PFn := ⟨43, Tr.ofList (List.replicate 43 undefA), (.seq (.seqR [⟨.move, [.tmp 0], (some 6), none⟩,
 ⟨.move, [.tmp 1], (some 7), none⟩,
 ⟨.nilCheck, [.tmp 6], (some 8), none⟩,
 ⟨(.fieldAddr 5), [.tmp 8], (some 9), none⟩,
 ⟨(.store 1), [.tmp 9, .tmp 7], none, none⟩])
 (.seq (.seq (.drawR [⟨⟨.move, [.tmp 0], (some 10), none⟩, false, false, 0, 0⟩,
 ⟨⟨.nilCheck, [.tmp 10], (some 11), none⟩, false, false, 0, 0⟩,
 ⟨⟨(.fieldAddr 3), [.tmp 11], (some 12), none⟩, false, false, 0, 0⟩,
 ⟨⟨(.load false 1), [.tmp 12], (some 13), none⟩, false, false, 0, 0⟩,
 ⟨⟨.move, [.tmp 0], (some 14), none⟩, false, false, 0, 0⟩,
 ⟨⟨.nilCheck, [.tmp 14], (some 15), none⟩, false, false, 0, 0⟩,
 ⟨⟨(.fieldAddr 4), [.tmp 15], (some 16), none⟩, false, false, 0, 0⟩,
 ⟨⟨(.load false 1), [.tmp 16], (some 17), none⟩, false, false, 0, 0⟩,
 ⟨⟨(.callF 271), [.tmp 13, .tmp 17], (some 18), none⟩, true, false, 0, 1⟩,
 ⟨⟨(.bin .gtr), [.tmp 18, .const (.int .i64 0)], (some 19), none⟩, false, false, 1, 1⟩])
 (.cond (.tmp 19) (.seq (.seqR [⟨.move, [.tmp 0], (some 20), none⟩,
 ⟨.nilCheck, [.tmp 20], (some 21), none⟩,
 ⟨(.fieldAddr 2), [.tmp 21], (some 22), none⟩,
 ⟨(.load false 1), [.tmp 22], (some 23), none⟩,
 ⟨.move, [.tmp 1], (some 24), none⟩,
 ⟨(.build [(.int .i64 0), (.int .u64 0), (.slice none 0 0 false)] [(1, 1)]), [.tmp 24], (some 25), none⟩,
 ⟨(.callF 99), [.tmp 23, .tmp 25], (some 26), none⟩])
 .ret)
 .skip))
 (.drawR [⟨⟨.move, [.tmp 0], (some 27), none⟩, false, false, 0, 1⟩,
 ⟨⟨.nilCheck, [.tmp 27], (some 28), none⟩, false, false, 0, 1⟩,
 ⟨⟨(.fieldAddr 2), [.tmp 28], (some 29), none⟩, false, false, 0, 1⟩,
 ⟨⟨(.load false 1), [.tmp 29], (some 30), none⟩, false, false, 0, 1⟩,
 ⟨⟨.move, [.tmp 0], (some 31), none⟩, false, false, 0, 0⟩,
 ⟨⟨.nilCheck, [.tmp 31], (some 32), none⟩, false, false, 0, 0⟩,
 ⟨⟨(.fieldAddr 0), [.tmp 32], (some 33), none⟩, false, false, 0, 0⟩,
 ⟨⟨(.load true 2), [.tmp 33], (some 34), none⟩, false, false, 0, 0⟩,
 ⟨⟨.move, [.tmp 0], (some 35), none⟩, false, false, 0, 0⟩,
 ⟨⟨.nilCheck, [.tmp 35], (some 36), none⟩, false, false, 0, 0⟩,
 ⟨⟨(.fieldAddr 4), [.tmp 36], (some 37), none⟩, false, false, 0, 0⟩,
 ⟨⟨(.load false 1), [.tmp 37], (some 38), none⟩, false, false, 0, 0⟩,
 ⟨⟨(.callF 276), [.tmp 34, .tmp 38], (some 39), none⟩, true, false, 0, 1⟩,
 ⟨⟨.move, [.tmp 0], (some 40), none⟩, false, false, 0, 1⟩,
 ⟨⟨(.mkFunc (.func 322) 1), [.tmp 40], (some 41), none⟩, false, false, 0, 1⟩,
 ⟨⟨(.callF 162), [.tmp 30, .tmp 39, .tmp 41], (some 42), none⟩, true, false, 1, 2⟩]))), []⟩
theorem c320_ok : compFunc Tryz.prog Tryz.f320 = some c320 := by kernel_rfl
theorem c320_body : hasBody Tryz.prog 320 = true := hasBody_of Tryz.func320 (by kernel_rfl)
/-- (*coachyard/deque.push).done -/
def c321 : PFn := ⟨17, Tr.ofList (List.replicate 17 undefA), (.seq (.seqR [⟨.move, [.tmp 0], (some 6), none⟩,
 ⟨.nilCheck, [.tmp 6], (some 7), none⟩,
 ⟨(.fieldAddr 2), [.tmp 7], (some 8), none⟩,
 ⟨(.load false 1), [.tmp 8], (some 9), none⟩,
 ⟨(.callF 153), [.tmp 9, .const (.slice none 0 0 false)], (some 10), none⟩])
 (.seqR [⟨.move, [.tmp 0], (some 11), none⟩,
 ⟨.nilCheck, [.tmp 11], (some 12), none⟩,
 ⟨(.fieldAddr 2), [.tmp 12], (some 13), none⟩,
 ⟨(.load false 1), [.tmp 13], (some 14), none⟩,
 ⟨(.build [(.int .i64 0), (.int .u64 0), (.slice none 0 0 false)] []), [], (some 15), none⟩,
 ⟨(.callF 99), [.tmp 14, .tmp 15], (some 16), none⟩])), []⟩
theorem c321_ok : compFunc Tryz.prog Tryz.f321 = some c321 := by kernel_rfl
theorem c321_body : hasBody Tryz.prog 321 = true := hasBody_of Tryz.func321 (by kernel_rfl)
/-- (*coachyard/deque.pop).tried -/
def c322 : PFn := ⟨38, Tr.ofList (List.replicate 38 undefA), (.seq (.seqR [⟨.move, [.tmp 0], (some 6), none⟩,
 ⟨.move, [.tmp 2], (some 7), none⟩,
 ⟨.nilCheck, [.tmp 6], (some 8), none⟩,
 ⟨(.fieldAddr 6), [.tmp 8], (some 9), none⟩,
 ⟨(.store 1), [.tmp 9, .tmp 7], none, none⟩])
 (.seq (.seq (.seqR [⟨.move, [.tmp 2], (some 10), none⟩])
 (.cond (.tmp 10) (.drawR [⟨⟨.move, [.tmp 0], (some 11), none⟩, false, false, 0, 1⟩,
 ⟨⟨.nilCheck, [.tmp 11], (some 12), none⟩, false, false, 0, 1⟩,
 ⟨⟨(.fieldAddr 2), [.tmp 12], (some 13), none⟩, false, false, 0, 1⟩,
 ⟨⟨(.load false 1), [.tmp 13], (some 14), none⟩, false, false, 0, 1⟩,
 ⟨⟨.move, [.tmp 0], (some 15), none⟩, false, false, 0, 0⟩,
 ⟨⟨.nilCheck, [.tmp 15], (some 16), none⟩, false, false, 0, 0⟩,
 ⟨⟨(.fieldAddr 5), [.tmp 16], (some 17), none⟩, false, false, 0, 0⟩,
 ⟨⟨(.load false 1), [.tmp 17], (some 18), none⟩, false, false, 0, 0⟩,
 ⟨⟨(.sliceLit 1 [(.int .u64 0)] [(0, 1)]), [.tmp 18], (some 19), none⟩, true, false, 0, 1⟩,
 ⟨⟨(.callF 153), [.tmp 14, .tmp 19], (some 20), none⟩, true, false, 1, 2⟩])
 .skip))
 (.drawR [⟨⟨.move, [.tmp 0], (some 21), none⟩, false, false, 0, 1⟩,
 ⟨⟨.nilCheck, [.tmp 21], (some 22), none⟩, false, false, 0, 1⟩,
 ⟨⟨(.fieldAddr 2), [.tmp 22], (some 23), none⟩, false, false, 0, 1⟩,
 ⟨⟨(.load false 1), [.tmp 23], (some 24), none⟩, false, false, 0, 1⟩,
 ⟨⟨.move, [.tmp 0], (some 25), none⟩, false, false, 0, 0⟩,
 ⟨⟨.nilCheck, [.tmp 25], (some 26), none⟩, false, false, 0, 0⟩,
 ⟨⟨(.fieldAddr 0), [.tmp 26], (some 27), none⟩, false, false, 0, 0⟩,
 ⟨⟨(.load true 2), [.tmp 27], (some 28), none⟩, false, false, 0, 0⟩,
 ⟨⟨.move, [.tmp 0], (some 29), none⟩, false, false, 0, 0⟩,
 ⟨⟨.nilCheck, [.tmp 29], (some 30), none⟩, false, false, 0, 0⟩,
 ⟨⟨(.fieldAddr 3), [.tmp 30], (some 31), none⟩, false, false, 0, 0⟩,
 ⟨⟨(.load false 1), [.tmp 31], (some 32), none⟩, false, false, 0, 0⟩,
 ⟨⟨(.bin .add), [.tmp 32, .const (.int .u64 1)], (some 33), none⟩, false, false, 0, 0⟩,
 ⟨⟨(.callF 314), [.tmp 28, .tmp 33], (some 34), none⟩, true, false, 0, 1⟩,
 ⟨⟨.move, [.tmp 0], (some 35), none⟩, false, false, 0, 1⟩,
 ⟨⟨(.mkFunc (.func 319) 1), [.tmp 35], (some 36), none⟩, false, false, 0, 1⟩,
 ⟨⟨(.callF 162), [.tmp 24, .tmp 34, .tmp 36], (some 37), none⟩, true, false, 1, 2⟩]))), []⟩
theorem c322_ok : compFunc Tryz.prog Tryz.f322 = some c322 := by kernel_rfl
theorem c322_body : hasBody Tryz.prog 322 = true := hasBody_of Tryz.func322 (by kernel_rfl)
/-- (coachyard/ring.Row).All -/
def c323 : PFn := ⟨73, Tr.ofList (List.replicate 73 undefA), (.seq (.seqR [⟨.box, [.tmp 0], (some 2), none⟩,
 ⟨.move, [.const (.slice none 0 0 false)], (some 4), none⟩,
 ⟨.move, [.const (.int .i64 0)], (some 5), none⟩])
 (.seq (.block 0 (.seq (.seqR [⟨.move, [.tmp 1], (some 13), none⟩,
 ⟨(.eqPtr false), [.tmp 13, .const (.ptr none)], (some 14), none⟩,
 ⟨.move, [.tmp 14], (some 12), none⟩])
 (.cond (.tmp 12) (.seq (.seqR [⟨.move, [.const (.slice none 0 0 false)], (some 4), none⟩,
 ⟨.move, [.const (.int .i64 1)], (some 5), none⟩])
 .ret)
 (.seq (.seqR [⟨(.load true 2), [.tmp 2], (some 16), none⟩,
 ⟨(.callF 250), [.tmp 16], (some 17), none⟩,
 ⟨.not, [.tmp 17], (some 18), none⟩,
 ⟨.move, [.tmp 18], (some 15), none⟩])
 (.cond (.tmp 15) (.seq (.seqR [⟨.move, [.const (.slice none 0 0 false)], (some 4), none⟩,
 ⟨.move, [.const (.int .i64 2)], (some 5), none⟩])
 .ret)
 (.seq (.drawR [⟨⟨.move, [.tmp 1], (some 20), none⟩, false, false, 0, 0⟩,
 ⟨⟨(.callF 120), [.tmp 20], (some 21), none⟩, true, false, 0, 1⟩,
 ⟨⟨(.fieldAddr 0), [.tmp 2], (some 22), none⟩, false, false, 0, 1⟩,
 ⟨⟨(.load false 1), [.tmp 22], (some 23), none⟩, false, false, 0, 1⟩,
 ⟨⟨(.fieldAddr 1), [.tmp 2], (some 24), none⟩, false, false, 0, 1⟩,
 ⟨⟨(.load false 1), [.tmp 24], (some 25), none⟩, false, false, 0, 1⟩,
 ⟨⟨(.bin .add), [.tmp 23, .tmp 25], (some 26), none⟩, false, false, 0, 1⟩,
 ⟨⟨(.bin .add), [.tmp 26, .const (.int .i64 1)], (some 27), none⟩, false, false, 0, 1⟩,
 ⟨⟨(.bin .leq), [.tmp 21, .tmp 27], (some 28), none⟩, false, false, 1, 1⟩,
 ⟨⟨.move, [.tmp 28], (some 19), none⟩, false, false, 1, 1⟩])
 (.cond (.tmp 19) (.seq (.seqR [⟨.move, [.const (.slice none 0 0 false)], (some 4), none⟩,
 ⟨.move, [.const (.int .i64 3)], (some 5), none⟩])
 .ret)
 .skip)))))))
 (.seq (.seqR [⟨.move, [.tmp 1], (some 29), none⟩,
 ⟨(.callF 106), [.tmp 29], (some 30), none⟩,
 ⟨.move, [.tmp 30], (some 6), none⟩])
 (.seq (.drawR [⟨⟨.move, [.tmp 6], (some 31), none⟩, false, false, 0, 0⟩,
 ⟨⟨(.fieldAddr 0), [.tmp 2], (some 32), none⟩, false, false, 0, 0⟩,
 ⟨⟨(.load false 1), [.tmp 32], (some 33), none⟩, false, false, 0, 0⟩,
 ⟨⟨(.indexAddrS 1), [.tmp 31, .tmp 33], (some 34), none⟩, false, false, 0, 0⟩,
 ⟨⟨(.load false 1), [.tmp 34], (some 35), none⟩, false, false, 0, 0⟩,
 ⟨⟨(.callF 266), [.tmp 35], (some 36), none⟩, true, false, 0, 1⟩,
 ⟨⟨.move, [.tmp 6], (some 37), none⟩, false, false, 0, 1⟩,
 ⟨⟨(.fieldAddr 0), [.tmp 2], (some 38), none⟩, false, false, 0, 1⟩,
 ⟨⟨(.load false 1), [.tmp 38], (some 39), none⟩, false, false, 0, 1⟩,
 ⟨⟨(.bin .add), [.tmp 39, .const (.int .i64 1)], (some 40), none⟩, false, false, 0, 1⟩,
 ⟨⟨(.indexAddrS 1), [.tmp 37, .tmp 40], (some 41), none⟩, false, false, 0, 1⟩,
 ⟨⟨(.load false 1), [.tmp 41], (some 42), none⟩, false, false, 0, 1⟩,
 ⟨⟨(.callF 266), [.tmp 42], (some 43), none⟩, true, false, 1, 2⟩,
 ⟨⟨.move, [.tmp 36], (some 7), none⟩, false, false, 2, 2⟩,
 ⟨⟨.move, [.tmp 43], (some 8), none⟩, false, false, 2, 2⟩])
 (.seq (.seqR [⟨.move, [.tmp 8], (some 44), none⟩,
 ⟨.move, [.tmp 7], (some 45), none⟩,
 ⟨(.callF 217), [.tmp 44, .tmp 45], (some 46), none⟩,
 ⟨.move, [.tmp 46], (some 9), none⟩])
 (.seq (.seq (.seqR [⟨.move, [.tmp 9], (some 47), none⟩,
 ⟨(.bin .lss), [.tmp 47, .const (.int .i64 0)], (some 48), none⟩,
 ⟨.move, [.tmp 48], (some 49), none⟩,
 ⟨.move, [.tmp 9], (some 50), some (49, false)⟩,
 ⟨(.fieldAddr 1), [.tmp 2], (some 51), some (49, false)⟩,
 ⟨(.load false 1), [.tmp 51], (some 52), some (49, false)⟩,
 ⟨(.bin .gtr), [.tmp 50, .tmp 52], (some 53), some (49, false)⟩,
 ⟨.pick, [.tmp 49, .const (.bool true), .tmp 53], (some 54), none⟩])
 (.cond (.tmp 54) (.seq (.seqR [⟨.move, [.const (.slice none 0 0 false)], (some 4), none⟩,
 ⟨.move, [.const (.int .i64 9)], (some 5), none⟩])
 .ret)
 .skip))
 (.seq (.seqR [⟨.move, [.const (.slice none 0 0 false)], (some 10), none⟩])
 (.seq (.seq (.seqR [⟨.move, [.tmp 9], (some 55), none⟩,
 ⟨(.conv .u32), [.tmp 55], (some 56), none⟩,
 ⟨.move, [.const (.int .u32 0)], (some 57), none⟩])
 (.block 1 (.loop (.seq (.seqR [⟨(.bin .lss), [.tmp 57, .tmp 56], (some 58), none⟩])
 (.seq (.cond (.tmp 58) .skip
 (.exit 1))
 (.seq (.block 2 (.seq (.seqR [⟨.move, [.tmp 57], (some 59), none⟩,
 ⟨.move, [.tmp 59], (some 11), none⟩])
 (.seqR [⟨.move, [.tmp 10], (some 60), none⟩,
 ⟨.move, [.tmp 6], (some 61), none⟩,
 ⟨(.load true 2), [.tmp 2], (some 62), none⟩,
 ⟨.move, [.tmp 7], (some 63), none⟩,
 ⟨.move, [.tmp 11], (some 64), none⟩,
 ⟨(.bin .add), [.tmp 63, .tmp 64], (some 65), none⟩,
 ⟨(.callF 284), [.tmp 62, .tmp 65], (some 66), none⟩,
 ⟨(.indexAddrS 1), [.tmp 61, .tmp 66], (some 67), none⟩,
 ⟨(.load false 1), [.tmp 67], (some 68), none⟩,
 ⟨(.sliceLit 1 [(.int .u64 0)] [(0, 1)]), [.tmp 68], (some 69), none⟩,
 ⟨(.append 1 8), [.tmp 60, .tmp 69], (some 70), none⟩,
 ⟨.move, [.tmp 70], (some 10), none⟩])))
 (.seqR [⟨(.bin .add), [.tmp 57, .const (.int .u32 1)], (some 71), none⟩,
 ⟨.move, [.tmp 71], (some 57), none⟩])))))))
 (.seq (.seqR [⟨.move, [.tmp 10], (some 72), none⟩,
 ⟨.move, [.tmp 72], (some 4), none⟩,
 ⟨.move, [.const (.int .i64 0)], (some 5), none⟩])
 .ret))))))))), [.tmp 4, .tmp 5]⟩
theorem c323_ok : compFunc Tryz.prog Tryz.f323 = some c323 := by kernel_rfl
theorem c323_body : hasBody Tryz.prog 323 = true := hasBody_of Tryz.func323 (by kernel_rfl)
/-- (coachyard/ring.Row).Pop -/
def c324 : PFn := ⟨7, Tr.ofList (List.replicate 7 undefA), (.seq (.seqR [⟨.box, [.tmp 0], (some 1), none⟩,
 ⟨.move, [.const (.ptr none)], (some 2), none⟩])
 (.seq (.seqR [⟨(.load true 2), [.tmp 1], (some 3), none⟩,
 ⟨(.callF 250), [.tmp 3], (some 4), none⟩,
 ⟨(.mkFunc (.func 326) 0), [.tmp 1], (some 5), none⟩,
 ⟨(.callF 252), [.tmp 4, .tmp 5], (some 6), none⟩,
 ⟨.move, [.tmp 6], (some 2), none⟩])
 .ret)), [.tmp 2]⟩
theorem c324_ok : compFunc Tryz.prog Tryz.f324 = some c324 := by kernel_rfl
theorem c324_body : hasBody Tryz.prog 324 = true := hasBody_of Tryz.func324 (by kernel_rfl)
/-- (coachyard/ring.Row).Push -/
def c325 : PFn := ⟨9, Tr.ofList (List.replicate 9 undefA), (.seq (.seqR [⟨.box, [.tmp 0], (some 2), none⟩,
 ⟨.box, [.tmp 1], (some 3), none⟩,
 ⟨.move, [.const (.ptr none)], (some 4), none⟩])
 (.seq (.seqR [⟨(.load true 2), [.tmp 2], (some 5), none⟩,
 ⟨(.callF 250), [.tmp 5], (some 6), none⟩,
 ⟨(.mkFunc (.func 328) 0), [.tmp 2, .tmp 3], (some 7), none⟩,
 ⟨(.callF 252), [.tmp 6, .tmp 7], (some 8), none⟩,
 ⟨.move, [.tmp 8], (some 4), none⟩])
 .ret)), [.tmp 4]⟩
theorem c325_ok : compFunc Tryz.prog Tryz.f325 = some c325 := by kernel_rfl
theorem c325_body : hasBody Tryz.prog 325 = true := hasBody_of Tryz.func325 (by kernel_rfl)
/-- (coachyard/ring.Row).Pop$1 -/
def c326 : PFn := ⟨13, Tr.ofList (List.replicate 13 undefA), (.drawR [⟨⟨.move, [.tmp 0], (some 3), none⟩, false, false, 0, 2⟩,
 ⟨⟨(.load true 2), [.tmp 1], (some 4), none⟩, false, false, 0, 0⟩,
 ⟨⟨(.callF 254), [.tmp 4, .const (.int .i64 0)], (some 5), none⟩, true, false, 0, 2⟩,
 ⟨⟨(.load true 2), [.tmp 1], (some 6), none⟩, false, false, 0, 1⟩,
 ⟨⟨.move, [.tmp 0], (some 7), none⟩, false, false, 0, 1⟩,
 ⟨⟨(.build [(.int .i64 0), (.int .i64 0), (.ptr none), (.int .u64 0), (.int .u32 0), (.int .u32 0), (.int .u32 0), (.slice none 0 0 false)] [(0, 2), (2, 1)]), [.tmp 6, .tmp 7], (some 8), none⟩, false, false, 0, 1⟩,
 ⟨⟨(.build [(.int .i64 0), (.int .i64 0), (.ptr none), (.int .u64 0), (.int .u32 0), (.int .u32 0), (.int .u32 0), (.slice none 0 0 false)] [(0, 8)]), [.tmp 8], (some 9), none⟩, false, false, 0, 1⟩,
 ⟨⟨.box, [.tmp 9], (some 10), none⟩, true, true, 0, 2⟩,
 ⟨⟨(.mkFunc (.func 327) 1), [.tmp 10], (some 11), none⟩, false, false, 2, 2⟩,
 ⟨⟨(.callF 162), [.tmp 3, .tmp 5, .tmp 11], (some 12), none⟩, true, false, 2, 3⟩]), []⟩
theorem c326_ok : compFunc Tryz.prog Tryz.f326 = some c326 := by kernel_rfl
theorem c326_body : hasBody Tryz.prog 326 = true := hasBody_of Tryz.func326 (by kernel_rfl)
/-- (*coachyard/ring.pop).atHead -/
def c327 : PFn := ⟨25, Tr.ofList (List.replicate 25 undefA), (.seq (.seqR [⟨.move, [.tmp 0], (some 6), none⟩,
 ⟨.nilCheck, [.tmp 6], (some 7), none⟩,
 ⟨(.fieldAddr 0), [.tmp 7], (some 8), none⟩,
 ⟨.move, [.tmp 1], (some 9), none⟩,
 ⟨(.callF 278), [.tmp 8, .tmp 9], (some 10), none⟩])
 (.drawR [⟨⟨.move, [.tmp 0], (some 11), none⟩, false, false, 0, 1⟩,
 ⟨⟨.nilCheck, [.tmp 11], (some 12), none⟩, false, false, 0, 1⟩,
 ⟨⟨(.fieldAddr 0), [.tmp 12], (some 13), none⟩, false, false, 0, 1⟩,
 ⟨⟨(.fieldAddr 2), [.tmp 13], (some 14), none⟩, false, false, 0, 1⟩,
 ⟨⟨(.load false 1), [.tmp 14], (some 15), none⟩, false, false, 0, 1⟩,
 ⟨⟨.move, [.tmp 0], (some 16), none⟩, false, false, 0, 0⟩,
 ⟨⟨.nilCheck, [.tmp 16], (some 17), none⟩, false, false, 0, 0⟩,
 ⟨⟨(.fieldAddr 0), [.tmp 17], (some 18), none⟩, false, false, 0, 0⟩,
 ⟨⟨(.fieldAddr 0), [.tmp 18], (some 19), none⟩, false, false, 0, 0⟩,
 ⟨⟨(.load true 2), [.tmp 19], (some 20), none⟩, false, false, 0, 0⟩,
 ⟨⟨(.callF 254), [.tmp 20, .const (.int .i64 1)], (some 21), none⟩, true, false, 0, 1⟩,
 ⟨⟨.move, [.tmp 0], (some 22), none⟩, false, false, 0, 1⟩,
 ⟨⟨(.mkFunc (.func 330) 1), [.tmp 22], (some 23), none⟩, false, false, 0, 1⟩,
 ⟨⟨(.callF 162), [.tmp 15, .tmp 21, .tmp 23], (some 24), none⟩, true, false, 1, 2⟩])), []⟩
theorem c327_ok : compFunc Tryz.prog Tryz.f327 = some c327 := by kernel_rfl
theorem c327_body : hasBody Tryz.prog 327 = true := hasBody_of Tryz.func327 (by kernel_rfl)
/-- (coachyard/ring.Row).Push$1 -/
def c328 : PFn := ⟨22, Tr.ofList (List.replicate 22 undefA), (.seq (.seqR [⟨(.load true 2), [.tmp 1], (some 5), none⟩,
 ⟨.move, [.tmp 0], (some 6), none⟩,
 ⟨(.build [(.int .i64 0), (.int .i64 0), (.ptr none), (.int .u64 0), (.int .u32 0), (.int .u32 0), (.int .u32 0), (.slice none 0 0 false)] [(0, 2), (2, 1)]), [.tmp 5, .tmp 6], (some 7), none⟩,
 ⟨(.load false 1), [.tmp 2], (some 8), none⟩,
 ⟨(.build [(.int .i64 0), (.int .i64 0), (.ptr none), (.int .u64 0), (.int .u32 0), (.int .u32 0), (.int .u32 0), (.slice none 0 0 false), (.int .u64 0)] [(0, 8), (8, 1)]), [.tmp 7, .tmp 8], (some 9), none⟩,
 ⟨.box, [.tmp 9], (some 10), none⟩,
 ⟨.move, [.tmp 10], (some 4), none⟩])
 (.seq (.drawR [⟨⟨.move, [.tmp 4], (some 11), none⟩, false, false, 0, 0⟩,
 ⟨⟨.nilCheck, [.tmp 11], (some 12), none⟩, false, false, 0, 0⟩,
 ⟨⟨(.fieldAddr 0), [.tmp 12], (some 13), none⟩, false, false, 0, 0⟩,
 ⟨⟨(.load false 1), [.tmp 2], (some 14), none⟩, false, false, 0, 0⟩,
 ⟨⟨(.callF 285), [.tmp 13, .tmp 14], (some 15), none⟩, true, false, 0, 1⟩])
 (.seqR [⟨.move, [.tmp 0], (some 16), none⟩,
 ⟨(.load true 2), [.tmp 1], (some 17), none⟩,
 ⟨(.callF 254), [.tmp 17, .const (.int .i64 0)], (some 18), none⟩,
 ⟨.move, [.tmp 4], (some 19), none⟩,
 ⟨(.mkFunc (.func 329) 1), [.tmp 19], (some 20), none⟩,
 ⟨(.callF 162), [.tmp 16, .tmp 18, .tmp 20], (some 21), none⟩]))), []⟩
theorem c328_ok : compFunc Tryz.prog Tryz.f328 = some c328 := by kernel_rfl
theorem c328_body : hasBody Tryz.prog 328 = true := hasBody_of Tryz.func328 (by kernel_rfl)
/-- (*coachyard/ring.push).atHead -/
def c329 : PFn := ⟨25, Tr.ofList (List.replicate 25 undefA), (.seq (.seqR [⟨.move, [.tmp 0], (some 6), none⟩,
 ⟨.nilCheck, [.tmp 6], (some 7), none⟩,
 ⟨(.fieldAddr 0), [.tmp 7], (some 8), none⟩,
 ⟨.move, [.tmp 1], (some 9), none⟩,
 ⟨(.callF 278), [.tmp 8, .tmp 9], (some 10), none⟩])
 (.drawR [⟨⟨.move, [.tmp 0], (some 11), none⟩, false, false, 0, 1⟩,
 ⟨⟨.nilCheck, [.tmp 11], (some 12), none⟩, false, false, 0, 1⟩,
 ⟨⟨(.fieldAddr 0), [.tmp 12], (some 13), none⟩, false, false, 0, 1⟩,
 ⟨⟨(.fieldAddr 2), [.tmp 13], (some 14), none⟩, false, false, 0, 1⟩,
 ⟨⟨(.load false 1), [.tmp 14], (some 15), none⟩, false, false, 0, 1⟩,
 ⟨⟨.move, [.tmp 0], (some 16), none⟩, false, false, 0, 0⟩,
 ⟨⟨.nilCheck, [.tmp 16], (some 17), none⟩, false, false, 0, 0⟩,
 ⟨⟨(.fieldAddr 0), [.tmp 17], (some 18), none⟩, false, false, 0, 0⟩,
 ⟨⟨(.fieldAddr 0), [.tmp 18], (some 19), none⟩, false, false, 0, 0⟩,
 ⟨⟨(.load true 2), [.tmp 19], (some 20), none⟩, false, false, 0, 0⟩,
 ⟨⟨(.callF 254), [.tmp 20, .const (.int .i64 1)], (some 21), none⟩, true, false, 0, 1⟩,
 ⟨⟨.move, [.tmp 0], (some 22), none⟩, false, false, 0, 1⟩,
 ⟨⟨(.mkFunc (.func 331) 1), [.tmp 22], (some 23), none⟩, false, false, 0, 1⟩,
 ⟨⟨(.callF 162), [.tmp 15, .tmp 21, .tmp 23], (some 24), none⟩, true, false, 1, 2⟩])), []⟩
theorem c329_ok : compFunc Tryz.prog Tryz.f329 = some c329 := by kernel_rfl
theorem c329_body : hasBody Tryz.prog 329 = true := hasBody_of Tryz.func329 (by kernel_rfl)
/-- (*coachyard/ring.pop).atTail -/
def c330 : PFn := ⟨62, Tr.ofList (List.replicate 62 undefA), (.seq (.seq (.drawR [⟨⟨.move, [.tmp 1], (some 7), none⟩, false, false, 0, 0⟩,
 ⟨⟨(.callF 266), [.tmp 7], (some 8), none⟩, true, false, 0, 1⟩,
 ⟨⟨.move, [.tmp 0], (some 9), none⟩, false, false, 0, 1⟩,
 ⟨⟨.nilCheck, [.tmp 9], (some 10), none⟩, false, false, 0, 1⟩,
 ⟨⟨(.fieldAddr 0), [.tmp 10], (some 11), none⟩, false, false, 0, 1⟩,
 ⟨⟨(.fieldAddr 5), [.tmp 11], (some 12), none⟩, false, false, 0, 1⟩,
 ⟨⟨(.load false 1), [.tmp 12], (some 13), none⟩, false, false, 0, 1⟩,
 ⟨⟨(.callF 217), [.tmp 8, .tmp 13], (some 14), none⟩, true, false, 1, 2⟩,
 ⟨⟨(.bin .lss), [.tmp 14, .const (.int .i64 1)], (some 15), none⟩, false, false, 2, 2⟩])
 (.cond (.tmp 15) (.seq (.seqR [⟨.move, [.tmp 0], (some 16), none⟩,
 ⟨.nilCheck, [.tmp 16], (some 17), none⟩,
 ⟨(.fieldAddr 0), [.tmp 17], (some 18), none⟩,
 ⟨(.fieldAddr 2), [.tmp 18], (some 19), none⟩,
 ⟨(.load false 1), [.tmp 19], (some 20), none⟩,
 ⟨(.callF 62), [.tmp 20, .const (.int .i64 5)], (some 21), none⟩])
 .ret)
 .skip))
 (.seq (.seqR [⟨.move, [.tmp 0], (some 22), none⟩,
 ⟨.nilCheck, [.tmp 22], (some 23), none⟩,
 ⟨(.fieldAddr 0), [.tmp 23], (some 24), none⟩,
 ⟨(.fieldAddr 4), [.tmp 24], (some 25), none⟩,
 ⟨(.load false 1), [.tmp 25], (some 26), none⟩,
 ⟨.move, [.tmp 26], (some 6), none⟩])
 (.seq (.seq (.seqR [⟨.move, [.tmp 6], (some 27), none⟩,
 ⟨.move, [.tmp 0], (some 28), none⟩,
 ⟨.nilCheck, [.tmp 28], (some 29), none⟩,
 ⟨(.fieldAddr 0), [.tmp 29], (some 30), none⟩,
 ⟨(.fieldAddr 5), [.tmp 30], (some 31), none⟩,
 ⟨(.load false 1), [.tmp 31], (some 32), none⟩,
 ⟨(.bin .eql), [.tmp 27, .tmp 32], (some 33), none⟩])
 (.cond (.tmp 33) (.seqR [⟨.move, [.tmp 6], (some 34), none⟩,
 ⟨(.bin .add), [.tmp 34, .const (.int .u32 1)], (some 35), none⟩,
 ⟨.move, [.tmp 35], (some 6), none⟩])
 .skip))
 (.drawR [⟨⟨.move, [.tmp 0], (some 36), none⟩, false, false, 0, 1⟩,
 ⟨⟨.nilCheck, [.tmp 36], (some 37), none⟩, false, false, 0, 1⟩,
 ⟨⟨(.fieldAddr 0), [.tmp 37], (some 38), none⟩, false, false, 0, 1⟩,
 ⟨⟨(.fieldAddr 2), [.tmp 38], (some 39), none⟩, false, false, 0, 1⟩,
 ⟨⟨(.load false 1), [.tmp 39], (some 40), none⟩, false, false, 0, 1⟩,
 ⟨⟨.move, [.tmp 0], (some 41), none⟩, false, false, 0, 0⟩,
 ⟨⟨.nilCheck, [.tmp 41], (some 42), none⟩, false, false, 0, 0⟩,
 ⟨⟨(.fieldAddr 0), [.tmp 42], (some 43), none⟩, false, false, 0, 0⟩,
 ⟨⟨(.fieldAddr 0), [.tmp 43], (some 44), none⟩, false, false, 0, 0⟩,
 ⟨⟨(.load true 2), [.tmp 44], (some 45), none⟩, false, false, 0, 0⟩,
 ⟨⟨.move, [.tmp 0], (some 46), none⟩, false, false, 0, 0⟩,
 ⟨⟨.nilCheck, [.tmp 46], (some 47), none⟩, false, false, 0, 0⟩,
 ⟨⟨(.fieldAddr 0), [.tmp 47], (some 48), none⟩, false, false, 0, 0⟩,
 ⟨⟨(.fieldAddr 3), [.tmp 48], (some 49), none⟩, false, false, 0, 0⟩,
 ⟨⟨(.load false 1), [.tmp 49], (some 50), none⟩, false, false, 0, 0⟩,
 ⟨⟨.move, [.tmp 6], (some 51), none⟩, false, false, 0, 0⟩,
 ⟨⟨.move, [.tmp 0], (some 52), none⟩, false, false, 0, 0⟩,
 ⟨⟨.nilCheck, [.tmp 52], (some 53), none⟩, false, false, 0, 0⟩,
 ⟨⟨(.fieldAddr 0), [.tmp 53], (some 54), none⟩, false, false, 0, 0⟩,
 ⟨⟨(.fieldAddr 5), [.tmp 54], (some 55), none⟩, false, false, 0, 0⟩,
 ⟨⟨(.load false 1), [.tmp 55], (some 56), none⟩, false, false, 0, 0⟩,
 ⟨⟨(.bin .add), [.tmp 56, .const (.int .u32 1)], (some 57), none⟩, false, false, 0, 0⟩,
 ⟨⟨(.callF 280), [.tmp 45, .tmp 50, .tmp 51, .tmp 57], (some 58), none⟩, true, false, 0, 1⟩,
 ⟨⟨.move, [.tmp 0], (some 59), none⟩, false, false, 0, 1⟩,
 ⟨⟨(.mkFunc (.func 332) 1), [.tmp 59], (some 60), none⟩, false, false, 0, 1⟩,
 ⟨⟨(.callF 162), [.tmp 40, .tmp 58, .tmp 60], (some 61), none⟩, true, false, 1, 2⟩])))), []⟩
theorem c330_ok : compFunc Tryz.prog Tryz.f330 = some c330 := by kernel_rfl
theorem c330_body : hasBody Tryz.prog 330 = true := hasBody_of Tryz.func330 (by kernel_rfl)
/-- (*coachyard/ring.push).atTail -/
def c331 : PFn := ⟨114, Tr.ofList (List.replicate 114 undefA), (.seq (.seqR [⟨.move, [.tmp 0], (some 7), none⟩,
 ⟨.move, [.tmp 1], (some 8), none⟩,
 ⟨(.callF 266), [.tmp 8], (some 9), none⟩,
 ⟨.nilCheck, [.tmp 7], (some 10), none⟩,
 ⟨(.fieldAddr 0), [.tmp 10], (some 11), none⟩,
 ⟨(.fieldAddr 6), [.tmp 11], (some 12), none⟩,
 ⟨(.store 1), [.tmp 12, .tmp 9], none, none⟩])
 (.seq (.seqR [⟨.move, [.tmp 0], (some 13), none⟩,
 ⟨.nilCheck, [.tmp 13], (some 14), none⟩,
 ⟨(.fieldAddr 0), [.tmp 14], (some 15), none⟩,
 ⟨(.fieldAddr 0), [.tmp 15], (some 16), none⟩,
 ⟨(.fieldAddr 1), [.tmp 16], (some 17), none⟩,
 ⟨(.load false 1), [.tmp 17], (some 18), none⟩,
 ⟨(.bin .quo), [.tmp 18, .const (.int .i64 2)], (some 19), none⟩,
 ⟨(.conv .u32), [.tmp 19], (some 20), none⟩,
 ⟨.move, [.tmp 20], (some 6), none⟩])
 (.block 0 (.seq (.drawR [⟨⟨.move, [.tmp 0], (some 55), none⟩, false, false, 0, 0⟩,
 ⟨⟨.nilCheck, [.tmp 55], (some 56), none⟩, false, false, 0, 0⟩,
 ⟨⟨(.fieldAddr 0), [.tmp 56], (some 57), none⟩, false, false, 0, 0⟩,
 ⟨⟨(.fieldAddr 6), [.tmp 57], (some 58), none⟩, false, false, 0, 0⟩,
 ⟨⟨(.load false 1), [.tmp 58], (some 59), none⟩, false, false, 0, 0⟩,
 ⟨⟨.move, [.tmp 0], (some 60), none⟩, false, false, 0, 0⟩,
 ⟨⟨.nilCheck, [.tmp 60], (some 61), none⟩, false, false, 0, 0⟩,
 ⟨⟨(.fieldAddr 0), [.tmp 61], (some 62), none⟩, false, false, 0, 0⟩,
 ⟨⟨(.fieldAddr 4), [.tmp 62], (some 63), none⟩, false, false, 0, 0⟩,
 ⟨⟨(.load false 1), [.tmp 63], (some 64), none⟩, false, false, 0, 0⟩,
 ⟨⟨(.callF 217), [.tmp 59, .tmp 64], (some 65), none⟩, true, false, 0, 1⟩,
 ⟨⟨.move, [.tmp 0], (some 66), none⟩, false, false, 0, 1⟩,
 ⟨⟨.nilCheck, [.tmp 66], (some 67), none⟩, false, false, 0, 1⟩,
 ⟨⟨(.fieldAddr 0), [.tmp 67], (some 68), none⟩, false, false, 0, 1⟩,
 ⟨⟨(.fieldAddr 0), [.tmp 68], (some 69), none⟩, false, false, 0, 1⟩,
 ⟨⟨(.fieldAddr 1), [.tmp 69], (some 70), none⟩, false, false, 0, 1⟩,
 ⟨⟨(.load false 1), [.tmp 70], (some 71), none⟩, false, false, 0, 1⟩,
 ⟨⟨(.bin .lss), [.tmp 65, .tmp 71], (some 72), none⟩, false, false, 1, 1⟩,
 ⟨⟨.move, [.tmp 72], (some 54), none⟩, false, false, 1, 1⟩])
 (.cond (.tmp 54) (.drawR [⟨⟨.move, [.tmp 0], (some 73), none⟩, false, false, 0, 1⟩,
 ⟨⟨.nilCheck, [.tmp 73], (some 74), none⟩, false, false, 0, 1⟩,
 ⟨⟨(.fieldAddr 0), [.tmp 74], (some 75), none⟩, false, false, 0, 1⟩,
 ⟨⟨(.fieldAddr 2), [.tmp 75], (some 76), none⟩, false, false, 0, 1⟩,
 ⟨⟨(.load false 1), [.tmp 76], (some 77), none⟩, false, false, 0, 1⟩,
 ⟨⟨.move, [.tmp 0], (some 78), none⟩, false, false, 0, 0⟩,
 ⟨⟨.nilCheck, [.tmp 78], (some 79), none⟩, false, false, 0, 0⟩,
 ⟨⟨(.fieldAddr 0), [.tmp 79], (some 80), none⟩, false, false, 0, 0⟩,
 ⟨⟨(.fieldAddr 0), [.tmp 80], (some 81), none⟩, false, false, 0, 0⟩,
 ⟨⟨(.load true 2), [.tmp 81], (some 82), none⟩, false, false, 0, 0⟩,
 ⟨⟨.move, [.tmp 0], (some 83), none⟩, false, false, 0, 0⟩,
 ⟨⟨.nilCheck, [.tmp 83], (some 84), none⟩, false, false, 0, 0⟩,
 ⟨⟨(.fieldAddr 0), [.tmp 84], (some 85), none⟩, false, false, 0, 0⟩,
 ⟨⟨(.fieldAddr 6), [.tmp 85], (some 86), none⟩, false, false, 0, 0⟩,
 ⟨⟨(.load false 1), [.tmp 86], (some 87), none⟩, false, false, 0, 0⟩,
 ⟨⟨(.callF 284), [.tmp 82, .tmp 87], (some 88), none⟩, true, false, 0, 1⟩,
 ⟨⟨.move, [.tmp 0], (some 89), none⟩, false, false, 0, 1⟩,
 ⟨⟨.nilCheck, [.tmp 89], (some 90), none⟩, false, false, 0, 1⟩,
 ⟨⟨(.fieldAddr 8), [.tmp 90], (some 91), none⟩, false, false, 0, 1⟩,
 ⟨⟨(.load false 1), [.tmp 91], (some 92), none⟩, false, false, 0, 1⟩,
 ⟨⟨(.build [(.int .i64 0), (.int .i64 0), (.int .u64 0), (.int .u64 0)] [(0, 1), (1, 1), (2, 1)]), [.const (.int .i64 2), .tmp 88, .tmp 92], (some 93), none⟩, false, false, 1, 1⟩,
 ⟨⟨.move, [.tmp 0], (some 94), none⟩, false, false, 0, 1⟩,
 ⟨⟨(.mkFunc (.func 333) 1), [.tmp 94], (some 95), none⟩, false, false, 0, 1⟩,
 ⟨⟨(.callF 162), [.tmp 77, .tmp 93, .tmp 95], (some 96), none⟩, true, false, 1, 2⟩])
 (.seq (.drawR [⟨⟨.move, [.tmp 0], (some 98), none⟩, false, false, 0, 0⟩,
 ⟨⟨.nilCheck, [.tmp 98], (some 99), none⟩, false, false, 0, 0⟩,
 ⟨⟨(.fieldAddr 0), [.tmp 99], (some 100), none⟩, false, false, 0, 0⟩,
 ⟨⟨(.fieldAddr 4), [.tmp 100], (some 101), none⟩, false, false, 0, 0⟩,
 ⟨⟨(.load false 1), [.tmp 101], (some 102), none⟩, false, false, 0, 0⟩,
 ⟨⟨.move, [.tmp 0], (some 103), none⟩, false, false, 0, 0⟩,
 ⟨⟨.nilCheck, [.tmp 103], (some 104), none⟩, false, false, 0, 0⟩,
 ⟨⟨(.fieldAddr 0), [.tmp 104], (some 105), none⟩, false, false, 0, 0⟩,
 ⟨⟨(.fieldAddr 5), [.tmp 105], (some 106), none⟩, false, false, 0, 0⟩,
 ⟨⟨(.load false 1), [.tmp 106], (some 107), none⟩, false, false, 0, 0⟩,
 ⟨⟨(.bin .neq), [.tmp 102, .tmp 107], (some 108), none⟩, false, false, 0, 0⟩,
 ⟨⟨.move, [.tmp 108], (some 97), none⟩, false, false, 0, 0⟩])
 (.cond (.tmp 97) (.seqR [⟨.move, [.tmp 0], (some 109), none⟩,
 ⟨.nilCheck, [.tmp 109], (some 110), none⟩,
 ⟨(.fieldAddr 0), [.tmp 110], (some 111), none⟩,
 ⟨(.build [(.int .i64 0), (.int .u64 0), (.slice none 0 0 false)] [(0, 1)]), [.const (.int .i64 8)], (some 112), none⟩,
 ⟨(.callF 291), [.tmp 111, .tmp 112], (some 113), none⟩])
 (.drawR [⟨⟨.move, [.tmp 0], (some 21), none⟩, false, false, 0, 1⟩,
 ⟨⟨.nilCheck, [.tmp 21], (some 22), none⟩, false, false, 0, 1⟩,
 ⟨⟨(.fieldAddr 0), [.tmp 22], (some 23), none⟩, false, false, 0, 1⟩,
 ⟨⟨(.fieldAddr 2), [.tmp 23], (some 24), none⟩, false, false, 0, 1⟩,
 ⟨⟨(.load false 1), [.tmp 24], (some 25), none⟩, false, false, 0, 1⟩,
 ⟨⟨.move, [.tmp 0], (some 26), none⟩, false, false, 0, 0⟩,
 ⟨⟨.nilCheck, [.tmp 26], (some 27), none⟩, false, false, 0, 0⟩,
 ⟨⟨(.fieldAddr 0), [.tmp 27], (some 28), none⟩, false, false, 0, 0⟩,
 ⟨⟨(.fieldAddr 0), [.tmp 28], (some 29), none⟩, false, false, 0, 0⟩,
 ⟨⟨(.load true 2), [.tmp 29], (some 30), none⟩, false, false, 0, 0⟩,
 ⟨⟨.move, [.tmp 0], (some 31), none⟩, false, false, 0, 0⟩,
 ⟨⟨.nilCheck, [.tmp 31], (some 32), none⟩, false, false, 0, 0⟩,
 ⟨⟨(.fieldAddr 0), [.tmp 32], (some 33), none⟩, false, false, 0, 0⟩,
 ⟨⟨(.fieldAddr 3), [.tmp 33], (some 34), none⟩, false, false, 0, 0⟩,
 ⟨⟨(.load false 1), [.tmp 34], (some 35), none⟩, false, false, 0, 0⟩,
 ⟨⟨.move, [.tmp 0], (some 36), none⟩, false, false, 0, 0⟩,
 ⟨⟨.nilCheck, [.tmp 36], (some 37), none⟩, false, false, 0, 0⟩,
 ⟨⟨(.fieldAddr 0), [.tmp 37], (some 38), none⟩, false, false, 0, 0⟩,
 ⟨⟨(.fieldAddr 5), [.tmp 38], (some 39), none⟩, false, false, 0, 0⟩,
 ⟨⟨(.load false 1), [.tmp 39], (some 40), none⟩, false, false, 0, 0⟩,
 ⟨⟨.move, [.tmp 6], (some 41), none⟩, false, false, 0, 0⟩,
 ⟨⟨(.bin .add), [.tmp 40, .tmp 41], (some 42), none⟩, false, false, 0, 0⟩,
 ⟨⟨.move, [.tmp 0], (some 43), none⟩, false, false, 0, 0⟩,
 ⟨⟨.nilCheck, [.tmp 43], (some 44), none⟩, false, false, 0, 0⟩,
 ⟨⟨(.fieldAddr 0), [.tmp 44], (some 45), none⟩, false, false, 0, 0⟩,
 ⟨⟨(.fieldAddr 5), [.tmp 45], (some 46), none⟩, false, false, 0, 0⟩,
 ⟨⟨(.load false 1), [.tmp 46], (some 47), none⟩, false, false, 0, 0⟩,
 ⟨⟨.move, [.tmp 6], (some 48), none⟩, false, false, 0, 0⟩,
 ⟨⟨(.bin .add), [.tmp 47, .tmp 48], (some 49), none⟩, false, false, 0, 0⟩,
 ⟨⟨(.callF 280), [.tmp 30, .tmp 35, .tmp 42, .tmp 49], (some 50), none⟩, true, false, 0, 1⟩,
 ⟨⟨.move, [.tmp 0], (some 51), none⟩, false, false, 0, 1⟩,
 ⟨⟨(.mkFunc (.func 334) 1), [.tmp 51], (some 52), none⟩, false, false, 0, 1⟩,
 ⟨⟨(.callF 162), [.tmp 25, .tmp 50, .tmp 52], (some 53), none⟩, true, false, 1, 2⟩])))))))), []⟩
theorem c331_ok : compFunc Tryz.prog Tryz.f331 = some c331 := by kernel_rfl
theorem c331_body : hasBody Tryz.prog 331 = true := hasBody_of Tryz.func331 (by kernel_rfl)
/-- (*coachyard/ring.pop).claimed -/
def c332 : PFn := ⟨30, Tr.ofList (List.replicate 30 undefA), (.seq (.seq (.seqR [⟨.move, [.tmp 2], (some 6), none⟩,
 ⟨.not, [.tmp 6], (some 7), none⟩])
 (.cond (.tmp 7) (.seq (.seqR [⟨.move, [.tmp 0], (some 8), none⟩,
 ⟨.move, [.tmp 1], (some 9), none⟩,
 ⟨(.callF 327), [.tmp 8, .tmp 9, .const (.bool true)], (some 10), none⟩])
 .ret)
 .skip))
 (.drawR [⟨⟨.move, [.tmp 0], (some 11), none⟩, false, false, 0, 1⟩,
 ⟨⟨.nilCheck, [.tmp 11], (some 12), none⟩, false, false, 0, 1⟩,
 ⟨⟨(.fieldAddr 0), [.tmp 12], (some 13), none⟩, false, false, 0, 1⟩,
 ⟨⟨(.fieldAddr 2), [.tmp 13], (some 14), none⟩, false, false, 0, 1⟩,
 ⟨⟨(.load false 1), [.tmp 14], (some 15), none⟩, false, false, 0, 1⟩,
 ⟨⟨.move, [.tmp 0], (some 16), none⟩, false, false, 0, 0⟩,
 ⟨⟨.nilCheck, [.tmp 16], (some 17), none⟩, false, false, 0, 0⟩,
 ⟨⟨(.fieldAddr 0), [.tmp 17], (some 18), none⟩, false, false, 0, 0⟩,
 ⟨⟨(.fieldAddr 0), [.tmp 18], (some 19), none⟩, false, false, 0, 0⟩,
 ⟨⟨(.load true 2), [.tmp 19], (some 20), none⟩, false, false, 0, 0⟩,
 ⟨⟨.move, [.tmp 0], (some 21), none⟩, false, false, 0, 0⟩,
 ⟨⟨.nilCheck, [.tmp 21], (some 22), none⟩, false, false, 0, 0⟩,
 ⟨⟨(.fieldAddr 0), [.tmp 22], (some 23), none⟩, false, false, 0, 0⟩,
 ⟨⟨(.fieldAddr 5), [.tmp 23], (some 24), none⟩, false, false, 0, 0⟩,
 ⟨⟨(.load false 1), [.tmp 24], (some 25), none⟩, false, false, 0, 0⟩,
 ⟨⟨(.callF 282), [.tmp 20, .tmp 25], (some 26), none⟩, true, false, 0, 1⟩,
 ⟨⟨.move, [.tmp 0], (some 27), none⟩, false, false, 0, 1⟩,
 ⟨⟨(.mkFunc (.func 335) 1), [.tmp 27], (some 28), none⟩, false, false, 0, 1⟩,
 ⟨⟨(.callF 162), [.tmp 15, .tmp 26, .tmp 28], (some 29), none⟩, true, false, 1, 2⟩])), []⟩
theorem c332_ok : compFunc Tryz.prog Tryz.f332 = some c332 := by kernel_rfl
theorem c332_body : hasBody Tryz.prog 332 = true := hasBody_of Tryz.func332 (by kernel_rfl)
/-- (*coachyard/ring.push).laid -/
def c333 : PFn := ⟨26, Tr.ofList (List.replicate 26 undefA), (.drawR [⟨⟨.move, [.tmp 0], (some 6), none⟩, false, false, 0, 1⟩,
 ⟨⟨.nilCheck, [.tmp 6], (some 7), none⟩, false, false, 0, 1⟩,
 ⟨⟨(.fieldAddr 0), [.tmp 7], (some 8), none⟩, false, false, 0, 1⟩,
 ⟨⟨(.fieldAddr 2), [.tmp 8], (some 9), none⟩, false, false, 0, 1⟩,
 ⟨⟨(.load false 1), [.tmp 9], (some 10), none⟩, false, false, 0, 1⟩,
 ⟨⟨.move, [.tmp 0], (some 11), none⟩, false, false, 0, 0⟩,
 ⟨⟨.nilCheck, [.tmp 11], (some 12), none⟩, false, false, 0, 0⟩,
 ⟨⟨(.fieldAddr 0), [.tmp 12], (some 13), none⟩, false, false, 0, 0⟩,
 ⟨⟨(.fieldAddr 0), [.tmp 13], (some 14), none⟩, false, false, 0, 0⟩,
 ⟨⟨(.load true 2), [.tmp 14], (some 15), none⟩, false, false, 0, 0⟩,
 ⟨⟨.move, [.tmp 0], (some 16), none⟩, false, false, 0, 0⟩,
 ⟨⟨.nilCheck, [.tmp 16], (some 17), none⟩, false, false, 0, 0⟩,
 ⟨⟨(.fieldAddr 0), [.tmp 17], (some 18), none⟩, false, false, 0, 0⟩,
 ⟨⟨(.fieldAddr 6), [.tmp 18], (some 19), none⟩, false, false, 0, 0⟩,
 ⟨⟨(.load false 1), [.tmp 19], (some 20), none⟩, false, false, 0, 0⟩,
 ⟨⟨(.bin .add), [.tmp 20, .const (.int .u32 1)], (some 21), none⟩, false, false, 0, 0⟩,
 ⟨⟨(.callF 289), [.tmp 15, .tmp 21], (some 22), none⟩, true, false, 0, 1⟩,
 ⟨⟨.move, [.tmp 0], (some 23), none⟩, false, false, 0, 1⟩,
 ⟨⟨(.mkFunc (.func 336) 1), [.tmp 23], (some 24), none⟩, false, false, 0, 1⟩,
 ⟨⟨(.callF 162), [.tmp 10, .tmp 22, .tmp 24], (some 25), none⟩, true, false, 1, 2⟩]), []⟩
theorem c333_ok : compFunc Tryz.prog Tryz.f333 = some c333 := by kernel_rfl
theorem c333_body : hasBody Tryz.prog 333 = true := hasBody_of Tryz.func333 (by kernel_rfl)
/-- (*coachyard/ring.push).claimed -/
def c334 : PFn := ⟨30, Tr.ofList (List.replicate 30 undefA), (.seq (.seq (.seqR [⟨.move, [.tmp 2], (some 6), none⟩,
 ⟨.not, [.tmp 6], (some 7), none⟩])
 (.cond (.tmp 7) (.seq (.seqR [⟨.move, [.tmp 0], (some 8), none⟩,
 ⟨.move, [.tmp 1], (some 9), none⟩,
 ⟨(.callF 329), [.tmp 8, .tmp 9, .const (.bool true)], (some 10), none⟩])
 .ret)
 .skip))
 (.drawR [⟨⟨.move, [.tmp 0], (some 11), none⟩, false, false, 0, 1⟩,
 ⟨⟨.nilCheck, [.tmp 11], (some 12), none⟩, false, false, 0, 1⟩,
 ⟨⟨(.fieldAddr 0), [.tmp 12], (some 13), none⟩, false, false, 0, 1⟩,
 ⟨⟨(.fieldAddr 2), [.tmp 13], (some 14), none⟩, false, false, 0, 1⟩,
 ⟨⟨(.load false 1), [.tmp 14], (some 15), none⟩, false, false, 0, 1⟩,
 ⟨⟨.move, [.tmp 0], (some 16), none⟩, false, false, 0, 0⟩,
 ⟨⟨.nilCheck, [.tmp 16], (some 17), none⟩, false, false, 0, 0⟩,
 ⟨⟨(.fieldAddr 0), [.tmp 17], (some 18), none⟩, false, false, 0, 0⟩,
 ⟨⟨(.fieldAddr 0), [.tmp 18], (some 19), none⟩, false, false, 0, 0⟩,
 ⟨⟨(.load true 2), [.tmp 19], (some 20), none⟩, false, false, 0, 0⟩,
 ⟨⟨.move, [.tmp 0], (some 21), none⟩, false, false, 0, 0⟩,
 ⟨⟨.nilCheck, [.tmp 21], (some 22), none⟩, false, false, 0, 0⟩,
 ⟨⟨(.fieldAddr 0), [.tmp 22], (some 23), none⟩, false, false, 0, 0⟩,
 ⟨⟨(.fieldAddr 5), [.tmp 23], (some 24), none⟩, false, false, 0, 0⟩,
 ⟨⟨(.load false 1), [.tmp 24], (some 25), none⟩, false, false, 0, 0⟩,
 ⟨⟨(.callF 282), [.tmp 20, .tmp 25], (some 26), none⟩, true, false, 0, 1⟩,
 ⟨⟨.move, [.tmp 0], (some 27), none⟩, false, false, 0, 1⟩,
 ⟨⟨(.mkFunc (.func 337) 1), [.tmp 27], (some 28), none⟩, false, false, 0, 1⟩,
 ⟨⟨(.callF 162), [.tmp 15, .tmp 26, .tmp 28], (some 29), none⟩, true, false, 1, 2⟩])), []⟩
theorem c334_ok : compFunc Tryz.prog Tryz.f334 = some c334 := by kernel_rfl
theorem c334_body : hasBody Tryz.prog 334 = true := hasBody_of Tryz.func334 (by kernel_rfl)
/-- (*coachyard/ring.pop).got -/
def c335 : PFn := ⟨14, Tr.ofList (List.replicate 14 undefA), (.seqR [⟨.move, [.tmp 0], (some 6), none⟩,
 ⟨.nilCheck, [.tmp 6], (some 7), none⟩,
 ⟨(.fieldAddr 0), [.tmp 7], (some 8), none⟩,
 ⟨(.fieldAddr 2), [.tmp 8], (some 9), none⟩,
 ⟨(.load false 1), [.tmp 9], (some 10), none⟩,
 ⟨.move, [.tmp 1], (some 11), none⟩,
 ⟨(.build [(.int .i64 0), (.int .u64 0), (.slice none 0 0 false)] [(1, 1)]), [.tmp 11], (some 12), none⟩,
 ⟨(.callF 99), [.tmp 10, .tmp 12], (some 13), none⟩]), []⟩
theorem c335_ok : compFunc Tryz.prog Tryz.f335 = some c335 := by kernel_rfl
theorem c335_body : hasBody Tryz.prog 335 = true := hasBody_of Tryz.func335 (by kernel_rfl)
/-- (*coachyard/ring.push).done -/
def c336 : PFn := ⟨11, Tr.ofList (List.replicate 11 undefA), (.seqR [⟨.move, [.tmp 0], (some 6), none⟩,
 ⟨.nilCheck, [.tmp 6], (some 7), none⟩,
 ⟨(.fieldAddr 0), [.tmp 7], (some 8), none⟩,
 ⟨(.build [(.int .i64 0), (.int .u64 0), (.slice none 0 0 false)] []), [], (some 9), none⟩,
 ⟨(.callF 291), [.tmp 8, .tmp 9], (some 10), none⟩]), []⟩
theorem c336_ok : compFunc Tryz.prog Tryz.f336 = some c336 := by kernel_rfl
theorem c336_body : hasBody Tryz.prog 336 = true := hasBody_of Tryz.func336 (by kernel_rfl)
/-- (*coachyard/ring.push).got -/
def c337 : PFn := ⟨61, Tr.ofList (List.replicate 61 undefA), (.seq (.seqR [⟨.move, [.tmp 0], (some 7), none⟩,
 ⟨.nilCheck, [.tmp 7], (some 8), none⟩,
 ⟨(.fieldAddr 0), [.tmp 8], (some 9), none⟩,
 ⟨.move, [.tmp 1], (some 10), none⟩,
 ⟨(.callF 285), [.tmp 9, .tmp 10], (some 11), none⟩])
 (.seq (.seq (.seqR [⟨.move, [.tmp 0], (some 12), none⟩,
 ⟨.nilCheck, [.tmp 12], (some 13), none⟩,
 ⟨(.fieldAddr 0), [.tmp 13], (some 14), none⟩,
 ⟨(.fieldAddr 7), [.tmp 14], (some 15), none⟩,
 ⟨(.load false 1), [.tmp 15], (some 16), none⟩,
 ⟨.lenS, [.tmp 16], (some 17), none⟩,
 ⟨(.bin .sub), [.tmp 17, .const (.int .i64 1)], (some 18), none⟩,
 ⟨.move, [.tmp 18], (some 6), none⟩])
 (.seq (.seqR [⟨.move, [.tmp 6], (some 19), none⟩,
 ⟨.move, [.tmp 0], (some 20), none⟩,
 ⟨.nilCheck, [.tmp 20], (some 21), none⟩,
 ⟨(.fieldAddr 0), [.tmp 21], (some 22), none⟩,
 ⟨(.fieldAddr 0), [.tmp 22], (some 23), none⟩,
 ⟨(.fieldAddr 1), [.tmp 23], (some 24), none⟩,
 ⟨(.load false 1), [.tmp 24], (some 25), none⟩,
 ⟨(.bin .quo), [.tmp 25, .const (.int .i64 2)], (some 26), none⟩,
 ⟨(.bin .lss), [.tmp 19, .tmp 26], (some 27), none⟩])
 (.cond (.tmp 27) (.seq (.drawR [⟨⟨.move, [.tmp 0], (some 28), none⟩, false, false, 0, 1⟩,
 ⟨⟨.nilCheck, [.tmp 28], (some 29), none⟩, false, false, 0, 1⟩,
 ⟨⟨(.fieldAddr 0), [.tmp 29], (some 30), none⟩, false, false, 0, 1⟩,
 ⟨⟨(.fieldAddr 2), [.tmp 30], (some 31), none⟩, false, false, 0, 1⟩,
 ⟨⟨(.load false 1), [.tmp 31], (some 32), none⟩, false, false, 0, 1⟩,
 ⟨⟨.move, [.tmp 0], (some 33), none⟩, false, false, 0, 0⟩,
 ⟨⟨.nilCheck, [.tmp 33], (some 34), none⟩, false, false, 0, 0⟩,
 ⟨⟨(.fieldAddr 0), [.tmp 34], (some 35), none⟩, false, false, 0, 0⟩,
 ⟨⟨(.fieldAddr 0), [.tmp 35], (some 36), none⟩, false, false, 0, 0⟩,
 ⟨⟨(.load true 2), [.tmp 36], (some 37), none⟩, false, false, 0, 0⟩,
 ⟨⟨.move, [.tmp 0], (some 38), none⟩, false, false, 0, 0⟩,
 ⟨⟨.nilCheck, [.tmp 38], (some 39), none⟩, false, false, 0, 0⟩,
 ⟨⟨(.fieldAddr 0), [.tmp 39], (some 40), none⟩, false, false, 0, 0⟩,
 ⟨⟨(.fieldAddr 5), [.tmp 40], (some 41), none⟩, false, false, 0, 0⟩,
 ⟨⟨(.load false 1), [.tmp 41], (some 42), none⟩, false, false, 0, 0⟩,
 ⟨⟨.move, [.tmp 6], (some 43), none⟩, false, false, 0, 0⟩,
 ⟨⟨(.conv .u32), [.tmp 43], (some 44), none⟩, false, false, 0, 0⟩,
 ⟨⟨(.bin .add), [.tmp 42, .tmp 44], (some 45), none⟩, false, false, 0, 0⟩,
 ⟨⟨(.callF 282), [.tmp 37, .tmp 45], (some 46), none⟩, true, false, 0, 1⟩,
 ⟨⟨.move, [.tmp 0], (some 47), none⟩, false, false, 0, 1⟩,
 ⟨⟨(.mkFunc (.func 337) 1), [.tmp 47], (some 48), none⟩, false, false, 0, 1⟩,
 ⟨⟨(.callF 162), [.tmp 32, .tmp 46, .tmp 48], (some 49), none⟩, true, false, 1, 2⟩])
 .ret)
 .skip)))
 (.drawR [⟨⟨.move, [.tmp 0], (some 50), none⟩, false, false, 0, 0⟩,
 ⟨⟨.nilCheck, [.tmp 50], (some 51), none⟩, false, false, 0, 0⟩,
 ⟨⟨(.fieldAddr 0), [.tmp 51], (some 52), none⟩, false, false, 0, 0⟩,
 ⟨⟨.move, [.tmp 0], (some 53), none⟩, false, false, 0, 0⟩,
 ⟨⟨.nilCheck, [.tmp 53], (some 54), none⟩, false, false, 0, 0⟩,
 ⟨⟨(.fieldAddr 0), [.tmp 54], (some 55), none⟩, false, false, 0, 0⟩,
 ⟨⟨(.fieldAddr 7), [.tmp 55], (some 56), none⟩, false, false, 0, 0⟩,
 ⟨⟨(.load false 1), [.tmp 56], (some 57), none⟩, false, false, 0, 0⟩,
 ⟨⟨(.slice 1 true false false), [.tmp 57, .const (.int .i64 1)], (some 58), none⟩, false, false, 0, 0⟩,
 ⟨⟨(.build [(.int .i64 0), (.int .u64 0), (.slice none 0 0 false)] [(0, 1), (2, 1)]), [.const (.int .i64 4), .tmp 58], (some 59), none⟩, false, false, 0, 0⟩,
 ⟨⟨(.callF 291), [.tmp 52, .tmp 59], (some 60), none⟩, true, false, 0, 1⟩]))), []⟩
theorem c337_ok : compFunc Tryz.prog Tryz.f337 = some c337 := by kernel_rfl
theorem c337_body : hasBody Tryz.prog 337 = true := hasBody_of Tryz.func337 (by kernel_rfl)
/-- (coachyard/local.none).All -/
def c338 : PFn := ⟨8, Tr.ofList (List.replicate 8 undefA), (.seq (.seqR [⟨.box, [.tmp 0], (some 2), none⟩,
 ⟨.move, [.const (.slice none 0 0 false)], (some 4), none⟩,
 ⟨.move, [.const (.int .i64 0)], (some 5), none⟩])
 (.seq (.seq (.seqR [⟨.move, [.tmp 1], (some 6), none⟩,
 ⟨(.eqPtr false), [.tmp 6, .const (.ptr none)], (some 7), none⟩])
 (.cond (.tmp 7) (.seq (.seqR [⟨.move, [.const (.slice none 0 0 false)], (some 4), none⟩,
 ⟨.move, [.const (.int .i64 1)], (some 5), none⟩])
 .ret)
 .skip))
 (.seq (.seqR [⟨.move, [.const (.slice none 0 0 false)], (some 4), none⟩,
 ⟨.move, [.const (.int .i64 2)], (some 5), none⟩])
 .ret))), [.tmp 4, .tmp 5]⟩
theorem c338_ok : compFunc Tryz.prog Tryz.f338 = some c338 := by kernel_rfl
theorem c338_body : hasBody Tryz.prog 338 = true := hasBody_of Tryz.func338 (by kernel_rfl)
/-- (coachyard/local.none).Pop -/
def c339 : PFn := ⟨4, Tr.ofList (List.replicate 4 undefA), (.seq (.seqR [⟨.box, [.tmp 0], (some 1), none⟩,
 ⟨.move, [.const (.ptr none)], (some 2), none⟩])
 (.seq (.seqR [⟨(.callF 187), [], (some 3), none⟩,
 ⟨.move, [.tmp 3], (some 2), none⟩])
 .ret)), [.tmp 2]⟩
theorem c339_ok : compFunc Tryz.prog Tryz.f339 = some c339 := by kernel_rfl
theorem c339_body : hasBody Tryz.prog 339 = true := hasBody_of Tryz.func339 (by kernel_rfl)
/-- (coachyard/local.none).Push -/
def c340 : PFn := ⟨6, Tr.ofList (List.replicate 6 undefA), (.seq (.seqR [⟨.box, [.tmp 0], (some 2), none⟩,
 ⟨.move, [.const (.ptr none)], (some 4), none⟩])
 (.seq (.seqR [⟨(.callF 187), [], (some 5), none⟩,
 ⟨.move, [.tmp 5], (some 4), none⟩])
 .ret)), [.tmp 4]⟩
theorem c340_ok : compFunc Tryz.prog Tryz.f340 = some c340 := by kernel_rfl
theorem c340_body : hasBody Tryz.prog 340 = true := hasBody_of Tryz.func340 (by kernel_rfl)
/-- (coachyard/local.none).Right -/
def c341 : PFn := ⟨3, Tr.ofList (List.replicate 3 undefA), (.seq (.seqR [⟨.box, [.tmp 0], (some 1), none⟩,
 ⟨.move, [.const (.bool false)], (some 2), none⟩])
 (.seq (.seqR [⟨.move, [.const (.bool false)], (some 2), none⟩])
 .ret)), [.tmp 2]⟩
theorem c341_ok : compFunc Tryz.prog Tryz.f341 = some c341 := by kernel_rfl
theorem c341_body : hasBody Tryz.prog 341 = true := hasBody_of Tryz.func341 (by kernel_rfl)
end Go.Proofs.YtefcnhmbpkdlmabGreatDoor
