/- The code of the small machine for some of the program's functions: printed by program; each is what the rules make of the program's own. -/
import Derived.Test.YtefcnhmbpkdlmabGreatDoorVx16
import Derived.Test.YtefcnhmbpkdlmabGreatDoorProg
import Derived.KernelRfl
namespace Go.Proofs.YtefcnhmbpkdlmabGreatDoor
open Go Go.Vx Go.Proofs
/-- coachyard/coachyardlaw21.ExploreSame -/
def c3 : PFn := ⟨90, Tr.ofList (List.replicate 90 undefA), (.seq (.seqR [⟨.move, [.const (.bool false)], (some 8), none⟩])
 (.seq (.seq (.seqR [⟨(.callF 4), [], (some 11), none⟩,
 ⟨.not, [.tmp 11], (some 12), none⟩])
 (.cond (.tmp 12) (.seq (.seqR [⟨.move, [.const (.bool false)], (some 8), none⟩])
 .ret)
 .skip))
 (.seq (.seq (.seqR [⟨.move, [.tmp 0], (some 13), none⟩,
 ⟨.lenS, [.tmp 13], (some 14), none⟩,
 ⟨(.bin .gtr), [.tmp 14, .const (.int .i64 100)], (some 15), none⟩,
 ⟨.move, [.tmp 15], (some 16), none⟩,
 ⟨.move, [.tmp 1], (some 17), some (16, false)⟩,
 ⟨.lenS, [.tmp 17], (some 18), some (16, false)⟩,
 ⟨(.bin .gtr), [.tmp 18, .const (.int .i64 100)], (some 19), some (16, false)⟩,
 ⟨.pick, [.tmp 16, .const (.bool true), .tmp 19], (some 20), none⟩,
 ⟨.move, [.tmp 20], (some 21), none⟩,
 ⟨.move, [.tmp 2], (some 22), some (21, false)⟩,
 ⟨.lenS, [.tmp 22], (some 23), some (21, false)⟩,
 ⟨(.bin .gtr), [.tmp 23, .const (.int .i64 100)], (some 24), some (21, false)⟩,
 ⟨.pick, [.tmp 21, .const (.bool true), .tmp 24], (some 25), none⟩,
 ⟨.move, [.tmp 25], (some 26), none⟩,
 ⟨.move, [.tmp 3], (some 27), some (26, false)⟩,
 ⟨.lenS, [.tmp 27], (some 28), some (26, false)⟩,
 ⟨(.bin .gtr), [.tmp 28, .const (.int .i64 100)], (some 29), some (26, false)⟩,
 ⟨.pick, [.tmp 26, .const (.bool true), .tmp 29], (some 30), none⟩])
 (.cond (.tmp 30) (.seq (.seqR [⟨.move, [.const (.bool true)], (some 8), none⟩])
 .ret)
 .skip))
 (.seq (.seqR [⟨.move, [.tmp 0], (some 31), none⟩,
 ⟨.lenS, [.tmp 31], (some 32), none⟩,
 ⟨.move, [.tmp 1], (some 33), none⟩,
 ⟨.lenS, [.tmp 33], (some 34), none⟩,
 ⟨(.bin .eql), [.tmp 32, .tmp 34], (some 35), none⟩,
 ⟨.move, [.tmp 35], (some 36), none⟩,
 ⟨.move, [.tmp 2], (some 37), some (36, true)⟩,
 ⟨.move, [.tmp 3], (some 38), some (36, true)⟩,
 ⟨(.callF 5), [.tmp 37, .tmp 38], (some 39), some (36, true)⟩,
 ⟨.pick, [.tmp 36, .tmp 39, .const (.bool false)], (some 40), none⟩,
 ⟨.move, [.tmp 40], (some 9), none⟩])
 (.seq (.seq (.seqR [⟨.move, [.const (.int .i64 0)], (some 10), none⟩])
 (.block 0 (.loop (.seq (.seq (.seqR [⟨.move, [.tmp 10], (some 41), none⟩,
 ⟨.move, [.tmp 0], (some 42), none⟩,
 ⟨.lenS, [.tmp 42], (some 43), none⟩,
 ⟨(.bin .lss), [.tmp 41, .tmp 43], (some 44), none⟩,
 ⟨.move, [.tmp 44], (some 45), none⟩,
 ⟨.move, [.tmp 10], (some 46), some (45, true)⟩,
 ⟨.move, [.tmp 1], (some 47), some (45, true)⟩,
 ⟨.lenS, [.tmp 47], (some 48), some (45, true)⟩,
 ⟨(.bin .lss), [.tmp 46, .tmp 48], (some 49), some (45, true)⟩,
 ⟨.pick, [.tmp 45, .tmp 49, .const (.bool false)], (some 50), none⟩])
 (.cond (.tmp 50) .skip
 (.exit 0)))
 (.seq (.block 1 (.seq (.seq (.seqR [⟨.move, [.tmp 0], (some 53), none⟩,
 ⟨.move, [.tmp 10], (some 54), none⟩,
 ⟨(.indexAddrS 3), [.tmp 53, .tmp 54], (some 55), none⟩,
 ⟨(.fieldAddr 2), [.tmp 55], (some 56), none⟩,
 ⟨(.load false 1), [.tmp 56], (some 57), none⟩,
 ⟨.lenS, [.tmp 57], (some 58), none⟩,
 ⟨(.bin .gtr), [.tmp 58, .const (.int .i64 100)], (some 59), none⟩,
 ⟨.move, [.tmp 59], (some 60), none⟩,
 ⟨.move, [.tmp 1], (some 61), some (60, false)⟩,
 ⟨.move, [.tmp 10], (some 62), some (60, false)⟩,
 ⟨(.indexAddrS 3), [.tmp 61, .tmp 62], (some 63), some (60, false)⟩,
 ⟨(.fieldAddr 2), [.tmp 63], (some 64), some (60, false)⟩,
 ⟨(.load false 1), [.tmp 64], (some 65), some (60, false)⟩,
 ⟨.lenS, [.tmp 65], (some 66), some (60, false)⟩,
 ⟨(.bin .gtr), [.tmp 66, .const (.int .i64 100)], (some 67), some (60, false)⟩,
 ⟨.pick, [.tmp 60, .const (.bool true), .tmp 67], (some 68), none⟩])
 (.cond (.tmp 68) (.seq (.seqR [⟨.move, [.const (.bool true)], (some 8), none⟩])
 .ret)
 .skip))
 (.drawR [⟨⟨.move, [.tmp 9], (some 69), none⟩, false, false, 0, 0⟩,
 ⟨⟨.move, [.tmp 69], (some 70), none⟩, false, false, 0, 0⟩,
 ⟨⟨.move, [.tmp 0], (some 71), some (70, true)⟩, false, false, 0, 0⟩,
 ⟨⟨.move, [.tmp 10], (some 72), some (70, true)⟩, false, false, 0, 0⟩,
 ⟨⟨(.indexAddrS 3), [.tmp 71, .tmp 72], (some 73), some (70, true)⟩, false, false, 0, 0⟩,
 ⟨⟨(.load true 3), [.tmp 73], (some 74), some (70, true)⟩, false, false, 0, 0⟩,
 ⟨⟨.move, [.tmp 1], (some 75), some (70, true)⟩, false, false, 0, 0⟩,
 ⟨⟨.move, [.tmp 10], (some 76), some (70, true)⟩, false, false, 0, 0⟩,
 ⟨⟨(.indexAddrS 3), [.tmp 75, .tmp 76], (some 77), some (70, true)⟩, false, false, 0, 0⟩,
 ⟨⟨(.load true 3), [.tmp 77], (some 78), some (70, true)⟩, false, false, 0, 0⟩,
 ⟨⟨(.callF 6), [.tmp 74, .tmp 78], (some 79), some (70, true)⟩, true, false, 0, 1⟩,
 ⟨⟨.pick, [.tmp 70, .tmp 79, .const (.bool false)], (some 80), none⟩, false, false, 1, 1⟩,
 ⟨⟨.move, [.tmp 80], (some 9), none⟩, false, false, 1, 1⟩])))
 (.seqR [⟨.move, [.tmp 10], (some 51), none⟩,
 ⟨(.bin .add), [.tmp 51, .const (.int .i64 1)], (some 52), none⟩,
 ⟨.move, [.tmp 52], (some 10), none⟩]))))))
 (.seq (.seqR [⟨.move, [.tmp 0], (some 81), none⟩,
 ⟨.move, [.tmp 2], (some 82), none⟩,
 ⟨(.build [(.slice none 0 0 false), (.slice none 0 0 false)] [(0, 1), (1, 1)]), [.tmp 81, .tmp 82], (some 83), none⟩,
 ⟨.move, [.tmp 1], (some 84), none⟩,
 ⟨.move, [.tmp 3], (some 85), none⟩,
 ⟨(.build [(.slice none 0 0 false), (.slice none 0 0 false)] [(0, 1), (1, 1)]), [.tmp 84, .tmp 85], (some 86), none⟩,
 ⟨(.callF 7), [.tmp 83, .tmp 86], (some 87), none⟩,
 ⟨.move, [.tmp 9], (some 88), none⟩,
 ⟨(.eqBool false), [.tmp 87, .tmp 88], (some 89), none⟩,
 ⟨.move, [.tmp 89], (some 8), none⟩])
 .ret)))))), [.tmp 8]⟩
theorem c3_ok : compFunc Tryz.prog Tryz.f3 = some c3 := by kernel_rfl
theorem c3_body : hasBody Tryz.prog 3 = true := hasBody_of Tryz.func3 (by kernel_rfl)
/-- coachyard/coachyardlaw21.awake -/
def c4 : PFn := ⟨41, Tr.ofList (List.replicate 41 undefA), (.seq (.seqR [⟨.move, [.const (.bool false)], (some 0), none⟩])
 (.seq (.seqR [⟨(.build [(.int .i64 0), (.int .i64 0), (.int .i64 0), (.int .i64 0)] [(0, 1), (2, 1), (3, 1)]), [.const (.int .i64 2), .const (.int .i64 2), .const (.int .i64 2)], (some 5), none⟩,
 ⟨(.build [(.int .i64 0), (.int .u64 0), (.slice none 0 0 false)] [(0, 1)]), [.const (.int .i64 3)], (some 6), none⟩,
 ⟨(.sliceLit 1 [(.int .i64 0), (.int .u64 0), (.slice none 0 0 false)] [(0, 3)]), [.tmp 6], (some 7), none⟩,
 ⟨(.callF 8), [.tmp 5, .const (.slice none 0 0 false), .tmp 7, .const (.int .i64 5)], (some 8), none⟩,
 ⟨.move, [.tmp 8], (some 4), none⟩,
 ⟨(.extract 0), [.tmp 4], (some 9), none⟩,
 ⟨(.extract 1), [.tmp 4], (some 10), none⟩,
 ⟨(.extract 2), [.tmp 4], (some 11), none⟩,
 ⟨.move, [.tmp 9], (some 1), none⟩,
 ⟨.move, [.tmp 10], (some 2), none⟩,
 ⟨.move, [.tmp 11], (some 3), none⟩])
 (.seq (.seqR [⟨.move, [.tmp 3], (some 12), none⟩,
 ⟨(.bin .eql), [.tmp 12, .const (.int .i64 0)], (some 13), none⟩,
 ⟨.move, [.tmp 13], (some 14), none⟩,
 ⟨.move, [.tmp 2], (some 15), some (14, true)⟩,
 ⟨(.bin .eql), [.tmp 15, .const (.int .i64 1)], (some 16), some (14, true)⟩,
 ⟨.pick, [.tmp 14, .tmp 16, .const (.bool false)], (some 17), none⟩,
 ⟨.move, [.tmp 17], (some 18), none⟩,
 ⟨.move, [.tmp 1], (some 19), some (18, true)⟩,
 ⟨.lenS, [.tmp 19], (some 20), some (18, true)⟩,
 ⟨(.bin .eql), [.tmp 20, .const (.int .i64 1)], (some 21), some (18, true)⟩,
 ⟨.pick, [.tmp 18, .tmp 21, .const (.bool false)], (some 22), none⟩,
 ⟨.move, [.tmp 22], (some 23), none⟩,
 ⟨.move, [.tmp 1], (some 24), some (23, true)⟩,
 ⟨(.indexAddrS 2), [.tmp 24, .const (.int .i64 0)], (some 25), some (23, true)⟩,
 ⟨(.fieldAddr 0), [.tmp 25], (some 26), some (23, true)⟩,
 ⟨(.load false 1), [.tmp 26], (some 27), some (23, true)⟩,
 ⟨.lenS, [.tmp 27], (some 28), some (23, true)⟩,
 ⟨(.bin .eql), [.tmp 28, .const (.int .i64 1)], (some 29), some (23, true)⟩,
 ⟨.pick, [.tmp 23, .tmp 29, .const (.bool false)], (some 30), none⟩,
 ⟨.move, [.tmp 30], (some 31), none⟩,
 ⟨.move, [.tmp 1], (some 32), some (31, true)⟩,
 ⟨(.indexAddrS 2), [.tmp 32, .const (.int .i64 0)], (some 33), some (31, true)⟩,
 ⟨(.fieldAddr 0), [.tmp 33], (some 34), some (31, true)⟩,
 ⟨(.load false 1), [.tmp 34], (some 35), some (31, true)⟩,
 ⟨(.indexAddrS 3), [.tmp 35, .const (.int .i64 0)], (some 36), some (31, true)⟩,
 ⟨(.fieldAddr 0), [.tmp 36], (some 37), some (31, true)⟩,
 ⟨(.load false 1), [.tmp 37], (some 38), some (31, true)⟩,
 ⟨(.bin .eql), [.tmp 38, .const (.int .i64 11)], (some 39), some (31, true)⟩,
 ⟨.pick, [.tmp 31, .tmp 39, .const (.bool false)], (some 40), none⟩,
 ⟨.move, [.tmp 40], (some 0), none⟩])
 .ret))), [.tmp 0]⟩
theorem c4_ok : compFunc Tryz.prog Tryz.f4 = some c4 := by kernel_rfl
theorem c4_body : hasBody Tryz.prog 4 = true := hasBody_of Tryz.func4 (by kernel_rfl)
/-- coachyard/coachyardref01.Same -/
def c5 : PFn := ⟨26, Tr.ofList (List.replicate 26 undefA), (.seq (.seqR [⟨.move, [.const (.bool false)], (some 4), none⟩])
 (.seq (.seq (.seqR [⟨.move, [.tmp 0], (some 6), none⟩,
 ⟨.lenS, [.tmp 6], (some 7), none⟩,
 ⟨.move, [.tmp 1], (some 8), none⟩,
 ⟨.lenS, [.tmp 8], (some 9), none⟩,
 ⟨(.bin .neq), [.tmp 7, .tmp 9], (some 10), none⟩])
 (.cond (.tmp 10) (.seq (.seqR [⟨.move, [.const (.bool false)], (some 4), none⟩])
 .ret)
 .skip))
 (.seq (.seq (.seqR [⟨.move, [.const (.int .i64 0)], (some 5), none⟩])
 (.block 0 (.loop (.seq (.seq (.seqR [⟨.move, [.tmp 5], (some 11), none⟩,
 ⟨.move, [.tmp 0], (some 12), none⟩,
 ⟨.lenS, [.tmp 12], (some 13), none⟩,
 ⟨(.bin .lss), [.tmp 11, .tmp 13], (some 14), none⟩])
 (.cond (.tmp 14) .skip
 (.exit 0)))
 (.seq (.block 1 (.seq (.drawR [⟨⟨.move, [.tmp 0], (some 17), none⟩, false, false, 0, 0⟩,
 ⟨⟨.move, [.tmp 5], (some 18), none⟩, false, false, 0, 0⟩,
 ⟨⟨(.indexAddrS 1), [.tmp 17, .tmp 18], (some 19), none⟩, false, false, 0, 0⟩,
 ⟨⟨(.load false 1), [.tmp 19], (some 20), none⟩, false, false, 0, 0⟩,
 ⟨⟨.move, [.tmp 1], (some 21), none⟩, false, false, 0, 0⟩,
 ⟨⟨.move, [.tmp 5], (some 22), none⟩, false, false, 0, 0⟩,
 ⟨⟨(.indexAddrS 1), [.tmp 21, .tmp 22], (some 23), none⟩, false, false, 0, 0⟩,
 ⟨⟨(.load false 1), [.tmp 23], (some 24), none⟩, false, false, 0, 0⟩,
 ⟨⟨(.bin .neq), [.tmp 20, .tmp 24], (some 25), none⟩, false, false, 0, 0⟩])
 (.cond (.tmp 25) (.seq (.seqR [⟨.move, [.const (.bool false)], (some 4), none⟩])
 .ret)
 .skip)))
 (.seqR [⟨.move, [.tmp 5], (some 15), none⟩,
 ⟨(.bin .add), [.tmp 15, .const (.int .i64 1)], (some 16), none⟩,
 ⟨.move, [.tmp 16], (some 5), none⟩]))))))
 (.seq (.seqR [⟨.move, [.const (.bool true)], (some 4), none⟩])
 .ret)))), [.tmp 4]⟩
theorem c5_ok : compFunc Tryz.prog Tryz.f5 = some c5 := by kernel_rfl
theorem c5_body : hasBody Tryz.prog 5 = true := hasBody_of Tryz.func5 (by kernel_rfl)
/-- coachyard/coachyardref15.SameResult -/
def c6 : PFn := ⟨24, Tr.ofList (List.replicate 24 undefA), (.seq (.seqR [⟨.box, [.tmp 0], (some 2), none⟩,
 ⟨.box, [.tmp 1], (some 3), none⟩,
 ⟨.move, [.const (.bool false)], (some 4), none⟩])
 (.seq (.seqR [⟨(.fieldAddr 0), [.tmp 2], (some 5), none⟩,
 ⟨(.load false 1), [.tmp 5], (some 6), none⟩,
 ⟨(.fieldAddr 0), [.tmp 3], (some 7), none⟩,
 ⟨(.load false 1), [.tmp 7], (some 8), none⟩,
 ⟨(.bin .eql), [.tmp 6, .tmp 8], (some 9), none⟩,
 ⟨.move, [.tmp 9], (some 10), none⟩,
 ⟨(.fieldAddr 1), [.tmp 2], (some 11), some (10, true)⟩,
 ⟨(.load false 1), [.tmp 11], (some 12), some (10, true)⟩,
 ⟨(.fieldAddr 1), [.tmp 3], (some 13), some (10, true)⟩,
 ⟨(.load false 1), [.tmp 13], (some 14), some (10, true)⟩,
 ⟨(.bin .eql), [.tmp 12, .tmp 14], (some 15), some (10, true)⟩,
 ⟨.pick, [.tmp 10, .tmp 15, .const (.bool false)], (some 16), none⟩,
 ⟨.move, [.tmp 16], (some 17), none⟩,
 ⟨(.fieldAddr 2), [.tmp 2], (some 18), some (17, true)⟩,
 ⟨(.load false 1), [.tmp 18], (some 19), some (17, true)⟩,
 ⟨(.fieldAddr 2), [.tmp 3], (some 20), some (17, true)⟩,
 ⟨(.load false 1), [.tmp 20], (some 21), some (17, true)⟩,
 ⟨(.callF 5), [.tmp 19, .tmp 21], (some 22), some (17, true)⟩,
 ⟨.pick, [.tmp 17, .tmp 22, .const (.bool false)], (some 23), none⟩,
 ⟨.move, [.tmp 23], (some 4), none⟩])
 .ret)), [.tmp 4]⟩
theorem c6_ok : compFunc Tryz.prog Tryz.f6 = some c6 := by kernel_rfl
theorem c6_body : hasBody Tryz.prog 6 = true := hasBody_of Tryz.func6 (by kernel_rfl)
/-- coachyard/explore.Same -/
def c7 : PFn := ⟨17, Tr.ofList (List.replicate 17 undefA), (.seq (.seqR [⟨.box, [.tmp 0], (some 2), none⟩,
 ⟨.box, [.tmp 1], (some 3), none⟩,
 ⟨.move, [.const (.bool false)], (some 4), none⟩])
 (.seq (.seqR [⟨(.fieldAddr 0), [.tmp 2], (some 5), none⟩,
 ⟨(.load false 1), [.tmp 5], (some 6), none⟩,
 ⟨(.fieldAddr 0), [.tmp 3], (some 7), none⟩,
 ⟨(.load false 1), [.tmp 7], (some 8), none⟩,
 ⟨(.callF 9), [.tmp 6, .tmp 8, .const (.func (.func 10) [] [])], (some 9), none⟩,
 ⟨.move, [.tmp 9], (some 10), none⟩,
 ⟨(.fieldAddr 1), [.tmp 2], (some 11), some (10, true)⟩,
 ⟨(.load false 1), [.tmp 11], (some 12), some (10, true)⟩,
 ⟨(.fieldAddr 1), [.tmp 3], (some 13), some (10, true)⟩,
 ⟨(.load false 1), [.tmp 13], (some 14), some (10, true)⟩,
 ⟨(.callF 11), [.tmp 12, .tmp 14], (some 15), some (10, true)⟩,
 ⟨.pick, [.tmp 10, .tmp 15, .const (.bool false)], (some 16), none⟩,
 ⟨.move, [.tmp 16], (some 4), none⟩])
 .ret)), [.tmp 4]⟩
theorem c7_ok : compFunc Tryz.prog Tryz.f7 = some c7 := by kernel_rfl
theorem c7_body : hasBody Tryz.prog 7 = true := hasBody_of Tryz.func7 (by kernel_rfl)
/-- coachyard/explore.Runs -/
def c8 : PFn := ⟨46, Tr.ofList (List.replicate 46 undefA), (.seq (.seqR [⟨.box, [.tmp 0], (some 4), none⟩,
 ⟨.move, [.const (.slice none 0 0 false)], (some 8), none⟩,
 ⟨.move, [.const (.int .i64 0)], (some 9), none⟩,
 ⟨.move, [.const (.int .i64 0)], (some 10), none⟩])
 (.seq (.seq (.seqR [⟨(.load true 4), [.tmp 4], (some 15), none⟩,
 ⟨(.callF 12), [.tmp 15], (some 16), none⟩,
 ⟨.move, [.tmp 16], (some 14), none⟩,
 ⟨(.extract 0), [.tmp 14], (some 17), none⟩,
 ⟨(.extract 1), [.tmp 14], (some 18), none⟩,
 ⟨.move, [.tmp 17], (some 11), none⟩,
 ⟨.move, [.tmp 18], (some 12), none⟩])
 (.seq (.seqR [⟨.move, [.tmp 12], (some 19), none⟩,
 ⟨(.bin .neq), [.tmp 19, .const (.int .i64 0)], (some 20), none⟩])
 (.cond (.tmp 20) (.seq (.seqR [⟨.move, [.tmp 12], (some 21), none⟩,
 ⟨.move, [.const (.slice none 0 0 false)], (some 8), none⟩,
 ⟨.move, [.const (.int .i64 0)], (some 9), none⟩,
 ⟨.move, [.tmp 21], (some 10), none⟩])
 .ret)
 .skip)))
 (.seq (.seqR [⟨(.load true 4), [.tmp 4], (some 22), none⟩,
 ⟨.move, [.tmp 1], (some 23), none⟩,
 ⟨.move, [.tmp 2], (some 24), none⟩,
 ⟨.move, [.tmp 3], (some 25), none⟩,
 ⟨(.build [(.int .i64 0), (.int .i64 0), (.int .i64 0), (.int .i64 0), (.slice none 0 0 false), (.slice none 0 0 false), (.int .i64 0), (.slice none 0 0 false), (.int .i64 0), (.slice none 0 0 false)] [(0, 4), (4, 1), (5, 1), (6, 1)]), [.tmp 22, .tmp 23, .tmp 24, .tmp 25], (some 26), none⟩,
 ⟨.box, [.tmp 26], (some 27), none⟩,
 ⟨.move, [.tmp 27], (some 13), none⟩])
 (.seq (.seq (.seqR [⟨.move, [.tmp 2], (some 28), none⟩,
 ⟨.lenS, [.tmp 28], (some 29), none⟩,
 ⟨(.fieldAddr 0), [.tmp 4], (some 30), none⟩,
 ⟨(.load false 1), [.tmp 30], (some 31), none⟩,
 ⟨(.bin .gtr), [.tmp 29, .tmp 31], (some 32), none⟩,
 ⟨.move, [.tmp 32], (some 33), none⟩,
 ⟨.move, [.tmp 13], (some 34), some (33, false)⟩,
 ⟨(.callF 13), [.tmp 34], (some 35), some (33, false)⟩,
 ⟨.not, [.tmp 35], (some 36), some (33, false)⟩,
 ⟨.pick, [.tmp 33, .const (.bool true), .tmp 36], (some 37), none⟩])
 (.cond (.tmp 37) (.seq (.seqR [⟨.move, [.const (.slice none 0 0 false)], (some 8), none⟩,
 ⟨.move, [.const (.int .i64 0)], (some 9), none⟩,
 ⟨.move, [.const (.int .i64 14)], (some 10), none⟩])
 .ret)
 .skip))
 (.seq (.drawR [⟨⟨.move, [.tmp 13], (some 38), none⟩, false, false, 0, 0⟩,
 ⟨⟨.nilCheck, [.tmp 38], (some 39), none⟩, false, false, 0, 0⟩,
 ⟨⟨(.fieldAddr 9), [.tmp 39], (some 40), none⟩, false, false, 0, 0⟩,
 ⟨⟨(.load false 1), [.tmp 40], (some 41), none⟩, false, false, 0, 0⟩,
 ⟨⟨.move, [.tmp 13], (some 42), none⟩, false, false, 0, 0⟩,
 ⟨⟨.nilCheck, [.tmp 42], (some 43), none⟩, false, false, 0, 0⟩,
 ⟨⟨(.fieldAddr 8), [.tmp 43], (some 44), none⟩, false, false, 0, 0⟩,
 ⟨⟨(.load false 1), [.tmp 44], (some 45), none⟩, false, false, 0, 0⟩,
 ⟨⟨.move, [.tmp 41], (some 8), none⟩, false, false, 0, 0⟩,
 ⟨⟨.move, [.tmp 45], (some 9), none⟩, false, false, 0, 0⟩,
 ⟨⟨.move, [.const (.int .i64 0)], (some 10), none⟩, false, false, 0, 0⟩])
 .ret))))), [.tmp 8, .tmp 9, .tmp 10]⟩
theorem c8_ok : compFunc Tryz.prog Tryz.f8 = some c8 := by kernel_rfl
theorem c8_body : hasBody Tryz.prog 8 = true := hasBody_of Tryz.func8 (by kernel_rfl)
/-- slices.EqualFunc[[]coachyard/api.Result,[]coachyard/api.Result,coachyard/api.Result,coachyard/api.Result] -/
def c9 : PFn := ⟨32, Tr.ofList (List.replicate 32 undefA), (.seq (.seqR [⟨.move, [.const (.bool false)], (some 6), none⟩])
 (.seq (.seq (.seqR [⟨.move, [.tmp 0], (some 10), none⟩,
 ⟨.lenS, [.tmp 10], (some 11), none⟩,
 ⟨.move, [.tmp 1], (some 12), none⟩,
 ⟨.lenS, [.tmp 12], (some 13), none⟩,
 ⟨(.bin .neq), [.tmp 11, .tmp 13], (some 14), none⟩])
 (.cond (.tmp 14) (.seq (.seqR [⟨.move, [.const (.bool false)], (some 6), none⟩])
 .ret)
 .skip))
 (.seq (.seq (.seqR [⟨.move, [.tmp 0], (some 15), none⟩,
 ⟨.lenS, [.tmp 15], (some 16), none⟩,
 ⟨.move, [.const (.int .i64 0)], (some 17), none⟩])
 (.block 0 (.loop (.seq (.seqR [⟨(.bin .lss), [.tmp 17, .tmp 16], (some 18), none⟩])
 (.seq (.cond (.tmp 18) .skip
 (.exit 0))
 (.seq (.block 1 (.seq (.seqR [⟨.move, [.tmp 17], (some 19), none⟩,
 ⟨(.indexAddrS 3), [.tmp 15, .tmp 17], (some 20), none⟩,
 ⟨(.load true 3), [.tmp 20], (some 21), none⟩,
 ⟨(.new [(.int .i64 0), (.int .u64 0), (.slice none 0 0 false)]), [], (some 8), none⟩,
 ⟨.move, [.tmp 19], (some 7), none⟩,
 ⟨(.store 3), [.tmp 8, .tmp 21], none, none⟩])
 (.seq (.seqR [⟨.move, [.tmp 1], (some 22), none⟩,
 ⟨.move, [.tmp 7], (some 23), none⟩,
 ⟨(.indexAddrS 3), [.tmp 22, .tmp 23], (some 24), none⟩,
 ⟨(.load true 3), [.tmp 24], (some 25), none⟩,
 ⟨(.new [(.int .i64 0), (.int .u64 0), (.slice none 0 0 false)]), [], (some 9), none⟩,
 ⟨(.store 3), [.tmp 9, .tmp 25], none, none⟩])
 (.seq (.seqR [⟨.move, [.tmp 2], (some 26), none⟩,
 ⟨(.load true 3), [.tmp 8], (some 27), none⟩,
 ⟨(.load true 3), [.tmp 9], (some 28), none⟩,
 ⟨.callV, [.tmp 26, .tmp 27, .tmp 28], (some 29), none⟩,
 ⟨.not, [.tmp 29], (some 30), none⟩])
 (.cond (.tmp 30) (.seq (.seqR [⟨.move, [.const (.bool false)], (some 6), none⟩])
 .ret)
 .skip)))))
 (.seqR [⟨(.bin .add), [.tmp 17, .const (.int .i64 1)], (some 31), none⟩,
 ⟨.move, [.tmp 31], (some 17), none⟩])))))))
 (.seq (.seqR [⟨.move, [.const (.bool true)], (some 6), none⟩])
 .ret)))), [.tmp 6]⟩
theorem c9_ok : compFunc Tryz.prog Tryz.f9 = some c9 := by kernel_rfl
theorem c9_body : hasBody Tryz.prog 9 = true := hasBody_of Tryz.func9 (by kernel_rfl)
/-- coachyard/explore.result -/
def c10 : PFn := ⟨24, Tr.ofList (List.replicate 24 undefA), (.seq (.seqR [⟨.box, [.tmp 0], (some 2), none⟩,
 ⟨.box, [.tmp 1], (some 3), none⟩,
 ⟨.move, [.const (.bool false)], (some 4), none⟩])
 (.seq (.seqR [⟨(.fieldAddr 0), [.tmp 2], (some 5), none⟩,
 ⟨(.load false 1), [.tmp 5], (some 6), none⟩,
 ⟨(.fieldAddr 0), [.tmp 3], (some 7), none⟩,
 ⟨(.load false 1), [.tmp 7], (some 8), none⟩,
 ⟨(.bin .eql), [.tmp 6, .tmp 8], (some 9), none⟩,
 ⟨.move, [.tmp 9], (some 10), none⟩,
 ⟨(.fieldAddr 1), [.tmp 2], (some 11), some (10, true)⟩,
 ⟨(.load false 1), [.tmp 11], (some 12), some (10, true)⟩,
 ⟨(.fieldAddr 1), [.tmp 3], (some 13), some (10, true)⟩,
 ⟨(.load false 1), [.tmp 13], (some 14), some (10, true)⟩,
 ⟨(.bin .eql), [.tmp 12, .tmp 14], (some 15), some (10, true)⟩,
 ⟨.pick, [.tmp 10, .tmp 15, .const (.bool false)], (some 16), none⟩,
 ⟨.move, [.tmp 16], (some 17), none⟩,
 ⟨(.fieldAddr 2), [.tmp 2], (some 18), some (17, true)⟩,
 ⟨(.load false 1), [.tmp 18], (some 19), some (17, true)⟩,
 ⟨(.fieldAddr 2), [.tmp 3], (some 20), some (17, true)⟩,
 ⟨(.load false 1), [.tmp 20], (some 21), some (17, true)⟩,
 ⟨(.callF 11), [.tmp 19, .tmp 21], (some 22), some (17, true)⟩,
 ⟨.pick, [.tmp 17, .tmp 22, .const (.bool false)], (some 23), none⟩,
 ⟨.move, [.tmp 23], (some 4), none⟩])
 .ret)), [.tmp 4]⟩
theorem c10_ok : compFunc Tryz.prog Tryz.f10 = some c10 := by kernel_rfl
theorem c10_body : hasBody Tryz.prog 10 = true := hasBody_of Tryz.func10 (by kernel_rfl)
/-- slices.Equal[[]uint64,uint64] -/
def c11 : PFn := ⟨26, Tr.ofList (List.replicate 26 undefA), (.seq (.seqR [⟨.move, [.const (.bool false)], (some 4), none⟩])
 (.seq (.seq (.seqR [⟨.move, [.tmp 0], (some 6), none⟩,
 ⟨.lenS, [.tmp 6], (some 7), none⟩,
 ⟨.move, [.tmp 1], (some 8), none⟩,
 ⟨.lenS, [.tmp 8], (some 9), none⟩,
 ⟨(.bin .neq), [.tmp 7, .tmp 9], (some 10), none⟩])
 (.cond (.tmp 10) (.seq (.seqR [⟨.move, [.const (.bool false)], (some 4), none⟩])
 .ret)
 .skip))
 (.seq (.seq (.seqR [⟨.move, [.tmp 0], (some 11), none⟩,
 ⟨.lenS, [.tmp 11], (some 12), none⟩,
 ⟨.move, [.const (.int .i64 0)], (some 13), none⟩])
 (.block 0 (.loop (.seq (.seqR [⟨(.bin .lss), [.tmp 13, .tmp 12], (some 14), none⟩])
 (.seq (.cond (.tmp 14) .skip
 (.exit 0))
 (.seq (.block 1 (.seq (.seqR [⟨.move, [.tmp 13], (some 15), none⟩,
 ⟨.move, [.tmp 15], (some 5), none⟩])
 (.seq (.drawR [⟨⟨.move, [.tmp 0], (some 16), none⟩, false, false, 0, 0⟩,
 ⟨⟨.move, [.tmp 5], (some 17), none⟩, false, false, 0, 0⟩,
 ⟨⟨(.indexAddrS 1), [.tmp 16, .tmp 17], (some 18), none⟩, false, false, 0, 0⟩,
 ⟨⟨(.load false 1), [.tmp 18], (some 19), none⟩, false, false, 0, 0⟩,
 ⟨⟨.move, [.tmp 1], (some 20), none⟩, false, false, 0, 0⟩,
 ⟨⟨.move, [.tmp 5], (some 21), none⟩, false, false, 0, 0⟩,
 ⟨⟨(.indexAddrS 1), [.tmp 20, .tmp 21], (some 22), none⟩, false, false, 0, 0⟩,
 ⟨⟨(.load false 1), [.tmp 22], (some 23), none⟩, false, false, 0, 0⟩,
 ⟨⟨(.bin .neq), [.tmp 19, .tmp 23], (some 24), none⟩, false, false, 0, 0⟩])
 (.cond (.tmp 24) (.seq (.seqR [⟨.move, [.const (.bool false)], (some 4), none⟩])
 .ret)
 .skip))))
 (.seqR [⟨(.bin .add), [.tmp 13, .const (.int .i64 1)], (some 25), none⟩,
 ⟨.move, [.tmp 25], (some 13), none⟩])))))))
 (.seq (.seqR [⟨.move, [.const (.bool true)], (some 4), none⟩])
 .ret)))), [.tmp 4]⟩
theorem c11_ok : compFunc Tryz.prog Tryz.f11 = some c11 := by kernel_rfl
theorem c11_body : hasBody Tryz.prog 11 = true := hasBody_of Tryz.func11 (by kernel_rfl)
/-- coachyard/pool.New -/
def c12 : PFn := ⟨17, Tr.ofList (List.replicate 17 undefA), (.seq (.seqR [⟨.box, [.tmp 0], (some 1), none⟩,
 ⟨.move, [.const (.ptr none)], (some 2), none⟩,
 ⟨.move, [.const (.int .i64 0)], (some 3), none⟩])
 (.seq (.seqR [⟨(.load true 4), [.tmp 1], (some 7), none⟩,
 ⟨(.callF 14), [.tmp 7], (some 8), none⟩,
 ⟨.move, [.tmp 8], (some 6), none⟩,
 ⟨(.extract 0), [.tmp 6], (some 9), none⟩,
 ⟨(.extract 1), [.tmp 6], (some 10), none⟩,
 ⟨(.new [(.int .i64 0), (.int .i64 0), (.int .i64 0), (.int .i64 0)]), [], (some 4), none⟩,
 ⟨(.store 4), [.tmp 4, .tmp 9], none, none⟩,
 ⟨.move, [.tmp 10], (some 5), none⟩])
 (.seq (.seq (.seqR [⟨.move, [.tmp 5], (some 11), none⟩,
 ⟨(.bin .neq), [.tmp 11, .const (.int .i64 0)], (some 12), none⟩])
 (.cond (.tmp 12) (.seq (.seqR [⟨.move, [.tmp 5], (some 13), none⟩,
 ⟨.move, [.const (.ptr none)], (some 2), none⟩,
 ⟨.move, [.tmp 13], (some 3), none⟩])
 .ret)
 .skip))
 (.seq (.seqR [⟨(.load true 4), [.tmp 4], (some 14), none⟩,
 ⟨(.build [(.int .i64 0), (.int .i64 0), (.int .i64 0), (.int .i64 0)] [(0, 4)]), [.tmp 14], (some 15), none⟩,
 ⟨.box, [.tmp 15], (some 16), none⟩,
 ⟨.move, [.tmp 16], (some 2), none⟩,
 ⟨.move, [.const (.int .i64 0)], (some 3), none⟩])
 .ret)))), [.tmp 2, .tmp 3]⟩
theorem c12_ok : compFunc Tryz.prog Tryz.f12 = some c12 := by kernel_rfl
theorem c12_body : hasBody Tryz.prog 12 = true := hasBody_of Tryz.func12 (by kernel_rfl)
/-- (*coachyard/explore.way).goOn -/
def c13 : PFn := ⟨72, Tr.ofList (List.replicate 72 undefA), (.seq (.seqR [⟨.move, [.const (.bool false)], (some 2), none⟩])
 (.seq (.seqR [⟨.move, [.tmp 0], (some 10), none⟩,
 ⟨(.callF 15), [.tmp 10], (some 11), none⟩,
 ⟨.move, [.tmp 11], (some 9), none⟩,
 ⟨(.extract 0), [.tmp 9], (some 12), none⟩,
 ⟨(.extract 1), [.tmp 9], (some 13), none⟩,
 ⟨.move, [.tmp 12], (some 3), none⟩,
 ⟨.move, [.tmp 13], (some 4), none⟩])
 (.seq (.seqR [⟨.move, [.tmp 3], (some 14), none⟩,
 ⟨.move, [.tmp 0], (some 15), none⟩,
 ⟨.nilCheck, [.tmp 15], (some 16), none⟩,
 ⟨(.fieldAddr 0), [.tmp 16], (some 17), none⟩,
 ⟨(.fieldAddr 0), [.tmp 17], (some 18), none⟩,
 ⟨(.load false 1), [.tmp 18], (some 19), none⟩,
 ⟨(.callF 16), [.tmp 14, .tmp 19], (some 20), none⟩,
 ⟨.move, [.tmp 20], (some 5), none⟩])
 (.seq (.seq (.seqR [⟨.move, [.tmp 5], (some 21), none⟩,
 ⟨.lenS, [.tmp 21], (some 22), none⟩,
 ⟨(.bin .eql), [.tmp 22, .const (.int .i64 0)], (some 23), none⟩])
 (.cond (.tmp 23) (.seq (.seqR [⟨.move, [.tmp 0], (some 24), none⟩,
 ⟨.move, [.tmp 3], (some 25), none⟩,
 ⟨.move, [.tmp 4], (some 26), none⟩,
 ⟨(.callF 17), [.tmp 24, .tmp 25, .tmp 26], (some 27), none⟩])
 (.seq (.drawR [⟨⟨.move, [.tmp 0], (some 28), none⟩, false, false, 0, 0⟩,
 ⟨⟨.nilCheck, [.tmp 28], (some 29), none⟩, false, false, 0, 0⟩,
 ⟨⟨(.fieldAddr 8), [.tmp 29], (some 30), none⟩, false, false, 0, 0⟩,
 ⟨⟨(.load false 1), [.tmp 30], (some 31), none⟩, false, false, 0, 0⟩,
 ⟨⟨.move, [.tmp 0], (some 32), none⟩, false, false, 0, 0⟩,
 ⟨⟨.nilCheck, [.tmp 32], (some 33), none⟩, false, false, 0, 0⟩,
 ⟨⟨(.fieldAddr 6), [.tmp 33], (some 34), none⟩, false, false, 0, 0⟩,
 ⟨⟨(.load false 1), [.tmp 34], (some 35), none⟩, false, false, 0, 0⟩,
 ⟨⟨(.bin .leq), [.tmp 31, .tmp 35], (some 36), none⟩, false, false, 0, 0⟩,
 ⟨⟨.move, [.tmp 36], (some 2), none⟩, false, false, 0, 0⟩])
 .ret))
 .skip))
 (.seq (.seq (.seqR [⟨.move, [.tmp 5], (some 37), none⟩,
 ⟨.lenS, [.tmp 37], (some 38), none⟩,
 ⟨.move, [.const (.int .i64 0)], (some 39), none⟩])
 (.block 0 (.loop (.seq (.seqR [⟨(.bin .lss), [.tmp 39, .tmp 38], (some 40), none⟩])
 (.seq (.cond (.tmp 40) .skip
 (.exit 0))
 (.seq (.block 1 (.seq (.seqR [⟨(.indexAddrS 1), [.tmp 37, .tmp 39], (some 41), none⟩,
 ⟨(.load false 1), [.tmp 41], (some 42), none⟩,
 ⟨.move, [.tmp 42], (some 7), none⟩])
 (.seq (.seqR [⟨.move, [.tmp 0], (some 43), none⟩,
 ⟨.move, [.tmp 0], (some 44), none⟩,
 ⟨.nilCheck, [.tmp 44], (some 45), none⟩,
 ⟨(.fieldAddr 7), [.tmp 45], (some 46), none⟩,
 ⟨(.load false 1), [.tmp 46], (some 47), none⟩,
 ⟨.move, [.tmp 7], (some 48), none⟩,
 ⟨(.sliceLit 1 [(.int .i64 0)] [(0, 1)]), [.tmp 48], (some 49), none⟩,
 ⟨(.append 1 8), [.tmp 47, .tmp 49], (some 50), none⟩,
 ⟨.nilCheck, [.tmp 43], (some 51), none⟩,
 ⟨(.fieldAddr 7), [.tmp 51], (some 52), none⟩,
 ⟨(.store 1), [.tmp 52, .tmp 50], none, none⟩])
 (.seq (.seqR [⟨.move, [.tmp 0], (some 53), none⟩,
 ⟨(.callF 13), [.tmp 53], (some 54), none⟩,
 ⟨.move, [.tmp 54], (some 8), none⟩])
 (.seq (.drawR [⟨⟨.move, [.tmp 0], (some 55), none⟩, false, false, 0, 0⟩,
 ⟨⟨.move, [.tmp 0], (some 56), none⟩, false, false, 0, 0⟩,
 ⟨⟨.nilCheck, [.tmp 56], (some 57), none⟩, false, false, 0, 0⟩,
 ⟨⟨(.fieldAddr 7), [.tmp 57], (some 58), none⟩, false, false, 0, 0⟩,
 ⟨⟨(.load false 1), [.tmp 58], (some 59), none⟩, false, false, 0, 0⟩,
 ⟨⟨.move, [.tmp 0], (some 60), none⟩, false, false, 0, 0⟩,
 ⟨⟨.nilCheck, [.tmp 60], (some 61), none⟩, false, false, 0, 0⟩,
 ⟨⟨(.fieldAddr 7), [.tmp 61], (some 62), none⟩, false, false, 0, 0⟩,
 ⟨⟨(.load false 1), [.tmp 62], (some 63), none⟩, false, false, 0, 0⟩,
 ⟨⟨.lenS, [.tmp 63], (some 64), none⟩, false, false, 0, 0⟩,
 ⟨⟨(.bin .sub), [.tmp 64, .const (.int .i64 1)], (some 65), none⟩, false, false, 0, 0⟩,
 ⟨⟨(.slice 1 false true false), [.tmp 59, .tmp 65], (some 66), none⟩, false, false, 0, 0⟩,
 ⟨⟨.nilCheck, [.tmp 55], (some 67), none⟩, false, false, 0, 0⟩,
 ⟨⟨(.fieldAddr 7), [.tmp 67], (some 68), none⟩, false, false, 0, 0⟩,
 ⟨⟨(.store 1), [.tmp 68, .tmp 66], none, none⟩, true, false, 0, 1⟩])
 (.seq (.seqR [⟨.move, [.tmp 8], (some 69), none⟩,
 ⟨.not, [.tmp 69], (some 70), none⟩])
 (.cond (.tmp 70) (.seq (.seqR [⟨.move, [.const (.bool false)], (some 2), none⟩])
 .ret)
 .skip)))))))
 (.seqR [⟨(.bin .add), [.tmp 39, .const (.int .i64 1)], (some 71), none⟩,
 ⟨.move, [.tmp 71], (some 39), none⟩])))))))
 (.seq (.seqR [⟨.move, [.const (.bool true)], (some 2), none⟩])
 .ret)))))), [.tmp 2]⟩
theorem c13_ok : compFunc Tryz.prog Tryz.f13 = some c13 := by kernel_rfl
theorem c13_body : hasBody Tryz.prog 13 = true := hasBody_of Tryz.func13 (by kernel_rfl)
/-- coachyard/plan.New -/
def c14 : PFn := ⟨10, Tr.ofList (List.replicate 10 undefA), (.seq (.seqR [⟨.box, [.tmp 0], (some 1), none⟩,
 ⟨(.new [(.int .i64 0), (.int .i64 0), (.int .i64 0), (.int .i64 0)]), [], (some 2), none⟩,
 ⟨.move, [.const (.int .i64 0)], (some 3), none⟩])
 (.seq (.seq (.seqR [⟨(.load true 4), [.tmp 1], (some 4), none⟩,
 ⟨(.callF 18), [.tmp 4], (some 5), none⟩,
 ⟨.not, [.tmp 5], (some 6), none⟩])
 (.cond (.tmp 6) (.seq (.seqR [⟨(.build [(.int .i64 0), (.int .i64 0), (.int .i64 0), (.int .i64 0)] []), [], (some 7), none⟩,
 ⟨(.store 4), [.tmp 2, .tmp 7], none, none⟩,
 ⟨.move, [.const (.int .i64 2)], (some 3), none⟩])
 .ret)
 .skip))
 (.seq (.seqR [⟨(.load true 4), [.tmp 1], (some 8), none⟩,
 ⟨(.build [(.int .i64 0), (.int .i64 0), (.int .i64 0), (.int .i64 0)] [(0, 4)]), [.tmp 8], (some 9), none⟩,
 ⟨(.store 4), [.tmp 2, .tmp 9], none, none⟩,
 ⟨.move, [.const (.int .i64 0)], (some 3), none⟩])
 .ret))), [.cell 2 true 4, .tmp 3]⟩
theorem c14_ok : compFunc Tryz.prog Tryz.f14 = some c14 := by kernel_rfl
theorem c14_body : hasBody Tryz.prog 14 = true := hasBody_of Tryz.func14 (by kernel_rfl)
/-- (*coachyard/explore.way).open -/
def c15 : PFn := ⟨66, Tr.ofList (List.replicate 66 undefA), (.seq (.seqR [⟨.move, [.const (.ptr none)], (some 2), none⟩,
 ⟨.move, [.const (.slice none 0 0 false)], (some 3), none⟩])
 (.seq (.seqR [⟨.move, [.tmp 0], (some 13), none⟩,
 ⟨.nilCheck, [.tmp 13], (some 14), none⟩,
 ⟨(.fieldAddr 0), [.tmp 14], (some 15), none⟩,
 ⟨(.load true 4), [.tmp 15], (some 16), none⟩,
 ⟨(.callF 19), [.tmp 16], (some 17), none⟩,
 ⟨.move, [.tmp 17], (some 12), none⟩,
 ⟨(.extract 0), [.tmp 12], (some 18), none⟩,
 ⟨(.extract 1), [.tmp 12], (some 19), none⟩,
 ⟨.move, [.tmp 18], (some 4), none⟩,
 ⟨.move, [.tmp 19], (some 5), none⟩])
 (.seq (.seqR [⟨.move, [.tmp 4], (some 20), none⟩,
 ⟨.move, [.tmp 0], (some 21), none⟩,
 ⟨.nilCheck, [.tmp 21], (some 22), none⟩,
 ⟨(.fieldAddr 4), [.tmp 22], (some 23), none⟩,
 ⟨(.load false 1), [.tmp 23], (some 24), none⟩,
 ⟨(.callF 20), [.tmp 20, .tmp 24], (some 25), none⟩])
 (.seq (.seq (.seqR [⟨.move, [.const (.int .i64 14)], (some 6), none⟩])
 (.block 0 (.loop (.seq (.seq (.seqR [⟨.move, [.tmp 6], (some 26), none⟩,
 ⟨(.bin .eql), [.tmp 26, .const (.int .i64 14)], (some 27), none⟩])
 (.cond (.tmp 27) .skip
 (.exit 0)))
 (.block 1 (.seqR [⟨.move, [.tmp 4], (some 29), none⟩,
 ⟨(.callF 21), [.tmp 29, .const (.int .i64 1000)], (some 30), none⟩,
 ⟨.move, [.tmp 30], (some 28), none⟩,
 ⟨(.extract 0), [.tmp 28], (some 31), none⟩,
 ⟨(.extract 1), [.tmp 28], (some 32), none⟩,
 ⟨.move, [.tmp 32], (some 6), none⟩]))))))
 (.seq (.seqR [⟨.move, [.const (.slice none 0 0 false)], (some 7), none⟩])
 (.seq (.seq (.seqR [⟨.move, [.tmp 0], (some 33), none⟩,
 ⟨.nilCheck, [.tmp 33], (some 34), none⟩,
 ⟨(.fieldAddr 5), [.tmp 34], (some 35), none⟩,
 ⟨(.load false 1), [.tmp 35], (some 36), none⟩,
 ⟨.lenS, [.tmp 36], (some 37), none⟩,
 ⟨.move, [.const (.int .i64 0)], (some 38), none⟩])
 (.block 2 (.loop (.seq (.seqR [⟨(.bin .lss), [.tmp 38, .tmp 37], (some 39), none⟩])
 (.seq (.cond (.tmp 39) .skip
 (.exit 2))
 (.seq (.block 3 (.seq (.seqR [⟨.move, [.tmp 38], (some 40), none⟩,
 ⟨(.indexAddrS 3), [.tmp 36, .tmp 38], (some 41), none⟩,
 ⟨(.load true 3), [.tmp 41], (some 42), none⟩,
 ⟨(.new [(.int .i64 0), (.int .u64 0), (.slice none 0 0 false)]), [], (some 9), none⟩,
 ⟨.move, [.tmp 40], (some 8), none⟩,
 ⟨(.store 3), [.tmp 9, .tmp 42], none, none⟩])
 (.seqR [⟨.move, [.tmp 7], (some 43), none⟩,
 ⟨.move, [.tmp 4], (some 44), none⟩,
 ⟨.move, [.tmp 8], (some 45), none⟩,
 ⟨(.load true 3), [.tmp 9], (some 46), none⟩,
 ⟨(.callF 22), [.tmp 44, .tmp 45, .tmp 46], (some 47), none⟩,
 ⟨(.sliceLit 1 [(.int .i64 0)] [(0, 1)]), [.tmp 47], (some 48), none⟩,
 ⟨(.append 1 8), [.tmp 43, .tmp 48], (some 49), none⟩,
 ⟨.move, [.tmp 49], (some 7), none⟩])))
 (.seqR [⟨(.bin .add), [.tmp 38, .const (.int .i64 1)], (some 50), none⟩,
 ⟨.move, [.tmp 50], (some 38), none⟩])))))))
 (.seq (.seq (.seqR [⟨.move, [.tmp 0], (some 51), none⟩,
 ⟨.nilCheck, [.tmp 51], (some 52), none⟩,
 ⟨(.fieldAddr 7), [.tmp 52], (some 53), none⟩,
 ⟨(.load false 1), [.tmp 53], (some 54), none⟩,
 ⟨.lenS, [.tmp 54], (some 55), none⟩,
 ⟨.move, [.const (.int .i64 0)], (some 56), none⟩])
 (.block 4 (.loop (.seq (.seqR [⟨(.bin .lss), [.tmp 56, .tmp 55], (some 57), none⟩])
 (.seq (.cond (.tmp 57) .skip
 (.exit 4))
 (.seq (.block 5 (.seq (.seqR [⟨(.indexAddrS 1), [.tmp 54, .tmp 56], (some 58), none⟩,
 ⟨(.load false 1), [.tmp 58], (some 59), none⟩,
 ⟨.move, [.tmp 59], (some 11), none⟩])
 (.seqR [⟨.move, [.tmp 4], (some 60), none⟩,
 ⟨.move, [.tmp 11], (some 61), none⟩,
 ⟨(.callF 23), [.tmp 60, .tmp 61], (some 62), none⟩])))
 (.seqR [⟨(.bin .add), [.tmp 56, .const (.int .i64 1)], (some 63), none⟩,
 ⟨.move, [.tmp 63], (some 56), none⟩])))))))
 (.seq (.seqR [⟨.move, [.tmp 4], (some 64), none⟩,
 ⟨.move, [.tmp 7], (some 65), none⟩,
 ⟨.move, [.tmp 64], (some 2), none⟩,
 ⟨.move, [.tmp 65], (some 3), none⟩])
 .ret)))))))), [.tmp 2, .tmp 3]⟩
theorem c15_ok : compFunc Tryz.prog Tryz.f15 = some c15 := by kernel_rfl
theorem c15_body : hasBody Tryz.prog 15 = true := hasBody_of Tryz.func15 (by kernel_rfl)
/-- coachyard/explore.able -/
def c16 : PFn := ⟨28, Tr.ofList (List.replicate 28 undefA), (.seq (.seqR [⟨.move, [.const (.slice none 0 0 false)], (some 4), none⟩])
 (.seq (.seqR [⟨.move, [.const (.slice none 0 0 false)], (some 5), none⟩])
 (.seq (.seq (.seqR [⟨.move, [.tmp 1], (some 7), none⟩,
 ⟨.move, [.const (.int .i64 0)], (some 8), none⟩])
 (.block 0 (.loop (.seq (.seqR [⟨(.bin .lss), [.tmp 8, .tmp 7], (some 9), none⟩])
 (.seq (.cond (.tmp 9) .skip
 (.exit 0))
 (.seq (.block 1 (.seq (.seqR [⟨.move, [.tmp 8], (some 10), none⟩,
 ⟨.move, [.tmp 10], (some 6), none⟩])
 (.seq (.seqR [⟨.move, [.tmp 0], (some 11), none⟩,
 ⟨(.callF 24), [.tmp 11], (some 12), none⟩,
 ⟨.move, [.tmp 6], (some 13), none⟩,
 ⟨(.callF 25), [.tmp 12, .tmp 13], (some 14), none⟩,
 ⟨.move, [.tmp 14], (some 15), none⟩,
 ⟨.move, [.tmp 0], (some 16), some (15, true)⟩,
 ⟨(.callF 24), [.tmp 16], (some 17), some (15, true)⟩,
 ⟨.move, [.tmp 6], (some 18), some (15, true)⟩,
 ⟨(.callF 26), [.tmp 17, .tmp 18], (some 19), some (15, true)⟩,
 ⟨.not, [.tmp 19], (some 20), some (15, true)⟩,
 ⟨.pick, [.tmp 15, .tmp 20, .const (.bool false)], (some 21), none⟩])
 (.cond (.tmp 21) (.seqR [⟨.move, [.tmp 5], (some 22), none⟩,
 ⟨.move, [.tmp 6], (some 23), none⟩,
 ⟨(.sliceLit 1 [(.int .i64 0)] [(0, 1)]), [.tmp 23], (some 24), none⟩,
 ⟨(.append 1 8), [.tmp 22, .tmp 24], (some 25), none⟩,
 ⟨.move, [.tmp 25], (some 5), none⟩])
 .skip))))
 (.seqR [⟨(.bin .add), [.tmp 8, .const (.int .i64 1)], (some 26), none⟩,
 ⟨.move, [.tmp 26], (some 8), none⟩])))))))
 (.seq (.seqR [⟨.move, [.tmp 5], (some 27), none⟩,
 ⟨.move, [.tmp 27], (some 4), none⟩])
 .ret)))), [.tmp 4]⟩
theorem c16_ok : compFunc Tryz.prog Tryz.f16 = some c16 := by kernel_rfl
theorem c16_body : hasBody Tryz.prog 16 = true := hasBody_of Tryz.func16 (by kernel_rfl)
/-- (*coachyard/explore.way).end -/
def c17 : PFn := ⟨75, Tr.ofList (List.replicate 75 undefA), (.seq (.seqR [⟨.move, [.tmp 0], (some 11), none⟩,
 ⟨.nilCheck, [.tmp 11], (some 12), none⟩,
 ⟨(.fieldAddr 8), [.tmp 12], (some 13), none⟩,
 ⟨(.load false 1), [.tmp 13], (some 14), none⟩,
 ⟨(.bin .add), [.tmp 14, .const (.int .i64 1)], (some 15), none⟩,
 ⟨.nilCheck, [.tmp 11], (some 16), none⟩,
 ⟨(.fieldAddr 8), [.tmp 16], (some 17), none⟩,
 ⟨(.store 1), [.tmp 17, .tmp 15], none, none⟩])
 (.seq (.seqR [⟨(.build [(.slice none 0 0 false), (.slice none 0 0 false)] []), [], (some 18), none⟩,
 ⟨(.new [(.slice none 0 0 false), (.slice none 0 0 false)]), [], (some 6), none⟩,
 ⟨(.store 2), [.tmp 6, .tmp 18], none, none⟩])
 (.seq (.seq (.seqR [⟨.move, [.tmp 2], (some 19), none⟩,
 ⟨.lenS, [.tmp 19], (some 20), none⟩,
 ⟨.move, [.const (.int .i64 0)], (some 21), none⟩])
 (.block 0 (.loop (.seq (.seqR [⟨(.bin .lss), [.tmp 21, .tmp 20], (some 22), none⟩])
 (.seq (.cond (.tmp 22) .skip
 (.exit 0))
 (.seq (.block 1 (.seq (.seqR [⟨.move, [.tmp 21], (some 23), none⟩,
 ⟨(.indexAddrS 1), [.tmp 19, .tmp 21], (some 24), none⟩,
 ⟨(.load false 1), [.tmp 24], (some 25), none⟩,
 ⟨.move, [.tmp 23], (some 7), none⟩,
 ⟨.move, [.tmp 25], (some 8), none⟩])
 (.seq (.seqR [⟨.move, [.tmp 1], (some 27), none⟩,
 ⟨(.callF 24), [.tmp 27], (some 28), none⟩,
 ⟨.move, [.tmp 7], (some 29), none⟩,
 ⟨(.callF 27), [.tmp 28, .tmp 29], (some 30), none⟩,
 ⟨.move, [.tmp 30], (some 26), none⟩,
 ⟨(.extract 0), [.tmp 26], (some 31), none⟩,
 ⟨(.extract 1), [.tmp 26], (some 32), none⟩,
 ⟨(.new [(.int .i64 0), (.int .u64 0), (.slice none 0 0 false)]), [], (some 9), none⟩,
 ⟨(.store 3), [.tmp 9, .tmp 31], none, none⟩,
 ⟨.move, [.tmp 32], (some 10), none⟩])
 (.seq (.block 2 (.seq (.seqR [⟨.move, [.tmp 8], (some 34), none⟩,
 ⟨(.bin .neq), [.tmp 34, .const (.int .i64 0)], (some 35), none⟩,
 ⟨.move, [.tmp 35], (some 33), none⟩])
 (.cond (.tmp 33) (.seqR [⟨.move, [.tmp 8], (some 36), none⟩,
 ⟨(.build [(.int .i64 0), (.int .u64 0), (.slice none 0 0 false)] [(0, 1)]), [.tmp 36], (some 37), none⟩,
 ⟨(.store 3), [.tmp 9, .tmp 37], none, none⟩])
 (.seq (.seqR [⟨.move, [.tmp 10], (some 39), none⟩,
 ⟨.not, [.tmp 39], (some 40), none⟩,
 ⟨.move, [.tmp 40], (some 38), none⟩])
 (.cond (.tmp 38) (.seqR [⟨(.build [(.int .i64 0), (.int .u64 0), (.slice none 0 0 false)] [(0, 1)]), [.const (.int .i64 11)], (some 41), none⟩,
 ⟨(.store 3), [.tmp 9, .tmp 41], none, none⟩])
 .skip)))))
 (.seqR [⟨(.fieldAddr 0), [.tmp 6], (some 42), none⟩,
 ⟨(.load false 1), [.tmp 42], (some 43), none⟩,
 ⟨(.load true 3), [.tmp 9], (some 44), none⟩,
 ⟨(.sliceLit 1 [(.int .i64 0), (.int .u64 0), (.slice none 0 0 false)] [(0, 3)]), [.tmp 44], (some 45), none⟩,
 ⟨(.append 3 40), [.tmp 43, .tmp 45], (some 46), none⟩,
 ⟨(.fieldAddr 0), [.tmp 6], (some 47), none⟩,
 ⟨(.store 1), [.tmp 47, .tmp 46], none, none⟩])))))
 (.seqR [⟨(.bin .add), [.tmp 21, .const (.int .i64 1)], (some 48), none⟩,
 ⟨.move, [.tmp 48], (some 21), none⟩])))))))
 (.seq (.seqR [⟨.move, [.tmp 1], (some 50), none⟩,
 ⟨(.callF 28), [.tmp 50], (some 51), none⟩,
 ⟨.move, [.tmp 51], (some 49), none⟩,
 ⟨(.extract 0), [.tmp 49], (some 52), none⟩,
 ⟨(.extract 1), [.tmp 49], (some 53), none⟩,
 ⟨(.fieldAddr 1), [.tmp 6], (some 54), none⟩,
 ⟨(.store 1), [.tmp 54, .tmp 52], none, none⟩])
 (.seq (.seqR [⟨(.fieldAddr 1), [.tmp 6], (some 55), none⟩,
 ⟨(.load false 1), [.tmp 55], (some 56), none⟩,
 ⟨(.callF 29), [.tmp 56], (some 57), none⟩])
 (.seq (.seqR [⟨.move, [.tmp 0], (some 58), none⟩,
 ⟨.nilCheck, [.tmp 58], (some 59), none⟩,
 ⟨(.fieldAddr 9), [.tmp 59], (some 60), none⟩,
 ⟨(.load false 1), [.tmp 60], (some 61), none⟩,
 ⟨(.mkFunc (.func 31) 0), [.tmp 6], (some 62), none⟩,
 ⟨(.callF 30), [.tmp 61, .tmp 62], (some 63), none⟩,
 ⟨.not, [.tmp 63], (some 64), none⟩])
 (.cond (.tmp 64) (.drawR [⟨⟨.move, [.tmp 0], (some 65), none⟩, false, false, 0, 2⟩,
 ⟨⟨.move, [.tmp 0], (some 66), none⟩, false, false, 0, 1⟩,
 ⟨⟨.nilCheck, [.tmp 66], (some 67), none⟩, false, false, 0, 1⟩,
 ⟨⟨(.fieldAddr 9), [.tmp 67], (some 68), none⟩, false, false, 0, 1⟩,
 ⟨⟨(.load false 1), [.tmp 68], (some 69), none⟩, false, false, 0, 1⟩,
 ⟨⟨(.load true 2), [.tmp 6], (some 70), none⟩, false, false, 0, 0⟩,
 ⟨⟨(.sliceLit 1 [(.slice none 0 0 false), (.slice none 0 0 false)] [(0, 2)]), [.tmp 70], (some 71), none⟩, true, false, 0, 1⟩,
 ⟨⟨(.append 2 48), [.tmp 69, .tmp 71], (some 72), none⟩, true, false, 1, 2⟩,
 ⟨⟨.nilCheck, [.tmp 65], (some 73), none⟩, false, false, 2, 2⟩,
 ⟨⟨(.fieldAddr 9), [.tmp 73], (some 74), none⟩, false, false, 2, 2⟩,
 ⟨⟨(.store 1), [.tmp 74, .tmp 72], none, none⟩, true, false, 2, 3⟩])
 .skip))))))), []⟩
theorem c17_ok : compFunc Tryz.prog Tryz.f17 = some c17 := by kernel_rfl
theorem c17_body : hasBody Tryz.prog 17 = true := hasBody_of Tryz.func17 (by kernel_rfl)
/-- coachyard/plan.right -/
def c18 : PFn := ⟨47, Tr.ofList (List.replicate 47 undefA), (.seq (.seqR [⟨.box, [.tmp 0], (some 1), none⟩,
 ⟨.move, [.const (.bool false)], (some 2), none⟩])
 (.seq (.block 0 (.seq (.seqR [⟨(.fieldAddr 0), [.tmp 1], (some 4), none⟩,
 ⟨(.load false 1), [.tmp 4], (some 5), none⟩,
 ⟨(.bin .lss), [.tmp 5, .const (.int .i64 1)], (some 6), none⟩,
 ⟨.move, [.tmp 6], (some 7), none⟩,
 ⟨(.fieldAddr 0), [.tmp 1], (some 8), some (7, false)⟩,
 ⟨(.load false 1), [.tmp 8], (some 9), some (7, false)⟩,
 ⟨(.bin .gtr), [.tmp 9, .const (.int .i64 16)], (some 10), some (7, false)⟩,
 ⟨.pick, [.tmp 7, .const (.bool true), .tmp 10], (some 11), none⟩,
 ⟨.move, [.tmp 11], (some 3), none⟩])
 (.cond (.tmp 3) (.seq (.seqR [⟨.move, [.const (.bool false)], (some 2), none⟩])
 .ret)
 (.seq (.seqR [⟨(.fieldAddr 1), [.tmp 1], (some 13), none⟩,
 ⟨(.load false 1), [.tmp 13], (some 14), none⟩,
 ⟨(.bin .neq), [.tmp 14, .const (.int .i64 0)], (some 15), none⟩,
 ⟨.move, [.tmp 15], (some 16), none⟩,
 ⟨(.fieldAddr 1), [.tmp 1], (some 17), some (16, true)⟩,
 ⟨(.load false 1), [.tmp 17], (some 18), some (16, true)⟩,
 ⟨(.bin .neq), [.tmp 18, .const (.int .i64 1)], (some 19), some (16, true)⟩,
 ⟨.pick, [.tmp 16, .tmp 19, .const (.bool false)], (some 20), none⟩,
 ⟨.move, [.tmp 20], (some 12), none⟩])
 (.cond (.tmp 12) (.seq (.seqR [⟨.move, [.const (.bool false)], (some 2), none⟩])
 .ret)
 (.seq (.seqR [⟨(.fieldAddr 2), [.tmp 1], (some 22), none⟩,
 ⟨(.load false 1), [.tmp 22], (some 23), none⟩,
 ⟨(.bin .lss), [.tmp 23, .const (.int .i64 2)], (some 24), none⟩,
 ⟨.move, [.tmp 24], (some 25), none⟩,
 ⟨(.fieldAddr 2), [.tmp 1], (some 26), some (25, false)⟩,
 ⟨(.load false 1), [.tmp 26], (some 27), some (25, false)⟩,
 ⟨(.bin .gtr), [.tmp 27, .const (.int .i64 256)], (some 28), some (25, false)⟩,
 ⟨.pick, [.tmp 25, .const (.bool true), .tmp 28], (some 29), none⟩,
 ⟨.move, [.tmp 29], (some 30), none⟩,
 ⟨(.fieldAddr 2), [.tmp 1], (some 31), some (30, false)⟩,
 ⟨(.load false 1), [.tmp 31], (some 32), some (30, false)⟩,
 ⟨(.fieldAddr 2), [.tmp 1], (some 33), some (30, false)⟩,
 ⟨(.load false 1), [.tmp 33], (some 34), some (30, false)⟩,
 ⟨(.bin .sub), [.tmp 34, .const (.int .i64 1)], (some 35), some (30, false)⟩,
 ⟨(.bin .and), [.tmp 32, .tmp 35], (some 36), some (30, false)⟩,
 ⟨(.bin .neq), [.tmp 36, .const (.int .i64 0)], (some 37), some (30, false)⟩,
 ⟨.pick, [.tmp 30, .const (.bool true), .tmp 37], (some 38), none⟩,
 ⟨.move, [.tmp 38], (some 21), none⟩])
 (.cond (.tmp 21) (.seq (.seqR [⟨.move, [.const (.bool false)], (some 2), none⟩])
 .ret)
 .skip)))))))
 (.seq (.seqR [⟨(.fieldAddr 3), [.tmp 1], (some 39), none⟩,
 ⟨(.load false 1), [.tmp 39], (some 40), none⟩,
 ⟨(.bin .geq), [.tmp 40, .const (.int .i64 2)], (some 41), none⟩,
 ⟨.move, [.tmp 41], (some 42), none⟩,
 ⟨(.fieldAddr 3), [.tmp 1], (some 43), some (42, true)⟩,
 ⟨(.load false 1), [.tmp 43], (some 44), some (42, true)⟩,
 ⟨(.bin .leq), [.tmp 44, .const (.int .i64 4096)], (some 45), some (42, true)⟩,
 ⟨.pick, [.tmp 42, .tmp 45, .const (.bool false)], (some 46), none⟩,
 ⟨.move, [.tmp 46], (some 2), none⟩])
 .ret))), [.tmp 2]⟩
theorem c18_ok : compFunc Tryz.prog Tryz.f18 = some c18 := by kernel_rfl
theorem c18_body : hasBody Tryz.prog 18 = true := hasBody_of Tryz.func18 (by kernel_rfl)
/-- coachyard/yard.New -/
def c19 : PFn := ⟨38, Tr.ofList (List.replicate 38 undefA), (.seq (.seqR [⟨.box, [.tmp 0], (some 1), none⟩,
 ⟨.move, [.const (.ptr none)], (some 2), none⟩,
 ⟨.move, [.const (.int .i64 0)], (some 3), none⟩])
 (.seq (.seqR [⟨(.load true 4), [.tmp 1], (some 10), none⟩,
 ⟨(.callF 12), [.tmp 10], (some 11), none⟩,
 ⟨.move, [.tmp 11], (some 9), none⟩,
 ⟨(.extract 0), [.tmp 9], (some 12), none⟩,
 ⟨(.extract 1), [.tmp 9], (some 13), none⟩,
 ⟨.move, [.tmp 12], (some 4), none⟩,
 ⟨.move, [.tmp 13], (some 5), none⟩])
 (.seq (.seq (.seqR [⟨.move, [.tmp 5], (some 14), none⟩,
 ⟨(.bin .neq), [.tmp 14, .const (.int .i64 0)], (some 15), none⟩])
 (.cond (.tmp 15) (.seq (.seqR [⟨.move, [.tmp 5], (some 16), none⟩,
 ⟨.move, [.const (.ptr none)], (some 2), none⟩,
 ⟨.move, [.tmp 16], (some 3), none⟩])
 .ret)
 .skip))
 (.seq (.seqR [⟨.move, [.tmp 4], (some 18), none⟩,
 ⟨(.callF 32), [.tmp 18], (some 19), none⟩,
 ⟨(.callF 33), [.tmp 19], (some 20), none⟩,
 ⟨.move, [.tmp 20], (some 17), none⟩,
 ⟨(.extract 0), [.tmp 17], (some 21), none⟩,
 ⟨(.extract 1), [.tmp 17], (some 22), none⟩,
 ⟨.move, [.tmp 21], (some 6), none⟩,
 ⟨.move, [.tmp 22], (some 7), none⟩])
 (.seq (.seqR [⟨.move, [.tmp 6], (some 24), none⟩,
 ⟨(.fieldAddr 0), [.tmp 1], (some 25), none⟩,
 ⟨(.load false 1), [.tmp 25], (some 26), none⟩,
 ⟨(.callF 34), [.tmp 24, .tmp 26], (some 27), none⟩,
 ⟨.move, [.tmp 27], (some 23), none⟩,
 ⟨(.extract 0), [.tmp 23], (some 28), none⟩,
 ⟨(.extract 1), [.tmp 23], (some 29), none⟩,
 ⟨.move, [.tmp 28], (some 8), none⟩,
 ⟨.move, [.tmp 29], (some 5), none⟩])
 (.seq (.seqR [⟨.move, [.tmp 4], (some 30), none⟩,
 ⟨.move, [.tmp 8], (some 31), none⟩,
 ⟨(.fieldAddr 0), [.tmp 1], (some 32), none⟩,
 ⟨(.load false 1), [.tmp 32], (some 33), none⟩,
 ⟨(.makeSlice 5 56 [(.int .i64 0), (.int .u64 0), (.slice none 0 0 false), (.bool false), (.int .i64 0)]), [.tmp 33, .tmp 33], (some 34), none⟩,
 ⟨(.build [(.ptr none), (.ptr none), (.slice none 0 0 false), (.slice none 0 0 false)] [(0, 1), (1, 1), (2, 1)]), [.tmp 30, .tmp 31, .tmp 34], (some 35), none⟩,
 ⟨.box, [.tmp 35], (some 36), none⟩,
 ⟨.move, [.tmp 5], (some 37), none⟩,
 ⟨.move, [.tmp 36], (some 2), none⟩,
 ⟨.move, [.tmp 37], (some 3), none⟩])
 .ret)))))), [.tmp 2, .tmp 3]⟩
theorem c19_ok : compFunc Tryz.prog Tryz.f19 = some c19 := by kernel_rfl
theorem c19_body : hasBody Tryz.prog 19 = true := hasBody_of Tryz.func19 (by kernel_rfl)
/-- (*coachyard/yard.Yard).Run -/
def c20 : PFn := ⟨22, Tr.ofList (List.replicate 22 undefA), (.seq (.seqR [⟨.move, [.const (.int .i64 0)], (some 4), none⟩])
 (.seq (.seqR [⟨.move, [.const (.int .i64 0)], (some 5), none⟩])
 (.seq (.seq (.seqR [⟨.move, [.tmp 1], (some 8), none⟩,
 ⟨.lenS, [.tmp 8], (some 9), none⟩,
 ⟨.move, [.const (.int .i64 0)], (some 10), none⟩])
 (.block 0 (.loop (.seq (.seqR [⟨(.bin .lss), [.tmp 10, .tmp 9], (some 11), none⟩])
 (.seq (.cond (.tmp 11) .skip
 (.exit 0))
 (.seq (.block 1 (.seq (.seqR [⟨(.indexAddrS 5), [.tmp 8, .tmp 10], (some 12), none⟩,
 ⟨(.load true 5), [.tmp 12], (some 13), none⟩,
 ⟨(.new [(.int .i64 0), (.int .i64 0), (.int .i64 0), (.int .u64 0), (.slice none 0 0 false)]), [], (some 7), none⟩,
 ⟨(.store 5), [.tmp 7, .tmp 13], none, none⟩])
 (.seq (.seqR [⟨.move, [.tmp 0], (some 14), none⟩,
 ⟨(.load true 5), [.tmp 7], (some 15), none⟩,
 ⟨(.callF 35), [.tmp 14, .tmp 15], (some 16), none⟩,
 ⟨(.bin .eql), [.tmp 16, .const (.int .i64 0)], (some 17), none⟩])
 (.cond (.tmp 17) (.seqR [⟨.move, [.tmp 5], (some 18), none⟩,
 ⟨(.bin .add), [.tmp 18, .const (.int .i64 1)], (some 19), none⟩,
 ⟨.move, [.tmp 19], (some 5), none⟩])
 .skip))))
 (.seqR [⟨(.bin .add), [.tmp 10, .const (.int .i64 1)], (some 20), none⟩,
 ⟨.move, [.tmp 20], (some 10), none⟩])))))))
 (.seq (.seqR [⟨.move, [.tmp 5], (some 21), none⟩,
 ⟨.move, [.tmp 21], (some 4), none⟩])
 .ret)))), [.tmp 4]⟩
theorem c20_ok : compFunc Tryz.prog Tryz.f20 = some c20 := by kernel_rfl
theorem c20_body : hasBody Tryz.prog 20 = true := hasBody_of Tryz.func20 (by kernel_rfl)
/-- (*coachyard/yard.Yard).Settle -/
def c21 : PFn := ⟨37, Tr.ofList (List.replicate 37 undefA), (.seq (.seqR [⟨.move, [.const (.int .i64 0)], (some 4), none⟩,
 ⟨.move, [.const (.int .i64 0)], (some 5), none⟩])
 (.seq (.seq (.seqR [⟨.move, [.tmp 0], (some 8), none⟩,
 ⟨(.eqPtr false), [.tmp 8, .const (.ptr none)], (some 9), none⟩])
 (.cond (.tmp 9) (.seq (.seqR [⟨.move, [.const (.int .i64 0)], (some 4), none⟩,
 ⟨.move, [.const (.int .i64 1)], (some 5), none⟩])
 .ret)
 .skip))
 (.seq (.seqR [⟨.move, [.const (.int .i64 0)], (some 6), none⟩])
 (.seq (.seq (.seqR [⟨.move, [.const (.int .i64 0)], (some 7), none⟩])
 (.block 0 (.loop (.seq (.seq (.seqR [⟨.move, [.tmp 6], (some 10), none⟩,
 ⟨.move, [.tmp 1], (some 11), none⟩,
 ⟨(.bin .lss), [.tmp 10, .tmp 11], (some 12), none⟩,
 ⟨.move, [.tmp 12], (some 13), none⟩,
 ⟨.move, [.tmp 0], (some 14), some (13, true)⟩,
 ⟨(.callF 36), [.tmp 14], (some 15), some (13, true)⟩,
 ⟨.not, [.tmp 15], (some 16), some (13, true)⟩,
 ⟨.pick, [.tmp 13, .tmp 16, .const (.bool false)], (some 17), none⟩])
 (.cond (.tmp 17) .skip
 (.exit 0)))
 (.seq (.block 1 (.seq (.seqR [⟨.move, [.tmp 0], (some 26), none⟩,
 ⟨.move, [.tmp 7], (some 27), none⟩,
 ⟨(.callF 23), [.tmp 26, .tmp 27], (some 28), none⟩,
 ⟨(.bin .eql), [.tmp 28, .const (.int .i64 0)], (some 29), none⟩])
 (.cond (.tmp 29) (.seqR [⟨.move, [.tmp 6], (some 30), none⟩,
 ⟨(.bin .add), [.tmp 30, .const (.int .i64 1)], (some 31), none⟩,
 ⟨.move, [.tmp 31], (some 6), none⟩])
 .skip)))
 (.seqR [⟨.move, [.tmp 7], (some 18), none⟩,
 ⟨(.bin .add), [.tmp 18, .const (.int .i64 1)], (some 19), none⟩,
 ⟨.move, [.tmp 0], (some 20), none⟩,
 ⟨.nilCheck, [.tmp 20], (some 21), none⟩,
 ⟨(.fieldAddr 2), [.tmp 21], (some 22), none⟩,
 ⟨(.load false 1), [.tmp 22], (some 23), none⟩,
 ⟨.lenS, [.tmp 23], (some 24), none⟩,
 ⟨(.bin .rem), [.tmp 19, .tmp 24], (some 25), none⟩,
 ⟨.move, [.tmp 25], (some 7), none⟩]))))))
 (.seq (.seq (.seqR [⟨.move, [.tmp 0], (some 32), none⟩,
 ⟨(.callF 36), [.tmp 32], (some 33), none⟩,
 ⟨.not, [.tmp 33], (some 34), none⟩])
 (.cond (.tmp 34) (.seq (.seqR [⟨.move, [.tmp 6], (some 35), none⟩,
 ⟨.move, [.tmp 35], (some 4), none⟩,
 ⟨.move, [.const (.int .i64 14)], (some 5), none⟩])
 .ret)
 .skip))
 (.seq (.seqR [⟨.move, [.tmp 6], (some 36), none⟩,
 ⟨.move, [.tmp 36], (some 4), none⟩,
 ⟨.move, [.const (.int .i64 0)], (some 5), none⟩])
 .ret)))))), [.tmp 4, .tmp 5]⟩
theorem c21_ok : compFunc Tryz.prog Tryz.f21 = some c21 := by kernel_rfl
theorem c21_body : hasBody Tryz.prog 21 = true := hasBody_of Tryz.func21 (by kernel_rfl)
/-- (*coachyard/yard.Yard).Begin -/
def c22 : PFn := ⟨77, Tr.ofList (List.replicate 77 undefA), (.seq (.seqR [⟨.box, [.tmp 2], (some 5), none⟩,
 ⟨.move, [.const (.int .i64 0)], (some 6), none⟩])
 (.seq (.block 0 (.seq (.seqR [⟨.move, [.tmp 0], (some 9), none⟩,
 ⟨(.eqPtr false), [.tmp 9, .const (.ptr none)], (some 10), none⟩,
 ⟨.move, [.tmp 10], (some 8), none⟩])
 (.cond (.tmp 8) (.seq (.seqR [⟨.move, [.const (.int .i64 1)], (some 6), none⟩])
 .ret)
 (.seq (.seqR [⟨.move, [.tmp 1], (some 12), none⟩,
 ⟨(.bin .lss), [.tmp 12, .const (.int .i64 0)], (some 13), none⟩,
 ⟨.move, [.tmp 13], (some 14), none⟩,
 ⟨.move, [.tmp 1], (some 15), some (14, false)⟩,
 ⟨.move, [.tmp 0], (some 16), some (14, false)⟩,
 ⟨.nilCheck, [.tmp 16], (some 17), some (14, false)⟩,
 ⟨(.fieldAddr 2), [.tmp 17], (some 18), some (14, false)⟩,
 ⟨(.load false 1), [.tmp 18], (some 19), some (14, false)⟩,
 ⟨.lenS, [.tmp 19], (some 20), some (14, false)⟩,
 ⟨(.bin .geq), [.tmp 15, .tmp 20], (some 21), some (14, false)⟩,
 ⟨.pick, [.tmp 14, .const (.bool true), .tmp 21], (some 22), none⟩,
 ⟨.move, [.tmp 22], (some 11), none⟩])
 (.cond (.tmp 11) (.seq (.seqR [⟨.move, [.const (.int .i64 3)], (some 6), none⟩])
 .ret)
 (.seq (.seqR [⟨(.fieldAddr 0), [.tmp 5], (some 24), none⟩,
 ⟨(.load false 1), [.tmp 24], (some 25), none⟩,
 ⟨(.bin .lss), [.tmp 25, .const (.int .i64 1)], (some 26), none⟩,
 ⟨.move, [.tmp 26], (some 27), none⟩,
 ⟨(.fieldAddr 0), [.tmp 5], (some 28), some (27, false)⟩,
 ⟨(.load false 1), [.tmp 28], (some 29), some (27, false)⟩,
 ⟨(.bin .gtr), [.tmp 29, .const (.int .i64 3)], (some 30), some (27, false)⟩,
 ⟨.pick, [.tmp 27, .const (.bool true), .tmp 30], (some 31), none⟩,
 ⟨.move, [.tmp 31], (some 23), none⟩])
 (.cond (.tmp 23) (.seq (.seqR [⟨.move, [.const (.int .i64 2)], (some 6), none⟩])
 .ret)
 (.seq (.seqR [⟨.move, [.tmp 0], (some 33), none⟩,
 ⟨.nilCheck, [.tmp 33], (some 34), none⟩,
 ⟨(.fieldAddr 2), [.tmp 34], (some 35), none⟩,
 ⟨(.load false 1), [.tmp 35], (some 36), none⟩,
 ⟨.move, [.tmp 1], (some 37), none⟩,
 ⟨(.indexAddrS 5), [.tmp 36, .tmp 37], (some 38), none⟩,
 ⟨(.fieldAddr 3), [.tmp 38], (some 39), none⟩,
 ⟨(.load false 1), [.tmp 39], (some 40), none⟩,
 ⟨.move, [.tmp 40], (some 32), none⟩])
 (.cond (.tmp 32) (.seq (.seqR [⟨.move, [.const (.int .i64 8)], (some 6), none⟩])
 .ret)
 .skip)))))))))
 (.seq (.seq (.drawR [⟨⟨.move, [.tmp 0], (some 41), none⟩, false, false, 0, 1⟩,
 ⟨⟨.nilCheck, [.tmp 41], (some 42), none⟩, false, false, 0, 1⟩,
 ⟨⟨(.fieldAddr 1), [.tmp 42], (some 43), none⟩, false, false, 0, 1⟩,
 ⟨⟨(.load false 1), [.tmp 43], (some 44), none⟩, false, false, 0, 1⟩,
 ⟨⟨.move, [.tmp 1], (some 45), none⟩, false, false, 0, 1⟩,
 ⟨⟨.move, [.tmp 0], (some 46), none⟩, false, false, 0, 0⟩,
 ⟨⟨.nilCheck, [.tmp 46], (some 47), none⟩, false, false, 0, 0⟩,
 ⟨⟨(.fieldAddr 0), [.tmp 47], (some 48), none⟩, false, false, 0, 0⟩,
 ⟨⟨(.load false 1), [.tmp 48], (some 49), none⟩, false, false, 0, 0⟩,
 ⟨⟨.move, [.tmp 1], (some 50), none⟩, false, false, 0, 0⟩,
 ⟨⟨(.load true 3), [.tmp 5], (some 51), none⟩, false, false, 0, 0⟩,
 ⟨⟨(.callF 38), [.tmp 49, .tmp 50, .tmp 51], (some 52), none⟩, true, false, 0, 1⟩,
 ⟨⟨(.callF 37), [.tmp 44, .tmp 45, .tmp 52], (some 53), none⟩, true, false, 1, 2⟩,
 ⟨⟨.move, [.tmp 53], (some 7), none⟩, false, false, 2, 2⟩])
 (.seq (.seqR [⟨.move, [.tmp 7], (some 54), none⟩,
 ⟨(.bin .neq), [.tmp 54, .const (.int .i64 0)], (some 55), none⟩])
 (.cond (.tmp 55) (.seq (.seqR [⟨.move, [.tmp 7], (some 56), none⟩,
 ⟨.move, [.tmp 56], (some 6), none⟩])
 .ret)
 .skip)))
 (.seq (.drawR [⟨⟨.move, [.tmp 0], (some 57), none⟩, false, false, 0, 1⟩,
 ⟨⟨.nilCheck, [.tmp 57], (some 58), none⟩, false, false, 0, 1⟩,
 ⟨⟨(.fieldAddr 2), [.tmp 58], (some 59), none⟩, false, false, 0, 1⟩,
 ⟨⟨(.load false 1), [.tmp 59], (some 60), none⟩, false, false, 0, 1⟩,
 ⟨⟨.move, [.tmp 1], (some 61), none⟩, false, false, 0, 1⟩,
 ⟨⟨.move, [.tmp 0], (some 62), none⟩, false, false, 0, 1⟩,
 ⟨⟨.nilCheck, [.tmp 62], (some 63), none⟩, false, false, 0, 1⟩,
 ⟨⟨(.fieldAddr 2), [.tmp 63], (some 64), none⟩, false, false, 0, 1⟩,
 ⟨⟨(.load false 1), [.tmp 64], (some 65), none⟩, false, false, 0, 1⟩,
 ⟨⟨.move, [.tmp 1], (some 66), none⟩, false, false, 0, 2⟩,
 ⟨⟨(.load true 3), [.tmp 5], (some 67), none⟩, false, false, 0, 0⟩,
 ⟨⟨(.callF 39), [.tmp 67], (some 68), none⟩, true, false, 0, 1⟩,
 ⟨⟨(.indexAddrS 5), [.tmp 60, .tmp 61], (some 69), none⟩, false, false, 1, 1⟩,
 ⟨⟨(.fieldAddr 0), [.tmp 69], (some 70), none⟩, false, false, 1, 1⟩,
 ⟨⟨(.store 3), [.tmp 70, .tmp 68], none, none⟩, true, false, 1, 2⟩,
 ⟨⟨(.indexAddrS 5), [.tmp 65, .tmp 66], (some 71), none⟩, false, false, 2, 2⟩,
 ⟨⟨(.fieldAddr 3), [.tmp 71], (some 72), none⟩, false, false, 2, 2⟩,
 ⟨⟨(.store 1), [.tmp 72, .const (.bool true)], none, none⟩, true, false, 2, 3⟩])
 (.seq (.seqR [⟨.move, [.tmp 0], (some 73), none⟩,
 ⟨.move, [.tmp 1], (some 74), none⟩,
 ⟨(.build [(.int .i64 0), (.int .u64 0), (.slice none 0 0 false)] []), [], (some 75), none⟩,
 ⟨(.callF 40), [.tmp 73, .tmp 74, .const (.bool false), .tmp 75], (some 76), none⟩])
 (.seq (.seqR [⟨.move, [.const (.int .i64 0)], (some 6), none⟩])
 .ret)))))), [.tmp 6]⟩
theorem c22_ok : compFunc Tryz.prog Tryz.f22 = some c22 := by kernel_rfl
theorem c22_body : hasBody Tryz.prog 22 = true := hasBody_of Tryz.func22 (by kernel_rfl)
/-- (*coachyard/yard.Yard).Pick -/
def c23 : PFn := ⟨24, Tr.ofList (List.replicate 24 undefA), (.seq (.seqR [⟨.move, [.const (.int .i64 0)], (some 4), none⟩])
 (.seq (.seq (.seqR [⟨.move, [.tmp 0], (some 6), none⟩,
 ⟨(.eqPtr false), [.tmp 6, .const (.ptr none)], (some 7), none⟩])
 (.cond (.tmp 7) (.seq (.seqR [⟨.move, [.const (.int .i64 1)], (some 4), none⟩])
 .ret)
 .skip))
 (.seq (.seqR [⟨.move, [.tmp 0], (some 8), none⟩,
 ⟨.nilCheck, [.tmp 8], (some 9), none⟩,
 ⟨(.fieldAddr 1), [.tmp 9], (some 10), none⟩,
 ⟨(.load false 1), [.tmp 10], (some 11), none⟩,
 ⟨.move, [.tmp 1], (some 12), none⟩,
 ⟨(.callF 41), [.tmp 11, .tmp 12], (some 13), none⟩,
 ⟨.move, [.tmp 13], (some 5), none⟩])
 (.seq (.seq (.seqR [⟨.move, [.tmp 5], (some 14), none⟩,
 ⟨(.bin .eql), [.tmp 14, .const (.int .i64 0)], (some 15), none⟩,
 ⟨.move, [.tmp 15], (some 16), none⟩,
 ⟨.move, [.tmp 5], (some 17), some (16, false)⟩,
 ⟨(.bin .eql), [.tmp 17, .const (.int .i64 9)], (some 18), some (16, false)⟩,
 ⟨.pick, [.tmp 16, .const (.bool true), .tmp 18], (some 19), none⟩])
 (.cond (.tmp 19) (.seqR [⟨.move, [.tmp 0], (some 20), none⟩,
 ⟨.move, [.tmp 1], (some 21), none⟩,
 ⟨(.callF 42), [.tmp 20, .tmp 21], (some 22), none⟩])
 .skip))
 (.seq (.seqR [⟨.move, [.tmp 5], (some 23), none⟩,
 ⟨.move, [.tmp 23], (some 4), none⟩])
 .ret))))), [.tmp 4]⟩
theorem c23_ok : compFunc Tryz.prog Tryz.f23 = some c23 := by kernel_rfl
theorem c23_body : hasBody Tryz.prog 23 = true := hasBody_of Tryz.func23 (by kernel_rfl)
/-- (*coachyard/yard.Yard).Loom -/
def c24 : PFn := ⟨9, Tr.ofList (List.replicate 9 undefA), (.seq (.seqR [⟨.move, [.const (.ptr none)], (some 2), none⟩])
 (.seq (.seq (.seqR [⟨.move, [.tmp 0], (some 3), none⟩,
 ⟨(.eqPtr false), [.tmp 3, .const (.ptr none)], (some 4), none⟩])
 (.cond (.tmp 4) (.seq (.seqR [⟨.move, [.const (.ptr none)], (some 2), none⟩])
 .ret)
 .skip))
 (.seq (.seqR [⟨.move, [.tmp 0], (some 5), none⟩,
 ⟨.nilCheck, [.tmp 5], (some 6), none⟩,
 ⟨(.fieldAddr 1), [.tmp 6], (some 7), none⟩,
 ⟨(.load false 1), [.tmp 7], (some 8), none⟩,
 ⟨.move, [.tmp 8], (some 2), none⟩])
 .ret))), [.tmp 2]⟩
theorem c24_ok : compFunc Tryz.prog Tryz.f24 = some c24 := by kernel_rfl
theorem c24_body : hasBody Tryz.prog 24 = true := hasBody_of Tryz.func24 (by kernel_rfl)
/-- (*coachyard/loom.Loom).Busy -/
def c25 : PFn := ⟨34, Tr.ofList (List.replicate 34 undefA), (.seq (.seqR [⟨.move, [.const (.bool false)], (some 4), none⟩])
 (.seq (.seq (.seqR [⟨.move, [.tmp 0], (some 7), none⟩,
 ⟨.move, [.tmp 1], (some 8), none⟩,
 ⟨(.callF 43), [.tmp 7, .tmp 8], (some 9), none⟩,
 ⟨(.bin .neq), [.tmp 9, .const (.int .i64 0)], (some 10), none⟩,
 ⟨.move, [.tmp 10], (some 11), none⟩,
 ⟨.move, [.tmp 0], (some 12), some (11, false)⟩,
 ⟨.nilCheck, [.tmp 12], (some 13), some (11, false)⟩,
 ⟨(.fieldAddr 1), [.tmp 13], (some 14), some (11, false)⟩,
 ⟨(.load false 1), [.tmp 14], (some 15), some (11, false)⟩,
 ⟨.move, [.tmp 1], (some 16), some (11, false)⟩,
 ⟨(.indexAddrS 1), [.tmp 15, .tmp 16], (some 17), some (11, false)⟩,
 ⟨(.load false 1), [.tmp 17], (some 18), some (11, false)⟩,
 ⟨(.eqPtr false), [.tmp 18, .const (.ptr none)], (some 19), some (11, false)⟩,
 ⟨.pick, [.tmp 11, .const (.bool true), .tmp 19], (some 20), none⟩])
 (.cond (.tmp 20) (.seq (.seqR [⟨.move, [.const (.bool false)], (some 4), none⟩])
 .ret)
 .skip))
 (.seq (.seqR [⟨.move, [.tmp 0], (some 22), none⟩,
 ⟨.nilCheck, [.tmp 22], (some 23), none⟩,
 ⟨(.fieldAddr 1), [.tmp 23], (some 24), none⟩,
 ⟨(.load false 1), [.tmp 24], (some 25), none⟩,
 ⟨.move, [.tmp 1], (some 26), none⟩,
 ⟨(.indexAddrS 1), [.tmp 25, .tmp 26], (some 27), none⟩,
 ⟨(.load false 1), [.tmp 27], (some 28), none⟩,
 ⟨(.callF 44), [.tmp 28], (some 29), none⟩,
 ⟨.move, [.tmp 29], (some 21), none⟩,
 ⟨(.extract 0), [.tmp 21], (some 30), none⟩,
 ⟨(.extract 1), [.tmp 21], (some 31), none⟩,
 ⟨(.new [(.int .i64 0), (.int .u64 0), (.slice none 0 0 false)]), [], (some 5), none⟩,
 ⟨(.store 3), [.tmp 5, .tmp 30], none, none⟩,
 ⟨.move, [.tmp 31], (some 6), none⟩])
 (.seq (.seqR [⟨.move, [.tmp 6], (some 32), none⟩,
 ⟨.not, [.tmp 32], (some 33), none⟩,
 ⟨.move, [.tmp 33], (some 4), none⟩])
 .ret)))), [.tmp 4]⟩
theorem c25_ok : compFunc Tryz.prog Tryz.f25 = some c25 := by kernel_rfl
theorem c25_body : hasBody Tryz.prog 25 = true := hasBody_of Tryz.func25 (by kernel_rfl)
/-- (*coachyard/loom.Loom).Parked -/
def c26 : PFn := ⟨15, Tr.ofList (List.replicate 15 undefA), (.seq (.seqR [⟨.move, [.const (.bool false)], (some 4), none⟩])
 (.seq (.seqR [⟨.move, [.tmp 0], (some 8), none⟩,
 ⟨.move, [.tmp 1], (some 9), none⟩,
 ⟨(.callF 45), [.tmp 8, .tmp 9], (some 10), none⟩,
 ⟨.move, [.tmp 10], (some 7), none⟩,
 ⟨(.extract 0), [.tmp 7], (some 11), none⟩,
 ⟨(.extract 1), [.tmp 7], (some 12), none⟩,
 ⟨(.new [(.int .i64 0), (.int .i64 0), (.int .u64 0), (.int .u64 0)]), [], (some 5), none⟩,
 ⟨(.store 4), [.tmp 5, .tmp 11], none, none⟩,
 ⟨.move, [.tmp 12], (some 6), none⟩])
 (.seq (.seqR [⟨.move, [.tmp 6], (some 13), none⟩,
 ⟨(.bin .eql), [.tmp 13, .const (.int .i64 11)], (some 14), none⟩,
 ⟨.move, [.tmp 14], (some 4), none⟩])
 .ret))), [.tmp 4]⟩
theorem c26_ok : compFunc Tryz.prog Tryz.f26 = some c26 := by kernel_rfl
theorem c26_body : hasBody Tryz.prog 26 = true := hasBody_of Tryz.func26 (by kernel_rfl)
/-- (*coachyard/loom.Loom).Result -/
def c27 : PFn := ⟨21, Tr.ofList (List.replicate 21 undefA), (.seq (.seqR [⟨(.new [(.int .i64 0), (.int .u64 0), (.slice none 0 0 false)]), [], (some 4), none⟩,
 ⟨.move, [.const (.bool false)], (some 5), none⟩])
 (.seq (.seq (.seqR [⟨.move, [.tmp 0], (some 6), none⟩,
 ⟨.move, [.tmp 1], (some 7), none⟩,
 ⟨(.callF 43), [.tmp 6, .tmp 7], (some 8), none⟩,
 ⟨(.bin .neq), [.tmp 8, .const (.int .i64 0)], (some 9), none⟩])
 (.cond (.tmp 9) (.seq (.seqR [⟨(.build [(.int .i64 0), (.int .u64 0), (.slice none 0 0 false)] []), [], (some 10), none⟩,
 ⟨(.store 3), [.tmp 4, .tmp 10], none, none⟩,
 ⟨.move, [.const (.bool false)], (some 5), none⟩])
 .ret)
 .skip))
 (.seq (.seqR [⟨.move, [.tmp 0], (some 11), none⟩,
 ⟨.nilCheck, [.tmp 11], (some 12), none⟩,
 ⟨(.fieldAddr 1), [.tmp 12], (some 13), none⟩,
 ⟨(.load false 1), [.tmp 13], (some 14), none⟩,
 ⟨.move, [.tmp 1], (some 15), none⟩,
 ⟨(.indexAddrS 1), [.tmp 14, .tmp 15], (some 16), none⟩,
 ⟨(.load false 1), [.tmp 16], (some 17), none⟩,
 ⟨(.callF 44), [.tmp 17], (some 18), none⟩,
 ⟨(.extract 0), [.tmp 18], (some 19), none⟩,
 ⟨(.extract 1), [.tmp 18], (some 20), none⟩,
 ⟨(.store 3), [.tmp 4, .tmp 19], none, none⟩,
 ⟨.move, [.tmp 20], (some 5), none⟩])
 .ret))), [.cell 4 true 3, .tmp 5]⟩
theorem c27_ok : compFunc Tryz.prog Tryz.f27 = some c27 := by kernel_rfl
theorem c27_body : hasBody Tryz.prog 27 = true := hasBody_of Tryz.func27 (by kernel_rfl)
/-- (*coachyard/yard.Yard).All -/
def c28 : PFn := ⟨18, Tr.ofList (List.replicate 18 undefA), (.seq (.seqR [⟨.move, [.const (.slice none 0 0 false)], (some 2), none⟩,
 ⟨.move, [.const (.int .i64 0)], (some 3), none⟩])
 (.seq (.seq (.seqR [⟨.move, [.tmp 0], (some 4), none⟩,
 ⟨(.eqPtr false), [.tmp 4, .const (.ptr none)], (some 5), none⟩])
 (.cond (.tmp 5) (.seq (.seqR [⟨.move, [.const (.slice none 0 0 false)], (some 2), none⟩,
 ⟨.move, [.const (.int .i64 1)], (some 3), none⟩])
 .ret)
 .skip))
 (.seq (.drawR [⟨⟨.move, [.tmp 0], (some 6), none⟩, false, false, 0, 1⟩,
 ⟨⟨.nilCheck, [.tmp 6], (some 7), none⟩, false, false, 0, 1⟩,
 ⟨⟨(.fieldAddr 0), [.tmp 7], (some 8), none⟩, false, false, 0, 1⟩,
 ⟨⟨(.load false 1), [.tmp 8], (some 9), none⟩, false, false, 0, 1⟩,
 ⟨⟨.move, [.tmp 0], (some 10), none⟩, false, false, 0, 0⟩,
 ⟨⟨.nilCheck, [.tmp 10], (some 11), none⟩, false, false, 0, 0⟩,
 ⟨⟨(.fieldAddr 1), [.tmp 11], (some 12), none⟩, false, false, 0, 0⟩,
 ⟨⟨(.load false 1), [.tmp 12], (some 13), none⟩, false, false, 0, 0⟩,
 ⟨⟨(.callF 47), [.tmp 13], (some 14), none⟩, true, false, 0, 1⟩,
 ⟨⟨(.callF 46), [.tmp 9, .tmp 14], (some 15), none⟩, true, false, 1, 2⟩,
 ⟨⟨(.extract 0), [.tmp 15], (some 16), none⟩, false, false, 2, 2⟩,
 ⟨⟨(.extract 1), [.tmp 15], (some 17), none⟩, false, false, 2, 2⟩,
 ⟨⟨.move, [.tmp 16], (some 2), none⟩, false, false, 2, 2⟩,
 ⟨⟨.move, [.tmp 17], (some 3), none⟩, false, false, 2, 2⟩])
 .ret))), [.tmp 2, .tmp 3]⟩
theorem c28_ok : compFunc Tryz.prog Tryz.f28 = some c28 := by kernel_rfl
theorem c28_body : hasBody Tryz.prog 28 = true := hasBody_of Tryz.func28 (by kernel_rfl)
/-- slices.Sort[[]uint64,uint64] -/
def c29 : PFn := ⟨11, Tr.ofList (List.replicate 11 undefA), (.seq (.seqR [⟨.move, [.tmp 0], (some 3), none⟩,
 ⟨.lenS, [.tmp 3], (some 4), none⟩,
 ⟨.move, [.tmp 4], (some 2), none⟩])
 (.seqR [⟨.move, [.tmp 0], (some 5), none⟩,
 ⟨.move, [.tmp 2], (some 6), none⟩,
 ⟨.move, [.tmp 2], (some 7), none⟩,
 ⟨(.conv .u64), [.tmp 7], (some 8), none⟩,
 ⟨(.callF 49), [.tmp 8], (some 9), none⟩,
 ⟨(.callF 48), [.tmp 5, .const (.int .i64 0), .tmp 6, .tmp 9], (some 10), none⟩])), []⟩
theorem c29_ok : compFunc Tryz.prog Tryz.f29 = some c29 := by kernel_rfl
theorem c29_body : hasBody Tryz.prog 29 = true := hasBody_of Tryz.func29 (by kernel_rfl)
/-- slices.ContainsFunc[[]coachyard/explore.Outcome,coachyard/explore.Outcome] -/
def c30 : PFn := ⟨9, Tr.ofList (List.replicate 9 undefA), (.seq (.seqR [⟨.move, [.const (.bool false)], (some 4), none⟩])
 (.seq (.seqR [⟨.move, [.tmp 0], (some 5), none⟩,
 ⟨.move, [.tmp 1], (some 6), none⟩,
 ⟨(.callF 50), [.tmp 5, .tmp 6], (some 7), none⟩,
 ⟨(.bin .geq), [.tmp 7, .const (.int .i64 0)], (some 8), none⟩,
 ⟨.move, [.tmp 8], (some 4), none⟩])
 .ret)), [.tmp 4]⟩
theorem c30_ok : compFunc Tryz.prog Tryz.f30 = some c30 := by kernel_rfl
theorem c30_body : hasBody Tryz.prog 30 = true := hasBody_of Tryz.func30 (by kernel_rfl)
/-- (*coachyard/explore.way).end$1 -/
def c31 : PFn := ⟨7, Tr.ofList (List.replicate 7 undefA), (.seq (.seqR [⟨.box, [.tmp 0], (some 2), none⟩,
 ⟨.move, [.const (.bool false)], (some 3), none⟩])
 (.seq (.seqR [⟨(.load true 2), [.tmp 1], (some 4), none⟩,
 ⟨(.load true 2), [.tmp 2], (some 5), none⟩,
 ⟨(.callF 7), [.tmp 4, .tmp 5], (some 6), none⟩,
 ⟨.move, [.tmp 6], (some 3), none⟩])
 .ret)), [.tmp 3]⟩
theorem c31_ok : compFunc Tryz.prog Tryz.f31 = some c31 := by kernel_rfl
theorem c31_body : hasBody Tryz.prog 31 = true := hasBody_of Tryz.func31 (by kernel_rfl)
/-- (*coachyard/pool.Pool).Plan -/
def c32 : PFn := ⟨10, Tr.ofList (List.replicate 10 undefA), (.seq (.seqR [⟨(.new [(.int .i64 0), (.int .i64 0), (.int .i64 0), (.int .i64 0)]), [], (some 2), none⟩])
 (.seq (.seq (.seqR [⟨.move, [.tmp 0], (some 3), none⟩,
 ⟨(.eqPtr false), [.tmp 3, .const (.ptr none)], (some 4), none⟩])
 (.cond (.tmp 4) (.seq (.seqR [⟨(.build [(.int .i64 0), (.int .i64 0), (.int .i64 0), (.int .i64 0)] []), [], (some 5), none⟩,
 ⟨(.store 4), [.tmp 2, .tmp 5], none, none⟩])
 .ret)
 .skip))
 (.seq (.seqR [⟨.move, [.tmp 0], (some 6), none⟩,
 ⟨.nilCheck, [.tmp 6], (some 7), none⟩,
 ⟨(.fieldAddr 0), [.tmp 7], (some 8), none⟩,
 ⟨(.load true 4), [.tmp 8], (some 9), none⟩,
 ⟨(.store 4), [.tmp 2, .tmp 9], none, none⟩])
 .ret))), [.cell 2 true 4]⟩
theorem c32_ok : compFunc Tryz.prog Tryz.f32 = some c32 := by kernel_rfl
theorem c32_body : hasBody Tryz.prog 32 = true := hasBody_of Tryz.func32 (by kernel_rfl)
/-- (coachyard/plan.Plan).Init -/
def c33 : PFn := ⟨20, Tr.ofList (List.replicate 20 undefA), (.seq (.seqR [⟨.box, [.tmp 0], (some 1), none⟩,
 ⟨.move, [.const (.ptr none)], (some 2), none⟩,
 ⟨.move, [.const (.int .i64 0)], (some 3), none⟩])
 (.seq (.seqR [⟨(.load true 4), [.tmp 1], (some 7), none⟩,
 ⟨(.callF 52), [.tmp 7], (some 8), none⟩,
 ⟨(.callF 51), [.tmp 8], (some 9), none⟩,
 ⟨.move, [.tmp 9], (some 6), none⟩,
 ⟨(.extract 0), [.tmp 6], (some 10), none⟩,
 ⟨(.extract 1), [.tmp 6], (some 11), none⟩,
 ⟨.move, [.tmp 10], (some 4), none⟩,
 ⟨.move, [.tmp 11], (some 5), none⟩])
 (.seq (.seq (.seqR [⟨.move, [.tmp 5], (some 12), none⟩,
 ⟨(.bin .eql), [.tmp 12, .const (.int .i64 0)], (some 13), none⟩])
 (.cond (.tmp 13) (.seqR [⟨(.load true 4), [.tmp 1], (some 14), none⟩,
 ⟨(.callF 53), [.tmp 14], (some 15), none⟩,
 ⟨.move, [.tmp 4], (some 16), none⟩,
 ⟨(.callF 54), [.tmp 15, .tmp 16], (some 17), none⟩,
 ⟨.move, [.tmp 17], (some 5), none⟩])
 .skip))
 (.seq (.seqR [⟨.move, [.tmp 4], (some 18), none⟩,
 ⟨.move, [.tmp 5], (some 19), none⟩,
 ⟨.move, [.tmp 18], (some 2), none⟩,
 ⟨.move, [.tmp 19], (some 3), none⟩])
 .ret)))), [.tmp 2, .tmp 3]⟩
theorem c33_ok : compFunc Tryz.prog Tryz.f33 = some c33 := by kernel_rfl
theorem c33_body : hasBody Tryz.prog 33 = true := hasBody_of Tryz.func33 (by kernel_rfl)
/-- coachyard/loom.New -/
def c34 : PFn := ⟨21, Tr.ofList (List.replicate 21 undefA), (.seq (.seqR [⟨.move, [.const (.ptr none)], (some 4), none⟩,
 ⟨.move, [.const (.int .i64 0)], (some 5), none⟩])
 (.seq (.block 0 (.seq (.seqR [⟨.move, [.tmp 0], (some 7), none⟩,
 ⟨(.eqPtr false), [.tmp 7, .const (.ptr none)], (some 8), none⟩,
 ⟨.move, [.tmp 8], (some 6), none⟩])
 (.cond (.tmp 6) (.seq (.seqR [⟨.move, [.const (.ptr none)], (some 4), none⟩,
 ⟨.move, [.const (.int .i64 1)], (some 5), none⟩])
 .ret)
 (.seq (.seqR [⟨.move, [.tmp 1], (some 10), none⟩,
 ⟨(.bin .lss), [.tmp 10, .const (.int .i64 1)], (some 11), none⟩,
 ⟨.move, [.tmp 11], (some 12), none⟩,
 ⟨.move, [.tmp 1], (some 13), some (12, false)⟩,
 ⟨(.bin .gtr), [.tmp 13, .const (.int .i64 16)], (some 14), some (12, false)⟩,
 ⟨.pick, [.tmp 12, .const (.bool true), .tmp 14], (some 15), none⟩,
 ⟨.move, [.tmp 15], (some 9), none⟩])
 (.cond (.tmp 9) (.seq (.seqR [⟨.move, [.const (.ptr none)], (some 4), none⟩,
 ⟨.move, [.const (.int .i64 2)], (some 5), none⟩])
 .ret)
 .skip)))))
 (.seq (.seqR [⟨.move, [.tmp 0], (some 16), none⟩,
 ⟨.move, [.tmp 1], (some 17), none⟩,
 ⟨(.makeSlice 1 8 [(.ptr none)]), [.tmp 17, .tmp 17], (some 18), none⟩,
 ⟨(.build [(.ptr none), (.slice none 0 0 false), (.int .i64 0)] [(0, 1), (1, 1)]), [.tmp 16, .tmp 18], (some 19), none⟩,
 ⟨.box, [.tmp 19], (some 20), none⟩,
 ⟨.move, [.tmp 20], (some 4), none⟩,
 ⟨.move, [.const (.int .i64 0)], (some 5), none⟩])
 .ret))), [.tmp 4, .tmp 5]⟩
theorem c34_ok : compFunc Tryz.prog Tryz.f34 = some c34 := by kernel_rfl
theorem c34_body : hasBody Tryz.prog 34 = true := hasBody_of Tryz.func34 (by kernel_rfl)
/-- (*coachyard/yard.Yard).Do -/
def c35 : PFn := ⟨26, Tr.ofList (List.replicate 26 undefA), (.seq (.seqR [⟨.box, [.tmp 1], (some 3), none⟩,
 ⟨.move, [.const (.int .i64 0)], (some 4), none⟩])
 (.seq (.block 0 (.seq (.seqR [⟨.move, [.tmp 0], (some 6), none⟩,
 ⟨(.eqPtr false), [.tmp 6, .const (.ptr none)], (some 7), none⟩,
 ⟨.move, [.tmp 7], (some 5), none⟩])
 (.cond (.tmp 5) (.seq (.seqR [⟨.move, [.const (.int .i64 1)], (some 4), none⟩])
 .ret)
 (.seq (.seqR [⟨(.fieldAddr 0), [.tmp 3], (some 9), none⟩,
 ⟨(.load false 1), [.tmp 9], (some 10), none⟩,
 ⟨(.bin .eql), [.tmp 10, .const (.int .i64 1)], (some 11), none⟩,
 ⟨.move, [.tmp 11], (some 8), none⟩])
 (.cond (.tmp 8) (.seq (.seqR [⟨.move, [.tmp 0], (some 12), none⟩,
 ⟨(.fieldAddr 1), [.tmp 3], (some 13), none⟩,
 ⟨(.load false 1), [.tmp 13], (some 14), none⟩,
 ⟨(.fieldAddr 2), [.tmp 3], (some 15), none⟩,
 ⟨(.load true 3), [.tmp 15], (some 16), none⟩,
 ⟨(.callF 22), [.tmp 12, .tmp 14, .tmp 16], (some 17), none⟩,
 ⟨.move, [.tmp 17], (some 4), none⟩])
 .ret)
 (.seq (.seqR [⟨(.fieldAddr 0), [.tmp 3], (some 19), none⟩,
 ⟨(.load false 1), [.tmp 19], (some 20), none⟩,
 ⟨(.bin .eql), [.tmp 20, .const (.int .i64 2)], (some 21), none⟩,
 ⟨.move, [.tmp 21], (some 18), none⟩])
 (.cond (.tmp 18) (.seq (.seqR [⟨.move, [.tmp 0], (some 22), none⟩,
 ⟨(.fieldAddr 1), [.tmp 3], (some 23), none⟩,
 ⟨(.load false 1), [.tmp 23], (some 24), none⟩,
 ⟨(.callF 23), [.tmp 22, .tmp 24], (some 25), none⟩,
 ⟨.move, [.tmp 25], (some 4), none⟩])
 .ret)
 .skip)))))))
 (.seq (.seqR [⟨.move, [.const (.int .i64 2)], (some 4), none⟩])
 .ret))), [.tmp 4]⟩
theorem c35_ok : compFunc Tryz.prog Tryz.f35 = some c35 := by kernel_rfl
theorem c35_body : hasBody Tryz.prog 35 = true := hasBody_of Tryz.func35 (by kernel_rfl)
/-- (*coachyard/yard.Yard).Rests -/
def c36 : PFn := ⟨30, Tr.ofList (List.replicate 30 undefA), (.seq (.seqR [⟨.move, [.const (.bool false)], (some 2), none⟩])
 (.seq (.seq (.seqR [⟨.move, [.tmp 0], (some 4), none⟩,
 ⟨(.eqPtr false), [.tmp 4, .const (.ptr none)], (some 5), none⟩])
 (.cond (.tmp 5) (.seq (.seqR [⟨.move, [.const (.bool false)], (some 2), none⟩])
 .ret)
 .skip))
 (.seq (.seq (.seqR [⟨.move, [.tmp 0], (some 6), none⟩,
 ⟨.nilCheck, [.tmp 6], (some 7), none⟩,
 ⟨(.fieldAddr 2), [.tmp 7], (some 8), none⟩,
 ⟨(.load false 1), [.tmp 8], (some 9), none⟩,
 ⟨.lenS, [.tmp 9], (some 10), none⟩,
 ⟨.move, [.const (.int .i64 0)], (some 11), none⟩])
 (.block 0 (.loop (.seq (.seqR [⟨(.bin .lss), [.tmp 11, .tmp 10], (some 12), none⟩])
 (.seq (.cond (.tmp 12) .skip
 (.exit 0))
 (.seq (.block 1 (.seq (.seqR [⟨.move, [.tmp 11], (some 13), none⟩,
 ⟨.move, [.tmp 13], (some 3), none⟩])
 (.seq (.seqR [⟨.move, [.tmp 0], (some 14), none⟩,
 ⟨.nilCheck, [.tmp 14], (some 15), none⟩,
 ⟨(.fieldAddr 1), [.tmp 15], (some 16), none⟩,
 ⟨(.load false 1), [.tmp 16], (some 17), none⟩,
 ⟨.move, [.tmp 3], (some 18), none⟩,
 ⟨(.callF 25), [.tmp 17, .tmp 18], (some 19), none⟩,
 ⟨.move, [.tmp 19], (some 20), none⟩,
 ⟨.move, [.tmp 0], (some 21), some (20, true)⟩,
 ⟨.nilCheck, [.tmp 21], (some 22), some (20, true)⟩,
 ⟨(.fieldAddr 1), [.tmp 22], (some 23), some (20, true)⟩,
 ⟨(.load false 1), [.tmp 23], (some 24), some (20, true)⟩,
 ⟨.move, [.tmp 3], (some 25), some (20, true)⟩,
 ⟨(.callF 26), [.tmp 24, .tmp 25], (some 26), some (20, true)⟩,
 ⟨.not, [.tmp 26], (some 27), some (20, true)⟩,
 ⟨.pick, [.tmp 20, .tmp 27, .const (.bool false)], (some 28), none⟩])
 (.cond (.tmp 28) (.seq (.seqR [⟨.move, [.const (.bool false)], (some 2), none⟩])
 .ret)
 .skip))))
 (.seqR [⟨(.bin .add), [.tmp 11, .const (.int .i64 1)], (some 29), none⟩,
 ⟨.move, [.tmp 29], (some 11), none⟩])))))))
 (.seq (.seqR [⟨.move, [.const (.bool true)], (some 2), none⟩])
 .ret)))), [.tmp 2]⟩
theorem c36_ok : compFunc Tryz.prog Tryz.f36 = some c36 := by kernel_rfl
theorem c36_body : hasBody Tryz.prog 36 = true := hasBody_of Tryz.func36 (by kernel_rfl)
/-- (*coachyard/loom.Loom).Start -/
def c37 : PFn := ⟨30, Tr.ofList (List.replicate 30 undefA), (.seq (.seqR [⟨.move, [.const (.int .i64 0)], (some 6), none⟩])
 (.seq (.seq (.seqR [⟨.move, [.tmp 0], (some 8), none⟩,
 ⟨(.eqPtr false), [.tmp 8, .const (.ptr none)], (some 9), none⟩,
 ⟨.move, [.tmp 9], (some 10), none⟩,
 ⟨.move, [.tmp 2], (some 11), some (10, false)⟩,
 ⟨(.eqPtr false), [.tmp 11, .const (.ptr none)], (some 12), some (10, false)⟩,
 ⟨.pick, [.tmp 10, .const (.bool true), .tmp 12], (some 13), none⟩])
 (.cond (.tmp 13) (.seq (.seqR [⟨.move, [.const (.int .i64 1)], (some 6), none⟩])
 .ret)
 .skip))
 (.seq (.seq (.seqR [⟨.move, [.tmp 0], (some 14), none⟩,
 ⟨.move, [.tmp 1], (some 15), none⟩,
 ⟨(.callF 43), [.tmp 14, .tmp 15], (some 16), none⟩,
 ⟨.move, [.tmp 16], (some 7), none⟩])
 (.seq (.seqR [⟨.move, [.tmp 7], (some 17), none⟩,
 ⟨(.bin .neq), [.tmp 17, .const (.int .i64 0)], (some 18), none⟩])
 (.cond (.tmp 18) (.seq (.seqR [⟨.move, [.tmp 7], (some 19), none⟩,
 ⟨.move, [.tmp 19], (some 6), none⟩])
 .ret)
 .skip)))
 (.seq (.seq (.seqR [⟨.move, [.tmp 0], (some 20), none⟩,
 ⟨.move, [.tmp 1], (some 21), none⟩,
 ⟨(.callF 25), [.tmp 20, .tmp 21], (some 22), none⟩])
 (.cond (.tmp 22) (.seq (.seqR [⟨.move, [.const (.int .i64 8)], (some 6), none⟩])
 .ret)
 .skip))
 (.seq (.seqR [⟨.move, [.tmp 0], (some 23), none⟩,
 ⟨.nilCheck, [.tmp 23], (some 24), none⟩,
 ⟨(.fieldAddr 1), [.tmp 24], (some 25), none⟩,
 ⟨(.load false 1), [.tmp 25], (some 26), none⟩,
 ⟨.move, [.tmp 1], (some 27), none⟩,
 ⟨.move, [.tmp 2], (some 28), none⟩,
 ⟨(.indexAddrS 1), [.tmp 26, .tmp 27], (some 29), none⟩,
 ⟨(.store 1), [.tmp 29, .tmp 28], none, none⟩])
 (.seq (.seqR [⟨.move, [.const (.int .i64 0)], (some 6), none⟩])
 .ret)))))), [.tmp 6]⟩
theorem c37_ok : compFunc Tryz.prog Tryz.f37 = some c37 := by kernel_rfl
theorem c37_body : hasBody Tryz.prog 37 = true := hasBody_of Tryz.func37 (by kernel_rfl)
/-- (*coachyard/pool.Pool).Call -/
def c38 : PFn := ⟨35, Tr.ofList (List.replicate 35 undefA), (.seq (.seqR [⟨.box, [.tmp 2], (some 5), none⟩,
 ⟨.move, [.const (.ptr none)], (some 6), none⟩])
 (.seq (.seqR [⟨(.build [.nilFunc, .nilFunc, .nilFunc, .nilFunc] [(1, 1), (2, 1), (3, 1)]), [.const (.func (.func 55) [] []), .const (.func (.func 57) [] []), .const (.func (.func 59) [] [])], (some 8), none⟩,
 ⟨(.new [.nilFunc, .nilFunc, .nilFunc, .nilFunc]), [], (some 7), none⟩,
 ⟨(.store 4), [.tmp 7, .tmp 8], none, none⟩])
 (.seq (.seq (.seqR [⟨.move, [.tmp 0], (some 9), none⟩,
 ⟨(.eqPtr true), [.tmp 9, .const (.ptr none)], (some 10), none⟩,
 ⟨.move, [.tmp 10], (some 11), none⟩,
 ⟨(.fieldAddr 0), [.tmp 5], (some 12), some (11, true)⟩,
 ⟨(.load false 1), [.tmp 12], (some 13), some (11, true)⟩,
 ⟨(.bin .lss), [.tmp 13, .const (.int .i64 1)], (some 14), some (11, true)⟩,
 ⟨.move, [.tmp 14], (some 15), some (11, true)⟩,
 ⟨(.fieldAddr 0), [.tmp 5], (some 16), some (15, false)⟩,
 ⟨(.load false 1), [.tmp 16], (some 17), some (15, false)⟩,
 ⟨(.bin .geq), [.tmp 17, .const (.int .i64 4)], (some 18), some (15, false)⟩,
 ⟨.pick, [.tmp 15, .const (.bool true), .tmp 18], (some 19), some (11, true)⟩,
 ⟨.pick, [.tmp 11, .tmp 19, .const (.bool false)], (some 20), none⟩])
 (.cond (.tmp 20) (.seq (.seqR [⟨(.callF 60), [.const (.func (.func 61) [] [])], (some 21), none⟩,
 ⟨.move, [.tmp 21], (some 6), none⟩])
 .ret)
 .skip))
 (.seq (.seq (.seqR [⟨.move, [.tmp 0], (some 22), none⟩,
 ⟨(.eqPtr false), [.tmp 22, .const (.ptr none)], (some 23), none⟩])
 (.cond (.tmp 23) (.seq (.seqR [⟨.move, [.tmp 0], (some 24), none⟩,
 ⟨.move, [.tmp 1], (some 25), none⟩,
 ⟨(.callF 63), [.tmp 24, .tmp 25], (some 26), none⟩,
 ⟨.move, [.tmp 26], (some 6), none⟩])
 .ret)
 .skip))
 (.seq (.drawR [⟨⟨(.fieldAddr 0), [.tmp 5], (some 27), none⟩, false, false, 0, 0⟩,
 ⟨⟨(.load false 1), [.tmp 27], (some 28), none⟩, false, false, 0, 0⟩,
 ⟨⟨(.indexAddrA 4 1), [.tmp 7, .tmp 28], (some 29), none⟩, false, false, 0, 0⟩,
 ⟨⟨(.load false 1), [.tmp 29], (some 30), none⟩, false, false, 0, 0⟩,
 ⟨⟨.move, [.tmp 0], (some 31), none⟩, false, false, 0, 0⟩,
 ⟨⟨.move, [.tmp 1], (some 32), none⟩, false, false, 0, 0⟩,
 ⟨⟨(.load true 3), [.tmp 5], (some 33), none⟩, false, false, 0, 0⟩,
 ⟨⟨.callV, [.tmp 30, .tmp 31, .tmp 32, .tmp 33], (some 34), none⟩, true, false, 0, 1⟩,
 ⟨⟨.move, [.tmp 34], (some 6), none⟩, false, false, 1, 1⟩])
 .ret))))), [.tmp 6]⟩
theorem c38_ok : compFunc Tryz.prog Tryz.f38 = some c38 := by kernel_rfl
theorem c38_body : hasBody Tryz.prog 38 = true := hasBody_of Tryz.func38 (by kernel_rfl)
/-- coachyard/yard.own -/
def c39 : PFn := ⟨8, Tr.ofList (List.replicate 8 undefA), (.seq (.seqR [⟨.box, [.tmp 0], (some 1), none⟩,
 ⟨(.new [(.int .i64 0), (.int .u64 0), (.slice none 0 0 false)]), [], (some 2), none⟩])
 (.seq (.seqR [⟨(.fieldAddr 2), [.tmp 1], (some 3), none⟩,
 ⟨(.load false 1), [.tmp 3], (some 4), none⟩,
 ⟨(.callF 64), [.tmp 4], (some 5), none⟩,
 ⟨(.fieldAddr 2), [.tmp 1], (some 6), none⟩,
 ⟨(.store 1), [.tmp 6, .tmp 5], none, none⟩])
 (.seq (.seqR [⟨(.load true 3), [.tmp 1], (some 7), none⟩,
 ⟨(.store 3), [.tmp 2, .tmp 7], none, none⟩])
 .ret))), [.cell 2 true 3]⟩
theorem c39_ok : compFunc Tryz.prog Tryz.f39 = some c39 := by kernel_rfl
theorem c39_body : hasBody Tryz.prog 39 = true := hasBody_of Tryz.func39 (by kernel_rfl)
/-- (*coachyard/yard.Yard).note -/
def c40 : PFn := ⟨39, Tr.ofList (List.replicate 39 undefA), (.seq (.seqR [⟨.box, [.tmp 3], (some 7), none⟩])
 (.seq (.seqR [⟨.move, [.tmp 0], (some 9), none⟩,
 ⟨.nilCheck, [.tmp 9], (some 10), none⟩,
 ⟨(.fieldAddr 2), [.tmp 10], (some 11), none⟩,
 ⟨(.load false 1), [.tmp 11], (some 12), none⟩,
 ⟨.move, [.tmp 1], (some 13), none⟩,
 ⟨(.indexAddrS 5), [.tmp 12, .tmp 13], (some 14), none⟩,
 ⟨(.load true 5), [.tmp 14], (some 15), none⟩,
 ⟨(.new [(.int .i64 0), (.int .u64 0), (.slice none 0 0 false), (.bool false), (.int .i64 0)]), [], (some 8), none⟩,
 ⟨(.store 5), [.tmp 8, .tmp 15], none, none⟩])
 (.drawR [⟨⟨.move, [.tmp 0], (some 16), none⟩, false, false, 0, 4⟩,
 ⟨⟨.move, [.tmp 0], (some 17), none⟩, false, false, 0, 3⟩,
 ⟨⟨.nilCheck, [.tmp 17], (some 18), none⟩, false, false, 0, 3⟩,
 ⟨⟨(.fieldAddr 3), [.tmp 18], (some 19), none⟩, false, false, 0, 3⟩,
 ⟨⟨(.load false 1), [.tmp 19], (some 20), none⟩, false, false, 0, 3⟩,
 ⟨⟨.move, [.tmp 0], (some 21), none⟩, false, false, 0, 0⟩,
 ⟨⟨.nilCheck, [.tmp 21], (some 22), none⟩, false, false, 0, 0⟩,
 ⟨⟨(.fieldAddr 1), [.tmp 22], (some 23), none⟩, false, false, 0, 0⟩,
 ⟨⟨(.load false 1), [.tmp 23], (some 24), none⟩, false, false, 0, 0⟩,
 ⟨⟨(.callF 65), [.tmp 24], (some 25), none⟩, true, false, 0, 1⟩,
 ⟨⟨.move, [.tmp 1], (some 26), none⟩, false, false, 0, 2⟩,
 ⟨⟨(.fieldAddr 4), [.tmp 8], (some 27), none⟩, false, false, 0, 2⟩,
 ⟨⟨(.load false 1), [.tmp 27], (some 28), none⟩, false, false, 0, 2⟩,
 ⟨⟨.move, [.tmp 2], (some 29), none⟩, false, false, 0, 2⟩,
 ⟨⟨(.fieldAddr 0), [.tmp 8], (some 30), none⟩, false, false, 0, 1⟩,
 ⟨⟨(.load true 3), [.tmp 30], (some 31), none⟩, false, false, 0, 1⟩,
 ⟨⟨(.callF 39), [.tmp 31], (some 32), none⟩, true, false, 1, 2⟩,
 ⟨⟨(.load true 3), [.tmp 7], (some 33), none⟩, false, false, 0, 2⟩,
 ⟨⟨(.build [(.int .i64 0), (.int .i64 0), (.int .i64 0), (.bool false), (.int .i64 0), (.int .u64 0), (.slice none 0 0 false), (.int .i64 0), (.int .u64 0), (.slice none 0 0 false)] [(0, 1), (1, 1), (2, 1), (3, 1), (4, 3), (7, 3)]), [.tmp 25, .tmp 26, .tmp 28, .tmp 29, .tmp 32, .tmp 33], (some 34), none⟩, false, false, 2, 2⟩,
 ⟨⟨(.sliceLit 1 [(.int .i64 0), (.int .i64 0), (.int .i64 0), (.bool false), (.int .i64 0), (.int .u64 0), (.slice none 0 0 false), (.int .i64 0), (.int .u64 0), (.slice none 0 0 false)] [(0, 10)]), [.tmp 34], (some 35), none⟩, true, false, 2, 3⟩,
 ⟨⟨(.append 10 112), [.tmp 20, .tmp 35], (some 36), none⟩, true, false, 3, 4⟩,
 ⟨⟨.nilCheck, [.tmp 16], (some 37), none⟩, false, false, 4, 4⟩,
 ⟨⟨(.fieldAddr 3), [.tmp 37], (some 38), none⟩, false, false, 4, 4⟩,
 ⟨⟨(.store 1), [.tmp 38, .tmp 36], none, none⟩, true, false, 4, 5⟩]))), []⟩
theorem c40_ok : compFunc Tryz.prog Tryz.f40 = some c40 := by kernel_rfl
theorem c40_body : hasBody Tryz.prog 40 = true := hasBody_of Tryz.func40 (by kernel_rfl)
/-- (*coachyard/loom.Loom).Pick -/
def c41 : PFn := ⟨55, Tr.ofList (List.replicate 55 undefA), (.seq (.seqR [⟨.move, [.const (.int .i64 0)], (some 4), none⟩])
 (.seq (.seqR [⟨.move, [.tmp 0], (some 10), none⟩,
 ⟨.move, [.tmp 1], (some 11), none⟩,
 ⟨(.callF 45), [.tmp 10, .tmp 11], (some 12), none⟩,
 ⟨.move, [.tmp 12], (some 9), none⟩,
 ⟨(.extract 0), [.tmp 9], (some 13), none⟩,
 ⟨(.extract 1), [.tmp 9], (some 14), none⟩,
 ⟨(.new [(.int .i64 0), (.int .i64 0), (.int .u64 0), (.int .u64 0)]), [], (some 5), none⟩,
 ⟨(.store 4), [.tmp 5, .tmp 13], none, none⟩,
 ⟨.move, [.tmp 14], (some 6), none⟩])
 (.seq (.seq (.seqR [⟨.move, [.tmp 6], (some 15), none⟩,
 ⟨(.bin .neq), [.tmp 15, .const (.int .i64 0)], (some 16), none⟩])
 (.cond (.tmp 16) (.seq (.seqR [⟨.move, [.tmp 6], (some 17), none⟩,
 ⟨.move, [.tmp 17], (some 4), none⟩])
 .ret)
 .skip))
 (.seq (.seqR [⟨.move, [.tmp 0], (some 18), none⟩,
 ⟨.nilCheck, [.tmp 18], (some 19), none⟩,
 ⟨(.fieldAddr 2), [.tmp 19], (some 20), none⟩,
 ⟨(.load false 1), [.tmp 20], (some 21), none⟩,
 ⟨(.bin .add), [.tmp 21, .const (.int .i64 1)], (some 22), none⟩,
 ⟨.nilCheck, [.tmp 18], (some 23), none⟩,
 ⟨(.fieldAddr 2), [.tmp 23], (some 24), none⟩,
 ⟨(.store 1), [.tmp 24, .tmp 22], none, none⟩])
 (.seq (.drawR [⟨⟨.move, [.tmp 0], (some 26), none⟩, false, false, 0, 0⟩,
 ⟨⟨.nilCheck, [.tmp 26], (some 27), none⟩, false, false, 0, 0⟩,
 ⟨⟨(.fieldAddr 0), [.tmp 27], (some 28), none⟩, false, false, 0, 0⟩,
 ⟨⟨(.load false 1), [.tmp 28], (some 29), none⟩, false, false, 0, 0⟩,
 ⟨⟨(.load true 4), [.tmp 5], (some 30), none⟩, false, false, 0, 0⟩,
 ⟨⟨(.callF 66), [.tmp 29, .tmp 30], (some 31), none⟩, true, false, 0, 1⟩,
 ⟨⟨.move, [.tmp 31], (some 25), none⟩, false, false, 1, 1⟩,
 ⟨⟨(.extract 0), [.tmp 25], (some 32), none⟩, false, false, 1, 1⟩,
 ⟨⟨(.extract 1), [.tmp 25], (some 33), none⟩, false, false, 1, 1⟩,
 ⟨⟨(.extract 2), [.tmp 25], (some 34), none⟩, false, false, 1, 1⟩,
 ⟨⟨.move, [.tmp 32], (some 7), none⟩, false, false, 1, 1⟩,
 ⟨⟨.move, [.tmp 33], (some 8), none⟩, false, false, 1, 1⟩,
 ⟨⟨.move, [.tmp 34], (some 6), none⟩, false, false, 1, 1⟩])
 (.seq (.seq (.seqR [⟨.move, [.tmp 6], (some 35), none⟩,
 ⟨(.bin .neq), [.tmp 35, .const (.int .i64 0)], (some 36), none⟩])
 (.cond (.tmp 36) (.seq (.seqR [⟨.move, [.tmp 0], (some 37), none⟩,
 ⟨.nilCheck, [.tmp 37], (some 38), none⟩,
 ⟨(.fieldAddr 1), [.tmp 38], (some 39), none⟩,
 ⟨(.load false 1), [.tmp 39], (some 40), none⟩,
 ⟨.move, [.tmp 1], (some 41), none⟩,
 ⟨(.indexAddrS 1), [.tmp 40, .tmp 41], (some 42), none⟩,
 ⟨(.load false 1), [.tmp 42], (some 43), none⟩,
 ⟨(.callF 62), [.tmp 43, .const (.int .i64 9)], (some 44), none⟩])
 (.seq (.seqR [⟨.move, [.const (.int .i64 9)], (some 4), none⟩])
 .ret))
 .skip))
 (.seq (.seqR [⟨.move, [.tmp 0], (some 45), none⟩,
 ⟨.nilCheck, [.tmp 45], (some 46), none⟩,
 ⟨(.fieldAddr 1), [.tmp 46], (some 47), none⟩,
 ⟨(.load false 1), [.tmp 47], (some 48), none⟩,
 ⟨.move, [.tmp 1], (some 49), none⟩,
 ⟨(.indexAddrS 1), [.tmp 48, .tmp 49], (some 50), none⟩,
 ⟨(.load false 1), [.tmp 50], (some 51), none⟩,
 ⟨.move, [.tmp 7], (some 52), none⟩,
 ⟨.move, [.tmp 8], (some 53), none⟩,
 ⟨(.callF 67), [.tmp 51, .tmp 52, .tmp 53], (some 54), none⟩])
 (.seq (.seqR [⟨.move, [.const (.int .i64 0)], (some 4), none⟩])
 .ret)))))))), [.tmp 4]⟩
theorem c41_ok : compFunc Tryz.prog Tryz.f41 = some c41 := by kernel_rfl
theorem c41_body : hasBody Tryz.prog 41 = true := hasBody_of Tryz.func41 (by kernel_rfl)
/-- (*coachyard/yard.Yard).ended -/
def c42 : PFn := ⟨48, Tr.ofList (List.replicate 48 undefA), (.seq (.seqR [⟨.move, [.tmp 0], (some 7), none⟩,
 ⟨.nilCheck, [.tmp 7], (some 8), none⟩,
 ⟨(.fieldAddr 1), [.tmp 8], (some 9), none⟩,
 ⟨(.load false 1), [.tmp 9], (some 10), none⟩,
 ⟨.move, [.tmp 1], (some 11), none⟩,
 ⟨(.callF 27), [.tmp 10, .tmp 11], (some 12), none⟩,
 ⟨.move, [.tmp 12], (some 6), none⟩,
 ⟨(.extract 0), [.tmp 6], (some 13), none⟩,
 ⟨(.extract 1), [.tmp 6], (some 14), none⟩,
 ⟨(.new [(.int .i64 0), (.int .u64 0), (.slice none 0 0 false)]), [], (some 4), none⟩,
 ⟨(.store 3), [.tmp 4, .tmp 13], none, none⟩,
 ⟨.move, [.tmp 14], (some 5), none⟩])
 (.seq (.seqR [⟨.move, [.tmp 5], (some 15), none⟩,
 ⟨.move, [.tmp 15], (some 16), none⟩,
 ⟨.move, [.tmp 0], (some 17), some (16, true)⟩,
 ⟨.nilCheck, [.tmp 17], (some 18), some (16, true)⟩,
 ⟨(.fieldAddr 2), [.tmp 18], (some 19), some (16, true)⟩,
 ⟨(.load false 1), [.tmp 19], (some 20), some (16, true)⟩,
 ⟨.move, [.tmp 1], (some 21), some (16, true)⟩,
 ⟨(.indexAddrS 5), [.tmp 20, .tmp 21], (some 22), some (16, true)⟩,
 ⟨(.fieldAddr 3), [.tmp 22], (some 23), some (16, true)⟩,
 ⟨(.load false 1), [.tmp 23], (some 24), some (16, true)⟩,
 ⟨.pick, [.tmp 16, .tmp 24, .const (.bool false)], (some 25), none⟩])
 (.cond (.tmp 25) (.seq (.seqR [⟨.move, [.tmp 0], (some 26), none⟩,
 ⟨.move, [.tmp 1], (some 27), none⟩,
 ⟨(.load true 3), [.tmp 4], (some 28), none⟩,
 ⟨(.callF 40), [.tmp 26, .tmp 27, .const (.bool true), .tmp 28], (some 29), none⟩])
 (.seq (.seqR [⟨.move, [.tmp 0], (some 30), none⟩,
 ⟨.nilCheck, [.tmp 30], (some 31), none⟩,
 ⟨(.fieldAddr 2), [.tmp 31], (some 32), none⟩,
 ⟨(.load false 1), [.tmp 32], (some 33), none⟩,
 ⟨.move, [.tmp 1], (some 34), none⟩,
 ⟨(.indexAddrS 5), [.tmp 33, .tmp 34], (some 35), none⟩,
 ⟨(.fieldAddr 3), [.tmp 35], (some 36), none⟩,
 ⟨(.store 1), [.tmp 36, .const (.bool false)], none, none⟩])
 (.seqR [⟨.move, [.tmp 0], (some 37), none⟩,
 ⟨.nilCheck, [.tmp 37], (some 38), none⟩,
 ⟨(.fieldAddr 2), [.tmp 38], (some 39), none⟩,
 ⟨(.load false 1), [.tmp 39], (some 40), none⟩,
 ⟨.move, [.tmp 1], (some 41), none⟩,
 ⟨(.indexAddrS 5), [.tmp 40, .tmp 41], (some 42), none⟩,
 ⟨(.fieldAddr 4), [.tmp 42], (some 43), none⟩,
 ⟨(.load false 1), [.tmp 43], (some 44), none⟩,
 ⟨(.bin .add), [.tmp 44, .const (.int .i64 1)], (some 45), none⟩,
 ⟨(.indexAddrS 5), [.tmp 40, .tmp 41], (some 46), none⟩,
 ⟨(.fieldAddr 4), [.tmp 46], (some 47), none⟩,
 ⟨(.store 1), [.tmp 47, .tmp 45], none, none⟩])))
 .skip))), []⟩
theorem c42_ok : compFunc Tryz.prog Tryz.f42 = some c42 := by kernel_rfl
theorem c42_body : hasBody Tryz.prog 42 = true := hasBody_of Tryz.func42 (by kernel_rfl)
/-- (*coachyard/loom.Loom).check -/
def c43 : PFn := ⟨20, Tr.ofList (List.replicate 20 undefA), (.seq (.seqR [⟨.move, [.const (.int .i64 0)], (some 4), none⟩])
 (.seq (.block 0 (.seq (.seqR [⟨.move, [.tmp 0], (some 6), none⟩,
 ⟨(.eqPtr false), [.tmp 6, .const (.ptr none)], (some 7), none⟩,
 ⟨.move, [.tmp 7], (some 5), none⟩])
 (.cond (.tmp 5) (.seq (.seqR [⟨.move, [.const (.int .i64 1)], (some 4), none⟩])
 .ret)
 (.seq (.seqR [⟨.move, [.tmp 1], (some 9), none⟩,
 ⟨(.bin .lss), [.tmp 9, .const (.int .i64 0)], (some 10), none⟩,
 ⟨.move, [.tmp 10], (some 11), none⟩,
 ⟨.move, [.tmp 1], (some 12), some (11, false)⟩,
 ⟨.move, [.tmp 0], (some 13), some (11, false)⟩,
 ⟨.nilCheck, [.tmp 13], (some 14), some (11, false)⟩,
 ⟨(.fieldAddr 1), [.tmp 14], (some 15), some (11, false)⟩,
 ⟨(.load false 1), [.tmp 15], (some 16), some (11, false)⟩,
 ⟨.lenS, [.tmp 16], (some 17), some (11, false)⟩,
 ⟨(.bin .geq), [.tmp 12, .tmp 17], (some 18), some (11, false)⟩,
 ⟨.pick, [.tmp 11, .const (.bool true), .tmp 18], (some 19), none⟩,
 ⟨.move, [.tmp 19], (some 8), none⟩])
 (.cond (.tmp 8) (.seq (.seqR [⟨.move, [.const (.int .i64 3)], (some 4), none⟩])
 .ret)
 .skip)))))
 (.seq (.seqR [⟨.move, [.const (.int .i64 0)], (some 4), none⟩])
 .ret))), [.tmp 4]⟩
theorem c43_ok : compFunc Tryz.prog Tryz.f43 = some c43 := by kernel_rfl
theorem c43_body : hasBody Tryz.prog 43 = true := hasBody_of Tryz.func43 (by kernel_rfl)
/-- (*coachyard/walk.Walk).Result -/
def c44 : PFn := ⟨24, Tr.ofList (List.replicate 24 undefA), (.seq (.seqR [⟨(.new [(.int .i64 0), (.int .u64 0), (.slice none 0 0 false)]), [], (some 2), none⟩,
 ⟨.move, [.const (.bool false)], (some 3), none⟩])
 (.seq (.seq (.seqR [⟨.move, [.tmp 0], (some 5), none⟩,
 ⟨(.eqPtr false), [.tmp 5, .const (.ptr none)], (some 6), none⟩,
 ⟨.move, [.tmp 6], (some 7), none⟩,
 ⟨.move, [.tmp 0], (some 8), some (7, false)⟩,
 ⟨.nilCheck, [.tmp 8], (some 9), some (7, false)⟩,
 ⟨(.fieldAddr 8), [.tmp 9], (some 10), some (7, false)⟩,
 ⟨(.load false 1), [.tmp 10], (some 11), some (7, false)⟩,
 ⟨.not, [.tmp 11], (some 12), some (7, false)⟩,
 ⟨.pick, [.tmp 7, .const (.bool true), .tmp 12], (some 13), none⟩])
 (.cond (.tmp 13) (.seq (.seqR [⟨(.build [(.int .i64 0), (.int .u64 0), (.slice none 0 0 false)] []), [], (some 14), none⟩,
 ⟨(.store 3), [.tmp 2, .tmp 14], none, none⟩,
 ⟨.move, [.const (.bool false)], (some 3), none⟩])
 .ret)
 .skip))
 (.seq (.seqR [⟨.move, [.tmp 0], (some 15), none⟩,
 ⟨.nilCheck, [.tmp 15], (some 16), none⟩,
 ⟨(.fieldAddr 9), [.tmp 16], (some 17), none⟩,
 ⟨(.load true 3), [.tmp 17], (some 18), none⟩,
 ⟨(.new [(.int .i64 0), (.int .u64 0), (.slice none 0 0 false)]), [], (some 4), none⟩,
 ⟨(.store 3), [.tmp 4, .tmp 18], none, none⟩])
 (.seq (.seqR [⟨(.fieldAddr 2), [.tmp 4], (some 19), none⟩,
 ⟨(.load false 1), [.tmp 19], (some 20), none⟩,
 ⟨(.callF 68), [.tmp 20], (some 21), none⟩,
 ⟨(.fieldAddr 2), [.tmp 4], (some 22), none⟩,
 ⟨(.store 1), [.tmp 22, .tmp 21], none, none⟩])
 (.seq (.seqR [⟨(.load true 3), [.tmp 4], (some 23), none⟩,
 ⟨(.store 3), [.tmp 2, .tmp 23], none, none⟩,
 ⟨.move, [.const (.bool true)], (some 3), none⟩])
 .ret))))), [.cell 2 true 3, .tmp 3]⟩
theorem c44_ok : compFunc Tryz.prog Tryz.f44 = some c44 := by kernel_rfl
theorem c44_body : hasBody Tryz.prog 44 = true := hasBody_of Tryz.func44 (by kernel_rfl)
/-- (*coachyard/loom.Loom).wants -/
def c45 : PFn := ⟨60, Tr.ofList (List.replicate 60 undefA), (.seq (.seqR [⟨(.new [(.int .i64 0), (.int .i64 0), (.int .u64 0), (.int .u64 0)]), [], (some 4), none⟩,
 ⟨.move, [.const (.int .i64 0)], (some 5), none⟩])
 (.seq (.seq (.seqR [⟨.move, [.tmp 0], (some 12), none⟩,
 ⟨.move, [.tmp 1], (some 13), none⟩,
 ⟨(.callF 43), [.tmp 12, .tmp 13], (some 14), none⟩,
 ⟨.move, [.tmp 14], (some 6), none⟩])
 (.seq (.seqR [⟨.move, [.tmp 6], (some 15), none⟩,
 ⟨(.bin .neq), [.tmp 15, .const (.int .i64 0)], (some 16), none⟩])
 (.cond (.tmp 16) (.seq (.seqR [⟨(.build [(.int .i64 0), (.int .i64 0), (.int .u64 0), (.int .u64 0)] []), [], (some 17), none⟩,
 ⟨.move, [.tmp 6], (some 18), none⟩,
 ⟨(.store 4), [.tmp 4, .tmp 17], none, none⟩,
 ⟨.move, [.tmp 18], (some 5), none⟩])
 .ret)
 .skip)))
 (.seq (.seqR [⟨.move, [.tmp 0], (some 20), none⟩,
 ⟨.nilCheck, [.tmp 20], (some 21), none⟩,
 ⟨(.fieldAddr 1), [.tmp 21], (some 22), none⟩,
 ⟨(.load false 1), [.tmp 22], (some 23), none⟩,
 ⟨.move, [.tmp 1], (some 24), none⟩,
 ⟨(.indexAddrS 1), [.tmp 23, .tmp 24], (some 25), none⟩,
 ⟨(.load false 1), [.tmp 25], (some 26), none⟩,
 ⟨(.callF 69), [.tmp 26], (some 27), none⟩,
 ⟨.move, [.tmp 27], (some 19), none⟩,
 ⟨(.extract 0), [.tmp 19], (some 28), none⟩,
 ⟨(.extract 1), [.tmp 19], (some 29), none⟩,
 ⟨(.new [(.int .i64 0), (.int .i64 0), (.int .u64 0), (.int .u64 0)]), [], (some 7), none⟩,
 ⟨(.store 4), [.tmp 7, .tmp 28], none, none⟩,
 ⟨.move, [.tmp 29], (some 8), none⟩])
 (.seq (.seq (.seqR [⟨.move, [.tmp 8], (some 30), none⟩,
 ⟨.not, [.tmp 30], (some 31), none⟩,
 ⟨.move, [.tmp 31], (some 32), none⟩,
 ⟨.move, [.tmp 0], (some 33), some (32, false)⟩,
 ⟨.move, [.tmp 1], (some 34), some (32, false)⟩,
 ⟨(.callF 25), [.tmp 33, .tmp 34], (some 35), some (32, false)⟩,
 ⟨.not, [.tmp 35], (some 36), some (32, false)⟩,
 ⟨.pick, [.tmp 32, .const (.bool true), .tmp 36], (some 37), none⟩])
 (.cond (.tmp 37) (.seq (.seqR [⟨(.build [(.int .i64 0), (.int .i64 0), (.int .u64 0), (.int .u64 0)] []), [], (some 38), none⟩,
 ⟨(.store 4), [.tmp 4, .tmp 38], none, none⟩,
 ⟨.move, [.const (.int .i64 10)], (some 5), none⟩])
 .ret)
 .skip))
 (.seq (.seq (.seqR [⟨(.fieldAddr 0), [.tmp 7], (some 39), none⟩,
 ⟨(.load false 1), [.tmp 39], (some 40), none⟩,
 ⟨(.bin .eql), [.tmp 40, .const (.int .i64 7)], (some 41), none⟩])
 (.cond (.tmp 41) (.seq (.drawR [⟨⟨.move, [.tmp 0], (some 43), none⟩, false, false, 0, 0⟩,
 ⟨⟨.nilCheck, [.tmp 43], (some 44), none⟩, false, false, 0, 0⟩,
 ⟨⟨(.fieldAddr 0), [.tmp 44], (some 45), none⟩, false, false, 0, 0⟩,
 ⟨⟨(.load false 1), [.tmp 45], (some 46), none⟩, false, false, 0, 0⟩,
 ⟨⟨(.load true 4), [.tmp 7], (some 47), none⟩, false, false, 0, 0⟩,
 ⟨⟨(.callF 66), [.tmp 46, .tmp 47], (some 48), none⟩, true, false, 0, 1⟩,
 ⟨⟨.move, [.tmp 48], (some 42), none⟩, false, false, 1, 1⟩,
 ⟨⟨(.extract 0), [.tmp 42], (some 49), none⟩, false, false, 1, 1⟩,
 ⟨⟨(.extract 1), [.tmp 42], (some 50), none⟩, false, false, 1, 1⟩,
 ⟨⟨(.extract 2), [.tmp 42], (some 51), none⟩, false, false, 1, 1⟩,
 ⟨⟨.move, [.tmp 49], (some 9), none⟩, false, false, 1, 1⟩,
 ⟨⟨.move, [.tmp 50], (some 10), none⟩, false, false, 1, 1⟩,
 ⟨⟨.move, [.tmp 51], (some 11), none⟩, false, false, 1, 1⟩])
 (.seq (.seqR [⟨.move, [.tmp 11], (some 52), none⟩,
 ⟨(.bin .eql), [.tmp 52, .const (.int .i64 0)], (some 53), none⟩,
 ⟨.move, [.tmp 53], (some 54), none⟩,
 ⟨.move, [.tmp 10], (some 55), some (54, true)⟩,
 ⟨.not, [.tmp 55], (some 56), some (54, true)⟩,
 ⟨.pick, [.tmp 54, .tmp 56, .const (.bool false)], (some 57), none⟩])
 (.cond (.tmp 57) (.seq (.seqR [⟨(.load true 4), [.tmp 7], (some 58), none⟩,
 ⟨(.store 4), [.tmp 4, .tmp 58], none, none⟩,
 ⟨.move, [.const (.int .i64 11)], (some 5), none⟩])
 .ret)
 .skip)))
 .skip))
 (.seq (.seqR [⟨(.load true 4), [.tmp 7], (some 59), none⟩,
 ⟨(.store 4), [.tmp 4, .tmp 59], none, none⟩,
 ⟨.move, [.const (.int .i64 0)], (some 5), none⟩])
 .ret)))))), [.cell 4 true 4, .tmp 5]⟩
theorem c45_ok : compFunc Tryz.prog Tryz.f45 = some c45 := by kernel_rfl
theorem c45_body : hasBody Tryz.prog 45 = true := hasBody_of Tryz.func45 (by kernel_rfl)
/-- (*coachyard/pool.Pool).All -/
def c46 : PFn := ⟨50, Tr.ofList (List.replicate 50 undefA), (.seq (.seqR [⟨.move, [.const (.slice none 0 0 false)], (some 4), none⟩,
 ⟨.move, [.const (.int .i64 0)], (some 5), none⟩])
 (.seq (.seq (.seqR [⟨.move, [.tmp 0], (some 10), none⟩,
 ⟨(.eqPtr false), [.tmp 10, .const (.ptr none)], (some 11), none⟩])
 (.cond (.tmp 11) (.seq (.seqR [⟨.move, [.const (.slice none 0 0 false)], (some 4), none⟩,
 ⟨.move, [.const (.int .i64 1)], (some 5), none⟩])
 .ret)
 .skip))
 (.seq (.seqR [⟨.move, [.tmp 0], (some 13), none⟩,
 ⟨.nilCheck, [.tmp 13], (some 14), none⟩,
 ⟨(.fieldAddr 0), [.tmp 14], (some 15), none⟩,
 ⟨(.load true 4), [.tmp 15], (some 16), none⟩,
 ⟨(.callF 53), [.tmp 16], (some 17), none⟩,
 ⟨.move, [.tmp 1], (some 18), none⟩,
 ⟨(.callF 70), [.tmp 17, .tmp 18], (some 19), none⟩,
 ⟨.move, [.tmp 19], (some 12), none⟩,
 ⟨(.extract 0), [.tmp 12], (some 20), none⟩,
 ⟨(.extract 1), [.tmp 12], (some 21), none⟩,
 ⟨.move, [.tmp 20], (some 6), none⟩,
 ⟨.move, [.tmp 21], (some 7), none⟩])
 (.seq (.seq (.seqR [⟨.move, [.tmp 0], (some 22), none⟩,
 ⟨.nilCheck, [.tmp 22], (some 23), none⟩,
 ⟨(.fieldAddr 0), [.tmp 23], (some 24), none⟩,
 ⟨(.load true 4), [.tmp 24], (some 25), none⟩,
 ⟨(.callF 71), [.tmp 25], (some 26), none⟩,
 ⟨(.field 0 1 false), [.tmp 26], (some 27), none⟩,
 ⟨.move, [.const (.int .i64 0)], (some 28), none⟩])
 (.block 0 (.loop (.seq (.seqR [⟨(.bin .lss), [.tmp 28, .tmp 27], (some 29), none⟩])
 (.seq (.cond (.tmp 29) .skip
 (.exit 0))
 (.seq (.block 1 (.seq (.seqR [⟨.move, [.tmp 28], (some 30), none⟩,
 ⟨.move, [.tmp 30], (some 8), none⟩])
 (.seq (.seq (.seqR [⟨.move, [.tmp 7], (some 31), none⟩,
 ⟨(.bin .neq), [.tmp 31, .const (.int .i64 0)], (some 32), none⟩])
 (.cond (.tmp 32) (.seq (.seqR [⟨.move, [.tmp 7], (some 33), none⟩,
 ⟨.move, [.const (.slice none 0 0 false)], (some 4), none⟩,
 ⟨.move, [.tmp 33], (some 5), none⟩])
 .ret)
 .skip))
 (.seq (.seqR [⟨.move, [.const (.slice none 0 0 false)], (some 9), none⟩])
 (.seq (.seqR [⟨.move, [.tmp 0], (some 35), none⟩,
 ⟨.move, [.tmp 8], (some 36), none⟩,
 ⟨(.callF 72), [.tmp 35, .tmp 36], (some 37), none⟩,
 ⟨.move, [.tmp 1], (some 38), none⟩,
 ⟨(.callF 73), [.tmp 37, .tmp 38], (some 39), none⟩,
 ⟨.move, [.tmp 39], (some 34), none⟩,
 ⟨(.extract 0), [.tmp 34], (some 40), none⟩,
 ⟨(.extract 1), [.tmp 34], (some 41), none⟩,
 ⟨.move, [.tmp 40], (some 9), none⟩,
 ⟨.move, [.tmp 41], (some 7), none⟩])
 (.seqR [⟨.move, [.tmp 6], (some 42), none⟩,
 ⟨.move, [.tmp 9], (some 43), none⟩,
 ⟨(.append 1 8), [.tmp 42, .tmp 43], (some 44), none⟩,
 ⟨.move, [.tmp 44], (some 6), none⟩]))))))
 (.seqR [⟨(.bin .add), [.tmp 28, .const (.int .i64 1)], (some 45), none⟩,
 ⟨.move, [.tmp 45], (some 28), none⟩])))))))
 (.seq (.seq (.seqR [⟨.move, [.tmp 7], (some 46), none⟩,
 ⟨(.bin .neq), [.tmp 46, .const (.int .i64 0)], (some 47), none⟩])
 (.cond (.tmp 47) (.seq (.seqR [⟨.move, [.tmp 7], (some 48), none⟩,
 ⟨.move, [.const (.slice none 0 0 false)], (some 4), none⟩,
 ⟨.move, [.tmp 48], (some 5), none⟩])
 .ret)
 .skip))
 (.seq (.seqR [⟨.move, [.tmp 6], (some 49), none⟩,
 ⟨.move, [.tmp 49], (some 4), none⟩,
 ⟨.move, [.const (.int .i64 0)], (some 5), none⟩])
 .ret)))))), [.tmp 4, .tmp 5]⟩
theorem c46_ok : compFunc Tryz.prog Tryz.f46 = some c46 := by kernel_rfl
theorem c46_body : hasBody Tryz.prog 46 = true := hasBody_of Tryz.func46 (by kernel_rfl)
/-- (*coachyard/loom.Loom).Mem -/
def c47 : PFn := ⟨9, Tr.ofList (List.replicate 9 undefA), (.seq (.seqR [⟨.move, [.const (.ptr none)], (some 2), none⟩])
 (.seq (.seq (.seqR [⟨.move, [.tmp 0], (some 3), none⟩,
 ⟨(.eqPtr false), [.tmp 3, .const (.ptr none)], (some 4), none⟩])
 (.cond (.tmp 4) (.seq (.seqR [⟨.move, [.const (.ptr none)], (some 2), none⟩])
 .ret)
 .skip))
 (.seq (.seqR [⟨.move, [.tmp 0], (some 5), none⟩,
 ⟨.nilCheck, [.tmp 5], (some 6), none⟩,
 ⟨(.fieldAddr 0), [.tmp 6], (some 7), none⟩,
 ⟨(.load false 1), [.tmp 7], (some 8), none⟩,
 ⟨.move, [.tmp 8], (some 2), none⟩])
 .ret))), [.tmp 2]⟩
theorem c47_ok : compFunc Tryz.prog Tryz.f47 = some c47 := by kernel_rfl
theorem c47_body : hasBody Tryz.prog 47 = true := hasBody_of Tryz.func47 (by kernel_rfl)
/-- slices.pdqsortOrdered[uint64] -/
def c48 : PFn := ⟨134, Tr.ofList (List.replicate 134 undefA), (.seq (.seqR [⟨.move, [.const (.bool true)], (some 8), none⟩])
 (.seq (.seqR [⟨.move, [.const (.bool true)], (some 9), none⟩])
 (.block 0 (.loop (.block 1 (.seq (.seqR [⟨.move, [.tmp 2], (some 19), none⟩,
 ⟨.move, [.tmp 1], (some 20), none⟩,
 ⟨(.bin .sub), [.tmp 19, .tmp 20], (some 21), none⟩,
 ⟨.move, [.tmp 21], (some 10), none⟩])
 (.seq (.seq (.seqR [⟨.move, [.tmp 10], (some 22), none⟩,
 ⟨(.bin .leq), [.tmp 22, .const (.int .i64 12)], (some 23), none⟩])
 (.cond (.tmp 23) (.seq (.seqR [⟨.move, [.tmp 0], (some 24), none⟩,
 ⟨.move, [.tmp 1], (some 25), none⟩,
 ⟨.move, [.tmp 2], (some 26), none⟩,
 ⟨(.callF 74), [.tmp 24, .tmp 25, .tmp 26], (some 27), none⟩])
 .ret)
 .skip))
 (.seq (.seq (.seqR [⟨.move, [.tmp 3], (some 28), none⟩,
 ⟨(.bin .eql), [.tmp 28, .const (.int .i64 0)], (some 29), none⟩])
 (.cond (.tmp 29) (.seq (.seqR [⟨.move, [.tmp 0], (some 30), none⟩,
 ⟨.move, [.tmp 1], (some 31), none⟩,
 ⟨.move, [.tmp 2], (some 32), none⟩,
 ⟨(.callF 75), [.tmp 30, .tmp 31, .tmp 32], (some 33), none⟩])
 .ret)
 .skip))
 (.seq (.seq (.seqR [⟨.move, [.tmp 8], (some 34), none⟩,
 ⟨.not, [.tmp 34], (some 35), none⟩])
 (.cond (.tmp 35) (.seq (.seqR [⟨.move, [.tmp 0], (some 36), none⟩,
 ⟨.move, [.tmp 1], (some 37), none⟩,
 ⟨.move, [.tmp 2], (some 38), none⟩,
 ⟨(.callF 76), [.tmp 36, .tmp 37, .tmp 38], (some 39), none⟩])
 (.seqR [⟨.move, [.tmp 3], (some 40), none⟩,
 ⟨(.bin .sub), [.tmp 40, .const (.int .i64 1)], (some 41), none⟩,
 ⟨.move, [.tmp 41], (some 3), none⟩]))
 .skip))
 (.seq (.seqR [⟨.move, [.tmp 0], (some 43), none⟩,
 ⟨.move, [.tmp 1], (some 44), none⟩,
 ⟨.move, [.tmp 2], (some 45), none⟩,
 ⟨(.callF 77), [.tmp 43, .tmp 44, .tmp 45], (some 46), none⟩,
 ⟨.move, [.tmp 46], (some 42), none⟩,
 ⟨(.extract 0), [.tmp 42], (some 47), none⟩,
 ⟨(.extract 1), [.tmp 42], (some 48), none⟩,
 ⟨.move, [.tmp 47], (some 11), none⟩,
 ⟨.move, [.tmp 48], (some 12), none⟩])
 (.seq (.seq (.seqR [⟨.move, [.tmp 12], (some 49), none⟩,
 ⟨(.bin .eql), [.tmp 49, .const (.int .i64 2)], (some 50), none⟩])
 (.cond (.tmp 50) (.seq (.seqR [⟨.move, [.tmp 0], (some 51), none⟩,
 ⟨.move, [.tmp 1], (some 52), none⟩,
 ⟨.move, [.tmp 2], (some 53), none⟩,
 ⟨(.callF 78), [.tmp 51, .tmp 52, .tmp 53], (some 54), none⟩])
 (.seq (.seqR [⟨.move, [.tmp 2], (some 55), none⟩,
 ⟨(.bin .sub), [.tmp 55, .const (.int .i64 1)], (some 56), none⟩,
 ⟨.move, [.tmp 11], (some 57), none⟩,
 ⟨.move, [.tmp 1], (some 58), none⟩,
 ⟨(.bin .sub), [.tmp 57, .tmp 58], (some 59), none⟩,
 ⟨(.bin .sub), [.tmp 56, .tmp 59], (some 60), none⟩,
 ⟨.move, [.tmp 60], (some 11), none⟩])
 (.seqR [⟨.move, [.const (.int .i64 1)], (some 12), none⟩])))
 .skip))
 (.seq (.seq (.seqR [⟨.move, [.tmp 8], (some 61), none⟩,
 ⟨.move, [.tmp 61], (some 62), none⟩,
 ⟨.move, [.tmp 9], (some 63), some (62, true)⟩,
 ⟨.pick, [.tmp 62, .tmp 63, .const (.bool false)], (some 64), none⟩,
 ⟨.move, [.tmp 64], (some 65), none⟩,
 ⟨.move, [.tmp 12], (some 66), some (65, true)⟩,
 ⟨(.bin .eql), [.tmp 66, .const (.int .i64 1)], (some 67), some (65, true)⟩,
 ⟨.pick, [.tmp 65, .tmp 67, .const (.bool false)], (some 68), none⟩])
 (.cond (.tmp 68) (.seq (.seqR [⟨.move, [.tmp 0], (some 69), none⟩,
 ⟨.move, [.tmp 1], (some 70), none⟩,
 ⟨.move, [.tmp 2], (some 71), none⟩,
 ⟨(.callF 79), [.tmp 69, .tmp 70, .tmp 71], (some 72), none⟩])
 (.cond (.tmp 72) .ret
 .skip))
 .skip))
 (.seq (.seq (.drawR [⟨⟨.move, [.tmp 1], (some 73), none⟩, false, false, 0, 0⟩,
 ⟨⟨(.bin .gtr), [.tmp 73, .const (.int .i64 0)], (some 74), none⟩, false, false, 0, 0⟩,
 ⟨⟨.move, [.tmp 74], (some 75), none⟩, false, false, 0, 0⟩,
 ⟨⟨.move, [.tmp 0], (some 76), some (75, true)⟩, false, false, 0, 0⟩,
 ⟨⟨.move, [.tmp 1], (some 77), some (75, true)⟩, false, false, 0, 0⟩,
 ⟨⟨(.bin .sub), [.tmp 77, .const (.int .i64 1)], (some 78), some (75, true)⟩, false, false, 0, 0⟩,
 ⟨⟨(.indexAddrS 1), [.tmp 76, .tmp 78], (some 79), some (75, true)⟩, false, false, 0, 0⟩,
 ⟨⟨(.load false 1), [.tmp 79], (some 80), some (75, true)⟩, false, false, 0, 0⟩,
 ⟨⟨.move, [.tmp 0], (some 81), some (75, true)⟩, false, false, 0, 0⟩,
 ⟨⟨.move, [.tmp 11], (some 82), some (75, true)⟩, false, false, 0, 0⟩,
 ⟨⟨(.indexAddrS 1), [.tmp 81, .tmp 82], (some 83), some (75, true)⟩, false, false, 0, 0⟩,
 ⟨⟨(.load false 1), [.tmp 83], (some 84), some (75, true)⟩, false, false, 0, 0⟩,
 ⟨⟨(.callF 80), [.tmp 80, .tmp 84], (some 85), some (75, true)⟩, true, false, 0, 1⟩,
 ⟨⟨.not, [.tmp 85], (some 86), some (75, true)⟩, false, false, 1, 1⟩,
 ⟨⟨.pick, [.tmp 75, .tmp 86, .const (.bool false)], (some 87), none⟩, false, false, 1, 1⟩])
 (.cond (.tmp 87) (.seq (.seqR [⟨.move, [.tmp 0], (some 88), none⟩,
 ⟨.move, [.tmp 1], (some 89), none⟩,
 ⟨.move, [.tmp 2], (some 90), none⟩,
 ⟨.move, [.tmp 11], (some 91), none⟩,
 ⟨(.callF 81), [.tmp 88, .tmp 89, .tmp 90, .tmp 91], (some 92), none⟩,
 ⟨.move, [.tmp 92], (some 13), none⟩])
 (.seq (.seqR [⟨.move, [.tmp 13], (some 93), none⟩,
 ⟨.move, [.tmp 93], (some 1), none⟩])
 (.exit 1)))
 .skip))
 (.seq (.seqR [⟨.move, [.tmp 0], (some 95), none⟩,
 ⟨.move, [.tmp 1], (some 96), none⟩,
 ⟨.move, [.tmp 2], (some 97), none⟩,
 ⟨.move, [.tmp 11], (some 98), none⟩,
 ⟨(.callF 82), [.tmp 95, .tmp 96, .tmp 97, .tmp 98], (some 99), none⟩,
 ⟨.move, [.tmp 99], (some 94), none⟩,
 ⟨(.extract 0), [.tmp 94], (some 100), none⟩,
 ⟨(.extract 1), [.tmp 94], (some 101), none⟩,
 ⟨.move, [.tmp 100], (some 14), none⟩,
 ⟨.move, [.tmp 101], (some 15), none⟩])
 (.seq (.seqR [⟨.move, [.tmp 15], (some 102), none⟩,
 ⟨.move, [.tmp 102], (some 9), none⟩])
 (.seq (.seqR [⟨.move, [.tmp 14], (some 103), none⟩,
 ⟨.move, [.tmp 1], (some 104), none⟩,
 ⟨(.bin .sub), [.tmp 103, .tmp 104], (some 105), none⟩,
 ⟨.move, [.tmp 2], (some 106), none⟩,
 ⟨.move, [.tmp 14], (some 107), none⟩,
 ⟨(.bin .sub), [.tmp 106, .tmp 107], (some 108), none⟩,
 ⟨.move, [.tmp 105], (some 16), none⟩,
 ⟨.move, [.tmp 108], (some 17), none⟩])
 (.seq (.seqR [⟨.move, [.tmp 10], (some 109), none⟩,
 ⟨(.bin .quo), [.tmp 109, .const (.int .i64 8)], (some 110), none⟩,
 ⟨.move, [.tmp 110], (some 18), none⟩])
 (.seq (.seqR [⟨.move, [.tmp 16], (some 111), none⟩,
 ⟨.move, [.tmp 17], (some 112), none⟩,
 ⟨(.bin .lss), [.tmp 111, .tmp 112], (some 113), none⟩])
 (.cond (.tmp 113) (.seq (.seqR [⟨.move, [.tmp 16], (some 114), none⟩,
 ⟨.move, [.tmp 18], (some 115), none⟩,
 ⟨(.bin .geq), [.tmp 114, .tmp 115], (some 116), none⟩,
 ⟨.move, [.tmp 116], (some 8), none⟩])
 (.seq (.seqR [⟨.move, [.tmp 0], (some 117), none⟩,
 ⟨.move, [.tmp 1], (some 118), none⟩,
 ⟨.move, [.tmp 14], (some 119), none⟩,
 ⟨.move, [.tmp 3], (some 120), none⟩,
 ⟨(.callF 48), [.tmp 117, .tmp 118, .tmp 119, .tmp 120], (some 121), none⟩])
 (.seqR [⟨.move, [.tmp 14], (some 122), none⟩,
 ⟨(.bin .add), [.tmp 122, .const (.int .i64 1)], (some 123), none⟩,
 ⟨.move, [.tmp 123], (some 1), none⟩])))
 (.seq (.seqR [⟨.move, [.tmp 17], (some 124), none⟩,
 ⟨.move, [.tmp 18], (some 125), none⟩,
 ⟨(.bin .geq), [.tmp 124, .tmp 125], (some 126), none⟩,
 ⟨.move, [.tmp 126], (some 8), none⟩])
 (.seq (.seqR [⟨.move, [.tmp 0], (some 127), none⟩,
 ⟨.move, [.tmp 14], (some 128), none⟩,
 ⟨(.bin .add), [.tmp 128, .const (.int .i64 1)], (some 129), none⟩,
 ⟨.move, [.tmp 2], (some 130), none⟩,
 ⟨.move, [.tmp 3], (some 131), none⟩,
 ⟨(.callF 48), [.tmp 127, .tmp 129, .tmp 130, .tmp 131], (some 132), none⟩])
 (.seqR [⟨.move, [.tmp 14], (some 133), none⟩,
 ⟨.move, [.tmp 133], (some 2), none⟩])))))))))))))))))))))), []⟩
theorem c48_ok : compFunc Tryz.prog Tryz.f48 = some c48 := by kernel_rfl
theorem c48_body : hasBody Tryz.prog 48 = true := hasBody_of Tryz.func48 (by kernel_rfl)
end Go.Proofs.YtefcnhmbpkdlmabGreatDoor
