/- The code of the small machine for some of the program's functions: printed by program; each is what the rules make of the program's own. -/
import Derived.Test.YtmgfamnongagbaaGreatVx16
import Derived.Test.YtmgfamnongagbaaGreatProg
import Derived.KernelRfl
namespace Go.Proofs.YtmgfamnongagbaaGreat
open Go Go.Vx Go.Proofs
/-- coachyard/coachyardlaw31.StackSteps -/
def c3 : PFn := ⟨68, Tr.ofList (List.replicate 68 undefA), (.seq (.seqR [⟨.box, [.tmp 0], (some 3), none⟩,
 ⟨.move, [.const (.bool false)], (some 6), none⟩])
 (.seq (.seq (.seqR [⟨(.callF 4), [], (some 8), none⟩,
 ⟨.not, [.tmp 8], (some 9), none⟩])
 (.cond (.tmp 9) (.seq (.seqR [⟨.move, [.const (.bool false)], (some 6), none⟩])
 .ret)
 .skip))
 (.seq (.seq (.seqR [⟨.move, [.tmp 2], (some 10), none⟩,
 ⟨.lenS, [.tmp 10], (some 11), none⟩,
 ⟨(.bin .gtr), [.tmp 11, .const (.int .i64 100)], (some 12), none⟩])
 (.cond (.tmp 12) (.seq (.seqR [⟨.move, [.const (.bool true)], (some 6), none⟩])
 .ret)
 .skip))
 (.seq (.seqR [⟨(.load true 2), [.tmp 3], (some 13), none⟩,
 ⟨(.callF 5), [.tmp 13], (some 14), none⟩,
 ⟨(.new [(.int .i64 0), (.int .i64 0)]), [], (some 7), none⟩,
 ⟨(.store 2), [.tmp 7, .tmp 14], none, none⟩])
 (.seq (.seq (.drawR [⟨⟨(.load true 2), [.tmp 3], (some 15), none⟩, false, false, 0, 0⟩,
 ⟨⟨(.callF 6), [.tmp 15], (some 16), none⟩, true, false, 0, 1⟩,
 ⟨⟨(.fieldAddr 0), [.tmp 3], (some 17), none⟩, false, false, 0, 1⟩,
 ⟨⟨(.load false 1), [.tmp 17], (some 18), none⟩, false, false, 0, 1⟩,
 ⟨⟨(.fieldAddr 1), [.tmp 3], (some 19), none⟩, false, false, 0, 1⟩,
 ⟨⟨(.load false 1), [.tmp 19], (some 20), none⟩, false, false, 0, 1⟩,
 ⟨⟨(.callF 7), [.tmp 18, .tmp 20], (some 21), none⟩, true, false, 1, 2⟩,
 ⟨⟨(.eqBool true), [.tmp 16, .tmp 21], (some 22), none⟩, false, false, 2, 2⟩,
 ⟨⟨.move, [.tmp 22], (some 23), none⟩, false, false, 2, 2⟩,
 ⟨⟨(.load true 2), [.tmp 3], (some 24), some (23, false)⟩, false, false, 2, 2⟩,
 ⟨⟨(.callF 6), [.tmp 24], (some 25), some (23, false)⟩, true, false, 2, 3⟩,
 ⟨⟨.move, [.tmp 25], (some 26), some (23, false)⟩, false, false, 3, 3⟩,
 ⟨⟨(.fieldAddr 0), [.tmp 7], (some 27), some (26, true)⟩, false, false, 3, 3⟩,
 ⟨⟨(.load false 1), [.tmp 27], (some 28), some (26, true)⟩, false, false, 3, 3⟩,
 ⟨⟨(.fieldAddr 0), [.tmp 3], (some 29), some (26, true)⟩, false, false, 3, 3⟩,
 ⟨⟨(.load false 1), [.tmp 29], (some 30), some (26, true)⟩, false, false, 3, 3⟩,
 ⟨⟨(.bin .add), [.tmp 30, .const (.int .i64 1)], (some 31), some (26, true)⟩, false, false, 3, 3⟩,
 ⟨⟨(.bin .neq), [.tmp 28, .tmp 31], (some 32), some (26, true)⟩, false, false, 3, 3⟩,
 ⟨⟨.move, [.tmp 32], (some 33), some (26, true)⟩, false, false, 3, 3⟩,
 ⟨⟨(.fieldAddr 1), [.tmp 7], (some 34), some (33, false)⟩, false, false, 3, 3⟩,
 ⟨⟨(.load false 1), [.tmp 34], (some 35), some (33, false)⟩, false, false, 3, 3⟩,
 ⟨⟨(.fieldAddr 1), [.tmp 3], (some 36), some (33, false)⟩, false, false, 3, 3⟩,
 ⟨⟨(.load false 1), [.tmp 36], (some 37), some (33, false)⟩, false, false, 3, 3⟩,
 ⟨⟨(.bin .neq), [.tmp 35, .tmp 37], (some 38), some (33, false)⟩, false, false, 3, 3⟩,
 ⟨⟨.pick, [.tmp 33, .const (.bool true), .tmp 38], (some 39), some (26, true)⟩, false, false, 3, 3⟩,
 ⟨⟨.pick, [.tmp 26, .tmp 39, .const (.bool false)], (some 40), some (23, false)⟩, false, false, 3, 3⟩,
 ⟨⟨.pick, [.tmp 23, .const (.bool true), .tmp 40], (some 41), none⟩, false, false, 3, 3⟩])
 (.cond (.tmp 41) (.seq (.seqR [⟨.move, [.const (.bool false)], (some 6), none⟩])
 .ret)
 .skip))
 (.seq (.drawR [⟨⟨(.load true 2), [.tmp 3], (some 42), none⟩, false, false, 0, 0⟩,
 ⟨⟨.move, [.tmp 1], (some 43), none⟩, false, false, 0, 0⟩,
 ⟨⟨(.callF 9), [.tmp 42, .tmp 43], (some 44), none⟩, true, false, 0, 1⟩,
 ⟨⟨(.fieldAddr 0), [.tmp 3], (some 45), none⟩, false, false, 0, 1⟩,
 ⟨⟨(.load false 1), [.tmp 45], (some 46), none⟩, false, false, 0, 1⟩,
 ⟨⟨(.fieldAddr 1), [.tmp 3], (some 47), none⟩, false, false, 0, 1⟩,
 ⟨⟨(.load false 1), [.tmp 47], (some 48), none⟩, false, false, 0, 1⟩,
 ⟨⟨.move, [.tmp 1], (some 49), none⟩, false, false, 0, 1⟩,
 ⟨⟨(.callF 10), [.tmp 46, .tmp 48, .tmp 49], (some 50), none⟩, true, false, 1, 2⟩,
 ⟨⟨.move, [.tmp 2], (some 51), none⟩, false, false, 0, 2⟩,
 ⟨⟨(.callF 11), [.tmp 50, .tmp 51], (some 52), none⟩, true, false, 2, 3⟩,
 ⟨⟨.move, [.tmp 2], (some 53), none⟩, false, false, 0, 3⟩,
 ⟨⟨(.callF 8), [.tmp 44, .tmp 52, .tmp 53], (some 54), none⟩, true, false, 3, 4⟩,
 ⟨⟨.move, [.tmp 54], (some 55), none⟩, false, false, 4, 4⟩,
 ⟨⟨(.load true 2), [.tmp 3], (some 56), some (55, true)⟩, false, false, 4, 4⟩,
 ⟨⟨(.callF 12), [.tmp 56], (some 57), some (55, true)⟩, true, false, 4, 5⟩,
 ⟨⟨(.fieldAddr 0), [.tmp 3], (some 58), some (55, true)⟩, false, false, 4, 5⟩,
 ⟨⟨(.load false 1), [.tmp 58], (some 59), some (55, true)⟩, false, false, 4, 5⟩,
 ⟨⟨(.fieldAddr 1), [.tmp 3], (some 60), some (55, true)⟩, false, false, 4, 5⟩,
 ⟨⟨(.load false 1), [.tmp 60], (some 61), some (55, true)⟩, false, false, 4, 5⟩,
 ⟨⟨(.callF 13), [.tmp 59, .tmp 61], (some 62), some (55, true)⟩, true, false, 5, 6⟩,
 ⟨⟨.move, [.tmp 2], (some 63), some (55, true)⟩, false, false, 4, 6⟩,
 ⟨⟨(.callF 11), [.tmp 62, .tmp 63], (some 64), some (55, true)⟩, true, false, 6, 7⟩,
 ⟨⟨.move, [.tmp 2], (some 65), some (55, true)⟩, false, false, 4, 7⟩,
 ⟨⟨(.callF 8), [.tmp 57, .tmp 64, .tmp 65], (some 66), some (55, true)⟩, true, false, 7, 8⟩,
 ⟨⟨.pick, [.tmp 55, .tmp 66, .const (.bool false)], (some 67), none⟩, false, false, 8, 8⟩,
 ⟨⟨.move, [.tmp 67], (some 6), none⟩, false, false, 8, 8⟩])
 .ret)))))), [.tmp 6]⟩
theorem c3_ok : compFunc Tryz.prog Tryz.f3 = some c3 := by kernel_rfl
theorem c3_body : hasBody Tryz.prog 3 = true := hasBody_of Tryz.func3 (by kernel_rfl)
/-- coachyard/coachyardlaw31.awake -/
def c4 : PFn := ⟨80, Tr.ofList (List.replicate 80 undefA), (.seq (.seqR [⟨.move, [.const (.bool false)], (some 0), none⟩])
 (.seq (.seqR [⟨(.build [(.int .i64 0), (.int .i64 0)] [(1, 1)]), [.const (.int .i64 2)], (some 12), none⟩,
 ⟨(.new [(.int .i64 0), (.int .i64 0)]), [], (some 1), none⟩,
 ⟨(.store 2), [.tmp 1, .tmp 12], none, none⟩])
 (.seq (.seqR [⟨(.callF 14), [.const (.int .i64 8)], (some 14), none⟩,
 ⟨.move, [.tmp 14], (some 13), none⟩,
 ⟨(.extract 0), [.tmp 13], (some 15), none⟩,
 ⟨(.extract 1), [.tmp 13], (some 16), none⟩,
 ⟨.move, [.tmp 15], (some 2), none⟩,
 ⟨.move, [.tmp 16], (some 3), none⟩])
 (.seq (.seqR [⟨.move, [.tmp 2], (some 18), none⟩,
 ⟨(.callF 15), [.tmp 18, .const (.int .i64 1)], (some 19), none⟩,
 ⟨.move, [.tmp 19], (some 17), none⟩,
 ⟨(.extract 0), [.tmp 17], (some 20), none⟩,
 ⟨(.extract 1), [.tmp 17], (some 21), none⟩,
 ⟨.move, [.tmp 20], (some 4), none⟩,
 ⟨.move, [.tmp 21], (some 5), none⟩])
 (.seq (.seq (.seqR [⟨(.load true 2), [.tmp 1], (some 22), none⟩,
 ⟨.move, [.tmp 2], (some 23), none⟩,
 ⟨(.callF 16), [.tmp 22, .tmp 23], (some 24), none⟩,
 ⟨(.bin .neq), [.tmp 24, .const (.int .i64 0)], (some 25), none⟩])
 (.cond (.tmp 25) (.seq (.seqR [⟨.move, [.const (.bool false)], (some 0), none⟩])
 .ret)
 .skip))
 (.seq (.drawR [⟨⟨(.load true 2), [.tmp 1], (some 26), none⟩, false, false, 0, 0⟩,
 ⟨⟨(.callF 9), [.tmp 26, .const (.int .u64 1)], (some 27), none⟩, true, false, 0, 1⟩,
 ⟨⟨(.load true 2), [.tmp 1], (some 28), none⟩, false, false, 0, 1⟩,
 ⟨⟨(.callF 9), [.tmp 28, .const (.int .u64 2)], (some 29), none⟩, true, false, 1, 2⟩,
 ⟨⟨(.load true 2), [.tmp 1], (some 30), none⟩, false, false, 0, 2⟩,
 ⟨⟨(.callF 9), [.tmp 30, .const (.int .u64 3)], (some 31), none⟩, true, false, 2, 3⟩,
 ⟨⟨(.load true 2), [.tmp 1], (some 32), none⟩, false, false, 0, 3⟩,
 ⟨⟨(.callF 12), [.tmp 32], (some 33), none⟩, true, false, 3, 4⟩,
 ⟨⟨(.load true 2), [.tmp 1], (some 34), none⟩, false, false, 0, 4⟩,
 ⟨⟨(.callF 12), [.tmp 34], (some 35), none⟩, true, false, 4, 5⟩,
 ⟨⟨(.load true 2), [.tmp 1], (some 36), none⟩, false, false, 0, 5⟩,
 ⟨⟨(.callF 12), [.tmp 36], (some 37), none⟩, true, false, 5, 6⟩,
 ⟨⟨(.sliceLit 6 [(.ptr none), (.ptr none), (.ptr none), (.ptr none), (.ptr none), (.ptr none)] [(0, 1), (1, 1), (2, 1), (3, 1), (4, 1), (5, 1)]), [.tmp 27, .tmp 29, .tmp 31, .tmp 33, .tmp 35, .tmp 37], (some 38), none⟩, true, false, 6, 7⟩,
 ⟨⟨.move, [.tmp 38], (some 6), none⟩, false, false, 7, 7⟩])
 (.seq (.seqR [⟨(.sliceLit 6 [(.int .i64 0), (.int .i64 0), (.int .i64 0), (.int .i64 0), (.int .i64 0), (.int .i64 0)] [(0, 1), (1, 1), (2, 1), (3, 1), (4, 1), (5, 1)]), [.const (.int .i64 0), .const (.int .i64 0), .const (.int .i64 7), .const (.int .i64 0), .const (.int .i64 0), .const (.int .i64 5)], (some 39), none⟩,
 ⟨.move, [.tmp 39], (some 7), none⟩])
 (.seq (.seqR [⟨(.sliceLit 6 [(.int .u64 0), (.int .u64 0), (.int .u64 0), (.int .u64 0), (.int .u64 0), (.int .u64 0)] [(0, 1), (1, 1), (2, 1), (3, 1), (4, 1), (5, 1)]), [.const (.int .u64 0), .const (.int .u64 0), .const (.int .u64 0), .const (.int .u64 2), .const (.int .u64 1), .const (.int .u64 0)], (some 40), none⟩,
 ⟨.move, [.tmp 40], (some 8), none⟩])
 (.seq (.seq (.seqR [⟨.move, [.const (.int .i64 0)], (some 9), none⟩])
 (.block 0 (.loop (.seq (.seq (.seqR [⟨.move, [.tmp 9], (some 41), none⟩,
 ⟨.move, [.tmp 6], (some 42), none⟩,
 ⟨.lenS, [.tmp 42], (some 43), none⟩,
 ⟨(.bin .lss), [.tmp 41, .tmp 43], (some 44), none⟩])
 (.cond (.tmp 44) .skip
 (.exit 0)))
 (.seq (.block 1 (.seq (.seqR [⟨.move, [.tmp 4], (some 47), none⟩,
 ⟨.move, [.tmp 6], (some 48), none⟩,
 ⟨.move, [.tmp 9], (some 49), none⟩,
 ⟨(.indexAddrS 1), [.tmp 48, .tmp 49], (some 50), none⟩,
 ⟨(.load false 1), [.tmp 50], (some 51), none⟩,
 ⟨(.callF 17), [.tmp 47, .const (.int .i64 0), .tmp 51], (some 52), none⟩])
 (.seq (.seqR [⟨.move, [.tmp 4], (some 53), none⟩,
 ⟨(.callF 18), [.tmp 53, .const (.int .i64 0), .const (.int .i64 60)], (some 54), none⟩])
 (.seq (.seqR [⟨.move, [.tmp 4], (some 56), none⟩,
 ⟨(.callF 19), [.tmp 56, .const (.int .i64 0)], (some 57), none⟩,
 ⟨.move, [.tmp 57], (some 55), none⟩,
 ⟨(.extract 0), [.tmp 55], (some 58), none⟩,
 ⟨(.extract 1), [.tmp 55], (some 59), none⟩,
 ⟨(.new [(.int .i64 0), (.int .u64 0), (.slice none 0 0 false)]), [], (some 10), none⟩,
 ⟨(.store 3), [.tmp 10, .tmp 58], none, none⟩,
 ⟨.move, [.tmp 59], (some 11), none⟩])
 (.seq (.drawR [⟨⟨.move, [.tmp 11], (some 60), none⟩, false, false, 0, 0⟩,
 ⟨⟨.not, [.tmp 60], (some 61), none⟩, false, false, 0, 0⟩,
 ⟨⟨.move, [.tmp 61], (some 62), none⟩, false, false, 0, 0⟩,
 ⟨⟨(.fieldAddr 0), [.tmp 10], (some 63), some (62, false)⟩, false, false, 0, 0⟩,
 ⟨⟨(.load false 1), [.tmp 63], (some 64), some (62, false)⟩, false, false, 0, 0⟩,
 ⟨⟨.move, [.tmp 7], (some 65), some (62, false)⟩, false, false, 0, 0⟩,
 ⟨⟨.move, [.tmp 9], (some 66), some (62, false)⟩, false, false, 0, 0⟩,
 ⟨⟨(.indexAddrS 1), [.tmp 65, .tmp 66], (some 67), some (62, false)⟩, false, false, 0, 0⟩,
 ⟨⟨(.load false 1), [.tmp 67], (some 68), some (62, false)⟩, false, false, 0, 0⟩,
 ⟨⟨(.bin .neq), [.tmp 64, .tmp 68], (some 69), some (62, false)⟩, false, false, 0, 0⟩,
 ⟨⟨.pick, [.tmp 62, .const (.bool true), .tmp 69], (some 70), none⟩, false, false, 0, 0⟩,
 ⟨⟨.move, [.tmp 70], (some 71), none⟩, false, false, 0, 0⟩,
 ⟨⟨(.fieldAddr 1), [.tmp 10], (some 72), some (71, false)⟩, false, false, 0, 0⟩,
 ⟨⟨(.load false 1), [.tmp 72], (some 73), some (71, false)⟩, false, false, 0, 0⟩,
 ⟨⟨.move, [.tmp 8], (some 74), some (71, false)⟩, false, false, 0, 0⟩,
 ⟨⟨.move, [.tmp 9], (some 75), some (71, false)⟩, false, false, 0, 0⟩,
 ⟨⟨(.indexAddrS 1), [.tmp 74, .tmp 75], (some 76), some (71, false)⟩, false, false, 0, 0⟩,
 ⟨⟨(.load false 1), [.tmp 76], (some 77), some (71, false)⟩, false, false, 0, 0⟩,
 ⟨⟨(.bin .neq), [.tmp 73, .tmp 77], (some 78), some (71, false)⟩, false, false, 0, 0⟩,
 ⟨⟨.pick, [.tmp 71, .const (.bool true), .tmp 78], (some 79), none⟩, false, false, 0, 0⟩])
 (.cond (.tmp 79) (.seq (.seqR [⟨.move, [.const (.bool false)], (some 0), none⟩])
 .ret)
 .skip))))))
 (.seqR [⟨.move, [.tmp 9], (some 45), none⟩,
 ⟨(.bin .add), [.tmp 45, .const (.int .i64 1)], (some 46), none⟩,
 ⟨.move, [.tmp 46], (some 9), none⟩]))))))
 (.seq (.seqR [⟨.move, [.const (.bool true)], (some 0), none⟩])
 .ret)))))))))), [.tmp 0]⟩
theorem c4_ok : compFunc Tryz.prog Tryz.f4 = some c4 := by kernel_rfl
theorem c4_body : hasBody Tryz.prog 4 = true := hasBody_of Tryz.func4 (by kernel_rfl)
/-- (coachyard/stack.Pile).Arena -/
def c5 : PFn := ⟨9, Tr.ofList (List.replicate 9 undefA), (.seq (.seqR [⟨.box, [.tmp 0], (some 1), none⟩,
 ⟨(.new [(.int .i64 0), (.int .i64 0)]), [], (some 2), none⟩])
 (.seq (.seqR [⟨(.fieldAddr 0), [.tmp 1], (some 3), none⟩,
 ⟨(.load false 1), [.tmp 3], (some 4), none⟩,
 ⟨(.bin .add), [.tmp 4, .const (.int .i64 1)], (some 5), none⟩,
 ⟨(.fieldAddr 1), [.tmp 1], (some 6), none⟩,
 ⟨(.load false 1), [.tmp 6], (some 7), none⟩,
 ⟨(.build [(.int .i64 0), (.int .i64 0)] [(0, 1), (1, 1)]), [.tmp 5, .tmp 7], (some 8), none⟩,
 ⟨(.store 2), [.tmp 2, .tmp 8], none, none⟩])
 .ret)), [.cell 2 true 2]⟩
theorem c5_ok : compFunc Tryz.prog Tryz.f5 = some c5 := by kernel_rfl
theorem c5_body : hasBody Tryz.prog 5 = true := hasBody_of Tryz.func5 (by kernel_rfl)
/-- (coachyard/stack.Pile).Right -/
def c6 : PFn := ⟨26, Tr.ofList (List.replicate 26 undefA), (.seq (.seqR [⟨.box, [.tmp 0], (some 1), none⟩,
 ⟨.move, [.const (.bool false)], (some 2), none⟩])
 (.seq (.seqR [⟨(.fieldAddr 1), [.tmp 1], (some 3), none⟩,
 ⟨(.load false 1), [.tmp 3], (some 4), none⟩,
 ⟨(.bin .geq), [.tmp 4, .const (.int .i64 1)], (some 5), none⟩,
 ⟨.move, [.tmp 5], (some 6), none⟩,
 ⟨(.fieldAddr 1), [.tmp 1], (some 7), some (6, true)⟩,
 ⟨(.load false 1), [.tmp 7], (some 8), some (6, true)⟩,
 ⟨(.bin .leq), [.tmp 8, .const (.int .i64 4096)], (some 9), some (6, true)⟩,
 ⟨.pick, [.tmp 6, .tmp 9, .const (.bool false)], (some 10), none⟩,
 ⟨.move, [.tmp 10], (some 11), none⟩,
 ⟨(.fieldAddr 0), [.tmp 1], (some 12), some (11, true)⟩,
 ⟨(.load false 1), [.tmp 12], (some 13), some (11, true)⟩,
 ⟨(.bin .geq), [.tmp 13, .const (.int .i64 0)], (some 14), some (11, true)⟩,
 ⟨.pick, [.tmp 11, .tmp 14, .const (.bool false)], (some 15), none⟩,
 ⟨.move, [.tmp 15], (some 16), none⟩,
 ⟨(.fieldAddr 0), [.tmp 1], (some 17), some (16, true)⟩,
 ⟨(.load false 1), [.tmp 17], (some 18), some (16, true)⟩,
 ⟨(.fieldAddr 1), [.tmp 1], (some 19), some (16, true)⟩,
 ⟨(.load false 1), [.tmp 19], (some 20), some (16, true)⟩,
 ⟨(.bin .mul), [.const (.int .i64 3), .tmp 20], (some 21), some (16, true)⟩,
 ⟨(.bin .sub), [.const (.int .i64 65536), .tmp 21], (some 22), some (16, true)⟩,
 ⟨(.bin .sub), [.tmp 22, .const (.int .i64 1)], (some 23), some (16, true)⟩,
 ⟨(.bin .lss), [.tmp 18, .tmp 23], (some 24), some (16, true)⟩,
 ⟨.pick, [.tmp 16, .tmp 24, .const (.bool false)], (some 25), none⟩,
 ⟨.move, [.tmp 25], (some 2), none⟩])
 .ret)), [.tmp 2]⟩
theorem c6_ok : compFunc Tryz.prog Tryz.f6 = some c6 := by kernel_rfl
theorem c6_body : hasBody Tryz.prog 6 = true := hasBody_of Tryz.func6 (by kernel_rfl)
/-- coachyard/coachyardref31.Right -/
def c7 : PFn := ⟨23, Tr.ofList (List.replicate 23 undefA), (.seq (.seqR [⟨.move, [.const (.bool false)], (some 4), none⟩])
 (.seq (.seqR [⟨.move, [.tmp 1], (some 5), none⟩,
 ⟨(.bin .geq), [.tmp 5, .const (.int .i64 1)], (some 6), none⟩,
 ⟨.move, [.tmp 6], (some 7), none⟩,
 ⟨.move, [.tmp 1], (some 8), some (7, true)⟩,
 ⟨(.bin .leq), [.tmp 8, .const (.int .i64 4096)], (some 9), some (7, true)⟩,
 ⟨.pick, [.tmp 7, .tmp 9, .const (.bool false)], (some 10), none⟩,
 ⟨.move, [.tmp 10], (some 11), none⟩,
 ⟨.move, [.tmp 0], (some 12), some (11, true)⟩,
 ⟨(.bin .geq), [.tmp 12, .const (.int .i64 0)], (some 13), some (11, true)⟩,
 ⟨.pick, [.tmp 11, .tmp 13, .const (.bool false)], (some 14), none⟩,
 ⟨.move, [.tmp 14], (some 15), none⟩,
 ⟨.move, [.tmp 0], (some 16), some (15, true)⟩,
 ⟨.move, [.tmp 1], (some 17), some (15, true)⟩,
 ⟨(.bin .mul), [.const (.int .i64 3), .tmp 17], (some 18), some (15, true)⟩,
 ⟨(.bin .sub), [.const (.int .i64 65536), .tmp 18], (some 19), some (15, true)⟩,
 ⟨(.bin .sub), [.tmp 19, .const (.int .i64 1)], (some 20), some (15, true)⟩,
 ⟨(.bin .lss), [.tmp 16, .tmp 20], (some 21), some (15, true)⟩,
 ⟨.pick, [.tmp 15, .tmp 21, .const (.bool false)], (some 22), none⟩,
 ⟨.move, [.tmp 22], (some 4), none⟩])
 .ret)), [.tmp 4]⟩
theorem c7_ok : compFunc Tryz.prog Tryz.f7 = some c7 := by kernel_rfl
theorem c7_body : hasBody Tryz.prog 7 = true := hasBody_of Tryz.func7 (by kernel_rfl)
/-- coachyard/coachyardlaw04.Like -/
def c8 : PFn := ⟨99, Tr.ofList (List.replicate 99 undefA), (.seq (.seqR [⟨.move, [.const (.bool false)], (some 6), none⟩])
 (.seq (.seq (.seqR [⟨.move, [.tmp 1], (some 13), none⟩,
 ⟨.lenS, [.tmp 13], (some 14), none⟩,
 ⟨.move, [.tmp 2], (some 15), none⟩,
 ⟨.lenS, [.tmp 15], (some 16), none⟩,
 ⟨(.bin .add), [.tmp 16, .const (.int .i64 1)], (some 17), none⟩,
 ⟨(.bin .neq), [.tmp 14, .tmp 17], (some 18), none⟩])
 (.cond (.tmp 18) (.seq (.seqR [⟨.move, [.const (.bool false)], (some 6), none⟩])
 .ret)
 .skip))
 (.seq (.seq (.seqR [⟨.move, [.const (.int .i64 0)], (some 7), none⟩])
 (.block 0 (.loop (.seq (.seq (.seqR [⟨.move, [.tmp 7], (some 19), none⟩,
 ⟨.move, [.tmp 2], (some 20), none⟩,
 ⟨.lenS, [.tmp 20], (some 21), none⟩,
 ⟨(.bin .leq), [.tmp 19, .tmp 21], (some 22), none⟩])
 (.cond (.tmp 22) .skip
 (.exit 0)))
 (.seq (.block 1 (.seq (.seqR [⟨.move, [.tmp 0], (some 26), none⟩,
 ⟨(.callF 20), [.tmp 26], (some 27), none⟩,
 ⟨.move, [.tmp 27], (some 25), none⟩,
 ⟨(.extract 0), [.tmp 25], (some 28), none⟩,
 ⟨(.extract 1), [.tmp 25], (some 29), none⟩,
 ⟨(.new [(.int .i64 0), (.int .i64 0), (.int .u64 0), (.int .u64 0)]), [], (some 8), none⟩,
 ⟨(.store 4), [.tmp 8, .tmp 28], none, none⟩,
 ⟨.move, [.tmp 29], (some 9), none⟩])
 (.seq (.seqR [⟨.move, [.tmp 0], (some 31), none⟩,
 ⟨(.callF 21), [.tmp 31], (some 32), none⟩,
 ⟨.move, [.tmp 32], (some 30), none⟩,
 ⟨(.extract 0), [.tmp 30], (some 33), none⟩,
 ⟨(.extract 1), [.tmp 30], (some 34), none⟩,
 ⟨(.new [(.int .i64 0), (.int .u64 0), (.slice none 0 0 false)]), [], (some 10), none⟩,
 ⟨(.store 3), [.tmp 10, .tmp 33], none, none⟩,
 ⟨.move, [.tmp 34], (some 11), none⟩])
 (.seq (.seqR [⟨.move, [.tmp 1], (some 35), none⟩,
 ⟨.move, [.tmp 7], (some 36), none⟩,
 ⟨(.indexAddrS 10), [.tmp 35, .tmp 36], (some 37), none⟩,
 ⟨(.load true 10), [.tmp 37], (some 38), none⟩,
 ⟨(.new [(.int .i64 0), (.int .i64 0), (.int .u64 0), (.int .u64 0), (.bool false), (.int .i64 0), (.int .u64 0), (.slice none 0 0 false), (.bool false), (.slice none 0 0 false)]), [], (some 12), none⟩,
 ⟨(.store 10), [.tmp 12, .tmp 38], none, none⟩])
 (.seq (.seq (.drawR [⟨⟨(.load true 4), [.tmp 8], (some 39), none⟩, false, false, 0, 0⟩,
 ⟨⟨(.fieldAddr 0), [.tmp 12], (some 40), none⟩, false, false, 0, 0⟩,
 ⟨⟨(.load true 4), [.tmp 40], (some 41), none⟩, false, false, 0, 0⟩,
 ⟨⟨(.eqStruct [(0, 0), (1, 0), (2, 0), (3, 0)] true), [.tmp 39, .tmp 41], (some 42), none⟩, false, false, 0, 0⟩,
 ⟨⟨.move, [.tmp 42], (some 43), none⟩, false, false, 0, 0⟩,
 ⟨⟨.move, [.tmp 9], (some 44), some (43, false)⟩, false, false, 0, 0⟩,
 ⟨⟨(.fieldAddr 4), [.tmp 12], (some 45), some (43, false)⟩, false, false, 0, 0⟩,
 ⟨⟨(.load false 1), [.tmp 45], (some 46), some (43, false)⟩, false, false, 0, 0⟩,
 ⟨⟨(.eqBool true), [.tmp 44, .tmp 46], (some 47), some (43, false)⟩, false, false, 0, 0⟩,
 ⟨⟨.pick, [.tmp 43, .const (.bool true), .tmp 47], (some 48), none⟩, false, false, 0, 0⟩,
 ⟨⟨.move, [.tmp 48], (some 49), none⟩, false, false, 0, 0⟩,
 ⟨⟨.move, [.tmp 11], (some 50), some (49, false)⟩, false, false, 0, 0⟩,
 ⟨⟨(.fieldAddr 8), [.tmp 12], (some 51), some (49, false)⟩, false, false, 0, 0⟩,
 ⟨⟨(.load false 1), [.tmp 51], (some 52), some (49, false)⟩, false, false, 0, 0⟩,
 ⟨⟨(.eqBool true), [.tmp 50, .tmp 52], (some 53), some (49, false)⟩, false, false, 0, 0⟩,
 ⟨⟨.pick, [.tmp 49, .const (.bool true), .tmp 53], (some 54), none⟩, false, false, 0, 0⟩,
 ⟨⟨.move, [.tmp 54], (some 55), none⟩, false, false, 0, 0⟩,
 ⟨⟨.move, [.tmp 11], (some 56), some (55, false)⟩, false, false, 0, 0⟩,
 ⟨⟨.move, [.tmp 56], (some 57), some (55, false)⟩, false, false, 0, 0⟩,
 ⟨⟨(.load true 3), [.tmp 10], (some 58), some (57, true)⟩, false, false, 0, 0⟩,
 ⟨⟨(.fieldAddr 5), [.tmp 12], (some 59), some (57, true)⟩, false, false, 0, 0⟩,
 ⟨⟨(.load true 3), [.tmp 59], (some 60), some (57, true)⟩, false, false, 0, 0⟩,
 ⟨⟨(.callF 22), [.tmp 58, .tmp 60], (some 61), some (57, true)⟩, true, false, 0, 1⟩,
 ⟨⟨.not, [.tmp 61], (some 62), some (57, true)⟩, false, false, 1, 1⟩,
 ⟨⟨.pick, [.tmp 57, .tmp 62, .const (.bool false)], (some 63), some (55, false)⟩, false, false, 1, 1⟩,
 ⟨⟨.pick, [.tmp 55, .const (.bool true), .tmp 63], (some 64), none⟩, false, false, 1, 1⟩,
 ⟨⟨.move, [.tmp 64], (some 65), none⟩, false, false, 1, 1⟩,
 ⟨⟨.move, [.tmp 11], (some 66), some (65, false)⟩, false, false, 1, 1⟩,
 ⟨⟨.not, [.tmp 66], (some 67), some (65, false)⟩, false, false, 1, 1⟩,
 ⟨⟨.move, [.tmp 67], (some 68), some (65, false)⟩, false, false, 1, 1⟩,
 ⟨⟨(.load true 3), [.tmp 10], (some 69), some (68, true)⟩, false, false, 1, 1⟩,
 ⟨⟨(.build [(.int .i64 0), (.int .u64 0), (.slice none 0 0 false)] []), [], (some 70), some (68, true)⟩, false, false, 1, 1⟩,
 ⟨⟨(.callF 22), [.tmp 69, .tmp 70], (some 71), some (68, true)⟩, true, false, 1, 2⟩,
 ⟨⟨.not, [.tmp 71], (some 72), some (68, true)⟩, false, false, 2, 2⟩,
 ⟨⟨.pick, [.tmp 68, .tmp 72, .const (.bool false)], (some 73), some (65, false)⟩, false, false, 2, 2⟩,
 ⟨⟨.pick, [.tmp 65, .const (.bool true), .tmp 73], (some 74), none⟩, false, false, 2, 2⟩,
 ⟨⟨.move, [.tmp 74], (some 75), none⟩, false, false, 2, 2⟩,
 ⟨⟨.move, [.tmp 0], (some 76), some (75, false)⟩, false, false, 2, 2⟩,
 ⟨⟨(.callF 24), [.tmp 76], (some 77), some (75, false)⟩, true, false, 2, 3⟩,
 ⟨⟨(.fieldAddr 9), [.tmp 12], (some 78), some (75, false)⟩, false, false, 2, 3⟩,
 ⟨⟨(.load false 1), [.tmp 78], (some 79), some (75, false)⟩, false, false, 2, 3⟩,
 ⟨⟨(.callF 23), [.tmp 77, .tmp 79], (some 80), some (75, false)⟩, true, false, 3, 4⟩,
 ⟨⟨.not, [.tmp 80], (some 81), some (75, false)⟩, false, false, 4, 4⟩,
 ⟨⟨.pick, [.tmp 75, .const (.bool true), .tmp 81], (some 82), none⟩, false, false, 4, 4⟩])
 (.cond (.tmp 82) (.seq (.seqR [⟨.move, [.const (.bool false)], (some 6), none⟩])
 .ret)
 .skip))
 (.seq (.seqR [⟨.move, [.tmp 7], (some 83), none⟩,
 ⟨.move, [.tmp 2], (some 84), none⟩,
 ⟨.lenS, [.tmp 84], (some 85), none⟩,
 ⟨(.bin .lss), [.tmp 83, .tmp 85], (some 86), none⟩])
 (.cond (.tmp 86) (.drawR [⟨⟨.move, [.tmp 0], (some 87), none⟩, false, false, 0, 0⟩,
 ⟨⟨.move, [.tmp 2], (some 88), none⟩, false, false, 0, 0⟩,
 ⟨⟨.move, [.tmp 7], (some 89), none⟩, false, false, 0, 0⟩,
 ⟨⟨(.indexAddrS 2), [.tmp 88, .tmp 89], (some 90), none⟩, false, false, 0, 0⟩,
 ⟨⟨(.fieldAddr 0), [.tmp 90], (some 91), none⟩, false, false, 0, 0⟩,
 ⟨⟨(.load false 1), [.tmp 91], (some 92), none⟩, false, false, 0, 0⟩,
 ⟨⟨.move, [.tmp 2], (some 93), none⟩, false, false, 0, 0⟩,
 ⟨⟨.move, [.tmp 7], (some 94), none⟩, false, false, 0, 0⟩,
 ⟨⟨(.indexAddrS 2), [.tmp 93, .tmp 94], (some 95), none⟩, false, false, 0, 0⟩,
 ⟨⟨(.fieldAddr 1), [.tmp 95], (some 96), none⟩, false, false, 0, 0⟩,
 ⟨⟨(.load false 1), [.tmp 96], (some 97), none⟩, false, false, 0, 0⟩,
 ⟨⟨(.callF 25), [.tmp 87, .tmp 92, .tmp 97], (some 98), none⟩, true, false, 0, 1⟩])
 .skip)))))))
 (.seqR [⟨.move, [.tmp 7], (some 23), none⟩,
 ⟨(.bin .add), [.tmp 23, .const (.int .i64 1)], (some 24), none⟩,
 ⟨.move, [.tmp 24], (some 7), none⟩]))))))
 (.seq (.seqR [⟨.move, [.const (.bool true)], (some 6), none⟩])
 .ret)))), [.tmp 6]⟩
theorem c8_ok : compFunc Tryz.prog Tryz.f8 = some c8 := by kernel_rfl
theorem c8_body : hasBody Tryz.prog 8 = true := hasBody_of Tryz.func8 (by kernel_rfl)
/-- (coachyard/stack.Pile).Push -/
def c9 : PFn := ⟨8, Tr.ofList (List.replicate 8 undefA), (.seq (.seqR [⟨.box, [.tmp 0], (some 2), none⟩,
 ⟨.box, [.tmp 1], (some 3), none⟩,
 ⟨.move, [.const (.ptr none)], (some 4), none⟩])
 (.seq (.seqR [⟨(.load true 2), [.tmp 2], (some 5), none⟩,
 ⟨(.mkFunc (.func 27) 0), [.tmp 3, .tmp 2], (some 6), none⟩,
 ⟨(.callF 26), [.tmp 5, .tmp 6], (some 7), none⟩,
 ⟨.move, [.tmp 7], (some 4), none⟩])
 .ret)), [.tmp 4]⟩
theorem c9_ok : compFunc Tryz.prog Tryz.f9 = some c9 := by kernel_rfl
theorem c9_body : hasBody Tryz.prog 9 = true := hasBody_of Tryz.func9 (by kernel_rfl)
/-- coachyard/coachyardref31.Push -/
def c10 : PFn := ⟨28, Tr.ofList (List.replicate 28 undefA), (.seq (.seqR [⟨.move, [.const (.ptr none)], (some 6), none⟩])
 (.seq (.seqR [⟨.move, [.tmp 0], (some 8), none⟩,
 ⟨.move, [.tmp 1], (some 9), none⟩,
 ⟨.move, [.tmp 2], (some 10), none⟩,
 ⟨(.build [(.int .i64 0), (.int .i64 0), (.bool false), (.int .u64 0), (.int .i64 0), (.ptr none), (.int .u64 0), (.int .u64 0), (.int .i64 0), (.bool false), (.bool false), (.int .i64 0), (.int .u64 0), (.slice none 0 0 false)] [(0, 1), (1, 1), (2, 1), (3, 1), (4, 1)]), [.tmp 8, .tmp 9, .const (.bool true), .tmp 10, .const (.int .i64 1)], (some 11), none⟩,
 ⟨.box, [.tmp 11], (some 12), none⟩,
 ⟨.move, [.tmp 12], (some 7), none⟩])
 (.seq (.seq (.seqR [⟨.move, [.tmp 0], (some 13), none⟩,
 ⟨.move, [.tmp 1], (some 14), none⟩,
 ⟨(.callF 7), [.tmp 13, .tmp 14], (some 15), none⟩,
 ⟨.not, [.tmp 15], (some 16), none⟩])
 (.cond (.tmp 16) (.seq (.seqR [⟨.move, [.tmp 7], (some 17), none⟩,
 ⟨(.callF 32), [.tmp 17, .const (.int .i64 2), .const (.int .u64 0)], (some 18), none⟩])
 (.seq (.seqR [⟨.move, [.tmp 7], (some 19), none⟩,
 ⟨.move, [.tmp 19], (some 6), none⟩])
 .ret))
 .skip))
 (.seq (.seqR [⟨.move, [.tmp 7], (some 20), none⟩,
 ⟨.move, [.tmp 0], (some 21), none⟩,
 ⟨(.bin .add), [.tmp 21, .const (.int .i64 1)], (some 22), none⟩,
 ⟨.move, [.tmp 1], (some 23), none⟩,
 ⟨(.callF 33), [.tmp 22, .tmp 23], (some 24), none⟩,
 ⟨.nilCheck, [.tmp 20], (some 25), none⟩,
 ⟨(.fieldAddr 5), [.tmp 25], (some 26), none⟩,
 ⟨(.store 1), [.tmp 26, .tmp 24], none, none⟩])
 (.seq (.seqR [⟨.move, [.tmp 7], (some 27), none⟩,
 ⟨.move, [.tmp 27], (some 6), none⟩])
 .ret))))), [.tmp 6]⟩
theorem c10_ok : compFunc Tryz.prog Tryz.f10 = some c10 := by kernel_rfl
theorem c10_body : hasBody Tryz.prog 10 = true := hasBody_of Tryz.func10 (by kernel_rfl)
/-- (*coachyard/coachyardref31.Frame).Seen -/
def c11 : PFn := ⟨57, Tr.ofList (List.replicate 57 undefA), (.seq (.seqR [⟨.move, [.const (.slice none 0 0 false)], (some 4), none⟩])
 (.seq (.seqR [⟨(.sliceLit 0 [] []), [], (some 11), none⟩,
 ⟨.move, [.tmp 11], (some 5), none⟩])
 (.seq (.seq (.seqR [⟨.move, [.const (.int .i64 0)], (some 6), none⟩])
 (.block 0 (.loop (.seq (.seq (.seqR [⟨.move, [.tmp 6], (some 12), none⟩,
 ⟨.move, [.tmp 1], (some 13), none⟩,
 ⟨.lenS, [.tmp 13], (some 14), none⟩,
 ⟨(.bin .leq), [.tmp 12, .tmp 14], (some 15), none⟩])
 (.cond (.tmp 15) .skip
 (.exit 0)))
 (.seq (.block 1 (.seq (.seqR [⟨.move, [.tmp 0], (some 19), none⟩,
 ⟨(.callF 34), [.tmp 19], (some 20), none⟩,
 ⟨.move, [.tmp 20], (some 18), none⟩,
 ⟨(.extract 0), [.tmp 18], (some 21), none⟩,
 ⟨(.extract 1), [.tmp 18], (some 22), none⟩,
 ⟨(.new [(.int .i64 0), (.int .i64 0), (.int .u64 0), (.int .u64 0)]), [], (some 7), none⟩,
 ⟨(.store 4), [.tmp 7, .tmp 21], none, none⟩,
 ⟨.move, [.tmp 22], (some 8), none⟩])
 (.seq (.seqR [⟨.move, [.tmp 0], (some 24), none⟩,
 ⟨(.callF 35), [.tmp 24], (some 25), none⟩,
 ⟨.move, [.tmp 25], (some 23), none⟩,
 ⟨(.extract 0), [.tmp 23], (some 26), none⟩,
 ⟨(.extract 1), [.tmp 23], (some 27), none⟩,
 ⟨(.new [(.int .i64 0), (.int .u64 0), (.slice none 0 0 false)]), [], (some 9), none⟩,
 ⟨(.store 3), [.tmp 9, .tmp 26], none, none⟩,
 ⟨.move, [.tmp 27], (some 10), none⟩])
 (.seq (.drawR [⟨⟨.move, [.tmp 5], (some 28), none⟩, false, false, 0, 4⟩,
 ⟨⟨(.load true 4), [.tmp 7], (some 29), none⟩, false, false, 0, 3⟩,
 ⟨⟨.move, [.tmp 8], (some 30), none⟩, false, false, 0, 3⟩,
 ⟨⟨(.load true 3), [.tmp 9], (some 31), none⟩, false, false, 0, 3⟩,
 ⟨⟨.move, [.tmp 10], (some 32), none⟩, false, false, 0, 3⟩,
 ⟨⟨.move, [.tmp 0], (some 34), none⟩, false, false, 0, 0⟩,
 ⟨⟨(.callF 36), [.tmp 34], (some 35), none⟩, true, false, 0, 2⟩,
 ⟨⟨(.sliceLit 0 [] []), [], (some 33), none⟩, true, true, 0, 2⟩,
 ⟨⟨(.append 1 8), [.tmp 33, .tmp 35], (some 36), none⟩, true, false, 2, 3⟩,
 ⟨⟨(.build [(.int .i64 0), (.int .i64 0), (.int .u64 0), (.int .u64 0), (.bool false), (.int .i64 0), (.int .u64 0), (.slice none 0 0 false), (.bool false), (.slice none 0 0 false)] [(0, 4), (4, 1), (5, 3), (8, 1), (9, 1)]), [.tmp 29, .tmp 30, .tmp 31, .tmp 32, .tmp 36], (some 37), none⟩, false, false, 3, 3⟩,
 ⟨⟨(.sliceLit 1 [(.int .i64 0), (.int .i64 0), (.int .u64 0), (.int .u64 0), (.bool false), (.int .i64 0), (.int .u64 0), (.slice none 0 0 false), (.bool false), (.slice none 0 0 false)] [(0, 10)]), [.tmp 37], (some 38), none⟩, true, false, 3, 4⟩,
 ⟨⟨(.append 10 112), [.tmp 28, .tmp 38], (some 39), none⟩, true, false, 4, 5⟩,
 ⟨⟨.move, [.tmp 39], (some 5), none⟩, false, false, 5, 5⟩])
 (.seq (.seqR [⟨.move, [.tmp 6], (some 40), none⟩,
 ⟨.move, [.tmp 1], (some 41), none⟩,
 ⟨.lenS, [.tmp 41], (some 42), none⟩,
 ⟨(.bin .lss), [.tmp 40, .tmp 42], (some 43), none⟩])
 (.cond (.tmp 43) (.drawR [⟨⟨.move, [.tmp 0], (some 44), none⟩, false, false, 0, 0⟩,
 ⟨⟨.move, [.tmp 1], (some 45), none⟩, false, false, 0, 0⟩,
 ⟨⟨.move, [.tmp 6], (some 46), none⟩, false, false, 0, 0⟩,
 ⟨⟨(.indexAddrS 2), [.tmp 45, .tmp 46], (some 47), none⟩, false, false, 0, 0⟩,
 ⟨⟨(.fieldAddr 0), [.tmp 47], (some 48), none⟩, false, false, 0, 0⟩,
 ⟨⟨(.load false 1), [.tmp 48], (some 49), none⟩, false, false, 0, 0⟩,
 ⟨⟨.move, [.tmp 1], (some 50), none⟩, false, false, 0, 0⟩,
 ⟨⟨.move, [.tmp 6], (some 51), none⟩, false, false, 0, 0⟩,
 ⟨⟨(.indexAddrS 2), [.tmp 50, .tmp 51], (some 52), none⟩, false, false, 0, 0⟩,
 ⟨⟨(.fieldAddr 1), [.tmp 52], (some 53), none⟩, false, false, 0, 0⟩,
 ⟨⟨(.load false 1), [.tmp 53], (some 54), none⟩, false, false, 0, 0⟩,
 ⟨⟨(.callF 37), [.tmp 44, .tmp 49, .tmp 54], (some 55), none⟩, true, false, 0, 1⟩])
 .skip))))))
 (.seqR [⟨.move, [.tmp 6], (some 16), none⟩,
 ⟨(.bin .add), [.tmp 16, .const (.int .i64 1)], (some 17), none⟩,
 ⟨.move, [.tmp 17], (some 6), none⟩]))))))
 (.seq (.seqR [⟨.move, [.tmp 5], (some 56), none⟩,
 ⟨.move, [.tmp 56], (some 4), none⟩])
 .ret)))), [.tmp 4]⟩
theorem c11_ok : compFunc Tryz.prog Tryz.f11 = some c11 := by kernel_rfl
theorem c11_body : hasBody Tryz.prog 11 = true := hasBody_of Tryz.func11 (by kernel_rfl)
/-- (coachyard/stack.Pile).Pop -/
def c12 : PFn := ⟨6, Tr.ofList (List.replicate 6 undefA), (.seq (.seqR [⟨.box, [.tmp 0], (some 1), none⟩,
 ⟨.move, [.const (.ptr none)], (some 2), none⟩])
 (.seq (.seqR [⟨(.load true 2), [.tmp 1], (some 3), none⟩,
 ⟨(.mkFunc (.func 38) 0), [.tmp 1], (some 4), none⟩,
 ⟨(.callF 26), [.tmp 3, .tmp 4], (some 5), none⟩,
 ⟨.move, [.tmp 5], (some 2), none⟩])
 .ret)), [.tmp 2]⟩
theorem c12_ok : compFunc Tryz.prog Tryz.f12 = some c12 := by kernel_rfl
theorem c12_body : hasBody Tryz.prog 12 = true := hasBody_of Tryz.func12 (by kernel_rfl)
/-- coachyard/coachyardref31.Pop -/
def c13 : PFn := ⟨17, Tr.ofList (List.replicate 17 undefA), (.seq (.seqR [⟨.move, [.const (.ptr none)], (some 4), none⟩])
 (.seq (.seqR [⟨.move, [.tmp 0], (some 6), none⟩,
 ⟨.move, [.tmp 1], (some 7), none⟩,
 ⟨(.build [(.int .i64 0), (.int .i64 0), (.bool false), (.int .u64 0), (.int .i64 0), (.ptr none), (.int .u64 0), (.int .u64 0), (.int .i64 0), (.bool false), (.bool false), (.int .i64 0), (.int .u64 0), (.slice none 0 0 false)] [(0, 1), (1, 1), (4, 1)]), [.tmp 6, .tmp 7, .const (.int .i64 1)], (some 8), none⟩,
 ⟨.box, [.tmp 8], (some 9), none⟩,
 ⟨.move, [.tmp 9], (some 5), none⟩])
 (.seq (.seq (.seqR [⟨.move, [.tmp 0], (some 10), none⟩,
 ⟨.move, [.tmp 1], (some 11), none⟩,
 ⟨(.callF 7), [.tmp 10, .tmp 11], (some 12), none⟩,
 ⟨.not, [.tmp 12], (some 13), none⟩])
 (.cond (.tmp 13) (.seqR [⟨.move, [.tmp 5], (some 14), none⟩,
 ⟨(.callF 32), [.tmp 14, .const (.int .i64 2), .const (.int .u64 0)], (some 15), none⟩])
 .skip))
 (.seq (.seqR [⟨.move, [.tmp 5], (some 16), none⟩,
 ⟨.move, [.tmp 16], (some 4), none⟩])
 .ret)))), [.tmp 4]⟩
theorem c13_ok : compFunc Tryz.prog Tryz.f13 = some c13 := by kernel_rfl
theorem c13_body : hasBody Tryz.prog 13 = true := hasBody_of Tryz.func13 (by kernel_rfl)
/-- coachyard/cells.New -/
def c14 : PFn := ⟨14, Tr.ofList (List.replicate 14 undefA), (.seq (.seqR [⟨.move, [.const (.ptr none)], (some 2), none⟩,
 ⟨.move, [.const (.int .i64 0)], (some 3), none⟩])
 (.seq (.seq (.seqR [⟨.move, [.tmp 0], (some 4), none⟩,
 ⟨(.bin .lss), [.tmp 4, .const (.int .i64 1)], (some 5), none⟩,
 ⟨.move, [.tmp 5], (some 6), none⟩,
 ⟨.move, [.tmp 0], (some 7), some (6, false)⟩,
 ⟨(.bin .gtr), [.tmp 7, .const (.int .i64 65536)], (some 8), some (6, false)⟩,
 ⟨.pick, [.tmp 6, .const (.bool true), .tmp 8], (some 9), none⟩])
 (.cond (.tmp 9) (.seq (.seqR [⟨.move, [.const (.ptr none)], (some 2), none⟩,
 ⟨.move, [.const (.int .i64 2)], (some 3), none⟩])
 .ret)
 .skip))
 (.seq (.seqR [⟨.move, [.tmp 0], (some 10), none⟩,
 ⟨(.makeSlice 1 8 [(.int .u64 0)]), [.tmp 10, .tmp 10], (some 11), none⟩,
 ⟨(.build [(.slice none 0 0 false)] [(0, 1)]), [.tmp 11], (some 12), none⟩,
 ⟨.box, [.tmp 12], (some 13), none⟩,
 ⟨.move, [.tmp 13], (some 2), none⟩,
 ⟨.move, [.const (.int .i64 0)], (some 3), none⟩])
 .ret))), [.tmp 2, .tmp 3]⟩
theorem c14_ok : compFunc Tryz.prog Tryz.f14 = some c14 := by kernel_rfl
theorem c14_body : hasBody Tryz.prog 14 = true := hasBody_of Tryz.func14 (by kernel_rfl)
/-- coachyard/loom.New -/
def c15 : PFn := ⟨21, Tr.ofList (List.replicate 21 undefA), (.seq (.seqR [⟨.move, [.const (.ptr none)], (some 4), none⟩,
 ⟨.move, [.const (.int .i64 0)], (some 5), none⟩])
 (.seq (.block 0 (.seq (.seqR [⟨.move, [.tmp 0], (some 7), none⟩,
 ⟨(.eqPtr false), [.tmp 7, .const (.ptr none)], (some 8), none⟩,
 ⟨.move, [.tmp 8], (some 6), none⟩])
 (.cond (.tmp 6) (.seq (.seqR [⟨.move, [.const (.ptr none)], (some 4), none⟩,
 ⟨.move, [.const (.int .i64 1)], (some 5), none⟩])
 .ret)
 (.seq (.seqR [⟨.move, [.tmp 1], (some 10), none⟩,
 ⟨(.bin .lss), [.tmp 10, .const (.int .i64 1)], (some 11), none⟩,
 ⟨.move, [.tmp 11], (some 12), none⟩,
 ⟨.move, [.tmp 1], (some 13), some (12, false)⟩,
 ⟨(.bin .gtr), [.tmp 13, .const (.int .i64 16)], (some 14), some (12, false)⟩,
 ⟨.pick, [.tmp 12, .const (.bool true), .tmp 14], (some 15), none⟩,
 ⟨.move, [.tmp 15], (some 9), none⟩])
 (.cond (.tmp 9) (.seq (.seqR [⟨.move, [.const (.ptr none)], (some 4), none⟩,
 ⟨.move, [.const (.int .i64 2)], (some 5), none⟩])
 .ret)
 .skip)))))
 (.seq (.seqR [⟨.move, [.tmp 0], (some 16), none⟩,
 ⟨.move, [.tmp 1], (some 17), none⟩,
 ⟨(.makeSlice 1 8 [(.ptr none)]), [.tmp 17, .tmp 17], (some 18), none⟩,
 ⟨(.build [(.ptr none), (.slice none 0 0 false), (.int .i64 0)] [(0, 1), (1, 1)]), [.tmp 16, .tmp 18], (some 19), none⟩,
 ⟨.box, [.tmp 19], (some 20), none⟩,
 ⟨.move, [.tmp 20], (some 4), none⟩,
 ⟨.move, [.const (.int .i64 0)], (some 5), none⟩])
 .ret))), [.tmp 4, .tmp 5]⟩
theorem c15_ok : compFunc Tryz.prog Tryz.f15 = some c15 := by kernel_rfl
theorem c15_body : hasBody Tryz.prog 15 = true := hasBody_of Tryz.func15 (by kernel_rfl)
/-- (coachyard/stack.Pile).Init -/
def c16 : PFn := ⟨32, Tr.ofList (List.replicate 32 undefA), (.seq (.seqR [⟨.box, [.tmp 0], (some 2), none⟩,
 ⟨.move, [.const (.int .i64 0)], (some 4), none⟩])
 (.seq (.seq (.seqR [⟨(.load true 2), [.tmp 2], (some 7), none⟩,
 ⟨.move, [.tmp 1], (some 8), none⟩,
 ⟨(.callF 41), [.tmp 7, .tmp 8], (some 9), none⟩,
 ⟨.move, [.tmp 9], (some 5), none⟩])
 (.seq (.seqR [⟨.move, [.tmp 5], (some 10), none⟩,
 ⟨(.bin .neq), [.tmp 10, .const (.int .i64 0)], (some 11), none⟩])
 (.cond (.tmp 11) (.seq (.seqR [⟨.move, [.tmp 5], (some 12), none⟩,
 ⟨.move, [.tmp 12], (some 4), none⟩])
 .ret)
 .skip)))
 (.seq (.seq (.seqR [⟨(.fieldAddr 1), [.tmp 2], (some 13), none⟩,
 ⟨(.load false 1), [.tmp 13], (some 14), none⟩,
 ⟨(.bin .mul), [.const (.int .i64 3), .tmp 14], (some 15), none⟩,
 ⟨(.bin .add), [.tmp 15, .const (.int .i64 2)], (some 16), none⟩,
 ⟨.move, [.const (.int .i64 0)], (some 17), none⟩])
 (.block 0 (.loop (.seq (.seqR [⟨(.bin .lss), [.tmp 17, .tmp 16], (some 18), none⟩])
 (.seq (.cond (.tmp 18) .skip
 (.exit 0))
 (.seq (.block 1 (.seq (.seqR [⟨.move, [.tmp 17], (some 19), none⟩,
 ⟨.move, [.tmp 19], (some 6), none⟩])
 (.seqR [⟨.move, [.tmp 1], (some 20), none⟩,
 ⟨(.fieldAddr 0), [.tmp 2], (some 21), none⟩,
 ⟨(.load false 1), [.tmp 21], (some 22), none⟩,
 ⟨.move, [.tmp 6], (some 23), none⟩,
 ⟨(.bin .add), [.tmp 22, .tmp 23], (some 24), none⟩,
 ⟨(.build [(.int .i64 0), (.int .i64 0), (.int .u64 0), (.int .u64 0)] [(0, 1), (1, 1)]), [.const (.int .i64 2), .tmp 24], (some 25), none⟩,
 ⟨(.callF 42), [.tmp 20, .tmp 25], (some 26), none⟩])))
 (.seqR [⟨(.bin .add), [.tmp 17, .const (.int .i64 1)], (some 27), none⟩,
 ⟨.move, [.tmp 27], (some 17), none⟩])))))))
 (.seq (.seqR [⟨(.load true 2), [.tmp 2], (some 28), none⟩,
 ⟨(.callF 5), [.tmp 28], (some 29), none⟩,
 ⟨.move, [.tmp 1], (some 30), none⟩,
 ⟨(.callF 43), [.tmp 29, .tmp 30, .const (.int .i64 1)], (some 31), none⟩,
 ⟨.move, [.tmp 31], (some 4), none⟩])
 .ret)))), [.tmp 4]⟩
theorem c16_ok : compFunc Tryz.prog Tryz.f16 = some c16 := by kernel_rfl
theorem c16_body : hasBody Tryz.prog 16 = true := hasBody_of Tryz.func16 (by kernel_rfl)
/-- (*coachyard/loom.Loom).Start -/
def c17 : PFn := ⟨30, Tr.ofList (List.replicate 30 undefA), (.seq (.seqR [⟨.move, [.const (.int .i64 0)], (some 6), none⟩])
 (.seq (.seq (.seqR [⟨.move, [.tmp 0], (some 8), none⟩,
 ⟨(.eqPtr false), [.tmp 8, .const (.ptr none)], (some 9), none⟩,
 ⟨.move, [.tmp 9], (some 10), none⟩,
 ⟨.move, [.tmp 2], (some 11), some (10, false)⟩,
 ⟨(.eqPtr false), [.tmp 11, .const (.ptr none)], (some 12), some (10, false)⟩,
 ⟨.pick, [.tmp 10, .const (.bool true), .tmp 12], (some 13), none⟩])
 (.cond (.tmp 13) (.seq (.seqR [⟨.move, [.const (.int .i64 1)], (some 6), none⟩])
 .ret)
 .skip))
 (.seq (.seq (.seqR [⟨.move, [.tmp 0], (some 14), none⟩,
 ⟨.move, [.tmp 1], (some 15), none⟩,
 ⟨(.callF 44), [.tmp 14, .tmp 15], (some 16), none⟩,
 ⟨.move, [.tmp 16], (some 7), none⟩])
 (.seq (.seqR [⟨.move, [.tmp 7], (some 17), none⟩,
 ⟨(.bin .neq), [.tmp 17, .const (.int .i64 0)], (some 18), none⟩])
 (.cond (.tmp 18) (.seq (.seqR [⟨.move, [.tmp 7], (some 19), none⟩,
 ⟨.move, [.tmp 19], (some 6), none⟩])
 .ret)
 .skip)))
 (.seq (.seq (.seqR [⟨.move, [.tmp 0], (some 20), none⟩,
 ⟨.move, [.tmp 1], (some 21), none⟩,
 ⟨(.callF 45), [.tmp 20, .tmp 21], (some 22), none⟩])
 (.cond (.tmp 22) (.seq (.seqR [⟨.move, [.const (.int .i64 8)], (some 6), none⟩])
 .ret)
 .skip))
 (.seq (.seqR [⟨.move, [.tmp 0], (some 23), none⟩,
 ⟨.nilCheck, [.tmp 23], (some 24), none⟩,
 ⟨(.fieldAddr 1), [.tmp 24], (some 25), none⟩,
 ⟨(.load false 1), [.tmp 25], (some 26), none⟩,
 ⟨.move, [.tmp 1], (some 27), none⟩,
 ⟨.move, [.tmp 2], (some 28), none⟩,
 ⟨(.indexAddrS 1), [.tmp 26, .tmp 27], (some 29), none⟩,
 ⟨(.store 1), [.tmp 29, .tmp 28], none, none⟩])
 (.seq (.seqR [⟨.move, [.const (.int .i64 0)], (some 6), none⟩])
 .ret)))))), [.tmp 6]⟩
theorem c17_ok : compFunc Tryz.prog Tryz.f17 = some c17 := by kernel_rfl
theorem c17_body : hasBody Tryz.prog 17 = true := hasBody_of Tryz.func17 (by kernel_rfl)
/-- (*coachyard/loom.Loom).Alone -/
def c18 : PFn := ⟨59, Tr.ofList (List.replicate 59 undefA), (.seq (.seqR [⟨.move, [.const (.int .i64 0)], (some 6), none⟩,
 ⟨.move, [.const (.int .i64 0)], (some 7), none⟩])
 (.seq (.seq (.seqR [⟨.move, [.tmp 0], (some 13), none⟩,
 ⟨.move, [.tmp 1], (some 14), none⟩,
 ⟨(.callF 46), [.tmp 13, .tmp 14], (some 15), none⟩,
 ⟨.move, [.tmp 15], (some 12), none⟩,
 ⟨(.extract 0), [.tmp 12], (some 16), none⟩,
 ⟨(.extract 1), [.tmp 12], (some 17), none⟩,
 ⟨(.new [(.int .i64 0), (.int .i64 0), (.int .u64 0), (.int .u64 0)]), [], (some 8), none⟩,
 ⟨(.store 4), [.tmp 8, .tmp 16], none, none⟩,
 ⟨.move, [.tmp 17], (some 9), none⟩])
 (.seq (.seqR [⟨.move, [.tmp 9], (some 18), none⟩,
 ⟨(.bin .neq), [.tmp 18, .const (.int .i64 0)], (some 19), none⟩,
 ⟨.move, [.tmp 19], (some 20), none⟩,
 ⟨.move, [.tmp 9], (some 21), some (20, true)⟩,
 ⟨(.bin .neq), [.tmp 21, .const (.int .i64 11)], (some 22), some (20, true)⟩,
 ⟨.pick, [.tmp 20, .tmp 22, .const (.bool false)], (some 23), none⟩])
 (.cond (.tmp 23) (.seq (.seqR [⟨.move, [.tmp 9], (some 24), none⟩,
 ⟨.move, [.const (.int .i64 0)], (some 6), none⟩,
 ⟨.move, [.tmp 24], (some 7), none⟩])
 .ret)
 .skip)))
 (.seq (.seqR [⟨.move, [.const (.int .i64 0)], (some 10), none⟩])
 (.seq (.block 0 (.loop (.seq (.seq (.seqR [⟨.move, [.tmp 10], (some 25), none⟩,
 ⟨.move, [.tmp 2], (some 26), none⟩,
 ⟨(.bin .lss), [.tmp 25, .tmp 26], (some 27), none⟩])
 (.cond (.tmp 27) .skip
 (.exit 0)))
 (.seq (.block 1 (.seq (.seqR [⟨.move, [.tmp 0], (some 30), none⟩,
 ⟨.move, [.tmp 1], (some 31), none⟩,
 ⟨(.callF 47), [.tmp 30, .tmp 31], (some 32), none⟩,
 ⟨.move, [.tmp 32], (some 11), none⟩])
 (.block 2 (.seq (.seqR [⟨.move, [.tmp 11], (some 34), none⟩,
 ⟨(.bin .eql), [.tmp 34, .const (.int .i64 9)], (some 35), none⟩,
 ⟨.move, [.tmp 35], (some 33), none⟩])
 (.cond (.tmp 33) (.seq (.seqR [⟨.move, [.tmp 10], (some 36), none⟩,
 ⟨(.bin .add), [.tmp 36, .const (.int .i64 1)], (some 37), none⟩,
 ⟨.move, [.tmp 37], (some 6), none⟩,
 ⟨.move, [.const (.int .i64 0)], (some 7), none⟩])
 .ret)
 (.seq (.seqR [⟨.move, [.tmp 11], (some 39), none⟩,
 ⟨(.bin .eql), [.tmp 39, .const (.int .i64 10)], (some 40), none⟩,
 ⟨.move, [.tmp 40], (some 41), none⟩,
 ⟨.move, [.tmp 0], (some 42), some (41, true)⟩,
 ⟨.move, [.tmp 1], (some 43), some (41, true)⟩,
 ⟨(.callF 45), [.tmp 42, .tmp 43], (some 44), some (41, true)⟩,
 ⟨.not, [.tmp 44], (some 45), some (41, true)⟩,
 ⟨.pick, [.tmp 41, .tmp 45, .const (.bool false)], (some 46), none⟩,
 ⟨.move, [.tmp 46], (some 38), none⟩])
 (.cond (.tmp 38) (.seq (.seqR [⟨.move, [.tmp 10], (some 47), none⟩,
 ⟨.move, [.tmp 47], (some 6), none⟩,
 ⟨.move, [.const (.int .i64 0)], (some 7), none⟩])
 .ret)
 (.seq (.seqR [⟨.move, [.tmp 11], (some 49), none⟩,
 ⟨(.bin .neq), [.tmp 49, .const (.int .i64 0)], (some 50), none⟩,
 ⟨.move, [.tmp 50], (some 48), none⟩])
 (.cond (.tmp 48) (.seq (.seqR [⟨.move, [.tmp 10], (some 51), none⟩,
 ⟨.move, [.tmp 11], (some 52), none⟩,
 ⟨.move, [.tmp 51], (some 6), none⟩,
 ⟨.move, [.tmp 52], (some 7), none⟩])
 .ret)
 .skip)))))))))
 (.seqR [⟨.move, [.tmp 10], (some 28), none⟩,
 ⟨(.bin .add), [.tmp 28, .const (.int .i64 1)], (some 29), none⟩,
 ⟨.move, [.tmp 29], (some 10), none⟩])))))
 (.seq (.seq (.seqR [⟨.move, [.tmp 0], (some 53), none⟩,
 ⟨.move, [.tmp 1], (some 54), none⟩,
 ⟨(.callF 45), [.tmp 53, .tmp 54], (some 55), none⟩,
 ⟨.not, [.tmp 55], (some 56), none⟩])
 (.cond (.tmp 56) (.seq (.seqR [⟨.move, [.tmp 10], (some 57), none⟩,
 ⟨.move, [.tmp 57], (some 6), none⟩,
 ⟨.move, [.const (.int .i64 0)], (some 7), none⟩])
 .ret)
 .skip))
 (.seq (.seqR [⟨.move, [.tmp 10], (some 58), none⟩,
 ⟨.move, [.tmp 58], (some 6), none⟩,
 ⟨.move, [.const (.int .i64 14)], (some 7), none⟩])
 .ret)))))), [.tmp 6, .tmp 7]⟩
theorem c18_ok : compFunc Tryz.prog Tryz.f18 = some c18 := by kernel_rfl
theorem c18_body : hasBody Tryz.prog 18 = true := hasBody_of Tryz.func18 (by kernel_rfl)
/-- (*coachyard/loom.Loom).Result -/
def c19 : PFn := ⟨21, Tr.ofList (List.replicate 21 undefA), (.seq (.seqR [⟨(.new [(.int .i64 0), (.int .u64 0), (.slice none 0 0 false)]), [], (some 4), none⟩,
 ⟨.move, [.const (.bool false)], (some 5), none⟩])
 (.seq (.seq (.seqR [⟨.move, [.tmp 0], (some 6), none⟩,
 ⟨.move, [.tmp 1], (some 7), none⟩,
 ⟨(.callF 44), [.tmp 6, .tmp 7], (some 8), none⟩,
 ⟨(.bin .neq), [.tmp 8, .const (.int .i64 0)], (some 9), none⟩])
 (.cond (.tmp 9) (.seq (.seqR [⟨(.build [(.int .i64 0), (.int .u64 0), (.slice none 0 0 false)] []), [], (some 10), none⟩,
 ⟨(.store 3), [.tmp 4, .tmp 10], none, none⟩,
 ⟨.move, [.const (.bool false)], (some 5), none⟩])
 .ret)
 .skip))
 (.seq (.seqR [⟨.move, [.tmp 0], (some 11), none⟩,
 ⟨.nilCheck, [.tmp 11], (some 12), none⟩,
 ⟨(.fieldAddr 1), [.tmp 12], (some 13), none⟩,
 ⟨(.load false 1), [.tmp 13], (some 14), none⟩,
 ⟨.move, [.tmp 1], (some 15), none⟩,
 ⟨(.indexAddrS 1), [.tmp 14, .tmp 15], (some 16), none⟩,
 ⟨(.load false 1), [.tmp 16], (some 17), none⟩,
 ⟨(.callF 21), [.tmp 17], (some 18), none⟩,
 ⟨(.extract 0), [.tmp 18], (some 19), none⟩,
 ⟨(.extract 1), [.tmp 18], (some 20), none⟩,
 ⟨(.store 3), [.tmp 4, .tmp 19], none, none⟩,
 ⟨.move, [.tmp 20], (some 5), none⟩])
 .ret))), [.cell 4 true 3, .tmp 5]⟩
theorem c19_ok : compFunc Tryz.prog Tryz.f19 = some c19 := by kernel_rfl
theorem c19_body : hasBody Tryz.prog 19 = true := hasBody_of Tryz.func19 (by kernel_rfl)
/-- (*coachyard/walk.Walk).Want -/
def c20 : PFn := ⟨32, Tr.ofList (List.replicate 32 undefA), (.seq (.seqR [⟨(.new [(.int .i64 0), (.int .i64 0), (.int .u64 0), (.int .u64 0)]), [], (some 2), none⟩,
 ⟨.move, [.const (.bool false)], (some 3), none⟩])
 (.seq (.block 0 (.seq (.seqR [⟨.move, [.tmp 0], (some 5), none⟩,
 ⟨(.eqPtr false), [.tmp 5, .const (.ptr none)], (some 6), none⟩,
 ⟨.move, [.tmp 6], (some 4), none⟩])
 (.cond (.tmp 4) (.seq (.seqR [⟨(.build [(.int .i64 0), (.int .i64 0), (.int .u64 0), (.int .u64 0)] []), [], (some 7), none⟩,
 ⟨(.store 4), [.tmp 2, .tmp 7], none, none⟩,
 ⟨.move, [.const (.bool false)], (some 3), none⟩])
 .ret)
 (.seq (.seqR [⟨.move, [.tmp 0], (some 9), none⟩,
 ⟨.nilCheck, [.tmp 9], (some 10), none⟩,
 ⟨(.fieldAddr 6), [.tmp 10], (some 11), none⟩,
 ⟨(.load false 1), [.tmp 11], (some 12), none⟩,
 ⟨(.eqPtr true), [.tmp 12, .const (.ptr none)], (some 13), none⟩,
 ⟨.move, [.tmp 13], (some 8), none⟩])
 (.cond (.tmp 8) (.seq (.seqR [⟨.move, [.tmp 0], (some 14), none⟩,
 ⟨.nilCheck, [.tmp 14], (some 15), none⟩,
 ⟨(.fieldAddr 6), [.tmp 15], (some 16), none⟩,
 ⟨(.load false 1), [.tmp 16], (some 17), none⟩,
 ⟨(.callF 20), [.tmp 17], (some 18), none⟩,
 ⟨(.extract 0), [.tmp 18], (some 19), none⟩,
 ⟨(.extract 1), [.tmp 18], (some 20), none⟩,
 ⟨(.store 4), [.tmp 2, .tmp 19], none, none⟩,
 ⟨.move, [.tmp 20], (some 3), none⟩])
 .ret)
 (.seq (.seqR [⟨.move, [.tmp 0], (some 22), none⟩,
 ⟨.nilCheck, [.tmp 22], (some 23), none⟩,
 ⟨(.fieldAddr 5), [.tmp 23], (some 24), none⟩,
 ⟨(.load false 1), [.tmp 24], (some 25), none⟩,
 ⟨.not, [.tmp 25], (some 26), none⟩,
 ⟨.move, [.tmp 26], (some 21), none⟩])
 (.cond (.tmp 21) (.seq (.seqR [⟨(.build [(.int .i64 0), (.int .i64 0), (.int .u64 0), (.int .u64 0)] []), [], (some 27), none⟩,
 ⟨(.store 4), [.tmp 2, .tmp 27], none, none⟩,
 ⟨.move, [.const (.bool false)], (some 3), none⟩])
 .ret)
 .skip)))))))
 (.seq (.seqR [⟨.move, [.tmp 0], (some 28), none⟩,
 ⟨.nilCheck, [.tmp 28], (some 29), none⟩,
 ⟨(.fieldAddr 0), [.tmp 29], (some 30), none⟩,
 ⟨(.load true 4), [.tmp 30], (some 31), none⟩,
 ⟨(.store 4), [.tmp 2, .tmp 31], none, none⟩,
 ⟨.move, [.const (.bool true)], (some 3), none⟩])
 .ret))), [.cell 2 true 4, .tmp 3]⟩
theorem c20_ok : compFunc Tryz.prog Tryz.f20 = some c20 := by kernel_rfl
theorem c20_body : hasBody Tryz.prog 20 = true := hasBody_of Tryz.func20 (by kernel_rfl)
/-- (*coachyard/walk.Walk).Result -/
def c21 : PFn := ⟨24, Tr.ofList (List.replicate 24 undefA), (.seq (.seqR [⟨(.new [(.int .i64 0), (.int .u64 0), (.slice none 0 0 false)]), [], (some 2), none⟩,
 ⟨.move, [.const (.bool false)], (some 3), none⟩])
 (.seq (.seq (.seqR [⟨.move, [.tmp 0], (some 5), none⟩,
 ⟨(.eqPtr false), [.tmp 5, .const (.ptr none)], (some 6), none⟩,
 ⟨.move, [.tmp 6], (some 7), none⟩,
 ⟨.move, [.tmp 0], (some 8), some (7, false)⟩,
 ⟨.nilCheck, [.tmp 8], (some 9), some (7, false)⟩,
 ⟨(.fieldAddr 8), [.tmp 9], (some 10), some (7, false)⟩,
 ⟨(.load false 1), [.tmp 10], (some 11), some (7, false)⟩,
 ⟨.not, [.tmp 11], (some 12), some (7, false)⟩,
 ⟨.pick, [.tmp 7, .const (.bool true), .tmp 12], (some 13), none⟩])
 (.cond (.tmp 13) (.seq (.seqR [⟨(.build [(.int .i64 0), (.int .u64 0), (.slice none 0 0 false)] []), [], (some 14), none⟩,
 ⟨(.store 3), [.tmp 2, .tmp 14], none, none⟩,
 ⟨.move, [.const (.bool false)], (some 3), none⟩])
 .ret)
 .skip))
 (.seq (.seqR [⟨.move, [.tmp 0], (some 15), none⟩,
 ⟨.nilCheck, [.tmp 15], (some 16), none⟩,
 ⟨(.fieldAddr 9), [.tmp 16], (some 17), none⟩,
 ⟨(.load true 3), [.tmp 17], (some 18), none⟩,
 ⟨(.new [(.int .i64 0), (.int .u64 0), (.slice none 0 0 false)]), [], (some 4), none⟩,
 ⟨(.store 3), [.tmp 4, .tmp 18], none, none⟩])
 (.seq (.seqR [⟨(.fieldAddr 2), [.tmp 4], (some 19), none⟩,
 ⟨(.load false 1), [.tmp 19], (some 20), none⟩,
 ⟨(.callF 48), [.tmp 20], (some 21), none⟩,
 ⟨(.fieldAddr 2), [.tmp 4], (some 22), none⟩,
 ⟨(.store 1), [.tmp 22, .tmp 21], none, none⟩])
 (.seq (.seqR [⟨(.load true 3), [.tmp 4], (some 23), none⟩,
 ⟨(.store 3), [.tmp 2, .tmp 23], none, none⟩,
 ⟨.move, [.const (.bool true)], (some 3), none⟩])
 .ret))))), [.cell 2 true 3, .tmp 3]⟩
theorem c21_ok : compFunc Tryz.prog Tryz.f21 = some c21 := by kernel_rfl
theorem c21_body : hasBody Tryz.prog 21 = true := hasBody_of Tryz.func21 (by kernel_rfl)
/-- coachyard/coachyardlaw04.SameResult -/
def c22 : PFn := ⟨24, Tr.ofList (List.replicate 24 undefA), (.seq (.seqR [⟨.box, [.tmp 0], (some 2), none⟩,
 ⟨.box, [.tmp 1], (some 3), none⟩,
 ⟨.move, [.const (.bool false)], (some 4), none⟩])
 (.seq (.seqR [⟨(.fieldAddr 0), [.tmp 2], (some 5), none⟩,
 ⟨(.load false 1), [.tmp 5], (some 6), none⟩,
 ⟨(.fieldAddr 0), [.tmp 3], (some 7), none⟩,
 ⟨(.load false 1), [.tmp 7], (some 8), none⟩,
 ⟨(.bin .eql), [.tmp 6, .tmp 8], (some 9), none⟩,
 ⟨.move, [.tmp 9], (some 10), none⟩,
 ⟨(.fieldAddr 1), [.tmp 2], (some 11), some (10, true)⟩,
 ⟨(.load false 1), [.tmp 11], (some 12), some (10, true)⟩,
 ⟨(.fieldAddr 1), [.tmp 3], (some 13), some (10, true)⟩,
 ⟨(.load false 1), [.tmp 13], (some 14), some (10, true)⟩,
 ⟨(.bin .eql), [.tmp 12, .tmp 14], (some 15), some (10, true)⟩,
 ⟨.pick, [.tmp 10, .tmp 15, .const (.bool false)], (some 16), none⟩,
 ⟨.move, [.tmp 16], (some 17), none⟩,
 ⟨(.fieldAddr 2), [.tmp 2], (some 18), some (17, true)⟩,
 ⟨(.load false 1), [.tmp 18], (some 19), some (17, true)⟩,
 ⟨(.fieldAddr 2), [.tmp 3], (some 20), some (17, true)⟩,
 ⟨(.load false 1), [.tmp 20], (some 21), some (17, true)⟩,
 ⟨(.callF 23), [.tmp 19, .tmp 21], (some 22), some (17, true)⟩,
 ⟨.pick, [.tmp 17, .tmp 22, .const (.bool false)], (some 23), none⟩,
 ⟨.move, [.tmp 23], (some 4), none⟩])
 .ret)), [.tmp 4]⟩
theorem c22_ok : compFunc Tryz.prog Tryz.f22 = some c22 := by kernel_rfl
theorem c22_body : hasBody Tryz.prog 22 = true := hasBody_of Tryz.func22 (by kernel_rfl)
/-- coachyard/coachyardref01.Same -/
def c23 : PFn := ⟨26, Tr.ofList (List.replicate 26 undefA), (.seq (.seqR [⟨.move, [.const (.bool false)], (some 4), none⟩])
 (.seq (.seq (.seqR [⟨.move, [.tmp 0], (some 6), none⟩,
 ⟨.lenS, [.tmp 6], (some 7), none⟩,
 ⟨.move, [.tmp 1], (some 8), none⟩,
 ⟨.lenS, [.tmp 8], (some 9), none⟩,
 ⟨(.bin .neq), [.tmp 7, .tmp 9], (some 10), none⟩])
 (.cond (.tmp 10) (.seq (.seqR [⟨.move, [.const (.bool false)], (some 4), none⟩])
 .ret)
 .skip))
 (.seq (.seq (.seqR [⟨.move, [.const (.int .i64 0)], (some 5), none⟩])
 (.block 0 (.loop (.seq (.seq (.seqR [⟨.move, [.tmp 5], (some 11), none⟩,
 ⟨.move, [.tmp 0], (some 12), none⟩,
 ⟨.lenS, [.tmp 12], (some 13), none⟩,
 ⟨(.bin .lss), [.tmp 11, .tmp 13], (some 14), none⟩])
 (.cond (.tmp 14) .skip
 (.exit 0)))
 (.seq (.block 1 (.seq (.drawR [⟨⟨.move, [.tmp 0], (some 17), none⟩, false, false, 0, 0⟩,
 ⟨⟨.move, [.tmp 5], (some 18), none⟩, false, false, 0, 0⟩,
 ⟨⟨(.indexAddrS 1), [.tmp 17, .tmp 18], (some 19), none⟩, false, false, 0, 0⟩,
 ⟨⟨(.load false 1), [.tmp 19], (some 20), none⟩, false, false, 0, 0⟩,
 ⟨⟨.move, [.tmp 1], (some 21), none⟩, false, false, 0, 0⟩,
 ⟨⟨.move, [.tmp 5], (some 22), none⟩, false, false, 0, 0⟩,
 ⟨⟨(.indexAddrS 1), [.tmp 21, .tmp 22], (some 23), none⟩, false, false, 0, 0⟩,
 ⟨⟨(.load false 1), [.tmp 23], (some 24), none⟩, false, false, 0, 0⟩,
 ⟨⟨(.bin .neq), [.tmp 20, .tmp 24], (some 25), none⟩, false, false, 0, 0⟩])
 (.cond (.tmp 25) (.seq (.seqR [⟨.move, [.const (.bool false)], (some 4), none⟩])
 .ret)
 .skip)))
 (.seqR [⟨.move, [.tmp 5], (some 15), none⟩,
 ⟨(.bin .add), [.tmp 15, .const (.int .i64 1)], (some 16), none⟩,
 ⟨.move, [.tmp 16], (some 5), none⟩]))))))
 (.seq (.seqR [⟨.move, [.const (.bool true)], (some 4), none⟩])
 .ret)))), [.tmp 4]⟩
theorem c23_ok : compFunc Tryz.prog Tryz.f23 = some c23 := by kernel_rfl
theorem c23_body : hasBody Tryz.prog 23 = true := hasBody_of Tryz.func23 (by kernel_rfl)
/-- (*coachyard/walk.Walk).Held -/
def c24 : PFn := ⟨16, Tr.ofList (List.replicate 16 undefA), (.seq (.seqR [⟨.move, [.const (.slice none 0 0 false)], (some 2), none⟩])
 (.seq (.seq (.seqR [⟨.move, [.tmp 0], (some 3), none⟩,
 ⟨(.eqPtr false), [.tmp 3, .const (.ptr none)], (some 4), none⟩])
 (.cond (.tmp 4) (.seq (.seqR [⟨.move, [.const (.slice none 0 0 false)], (some 2), none⟩])
 .ret)
 .skip))
 (.seq (.drawR [⟨⟨.move, [.tmp 0], (some 5), none⟩, false, false, 0, 1⟩,
 ⟨⟨.nilCheck, [.tmp 5], (some 6), none⟩, false, false, 0, 1⟩,
 ⟨⟨(.fieldAddr 12), [.tmp 6], (some 7), none⟩, false, false, 0, 1⟩,
 ⟨⟨(.load false 1), [.tmp 7], (some 8), none⟩, false, false, 0, 1⟩,
 ⟨⟨.move, [.tmp 0], (some 9), none⟩, false, false, 0, 0⟩,
 ⟨⟨.nilCheck, [.tmp 9], (some 10), none⟩, false, false, 0, 0⟩,
 ⟨⟨(.fieldAddr 6), [.tmp 10], (some 11), none⟩, false, false, 0, 0⟩,
 ⟨⟨(.load false 1), [.tmp 11], (some 12), none⟩, false, false, 0, 0⟩,
 ⟨⟨(.callF 24), [.tmp 12], (some 13), none⟩, true, false, 0, 1⟩,
 ⟨⟨(.sliceLit 2 [(.slice none 0 0 false), (.slice none 0 0 false)] [(0, 1), (1, 1)]), [.tmp 8, .tmp 13], (some 14), none⟩, true, false, 1, 2⟩,
 ⟨⟨(.callF 49), [.tmp 14], (some 15), none⟩, true, false, 2, 3⟩,
 ⟨⟨.move, [.tmp 15], (some 2), none⟩, false, false, 3, 3⟩])
 .ret))), [.tmp 2]⟩
theorem c24_ok : compFunc Tryz.prog Tryz.f24 = some c24 := by kernel_rfl
theorem c24_body : hasBody Tryz.prog 24 = true := hasBody_of Tryz.func24 (by kernel_rfl)
/-- (*coachyard/walk.Walk).Give -/
def c25 : PFn := ⟨46, Tr.ofList (List.replicate 46 undefA), (.block 0 (.seq (.seqR [⟨.move, [.tmp 0], (some 8), none⟩,
 ⟨(.eqPtr false), [.tmp 8, .const (.ptr none)], (some 9), none⟩,
 ⟨.move, [.tmp 9], (some 7), none⟩])
 (.cond (.tmp 7) .skip
 (.seq (.seqR [⟨.move, [.tmp 0], (some 11), none⟩,
 ⟨.nilCheck, [.tmp 11], (some 12), none⟩,
 ⟨(.fieldAddr 6), [.tmp 12], (some 13), none⟩,
 ⟨(.load false 1), [.tmp 13], (some 14), none⟩,
 ⟨(.eqPtr true), [.tmp 14, .const (.ptr none)], (some 15), none⟩,
 ⟨.move, [.tmp 15], (some 10), none⟩])
 (.cond (.tmp 10) (.seq (.seqR [⟨.move, [.tmp 0], (some 16), none⟩,
 ⟨.nilCheck, [.tmp 16], (some 17), none⟩,
 ⟨(.fieldAddr 6), [.tmp 17], (some 18), none⟩,
 ⟨(.load false 1), [.tmp 18], (some 19), none⟩,
 ⟨.move, [.tmp 1], (some 20), none⟩,
 ⟨.move, [.tmp 2], (some 21), none⟩,
 ⟨(.callF 25), [.tmp 19, .tmp 20, .tmp 21], (some 22), none⟩])
 (.seqR [⟨.move, [.tmp 0], (some 23), none⟩,
 ⟨(.callF 50), [.tmp 23], (some 24), none⟩]))
 (.seq (.seqR [⟨.move, [.tmp 0], (some 26), none⟩,
 ⟨.nilCheck, [.tmp 26], (some 27), none⟩,
 ⟨(.fieldAddr 5), [.tmp 27], (some 28), none⟩,
 ⟨(.load false 1), [.tmp 28], (some 29), none⟩,
 ⟨.move, [.tmp 29], (some 25), none⟩])
 (.cond (.tmp 25) (.seq (.seqR [⟨.move, [.tmp 0], (some 30), none⟩,
 ⟨.nilCheck, [.tmp 30], (some 31), none⟩,
 ⟨(.fieldAddr 4), [.tmp 31], (some 32), none⟩,
 ⟨(.load false 1), [.tmp 32], (some 33), none⟩,
 ⟨.move, [.tmp 33], (some 6), none⟩])
 (.seq (.seqR [⟨.move, [.tmp 0], (some 34), none⟩,
 ⟨.move, [.tmp 0], (some 35), none⟩,
 ⟨.nilCheck, [.tmp 34], (some 36), none⟩,
 ⟨(.fieldAddr 5), [.tmp 36], (some 37), none⟩,
 ⟨(.store 1), [.tmp 37, .const (.bool false)], none, none⟩,
 ⟨.nilCheck, [.tmp 35], (some 38), none⟩,
 ⟨(.fieldAddr 4), [.tmp 38], (some 39), none⟩,
 ⟨(.store 1), [.tmp 39, .const .nilFunc], none, none⟩])
 (.seq (.seqR [⟨.move, [.tmp 6], (some 40), none⟩,
 ⟨(.eqNil 2 true), [.tmp 40, .const .nilFunc], (some 41), none⟩])
 (.cond (.tmp 41) (.seqR [⟨.move, [.tmp 6], (some 42), none⟩,
 ⟨.move, [.tmp 1], (some 43), none⟩,
 ⟨.move, [.tmp 2], (some 44), none⟩,
 ⟨.callV, [.tmp 42, .tmp 43, .tmp 44], (some 45), none⟩])
 .skip))))
 .skip))))))), []⟩
theorem c25_ok : compFunc Tryz.prog Tryz.f25 = some c25 := by kernel_rfl
theorem c25_body : hasBody Tryz.prog 25 = true := hasBody_of Tryz.func25 (by kernel_rfl)
/-- (coachyard/stack.Pile).begun -/
def c26 : PFn := ⟨7, Tr.ofList (List.replicate 7 undefA), (.seq (.seqR [⟨.box, [.tmp 0], (some 2), none⟩,
 ⟨.box, [.tmp 1], (some 3), none⟩,
 ⟨.move, [.const (.ptr none)], (some 4), none⟩])
 (.seq (.seqR [⟨(.mkFunc (.func 52) 0), [.tmp 2, .tmp 3], (some 5), none⟩,
 ⟨(.callF 51), [.tmp 5], (some 6), none⟩,
 ⟨.move, [.tmp 6], (some 4), none⟩])
 .ret)), [.tmp 4]⟩
theorem c26_ok : compFunc Tryz.prog Tryz.f26 = some c26 := by kernel_rfl
theorem c26_body : hasBody Tryz.prog 26 = true := hasBody_of Tryz.func26 (by kernel_rfl)
/-- (coachyard/stack.Pile).Push$1 -/
def c27 : PFn := ⟨26, Tr.ofList (List.replicate 26 undefA), (.seq (.seqR [⟨.move, [.tmp 0], (some 4), none⟩,
 ⟨(.load false 1), [.tmp 1], (some 5), none⟩,
 ⟨.nilCheck, [.tmp 4], (some 6), none⟩,
 ⟨(.fieldAddr 5), [.tmp 6], (some 7), none⟩,
 ⟨(.store 1), [.tmp 7, .tmp 5], none, none⟩])
 (.seq (.drawR [⟨⟨.move, [.tmp 0], (some 8), none⟩, false, false, 0, 1⟩,
 ⟨⟨.nilCheck, [.tmp 8], (some 9), none⟩, false, false, 0, 1⟩,
 ⟨⟨(.fieldAddr 2), [.tmp 9], (some 10), none⟩, false, false, 0, 1⟩,
 ⟨⟨(.load false 1), [.tmp 10], (some 11), none⟩, false, false, 0, 1⟩,
 ⟨⟨(.load false 1), [.tmp 1], (some 12), none⟩, false, false, 0, 0⟩,
 ⟨⟨(.sliceLit 1 [(.int .u64 0)] [(0, 1)]), [.tmp 12], (some 13), none⟩, true, false, 0, 1⟩,
 ⟨⟨(.callF 28), [.tmp 11, .tmp 13], (some 14), none⟩, true, false, 1, 2⟩])
 (.drawR [⟨⟨.move, [.tmp 0], (some 15), none⟩, false, false, 0, 2⟩,
 ⟨⟨.nilCheck, [.tmp 15], (some 16), none⟩, false, false, 0, 2⟩,
 ⟨⟨(.fieldAddr 2), [.tmp 16], (some 17), none⟩, false, false, 0, 2⟩,
 ⟨⟨(.load false 1), [.tmp 17], (some 18), none⟩, false, false, 0, 2⟩,
 ⟨⟨(.load true 2), [.tmp 2], (some 19), none⟩, false, false, 0, 0⟩,
 ⟨⟨(.callF 5), [.tmp 19], (some 20), none⟩, true, false, 0, 1⟩,
 ⟨⟨(.callF 30), [.tmp 20], (some 21), none⟩, true, false, 1, 2⟩,
 ⟨⟨.move, [.tmp 0], (some 22), none⟩, false, false, 0, 2⟩,
 ⟨⟨(.build [(.ptr none)] [(0, 1)]), [.tmp 22], (some 23), none⟩, false, false, 0, 2⟩,
 ⟨⟨(.mkFunc (.func 31) 1), [.tmp 23], (some 24), none⟩, false, false, 0, 2⟩,
 ⟨⟨(.callF 29), [.tmp 18, .tmp 21, .tmp 24], (some 25), none⟩, true, false, 2, 3⟩]))), []⟩
theorem c27_ok : compFunc Tryz.prog Tryz.f27 = some c27 := by kernel_rfl
theorem c27_body : hasBody Tryz.prog 27 = true := hasBody_of Tryz.func27 (by kernel_rfl)
/-- (*coachyard/walk.Walk).Hold -/
def c28 : PFn := ⟨11, Tr.ofList (List.replicate 11 undefA), (.seq (.seqR [⟨.move, [.tmp 0], (some 4), none⟩,
 ⟨(.eqPtr true), [.tmp 4, .const (.ptr none)], (some 5), none⟩])
 (.cond (.tmp 5) (.seqR [⟨.move, [.tmp 0], (some 6), none⟩,
 ⟨.move, [.tmp 1], (some 7), none⟩,
 ⟨(.callF 48), [.tmp 7], (some 8), none⟩,
 ⟨.nilCheck, [.tmp 6], (some 9), none⟩,
 ⟨(.fieldAddr 12), [.tmp 9], (some 10), none⟩,
 ⟨(.store 1), [.tmp 10, .tmp 8], none, none⟩])
 .skip)), []⟩
theorem c28_ok : compFunc Tryz.prog Tryz.f28 = some c28 := by kernel_rfl
theorem c28_body : hasBody Tryz.prog 28 = true := hasBody_of Tryz.func28 (by kernel_rfl)
/-- (*coachyard/walk.Walk).Into -/
def c29 : PFn := ⟨19, Tr.ofList (List.replicate 19 undefA), (.seq (.seq (.seqR [⟨.move, [.tmp 0], (some 6), none⟩,
 ⟨(.callF 54), [.tmp 6], (some 7), none⟩,
 ⟨.not, [.tmp 7], (some 8), none⟩])
 (.cond (.tmp 8) .ret
 .skip))
 (.seq (.seqR [⟨.move, [.tmp 0], (some 9), none⟩,
 ⟨.move, [.tmp 0], (some 10), none⟩,
 ⟨.move, [.tmp 1], (some 11), none⟩,
 ⟨.move, [.tmp 2], (some 12), none⟩,
 ⟨.nilCheck, [.tmp 9], (some 13), none⟩,
 ⟨(.fieldAddr 6), [.tmp 13], (some 14), none⟩,
 ⟨(.store 1), [.tmp 14, .tmp 11], none, none⟩,
 ⟨.nilCheck, [.tmp 10], (some 15), none⟩,
 ⟨(.fieldAddr 7), [.tmp 15], (some 16), none⟩,
 ⟨(.store 1), [.tmp 16, .tmp 12], none, none⟩])
 (.seqR [⟨.move, [.tmp 0], (some 17), none⟩,
 ⟨(.callF 50), [.tmp 17], (some 18), none⟩]))), []⟩
theorem c29_ok : compFunc Tryz.prog Tryz.f29 = some c29 := by kernel_rfl
theorem c29_body : hasBody Tryz.prog 29 = true := hasBody_of Tryz.func29 (by kernel_rfl)
/-- (coachyard/arena.Arena).Take -/
def c30 : PFn := ⟨9, Tr.ofList (List.replicate 9 undefA), (.seq (.seqR [⟨.box, [.tmp 0], (some 1), none⟩,
 ⟨.move, [.const (.ptr none)], (some 2), none⟩])
 (.seq (.seqR [⟨(.load true 2), [.tmp 1], (some 4), none⟩,
 ⟨(.build [(.int .i64 0), (.int .i64 0), (.ptr none), (.int .u64 0)] [(0, 2)]), [.tmp 4], (some 5), none⟩,
 ⟨.box, [.tmp 5], (some 6), none⟩,
 ⟨(.new [(.ptr none)]), [], (some 3), none⟩,
 ⟨(.store 1), [.tmp 3, .tmp 6], none, none⟩])
 (.seq (.seqR [⟨(.mkFunc (.func 55) 0), [.tmp 3, .tmp 1], (some 7), none⟩,
 ⟨(.callF 51), [.tmp 7], (some 8), none⟩,
 ⟨.move, [.tmp 8], (some 2), none⟩])
 .ret))), [.tmp 2]⟩
theorem c30_ok : compFunc Tryz.prog Tryz.f30 = some c30 := by kernel_rfl
theorem c30_body : hasBody Tryz.prog 30 = true := hasBody_of Tryz.func30 (by kernel_rfl)
/-- (coachyard/stack.push).taken -/
def c31 : PFn := ⟨53, Tr.ofList (List.replicate 53 undefA), (.seq (.seqR [⟨.box, [.tmp 0], (some 2), none⟩,
 ⟨.box, [.tmp 1], (some 3), none⟩])
 (.seq (.seq (.seqR [⟨(.fieldAddr 0), [.tmp 3], (some 4), none⟩,
 ⟨(.load false 1), [.tmp 4], (some 5), none⟩,
 ⟨(.bin .neq), [.tmp 5, .const (.int .i64 0)], (some 6), none⟩])
 (.cond (.tmp 6) (.seq (.seqR [⟨(.fieldAddr 0), [.tmp 2], (some 7), none⟩,
 ⟨(.load false 1), [.tmp 7], (some 8), none⟩,
 ⟨.nilCheck, [.tmp 8], (some 9), none⟩,
 ⟨(.fieldAddr 2), [.tmp 9], (some 10), none⟩,
 ⟨(.load false 1), [.tmp 10], (some 11), none⟩,
 ⟨(.callF 28), [.tmp 11, .const (.slice none 0 0 false)], (some 12), none⟩])
 (.seq (.drawR [⟨⟨(.fieldAddr 0), [.tmp 2], (some 13), none⟩, false, false, 0, 0⟩,
 ⟨⟨(.load false 1), [.tmp 13], (some 14), none⟩, false, false, 0, 0⟩,
 ⟨⟨.nilCheck, [.tmp 14], (some 15), none⟩, false, false, 0, 0⟩,
 ⟨⟨(.fieldAddr 2), [.tmp 15], (some 16), none⟩, false, false, 0, 0⟩,
 ⟨⟨(.load false 1), [.tmp 16], (some 17), none⟩, false, false, 0, 0⟩,
 ⟨⟨(.fieldAddr 0), [.tmp 3], (some 18), none⟩, false, false, 0, 0⟩,
 ⟨⟨(.load false 1), [.tmp 18], (some 19), none⟩, false, false, 0, 0⟩,
 ⟨⟨(.callF 53), [.tmp 17, .tmp 19], (some 20), none⟩, true, false, 0, 1⟩])
 .ret))
 .skip))
 (.seq (.seqR [⟨(.fieldAddr 0), [.tmp 2], (some 21), none⟩,
 ⟨(.load false 1), [.tmp 21], (some 22), none⟩,
 ⟨(.fieldAddr 1), [.tmp 3], (some 23), none⟩,
 ⟨(.load false 1), [.tmp 23], (some 24), none⟩,
 ⟨(.conv .u32), [.tmp 24], (some 25), none⟩,
 ⟨.nilCheck, [.tmp 22], (some 26), none⟩,
 ⟨(.fieldAddr 4), [.tmp 26], (some 27), none⟩,
 ⟨(.store 1), [.tmp 27, .tmp 25], none, none⟩])
 (.drawR [⟨⟨(.fieldAddr 0), [.tmp 2], (some 28), none⟩, false, false, 0, 1⟩,
 ⟨⟨(.load false 1), [.tmp 28], (some 29), none⟩, false, false, 0, 1⟩,
 ⟨⟨.nilCheck, [.tmp 29], (some 30), none⟩, false, false, 0, 1⟩,
 ⟨⟨(.fieldAddr 2), [.tmp 30], (some 31), none⟩, false, false, 0, 1⟩,
 ⟨⟨(.load false 1), [.tmp 31], (some 32), none⟩, false, false, 0, 1⟩,
 ⟨⟨(.fieldAddr 0), [.tmp 2], (some 33), none⟩, false, false, 0, 0⟩,
 ⟨⟨(.load false 1), [.tmp 33], (some 34), none⟩, false, false, 0, 0⟩,
 ⟨⟨.nilCheck, [.tmp 34], (some 35), none⟩, false, false, 0, 0⟩,
 ⟨⟨(.fieldAddr 0), [.tmp 35], (some 36), none⟩, false, false, 0, 0⟩,
 ⟨⟨(.load true 2), [.tmp 36], (some 37), none⟩, false, false, 0, 0⟩,
 ⟨⟨(.fieldAddr 0), [.tmp 2], (some 38), none⟩, false, false, 0, 0⟩,
 ⟨⟨(.load false 1), [.tmp 38], (some 39), none⟩, false, false, 0, 0⟩,
 ⟨⟨.nilCheck, [.tmp 39], (some 40), none⟩, false, false, 0, 0⟩,
 ⟨⟨(.fieldAddr 4), [.tmp 40], (some 41), none⟩, false, false, 0, 0⟩,
 ⟨⟨(.load false 1), [.tmp 41], (some 42), none⟩, false, false, 0, 0⟩,
 ⟨⟨(.callF 59), [.tmp 37, .tmp 42], (some 43), none⟩, true, false, 0, 1⟩,
 ⟨⟨(.fieldAddr 0), [.tmp 2], (some 44), none⟩, false, false, 0, 1⟩,
 ⟨⟨(.load false 1), [.tmp 44], (some 45), none⟩, false, false, 0, 1⟩,
 ⟨⟨.nilCheck, [.tmp 45], (some 46), none⟩, false, false, 0, 1⟩,
 ⟨⟨(.fieldAddr 5), [.tmp 46], (some 47), none⟩, false, false, 0, 1⟩,
 ⟨⟨(.load false 1), [.tmp 47], (some 48), none⟩, false, false, 0, 1⟩,
 ⟨⟨(.build [(.int .i64 0), (.int .i64 0), (.int .u64 0), (.int .u64 0)] [(0, 1), (1, 1), (2, 1)]), [.const (.int .i64 2), .tmp 43, .tmp 48], (some 49), none⟩, false, false, 1, 1⟩,
 ⟨⟨(.load true 1), [.tmp 2], (some 50), none⟩, false, false, 0, 1⟩,
 ⟨⟨(.mkFunc (.func 60) 1), [.tmp 50], (some 51), none⟩, false, false, 0, 1⟩,
 ⟨⟨(.callF 57), [.tmp 32, .tmp 49, .tmp 51], (some 52), none⟩, true, false, 1, 2⟩])))), []⟩
theorem c31_ok : compFunc Tryz.prog Tryz.f31 = some c31 := by kernel_rfl
theorem c31_body : hasBody Tryz.prog 31 = true := hasBody_of Tryz.func31 (by kernel_rfl)
/-- (*coachyard/coachyardref31.Frame).end -/
def c32 : PFn := ⟨18, Tr.ofList (List.replicate 18 undefA), (.seq (.seqR [⟨.move, [.tmp 0], (some 6), none⟩,
 ⟨.nilCheck, [.tmp 6], (some 7), none⟩,
 ⟨(.fieldAddr 10), [.tmp 7], (some 8), none⟩,
 ⟨(.store 1), [.tmp 8, .const (.bool true)], none, none⟩])
 (.seq (.seqR [⟨.move, [.tmp 0], (some 9), none⟩,
 ⟨.nilCheck, [.tmp 9], (some 10), none⟩,
 ⟨(.fieldAddr 5), [.tmp 10], (some 11), none⟩,
 ⟨(.store 1), [.tmp 11, .const (.ptr none)], none, none⟩])
 (.seqR [⟨.move, [.tmp 0], (some 12), none⟩,
 ⟨.move, [.tmp 1], (some 13), none⟩,
 ⟨.move, [.tmp 2], (some 14), none⟩,
 ⟨(.build [(.int .i64 0), (.int .u64 0), (.slice none 0 0 false)] [(0, 1), (1, 1)]), [.tmp 13, .tmp 14], (some 15), none⟩,
 ⟨.nilCheck, [.tmp 12], (some 16), none⟩,
 ⟨(.fieldAddr 11), [.tmp 16], (some 17), none⟩,
 ⟨(.store 3), [.tmp 17, .tmp 15], none, none⟩]))), []⟩
theorem c32_ok : compFunc Tryz.prog Tryz.f32 = some c32 := by kernel_rfl
theorem c32_body : hasBody Tryz.prog 32 = true := hasBody_of Tryz.func32 (by kernel_rfl)
/-- coachyard/coachyardref06.Take -/
def c33 : PFn := ⟨17, Tr.ofList (List.replicate 17 undefA), (.seq (.seqR [⟨.move, [.const (.ptr none)], (some 4), none⟩])
 (.seq (.seqR [⟨.move, [.tmp 0], (some 6), none⟩,
 ⟨.move, [.tmp 1], (some 7), none⟩,
 ⟨(.build [(.int .i64 0), (.int .i64 0), (.bool false), (.int .i64 0), (.int .i64 0), (.int .u64 0), (.int .u64 0), (.bool false), (.int .i64 0), (.int .u64 0), (.slice none 0 0 false)] [(0, 1), (1, 1), (4, 1)]), [.tmp 6, .tmp 7, .const (.int .i64 1)], (some 8), none⟩,
 ⟨.box, [.tmp 8], (some 9), none⟩,
 ⟨.move, [.tmp 9], (some 5), none⟩])
 (.seq (.seq (.seqR [⟨.move, [.tmp 0], (some 10), none⟩,
 ⟨.move, [.tmp 1], (some 11), none⟩,
 ⟨(.callF 61), [.tmp 10, .tmp 11], (some 12), none⟩,
 ⟨.not, [.tmp 12], (some 13), none⟩])
 (.cond (.tmp 13) (.seqR [⟨.move, [.tmp 5], (some 14), none⟩,
 ⟨(.callF 62), [.tmp 14, .const (.int .i64 2), .const (.int .u64 0)], (some 15), none⟩])
 .skip))
 (.seq (.seqR [⟨.move, [.tmp 5], (some 16), none⟩,
 ⟨.move, [.tmp 16], (some 4), none⟩])
 .ret)))), [.tmp 4]⟩
theorem c33_ok : compFunc Tryz.prog Tryz.f33 = some c33 := by kernel_rfl
theorem c33_body : hasBody Tryz.prog 33 = true := hasBody_of Tryz.func33 (by kernel_rfl)
/-- (*coachyard/coachyardref31.Frame).Want -/
def c34 : PFn := ⟨120, Tr.ofList (List.replicate 120 undefA), (.seq (.seqR [⟨(.new [(.int .i64 0), (.int .i64 0), (.int .u64 0), (.int .u64 0)]), [], (some 2), none⟩,
 ⟨.move, [.const (.bool false)], (some 3), none⟩])
 (.seq (.seq (.seqR [⟨.move, [.tmp 0], (some 6), none⟩,
 ⟨.nilCheck, [.tmp 6], (some 7), none⟩,
 ⟨(.fieldAddr 10), [.tmp 7], (some 8), none⟩,
 ⟨(.load false 1), [.tmp 8], (some 9), none⟩])
 (.cond (.tmp 9) (.seq (.seqR [⟨(.build [(.int .i64 0), (.int .i64 0), (.int .u64 0), (.int .u64 0)] []), [], (some 10), none⟩,
 ⟨(.store 4), [.tmp 2, .tmp 10], none, none⟩,
 ⟨.move, [.const (.bool false)], (some 3), none⟩])
 .ret)
 .skip))
 (.seq (.seq (.seqR [⟨.move, [.tmp 0], (some 11), none⟩,
 ⟨.nilCheck, [.tmp 11], (some 12), none⟩,
 ⟨(.fieldAddr 5), [.tmp 12], (some 13), none⟩,
 ⟨(.load false 1), [.tmp 13], (some 14), none⟩,
 ⟨(.eqPtr true), [.tmp 14, .const (.ptr none)], (some 15), none⟩])
 (.cond (.tmp 15) (.seq (.seqR [⟨.move, [.tmp 0], (some 16), none⟩,
 ⟨.nilCheck, [.tmp 16], (some 17), none⟩,
 ⟨(.fieldAddr 5), [.tmp 17], (some 18), none⟩,
 ⟨(.load false 1), [.tmp 18], (some 19), none⟩,
 ⟨(.callF 63), [.tmp 19], (some 20), none⟩,
 ⟨(.extract 0), [.tmp 20], (some 21), none⟩,
 ⟨(.extract 1), [.tmp 20], (some 22), none⟩,
 ⟨(.store 4), [.tmp 2, .tmp 21], none, none⟩,
 ⟨.move, [.tmp 22], (some 3), none⟩])
 .ret)
 .skip))
 (.seq (.drawR [⟨⟨.move, [.tmp 0], (some 23), none⟩, false, false, 0, 0⟩,
 ⟨⟨.nilCheck, [.tmp 23], (some 24), none⟩, false, false, 0, 0⟩,
 ⟨⟨(.fieldAddr 0), [.tmp 24], (some 25), none⟩, false, false, 0, 0⟩,
 ⟨⟨(.load false 1), [.tmp 25], (some 26), none⟩, false, false, 0, 0⟩,
 ⟨⟨(.bin .add), [.tmp 26, .const (.int .i64 1)], (some 27), none⟩, false, false, 0, 0⟩,
 ⟨⟨.move, [.tmp 0], (some 28), none⟩, false, false, 0, 0⟩,
 ⟨⟨.nilCheck, [.tmp 28], (some 29), none⟩, false, false, 0, 0⟩,
 ⟨⟨(.fieldAddr 1), [.tmp 29], (some 30), none⟩, false, false, 0, 0⟩,
 ⟨⟨(.load false 1), [.tmp 30], (some 31), none⟩, false, false, 0, 0⟩,
 ⟨⟨(.bin .add), [.tmp 27, .tmp 31], (some 32), none⟩, false, false, 0, 0⟩,
 ⟨⟨.move, [.tmp 0], (some 33), none⟩, false, false, 0, 0⟩,
 ⟨⟨.nilCheck, [.tmp 33], (some 34), none⟩, false, false, 0, 0⟩,
 ⟨⟨(.fieldAddr 8), [.tmp 34], (some 35), none⟩, false, false, 0, 0⟩,
 ⟨⟨(.load false 1), [.tmp 35], (some 36), none⟩, false, false, 0, 0⟩,
 ⟨⟨(.bin .add), [.tmp 32, .tmp 36], (some 37), none⟩, false, false, 0, 0⟩,
 ⟨⟨.move, [.tmp 37], (some 4), none⟩, false, false, 0, 0⟩])
 (.seq (.drawR [⟨⟨.move, [.tmp 0], (some 38), none⟩, false, false, 0, 0⟩,
 ⟨⟨.nilCheck, [.tmp 38], (some 39), none⟩, false, false, 0, 0⟩,
 ⟨⟨(.fieldAddr 0), [.tmp 39], (some 40), none⟩, false, false, 0, 0⟩,
 ⟨⟨(.load false 1), [.tmp 40], (some 41), none⟩, false, false, 0, 0⟩,
 ⟨⟨(.bin .add), [.tmp 41, .const (.int .i64 1)], (some 42), none⟩, false, false, 0, 0⟩,
 ⟨⟨.move, [.tmp 0], (some 43), none⟩, false, false, 0, 0⟩,
 ⟨⟨.nilCheck, [.tmp 43], (some 44), none⟩, false, false, 0, 0⟩,
 ⟨⟨(.fieldAddr 1), [.tmp 44], (some 45), none⟩, false, false, 0, 0⟩,
 ⟨⟨(.load false 1), [.tmp 45], (some 46), none⟩, false, false, 0, 0⟩,
 ⟨⟨(.bin .mul), [.const (.int .i64 2), .tmp 46], (some 47), none⟩, false, false, 0, 0⟩,
 ⟨⟨(.bin .add), [.tmp 42, .tmp 47], (some 48), none⟩, false, false, 0, 0⟩,
 ⟨⟨.move, [.tmp 0], (some 49), none⟩, false, false, 0, 0⟩,
 ⟨⟨.nilCheck, [.tmp 49], (some 50), none⟩, false, false, 0, 0⟩,
 ⟨⟨(.fieldAddr 8), [.tmp 50], (some 51), none⟩, false, false, 0, 0⟩,
 ⟨⟨(.load false 1), [.tmp 51], (some 52), none⟩, false, false, 0, 0⟩,
 ⟨⟨(.bin .add), [.tmp 48, .tmp 52], (some 53), none⟩, false, false, 0, 0⟩,
 ⟨⟨.move, [.tmp 53], (some 5), none⟩, false, false, 0, 0⟩])
 (.seq (.seq (.seqR [⟨.move, [.tmp 0], (some 54), none⟩,
 ⟨.nilCheck, [.tmp 54], (some 55), none⟩,
 ⟨(.fieldAddr 2), [.tmp 55], (some 56), none⟩,
 ⟨(.load false 1), [.tmp 56], (some 57), none⟩])
 (.cond (.tmp 57) (.seq (.seq (.seqR [⟨.move, [.tmp 0], (some 58), none⟩,
 ⟨.nilCheck, [.tmp 58], (some 59), none⟩,
 ⟨(.fieldAddr 4), [.tmp 59], (some 60), none⟩,
 ⟨(.load false 1), [.tmp 60], (some 61), none⟩])
 (.block 0 (.seq (.seqR [⟨(.bin .eql), [.tmp 61, .const (.int .i64 2)], (some 63), none⟩,
 ⟨.move, [.tmp 63], (some 62), none⟩])
 (.cond (.tmp 62) (.seq (.seqR [⟨.move, [.tmp 4], (some 64), none⟩,
 ⟨.move, [.tmp 0], (some 65), none⟩,
 ⟨.nilCheck, [.tmp 65], (some 66), none⟩,
 ⟨(.fieldAddr 3), [.tmp 66], (some 67), none⟩,
 ⟨(.load false 1), [.tmp 67], (some 68), none⟩,
 ⟨(.build [(.int .i64 0), (.int .i64 0), (.int .u64 0), (.int .u64 0)] [(0, 1), (1, 1), (2, 1)]), [.const (.int .i64 2), .tmp 64, .tmp 68], (some 69), none⟩,
 ⟨(.store 4), [.tmp 2, .tmp 69], none, none⟩,
 ⟨.move, [.const (.bool true)], (some 3), none⟩])
 .ret)
 (.seq (.seqR [⟨(.bin .eql), [.tmp 61, .const (.int .i64 3)], (some 71), none⟩,
 ⟨.move, [.tmp 71], (some 70), none⟩])
 (.cond (.tmp 70) (.seq (.seqR [⟨.move, [.tmp 0], (some 72), none⟩,
 ⟨.nilCheck, [.tmp 72], (some 73), none⟩,
 ⟨(.fieldAddr 0), [.tmp 73], (some 74), none⟩,
 ⟨(.load false 1), [.tmp 74], (some 75), none⟩,
 ⟨(.build [(.int .i64 0), (.int .i64 0), (.int .u64 0), (.int .u64 0)] [(0, 1), (1, 1)]), [.const (.int .i64 1), .tmp 75], (some 76), none⟩,
 ⟨(.store 4), [.tmp 2, .tmp 76], none, none⟩,
 ⟨.move, [.const (.bool true)], (some 3), none⟩])
 .ret)
 (.seq (.seqR [⟨(.bin .eql), [.tmp 61, .const (.int .i64 4)], (some 78), none⟩,
 ⟨.move, [.tmp 78], (some 77), none⟩])
 (.cond (.tmp 77) (.seq (.seqR [⟨.move, [.tmp 5], (some 79), none⟩,
 ⟨.move, [.tmp 0], (some 80), none⟩,
 ⟨.nilCheck, [.tmp 80], (some 81), none⟩,
 ⟨(.fieldAddr 6), [.tmp 81], (some 82), none⟩,
 ⟨(.load false 1), [.tmp 82], (some 83), none⟩,
 ⟨(.callF 64), [.tmp 83], (some 84), none⟩,
 ⟨(.conv .u64), [.tmp 84], (some 85), none⟩,
 ⟨(.build [(.int .i64 0), (.int .i64 0), (.int .u64 0), (.int .u64 0)] [(0, 1), (1, 1), (2, 1)]), [.const (.int .i64 2), .tmp 79, .tmp 85], (some 86), none⟩,
 ⟨(.store 4), [.tmp 2, .tmp 86], none, none⟩,
 ⟨.move, [.const (.bool true)], (some 3), none⟩])
 .ret)
 .skip))))))))
 (.seq (.seqR [⟨.move, [.tmp 0], (some 87), none⟩,
 ⟨.move, [.tmp 0], (some 88), none⟩,
 ⟨.nilCheck, [.tmp 88], (some 89), none⟩,
 ⟨(.fieldAddr 8), [.tmp 89], (some 90), none⟩,
 ⟨(.load false 1), [.tmp 90], (some 91), none⟩,
 ⟨(.conv .u32), [.tmp 91], (some 92), none⟩,
 ⟨(.callF 65), [.tmp 87, .tmp 92], (some 93), none⟩,
 ⟨(.store 4), [.tmp 2, .tmp 93], none, none⟩,
 ⟨.move, [.const (.bool true)], (some 3), none⟩])
 .ret))
 .skip))
 (.seq (.seq (.seqR [⟨.move, [.tmp 0], (some 94), none⟩,
 ⟨.nilCheck, [.tmp 94], (some 95), none⟩,
 ⟨(.fieldAddr 4), [.tmp 95], (some 96), none⟩,
 ⟨(.load false 1), [.tmp 96], (some 97), none⟩])
 (.block 1 (.seq (.seqR [⟨(.bin .eql), [.tmp 97, .const (.int .i64 1)], (some 99), none⟩,
 ⟨.move, [.tmp 99], (some 98), none⟩])
 (.cond (.tmp 98) (.seq (.seqR [⟨.move, [.tmp 0], (some 100), none⟩,
 ⟨.nilCheck, [.tmp 100], (some 101), none⟩,
 ⟨(.fieldAddr 0), [.tmp 101], (some 102), none⟩,
 ⟨(.load false 1), [.tmp 102], (some 103), none⟩,
 ⟨(.build [(.int .i64 0), (.int .i64 0), (.int .u64 0), (.int .u64 0)] [(0, 1), (1, 1)]), [.const (.int .i64 1), .tmp 103], (some 104), none⟩,
 ⟨(.store 4), [.tmp 2, .tmp 104], none, none⟩,
 ⟨.move, [.const (.bool true)], (some 3), none⟩])
 .ret)
 (.seq (.seqR [⟨(.bin .eql), [.tmp 97, .const (.int .i64 2)], (some 106), none⟩,
 ⟨.move, [.tmp 106], (some 105), none⟩])
 (.cond (.tmp 105) (.seq (.seqR [⟨.move, [.tmp 5], (some 107), none⟩,
 ⟨(.build [(.int .i64 0), (.int .i64 0), (.int .u64 0), (.int .u64 0)] [(0, 1), (1, 1)]), [.const (.int .i64 1), .tmp 107], (some 108), none⟩,
 ⟨(.store 4), [.tmp 2, .tmp 108], none, none⟩,
 ⟨.move, [.const (.bool true)], (some 3), none⟩])
 .ret)
 (.seq (.seqR [⟨(.bin .eql), [.tmp 97, .const (.int .i64 3)], (some 110), none⟩,
 ⟨.move, [.tmp 110], (some 109), none⟩])
 (.cond (.tmp 109) (.seq (.seqR [⟨.move, [.tmp 0], (some 111), none⟩,
 ⟨.move, [.tmp 0], (some 112), none⟩,
 ⟨.nilCheck, [.tmp 112], (some 113), none⟩,
 ⟨(.fieldAddr 7), [.tmp 113], (some 114), none⟩,
 ⟨(.load false 1), [.tmp 114], (some 115), none⟩,
 ⟨(.callF 64), [.tmp 115], (some 116), none⟩,
 ⟨(.callF 65), [.tmp 111, .tmp 116], (some 117), none⟩,
 ⟨(.store 4), [.tmp 2, .tmp 117], none, none⟩,
 ⟨.move, [.const (.bool true)], (some 3), none⟩])
 .ret)
 .skip))))))))
 (.seq (.seqR [⟨.move, [.tmp 4], (some 118), none⟩,
 ⟨(.build [(.int .i64 0), (.int .i64 0), (.int .u64 0), (.int .u64 0)] [(0, 1), (1, 1)]), [.const (.int .i64 1), .tmp 118], (some 119), none⟩,
 ⟨(.store 4), [.tmp 2, .tmp 119], none, none⟩,
 ⟨.move, [.const (.bool true)], (some 3), none⟩])
 .ret)))))))), [.cell 2 true 4, .tmp 3]⟩
theorem c34_ok : compFunc Tryz.prog Tryz.f34 = some c34 := by kernel_rfl
theorem c34_body : hasBody Tryz.prog 34 = true := hasBody_of Tryz.func34 (by kernel_rfl)
/-- (*coachyard/coachyardref31.Frame).Over -/
def c35 : PFn := ⟨12, Tr.ofList (List.replicate 12 undefA), (.seq (.seqR [⟨(.new [(.int .i64 0), (.int .u64 0), (.slice none 0 0 false)]), [], (some 2), none⟩,
 ⟨.move, [.const (.bool false)], (some 3), none⟩])
 (.seq (.drawR [⟨⟨.move, [.tmp 0], (some 4), none⟩, false, false, 0, 0⟩,
 ⟨⟨.nilCheck, [.tmp 4], (some 5), none⟩, false, false, 0, 0⟩,
 ⟨⟨(.fieldAddr 11), [.tmp 5], (some 6), none⟩, false, false, 0, 0⟩,
 ⟨⟨(.load true 3), [.tmp 6], (some 7), none⟩, false, false, 0, 0⟩,
 ⟨⟨.move, [.tmp 0], (some 8), none⟩, false, false, 0, 1⟩,
 ⟨⟨.nilCheck, [.tmp 8], (some 9), none⟩, false, false, 0, 1⟩,
 ⟨⟨(.fieldAddr 10), [.tmp 9], (some 10), none⟩, false, false, 0, 1⟩,
 ⟨⟨(.load false 1), [.tmp 10], (some 11), none⟩, false, false, 0, 1⟩,
 ⟨⟨(.store 3), [.tmp 2, .tmp 7], none, none⟩, true, false, 0, 1⟩,
 ⟨⟨.move, [.tmp 11], (some 3), none⟩, false, false, 1, 1⟩])
 .ret)), [.cell 2 true 3, .tmp 3]⟩
theorem c35_ok : compFunc Tryz.prog Tryz.f35 = some c35 := by kernel_rfl
theorem c35_body : hasBody Tryz.prog 35 = true := hasBody_of Tryz.func35 (by kernel_rfl)
/-- (*coachyard/coachyardref31.Frame).Held -/
def c36 : PFn := ⟨26, Tr.ofList (List.replicate 26 undefA), (.seq (.seqR [⟨.move, [.const (.slice none 0 0 false)], (some 2), none⟩])
 (.seq (.seq (.seqR [⟨.move, [.tmp 0], (some 3), none⟩,
 ⟨.nilCheck, [.tmp 3], (some 4), none⟩,
 ⟨(.fieldAddr 10), [.tmp 4], (some 5), none⟩,
 ⟨(.load false 1), [.tmp 5], (some 6), none⟩,
 ⟨.move, [.tmp 6], (some 7), none⟩,
 ⟨.move, [.tmp 0], (some 8), some (7, false)⟩,
 ⟨.nilCheck, [.tmp 8], (some 9), some (7, false)⟩,
 ⟨(.fieldAddr 2), [.tmp 9], (some 10), some (7, false)⟩,
 ⟨(.load false 1), [.tmp 10], (some 11), some (7, false)⟩,
 ⟨.not, [.tmp 11], (some 12), some (7, false)⟩,
 ⟨.move, [.tmp 12], (some 13), some (7, false)⟩,
 ⟨.move, [.tmp 0], (some 14), some (13, true)⟩,
 ⟨.nilCheck, [.tmp 14], (some 15), some (13, true)⟩,
 ⟨(.fieldAddr 9), [.tmp 15], (some 16), some (13, true)⟩,
 ⟨(.load false 1), [.tmp 16], (some 17), some (13, true)⟩,
 ⟨.not, [.tmp 17], (some 18), some (13, true)⟩,
 ⟨.pick, [.tmp 13, .tmp 18, .const (.bool false)], (some 19), some (7, false)⟩,
 ⟨.pick, [.tmp 7, .const (.bool true), .tmp 19], (some 20), none⟩])
 (.cond (.tmp 20) (.seq (.seqR [⟨.move, [.const (.slice none 0 0 false)], (some 2), none⟩])
 .ret)
 .skip))
 (.seq (.seqR [⟨.move, [.tmp 0], (some 21), none⟩,
 ⟨.nilCheck, [.tmp 21], (some 22), none⟩,
 ⟨(.fieldAddr 3), [.tmp 22], (some 23), none⟩,
 ⟨(.load false 1), [.tmp 23], (some 24), none⟩,
 ⟨(.sliceLit 1 [(.int .u64 0)] [(0, 1)]), [.tmp 24], (some 25), none⟩,
 ⟨.move, [.tmp 25], (some 2), none⟩])
 .ret))), [.tmp 2]⟩
theorem c36_ok : compFunc Tryz.prog Tryz.f36 = some c36 := by kernel_rfl
theorem c36_body : hasBody Tryz.prog 36 = true := hasBody_of Tryz.func36 (by kernel_rfl)
/-- (*coachyard/coachyardref31.Frame).Give -/
def c37 : PFn := ⟨48, Tr.ofList (List.replicate 48 undefA), (.seq (.seq (.seqR [⟨.move, [.tmp 0], (some 8), none⟩,
 ⟨.nilCheck, [.tmp 8], (some 9), none⟩,
 ⟨(.fieldAddr 10), [.tmp 9], (some 10), none⟩,
 ⟨(.load false 1), [.tmp 10], (some 11), none⟩])
 (.cond (.tmp 11) .ret
 .skip))
 (.seq (.seq (.seqR [⟨.move, [.tmp 0], (some 12), none⟩,
 ⟨.nilCheck, [.tmp 12], (some 13), none⟩,
 ⟨(.fieldAddr 5), [.tmp 13], (some 14), none⟩,
 ⟨(.load false 1), [.tmp 14], (some 15), none⟩,
 ⟨(.eqPtr true), [.tmp 15, .const (.ptr none)], (some 16), none⟩])
 (.cond (.tmp 16) (.seq (.seqR [⟨.move, [.tmp 0], (some 17), none⟩,
 ⟨.nilCheck, [.tmp 17], (some 18), none⟩,
 ⟨(.fieldAddr 5), [.tmp 18], (some 19), none⟩,
 ⟨(.load false 1), [.tmp 19], (some 20), none⟩,
 ⟨.move, [.tmp 1], (some 21), none⟩,
 ⟨.move, [.tmp 2], (some 22), none⟩,
 ⟨(.callF 66), [.tmp 20, .tmp 21, .tmp 22], (some 23), none⟩])
 (.seq (.seqR [⟨.move, [.tmp 0], (some 25), none⟩,
 ⟨.nilCheck, [.tmp 25], (some 26), none⟩,
 ⟨(.fieldAddr 5), [.tmp 26], (some 27), none⟩,
 ⟨(.load false 1), [.tmp 27], (some 28), none⟩,
 ⟨(.callF 67), [.tmp 28], (some 29), none⟩,
 ⟨.move, [.tmp 29], (some 24), none⟩,
 ⟨(.extract 0), [.tmp 24], (some 30), none⟩,
 ⟨(.extract 1), [.tmp 24], (some 31), none⟩,
 ⟨(.new [(.int .i64 0), (.int .u64 0), (.slice none 0 0 false)]), [], (some 6), none⟩,
 ⟨(.store 3), [.tmp 6, .tmp 30], none, none⟩,
 ⟨.move, [.tmp 31], (some 7), none⟩])
 (.seq (.seq (.seqR [⟨.move, [.tmp 7], (some 32), none⟩])
 (.cond (.tmp 32) (.seqR [⟨.move, [.tmp 0], (some 33), none⟩,
 ⟨(.load true 3), [.tmp 6], (some 34), none⟩,
 ⟨(.callF 68), [.tmp 33, .tmp 34], (some 35), none⟩])
 .skip))
 .ret)))
 .skip))
 (.seq (.seqR [⟨.move, [.tmp 0], (some 36), none⟩,
 ⟨.nilCheck, [.tmp 36], (some 37), none⟩,
 ⟨(.fieldAddr 2), [.tmp 37], (some 38), none⟩,
 ⟨(.load false 1), [.tmp 38], (some 39), none⟩])
 (.cond (.tmp 39) (.seqR [⟨.move, [.tmp 0], (some 40), none⟩,
 ⟨.move, [.tmp 1], (some 41), none⟩,
 ⟨.move, [.tmp 2], (some 42), none⟩,
 ⟨(.callF 69), [.tmp 40, .tmp 41, .tmp 42], (some 43), none⟩])
 (.seqR [⟨.move, [.tmp 0], (some 44), none⟩,
 ⟨.move, [.tmp 1], (some 45), none⟩,
 ⟨.move, [.tmp 2], (some 46), none⟩,
 ⟨(.callF 70), [.tmp 44, .tmp 45, .tmp 46], (some 47), none⟩]))))), []⟩
theorem c37_ok : compFunc Tryz.prog Tryz.f37 = some c37 := by kernel_rfl
theorem c37_body : hasBody Tryz.prog 37 = true := hasBody_of Tryz.func37 (by kernel_rfl)
/-- (coachyard/stack.Pile).Pop$1 -/
def c38 : PFn := ⟨10, Tr.ofList (List.replicate 10 undefA), (.seqR [⟨.move, [.tmp 0], (some 3), none⟩,
 ⟨(.fieldAddr 0), [.tmp 1], (some 4), none⟩,
 ⟨(.load false 1), [.tmp 4], (some 5), none⟩,
 ⟨.move, [.tmp 0], (some 6), none⟩,
 ⟨(.build [(.ptr none)] [(0, 1)]), [.tmp 6], (some 7), none⟩,
 ⟨(.mkFunc (.func 40) 1), [.tmp 7], (some 8), none⟩,
 ⟨(.callF 39), [.tmp 3, .tmp 5, .tmp 8], (some 9), none⟩]), []⟩
theorem c38_ok : compFunc Tryz.prog Tryz.f38 = some c38 := by kernel_rfl
theorem c38_body : hasBody Tryz.prog 38 = true := hasBody_of Tryz.func38 (by kernel_rfl)
/-- (*coachyard/stack.way).load -/
def c39 : PFn := ⟨14, Tr.ofList (List.replicate 14 undefA), (.seqR [⟨.move, [.tmp 0], (some 6), none⟩,
 ⟨.nilCheck, [.tmp 6], (some 7), none⟩,
 ⟨(.fieldAddr 2), [.tmp 7], (some 8), none⟩,
 ⟨(.load false 1), [.tmp 8], (some 9), none⟩,
 ⟨.move, [.tmp 1], (some 10), none⟩,
 ⟨(.build [(.int .i64 0), (.int .i64 0), (.int .u64 0), (.int .u64 0)] [(0, 1), (1, 1)]), [.const (.int .i64 1), .tmp 10], (some 11), none⟩,
 ⟨.move, [.tmp 2], (some 12), none⟩,
 ⟨(.callF 57), [.tmp 9, .tmp 11, .tmp 12], (some 13), none⟩]), []⟩
theorem c39_ok : compFunc Tryz.prog Tryz.f39 = some c39 := by kernel_rfl
theorem c39_body : hasBody Tryz.prog 39 = true := hasBody_of Tryz.func39 (by kernel_rfl)
/-- (coachyard/stack.pop).top -/
def c40 : PFn := ⟨65, Tr.ofList (List.replicate 65 undefA), (.seq (.seqR [⟨.box, [.tmp 0], (some 3), none⟩])
 (.seq (.drawR [⟨⟨(.fieldAddr 0), [.tmp 3], (some 6), none⟩, false, false, 0, 1⟩,
 ⟨⟨(.load false 1), [.tmp 6], (some 7), none⟩, false, false, 0, 1⟩,
 ⟨⟨(.fieldAddr 0), [.tmp 3], (some 8), none⟩, false, false, 0, 2⟩,
 ⟨⟨(.load false 1), [.tmp 8], (some 9), none⟩, false, false, 0, 2⟩,
 ⟨⟨.move, [.tmp 1], (some 10), none⟩, false, false, 0, 1⟩,
 ⟨⟨.move, [.tmp 1], (some 11), none⟩, false, false, 0, 0⟩,
 ⟨⟨(.callF 71), [.tmp 11], (some 12), none⟩, true, false, 0, 1⟩,
 ⟨⟨.nilCheck, [.tmp 7], (some 13), none⟩, false, false, 1, 1⟩,
 ⟨⟨(.fieldAddr 3), [.tmp 13], (some 14), none⟩, false, false, 1, 1⟩,
 ⟨⟨(.store 1), [.tmp 14, .tmp 10], none, none⟩, true, false, 1, 2⟩,
 ⟨⟨.nilCheck, [.tmp 9], (some 15), none⟩, false, false, 2, 2⟩,
 ⟨⟨(.fieldAddr 4), [.tmp 15], (some 16), none⟩, false, false, 2, 2⟩,
 ⟨⟨(.store 1), [.tmp 16, .tmp 12], none, none⟩, true, false, 2, 3⟩])
 (.block 0 (.seq (.seqR [⟨(.fieldAddr 0), [.tmp 3], (some 34), none⟩,
 ⟨(.load false 1), [.tmp 34], (some 35), none⟩,
 ⟨.nilCheck, [.tmp 35], (some 36), none⟩,
 ⟨(.fieldAddr 4), [.tmp 36], (some 37), none⟩,
 ⟨(.load false 1), [.tmp 37], (some 38), none⟩,
 ⟨(.bin .eql), [.tmp 38, .const (.int .u32 0)], (some 39), none⟩,
 ⟨.move, [.tmp 39], (some 33), none⟩])
 (.cond (.tmp 33) (.seqR [⟨(.fieldAddr 0), [.tmp 3], (some 40), none⟩,
 ⟨(.load false 1), [.tmp 40], (some 41), none⟩,
 ⟨.nilCheck, [.tmp 41], (some 42), none⟩,
 ⟨(.fieldAddr 2), [.tmp 42], (some 43), none⟩,
 ⟨(.load false 1), [.tmp 43], (some 44), none⟩,
 ⟨(.callF 53), [.tmp 44, .const (.int .i64 5)], (some 45), none⟩])
 (.seq (.drawR [⟨⟨(.fieldAddr 0), [.tmp 3], (some 47), none⟩, false, false, 0, 0⟩,
 ⟨⟨(.load false 1), [.tmp 47], (some 48), none⟩, false, false, 0, 0⟩,
 ⟨⟨.nilCheck, [.tmp 48], (some 49), none⟩, false, false, 0, 0⟩,
 ⟨⟨(.fieldAddr 0), [.tmp 49], (some 50), none⟩, false, false, 0, 0⟩,
 ⟨⟨(.load true 2), [.tmp 50], (some 51), none⟩, false, false, 0, 0⟩,
 ⟨⟨(.fieldAddr 0), [.tmp 3], (some 52), none⟩, false, false, 0, 0⟩,
 ⟨⟨(.load false 1), [.tmp 52], (some 53), none⟩, false, false, 0, 0⟩,
 ⟨⟨.nilCheck, [.tmp 53], (some 54), none⟩, false, false, 0, 0⟩,
 ⟨⟨(.fieldAddr 4), [.tmp 54], (some 55), none⟩, false, false, 0, 0⟩,
 ⟨⟨(.load false 1), [.tmp 55], (some 56), none⟩, false, false, 0, 0⟩,
 ⟨⟨(.callF 72), [.tmp 51, .tmp 56], (some 57), none⟩, true, false, 0, 1⟩,
 ⟨⟨.not, [.tmp 57], (some 58), none⟩, false, false, 1, 1⟩,
 ⟨⟨.move, [.tmp 58], (some 46), none⟩, false, false, 1, 1⟩])
 (.cond (.tmp 46) (.seqR [⟨(.fieldAddr 0), [.tmp 3], (some 59), none⟩,
 ⟨(.load false 1), [.tmp 59], (some 60), none⟩,
 ⟨.nilCheck, [.tmp 60], (some 61), none⟩,
 ⟨(.fieldAddr 2), [.tmp 61], (some 62), none⟩,
 ⟨(.load false 1), [.tmp 62], (some 63), none⟩,
 ⟨(.callF 53), [.tmp 63, .const (.int .i64 9)], (some 64), none⟩])
 (.drawR [⟨⟨(.fieldAddr 0), [.tmp 3], (some 17), none⟩, false, false, 0, 1⟩,
 ⟨⟨(.load false 1), [.tmp 17], (some 18), none⟩, false, false, 0, 1⟩,
 ⟨⟨(.fieldAddr 0), [.tmp 3], (some 19), none⟩, false, false, 0, 0⟩,
 ⟨⟨(.load false 1), [.tmp 19], (some 20), none⟩, false, false, 0, 0⟩,
 ⟨⟨.nilCheck, [.tmp 20], (some 21), none⟩, false, false, 0, 0⟩,
 ⟨⟨(.fieldAddr 0), [.tmp 21], (some 22), none⟩, false, false, 0, 0⟩,
 ⟨⟨(.load true 2), [.tmp 22], (some 23), none⟩, false, false, 0, 0⟩,
 ⟨⟨(.fieldAddr 0), [.tmp 3], (some 24), none⟩, false, false, 0, 0⟩,
 ⟨⟨(.load false 1), [.tmp 24], (some 25), none⟩, false, false, 0, 0⟩,
 ⟨⟨.nilCheck, [.tmp 25], (some 26), none⟩, false, false, 0, 0⟩,
 ⟨⟨(.fieldAddr 4), [.tmp 26], (some 27), none⟩, false, false, 0, 0⟩,
 ⟨⟨(.load false 1), [.tmp 27], (some 28), none⟩, false, false, 0, 0⟩,
 ⟨⟨(.callF 73), [.tmp 23, .tmp 28], (some 29), none⟩, true, false, 0, 1⟩,
 ⟨⟨(.load true 1), [.tmp 3], (some 30), none⟩, false, false, 0, 1⟩,
 ⟨⟨(.mkFunc (.func 74) 1), [.tmp 30], (some 31), none⟩, false, false, 0, 1⟩,
 ⟨⟨(.callF 39), [.tmp 18, .tmp 29, .tmp 31], (some 32), none⟩, true, false, 1, 2⟩])))))))), []⟩
theorem c40_ok : compFunc Tryz.prog Tryz.f40 = some c40 := by kernel_rfl
theorem c40_body : hasBody Tryz.prog 40 = true := hasBody_of Tryz.func40 (by kernel_rfl)
/-- (coachyard/stack.Pile).check -/
def c41 : PFn := ⟨23, Tr.ofList (List.replicate 23 undefA), (.seq (.seqR [⟨.box, [.tmp 0], (some 2), none⟩,
 ⟨.move, [.const (.int .i64 0)], (some 4), none⟩])
 (.seq (.block 0 (.seq (.seqR [⟨.move, [.tmp 1], (some 6), none⟩,
 ⟨(.eqPtr false), [.tmp 6, .const (.ptr none)], (some 7), none⟩,
 ⟨.move, [.tmp 7], (some 5), none⟩])
 (.cond (.tmp 5) (.seq (.seqR [⟨.move, [.const (.int .i64 1)], (some 4), none⟩])
 .ret)
 (.seq (.seqR [⟨(.load true 2), [.tmp 2], (some 9), none⟩,
 ⟨(.callF 6), [.tmp 9], (some 10), none⟩,
 ⟨.not, [.tmp 10], (some 11), none⟩,
 ⟨.move, [.tmp 11], (some 8), none⟩])
 (.cond (.tmp 8) (.seq (.seqR [⟨.move, [.const (.int .i64 2)], (some 4), none⟩])
 .ret)
 (.seq (.drawR [⟨⟨.move, [.tmp 1], (some 13), none⟩, false, false, 0, 0⟩,
 ⟨⟨(.callF 75), [.tmp 13], (some 14), none⟩, true, false, 0, 1⟩,
 ⟨⟨(.fieldAddr 0), [.tmp 2], (some 15), none⟩, false, false, 0, 1⟩,
 ⟨⟨(.load false 1), [.tmp 15], (some 16), none⟩, false, false, 0, 1⟩,
 ⟨⟨(.fieldAddr 1), [.tmp 2], (some 17), none⟩, false, false, 0, 1⟩,
 ⟨⟨(.load false 1), [.tmp 17], (some 18), none⟩, false, false, 0, 1⟩,
 ⟨⟨(.bin .mul), [.const (.int .i64 3), .tmp 18], (some 19), none⟩, false, false, 0, 1⟩,
 ⟨⟨(.bin .add), [.tmp 16, .tmp 19], (some 20), none⟩, false, false, 0, 1⟩,
 ⟨⟨(.bin .add), [.tmp 20, .const (.int .i64 1)], (some 21), none⟩, false, false, 0, 1⟩,
 ⟨⟨(.bin .leq), [.tmp 14, .tmp 21], (some 22), none⟩, false, false, 1, 1⟩,
 ⟨⟨.move, [.tmp 22], (some 12), none⟩, false, false, 1, 1⟩])
 (.cond (.tmp 12) (.seq (.seqR [⟨.move, [.const (.int .i64 3)], (some 4), none⟩])
 .ret)
 .skip)))))))
 (.seq (.seqR [⟨.move, [.const (.int .i64 0)], (some 4), none⟩])
 .ret))), [.tmp 4]⟩
theorem c41_ok : compFunc Tryz.prog Tryz.f41 = some c41 := by kernel_rfl
theorem c41_body : hasBody Tryz.prog 41 = true := hasBody_of Tryz.func41 (by kernel_rfl)
/-- (*coachyard/cells.Mem).Do -/
def c42 : PFn := ⟨58, Tr.ofList (List.replicate 58 undefA), (.seq (.seqR [⟨.box, [.tmp 1], (some 3), none⟩,
 ⟨.move, [.const (.int .u64 0)], (some 4), none⟩,
 ⟨.move, [.const (.bool false)], (some 5), none⟩,
 ⟨.move, [.const (.int .i64 0)], (some 6), none⟩])
 (.seq (.seq (.seqR [⟨.move, [.tmp 0], (some 11), none⟩,
 ⟨(.eqPtr false), [.tmp 11, .const (.ptr none)], (some 12), none⟩])
 (.cond (.tmp 12) (.seq (.seqR [⟨.move, [.const (.int .u64 0)], (some 4), none⟩,
 ⟨.move, [.const (.bool false)], (some 5), none⟩,
 ⟨.move, [.const (.int .i64 1)], (some 6), none⟩])
 .ret)
 .skip))
 (.seq (.seqR [⟨(.fieldAddr 0), [.tmp 3], (some 13), none⟩,
 ⟨(.load false 1), [.tmp 13], (some 14), none⟩,
 ⟨(.callF 76), [.tmp 14], (some 15), none⟩,
 ⟨.move, [.tmp 15], (some 7), none⟩])
 (.seq (.block 0 (.seq (.seqR [⟨.move, [.tmp 7], (some 17), none⟩,
 ⟨(.eqNil 2 false), [.tmp 17, .const .nilFunc], (some 18), none⟩,
 ⟨.move, [.tmp 18], (some 16), none⟩])
 (.cond (.tmp 16) (.seq (.seqR [⟨.move, [.const (.int .u64 0)], (some 4), none⟩,
 ⟨.move, [.const (.bool false)], (some 5), none⟩,
 ⟨.move, [.const (.int .i64 2)], (some 6), none⟩])
 .ret)
 (.seq (.drawR [⟨⟨(.fieldAddr 1), [.tmp 3], (some 20), none⟩, false, false, 0, 0⟩,
 ⟨⟨(.load false 1), [.tmp 20], (some 21), none⟩, false, false, 0, 0⟩,
 ⟨⟨(.bin .lss), [.tmp 21, .const (.int .i64 0)], (some 22), none⟩, false, false, 0, 0⟩,
 ⟨⟨.move, [.tmp 22], (some 23), none⟩, false, false, 0, 0⟩,
 ⟨⟨(.fieldAddr 1), [.tmp 3], (some 24), some (23, false)⟩, false, false, 0, 0⟩,
 ⟨⟨(.load false 1), [.tmp 24], (some 25), some (23, false)⟩, false, false, 0, 0⟩,
 ⟨⟨.move, [.tmp 0], (some 26), some (23, false)⟩, false, false, 0, 0⟩,
 ⟨⟨.nilCheck, [.tmp 26], (some 27), some (23, false)⟩, false, false, 0, 0⟩,
 ⟨⟨(.fieldAddr 0), [.tmp 27], (some 28), some (23, false)⟩, false, false, 0, 0⟩,
 ⟨⟨(.load false 1), [.tmp 28], (some 29), some (23, false)⟩, false, false, 0, 0⟩,
 ⟨⟨.lenS, [.tmp 29], (some 30), some (23, false)⟩, false, false, 0, 0⟩,
 ⟨⟨(.bin .geq), [.tmp 25, .tmp 30], (some 31), some (23, false)⟩, false, false, 0, 0⟩,
 ⟨⟨.pick, [.tmp 23, .const (.bool true), .tmp 31], (some 32), none⟩, false, false, 0, 0⟩,
 ⟨⟨.move, [.tmp 32], (some 19), none⟩, false, false, 0, 0⟩])
 (.cond (.tmp 19) (.seq (.seqR [⟨.move, [.const (.int .u64 0)], (some 4), none⟩,
 ⟨.move, [.const (.bool false)], (some 5), none⟩,
 ⟨.move, [.const (.int .i64 3)], (some 6), none⟩])
 .ret)
 .skip)))))
 (.seq (.drawR [⟨⟨.move, [.tmp 0], (some 33), none⟩, false, false, 0, 0⟩,
 ⟨⟨.nilCheck, [.tmp 33], (some 34), none⟩, false, false, 0, 0⟩,
 ⟨⟨(.fieldAddr 0), [.tmp 34], (some 35), none⟩, false, false, 0, 0⟩,
 ⟨⟨(.load false 1), [.tmp 35], (some 36), none⟩, false, false, 0, 0⟩,
 ⟨⟨(.fieldAddr 1), [.tmp 3], (some 37), none⟩, false, false, 0, 0⟩,
 ⟨⟨(.load false 1), [.tmp 37], (some 38), none⟩, false, false, 0, 0⟩,
 ⟨⟨(.indexAddrS 1), [.tmp 36, .tmp 38], (some 39), none⟩, false, false, 0, 0⟩,
 ⟨⟨(.load false 1), [.tmp 39], (some 40), none⟩, false, false, 0, 0⟩,
 ⟨⟨.move, [.tmp 40], (some 8), none⟩, false, false, 0, 0⟩])
 (.seq (.seqR [⟨.move, [.tmp 7], (some 42), none⟩,
 ⟨.move, [.tmp 8], (some 43), none⟩,
 ⟨(.load true 4), [.tmp 3], (some 44), none⟩,
 ⟨.callV, [.tmp 42, .tmp 43, .tmp 44], (some 45), none⟩,
 ⟨.move, [.tmp 45], (some 41), none⟩,
 ⟨(.extract 0), [.tmp 41], (some 46), none⟩,
 ⟨(.extract 1), [.tmp 41], (some 47), none⟩,
 ⟨.move, [.tmp 46], (some 9), none⟩,
 ⟨.move, [.tmp 47], (some 10), none⟩])
 (.seq (.drawR [⟨⟨.move, [.tmp 0], (some 48), none⟩, false, false, 0, 0⟩,
 ⟨⟨.nilCheck, [.tmp 48], (some 49), none⟩, false, false, 0, 0⟩,
 ⟨⟨(.fieldAddr 0), [.tmp 49], (some 50), none⟩, false, false, 0, 0⟩,
 ⟨⟨(.load false 1), [.tmp 50], (some 51), none⟩, false, false, 0, 0⟩,
 ⟨⟨(.fieldAddr 1), [.tmp 3], (some 52), none⟩, false, false, 0, 0⟩,
 ⟨⟨(.load false 1), [.tmp 52], (some 53), none⟩, false, false, 0, 0⟩,
 ⟨⟨.move, [.tmp 9], (some 54), none⟩, false, false, 0, 0⟩,
 ⟨⟨(.indexAddrS 1), [.tmp 51, .tmp 53], (some 55), none⟩, false, false, 0, 0⟩,
 ⟨⟨(.store 1), [.tmp 55, .tmp 54], none, none⟩, true, false, 0, 1⟩])
 (.seq (.seqR [⟨.move, [.tmp 8], (some 56), none⟩,
 ⟨.move, [.tmp 10], (some 57), none⟩,
 ⟨.move, [.tmp 56], (some 4), none⟩,
 ⟨.move, [.tmp 57], (some 5), none⟩,
 ⟨.move, [.const (.int .i64 0)], (some 6), none⟩])
 .ret)))))))), [.tmp 4, .tmp 5, .tmp 6]⟩
theorem c42_ok : compFunc Tryz.prog Tryz.f42 = some c42 := by kernel_rfl
theorem c42_body : hasBody Tryz.prog 42 = true := hasBody_of Tryz.func42 (by kernel_rfl)
/-- (coachyard/arena.Arena).Init -/
def c43 : PFn := ⟨72, Tr.ofList (List.replicate 72 undefA), (.seq (.seqR [⟨.box, [.tmp 0], (some 3), none⟩,
 ⟨.move, [.const (.int .i64 0)], (some 6), none⟩])
 (.seq (.seqR [⟨(.load true 2), [.tmp 3], (some 11), none⟩,
 ⟨.move, [.tmp 1], (some 12), none⟩,
 ⟨(.callF 77), [.tmp 11, .tmp 12], (some 13), none⟩,
 ⟨.move, [.tmp 13], (some 7), none⟩])
 (.seq (.seq (.seqR [⟨.move, [.tmp 7], (some 14), none⟩,
 ⟨(.bin .eql), [.tmp 14, .const (.int .i64 1)], (some 15), none⟩])
 (.cond (.tmp 15) (.seq (.seqR [⟨.move, [.tmp 7], (some 16), none⟩,
 ⟨.move, [.tmp 16], (some 6), none⟩])
 .ret)
 .skip))
 (.seq (.seq (.seqR [⟨(.load true 2), [.tmp 3], (some 17), none⟩,
 ⟨(.callF 56), [.tmp 17], (some 18), none⟩,
 ⟨.not, [.tmp 18], (some 19), none⟩,
 ⟨.move, [.tmp 19], (some 20), none⟩,
 ⟨.move, [.tmp 2], (some 21), some (20, false)⟩,
 ⟨(.bin .lss), [.tmp 21, .const (.int .i64 1)], (some 22), some (20, false)⟩,
 ⟨.pick, [.tmp 20, .const (.bool true), .tmp 22], (some 23), none⟩,
 ⟨.move, [.tmp 23], (some 24), none⟩,
 ⟨.move, [.tmp 2], (some 25), some (24, false)⟩,
 ⟨(.fieldAddr 1), [.tmp 3], (some 26), some (24, false)⟩,
 ⟨(.load false 1), [.tmp 26], (some 27), some (24, false)⟩,
 ⟨(.bin .add), [.tmp 27, .const (.int .i64 1)], (some 28), some (24, false)⟩,
 ⟨(.bin .gtr), [.tmp 25, .tmp 28], (some 29), some (24, false)⟩,
 ⟨.pick, [.tmp 24, .const (.bool true), .tmp 29], (some 30), none⟩])
 (.cond (.tmp 30) (.seq (.seqR [⟨.move, [.const (.int .i64 2)], (some 6), none⟩])
 .ret)
 .skip))
 (.seq (.seq (.seqR [⟨.move, [.tmp 7], (some 31), none⟩,
 ⟨(.bin .neq), [.tmp 31, .const (.int .i64 0)], (some 32), none⟩])
 (.cond (.tmp 32) (.seq (.seqR [⟨.move, [.tmp 7], (some 33), none⟩,
 ⟨.move, [.tmp 33], (some 6), none⟩])
 .ret)
 .skip))
 (.seq (.seqR [⟨.move, [.const (.int .u64 0)], (some 8), none⟩])
 (.seq (.seq (.seqR [⟨.move, [.tmp 2], (some 34), none⟩,
 ⟨(.fieldAddr 1), [.tmp 3], (some 35), none⟩,
 ⟨(.load false 1), [.tmp 35], (some 36), none⟩,
 ⟨(.bin .leq), [.tmp 34, .tmp 36], (some 37), none⟩])
 (.cond (.tmp 37) (.seqR [⟨.move, [.tmp 2], (some 38), none⟩,
 ⟨(.conv .u64), [.tmp 38], (some 39), none⟩,
 ⟨.move, [.tmp 39], (some 8), none⟩])
 .skip))
 (.seq (.seqR [⟨.move, [.tmp 1], (some 40), none⟩,
 ⟨(.fieldAddr 0), [.tmp 3], (some 41), none⟩,
 ⟨(.load false 1), [.tmp 41], (some 42), none⟩,
 ⟨.move, [.tmp 8], (some 43), none⟩,
 ⟨(.build [(.int .i64 0), (.int .i64 0), (.int .u64 0), (.int .u64 0)] [(0, 1), (1, 1), (2, 1)]), [.const (.int .i64 2), .tmp 42, .tmp 43], (some 44), none⟩,
 ⟨(.callF 42), [.tmp 40, .tmp 44], (some 45), none⟩])
 (.seq (.seq (.seqR [⟨.move, [.const (.int .i64 1)], (some 9), none⟩])
 (.block 0 (.loop (.seq (.seq (.seqR [⟨.move, [.tmp 9], (some 46), none⟩,
 ⟨(.fieldAddr 1), [.tmp 3], (some 47), none⟩,
 ⟨(.load false 1), [.tmp 47], (some 48), none⟩,
 ⟨(.bin .leq), [.tmp 46, .tmp 48], (some 49), none⟩])
 (.cond (.tmp 49) .skip
 (.exit 0)))
 (.seq (.block 1 (.seq (.seqR [⟨.move, [.const (.int .u64 0)], (some 10), none⟩])
 (.seq (.seq (.seqR [⟨.move, [.tmp 9], (some 52), none⟩,
 ⟨.move, [.tmp 2], (some 53), none⟩,
 ⟨(.bin .geq), [.tmp 52, .tmp 53], (some 54), none⟩,
 ⟨.move, [.tmp 54], (some 55), none⟩,
 ⟨.move, [.tmp 9], (some 56), some (55, true)⟩,
 ⟨(.fieldAddr 1), [.tmp 3], (some 57), some (55, true)⟩,
 ⟨(.load false 1), [.tmp 57], (some 58), some (55, true)⟩,
 ⟨(.bin .lss), [.tmp 56, .tmp 58], (some 59), some (55, true)⟩,
 ⟨.pick, [.tmp 55, .tmp 59, .const (.bool false)], (some 60), none⟩])
 (.cond (.tmp 60) (.seqR [⟨.move, [.tmp 9], (some 61), none⟩,
 ⟨(.conv .u64), [.tmp 61], (some 62), none⟩,
 ⟨(.bin .add), [.tmp 62, .const (.int .u64 1)], (some 63), none⟩,
 ⟨.move, [.tmp 63], (some 10), none⟩])
 .skip))
 (.seqR [⟨.move, [.tmp 1], (some 64), none⟩,
 ⟨(.fieldAddr 0), [.tmp 3], (some 65), none⟩,
 ⟨(.load false 1), [.tmp 65], (some 66), none⟩,
 ⟨.move, [.tmp 9], (some 67), none⟩,
 ⟨(.bin .add), [.tmp 66, .tmp 67], (some 68), none⟩,
 ⟨.move, [.tmp 10], (some 69), none⟩,
 ⟨(.build [(.int .i64 0), (.int .i64 0), (.int .u64 0), (.int .u64 0)] [(0, 1), (1, 1), (2, 1)]), [.const (.int .i64 2), .tmp 68, .tmp 69], (some 70), none⟩,
 ⟨(.callF 42), [.tmp 64, .tmp 70], (some 71), none⟩]))))
 (.seqR [⟨.move, [.tmp 9], (some 50), none⟩,
 ⟨(.bin .add), [.tmp 50, .const (.int .i64 1)], (some 51), none⟩,
 ⟨.move, [.tmp 51], (some 9), none⟩]))))))
 (.seq (.seqR [⟨.move, [.const (.int .i64 0)], (some 6), none⟩])
 .ret)))))))))), [.tmp 6]⟩
theorem c43_ok : compFunc Tryz.prog Tryz.f43 = some c43 := by kernel_rfl
theorem c43_body : hasBody Tryz.prog 43 = true := hasBody_of Tryz.func43 (by kernel_rfl)
end Go.Proofs.YtmgfamnongagbaaGreat
