/- The code of the small machine for some of the program's functions: printed by program; each is what the rules make of the program's own. -/
import Derived.Test.YtfpamakhkkdikaaGreatDoorVx16
import Derived.Test.YtfpamakhkkdikaaGreatDoorProg
import Derived.KernelRfl
namespace Go.Proofs.YtfpamakhkkdikaaGreatDoor
open Go Go.Vx Go.Proofs
/-- coachyard/coachyardlaw14.PoolNil -/
def c3 : PFn := ⟨141, Tr.ofList (List.replicate 141 undefA), (.seq (.seqR [⟨.box, [.tmp 1], (some 3), none⟩,
 ⟨.move, [.const (.bool false)], (some 4), none⟩])
 (.seq (.seq (.seqR [⟨(.callF 6), [], (some 21), none⟩,
 ⟨.not, [.tmp 21], (some 22), none⟩])
 (.cond (.tmp 22) (.seq (.seqR [⟨.move, [.const (.bool false)], (some 4), none⟩])
 .ret)
 .skip))
 (.seq (.seq (.seqR [⟨(.fieldAddr 2), [.tmp 3], (some 23), none⟩,
 ⟨(.load false 1), [.tmp 23], (some 24), none⟩,
 ⟨.lenS, [.tmp 24], (some 25), none⟩,
 ⟨(.bin .gtr), [.tmp 25, .const (.int .i64 100)], (some 26), none⟩])
 (.cond (.tmp 26) (.seq (.seqR [⟨.move, [.const (.bool true)], (some 4), none⟩])
 .ret)
 .skip))
 (.seq (.seqR [⟨.move, [.const (.ptr none)], (some 5), none⟩])
 (.seq (.seqR [⟨(.build [(.int .i64 0), (.int .i64 0), (.int .i64 0), (.int .i64 0)] []), [], (some 28), none⟩,
 ⟨(.callF 7), [.tmp 28], (some 29), none⟩,
 ⟨.move, [.tmp 29], (some 27), none⟩,
 ⟨(.extract 0), [.tmp 27], (some 30), none⟩,
 ⟨(.extract 1), [.tmp 27], (some 31), none⟩,
 ⟨.move, [.tmp 30], (some 6), none⟩,
 ⟨.move, [.tmp 31], (some 7), none⟩])
 (.seq (.seqR [⟨.move, [.tmp 5], (some 33), none⟩,
 ⟨.move, [.tmp 0], (some 34), none⟩,
 ⟨(.load true 3), [.tmp 3], (some 35), none⟩,
 ⟨(.callF 8), [.tmp 33, .tmp 34, .tmp 35], (some 36), none⟩,
 ⟨(.callF 9), [.tmp 36], (some 37), none⟩,
 ⟨.move, [.tmp 37], (some 32), none⟩,
 ⟨(.extract 0), [.tmp 32], (some 38), none⟩,
 ⟨(.extract 1), [.tmp 32], (some 39), none⟩,
 ⟨(.new [(.int .i64 0), (.int .u64 0), (.slice none 0 0 false)]), [], (some 8), none⟩,
 ⟨(.store 3), [.tmp 8, .tmp 38], none, none⟩,
 ⟨.move, [.tmp 39], (some 9), none⟩])
 (.seq (.seqR [⟨.move, [.tmp 5], (some 41), none⟩,
 ⟨.move, [.tmp 0], (some 42), none⟩,
 ⟨(.fieldAddr 1), [.tmp 3], (some 43), none⟩,
 ⟨(.load false 1), [.tmp 43], (some 44), none⟩,
 ⟨(.callF 10), [.tmp 41, .tmp 42, .tmp 44], (some 45), none⟩,
 ⟨(.callF 9), [.tmp 45], (some 46), none⟩,
 ⟨.move, [.tmp 46], (some 40), none⟩,
 ⟨(.extract 0), [.tmp 40], (some 47), none⟩,
 ⟨(.extract 1), [.tmp 40], (some 48), none⟩,
 ⟨(.new [(.int .i64 0), (.int .u64 0), (.slice none 0 0 false)]), [], (some 10), none⟩,
 ⟨(.store 3), [.tmp 10, .tmp 47], none, none⟩,
 ⟨.move, [.tmp 48], (some 11), none⟩])
 (.seq (.seqR [⟨.move, [.tmp 5], (some 50), none⟩,
 ⟨.move, [.tmp 0], (some 51), none⟩,
 ⟨(.fieldAddr 2), [.tmp 3], (some 52), none⟩,
 ⟨(.load false 1), [.tmp 52], (some 53), none⟩,
 ⟨(.callF 11), [.tmp 50, .tmp 51, .tmp 53], (some 54), none⟩,
 ⟨(.callF 9), [.tmp 54], (some 55), none⟩,
 ⟨.move, [.tmp 55], (some 49), none⟩,
 ⟨(.extract 0), [.tmp 49], (some 56), none⟩,
 ⟨(.extract 1), [.tmp 49], (some 57), none⟩,
 ⟨(.new [(.int .i64 0), (.int .u64 0), (.slice none 0 0 false)]), [], (some 12), none⟩,
 ⟨(.store 3), [.tmp 12, .tmp 56], none, none⟩,
 ⟨.move, [.tmp 57], (some 13), none⟩])
 (.seq (.seqR [⟨.move, [.tmp 5], (some 59), none⟩,
 ⟨.move, [.tmp 0], (some 60), none⟩,
 ⟨(.callF 12), [.tmp 59, .tmp 60], (some 61), none⟩,
 ⟨(.callF 9), [.tmp 61], (some 62), none⟩,
 ⟨.move, [.tmp 62], (some 58), none⟩,
 ⟨(.extract 0), [.tmp 58], (some 63), none⟩,
 ⟨(.extract 1), [.tmp 58], (some 64), none⟩,
 ⟨(.new [(.int .i64 0), (.int .u64 0), (.slice none 0 0 false)]), [], (some 14), none⟩,
 ⟨(.store 3), [.tmp 14, .tmp 63], none, none⟩,
 ⟨.move, [.tmp 64], (some 15), none⟩])
 (.seq (.seqR [⟨(.callF 13), [.const (.int .i64 1)], (some 66), none⟩,
 ⟨.move, [.tmp 66], (some 65), none⟩,
 ⟨(.extract 0), [.tmp 65], (some 67), none⟩,
 ⟨(.extract 1), [.tmp 65], (some 68), none⟩,
 ⟨.move, [.tmp 67], (some 16), none⟩,
 ⟨.move, [.tmp 68], (some 17), none⟩])
 (.seq (.seqR [⟨.move, [.tmp 5], (some 70), none⟩,
 ⟨.move, [.tmp 16], (some 71), none⟩,
 ⟨(.callF 14), [.tmp 70, .tmp 71], (some 72), none⟩,
 ⟨.move, [.tmp 72], (some 69), none⟩,
 ⟨(.extract 0), [.tmp 69], (some 73), none⟩,
 ⟨(.extract 1), [.tmp 69], (some 74), none⟩,
 ⟨.move, [.tmp 73], (some 18), none⟩,
 ⟨.move, [.tmp 74], (some 19), none⟩])
 (.seq (.seqR [⟨.move, [.tmp 5], (some 75), none⟩,
 ⟨.move, [.tmp 0], (some 76), none⟩,
 ⟨(.callF 15), [.tmp 75, .tmp 76], (some 77), none⟩,
 ⟨(.new [(.int .i64 0), (.int .i64 0), (.int .i64 0)]), [], (some 20), none⟩,
 ⟨(.store 3), [.tmp 20, .tmp 77], none, none⟩])
 (.seq (.seqR [⟨.move, [.tmp 6], (some 78), none⟩,
 ⟨(.eqPtr false), [.tmp 78, .const (.ptr none)], (some 79), none⟩,
 ⟨.move, [.tmp 79], (some 80), none⟩,
 ⟨.move, [.tmp 7], (some 81), some (80, true)⟩,
 ⟨(.bin .eql), [.tmp 81, .const (.int .i64 2)], (some 82), some (80, true)⟩,
 ⟨.pick, [.tmp 80, .tmp 82, .const (.bool false)], (some 83), none⟩,
 ⟨.move, [.tmp 83], (some 84), none⟩,
 ⟨.move, [.tmp 9], (some 85), some (84, true)⟩,
 ⟨.pick, [.tmp 84, .tmp 85, .const (.bool false)], (some 86), none⟩,
 ⟨.move, [.tmp 86], (some 87), none⟩,
 ⟨(.fieldAddr 0), [.tmp 8], (some 88), some (87, true)⟩,
 ⟨(.load false 1), [.tmp 88], (some 89), some (87, true)⟩,
 ⟨(.bin .eql), [.tmp 89, .const (.int .i64 1)], (some 90), some (87, true)⟩,
 ⟨.pick, [.tmp 87, .tmp 90, .const (.bool false)], (some 91), none⟩,
 ⟨.move, [.tmp 91], (some 92), none⟩,
 ⟨.move, [.tmp 11], (some 93), some (92, true)⟩,
 ⟨.pick, [.tmp 92, .tmp 93, .const (.bool false)], (some 94), none⟩,
 ⟨.move, [.tmp 94], (some 95), none⟩,
 ⟨(.fieldAddr 0), [.tmp 10], (some 96), some (95, true)⟩,
 ⟨(.load false 1), [.tmp 96], (some 97), some (95, true)⟩,
 ⟨(.bin .eql), [.tmp 97, .const (.int .i64 1)], (some 98), some (95, true)⟩,
 ⟨.pick, [.tmp 95, .tmp 98, .const (.bool false)], (some 99), none⟩,
 ⟨.move, [.tmp 99], (some 100), none⟩,
 ⟨.move, [.tmp 13], (some 101), some (100, true)⟩,
 ⟨.pick, [.tmp 100, .tmp 101, .const (.bool false)], (some 102), none⟩,
 ⟨.move, [.tmp 102], (some 103), none⟩,
 ⟨(.fieldAddr 0), [.tmp 12], (some 104), some (103, true)⟩,
 ⟨(.load false 1), [.tmp 104], (some 105), some (103, true)⟩,
 ⟨(.bin .eql), [.tmp 105, .const (.int .i64 1)], (some 106), some (103, true)⟩,
 ⟨.pick, [.tmp 103, .tmp 106, .const (.bool false)], (some 107), none⟩,
 ⟨.move, [.tmp 107], (some 108), none⟩,
 ⟨.move, [.tmp 15], (some 109), some (108, true)⟩,
 ⟨.pick, [.tmp 108, .tmp 109, .const (.bool false)], (some 110), none⟩,
 ⟨.move, [.tmp 110], (some 111), none⟩,
 ⟨(.fieldAddr 0), [.tmp 14], (some 112), some (111, true)⟩,
 ⟨(.load false 1), [.tmp 112], (some 113), some (111, true)⟩,
 ⟨(.bin .eql), [.tmp 113, .const (.int .i64 1)], (some 114), some (111, true)⟩,
 ⟨.pick, [.tmp 111, .tmp 114, .const (.bool false)], (some 115), none⟩,
 ⟨.move, [.tmp 115], (some 116), none⟩,
 ⟨.move, [.tmp 18], (some 117), some (116, true)⟩,
 ⟨.lenS, [.tmp 117], (some 118), some (116, true)⟩,
 ⟨(.bin .eql), [.tmp 118, .const (.int .i64 0)], (some 119), some (116, true)⟩,
 ⟨.pick, [.tmp 116, .tmp 119, .const (.bool false)], (some 120), none⟩,
 ⟨.move, [.tmp 120], (some 121), none⟩,
 ⟨.move, [.tmp 19], (some 122), some (121, true)⟩,
 ⟨(.bin .eql), [.tmp 122, .const (.int .i64 1)], (some 123), some (121, true)⟩,
 ⟨.pick, [.tmp 121, .tmp 123, .const (.bool false)], (some 124), none⟩,
 ⟨.move, [.tmp 124], (some 125), none⟩,
 ⟨.move, [.tmp 5], (some 126), some (125, true)⟩,
 ⟨(.callF 16), [.tmp 126], (some 127), some (125, true)⟩,
 ⟨(.callF 17), [.tmp 127], (some 128), some (125, true)⟩,
 ⟨(.bin .eql), [.tmp 128, .const (.int .i64 0)], (some 129), some (125, true)⟩,
 ⟨.pick, [.tmp 125, .tmp 129, .const (.bool false)], (some 130), none⟩,
 ⟨.move, [.tmp 130], (some 131), none⟩,
 ⟨(.fieldAddr 1), [.tmp 20], (some 132), some (131, true)⟩,
 ⟨(.load false 1), [.tmp 132], (some 133), some (131, true)⟩,
 ⟨(.bin .eql), [.tmp 133, .const (.int .i64 0)], (some 134), some (131, true)⟩,
 ⟨.pick, [.tmp 131, .tmp 134, .const (.bool false)], (some 135), none⟩,
 ⟨.move, [.tmp 135], (some 136), none⟩,
 ⟨(.fieldAddr 2), [.tmp 20], (some 137), some (136, true)⟩,
 ⟨(.load false 1), [.tmp 137], (some 138), some (136, true)⟩,
 ⟨(.bin .eql), [.tmp 138, .const (.int .i64 0)], (some 139), some (136, true)⟩,
 ⟨.pick, [.tmp 136, .tmp 139, .const (.bool false)], (some 140), none⟩,
 ⟨.move, [.tmp 140], (some 4), none⟩])
 .ret))))))))))))), [.tmp 4]⟩
theorem c3_ok : compFunc Tryz.prog Tryz.f3 = some c3 := by kernel_rfl
theorem c3_body : hasBody Tryz.prog 3 = true := hasBody_of Tryz.func3 (by kernel_rfl)
/-- coachyard/coachyardlaw19.YardNil -/
def c4 : PFn := ⟨121, Tr.ofList (List.replicate 121 undefA), (.seq (.seqR [⟨.box, [.tmp 0], (some 2), none⟩,
 ⟨.box, [.tmp 1], (some 3), none⟩,
 ⟨.move, [.const (.bool false)], (some 4), none⟩])
 (.seq (.seq (.seqR [⟨(.callF 18), [], (some 13), none⟩,
 ⟨.not, [.tmp 13], (some 14), none⟩])
 (.cond (.tmp 14) (.seq (.seqR [⟨.move, [.const (.bool false)], (some 4), none⟩])
 .ret)
 .skip))
 (.seq (.seq (.seqR [⟨(.fieldAddr 2), [.tmp 2], (some 15), none⟩,
 ⟨(.fieldAddr 2), [.tmp 15], (some 16), none⟩,
 ⟨(.load false 1), [.tmp 16], (some 17), none⟩,
 ⟨.lenS, [.tmp 17], (some 18), none⟩,
 ⟨(.bin .gtr), [.tmp 18, .const (.int .i64 70)], (some 19), none⟩])
 (.cond (.tmp 19) (.seq (.seqR [⟨.move, [.const (.bool true)], (some 4), none⟩])
 .ret)
 .skip))
 (.seq (.seqR [⟨.move, [.const (.ptr none)], (some 5), none⟩])
 (.seq (.seqR [⟨.move, [.tmp 5], (some 21), none⟩,
 ⟨(.callF 19), [.tmp 21, .const (.int .i64 9)], (some 22), none⟩,
 ⟨.move, [.tmp 22], (some 20), none⟩,
 ⟨(.extract 0), [.tmp 20], (some 23), none⟩,
 ⟨(.extract 1), [.tmp 20], (some 24), none⟩,
 ⟨.move, [.tmp 23], (some 6), none⟩,
 ⟨.move, [.tmp 24], (some 7), none⟩])
 (.seq (.seqR [⟨.move, [.tmp 5], (some 26), none⟩,
 ⟨(.callF 20), [.tmp 26], (some 27), none⟩,
 ⟨.move, [.tmp 27], (some 25), none⟩,
 ⟨(.extract 0), [.tmp 25], (some 28), none⟩,
 ⟨(.extract 1), [.tmp 25], (some 29), none⟩,
 ⟨.move, [.tmp 28], (some 8), none⟩,
 ⟨.move, [.tmp 29], (some 9), none⟩])
 (.seq (.seqR [⟨.move, [.const (.ptr none)], (some 10), none⟩])
 (.seq (.seq (.seqR [⟨.move, [.tmp 5], (some 30), none⟩,
 ⟨(.fieldAddr 1), [.tmp 2], (some 31), none⟩,
 ⟨(.load false 1), [.tmp 31], (some 32), none⟩,
 ⟨(.fieldAddr 2), [.tmp 2], (some 33), none⟩,
 ⟨(.load true 3), [.tmp 33], (some 34), none⟩,
 ⟨(.callF 21), [.tmp 30, .tmp 32, .tmp 34], (some 35), none⟩,
 ⟨(.bin .neq), [.tmp 35, .const (.int .i64 1)], (some 36), none⟩,
 ⟨.move, [.tmp 36], (some 37), none⟩,
 ⟨.move, [.tmp 5], (some 38), some (37, false)⟩,
 ⟨(.fieldAddr 1), [.tmp 2], (some 39), some (37, false)⟩,
 ⟨(.load false 1), [.tmp 39], (some 40), some (37, false)⟩,
 ⟨(.callF 22), [.tmp 38, .tmp 40], (some 41), some (37, false)⟩,
 ⟨(.bin .neq), [.tmp 41, .const (.int .i64 1)], (some 42), some (37, false)⟩,
 ⟨.pick, [.tmp 37, .const (.bool true), .tmp 42], (some 43), none⟩,
 ⟨.move, [.tmp 43], (some 44), none⟩,
 ⟨.move, [.tmp 5], (some 45), some (44, false)⟩,
 ⟨(.load true 5), [.tmp 2], (some 46), some (44, false)⟩,
 ⟨(.callF 23), [.tmp 45, .tmp 46], (some 47), some (44, false)⟩,
 ⟨(.bin .neq), [.tmp 47, .const (.int .i64 1)], (some 48), some (44, false)⟩,
 ⟨.pick, [.tmp 44, .const (.bool true), .tmp 48], (some 49), none⟩,
 ⟨.move, [.tmp 49], (some 50), none⟩,
 ⟨.move, [.tmp 5], (some 51), some (50, false)⟩,
 ⟨(.load true 5), [.tmp 2], (some 52), some (50, false)⟩,
 ⟨(.sliceLit 1 [(.int .i64 0), (.int .i64 0), (.int .i64 0), (.int .u64 0), (.slice none 0 0 false)] [(0, 5)]), [.tmp 52], (some 53), some (50, false)⟩,
 ⟨(.callF 24), [.tmp 51, .tmp 53], (some 54), some (50, false)⟩,
 ⟨(.bin .neq), [.tmp 54, .const (.int .i64 0)], (some 55), some (50, false)⟩,
 ⟨.pick, [.tmp 50, .const (.bool true), .tmp 55], (some 56), none⟩,
 ⟨.move, [.tmp 56], (some 57), none⟩,
 ⟨.move, [.tmp 6], (some 58), some (57, false)⟩,
 ⟨(.bin .neq), [.tmp 58, .const (.int .i64 0)], (some 59), some (57, false)⟩,
 ⟨.pick, [.tmp 57, .const (.bool true), .tmp 59], (some 60), none⟩,
 ⟨.move, [.tmp 60], (some 61), none⟩,
 ⟨.move, [.tmp 7], (some 62), some (61, false)⟩,
 ⟨(.bin .neq), [.tmp 62, .const (.int .i64 1)], (some 63), some (61, false)⟩,
 ⟨.pick, [.tmp 61, .const (.bool true), .tmp 63], (some 64), none⟩,
 ⟨.move, [.tmp 64], (some 65), none⟩,
 ⟨.move, [.tmp 8], (some 66), some (65, false)⟩,
 ⟨.lenS, [.tmp 66], (some 67), some (65, false)⟩,
 ⟨(.bin .neq), [.tmp 67, .const (.int .i64 0)], (some 68), some (65, false)⟩,
 ⟨.pick, [.tmp 65, .const (.bool true), .tmp 68], (some 69), none⟩,
 ⟨.move, [.tmp 69], (some 70), none⟩,
 ⟨.move, [.tmp 9], (some 71), some (70, false)⟩,
 ⟨(.bin .neq), [.tmp 71, .const (.int .i64 1)], (some 72), some (70, false)⟩,
 ⟨.pick, [.tmp 70, .const (.bool true), .tmp 72], (some 73), none⟩,
 ⟨.move, [.tmp 73], (some 74), none⟩,
 ⟨.move, [.tmp 5], (some 75), some (74, false)⟩,
 ⟨(.callF 25), [.tmp 75], (some 76), some (74, false)⟩,
 ⟨.pick, [.tmp 74, .const (.bool true), .tmp 76], (some 77), none⟩,
 ⟨.move, [.tmp 77], (some 78), none⟩,
 ⟨.move, [.tmp 5], (some 79), some (78, false)⟩,
 ⟨(.callF 26), [.tmp 79], (some 80), some (78, false)⟩,
 ⟨.lenS, [.tmp 80], (some 81), some (78, false)⟩,
 ⟨(.bin .neq), [.tmp 81, .const (.int .i64 0)], (some 82), some (78, false)⟩,
 ⟨.pick, [.tmp 78, .const (.bool true), .tmp 82], (some 83), none⟩,
 ⟨.move, [.tmp 83], (some 84), none⟩,
 ⟨.move, [.tmp 5], (some 85), some (84, false)⟩,
 ⟨(.callF 27), [.tmp 85], (some 86), some (84, false)⟩,
 ⟨.lenS, [.tmp 86], (some 87), some (84, false)⟩,
 ⟨(.bin .neq), [.tmp 87, .const (.int .i64 0)], (some 88), some (84, false)⟩,
 ⟨.pick, [.tmp 84, .const (.bool true), .tmp 88], (some 89), none⟩,
 ⟨.move, [.tmp 89], (some 90), none⟩,
 ⟨.move, [.tmp 5], (some 91), some (90, false)⟩,
 ⟨(.callF 28), [.tmp 91], (some 92), some (90, false)⟩,
 ⟨(.eqPtr true), [.tmp 92, .const (.ptr none)], (some 93), some (90, false)⟩,
 ⟨.pick, [.tmp 90, .const (.bool true), .tmp 93], (some 94), none⟩,
 ⟨.move, [.tmp 94], (some 95), none⟩,
 ⟨.move, [.tmp 5], (some 96), some (95, false)⟩,
 ⟨(.callF 29), [.tmp 96], (some 97), some (95, false)⟩,
 ⟨(.callF 30), [.tmp 97], (some 98), some (95, false)⟩,
 ⟨.move, [.tmp 10], (some 99), some (95, false)⟩,
 ⟨(.eqPtr true), [.tmp 98, .tmp 99], (some 100), some (95, false)⟩,
 ⟨.pick, [.tmp 95, .const (.bool true), .tmp 100], (some 101), none⟩])
 (.cond (.tmp 101) (.seq (.seqR [⟨.move, [.const (.bool false)], (some 4), none⟩])
 .ret)
 .skip))
 (.seq (.seq (.seqR [⟨(.load true 4), [.tmp 3], (some 102), none⟩,
 ⟨(.callF 31), [.tmp 102], (some 103), none⟩,
 ⟨(.bin .eql), [.tmp 103, .const (.int .i64 0)], (some 104), none⟩])
 (.cond (.tmp 104) (.seq (.seqR [⟨.move, [.const (.bool true)], (some 4), none⟩])
 .ret)
 .skip))
 (.seq (.seqR [⟨(.load true 4), [.tmp 3], (some 106), none⟩,
 ⟨(.callF 32), [.tmp 106], (some 107), none⟩,
 ⟨.move, [.tmp 107], (some 105), none⟩,
 ⟨(.extract 0), [.tmp 105], (some 108), none⟩,
 ⟨(.extract 1), [.tmp 105], (some 109), none⟩,
 ⟨.move, [.tmp 108], (some 11), none⟩,
 ⟨.move, [.tmp 109], (some 12), none⟩])
 (.seq (.seqR [⟨.move, [.tmp 11], (some 110), none⟩,
 ⟨(.eqPtr false), [.tmp 110, .const (.ptr none)], (some 111), none⟩,
 ⟨.move, [.tmp 111], (some 112), none⟩,
 ⟨.move, [.tmp 12], (some 113), some (112, true)⟩,
 ⟨(.bin .eql), [.tmp 113, .const (.int .i64 2)], (some 114), some (112, true)⟩,
 ⟨.pick, [.tmp 112, .tmp 114, .const (.bool false)], (some 115), none⟩,
 ⟨.move, [.tmp 115], (some 116), none⟩,
 ⟨(.load true 4), [.tmp 3], (some 117), some (116, true)⟩,
 ⟨(.callF 33), [.tmp 117], (some 118), some (116, true)⟩,
 ⟨(.bin .eql), [.tmp 118, .const (.int .i64 0)], (some 119), some (116, true)⟩,
 ⟨.pick, [.tmp 116, .tmp 119, .const (.bool false)], (some 120), none⟩,
 ⟨.move, [.tmp 120], (some 4), none⟩])
 .ret))))))))))), [.tmp 4]⟩
theorem c4_ok : compFunc Tryz.prog Tryz.f4 = some c4 := by kernel_rfl
theorem c4_body : hasBody Tryz.prog 4 = true := hasBody_of Tryz.func4 (by kernel_rfl)
/-- coachyard/coachyardlaw14.awake -/
def c6 : PFn := ⟨99, Tr.ofList (List.replicate 99 undefA), (.seq (.seqR [⟨.move, [.const (.bool false)], (some 0), none⟩])
 (.seq (.seqR [⟨(.build [(.int .i64 0), (.int .i64 0), (.int .i64 0), (.int .i64 0)] [(0, 1), (2, 1), (3, 1)]), [.const (.int .i64 2), .const (.int .i64 4), .const (.int .i64 3)], (some 14), none⟩,
 ⟨(.callF 7), [.tmp 14], (some 15), none⟩,
 ⟨.move, [.tmp 15], (some 13), none⟩,
 ⟨(.extract 0), [.tmp 13], (some 16), none⟩,
 ⟨(.extract 1), [.tmp 13], (some 17), none⟩,
 ⟨.move, [.tmp 16], (some 1), none⟩,
 ⟨.move, [.tmp 17], (some 2), none⟩])
 (.seq (.seqR [⟨.move, [.tmp 1], (some 19), none⟩,
 ⟨(.callF 16), [.tmp 19], (some 20), none⟩,
 ⟨(.callF 37), [.tmp 20], (some 21), none⟩,
 ⟨.move, [.tmp 21], (some 18), none⟩,
 ⟨(.extract 0), [.tmp 18], (some 22), none⟩,
 ⟨(.extract 1), [.tmp 18], (some 23), none⟩,
 ⟨.move, [.tmp 22], (some 3), none⟩,
 ⟨.move, [.tmp 23], (some 4), none⟩])
 (.seq (.seqR [⟨.move, [.tmp 3], (some 25), none⟩,
 ⟨(.callF 38), [.tmp 25, .const (.int .i64 2)], (some 26), none⟩,
 ⟨.move, [.tmp 26], (some 24), none⟩,
 ⟨(.extract 0), [.tmp 24], (some 27), none⟩,
 ⟨(.extract 1), [.tmp 24], (some 28), none⟩,
 ⟨.move, [.tmp 27], (some 5), none⟩,
 ⟨.move, [.tmp 28], (some 6), none⟩])
 (.seq (.seq (.seqR [⟨.move, [.tmp 2], (some 29), none⟩,
 ⟨(.bin .neq), [.tmp 29, .const (.int .i64 0)], (some 30), none⟩,
 ⟨.move, [.tmp 30], (some 31), none⟩,
 ⟨.move, [.tmp 4], (some 32), some (31, false)⟩,
 ⟨(.bin .neq), [.tmp 32, .const (.int .i64 0)], (some 33), some (31, false)⟩,
 ⟨.pick, [.tmp 31, .const (.bool true), .tmp 33], (some 34), none⟩,
 ⟨.move, [.tmp 34], (some 35), none⟩,
 ⟨.move, [.tmp 6], (some 36), some (35, false)⟩,
 ⟨(.bin .neq), [.tmp 36, .const (.int .i64 0)], (some 37), some (35, false)⟩,
 ⟨.pick, [.tmp 35, .const (.bool true), .tmp 37], (some 38), none⟩])
 (.cond (.tmp 38) (.seq (.seqR [⟨.move, [.const (.bool false)], (some 0), none⟩])
 .ret)
 .skip))
 (.seq (.seqR [⟨.move, [.tmp 5], (some 39), none⟩,
 ⟨.move, [.tmp 1], (some 40), none⟩,
 ⟨(.callF 10), [.tmp 40, .const (.int .i64 0), .const (.int .u64 5)], (some 41), none⟩,
 ⟨(.callF 39), [.tmp 39, .const (.int .i64 0), .tmp 41], (some 42), none⟩])
 (.seq (.seqR [⟨.move, [.tmp 5], (some 43), none⟩,
 ⟨(.callF 40), [.tmp 43, .const (.int .i64 0), .const (.int .i64 60)], (some 44), none⟩])
 (.seq (.seqR [⟨.move, [.tmp 5], (some 46), none⟩,
 ⟨(.callF 41), [.tmp 46, .const (.int .i64 0)], (some 47), none⟩,
 ⟨.move, [.tmp 47], (some 45), none⟩,
 ⟨(.extract 0), [.tmp 45], (some 48), none⟩,
 ⟨(.extract 1), [.tmp 45], (some 49), none⟩,
 ⟨(.new [(.int .i64 0), (.int .u64 0), (.slice none 0 0 false)]), [], (some 7), none⟩,
 ⟨(.store 3), [.tmp 7, .tmp 48], none, none⟩,
 ⟨.move, [.tmp 49], (some 8), none⟩])
 (.seq (.seqR [⟨.move, [.tmp 5], (some 50), none⟩,
 ⟨.move, [.tmp 1], (some 51), none⟩,
 ⟨(.callF 11), [.tmp 51, .const (.int .i64 1), .const (.slice none 0 0 false)], (some 52), none⟩,
 ⟨(.callF 39), [.tmp 50, .const (.int .i64 1), .tmp 52], (some 53), none⟩])
 (.seq (.seqR [⟨.move, [.tmp 5], (some 54), none⟩,
 ⟨(.callF 40), [.tmp 54, .const (.int .i64 1), .const (.int .i64 60)], (some 55), none⟩])
 (.seq (.seqR [⟨.move, [.tmp 5], (some 57), none⟩,
 ⟨(.callF 41), [.tmp 57, .const (.int .i64 1)], (some 58), none⟩,
 ⟨.move, [.tmp 58], (some 56), none⟩,
 ⟨(.extract 0), [.tmp 56], (some 59), none⟩,
 ⟨(.extract 1), [.tmp 56], (some 60), none⟩,
 ⟨(.new [(.int .i64 0), (.int .u64 0), (.slice none 0 0 false)]), [], (some 9), none⟩,
 ⟨(.store 3), [.tmp 9, .tmp 59], none, none⟩,
 ⟨.move, [.tmp 60], (some 10), none⟩])
 (.seq (.seqR [⟨.move, [.tmp 5], (some 61), none⟩,
 ⟨.move, [.tmp 1], (some 62), none⟩,
 ⟨(.callF 11), [.tmp 62, .const (.int .i64 1), .const (.slice none 0 0 false)], (some 63), none⟩,
 ⟨(.callF 39), [.tmp 61, .const (.int .i64 1), .tmp 63], (some 64), none⟩])
 (.seq (.seqR [⟨.move, [.tmp 5], (some 65), none⟩,
 ⟨(.callF 40), [.tmp 65, .const (.int .i64 1), .const (.int .i64 60)], (some 66), none⟩])
 (.seq (.seqR [⟨.move, [.tmp 5], (some 68), none⟩,
 ⟨(.callF 41), [.tmp 68, .const (.int .i64 1)], (some 69), none⟩,
 ⟨.move, [.tmp 69], (some 67), none⟩,
 ⟨(.extract 0), [.tmp 67], (some 70), none⟩,
 ⟨(.extract 1), [.tmp 67], (some 71), none⟩,
 ⟨(.new [(.int .i64 0), (.int .u64 0), (.slice none 0 0 false)]), [], (some 11), none⟩,
 ⟨(.store 3), [.tmp 11, .tmp 70], none, none⟩,
 ⟨.move, [.tmp 71], (some 12), none⟩])
 (.seq (.seqR [⟨.move, [.tmp 8], (some 72), none⟩,
 ⟨.move, [.tmp 72], (some 73), none⟩,
 ⟨(.fieldAddr 0), [.tmp 7], (some 74), some (73, true)⟩,
 ⟨(.load false 1), [.tmp 74], (some 75), some (73, true)⟩,
 ⟨(.bin .eql), [.tmp 75, .const (.int .i64 0)], (some 76), some (73, true)⟩,
 ⟨.pick, [.tmp 73, .tmp 76, .const (.bool false)], (some 77), none⟩,
 ⟨.move, [.tmp 77], (some 78), none⟩,
 ⟨.move, [.tmp 10], (some 79), some (78, true)⟩,
 ⟨.pick, [.tmp 78, .tmp 79, .const (.bool false)], (some 80), none⟩,
 ⟨.move, [.tmp 80], (some 81), none⟩,
 ⟨(.fieldAddr 0), [.tmp 9], (some 82), some (81, true)⟩,
 ⟨(.load false 1), [.tmp 82], (some 83), some (81, true)⟩,
 ⟨(.bin .eql), [.tmp 83, .const (.int .i64 0)], (some 84), some (81, true)⟩,
 ⟨.pick, [.tmp 81, .tmp 84, .const (.bool false)], (some 85), none⟩,
 ⟨.move, [.tmp 85], (some 86), none⟩,
 ⟨(.fieldAddr 1), [.tmp 9], (some 87), some (86, true)⟩,
 ⟨(.load false 1), [.tmp 87], (some 88), some (86, true)⟩,
 ⟨(.bin .eql), [.tmp 88, .const (.int .u64 5)], (some 89), some (86, true)⟩,
 ⟨.pick, [.tmp 86, .tmp 89, .const (.bool false)], (some 90), none⟩,
 ⟨.move, [.tmp 90], (some 91), none⟩,
 ⟨.move, [.tmp 12], (some 92), some (91, true)⟩,
 ⟨.pick, [.tmp 91, .tmp 92, .const (.bool false)], (some 93), none⟩,
 ⟨.move, [.tmp 93], (some 94), none⟩,
 ⟨(.fieldAddr 0), [.tmp 11], (some 95), some (94, true)⟩,
 ⟨(.load false 1), [.tmp 95], (some 96), some (94, true)⟩,
 ⟨(.bin .eql), [.tmp 96, .const (.int .i64 5)], (some 97), some (94, true)⟩,
 ⟨.pick, [.tmp 94, .tmp 97, .const (.bool false)], (some 98), none⟩,
 ⟨.move, [.tmp 98], (some 0), none⟩])
 .ret))))))))))))))), [.tmp 0]⟩
theorem c6_ok : compFunc Tryz.prog Tryz.f6 = some c6 := by kernel_rfl
theorem c6_body : hasBody Tryz.prog 6 = true := hasBody_of Tryz.func6 (by kernel_rfl)
/-- coachyard/pool.New -/
def c7 : PFn := ⟨17, Tr.ofList (List.replicate 17 undefA), (.seq (.seqR [⟨.box, [.tmp 0], (some 1), none⟩,
 ⟨.move, [.const (.ptr none)], (some 2), none⟩,
 ⟨.move, [.const (.int .i64 0)], (some 3), none⟩])
 (.seq (.seqR [⟨(.load true 4), [.tmp 1], (some 7), none⟩,
 ⟨(.callF 42), [.tmp 7], (some 8), none⟩,
 ⟨.move, [.tmp 8], (some 6), none⟩,
 ⟨(.extract 0), [.tmp 6], (some 9), none⟩,
 ⟨(.extract 1), [.tmp 6], (some 10), none⟩,
 ⟨(.new [(.int .i64 0), (.int .i64 0), (.int .i64 0), (.int .i64 0)]), [], (some 4), none⟩,
 ⟨(.store 4), [.tmp 4, .tmp 9], none, none⟩,
 ⟨.move, [.tmp 10], (some 5), none⟩])
 (.seq (.seq (.seqR [⟨.move, [.tmp 5], (some 11), none⟩,
 ⟨(.bin .neq), [.tmp 11, .const (.int .i64 0)], (some 12), none⟩])
 (.cond (.tmp 12) (.seq (.seqR [⟨.move, [.tmp 5], (some 13), none⟩,
 ⟨.move, [.const (.ptr none)], (some 2), none⟩,
 ⟨.move, [.tmp 13], (some 3), none⟩])
 .ret)
 .skip))
 (.seq (.seqR [⟨(.load true 4), [.tmp 4], (some 14), none⟩,
 ⟨(.build [(.int .i64 0), (.int .i64 0), (.int .i64 0), (.int .i64 0)] [(0, 4)]), [.tmp 14], (some 15), none⟩,
 ⟨.box, [.tmp 15], (some 16), none⟩,
 ⟨.move, [.tmp 16], (some 2), none⟩,
 ⟨.move, [.const (.int .i64 0)], (some 3), none⟩])
 .ret)))), [.tmp 2, .tmp 3]⟩
theorem c7_ok : compFunc Tryz.prog Tryz.f7 = some c7 := by kernel_rfl
theorem c7_body : hasBody Tryz.prog 7 = true := hasBody_of Tryz.func7 (by kernel_rfl)
/-- (*coachyard/pool.Pool).Call -/
def c8 : PFn := ⟨35, Tr.ofList (List.replicate 35 undefA), (.seq (.seqR [⟨.box, [.tmp 2], (some 5), none⟩,
 ⟨.move, [.const (.ptr none)], (some 6), none⟩])
 (.seq (.seqR [⟨(.build [.nilFunc, .nilFunc, .nilFunc, .nilFunc] [(1, 1), (2, 1), (3, 1)]), [.const (.func (.func 43) [] []), .const (.func (.func 44) [] []), .const (.func (.func 45) [] [])], (some 8), none⟩,
 ⟨(.new [.nilFunc, .nilFunc, .nilFunc, .nilFunc]), [], (some 7), none⟩,
 ⟨(.store 4), [.tmp 7, .tmp 8], none, none⟩])
 (.seq (.seq (.seqR [⟨.move, [.tmp 0], (some 9), none⟩,
 ⟨(.eqPtr true), [.tmp 9, .const (.ptr none)], (some 10), none⟩,
 ⟨.move, [.tmp 10], (some 11), none⟩,
 ⟨(.fieldAddr 0), [.tmp 5], (some 12), some (11, true)⟩,
 ⟨(.load false 1), [.tmp 12], (some 13), some (11, true)⟩,
 ⟨(.bin .lss), [.tmp 13, .const (.int .i64 1)], (some 14), some (11, true)⟩,
 ⟨.move, [.tmp 14], (some 15), some (11, true)⟩,
 ⟨(.fieldAddr 0), [.tmp 5], (some 16), some (15, false)⟩,
 ⟨(.load false 1), [.tmp 16], (some 17), some (15, false)⟩,
 ⟨(.bin .geq), [.tmp 17, .const (.int .i64 4)], (some 18), some (15, false)⟩,
 ⟨.pick, [.tmp 15, .const (.bool true), .tmp 18], (some 19), some (11, true)⟩,
 ⟨.pick, [.tmp 11, .tmp 19, .const (.bool false)], (some 20), none⟩])
 (.cond (.tmp 20) (.seq (.seqR [⟨(.callF 46), [.const (.func (.func 47) [] [])], (some 21), none⟩,
 ⟨.move, [.tmp 21], (some 6), none⟩])
 .ret)
 .skip))
 (.seq (.seq (.seqR [⟨.move, [.tmp 0], (some 22), none⟩,
 ⟨(.eqPtr false), [.tmp 22, .const (.ptr none)], (some 23), none⟩])
 (.cond (.tmp 23) (.seq (.seqR [⟨.move, [.tmp 0], (some 24), none⟩,
 ⟨.move, [.tmp 1], (some 25), none⟩,
 ⟨(.callF 12), [.tmp 24, .tmp 25], (some 26), none⟩,
 ⟨.move, [.tmp 26], (some 6), none⟩])
 .ret)
 .skip))
 (.seq (.drawR [⟨⟨(.fieldAddr 0), [.tmp 5], (some 27), none⟩, false, false, 0, 0⟩,
 ⟨⟨(.load false 1), [.tmp 27], (some 28), none⟩, false, false, 0, 0⟩,
 ⟨⟨(.indexAddrA 4 1), [.tmp 7, .tmp 28], (some 29), none⟩, false, false, 0, 0⟩,
 ⟨⟨(.load false 1), [.tmp 29], (some 30), none⟩, false, false, 0, 0⟩,
 ⟨⟨.move, [.tmp 0], (some 31), none⟩, false, false, 0, 0⟩,
 ⟨⟨.move, [.tmp 1], (some 32), none⟩, false, false, 0, 0⟩,
 ⟨⟨(.load true 3), [.tmp 5], (some 33), none⟩, false, false, 0, 0⟩,
 ⟨⟨.callV, [.tmp 30, .tmp 31, .tmp 32, .tmp 33], (some 34), none⟩, true, false, 0, 1⟩,
 ⟨⟨.move, [.tmp 34], (some 6), none⟩, false, false, 1, 1⟩])
 .ret))))), [.tmp 6]⟩
theorem c8_ok : compFunc Tryz.prog Tryz.f8 = some c8 := by kernel_rfl
theorem c8_body : hasBody Tryz.prog 8 = true := hasBody_of Tryz.func8 (by kernel_rfl)
/-- (*coachyard/walk.Walk).Result -/
def c9 : PFn := ⟨24, Tr.ofList (List.replicate 24 undefA), (.seq (.seqR [⟨(.new [(.int .i64 0), (.int .u64 0), (.slice none 0 0 false)]), [], (some 2), none⟩,
 ⟨.move, [.const (.bool false)], (some 3), none⟩])
 (.seq (.seq (.seqR [⟨.move, [.tmp 0], (some 5), none⟩,
 ⟨(.eqPtr false), [.tmp 5, .const (.ptr none)], (some 6), none⟩,
 ⟨.move, [.tmp 6], (some 7), none⟩,
 ⟨.move, [.tmp 0], (some 8), some (7, false)⟩,
 ⟨.nilCheck, [.tmp 8], (some 9), some (7, false)⟩,
 ⟨(.fieldAddr 8), [.tmp 9], (some 10), some (7, false)⟩,
 ⟨(.load false 1), [.tmp 10], (some 11), some (7, false)⟩,
 ⟨.not, [.tmp 11], (some 12), some (7, false)⟩,
 ⟨.pick, [.tmp 7, .const (.bool true), .tmp 12], (some 13), none⟩])
 (.cond (.tmp 13) (.seq (.seqR [⟨(.build [(.int .i64 0), (.int .u64 0), (.slice none 0 0 false)] []), [], (some 14), none⟩,
 ⟨(.store 3), [.tmp 2, .tmp 14], none, none⟩,
 ⟨.move, [.const (.bool false)], (some 3), none⟩])
 .ret)
 .skip))
 (.seq (.seqR [⟨.move, [.tmp 0], (some 15), none⟩,
 ⟨.nilCheck, [.tmp 15], (some 16), none⟩,
 ⟨(.fieldAddr 9), [.tmp 16], (some 17), none⟩,
 ⟨(.load true 3), [.tmp 17], (some 18), none⟩,
 ⟨(.new [(.int .i64 0), (.int .u64 0), (.slice none 0 0 false)]), [], (some 4), none⟩,
 ⟨(.store 3), [.tmp 4, .tmp 18], none, none⟩])
 (.seq (.seqR [⟨(.fieldAddr 2), [.tmp 4], (some 19), none⟩,
 ⟨(.load false 1), [.tmp 19], (some 20), none⟩,
 ⟨(.callF 49), [.tmp 20], (some 21), none⟩,
 ⟨(.fieldAddr 2), [.tmp 4], (some 22), none⟩,
 ⟨(.store 1), [.tmp 22, .tmp 21], none, none⟩])
 (.seq (.seqR [⟨(.load true 3), [.tmp 4], (some 23), none⟩,
 ⟨(.store 3), [.tmp 2, .tmp 23], none, none⟩,
 ⟨.move, [.const (.bool true)], (some 3), none⟩])
 .ret))))), [.cell 2 true 3, .tmp 3]⟩
theorem c9_ok : compFunc Tryz.prog Tryz.f9 = some c9 := by kernel_rfl
theorem c9_body : hasBody Tryz.prog 9 = true := hasBody_of Tryz.func9 (by kernel_rfl)
/-- (*coachyard/pool.Pool).Submit -/
def c10 : PFn := ⟨11, Tr.ofList (List.replicate 11 undefA), (.seq (.seqR [⟨.box, [.tmp 0], (some 3), none⟩,
 ⟨.box, [.tmp 1], (some 4), none⟩,
 ⟨.box, [.tmp 2], (some 5), none⟩,
 ⟨.move, [.const (.ptr none)], (some 6), none⟩])
 (.seq (.seqR [⟨(.load false 1), [.tmp 3], (some 7), none⟩,
 ⟨(.load false 1), [.tmp 4], (some 8), none⟩,
 ⟨(.mkFunc (.func 51) 0), [.tmp 5, .tmp 3, .tmp 4], (some 9), none⟩,
 ⟨(.callF 50), [.tmp 7, .tmp 8, .tmp 9], (some 10), none⟩,
 ⟨.move, [.tmp 10], (some 6), none⟩])
 .ret)), [.tmp 6]⟩
theorem c10_ok : compFunc Tryz.prog Tryz.f10 = some c10 := by kernel_rfl
theorem c10_body : hasBody Tryz.prog 10 = true := hasBody_of Tryz.func10 (by kernel_rfl)
/-- (*coachyard/pool.Pool).Next -/
def c11 : PFn := ⟨11, Tr.ofList (List.replicate 11 undefA), (.seq (.seqR [⟨.box, [.tmp 0], (some 3), none⟩,
 ⟨.box, [.tmp 1], (some 4), none⟩,
 ⟨.box, [.tmp 2], (some 5), none⟩,
 ⟨.move, [.const (.ptr none)], (some 6), none⟩])
 (.seq (.seqR [⟨(.load false 1), [.tmp 3], (some 7), none⟩,
 ⟨(.load false 1), [.tmp 4], (some 8), none⟩,
 ⟨(.mkFunc (.func 55) 0), [.tmp 5, .tmp 3, .tmp 4], (some 9), none⟩,
 ⟨(.callF 50), [.tmp 7, .tmp 8, .tmp 9], (some 10), none⟩,
 ⟨.move, [.tmp 10], (some 6), none⟩])
 .ret)), [.tmp 6]⟩
theorem c11_ok : compFunc Tryz.prog Tryz.f11 = some c11 := by kernel_rfl
theorem c11_body : hasBody Tryz.prog 11 = true := hasBody_of Tryz.func11 (by kernel_rfl)
/-- (*coachyard/pool.Pool).Park -/
def c12 : PFn := ⟨9, Tr.ofList (List.replicate 9 undefA), (.seq (.seqR [⟨.box, [.tmp 0], (some 2), none⟩,
 ⟨.box, [.tmp 1], (some 3), none⟩,
 ⟨.move, [.const (.ptr none)], (some 4), none⟩])
 (.seq (.seqR [⟨(.load false 1), [.tmp 2], (some 5), none⟩,
 ⟨(.load false 1), [.tmp 3], (some 6), none⟩,
 ⟨(.mkFunc (.func 59) 0), [.tmp 2, .tmp 3], (some 7), none⟩,
 ⟨(.callF 50), [.tmp 5, .tmp 6, .tmp 7], (some 8), none⟩,
 ⟨.move, [.tmp 8], (some 4), none⟩])
 .ret)), [.tmp 4]⟩
theorem c12_ok : compFunc Tryz.prog Tryz.f12 = some c12 := by kernel_rfl
theorem c12_body : hasBody Tryz.prog 12 = true := hasBody_of Tryz.func12 (by kernel_rfl)
/-- coachyard/cells.New -/
def c13 : PFn := ⟨14, Tr.ofList (List.replicate 14 undefA), (.seq (.seqR [⟨.move, [.const (.ptr none)], (some 2), none⟩,
 ⟨.move, [.const (.int .i64 0)], (some 3), none⟩])
 (.seq (.seq (.seqR [⟨.move, [.tmp 0], (some 4), none⟩,
 ⟨(.bin .lss), [.tmp 4, .const (.int .i64 1)], (some 5), none⟩,
 ⟨.move, [.tmp 5], (some 6), none⟩,
 ⟨.move, [.tmp 0], (some 7), some (6, false)⟩,
 ⟨(.bin .gtr), [.tmp 7, .const (.int .i64 65536)], (some 8), some (6, false)⟩,
 ⟨.pick, [.tmp 6, .const (.bool true), .tmp 8], (some 9), none⟩])
 (.cond (.tmp 9) (.seq (.seqR [⟨.move, [.const (.ptr none)], (some 2), none⟩,
 ⟨.move, [.const (.int .i64 2)], (some 3), none⟩])
 .ret)
 .skip))
 (.seq (.seqR [⟨.move, [.tmp 0], (some 10), none⟩,
 ⟨(.makeSlice 1 8 [(.int .u64 0)]), [.tmp 10, .tmp 10], (some 11), none⟩,
 ⟨(.build [(.slice none 0 0 false)] [(0, 1)]), [.tmp 11], (some 12), none⟩,
 ⟨.box, [.tmp 12], (some 13), none⟩,
 ⟨.move, [.tmp 13], (some 2), none⟩,
 ⟨.move, [.const (.int .i64 0)], (some 3), none⟩])
 .ret))), [.tmp 2, .tmp 3]⟩
theorem c13_ok : compFunc Tryz.prog Tryz.f13 = some c13 := by kernel_rfl
theorem c13_body : hasBody Tryz.prog 13 = true := hasBody_of Tryz.func13 (by kernel_rfl)
/-- (*coachyard/pool.Pool).All -/
def c14 : PFn := ⟨50, Tr.ofList (List.replicate 50 undefA), (.seq (.seqR [⟨.move, [.const (.slice none 0 0 false)], (some 4), none⟩,
 ⟨.move, [.const (.int .i64 0)], (some 5), none⟩])
 (.seq (.seq (.seqR [⟨.move, [.tmp 0], (some 10), none⟩,
 ⟨(.eqPtr false), [.tmp 10, .const (.ptr none)], (some 11), none⟩])
 (.cond (.tmp 11) (.seq (.seqR [⟨.move, [.const (.slice none 0 0 false)], (some 4), none⟩,
 ⟨.move, [.const (.int .i64 1)], (some 5), none⟩])
 .ret)
 .skip))
 (.seq (.seqR [⟨.move, [.tmp 0], (some 13), none⟩,
 ⟨.nilCheck, [.tmp 13], (some 14), none⟩,
 ⟨(.fieldAddr 0), [.tmp 14], (some 15), none⟩,
 ⟨(.load true 4), [.tmp 15], (some 16), none⟩,
 ⟨(.callF 63), [.tmp 16], (some 17), none⟩,
 ⟨.move, [.tmp 1], (some 18), none⟩,
 ⟨(.callF 64), [.tmp 17, .tmp 18], (some 19), none⟩,
 ⟨.move, [.tmp 19], (some 12), none⟩,
 ⟨(.extract 0), [.tmp 12], (some 20), none⟩,
 ⟨(.extract 1), [.tmp 12], (some 21), none⟩,
 ⟨.move, [.tmp 20], (some 6), none⟩,
 ⟨.move, [.tmp 21], (some 7), none⟩])
 (.seq (.seq (.seqR [⟨.move, [.tmp 0], (some 22), none⟩,
 ⟨.nilCheck, [.tmp 22], (some 23), none⟩,
 ⟨(.fieldAddr 0), [.tmp 23], (some 24), none⟩,
 ⟨(.load true 4), [.tmp 24], (some 25), none⟩,
 ⟨(.callF 65), [.tmp 25], (some 26), none⟩,
 ⟨(.field 0 1 false), [.tmp 26], (some 27), none⟩,
 ⟨.move, [.const (.int .i64 0)], (some 28), none⟩])
 (.block 0 (.loop (.seq (.seqR [⟨(.bin .lss), [.tmp 28, .tmp 27], (some 29), none⟩])
 (.seq (.cond (.tmp 29) .skip
 (.exit 0))
 (.seq (.block 1 (.seq (.seqR [⟨.move, [.tmp 28], (some 30), none⟩,
 ⟨.move, [.tmp 30], (some 8), none⟩])
 (.seq (.seq (.seqR [⟨.move, [.tmp 7], (some 31), none⟩,
 ⟨(.bin .neq), [.tmp 31, .const (.int .i64 0)], (some 32), none⟩])
 (.cond (.tmp 32) (.seq (.seqR [⟨.move, [.tmp 7], (some 33), none⟩,
 ⟨.move, [.const (.slice none 0 0 false)], (some 4), none⟩,
 ⟨.move, [.tmp 33], (some 5), none⟩])
 .ret)
 .skip))
 (.seq (.seqR [⟨.move, [.const (.slice none 0 0 false)], (some 9), none⟩])
 (.seq (.seqR [⟨.move, [.tmp 0], (some 35), none⟩,
 ⟨.move, [.tmp 8], (some 36), none⟩,
 ⟨(.callF 15), [.tmp 35, .tmp 36], (some 37), none⟩,
 ⟨.move, [.tmp 1], (some 38), none⟩,
 ⟨(.callF 66), [.tmp 37, .tmp 38], (some 39), none⟩,
 ⟨.move, [.tmp 39], (some 34), none⟩,
 ⟨(.extract 0), [.tmp 34], (some 40), none⟩,
 ⟨(.extract 1), [.tmp 34], (some 41), none⟩,
 ⟨.move, [.tmp 40], (some 9), none⟩,
 ⟨.move, [.tmp 41], (some 7), none⟩])
 (.seqR [⟨.move, [.tmp 6], (some 42), none⟩,
 ⟨.move, [.tmp 9], (some 43), none⟩,
 ⟨(.append 1 8), [.tmp 42, .tmp 43], (some 44), none⟩,
 ⟨.move, [.tmp 44], (some 6), none⟩]))))))
 (.seqR [⟨(.bin .add), [.tmp 28, .const (.int .i64 1)], (some 45), none⟩,
 ⟨.move, [.tmp 45], (some 28), none⟩])))))))
 (.seq (.seq (.seqR [⟨.move, [.tmp 7], (some 46), none⟩,
 ⟨(.bin .neq), [.tmp 46, .const (.int .i64 0)], (some 47), none⟩])
 (.cond (.tmp 47) (.seq (.seqR [⟨.move, [.tmp 7], (some 48), none⟩,
 ⟨.move, [.const (.slice none 0 0 false)], (some 4), none⟩,
 ⟨.move, [.tmp 48], (some 5), none⟩])
 .ret)
 .skip))
 (.seq (.seqR [⟨.move, [.tmp 6], (some 49), none⟩,
 ⟨.move, [.tmp 49], (some 4), none⟩,
 ⟨.move, [.const (.int .i64 0)], (some 5), none⟩])
 .ret)))))), [.tmp 4, .tmp 5]⟩
theorem c14_ok : compFunc Tryz.prog Tryz.f14 = some c14 := by kernel_rfl
theorem c14_body : hasBody Tryz.prog 14 = true := hasBody_of Tryz.func14 (by kernel_rfl)
/-- (*coachyard/pool.Pool).Row -/
def c15 : PFn := ⟨27, Tr.ofList (List.replicate 27 undefA), (.seq (.seqR [⟨(.new [(.int .i64 0), (.int .i64 0), (.int .i64 0)]), [], (some 4), none⟩])
 (.seq (.seq (.seqR [⟨.move, [.tmp 0], (some 6), none⟩,
 ⟨.move, [.tmp 1], (some 7), none⟩,
 ⟨(.callF 67), [.tmp 6, .tmp 7], (some 8), none⟩,
 ⟨.not, [.tmp 8], (some 9), none⟩])
 (.cond (.tmp 9) (.seq (.seqR [⟨(.build [(.int .i64 0), (.int .i64 0), (.int .i64 0)] []), [], (some 10), none⟩,
 ⟨(.store 3), [.tmp 4, .tmp 10], none, none⟩])
 .ret)
 .skip))
 (.seq (.seqR [⟨.move, [.tmp 0], (some 11), none⟩,
 ⟨.nilCheck, [.tmp 11], (some 12), none⟩,
 ⟨(.fieldAddr 0), [.tmp 12], (some 13), none⟩,
 ⟨(.load true 4), [.tmp 13], (some 14), none⟩,
 ⟨(.callF 65), [.tmp 14], (some 15), none⟩,
 ⟨(.new [(.int .i64 0), (.int .i64 0), (.int .i64 0), (.int .i64 0)]), [], (some 5), none⟩,
 ⟨(.store 4), [.tmp 5, .tmp 15], none, none⟩])
 (.seq (.drawR [⟨⟨(.fieldAddr 1), [.tmp 5], (some 16), none⟩, false, false, 0, 1⟩,
 ⟨⟨(.load false 1), [.tmp 16], (some 17), none⟩, false, false, 0, 1⟩,
 ⟨⟨.move, [.tmp 0], (some 18), none⟩, false, false, 0, 0⟩,
 ⟨⟨.nilCheck, [.tmp 18], (some 19), none⟩, false, false, 0, 0⟩,
 ⟨⟨(.fieldAddr 0), [.tmp 19], (some 20), none⟩, false, false, 0, 0⟩,
 ⟨⟨(.load true 4), [.tmp 20], (some 21), none⟩, false, false, 0, 0⟩,
 ⟨⟨.move, [.tmp 1], (some 22), none⟩, false, false, 0, 0⟩,
 ⟨⟨(.callF 68), [.tmp 21, .tmp 22], (some 23), none⟩, true, false, 0, 1⟩,
 ⟨⟨(.fieldAddr 2), [.tmp 5], (some 24), none⟩, false, false, 0, 1⟩,
 ⟨⟨(.load false 1), [.tmp 24], (some 25), none⟩, false, false, 0, 1⟩,
 ⟨⟨(.build [(.int .i64 0), (.int .i64 0), (.int .i64 0)] [(0, 1), (1, 1), (2, 1)]), [.tmp 17, .tmp 23, .tmp 25], (some 26), none⟩, false, false, 1, 1⟩,
 ⟨⟨(.store 3), [.tmp 4, .tmp 26], none, none⟩, true, false, 1, 2⟩])
 .ret)))), [.cell 4 true 3]⟩
theorem c15_ok : compFunc Tryz.prog Tryz.f15 = some c15 := by kernel_rfl
theorem c15_body : hasBody Tryz.prog 15 = true := hasBody_of Tryz.func15 (by kernel_rfl)
/-- (*coachyard/pool.Pool).Plan -/
def c16 : PFn := ⟨10, Tr.ofList (List.replicate 10 undefA), (.seq (.seqR [⟨(.new [(.int .i64 0), (.int .i64 0), (.int .i64 0), (.int .i64 0)]), [], (some 2), none⟩])
 (.seq (.seq (.seqR [⟨.move, [.tmp 0], (some 3), none⟩,
 ⟨(.eqPtr false), [.tmp 3, .const (.ptr none)], (some 4), none⟩])
 (.cond (.tmp 4) (.seq (.seqR [⟨(.build [(.int .i64 0), (.int .i64 0), (.int .i64 0), (.int .i64 0)] []), [], (some 5), none⟩,
 ⟨(.store 4), [.tmp 2, .tmp 5], none, none⟩])
 .ret)
 .skip))
 (.seq (.seqR [⟨.move, [.tmp 0], (some 6), none⟩,
 ⟨.nilCheck, [.tmp 6], (some 7), none⟩,
 ⟨(.fieldAddr 0), [.tmp 7], (some 8), none⟩,
 ⟨(.load true 4), [.tmp 8], (some 9), none⟩,
 ⟨(.store 4), [.tmp 2, .tmp 9], none, none⟩])
 .ret))), [.cell 2 true 4]⟩
theorem c16_ok : compFunc Tryz.prog Tryz.f16 = some c16 := by kernel_rfl
theorem c16_body : hasBody Tryz.prog 16 = true := hasBody_of Tryz.func16 (by kernel_rfl)
/-- (coachyard/plan.Plan).Cells -/
def c17 : PFn := ⟨19, Tr.ofList (List.replicate 19 undefA), (.seq (.seqR [⟨.box, [.tmp 0], (some 1), none⟩,
 ⟨.move, [.const (.int .i64 0)], (some 2), none⟩])
 (.seq (.seq (.seqR [⟨(.fieldAddr 0), [.tmp 1], (some 3), none⟩,
 ⟨(.fieldAddr 0), [.tmp 3], (some 4), none⟩,
 ⟨(.load false 1), [.tmp 4], (some 5), none⟩,
 ⟨(.bin .eql), [.tmp 5, .const (.int .i64 0)], (some 6), none⟩])
 (.cond (.tmp 6) (.seq (.seqR [⟨.move, [.const (.int .i64 0)], (some 2), none⟩])
 .ret)
 .skip))
 (.seq (.drawR [⟨⟨(.fieldAddr 0), [.tmp 1], (some 7), none⟩, false, false, 0, 0⟩,
 ⟨⟨(.load true 4), [.tmp 7], (some 8), none⟩, false, false, 0, 0⟩,
 ⟨⟨(.callF 69), [.tmp 8], (some 9), none⟩, true, false, 0, 1⟩,
 ⟨⟨(.fieldAddr 0), [.tmp 1], (some 10), none⟩, false, false, 0, 1⟩,
 ⟨⟨(.fieldAddr 0), [.tmp 10], (some 11), none⟩, false, false, 0, 1⟩,
 ⟨⟨(.load false 1), [.tmp 11], (some 12), none⟩, false, false, 0, 1⟩,
 ⟨⟨(.fieldAddr 0), [.tmp 1], (some 13), none⟩, false, false, 0, 1⟩,
 ⟨⟨(.fieldAddr 2), [.tmp 13], (some 14), none⟩, false, false, 0, 1⟩,
 ⟨⟨(.load false 1), [.tmp 14], (some 15), none⟩, false, false, 0, 1⟩,
 ⟨⟨(.bin .add), [.tmp 15, .const (.int .i64 2)], (some 16), none⟩, false, false, 0, 1⟩,
 ⟨⟨(.bin .mul), [.tmp 12, .tmp 16], (some 17), none⟩, false, false, 0, 1⟩,
 ⟨⟨(.bin .add), [.tmp 9, .tmp 17], (some 18), none⟩, false, false, 1, 1⟩,
 ⟨⟨.move, [.tmp 18], (some 2), none⟩, false, false, 1, 1⟩])
 .ret))), [.tmp 2]⟩
theorem c17_ok : compFunc Tryz.prog Tryz.f17 = some c17 := by kernel_rfl
theorem c17_body : hasBody Tryz.prog 17 = true := hasBody_of Tryz.func17 (by kernel_rfl)
/-- coachyard/coachyardlaw19.awake -/
def c18 : PFn := ⟨69, Tr.ofList (List.replicate 69 undefA), (.seq (.seqR [⟨.move, [.const (.bool false)], (some 0), none⟩])
 (.seq (.seqR [⟨(.build [(.int .i64 0), (.int .i64 0), (.int .i64 0), (.int .i64 0)] [(0, 1), (2, 1), (3, 1)]), [.const (.int .i64 2), .const (.int .i64 2), .const (.int .i64 2)], (some 7), none⟩,
 ⟨(.callF 32), [.tmp 7], (some 8), none⟩,
 ⟨.move, [.tmp 8], (some 6), none⟩,
 ⟨(.extract 0), [.tmp 6], (some 9), none⟩,
 ⟨(.extract 1), [.tmp 6], (some 10), none⟩,
 ⟨.move, [.tmp 9], (some 1), none⟩,
 ⟨.move, [.tmp 10], (some 2), none⟩])
 (.seq (.seq (.seqR [⟨.move, [.tmp 2], (some 11), none⟩,
 ⟨(.bin .neq), [.tmp 11, .const (.int .i64 0)], (some 12), none⟩,
 ⟨.move, [.tmp 12], (some 13), none⟩,
 ⟨.move, [.tmp 1], (some 14), some (13, false)⟩,
 ⟨(.build [(.int .i64 0), (.int .u64 0), (.slice none 0 0 false)] [(0, 1), (1, 1)]), [.const (.int .i64 1), .const (.int .u64 5)], (some 15), some (13, false)⟩,
 ⟨(.callF 21), [.tmp 14, .const (.int .i64 0), .tmp 15], (some 16), some (13, false)⟩,
 ⟨(.bin .neq), [.tmp 16, .const (.int .i64 0)], (some 17), some (13, false)⟩,
 ⟨.pick, [.tmp 13, .const (.bool true), .tmp 17], (some 18), none⟩,
 ⟨.move, [.tmp 18], (some 19), none⟩,
 ⟨.move, [.tmp 1], (some 20), some (19, false)⟩,
 ⟨(.build [(.int .i64 0), (.int .u64 0), (.slice none 0 0 false)] [(0, 1)]), [.const (.int .i64 2)], (some 21), some (19, false)⟩,
 ⟨(.callF 21), [.tmp 20, .const (.int .i64 1), .tmp 21], (some 22), some (19, false)⟩,
 ⟨(.bin .neq), [.tmp 22, .const (.int .i64 0)], (some 23), some (19, false)⟩,
 ⟨.pick, [.tmp 19, .const (.bool true), .tmp 23], (some 24), none⟩])
 (.cond (.tmp 24) (.seq (.seqR [⟨.move, [.const (.bool false)], (some 0), none⟩])
 .ret)
 .skip))
 (.seq (.seqR [⟨.move, [.tmp 1], (some 26), none⟩,
 ⟨(.callF 19), [.tmp 26, .const (.int .i64 1000)], (some 27), none⟩,
 ⟨.move, [.tmp 27], (some 25), none⟩,
 ⟨(.extract 0), [.tmp 25], (some 28), none⟩,
 ⟨(.extract 1), [.tmp 25], (some 29), none⟩,
 ⟨.move, [.tmp 28], (some 3), none⟩,
 ⟨.move, [.tmp 29], (some 4), none⟩])
 (.seq (.seqR [⟨.move, [.tmp 1], (some 30), none⟩,
 ⟨(.callF 27), [.tmp 30], (some 31), none⟩,
 ⟨.move, [.tmp 31], (some 5), none⟩])
 (.seq (.seqR [⟨.move, [.tmp 4], (some 32), none⟩,
 ⟨(.bin .eql), [.tmp 32, .const (.int .i64 0)], (some 33), none⟩,
 ⟨.move, [.tmp 33], (some 34), none⟩,
 ⟨.move, [.tmp 5], (some 35), some (34, true)⟩,
 ⟨.lenS, [.tmp 35], (some 36), some (34, true)⟩,
 ⟨(.bin .eql), [.tmp 36, .const (.int .i64 2)], (some 37), some (34, true)⟩,
 ⟨.pick, [.tmp 34, .tmp 37, .const (.bool false)], (some 38), none⟩,
 ⟨.move, [.tmp 38], (some 39), none⟩,
 ⟨.move, [.tmp 5], (some 40), some (39, true)⟩,
 ⟨(.indexAddrS 10), [.tmp 40, .const (.int .i64 0)], (some 41), some (39, true)⟩,
 ⟨(.fieldAddr 3), [.tmp 41], (some 42), some (39, true)⟩,
 ⟨(.load false 1), [.tmp 42], (some 43), some (39, true)⟩,
 ⟨(.bin .geq), [.tmp 43, .const (.int .i64 0)], (some 44), some (39, true)⟩,
 ⟨.pick, [.tmp 39, .tmp 44, .const (.bool false)], (some 45), none⟩,
 ⟨.move, [.tmp 45], (some 46), none⟩,
 ⟨.move, [.tmp 5], (some 47), some (46, true)⟩,
 ⟨(.indexAddrS 10), [.tmp 47, .const (.int .i64 1)], (some 48), some (46, true)⟩,
 ⟨(.fieldAddr 3), [.tmp 48], (some 49), some (46, true)⟩,
 ⟨(.load false 1), [.tmp 49], (some 50), some (46, true)⟩,
 ⟨(.bin .geq), [.tmp 50, .const (.int .i64 0)], (some 51), some (46, true)⟩,
 ⟨.pick, [.tmp 46, .tmp 51, .const (.bool false)], (some 52), none⟩,
 ⟨.move, [.tmp 52], (some 53), none⟩,
 ⟨.move, [.tmp 5], (some 54), some (53, true)⟩,
 ⟨(.indexAddrS 10), [.tmp 54, .const (.int .i64 1)], (some 55), some (53, true)⟩,
 ⟨(.fieldAddr 7), [.tmp 55], (some 56), some (53, true)⟩,
 ⟨(.fieldAddr 1), [.tmp 56], (some 57), some (53, true)⟩,
 ⟨(.load false 1), [.tmp 57], (some 58), some (53, true)⟩,
 ⟨(.bin .eql), [.tmp 58, .const (.int .u64 5)], (some 59), some (53, true)⟩,
 ⟨.move, [.tmp 59], (some 60), some (53, true)⟩,
 ⟨.move, [.tmp 5], (some 61), some (60, false)⟩,
 ⟨(.indexAddrS 10), [.tmp 61, .const (.int .i64 1)], (some 62), some (60, false)⟩,
 ⟨(.fieldAddr 7), [.tmp 62], (some 63), some (60, false)⟩,
 ⟨(.fieldAddr 0), [.tmp 63], (some 64), some (60, false)⟩,
 ⟨(.load false 1), [.tmp 64], (some 65), some (60, false)⟩,
 ⟨(.bin .eql), [.tmp 65, .const (.int .i64 5)], (some 66), some (60, false)⟩,
 ⟨.pick, [.tmp 60, .const (.bool true), .tmp 66], (some 67), some (53, true)⟩,
 ⟨.pick, [.tmp 53, .tmp 67, .const (.bool false)], (some 68), none⟩,
 ⟨.move, [.tmp 68], (some 0), none⟩])
 .ret)))))), [.tmp 0]⟩
theorem c18_ok : compFunc Tryz.prog Tryz.f18 = some c18 := by kernel_rfl
theorem c18_body : hasBody Tryz.prog 18 = true := hasBody_of Tryz.func18 (by kernel_rfl)
/-- (*coachyard/yard.Yard).Settle -/
def c19 : PFn := ⟨37, Tr.ofList (List.replicate 37 undefA), (.seq (.seqR [⟨.move, [.const (.int .i64 0)], (some 4), none⟩,
 ⟨.move, [.const (.int .i64 0)], (some 5), none⟩])
 (.seq (.seq (.seqR [⟨.move, [.tmp 0], (some 8), none⟩,
 ⟨(.eqPtr false), [.tmp 8, .const (.ptr none)], (some 9), none⟩])
 (.cond (.tmp 9) (.seq (.seqR [⟨.move, [.const (.int .i64 0)], (some 4), none⟩,
 ⟨.move, [.const (.int .i64 1)], (some 5), none⟩])
 .ret)
 .skip))
 (.seq (.seqR [⟨.move, [.const (.int .i64 0)], (some 6), none⟩])
 (.seq (.seq (.seqR [⟨.move, [.const (.int .i64 0)], (some 7), none⟩])
 (.block 0 (.loop (.seq (.seq (.seqR [⟨.move, [.tmp 6], (some 10), none⟩,
 ⟨.move, [.tmp 1], (some 11), none⟩,
 ⟨(.bin .lss), [.tmp 10, .tmp 11], (some 12), none⟩,
 ⟨.move, [.tmp 12], (some 13), none⟩,
 ⟨.move, [.tmp 0], (some 14), some (13, true)⟩,
 ⟨(.callF 25), [.tmp 14], (some 15), some (13, true)⟩,
 ⟨.not, [.tmp 15], (some 16), some (13, true)⟩,
 ⟨.pick, [.tmp 13, .tmp 16, .const (.bool false)], (some 17), none⟩])
 (.cond (.tmp 17) .skip
 (.exit 0)))
 (.seq (.block 1 (.seq (.seqR [⟨.move, [.tmp 0], (some 26), none⟩,
 ⟨.move, [.tmp 7], (some 27), none⟩,
 ⟨(.callF 22), [.tmp 26, .tmp 27], (some 28), none⟩,
 ⟨(.bin .eql), [.tmp 28, .const (.int .i64 0)], (some 29), none⟩])
 (.cond (.tmp 29) (.seqR [⟨.move, [.tmp 6], (some 30), none⟩,
 ⟨(.bin .add), [.tmp 30, .const (.int .i64 1)], (some 31), none⟩,
 ⟨.move, [.tmp 31], (some 6), none⟩])
 .skip)))
 (.seqR [⟨.move, [.tmp 7], (some 18), none⟩,
 ⟨(.bin .add), [.tmp 18, .const (.int .i64 1)], (some 19), none⟩,
 ⟨.move, [.tmp 0], (some 20), none⟩,
 ⟨.nilCheck, [.tmp 20], (some 21), none⟩,
 ⟨(.fieldAddr 2), [.tmp 21], (some 22), none⟩,
 ⟨(.load false 1), [.tmp 22], (some 23), none⟩,
 ⟨.lenS, [.tmp 23], (some 24), none⟩,
 ⟨(.bin .rem), [.tmp 19, .tmp 24], (some 25), none⟩,
 ⟨.move, [.tmp 25], (some 7), none⟩]))))))
 (.seq (.seq (.seqR [⟨.move, [.tmp 0], (some 32), none⟩,
 ⟨(.callF 25), [.tmp 32], (some 33), none⟩,
 ⟨.not, [.tmp 33], (some 34), none⟩])
 (.cond (.tmp 34) (.seq (.seqR [⟨.move, [.tmp 6], (some 35), none⟩,
 ⟨.move, [.tmp 35], (some 4), none⟩,
 ⟨.move, [.const (.int .i64 14)], (some 5), none⟩])
 .ret)
 .skip))
 (.seq (.seqR [⟨.move, [.tmp 6], (some 36), none⟩,
 ⟨.move, [.tmp 36], (some 4), none⟩,
 ⟨.move, [.const (.int .i64 0)], (some 5), none⟩])
 .ret)))))), [.tmp 4, .tmp 5]⟩
theorem c19_ok : compFunc Tryz.prog Tryz.f19 = some c19 := by kernel_rfl
theorem c19_body : hasBody Tryz.prog 19 = true := hasBody_of Tryz.func19 (by kernel_rfl)
/-- (*coachyard/yard.Yard).All -/
def c20 : PFn := ⟨18, Tr.ofList (List.replicate 18 undefA), (.seq (.seqR [⟨.move, [.const (.slice none 0 0 false)], (some 2), none⟩,
 ⟨.move, [.const (.int .i64 0)], (some 3), none⟩])
 (.seq (.seq (.seqR [⟨.move, [.tmp 0], (some 4), none⟩,
 ⟨(.eqPtr false), [.tmp 4, .const (.ptr none)], (some 5), none⟩])
 (.cond (.tmp 5) (.seq (.seqR [⟨.move, [.const (.slice none 0 0 false)], (some 2), none⟩,
 ⟨.move, [.const (.int .i64 1)], (some 3), none⟩])
 .ret)
 .skip))
 (.seq (.drawR [⟨⟨.move, [.tmp 0], (some 6), none⟩, false, false, 0, 1⟩,
 ⟨⟨.nilCheck, [.tmp 6], (some 7), none⟩, false, false, 0, 1⟩,
 ⟨⟨(.fieldAddr 0), [.tmp 7], (some 8), none⟩, false, false, 0, 1⟩,
 ⟨⟨(.load false 1), [.tmp 8], (some 9), none⟩, false, false, 0, 1⟩,
 ⟨⟨.move, [.tmp 0], (some 10), none⟩, false, false, 0, 0⟩,
 ⟨⟨.nilCheck, [.tmp 10], (some 11), none⟩, false, false, 0, 0⟩,
 ⟨⟨(.fieldAddr 1), [.tmp 11], (some 12), none⟩, false, false, 0, 0⟩,
 ⟨⟨(.load false 1), [.tmp 12], (some 13), none⟩, false, false, 0, 0⟩,
 ⟨⟨(.callF 30), [.tmp 13], (some 14), none⟩, true, false, 0, 1⟩,
 ⟨⟨(.callF 14), [.tmp 9, .tmp 14], (some 15), none⟩, true, false, 1, 2⟩,
 ⟨⟨(.extract 0), [.tmp 15], (some 16), none⟩, false, false, 2, 2⟩,
 ⟨⟨(.extract 1), [.tmp 15], (some 17), none⟩, false, false, 2, 2⟩,
 ⟨⟨.move, [.tmp 16], (some 2), none⟩, false, false, 2, 2⟩,
 ⟨⟨.move, [.tmp 17], (some 3), none⟩, false, false, 2, 2⟩])
 .ret))), [.tmp 2, .tmp 3]⟩
theorem c20_ok : compFunc Tryz.prog Tryz.f20 = some c20 := by kernel_rfl
theorem c20_body : hasBody Tryz.prog 20 = true := hasBody_of Tryz.func20 (by kernel_rfl)
/-- (*coachyard/yard.Yard).Begin -/
def c21 : PFn := ⟨77, Tr.ofList (List.replicate 77 undefA), (.seq (.seqR [⟨.box, [.tmp 2], (some 5), none⟩,
 ⟨.move, [.const (.int .i64 0)], (some 6), none⟩])
 (.seq (.block 0 (.seq (.seqR [⟨.move, [.tmp 0], (some 9), none⟩,
 ⟨(.eqPtr false), [.tmp 9, .const (.ptr none)], (some 10), none⟩,
 ⟨.move, [.tmp 10], (some 8), none⟩])
 (.cond (.tmp 8) (.seq (.seqR [⟨.move, [.const (.int .i64 1)], (some 6), none⟩])
 .ret)
 (.seq (.seqR [⟨.move, [.tmp 1], (some 12), none⟩,
 ⟨(.bin .lss), [.tmp 12, .const (.int .i64 0)], (some 13), none⟩,
 ⟨.move, [.tmp 13], (some 14), none⟩,
 ⟨.move, [.tmp 1], (some 15), some (14, false)⟩,
 ⟨.move, [.tmp 0], (some 16), some (14, false)⟩,
 ⟨.nilCheck, [.tmp 16], (some 17), some (14, false)⟩,
 ⟨(.fieldAddr 2), [.tmp 17], (some 18), some (14, false)⟩,
 ⟨(.load false 1), [.tmp 18], (some 19), some (14, false)⟩,
 ⟨.lenS, [.tmp 19], (some 20), some (14, false)⟩,
 ⟨(.bin .geq), [.tmp 15, .tmp 20], (some 21), some (14, false)⟩,
 ⟨.pick, [.tmp 14, .const (.bool true), .tmp 21], (some 22), none⟩,
 ⟨.move, [.tmp 22], (some 11), none⟩])
 (.cond (.tmp 11) (.seq (.seqR [⟨.move, [.const (.int .i64 3)], (some 6), none⟩])
 .ret)
 (.seq (.seqR [⟨(.fieldAddr 0), [.tmp 5], (some 24), none⟩,
 ⟨(.load false 1), [.tmp 24], (some 25), none⟩,
 ⟨(.bin .lss), [.tmp 25, .const (.int .i64 1)], (some 26), none⟩,
 ⟨.move, [.tmp 26], (some 27), none⟩,
 ⟨(.fieldAddr 0), [.tmp 5], (some 28), some (27, false)⟩,
 ⟨(.load false 1), [.tmp 28], (some 29), some (27, false)⟩,
 ⟨(.bin .gtr), [.tmp 29, .const (.int .i64 3)], (some 30), some (27, false)⟩,
 ⟨.pick, [.tmp 27, .const (.bool true), .tmp 30], (some 31), none⟩,
 ⟨.move, [.tmp 31], (some 23), none⟩])
 (.cond (.tmp 23) (.seq (.seqR [⟨.move, [.const (.int .i64 2)], (some 6), none⟩])
 .ret)
 (.seq (.seqR [⟨.move, [.tmp 0], (some 33), none⟩,
 ⟨.nilCheck, [.tmp 33], (some 34), none⟩,
 ⟨(.fieldAddr 2), [.tmp 34], (some 35), none⟩,
 ⟨(.load false 1), [.tmp 35], (some 36), none⟩,
 ⟨.move, [.tmp 1], (some 37), none⟩,
 ⟨(.indexAddrS 5), [.tmp 36, .tmp 37], (some 38), none⟩,
 ⟨(.fieldAddr 3), [.tmp 38], (some 39), none⟩,
 ⟨(.load false 1), [.tmp 39], (some 40), none⟩,
 ⟨.move, [.tmp 40], (some 32), none⟩])
 (.cond (.tmp 32) (.seq (.seqR [⟨.move, [.const (.int .i64 8)], (some 6), none⟩])
 .ret)
 .skip)))))))))
 (.seq (.seq (.drawR [⟨⟨.move, [.tmp 0], (some 41), none⟩, false, false, 0, 1⟩,
 ⟨⟨.nilCheck, [.tmp 41], (some 42), none⟩, false, false, 0, 1⟩,
 ⟨⟨(.fieldAddr 1), [.tmp 42], (some 43), none⟩, false, false, 0, 1⟩,
 ⟨⟨(.load false 1), [.tmp 43], (some 44), none⟩, false, false, 0, 1⟩,
 ⟨⟨.move, [.tmp 1], (some 45), none⟩, false, false, 0, 1⟩,
 ⟨⟨.move, [.tmp 0], (some 46), none⟩, false, false, 0, 0⟩,
 ⟨⟨.nilCheck, [.tmp 46], (some 47), none⟩, false, false, 0, 0⟩,
 ⟨⟨(.fieldAddr 0), [.tmp 47], (some 48), none⟩, false, false, 0, 0⟩,
 ⟨⟨(.load false 1), [.tmp 48], (some 49), none⟩, false, false, 0, 0⟩,
 ⟨⟨.move, [.tmp 1], (some 50), none⟩, false, false, 0, 0⟩,
 ⟨⟨(.load true 3), [.tmp 5], (some 51), none⟩, false, false, 0, 0⟩,
 ⟨⟨(.callF 8), [.tmp 49, .tmp 50, .tmp 51], (some 52), none⟩, true, false, 0, 1⟩,
 ⟨⟨(.callF 39), [.tmp 44, .tmp 45, .tmp 52], (some 53), none⟩, true, false, 1, 2⟩,
 ⟨⟨.move, [.tmp 53], (some 7), none⟩, false, false, 2, 2⟩])
 (.seq (.seqR [⟨.move, [.tmp 7], (some 54), none⟩,
 ⟨(.bin .neq), [.tmp 54, .const (.int .i64 0)], (some 55), none⟩])
 (.cond (.tmp 55) (.seq (.seqR [⟨.move, [.tmp 7], (some 56), none⟩,
 ⟨.move, [.tmp 56], (some 6), none⟩])
 .ret)
 .skip)))
 (.seq (.drawR [⟨⟨.move, [.tmp 0], (some 57), none⟩, false, false, 0, 1⟩,
 ⟨⟨.nilCheck, [.tmp 57], (some 58), none⟩, false, false, 0, 1⟩,
 ⟨⟨(.fieldAddr 2), [.tmp 58], (some 59), none⟩, false, false, 0, 1⟩,
 ⟨⟨(.load false 1), [.tmp 59], (some 60), none⟩, false, false, 0, 1⟩,
 ⟨⟨.move, [.tmp 1], (some 61), none⟩, false, false, 0, 1⟩,
 ⟨⟨.move, [.tmp 0], (some 62), none⟩, false, false, 0, 1⟩,
 ⟨⟨.nilCheck, [.tmp 62], (some 63), none⟩, false, false, 0, 1⟩,
 ⟨⟨(.fieldAddr 2), [.tmp 63], (some 64), none⟩, false, false, 0, 1⟩,
 ⟨⟨(.load false 1), [.tmp 64], (some 65), none⟩, false, false, 0, 1⟩,
 ⟨⟨.move, [.tmp 1], (some 66), none⟩, false, false, 0, 2⟩,
 ⟨⟨(.load true 3), [.tmp 5], (some 67), none⟩, false, false, 0, 0⟩,
 ⟨⟨(.callF 70), [.tmp 67], (some 68), none⟩, true, false, 0, 1⟩,
 ⟨⟨(.indexAddrS 5), [.tmp 60, .tmp 61], (some 69), none⟩, false, false, 1, 1⟩,
 ⟨⟨(.fieldAddr 0), [.tmp 69], (some 70), none⟩, false, false, 1, 1⟩,
 ⟨⟨(.store 3), [.tmp 70, .tmp 68], none, none⟩, true, false, 1, 2⟩,
 ⟨⟨(.indexAddrS 5), [.tmp 65, .tmp 66], (some 71), none⟩, false, false, 2, 2⟩,
 ⟨⟨(.fieldAddr 3), [.tmp 71], (some 72), none⟩, false, false, 2, 2⟩,
 ⟨⟨(.store 1), [.tmp 72, .const (.bool true)], none, none⟩, true, false, 2, 3⟩])
 (.seq (.seqR [⟨.move, [.tmp 0], (some 73), none⟩,
 ⟨.move, [.tmp 1], (some 74), none⟩,
 ⟨(.build [(.int .i64 0), (.int .u64 0), (.slice none 0 0 false)] []), [], (some 75), none⟩,
 ⟨(.callF 71), [.tmp 73, .tmp 74, .const (.bool false), .tmp 75], (some 76), none⟩])
 (.seq (.seqR [⟨.move, [.const (.int .i64 0)], (some 6), none⟩])
 .ret)))))), [.tmp 6]⟩
theorem c21_ok : compFunc Tryz.prog Tryz.f21 = some c21 := by kernel_rfl
theorem c21_body : hasBody Tryz.prog 21 = true := hasBody_of Tryz.func21 (by kernel_rfl)
/-- (*coachyard/yard.Yard).Pick -/
def c22 : PFn := ⟨24, Tr.ofList (List.replicate 24 undefA), (.seq (.seqR [⟨.move, [.const (.int .i64 0)], (some 4), none⟩])
 (.seq (.seq (.seqR [⟨.move, [.tmp 0], (some 6), none⟩,
 ⟨(.eqPtr false), [.tmp 6, .const (.ptr none)], (some 7), none⟩])
 (.cond (.tmp 7) (.seq (.seqR [⟨.move, [.const (.int .i64 1)], (some 4), none⟩])
 .ret)
 .skip))
 (.seq (.seqR [⟨.move, [.tmp 0], (some 8), none⟩,
 ⟨.nilCheck, [.tmp 8], (some 9), none⟩,
 ⟨(.fieldAddr 1), [.tmp 9], (some 10), none⟩,
 ⟨(.load false 1), [.tmp 10], (some 11), none⟩,
 ⟨.move, [.tmp 1], (some 12), none⟩,
 ⟨(.callF 72), [.tmp 11, .tmp 12], (some 13), none⟩,
 ⟨.move, [.tmp 13], (some 5), none⟩])
 (.seq (.seq (.seqR [⟨.move, [.tmp 5], (some 14), none⟩,
 ⟨(.bin .eql), [.tmp 14, .const (.int .i64 0)], (some 15), none⟩,
 ⟨.move, [.tmp 15], (some 16), none⟩,
 ⟨.move, [.tmp 5], (some 17), some (16, false)⟩,
 ⟨(.bin .eql), [.tmp 17, .const (.int .i64 9)], (some 18), some (16, false)⟩,
 ⟨.pick, [.tmp 16, .const (.bool true), .tmp 18], (some 19), none⟩])
 (.cond (.tmp 19) (.seqR [⟨.move, [.tmp 0], (some 20), none⟩,
 ⟨.move, [.tmp 1], (some 21), none⟩,
 ⟨(.callF 73), [.tmp 20, .tmp 21], (some 22), none⟩])
 .skip))
 (.seq (.seqR [⟨.move, [.tmp 5], (some 23), none⟩,
 ⟨.move, [.tmp 23], (some 4), none⟩])
 .ret))))), [.tmp 4]⟩
theorem c22_ok : compFunc Tryz.prog Tryz.f22 = some c22 := by kernel_rfl
theorem c22_body : hasBody Tryz.prog 22 = true := hasBody_of Tryz.func22 (by kernel_rfl)
/-- (*coachyard/yard.Yard).Do -/
def c23 : PFn := ⟨26, Tr.ofList (List.replicate 26 undefA), (.seq (.seqR [⟨.box, [.tmp 1], (some 3), none⟩,
 ⟨.move, [.const (.int .i64 0)], (some 4), none⟩])
 (.seq (.block 0 (.seq (.seqR [⟨.move, [.tmp 0], (some 6), none⟩,
 ⟨(.eqPtr false), [.tmp 6, .const (.ptr none)], (some 7), none⟩,
 ⟨.move, [.tmp 7], (some 5), none⟩])
 (.cond (.tmp 5) (.seq (.seqR [⟨.move, [.const (.int .i64 1)], (some 4), none⟩])
 .ret)
 (.seq (.seqR [⟨(.fieldAddr 0), [.tmp 3], (some 9), none⟩,
 ⟨(.load false 1), [.tmp 9], (some 10), none⟩,
 ⟨(.bin .eql), [.tmp 10, .const (.int .i64 1)], (some 11), none⟩,
 ⟨.move, [.tmp 11], (some 8), none⟩])
 (.cond (.tmp 8) (.seq (.seqR [⟨.move, [.tmp 0], (some 12), none⟩,
 ⟨(.fieldAddr 1), [.tmp 3], (some 13), none⟩,
 ⟨(.load false 1), [.tmp 13], (some 14), none⟩,
 ⟨(.fieldAddr 2), [.tmp 3], (some 15), none⟩,
 ⟨(.load true 3), [.tmp 15], (some 16), none⟩,
 ⟨(.callF 21), [.tmp 12, .tmp 14, .tmp 16], (some 17), none⟩,
 ⟨.move, [.tmp 17], (some 4), none⟩])
 .ret)
 (.seq (.seqR [⟨(.fieldAddr 0), [.tmp 3], (some 19), none⟩,
 ⟨(.load false 1), [.tmp 19], (some 20), none⟩,
 ⟨(.bin .eql), [.tmp 20, .const (.int .i64 2)], (some 21), none⟩,
 ⟨.move, [.tmp 21], (some 18), none⟩])
 (.cond (.tmp 18) (.seq (.seqR [⟨.move, [.tmp 0], (some 22), none⟩,
 ⟨(.fieldAddr 1), [.tmp 3], (some 23), none⟩,
 ⟨(.load false 1), [.tmp 23], (some 24), none⟩,
 ⟨(.callF 22), [.tmp 22, .tmp 24], (some 25), none⟩,
 ⟨.move, [.tmp 25], (some 4), none⟩])
 .ret)
 .skip)))))))
 (.seq (.seqR [⟨.move, [.const (.int .i64 2)], (some 4), none⟩])
 .ret))), [.tmp 4]⟩
theorem c23_ok : compFunc Tryz.prog Tryz.f23 = some c23 := by kernel_rfl
theorem c23_body : hasBody Tryz.prog 23 = true := hasBody_of Tryz.func23 (by kernel_rfl)
/-- (*coachyard/yard.Yard).Run -/
def c24 : PFn := ⟨22, Tr.ofList (List.replicate 22 undefA), (.seq (.seqR [⟨.move, [.const (.int .i64 0)], (some 4), none⟩])
 (.seq (.seqR [⟨.move, [.const (.int .i64 0)], (some 5), none⟩])
 (.seq (.seq (.seqR [⟨.move, [.tmp 1], (some 8), none⟩,
 ⟨.lenS, [.tmp 8], (some 9), none⟩,
 ⟨.move, [.const (.int .i64 0)], (some 10), none⟩])
 (.block 0 (.loop (.seq (.seqR [⟨(.bin .lss), [.tmp 10, .tmp 9], (some 11), none⟩])
 (.seq (.cond (.tmp 11) .skip
 (.exit 0))
 (.seq (.block 1 (.seq (.seqR [⟨(.indexAddrS 5), [.tmp 8, .tmp 10], (some 12), none⟩,
 ⟨(.load true 5), [.tmp 12], (some 13), none⟩,
 ⟨(.new [(.int .i64 0), (.int .i64 0), (.int .i64 0), (.int .u64 0), (.slice none 0 0 false)]), [], (some 7), none⟩,
 ⟨(.store 5), [.tmp 7, .tmp 13], none, none⟩])
 (.seq (.seqR [⟨.move, [.tmp 0], (some 14), none⟩,
 ⟨(.load true 5), [.tmp 7], (some 15), none⟩,
 ⟨(.callF 23), [.tmp 14, .tmp 15], (some 16), none⟩,
 ⟨(.bin .eql), [.tmp 16, .const (.int .i64 0)], (some 17), none⟩])
 (.cond (.tmp 17) (.seqR [⟨.move, [.tmp 5], (some 18), none⟩,
 ⟨(.bin .add), [.tmp 18, .const (.int .i64 1)], (some 19), none⟩,
 ⟨.move, [.tmp 19], (some 5), none⟩])
 .skip))))
 (.seqR [⟨(.bin .add), [.tmp 10, .const (.int .i64 1)], (some 20), none⟩,
 ⟨.move, [.tmp 20], (some 10), none⟩])))))))
 (.seq (.seqR [⟨.move, [.tmp 5], (some 21), none⟩,
 ⟨.move, [.tmp 21], (some 4), none⟩])
 .ret)))), [.tmp 4]⟩
theorem c24_ok : compFunc Tryz.prog Tryz.f24 = some c24 := by kernel_rfl
theorem c24_body : hasBody Tryz.prog 24 = true := hasBody_of Tryz.func24 (by kernel_rfl)
/-- (*coachyard/yard.Yard).Rests -/
def c25 : PFn := ⟨30, Tr.ofList (List.replicate 30 undefA), (.seq (.seqR [⟨.move, [.const (.bool false)], (some 2), none⟩])
 (.seq (.seq (.seqR [⟨.move, [.tmp 0], (some 4), none⟩,
 ⟨(.eqPtr false), [.tmp 4, .const (.ptr none)], (some 5), none⟩])
 (.cond (.tmp 5) (.seq (.seqR [⟨.move, [.const (.bool false)], (some 2), none⟩])
 .ret)
 .skip))
 (.seq (.seq (.seqR [⟨.move, [.tmp 0], (some 6), none⟩,
 ⟨.nilCheck, [.tmp 6], (some 7), none⟩,
 ⟨(.fieldAddr 2), [.tmp 7], (some 8), none⟩,
 ⟨(.load false 1), [.tmp 8], (some 9), none⟩,
 ⟨.lenS, [.tmp 9], (some 10), none⟩,
 ⟨.move, [.const (.int .i64 0)], (some 11), none⟩])
 (.block 0 (.loop (.seq (.seqR [⟨(.bin .lss), [.tmp 11, .tmp 10], (some 12), none⟩])
 (.seq (.cond (.tmp 12) .skip
 (.exit 0))
 (.seq (.block 1 (.seq (.seqR [⟨.move, [.tmp 11], (some 13), none⟩,
 ⟨.move, [.tmp 13], (some 3), none⟩])
 (.seq (.seqR [⟨.move, [.tmp 0], (some 14), none⟩,
 ⟨.nilCheck, [.tmp 14], (some 15), none⟩,
 ⟨(.fieldAddr 1), [.tmp 15], (some 16), none⟩,
 ⟨(.load false 1), [.tmp 16], (some 17), none⟩,
 ⟨.move, [.tmp 3], (some 18), none⟩,
 ⟨(.callF 74), [.tmp 17, .tmp 18], (some 19), none⟩,
 ⟨.move, [.tmp 19], (some 20), none⟩,
 ⟨.move, [.tmp 0], (some 21), some (20, true)⟩,
 ⟨.nilCheck, [.tmp 21], (some 22), some (20, true)⟩,
 ⟨(.fieldAddr 1), [.tmp 22], (some 23), some (20, true)⟩,
 ⟨(.load false 1), [.tmp 23], (some 24), some (20, true)⟩,
 ⟨.move, [.tmp 3], (some 25), some (20, true)⟩,
 ⟨(.callF 75), [.tmp 24, .tmp 25], (some 26), some (20, true)⟩,
 ⟨.not, [.tmp 26], (some 27), some (20, true)⟩,
 ⟨.pick, [.tmp 20, .tmp 27, .const (.bool false)], (some 28), none⟩])
 (.cond (.tmp 28) (.seq (.seqR [⟨.move, [.const (.bool false)], (some 2), none⟩])
 .ret)
 .skip))))
 (.seqR [⟨(.bin .add), [.tmp 11, .const (.int .i64 1)], (some 29), none⟩,
 ⟨.move, [.tmp 29], (some 11), none⟩])))))))
 (.seq (.seqR [⟨.move, [.const (.bool true)], (some 2), none⟩])
 .ret)))), [.tmp 2]⟩
theorem c25_ok : compFunc Tryz.prog Tryz.f25 = some c25 := by kernel_rfl
theorem c25_body : hasBody Tryz.prog 25 = true := hasBody_of Tryz.func25 (by kernel_rfl)
/-- (*coachyard/yard.Yard).Events -/
def c26 : PFn := ⟨41, Tr.ofList (List.replicate 41 undefA), (.seq (.seqR [⟨.move, [.const (.slice none 0 0 false)], (some 2), none⟩])
 (.seq (.seq (.seqR [⟨.move, [.tmp 0], (some 5), none⟩,
 ⟨(.eqPtr false), [.tmp 5, .const (.ptr none)], (some 6), none⟩])
 (.cond (.tmp 6) (.seq (.seqR [⟨.move, [.const (.slice none 0 0 false)], (some 2), none⟩])
 .ret)
 .skip))
 (.seq (.seqR [⟨.move, [.tmp 0], (some 7), none⟩,
 ⟨.nilCheck, [.tmp 7], (some 8), none⟩,
 ⟨(.fieldAddr 3), [.tmp 8], (some 9), none⟩,
 ⟨(.load false 1), [.tmp 9], (some 10), none⟩,
 ⟨(.callF 76), [.tmp 10], (some 11), none⟩,
 ⟨.move, [.tmp 11], (some 3), none⟩])
 (.seq (.seq (.seqR [⟨.move, [.tmp 3], (some 12), none⟩,
 ⟨.lenS, [.tmp 12], (some 13), none⟩,
 ⟨.move, [.const (.int .i64 0)], (some 14), none⟩])
 (.block 0 (.loop (.seq (.seqR [⟨(.bin .lss), [.tmp 14, .tmp 13], (some 15), none⟩])
 (.seq (.cond (.tmp 15) .skip
 (.exit 0))
 (.seq (.block 1 (.seq (.seqR [⟨.move, [.tmp 14], (some 16), none⟩,
 ⟨.move, [.tmp 16], (some 4), none⟩])
 (.seq (.seqR [⟨.move, [.tmp 3], (some 17), none⟩,
 ⟨.move, [.tmp 4], (some 18), none⟩,
 ⟨.move, [.tmp 3], (some 19), none⟩,
 ⟨.move, [.tmp 4], (some 20), none⟩,
 ⟨(.indexAddrS 10), [.tmp 19, .tmp 20], (some 21), none⟩,
 ⟨(.fieldAddr 4), [.tmp 21], (some 22), none⟩,
 ⟨(.load true 3), [.tmp 22], (some 23), none⟩,
 ⟨(.callF 70), [.tmp 23], (some 24), none⟩,
 ⟨(.indexAddrS 10), [.tmp 17, .tmp 18], (some 25), none⟩,
 ⟨(.fieldAddr 4), [.tmp 25], (some 26), none⟩,
 ⟨(.store 3), [.tmp 26, .tmp 24], none, none⟩])
 (.seqR [⟨.move, [.tmp 3], (some 27), none⟩,
 ⟨.move, [.tmp 4], (some 28), none⟩,
 ⟨.move, [.tmp 3], (some 29), none⟩,
 ⟨.move, [.tmp 4], (some 30), none⟩,
 ⟨(.indexAddrS 10), [.tmp 29, .tmp 30], (some 31), none⟩,
 ⟨(.fieldAddr 7), [.tmp 31], (some 32), none⟩,
 ⟨(.fieldAddr 2), [.tmp 32], (some 33), none⟩,
 ⟨(.load false 1), [.tmp 33], (some 34), none⟩,
 ⟨(.callF 49), [.tmp 34], (some 35), none⟩,
 ⟨(.indexAddrS 10), [.tmp 27, .tmp 28], (some 36), none⟩,
 ⟨(.fieldAddr 7), [.tmp 36], (some 37), none⟩,
 ⟨(.fieldAddr 2), [.tmp 37], (some 38), none⟩,
 ⟨(.store 1), [.tmp 38, .tmp 35], none, none⟩]))))
 (.seqR [⟨(.bin .add), [.tmp 14, .const (.int .i64 1)], (some 39), none⟩,
 ⟨.move, [.tmp 39], (some 14), none⟩])))))))
 (.seq (.seqR [⟨.move, [.tmp 3], (some 40), none⟩,
 ⟨.move, [.tmp 40], (some 2), none⟩])
 .ret))))), [.tmp 2]⟩
theorem c26_ok : compFunc Tryz.prog Tryz.f26 = some c26 := by kernel_rfl
theorem c26_body : hasBody Tryz.prog 26 = true := hasBody_of Tryz.func26 (by kernel_rfl)
/-- (*coachyard/yard.Yard).Spans -/
def c27 : PFn := ⟨12, Tr.ofList (List.replicate 12 undefA), (.seq (.seqR [⟨.move, [.const (.slice none 0 0 false)], (some 2), none⟩])
 (.seq (.seqR [⟨.move, [.tmp 0], (some 6), none⟩,
 ⟨(.callF 26), [.tmp 6], (some 7), none⟩,
 ⟨(.callF 77), [.tmp 7], (some 8), none⟩,
 ⟨.move, [.tmp 8], (some 5), none⟩,
 ⟨(.extract 0), [.tmp 5], (some 9), none⟩,
 ⟨(.extract 1), [.tmp 5], (some 10), none⟩,
 ⟨.move, [.tmp 9], (some 3), none⟩,
 ⟨.move, [.tmp 10], (some 4), none⟩])
 (.seq (.seqR [⟨.move, [.tmp 3], (some 11), none⟩,
 ⟨.move, [.tmp 11], (some 2), none⟩])
 .ret))), [.tmp 2]⟩
theorem c27_ok : compFunc Tryz.prog Tryz.f27 = some c27 := by kernel_rfl
theorem c27_body : hasBody Tryz.prog 27 = true := hasBody_of Tryz.func27 (by kernel_rfl)
/-- (*coachyard/yard.Yard).Pool -/
def c28 : PFn := ⟨9, Tr.ofList (List.replicate 9 undefA), (.seq (.seqR [⟨.move, [.const (.ptr none)], (some 2), none⟩])
 (.seq (.seq (.seqR [⟨.move, [.tmp 0], (some 3), none⟩,
 ⟨(.eqPtr false), [.tmp 3, .const (.ptr none)], (some 4), none⟩])
 (.cond (.tmp 4) (.seq (.seqR [⟨.move, [.const (.ptr none)], (some 2), none⟩])
 .ret)
 .skip))
 (.seq (.seqR [⟨.move, [.tmp 0], (some 5), none⟩,
 ⟨.nilCheck, [.tmp 5], (some 6), none⟩,
 ⟨(.fieldAddr 0), [.tmp 6], (some 7), none⟩,
 ⟨(.load false 1), [.tmp 7], (some 8), none⟩,
 ⟨.move, [.tmp 8], (some 2), none⟩])
 .ret))), [.tmp 2]⟩
theorem c28_ok : compFunc Tryz.prog Tryz.f28 = some c28 := by kernel_rfl
theorem c28_body : hasBody Tryz.prog 28 = true := hasBody_of Tryz.func28 (by kernel_rfl)
/-- (*coachyard/yard.Yard).Loom -/
def c29 : PFn := ⟨9, Tr.ofList (List.replicate 9 undefA), (.seq (.seqR [⟨.move, [.const (.ptr none)], (some 2), none⟩])
 (.seq (.seq (.seqR [⟨.move, [.tmp 0], (some 3), none⟩,
 ⟨(.eqPtr false), [.tmp 3, .const (.ptr none)], (some 4), none⟩])
 (.cond (.tmp 4) (.seq (.seqR [⟨.move, [.const (.ptr none)], (some 2), none⟩])
 .ret)
 .skip))
 (.seq (.seqR [⟨.move, [.tmp 0], (some 5), none⟩,
 ⟨.nilCheck, [.tmp 5], (some 6), none⟩,
 ⟨(.fieldAddr 1), [.tmp 6], (some 7), none⟩,
 ⟨(.load false 1), [.tmp 7], (some 8), none⟩,
 ⟨.move, [.tmp 8], (some 2), none⟩])
 .ret))), [.tmp 2]⟩
theorem c29_ok : compFunc Tryz.prog Tryz.f29 = some c29 := by kernel_rfl
theorem c29_body : hasBody Tryz.prog 29 = true := hasBody_of Tryz.func29 (by kernel_rfl)
/-- (*coachyard/loom.Loom).Mem -/
def c30 : PFn := ⟨9, Tr.ofList (List.replicate 9 undefA), (.seq (.seqR [⟨.move, [.const (.ptr none)], (some 2), none⟩])
 (.seq (.seq (.seqR [⟨.move, [.tmp 0], (some 3), none⟩,
 ⟨(.eqPtr false), [.tmp 3, .const (.ptr none)], (some 4), none⟩])
 (.cond (.tmp 4) (.seq (.seqR [⟨.move, [.const (.ptr none)], (some 2), none⟩])
 .ret)
 .skip))
 (.seq (.seqR [⟨.move, [.tmp 0], (some 5), none⟩,
 ⟨.nilCheck, [.tmp 5], (some 6), none⟩,
 ⟨(.fieldAddr 0), [.tmp 6], (some 7), none⟩,
 ⟨(.load false 1), [.tmp 7], (some 8), none⟩,
 ⟨.move, [.tmp 8], (some 2), none⟩])
 .ret))), [.tmp 2]⟩
theorem c30_ok : compFunc Tryz.prog Tryz.f30 = some c30 := by kernel_rfl
theorem c30_body : hasBody Tryz.prog 30 = true := hasBody_of Tryz.func30 (by kernel_rfl)
/-- coachyard/coachyardref12.May -/
def c31 : PFn := ⟨37, Tr.ofList (List.replicate 37 undefA), (.seq (.seqR [⟨.box, [.tmp 0], (some 1), none⟩,
 ⟨.move, [.const (.int .i64 0)], (some 2), none⟩])
 (.seq (.seq (.seqR [⟨(.fieldAddr 0), [.tmp 1], (some 3), none⟩,
 ⟨(.load false 1), [.tmp 3], (some 4), none⟩,
 ⟨(.bin .lss), [.tmp 4, .const (.int .i64 1)], (some 5), none⟩,
 ⟨.move, [.tmp 5], (some 6), none⟩,
 ⟨(.fieldAddr 0), [.tmp 1], (some 7), some (6, false)⟩,
 ⟨(.load false 1), [.tmp 7], (some 8), some (6, false)⟩,
 ⟨(.bin .gtr), [.tmp 8, .const (.int .i64 16)], (some 9), some (6, false)⟩,
 ⟨.pick, [.tmp 6, .const (.bool true), .tmp 9], (some 10), none⟩,
 ⟨.move, [.tmp 10], (some 11), none⟩,
 ⟨(.fieldAddr 1), [.tmp 1], (some 12), some (11, false)⟩,
 ⟨(.load false 1), [.tmp 12], (some 13), some (11, false)⟩,
 ⟨(.bin .lss), [.tmp 13, .const (.int .i64 0)], (some 14), some (11, false)⟩,
 ⟨.pick, [.tmp 11, .const (.bool true), .tmp 14], (some 15), none⟩,
 ⟨.move, [.tmp 15], (some 16), none⟩,
 ⟨(.fieldAddr 1), [.tmp 1], (some 17), some (16, false)⟩,
 ⟨(.load false 1), [.tmp 17], (some 18), some (16, false)⟩,
 ⟨(.bin .gtr), [.tmp 18, .const (.int .i64 1)], (some 19), some (16, false)⟩,
 ⟨.pick, [.tmp 16, .const (.bool true), .tmp 19], (some 20), none⟩,
 ⟨.move, [.tmp 20], (some 21), none⟩,
 ⟨(.fieldAddr 2), [.tmp 1], (some 22), some (21, false)⟩,
 ⟨(.load false 1), [.tmp 22], (some 23), some (21, false)⟩,
 ⟨(.callF 78), [.const (.int .i64 0), .tmp 23], (some 24), some (21, false)⟩,
 ⟨.not, [.tmp 24], (some 25), some (21, false)⟩,
 ⟨.pick, [.tmp 21, .const (.bool true), .tmp 25], (some 26), none⟩,
 ⟨.move, [.tmp 26], (some 27), none⟩,
 ⟨(.fieldAddr 3), [.tmp 1], (some 28), some (27, false)⟩,
 ⟨(.load false 1), [.tmp 28], (some 29), some (27, false)⟩,
 ⟨(.bin .lss), [.tmp 29, .const (.int .i64 2)], (some 30), some (27, false)⟩,
 ⟨.pick, [.tmp 27, .const (.bool true), .tmp 30], (some 31), none⟩,
 ⟨.move, [.tmp 31], (some 32), none⟩,
 ⟨(.fieldAddr 3), [.tmp 1], (some 33), some (32, false)⟩,
 ⟨(.load false 1), [.tmp 33], (some 34), some (32, false)⟩,
 ⟨(.bin .gtr), [.tmp 34, .const (.int .i64 4096)], (some 35), some (32, false)⟩,
 ⟨.pick, [.tmp 32, .const (.bool true), .tmp 35], (some 36), none⟩])
 (.cond (.tmp 36) (.seq (.seqR [⟨.move, [.const (.int .i64 2)], (some 2), none⟩])
 .ret)
 .skip))
 (.seq (.seqR [⟨.move, [.const (.int .i64 0)], (some 2), none⟩])
 .ret))), [.tmp 2]⟩
theorem c31_ok : compFunc Tryz.prog Tryz.f31 = some c31 := by kernel_rfl
theorem c31_body : hasBody Tryz.prog 31 = true := hasBody_of Tryz.func31 (by kernel_rfl)
/-- coachyard/yard.New -/
def c32 : PFn := ⟨38, Tr.ofList (List.replicate 38 undefA), (.seq (.seqR [⟨.box, [.tmp 0], (some 1), none⟩,
 ⟨.move, [.const (.ptr none)], (some 2), none⟩,
 ⟨.move, [.const (.int .i64 0)], (some 3), none⟩])
 (.seq (.seqR [⟨(.load true 4), [.tmp 1], (some 10), none⟩,
 ⟨(.callF 7), [.tmp 10], (some 11), none⟩,
 ⟨.move, [.tmp 11], (some 9), none⟩,
 ⟨(.extract 0), [.tmp 9], (some 12), none⟩,
 ⟨(.extract 1), [.tmp 9], (some 13), none⟩,
 ⟨.move, [.tmp 12], (some 4), none⟩,
 ⟨.move, [.tmp 13], (some 5), none⟩])
 (.seq (.seq (.seqR [⟨.move, [.tmp 5], (some 14), none⟩,
 ⟨(.bin .neq), [.tmp 14, .const (.int .i64 0)], (some 15), none⟩])
 (.cond (.tmp 15) (.seq (.seqR [⟨.move, [.tmp 5], (some 16), none⟩,
 ⟨.move, [.const (.ptr none)], (some 2), none⟩,
 ⟨.move, [.tmp 16], (some 3), none⟩])
 .ret)
 .skip))
 (.seq (.seqR [⟨.move, [.tmp 4], (some 18), none⟩,
 ⟨(.callF 16), [.tmp 18], (some 19), none⟩,
 ⟨(.callF 37), [.tmp 19], (some 20), none⟩,
 ⟨.move, [.tmp 20], (some 17), none⟩,
 ⟨(.extract 0), [.tmp 17], (some 21), none⟩,
 ⟨(.extract 1), [.tmp 17], (some 22), none⟩,
 ⟨.move, [.tmp 21], (some 6), none⟩,
 ⟨.move, [.tmp 22], (some 7), none⟩])
 (.seq (.seqR [⟨.move, [.tmp 6], (some 24), none⟩,
 ⟨(.fieldAddr 0), [.tmp 1], (some 25), none⟩,
 ⟨(.load false 1), [.tmp 25], (some 26), none⟩,
 ⟨(.callF 38), [.tmp 24, .tmp 26], (some 27), none⟩,
 ⟨.move, [.tmp 27], (some 23), none⟩,
 ⟨(.extract 0), [.tmp 23], (some 28), none⟩,
 ⟨(.extract 1), [.tmp 23], (some 29), none⟩,
 ⟨.move, [.tmp 28], (some 8), none⟩,
 ⟨.move, [.tmp 29], (some 5), none⟩])
 (.seq (.seqR [⟨.move, [.tmp 4], (some 30), none⟩,
 ⟨.move, [.tmp 8], (some 31), none⟩,
 ⟨(.fieldAddr 0), [.tmp 1], (some 32), none⟩,
 ⟨(.load false 1), [.tmp 32], (some 33), none⟩,
 ⟨(.makeSlice 5 56 [(.int .i64 0), (.int .u64 0), (.slice none 0 0 false), (.bool false), (.int .i64 0)]), [.tmp 33, .tmp 33], (some 34), none⟩,
 ⟨(.build [(.ptr none), (.ptr none), (.slice none 0 0 false), (.slice none 0 0 false)] [(0, 1), (1, 1), (2, 1)]), [.tmp 30, .tmp 31, .tmp 34], (some 35), none⟩,
 ⟨.box, [.tmp 35], (some 36), none⟩,
 ⟨.move, [.tmp 5], (some 37), none⟩,
 ⟨.move, [.tmp 36], (some 2), none⟩,
 ⟨.move, [.tmp 37], (some 3), none⟩])
 .ret)))))), [.tmp 2, .tmp 3]⟩
theorem c32_ok : compFunc Tryz.prog Tryz.f32 = some c32 := by kernel_rfl
theorem c32_body : hasBody Tryz.prog 32 = true := hasBody_of Tryz.func32 (by kernel_rfl)
/-- coachyard/yard.Bound -/
def c33 : PFn := ⟨24, Tr.ofList (List.replicate 24 undefA), (.seq (.seqR [⟨.box, [.tmp 0], (some 1), none⟩,
 ⟨.move, [.const (.int .i64 0)], (some 2), none⟩])
 (.seq (.seq (.seqR [⟨(.load true 4), [.tmp 1], (some 6), none⟩,
 ⟨(.callF 42), [.tmp 6], (some 7), none⟩,
 ⟨.move, [.tmp 7], (some 5), none⟩,
 ⟨(.extract 0), [.tmp 5], (some 8), none⟩,
 ⟨(.extract 1), [.tmp 5], (some 9), none⟩,
 ⟨(.new [(.int .i64 0), (.int .i64 0), (.int .i64 0), (.int .i64 0)]), [], (some 3), none⟩,
 ⟨(.store 4), [.tmp 3, .tmp 8], none, none⟩,
 ⟨.move, [.tmp 9], (some 4), none⟩])
 (.seq (.seqR [⟨.move, [.tmp 4], (some 10), none⟩,
 ⟨(.bin .neq), [.tmp 10, .const (.int .i64 0)], (some 11), none⟩])
 (.cond (.tmp 11) (.seq (.seqR [⟨.move, [.const (.int .i64 0)], (some 2), none⟩])
 .ret)
 .skip)))
 (.seq (.seqR [⟨(.fieldAddr 2), [.tmp 1], (some 12), none⟩,
 ⟨(.load false 1), [.tmp 12], (some 13), none⟩,
 ⟨(.bin .mul), [.const (.int .i64 10), .tmp 13], (some 14), none⟩,
 ⟨(.bin .add), [.const (.int .i64 500), .tmp 14], (some 15), none⟩,
 ⟨(.fieldAddr 3), [.tmp 1], (some 16), none⟩,
 ⟨(.load false 1), [.tmp 16], (some 17), none⟩,
 ⟨(.bin .mul), [.const (.int .i64 5), .tmp 17], (some 18), none⟩,
 ⟨(.bin .add), [.tmp 15, .tmp 18], (some 19), none⟩,
 ⟨(.fieldAddr 0), [.tmp 1], (some 20), none⟩,
 ⟨(.load false 1), [.tmp 20], (some 21), none⟩,
 ⟨(.bin .mul), [.const (.int .i64 8), .tmp 21], (some 22), none⟩,
 ⟨(.bin .add), [.tmp 19, .tmp 22], (some 23), none⟩,
 ⟨.move, [.tmp 23], (some 2), none⟩])
 .ret))), [.tmp 2]⟩
theorem c33_ok : compFunc Tryz.prog Tryz.f33 = some c33 := by kernel_rfl
theorem c33_body : hasBody Tryz.prog 33 = true := hasBody_of Tryz.func33 (by kernel_rfl)
/-- (coachyard/plan.Plan).Init -/
def c37 : PFn := ⟨20, Tr.ofList (List.replicate 20 undefA), (.seq (.seqR [⟨.box, [.tmp 0], (some 1), none⟩,
 ⟨.move, [.const (.ptr none)], (some 2), none⟩,
 ⟨.move, [.const (.int .i64 0)], (some 3), none⟩])
 (.seq (.seqR [⟨(.load true 4), [.tmp 1], (some 7), none⟩,
 ⟨(.callF 17), [.tmp 7], (some 8), none⟩,
 ⟨(.callF 13), [.tmp 8], (some 9), none⟩,
 ⟨.move, [.tmp 9], (some 6), none⟩,
 ⟨(.extract 0), [.tmp 6], (some 10), none⟩,
 ⟨(.extract 1), [.tmp 6], (some 11), none⟩,
 ⟨.move, [.tmp 10], (some 4), none⟩,
 ⟨.move, [.tmp 11], (some 5), none⟩])
 (.seq (.seq (.seqR [⟨.move, [.tmp 5], (some 12), none⟩,
 ⟨(.bin .eql), [.tmp 12, .const (.int .i64 0)], (some 13), none⟩])
 (.cond (.tmp 13) (.seqR [⟨(.load true 4), [.tmp 1], (some 14), none⟩,
 ⟨(.callF 63), [.tmp 14], (some 15), none⟩,
 ⟨.move, [.tmp 4], (some 16), none⟩,
 ⟨(.callF 83), [.tmp 15, .tmp 16], (some 17), none⟩,
 ⟨.move, [.tmp 17], (some 5), none⟩])
 .skip))
 (.seq (.seqR [⟨.move, [.tmp 4], (some 18), none⟩,
 ⟨.move, [.tmp 5], (some 19), none⟩,
 ⟨.move, [.tmp 18], (some 2), none⟩,
 ⟨.move, [.tmp 19], (some 3), none⟩])
 .ret)))), [.tmp 2, .tmp 3]⟩
theorem c37_ok : compFunc Tryz.prog Tryz.f37 = some c37 := by kernel_rfl
theorem c37_body : hasBody Tryz.prog 37 = true := hasBody_of Tryz.func37 (by kernel_rfl)
/-- coachyard/loom.New -/
def c38 : PFn := ⟨21, Tr.ofList (List.replicate 21 undefA), (.seq (.seqR [⟨.move, [.const (.ptr none)], (some 4), none⟩,
 ⟨.move, [.const (.int .i64 0)], (some 5), none⟩])
 (.seq (.block 0 (.seq (.seqR [⟨.move, [.tmp 0], (some 7), none⟩,
 ⟨(.eqPtr false), [.tmp 7, .const (.ptr none)], (some 8), none⟩,
 ⟨.move, [.tmp 8], (some 6), none⟩])
 (.cond (.tmp 6) (.seq (.seqR [⟨.move, [.const (.ptr none)], (some 4), none⟩,
 ⟨.move, [.const (.int .i64 1)], (some 5), none⟩])
 .ret)
 (.seq (.seqR [⟨.move, [.tmp 1], (some 10), none⟩,
 ⟨(.bin .lss), [.tmp 10, .const (.int .i64 1)], (some 11), none⟩,
 ⟨.move, [.tmp 11], (some 12), none⟩,
 ⟨.move, [.tmp 1], (some 13), some (12, false)⟩,
 ⟨(.bin .gtr), [.tmp 13, .const (.int .i64 16)], (some 14), some (12, false)⟩,
 ⟨.pick, [.tmp 12, .const (.bool true), .tmp 14], (some 15), none⟩,
 ⟨.move, [.tmp 15], (some 9), none⟩])
 (.cond (.tmp 9) (.seq (.seqR [⟨.move, [.const (.ptr none)], (some 4), none⟩,
 ⟨.move, [.const (.int .i64 2)], (some 5), none⟩])
 .ret)
 .skip)))))
 (.seq (.seqR [⟨.move, [.tmp 0], (some 16), none⟩,
 ⟨.move, [.tmp 1], (some 17), none⟩,
 ⟨(.makeSlice 1 8 [(.ptr none)]), [.tmp 17, .tmp 17], (some 18), none⟩,
 ⟨(.build [(.ptr none), (.slice none 0 0 false), (.int .i64 0)] [(0, 1), (1, 1)]), [.tmp 16, .tmp 18], (some 19), none⟩,
 ⟨.box, [.tmp 19], (some 20), none⟩,
 ⟨.move, [.tmp 20], (some 4), none⟩,
 ⟨.move, [.const (.int .i64 0)], (some 5), none⟩])
 .ret))), [.tmp 4, .tmp 5]⟩
theorem c38_ok : compFunc Tryz.prog Tryz.f38 = some c38 := by kernel_rfl
theorem c38_body : hasBody Tryz.prog 38 = true := hasBody_of Tryz.func38 (by kernel_rfl)
/-- (*coachyard/loom.Loom).Start -/
def c39 : PFn := ⟨30, Tr.ofList (List.replicate 30 undefA), (.seq (.seqR [⟨.move, [.const (.int .i64 0)], (some 6), none⟩])
 (.seq (.seq (.seqR [⟨.move, [.tmp 0], (some 8), none⟩,
 ⟨(.eqPtr false), [.tmp 8, .const (.ptr none)], (some 9), none⟩,
 ⟨.move, [.tmp 9], (some 10), none⟩,
 ⟨.move, [.tmp 2], (some 11), some (10, false)⟩,
 ⟨(.eqPtr false), [.tmp 11, .const (.ptr none)], (some 12), some (10, false)⟩,
 ⟨.pick, [.tmp 10, .const (.bool true), .tmp 12], (some 13), none⟩])
 (.cond (.tmp 13) (.seq (.seqR [⟨.move, [.const (.int .i64 1)], (some 6), none⟩])
 .ret)
 .skip))
 (.seq (.seq (.seqR [⟨.move, [.tmp 0], (some 14), none⟩,
 ⟨.move, [.tmp 1], (some 15), none⟩,
 ⟨(.callF 84), [.tmp 14, .tmp 15], (some 16), none⟩,
 ⟨.move, [.tmp 16], (some 7), none⟩])
 (.seq (.seqR [⟨.move, [.tmp 7], (some 17), none⟩,
 ⟨(.bin .neq), [.tmp 17, .const (.int .i64 0)], (some 18), none⟩])
 (.cond (.tmp 18) (.seq (.seqR [⟨.move, [.tmp 7], (some 19), none⟩,
 ⟨.move, [.tmp 19], (some 6), none⟩])
 .ret)
 .skip)))
 (.seq (.seq (.seqR [⟨.move, [.tmp 0], (some 20), none⟩,
 ⟨.move, [.tmp 1], (some 21), none⟩,
 ⟨(.callF 74), [.tmp 20, .tmp 21], (some 22), none⟩])
 (.cond (.tmp 22) (.seq (.seqR [⟨.move, [.const (.int .i64 8)], (some 6), none⟩])
 .ret)
 .skip))
 (.seq (.seqR [⟨.move, [.tmp 0], (some 23), none⟩,
 ⟨.nilCheck, [.tmp 23], (some 24), none⟩,
 ⟨(.fieldAddr 1), [.tmp 24], (some 25), none⟩,
 ⟨(.load false 1), [.tmp 25], (some 26), none⟩,
 ⟨.move, [.tmp 1], (some 27), none⟩,
 ⟨.move, [.tmp 2], (some 28), none⟩,
 ⟨(.indexAddrS 1), [.tmp 26, .tmp 27], (some 29), none⟩,
 ⟨(.store 1), [.tmp 29, .tmp 28], none, none⟩])
 (.seq (.seqR [⟨.move, [.const (.int .i64 0)], (some 6), none⟩])
 .ret)))))), [.tmp 6]⟩
theorem c39_ok : compFunc Tryz.prog Tryz.f39 = some c39 := by kernel_rfl
theorem c39_body : hasBody Tryz.prog 39 = true := hasBody_of Tryz.func39 (by kernel_rfl)
/-- (*coachyard/loom.Loom).Alone -/
def c40 : PFn := ⟨59, Tr.ofList (List.replicate 59 undefA), (.seq (.seqR [⟨.move, [.const (.int .i64 0)], (some 6), none⟩,
 ⟨.move, [.const (.int .i64 0)], (some 7), none⟩])
 (.seq (.seq (.seqR [⟨.move, [.tmp 0], (some 13), none⟩,
 ⟨.move, [.tmp 1], (some 14), none⟩,
 ⟨(.callF 85), [.tmp 13, .tmp 14], (some 15), none⟩,
 ⟨.move, [.tmp 15], (some 12), none⟩,
 ⟨(.extract 0), [.tmp 12], (some 16), none⟩,
 ⟨(.extract 1), [.tmp 12], (some 17), none⟩,
 ⟨(.new [(.int .i64 0), (.int .i64 0), (.int .u64 0), (.int .u64 0)]), [], (some 8), none⟩,
 ⟨(.store 4), [.tmp 8, .tmp 16], none, none⟩,
 ⟨.move, [.tmp 17], (some 9), none⟩])
 (.seq (.seqR [⟨.move, [.tmp 9], (some 18), none⟩,
 ⟨(.bin .neq), [.tmp 18, .const (.int .i64 0)], (some 19), none⟩,
 ⟨.move, [.tmp 19], (some 20), none⟩,
 ⟨.move, [.tmp 9], (some 21), some (20, true)⟩,
 ⟨(.bin .neq), [.tmp 21, .const (.int .i64 11)], (some 22), some (20, true)⟩,
 ⟨.pick, [.tmp 20, .tmp 22, .const (.bool false)], (some 23), none⟩])
 (.cond (.tmp 23) (.seq (.seqR [⟨.move, [.tmp 9], (some 24), none⟩,
 ⟨.move, [.const (.int .i64 0)], (some 6), none⟩,
 ⟨.move, [.tmp 24], (some 7), none⟩])
 .ret)
 .skip)))
 (.seq (.seqR [⟨.move, [.const (.int .i64 0)], (some 10), none⟩])
 (.seq (.block 0 (.loop (.seq (.seq (.seqR [⟨.move, [.tmp 10], (some 25), none⟩,
 ⟨.move, [.tmp 2], (some 26), none⟩,
 ⟨(.bin .lss), [.tmp 25, .tmp 26], (some 27), none⟩])
 (.cond (.tmp 27) .skip
 (.exit 0)))
 (.seq (.block 1 (.seq (.seqR [⟨.move, [.tmp 0], (some 30), none⟩,
 ⟨.move, [.tmp 1], (some 31), none⟩,
 ⟨(.callF 72), [.tmp 30, .tmp 31], (some 32), none⟩,
 ⟨.move, [.tmp 32], (some 11), none⟩])
 (.block 2 (.seq (.seqR [⟨.move, [.tmp 11], (some 34), none⟩,
 ⟨(.bin .eql), [.tmp 34, .const (.int .i64 9)], (some 35), none⟩,
 ⟨.move, [.tmp 35], (some 33), none⟩])
 (.cond (.tmp 33) (.seq (.seqR [⟨.move, [.tmp 10], (some 36), none⟩,
 ⟨(.bin .add), [.tmp 36, .const (.int .i64 1)], (some 37), none⟩,
 ⟨.move, [.tmp 37], (some 6), none⟩,
 ⟨.move, [.const (.int .i64 0)], (some 7), none⟩])
 .ret)
 (.seq (.seqR [⟨.move, [.tmp 11], (some 39), none⟩,
 ⟨(.bin .eql), [.tmp 39, .const (.int .i64 10)], (some 40), none⟩,
 ⟨.move, [.tmp 40], (some 41), none⟩,
 ⟨.move, [.tmp 0], (some 42), some (41, true)⟩,
 ⟨.move, [.tmp 1], (some 43), some (41, true)⟩,
 ⟨(.callF 74), [.tmp 42, .tmp 43], (some 44), some (41, true)⟩,
 ⟨.not, [.tmp 44], (some 45), some (41, true)⟩,
 ⟨.pick, [.tmp 41, .tmp 45, .const (.bool false)], (some 46), none⟩,
 ⟨.move, [.tmp 46], (some 38), none⟩])
 (.cond (.tmp 38) (.seq (.seqR [⟨.move, [.tmp 10], (some 47), none⟩,
 ⟨.move, [.tmp 47], (some 6), none⟩,
 ⟨.move, [.const (.int .i64 0)], (some 7), none⟩])
 .ret)
 (.seq (.seqR [⟨.move, [.tmp 11], (some 49), none⟩,
 ⟨(.bin .neq), [.tmp 49, .const (.int .i64 0)], (some 50), none⟩,
 ⟨.move, [.tmp 50], (some 48), none⟩])
 (.cond (.tmp 48) (.seq (.seqR [⟨.move, [.tmp 10], (some 51), none⟩,
 ⟨.move, [.tmp 11], (some 52), none⟩,
 ⟨.move, [.tmp 51], (some 6), none⟩,
 ⟨.move, [.tmp 52], (some 7), none⟩])
 .ret)
 .skip)))))))))
 (.seqR [⟨.move, [.tmp 10], (some 28), none⟩,
 ⟨(.bin .add), [.tmp 28, .const (.int .i64 1)], (some 29), none⟩,
 ⟨.move, [.tmp 29], (some 10), none⟩])))))
 (.seq (.seq (.seqR [⟨.move, [.tmp 0], (some 53), none⟩,
 ⟨.move, [.tmp 1], (some 54), none⟩,
 ⟨(.callF 74), [.tmp 53, .tmp 54], (some 55), none⟩,
 ⟨.not, [.tmp 55], (some 56), none⟩])
 (.cond (.tmp 56) (.seq (.seqR [⟨.move, [.tmp 10], (some 57), none⟩,
 ⟨.move, [.tmp 57], (some 6), none⟩,
 ⟨.move, [.const (.int .i64 0)], (some 7), none⟩])
 .ret)
 .skip))
 (.seq (.seqR [⟨.move, [.tmp 10], (some 58), none⟩,
 ⟨.move, [.tmp 58], (some 6), none⟩,
 ⟨.move, [.const (.int .i64 14)], (some 7), none⟩])
 .ret)))))), [.tmp 6, .tmp 7]⟩
theorem c40_ok : compFunc Tryz.prog Tryz.f40 = some c40 := by kernel_rfl
theorem c40_body : hasBody Tryz.prog 40 = true := hasBody_of Tryz.func40 (by kernel_rfl)
/-- (*coachyard/loom.Loom).Result -/
def c41 : PFn := ⟨21, Tr.ofList (List.replicate 21 undefA), (.seq (.seqR [⟨(.new [(.int .i64 0), (.int .u64 0), (.slice none 0 0 false)]), [], (some 4), none⟩,
 ⟨.move, [.const (.bool false)], (some 5), none⟩])
 (.seq (.seq (.seqR [⟨.move, [.tmp 0], (some 6), none⟩,
 ⟨.move, [.tmp 1], (some 7), none⟩,
 ⟨(.callF 84), [.tmp 6, .tmp 7], (some 8), none⟩,
 ⟨(.bin .neq), [.tmp 8, .const (.int .i64 0)], (some 9), none⟩])
 (.cond (.tmp 9) (.seq (.seqR [⟨(.build [(.int .i64 0), (.int .u64 0), (.slice none 0 0 false)] []), [], (some 10), none⟩,
 ⟨(.store 3), [.tmp 4, .tmp 10], none, none⟩,
 ⟨.move, [.const (.bool false)], (some 5), none⟩])
 .ret)
 .skip))
 (.seq (.seqR [⟨.move, [.tmp 0], (some 11), none⟩,
 ⟨.nilCheck, [.tmp 11], (some 12), none⟩,
 ⟨(.fieldAddr 1), [.tmp 12], (some 13), none⟩,
 ⟨(.load false 1), [.tmp 13], (some 14), none⟩,
 ⟨.move, [.tmp 1], (some 15), none⟩,
 ⟨(.indexAddrS 1), [.tmp 14, .tmp 15], (some 16), none⟩,
 ⟨(.load false 1), [.tmp 16], (some 17), none⟩,
 ⟨(.callF 9), [.tmp 17], (some 18), none⟩,
 ⟨(.extract 0), [.tmp 18], (some 19), none⟩,
 ⟨(.extract 1), [.tmp 18], (some 20), none⟩,
 ⟨(.store 3), [.tmp 4, .tmp 19], none, none⟩,
 ⟨.move, [.tmp 20], (some 5), none⟩])
 .ret))), [.cell 4 true 3, .tmp 5]⟩
theorem c41_ok : compFunc Tryz.prog Tryz.f41 = some c41 := by kernel_rfl
theorem c41_body : hasBody Tryz.prog 41 = true := hasBody_of Tryz.func41 (by kernel_rfl)
/-- coachyard/plan.New -/
def c42 : PFn := ⟨10, Tr.ofList (List.replicate 10 undefA), (.seq (.seqR [⟨.box, [.tmp 0], (some 1), none⟩,
 ⟨(.new [(.int .i64 0), (.int .i64 0), (.int .i64 0), (.int .i64 0)]), [], (some 2), none⟩,
 ⟨.move, [.const (.int .i64 0)], (some 3), none⟩])
 (.seq (.seq (.seqR [⟨(.load true 4), [.tmp 1], (some 4), none⟩,
 ⟨(.callF 86), [.tmp 4], (some 5), none⟩,
 ⟨.not, [.tmp 5], (some 6), none⟩])
 (.cond (.tmp 6) (.seq (.seqR [⟨(.build [(.int .i64 0), (.int .i64 0), (.int .i64 0), (.int .i64 0)] []), [], (some 7), none⟩,
 ⟨(.store 4), [.tmp 2, .tmp 7], none, none⟩,
 ⟨.move, [.const (.int .i64 2)], (some 3), none⟩])
 .ret)
 .skip))
 (.seq (.seqR [⟨(.load true 4), [.tmp 1], (some 8), none⟩,
 ⟨(.build [(.int .i64 0), (.int .i64 0), (.int .i64 0), (.int .i64 0)] [(0, 4)]), [.tmp 8], (some 9), none⟩,
 ⟨(.store 4), [.tmp 2, .tmp 9], none, none⟩,
 ⟨.move, [.const (.int .i64 0)], (some 3), none⟩])
 .ret))), [.cell 2 true 4, .tmp 3]⟩
theorem c42_ok : compFunc Tryz.prog Tryz.f42 = some c42 := by kernel_rfl
theorem c42_body : hasBody Tryz.prog 42 = true := hasBody_of Tryz.func42 (by kernel_rfl)
/-- (*coachyard/pool.Pool).Call$1 -/
def c43 : PFn := ⟨12, Tr.ofList (List.replicate 12 undefA), (.seq (.seqR [⟨.box, [.tmp 2], (some 5), none⟩,
 ⟨.move, [.const (.ptr none)], (some 6), none⟩])
 (.seq (.seqR [⟨.move, [.tmp 0], (some 7), none⟩,
 ⟨.move, [.tmp 1], (some 8), none⟩,
 ⟨(.fieldAddr 1), [.tmp 5], (some 9), none⟩,
 ⟨(.load false 1), [.tmp 9], (some 10), none⟩,
 ⟨(.callF 10), [.tmp 7, .tmp 8, .tmp 10], (some 11), none⟩,
 ⟨.move, [.tmp 11], (some 6), none⟩])
 .ret)), [.tmp 6]⟩
theorem c43_ok : compFunc Tryz.prog Tryz.f43 = some c43 := by kernel_rfl
theorem c43_body : hasBody Tryz.prog 43 = true := hasBody_of Tryz.func43 (by kernel_rfl)
/-- (*coachyard/pool.Pool).Call$2 -/
def c44 : PFn := ⟨12, Tr.ofList (List.replicate 12 undefA), (.seq (.seqR [⟨.box, [.tmp 2], (some 5), none⟩,
 ⟨.move, [.const (.ptr none)], (some 6), none⟩])
 (.seq (.seqR [⟨.move, [.tmp 0], (some 7), none⟩,
 ⟨.move, [.tmp 1], (some 8), none⟩,
 ⟨(.fieldAddr 2), [.tmp 5], (some 9), none⟩,
 ⟨(.load false 1), [.tmp 9], (some 10), none⟩,
 ⟨(.callF 11), [.tmp 7, .tmp 8, .tmp 10], (some 11), none⟩,
 ⟨.move, [.tmp 11], (some 6), none⟩])
 .ret)), [.tmp 6]⟩
theorem c44_ok : compFunc Tryz.prog Tryz.f44 = some c44 := by kernel_rfl
theorem c44_body : hasBody Tryz.prog 44 = true := hasBody_of Tryz.func44 (by kernel_rfl)
/-- (*coachyard/pool.Pool).parks -/
def c45 : PFn := ⟨10, Tr.ofList (List.replicate 10 undefA), (.seq (.seqR [⟨.box, [.tmp 2], (some 5), none⟩,
 ⟨.move, [.const (.ptr none)], (some 6), none⟩])
 (.seq (.seqR [⟨.move, [.tmp 0], (some 7), none⟩,
 ⟨.move, [.tmp 1], (some 8), none⟩,
 ⟨(.callF 12), [.tmp 7, .tmp 8], (some 9), none⟩,
 ⟨.move, [.tmp 9], (some 6), none⟩])
 .ret)), [.tmp 6]⟩
theorem c45_ok : compFunc Tryz.prog Tryz.f45 = some c45 := by kernel_rfl
theorem c45_body : hasBody Tryz.prog 45 = true := hasBody_of Tryz.func45 (by kernel_rfl)
/-- coachyard/walk.New -/
def c46 : PFn := ⟨12, Tr.ofList (List.replicate 12 undefA), (.seq (.seqR [⟨.move, [.const (.ptr none)], (some 2), none⟩])
 (.seq (.seqR [⟨(.build [(.int .i64 0), (.int .i64 0), (.int .u64 0), (.int .u64 0), .nilFunc, (.bool false), (.ptr none), .nilFunc, (.bool false), (.int .i64 0), (.int .u64 0), (.slice none 0 0 false), (.slice none 0 0 false)] []), [], (some 4), none⟩,
 ⟨.box, [.tmp 4], (some 5), none⟩,
 ⟨.move, [.tmp 5], (some 3), none⟩])
 (.seq (.seq (.seqR [⟨.move, [.tmp 0], (some 6), none⟩,
 ⟨(.eqNil 2 true), [.tmp 6, .const .nilFunc], (some 7), none⟩])
 (.cond (.tmp 7) (.seqR [⟨.move, [.tmp 0], (some 8), none⟩,
 ⟨.move, [.tmp 3], (some 9), none⟩,
 ⟨.callV, [.tmp 8, .tmp 9], (some 10), none⟩])
 .skip))
 (.seq (.seqR [⟨.move, [.tmp 3], (some 11), none⟩,
 ⟨.move, [.tmp 11], (some 2), none⟩])
 .ret)))), [.tmp 2]⟩
theorem c46_ok : compFunc Tryz.prog Tryz.f46 = some c46 := by kernel_rfl
theorem c46_body : hasBody Tryz.prog 46 = true := hasBody_of Tryz.func46 (by kernel_rfl)
/-- (*coachyard/pool.Pool).Call$3 -/
def c47 : PFn := ⟨4, Tr.ofList (List.replicate 4 undefA), (.seqR [⟨.move, [.tmp 0], (some 2), none⟩,
 ⟨(.callF 48), [.tmp 2, .const (.int .i64 2)], (some 3), none⟩]), []⟩
theorem c47_ok : compFunc Tryz.prog Tryz.f47 = some c47 := by kernel_rfl
theorem c47_body : hasBody Tryz.prog 47 = true := hasBody_of Tryz.func47 (by kernel_rfl)
/-- (*coachyard/walk.Walk).Break -/
def c48 : PFn := ⟨8, Tr.ofList (List.replicate 8 undefA), (.seqR [⟨.move, [.tmp 0], (some 4), none⟩,
 ⟨.move, [.tmp 1], (some 5), none⟩,
 ⟨(.build [(.int .i64 0), (.int .u64 0), (.slice none 0 0 false)] [(0, 1)]), [.tmp 5], (some 6), none⟩,
 ⟨(.callF 87), [.tmp 4, .tmp 6], (some 7), none⟩]), []⟩
theorem c48_ok : compFunc Tryz.prog Tryz.f48 = some c48 := by kernel_rfl
theorem c48_body : hasBody Tryz.prog 48 = true := hasBody_of Tryz.func48 (by kernel_rfl)
/-- slices.Clone[[]uint64,uint64] -/
def c49 : PFn := ⟨8, Tr.ofList (List.replicate 8 undefA), (.seq (.seqR [⟨.move, [.const (.slice none 0 0 false)], (some 2), none⟩])
 (.seq (.seq (.seqR [⟨.move, [.tmp 0], (some 3), none⟩,
 ⟨(.eqNil 0 false), [.tmp 3, .const (.slice none 0 0 false)], (some 4), none⟩])
 (.cond (.tmp 4) (.seq (.seqR [⟨.move, [.const (.slice none 0 0 false)], (some 2), none⟩])
 .ret)
 .skip))
 (.seq (.seqR [⟨(.sliceLit 0 [] []), [], (some 5), none⟩,
 ⟨.move, [.tmp 0], (some 6), none⟩,
 ⟨(.append 1 8), [.tmp 5, .tmp 6], (some 7), none⟩,
 ⟨.move, [.tmp 7], (some 2), none⟩])
 .ret))), [.tmp 2]⟩
theorem c49_ok : compFunc Tryz.prog Tryz.f49 = some c49 := by kernel_rfl
theorem c49_body : hasBody Tryz.prog 49 = true := hasBody_of Tryz.func49 (by kernel_rfl)
/-- (*coachyard/pool.Pool).begun -/
def c50 : PFn := ⟨9, Tr.ofList (List.replicate 9 undefA), (.seq (.seqR [⟨.box, [.tmp 0], (some 3), none⟩,
 ⟨.box, [.tmp 1], (some 4), none⟩,
 ⟨.box, [.tmp 2], (some 5), none⟩,
 ⟨.move, [.const (.ptr none)], (some 6), none⟩])
 (.seq (.seqR [⟨(.mkFunc (.func 88) 0), [.tmp 3, .tmp 4, .tmp 5], (some 7), none⟩,
 ⟨(.callF 46), [.tmp 7], (some 8), none⟩,
 ⟨.move, [.tmp 8], (some 6), none⟩])
 .ret)), [.tmp 6]⟩
theorem c50_ok : compFunc Tryz.prog Tryz.f50 = some c50 := by kernel_rfl
theorem c50_body : hasBody Tryz.prog 50 = true := hasBody_of Tryz.func50 (by kernel_rfl)
/-- (*coachyard/pool.Pool).Submit$1 -/
def c51 : PFn := ⟨20, Tr.ofList (List.replicate 20 undefA), (.seq (.seqR [⟨.box, [.tmp 0], (some 4), none⟩])
 (.seq (.seqR [⟨(.load true 3), [.tmp 4], (some 6), none⟩,
 ⟨(.load false 1), [.tmp 1], (some 7), none⟩,
 ⟨(.build [(.ptr none), (.ptr none), (.int .i64 0), (.int .u64 0), (.slice none 0 0 false)] [(0, 3), (3, 1)]), [.tmp 6, .tmp 7], (some 8), none⟩,
 ⟨.box, [.tmp 8], (some 9), none⟩,
 ⟨.move, [.tmp 9], (some 5), none⟩])
 (.drawR [⟨⟨(.fieldAddr 1), [.tmp 4], (some 10), none⟩, false, false, 0, 2⟩,
 ⟨⟨(.load false 1), [.tmp 10], (some 11), none⟩, false, false, 0, 2⟩,
 ⟨⟨(.load false 1), [.tmp 2], (some 12), none⟩, false, false, 0, 0⟩,
 ⟨⟨(.load false 1), [.tmp 3], (some 13), none⟩, false, false, 0, 0⟩,
 ⟨⟨(.callF 15), [.tmp 12, .tmp 13], (some 14), none⟩, true, false, 0, 1⟩,
 ⟨⟨(.load false 1), [.tmp 1], (some 15), none⟩, false, false, 0, 1⟩,
 ⟨⟨(.callF 53), [.tmp 14, .tmp 15], (some 16), none⟩, true, false, 1, 2⟩,
 ⟨⟨.move, [.tmp 5], (some 17), none⟩, false, false, 0, 2⟩,
 ⟨⟨(.mkFunc (.func 54) 1), [.tmp 17], (some 18), none⟩, false, false, 0, 2⟩,
 ⟨⟨(.callF 52), [.tmp 11, .tmp 16, .tmp 18], (some 19), none⟩, true, false, 2, 3⟩]))), []⟩
theorem c51_ok : compFunc Tryz.prog Tryz.f51 = some c51 := by kernel_rfl
theorem c51_body : hasBody Tryz.prog 51 = true := hasBody_of Tryz.func51 (by kernel_rfl)
/-- (*coachyard/walk.Walk).Into -/
def c52 : PFn := ⟨19, Tr.ofList (List.replicate 19 undefA), (.seq (.seq (.seqR [⟨.move, [.tmp 0], (some 6), none⟩,
 ⟨(.callF 89), [.tmp 6], (some 7), none⟩,
 ⟨.not, [.tmp 7], (some 8), none⟩])
 (.cond (.tmp 8) .ret
 .skip))
 (.seq (.seqR [⟨.move, [.tmp 0], (some 9), none⟩,
 ⟨.move, [.tmp 0], (some 10), none⟩,
 ⟨.move, [.tmp 1], (some 11), none⟩,
 ⟨.move, [.tmp 2], (some 12), none⟩,
 ⟨.nilCheck, [.tmp 9], (some 13), none⟩,
 ⟨(.fieldAddr 6), [.tmp 13], (some 14), none⟩,
 ⟨(.store 1), [.tmp 14, .tmp 11], none, none⟩,
 ⟨.nilCheck, [.tmp 10], (some 15), none⟩,
 ⟨(.fieldAddr 7), [.tmp 15], (some 16), none⟩,
 ⟨(.store 1), [.tmp 16, .tmp 12], none, none⟩])
 (.seqR [⟨.move, [.tmp 0], (some 17), none⟩,
 ⟨(.callF 90), [.tmp 17], (some 18), none⟩]))), []⟩
theorem c52_ok : compFunc Tryz.prog Tryz.f52 = some c52 := by kernel_rfl
theorem c52_body : hasBody Tryz.prog 52 = true := hasBody_of Tryz.func52 (by kernel_rfl)
/-- (coachyard/local.Row).Push -/
def c53 : PFn := ⟨9, Tr.ofList (List.replicate 9 undefA), (.seq (.seqR [⟨.box, [.tmp 0], (some 2), none⟩,
 ⟨.move, [.const (.ptr none)], (some 4), none⟩])
 (.seq (.seqR [⟨(.load true 3), [.tmp 2], (some 5), none⟩,
 ⟨(.callF 91), [.tmp 5], (some 6), none⟩,
 ⟨.move, [.tmp 1], (some 7), none⟩,
 ⟨(.invoke [(49, 53), (202, 305), (203, 321), (205, 336)] []), [.tmp 6, .tmp 7], (some 8), none⟩,
 ⟨.move, [.tmp 8], (some 4), none⟩])
 .ret)), [.tmp 4]⟩
theorem c53_ok : compFunc Tryz.prog Tryz.f53 = some c53 := by kernel_rfl
theorem c53_body : hasBody Tryz.prog 53 = true := hasBody_of Tryz.func53 (by kernel_rfl)
/-- (*coachyard/pool.submit).pushed -/
def c54 : PFn := ⟨61, Tr.ofList (List.replicate 61 undefA), (.seq (.seqR [⟨.box, [.tmp 1], (some 3), none⟩])
 (.seq (.seq (.seqR [⟨(.fieldAddr 0), [.tmp 3], (some 4), none⟩,
 ⟨(.load false 1), [.tmp 4], (some 5), none⟩])
 (.block 0 (.seq (.seqR [⟨(.bin .eql), [.tmp 5, .const (.int .i64 0)], (some 15), none⟩,
 ⟨.move, [.tmp 15], (some 14), none⟩])
 (.cond (.tmp 14) (.seq (.drawR [⟨⟨.move, [.tmp 0], (some 16), none⟩, false, false, 0, 0⟩,
 ⟨⟨.nilCheck, [.tmp 16], (some 17), none⟩, false, false, 0, 0⟩,
 ⟨⟨(.fieldAddr 0), [.tmp 17], (some 18), none⟩, false, false, 0, 0⟩,
 ⟨⟨(.load true 3), [.tmp 18], (some 19), none⟩, false, false, 0, 0⟩,
 ⟨⟨.move, [.tmp 0], (some 20), none⟩, false, false, 0, 0⟩,
 ⟨⟨.nilCheck, [.tmp 20], (some 21), none⟩, false, false, 0, 0⟩,
 ⟨⟨(.fieldAddr 0), [.tmp 21], (some 22), none⟩, false, false, 0, 0⟩,
 ⟨⟨(.load true 3), [.tmp 22], (some 23), none⟩, false, false, 0, 0⟩,
 ⟨⟨(.mkFunc (.func 93) 1), [.tmp 23], (some 24), none⟩, false, false, 0, 0⟩,
 ⟨⟨(.callF 92), [.tmp 19, .tmp 24], (some 25), none⟩, true, false, 0, 1⟩])
 .ret)
 (.seq (.seq (.seqR [⟨(.bin .eql), [.tmp 5, .const (.int .i64 4)], (some 27), none⟩,
 ⟨.move, [.tmp 27], (some 26), none⟩])
 (.cond (.tmp 26) .skip
 (.seqR [⟨(.bin .eql), [.tmp 5, .const (.int .i64 8)], (some 28), none⟩,
 ⟨.move, [.tmp 28], (some 26), none⟩])))
 (.cond (.tmp 26) .skip
 (.seq (.drawR [⟨⟨.move, [.tmp 0], (some 6), none⟩, false, false, 0, 0⟩,
 ⟨⟨.nilCheck, [.tmp 6], (some 7), none⟩, false, false, 0, 0⟩,
 ⟨⟨(.fieldAddr 0), [.tmp 7], (some 8), none⟩, false, false, 0, 0⟩,
 ⟨⟨(.fieldAddr 1), [.tmp 8], (some 9), none⟩, false, false, 0, 0⟩,
 ⟨⟨(.load false 1), [.tmp 9], (some 10), none⟩, false, false, 0, 0⟩,
 ⟨⟨(.fieldAddr 0), [.tmp 3], (some 11), none⟩, false, false, 0, 0⟩,
 ⟨⟨(.load false 1), [.tmp 11], (some 12), none⟩, false, false, 0, 0⟩,
 ⟨⟨(.callF 48), [.tmp 10, .tmp 12], (some 13), none⟩, true, false, 0, 1⟩])
 .ret)))))))
 (.seq (.seqR [⟨.move, [.tmp 0], (some 29), none⟩,
 ⟨(.fieldAddr 2), [.tmp 3], (some 30), none⟩,
 ⟨(.load false 1), [.tmp 30], (some 31), none⟩,
 ⟨.nilCheck, [.tmp 29], (some 32), none⟩,
 ⟨(.fieldAddr 4), [.tmp 32], (some 33), none⟩,
 ⟨(.store 1), [.tmp 33, .tmp 31], none, none⟩])
 .fail))), []⟩
theorem c54_ok : compFunc Tryz.prog Tryz.f54 = some c54 := by kernel_rfl
theorem c54_body : hasBody Tryz.prog 54 = true := hasBody_of Tryz.func54 (by kernel_rfl)
/-- (*coachyard/pool.Pool).Next$1 -/
def c55 : PFn := ⟨21, Tr.ofList (List.replicate 21 undefA), (.seq (.seqR [⟨.box, [.tmp 0], (some 4), none⟩])
 (.seq (.drawR [⟨⟨(.load true 3), [.tmp 4], (some 6), none⟩, false, false, 0, 1⟩,
 ⟨⟨(.load true 3), [.tmp 4], (some 7), none⟩, false, false, 0, 0⟩,
 ⟨⟨(.load false 1), [.tmp 1], (some 8), none⟩, false, false, 0, 0⟩,
 ⟨⟨(.callF 56), [.tmp 7, .tmp 8], (some 9), none⟩, true, false, 0, 1⟩,
 ⟨⟨(.build [(.ptr none), (.ptr none), (.int .i64 0), (.slice none 0 0 false), (.bool false), (.int .i64 0), (.int .u64 0), (.slice none 0 0 false)] [(0, 3), (3, 1)]), [.tmp 6, .tmp 9], (some 10), none⟩, false, false, 1, 1⟩,
 ⟨⟨.box, [.tmp 10], (some 11), none⟩, true, false, 1, 2⟩,
 ⟨⟨.move, [.tmp 11], (some 5), none⟩, false, false, 2, 2⟩])
 (.drawR [⟨⟨(.fieldAddr 1), [.tmp 4], (some 12), none⟩, false, false, 0, 2⟩,
 ⟨⟨(.load false 1), [.tmp 12], (some 13), none⟩, false, false, 0, 2⟩,
 ⟨⟨(.load false 1), [.tmp 2], (some 14), none⟩, false, false, 0, 0⟩,
 ⟨⟨(.load false 1), [.tmp 3], (some 15), none⟩, false, false, 0, 0⟩,
 ⟨⟨(.callF 15), [.tmp 14, .tmp 15], (some 16), none⟩, true, false, 0, 1⟩,
 ⟨⟨(.callF 57), [.tmp 16], (some 17), none⟩, true, false, 1, 2⟩,
 ⟨⟨.move, [.tmp 5], (some 18), none⟩, false, false, 0, 2⟩,
 ⟨⟨(.mkFunc (.func 58) 1), [.tmp 18], (some 19), none⟩, false, false, 0, 2⟩,
 ⟨⟨(.callF 52), [.tmp 13, .tmp 17, .tmp 19], (some 20), none⟩, true, false, 2, 3⟩]))), []⟩
theorem c55_ok : compFunc Tryz.prog Tryz.f55 = some c55 := by kernel_rfl
theorem c55_body : hasBody Tryz.prog 55 = true := hasBody_of Tryz.func55 (by kernel_rfl)
/-- (coachyard/pool.call).order -/
def c56 : PFn := ⟨54, Tr.ofList (List.replicate 54 undefA), (.seq (.seqR [⟨.box, [.tmp 0], (some 2), none⟩,
 ⟨.move, [.const (.slice none 0 0 false)], (some 4), none⟩])
 (.seq (.seqR [⟨.move, [.const (.slice none 0 0 false)], (some 5), none⟩])
 (.seq (.seq (.seqR [⟨.move, [.tmp 1], (some 9), none⟩,
 ⟨.move, [.tmp 1], (some 10), none⟩,
 ⟨.lenS, [.tmp 10], (some 11), none⟩,
 ⟨(.minmax false), [.tmp 11, .const (.int .i64 64)], (some 12), none⟩,
 ⟨(.slice 1 false true false), [.tmp 9, .tmp 12], (some 13), none⟩,
 ⟨.lenS, [.tmp 13], (some 14), none⟩,
 ⟨.move, [.const (.int .i64 0)], (some 15), none⟩])
 (.block 0 (.loop (.seq (.seqR [⟨(.bin .lss), [.tmp 15, .tmp 14], (some 16), none⟩])
 (.seq (.cond (.tmp 16) .skip
 (.exit 0))
 (.seq (.block 1 (.seq (.seqR [⟨(.indexAddrS 1), [.tmp 13, .tmp 15], (some 17), none⟩,
 ⟨(.load false 1), [.tmp 17], (some 18), none⟩,
 ⟨.move, [.tmp 18], (some 7), none⟩])
 (.seq (.seqR [⟨(.fieldAddr 0), [.tmp 2], (some 19), none⟩,
 ⟨(.load false 1), [.tmp 19], (some 20), none⟩,
 ⟨.move, [.tmp 7], (some 21), none⟩,
 ⟨(.callF 67), [.tmp 20, .tmp 21], (some 22), none⟩,
 ⟨.move, [.tmp 22], (some 23), none⟩,
 ⟨.move, [.tmp 7], (some 24), some (23, true)⟩,
 ⟨(.fieldAddr 2), [.tmp 2], (some 25), some (23, true)⟩,
 ⟨(.load false 1), [.tmp 25], (some 26), some (23, true)⟩,
 ⟨(.bin .neq), [.tmp 24, .tmp 26], (some 27), some (23, true)⟩,
 ⟨.pick, [.tmp 23, .tmp 27, .const (.bool false)], (some 28), none⟩])
 (.cond (.tmp 28) (.seqR [⟨.move, [.tmp 5], (some 29), none⟩,
 ⟨.move, [.tmp 7], (some 30), none⟩,
 ⟨(.sliceLit 1 [(.int .i64 0)] [(0, 1)]), [.tmp 30], (some 31), none⟩,
 ⟨(.append 1 8), [.tmp 29, .tmp 31], (some 32), none⟩,
 ⟨.move, [.tmp 32], (some 5), none⟩])
 .skip))))
 (.seqR [⟨(.bin .add), [.tmp 15, .const (.int .i64 1)], (some 33), none⟩,
 ⟨.move, [.tmp 33], (some 15), none⟩])))))))
 (.seq (.seq (.seqR [⟨(.fieldAddr 0), [.tmp 2], (some 34), none⟩,
 ⟨(.load false 1), [.tmp 34], (some 35), none⟩,
 ⟨.nilCheck, [.tmp 35], (some 36), none⟩,
 ⟨(.fieldAddr 0), [.tmp 36], (some 37), none⟩,
 ⟨(.load true 4), [.tmp 37], (some 38), none⟩,
 ⟨(.callF 65), [.tmp 38], (some 39), none⟩,
 ⟨(.field 0 1 false), [.tmp 39], (some 40), none⟩,
 ⟨.move, [.const (.int .i64 0)], (some 41), none⟩])
 (.block 2 (.loop (.seq (.seqR [⟨(.bin .lss), [.tmp 41, .tmp 40], (some 42), none⟩])
 (.seq (.cond (.tmp 42) .skip
 (.exit 2))
 (.seq (.block 3 (.seq (.seqR [⟨.move, [.tmp 41], (some 43), none⟩,
 ⟨.move, [.tmp 43], (some 8), none⟩])
 (.seq (.seqR [⟨.move, [.tmp 8], (some 44), none⟩,
 ⟨(.fieldAddr 2), [.tmp 2], (some 45), none⟩,
 ⟨(.load false 1), [.tmp 45], (some 46), none⟩,
 ⟨(.bin .neq), [.tmp 44, .tmp 46], (some 47), none⟩])
 (.cond (.tmp 47) (.seqR [⟨.move, [.tmp 5], (some 48), none⟩,
 ⟨.move, [.tmp 8], (some 49), none⟩,
 ⟨(.sliceLit 1 [(.int .i64 0)] [(0, 1)]), [.tmp 49], (some 50), none⟩,
 ⟨(.append 1 8), [.tmp 48, .tmp 50], (some 51), none⟩,
 ⟨.move, [.tmp 51], (some 5), none⟩])
 .skip))))
 (.seqR [⟨(.bin .add), [.tmp 41, .const (.int .i64 1)], (some 52), none⟩,
 ⟨.move, [.tmp 52], (some 41), none⟩])))))))
 (.seq (.seqR [⟨.move, [.tmp 5], (some 53), none⟩,
 ⟨.move, [.tmp 53], (some 4), none⟩])
 .ret))))), [.tmp 4]⟩
theorem c56_ok : compFunc Tryz.prog Tryz.f56 = some c56 := by kernel_rfl
theorem c56_body : hasBody Tryz.prog 56 = true := hasBody_of Tryz.func56 (by kernel_rfl)
/-- (coachyard/local.Row).Pop -/
def c57 : PFn := ⟨6, Tr.ofList (List.replicate 6 undefA), (.seq (.seqR [⟨.box, [.tmp 0], (some 1), none⟩,
 ⟨.move, [.const (.ptr none)], (some 2), none⟩])
 (.seq (.seqR [⟨(.load true 3), [.tmp 1], (some 3), none⟩,
 ⟨(.callF 91), [.tmp 3], (some 4), none⟩,
 ⟨(.invoke [(49, 57), (202, 304), (203, 320), (205, 335)] []), [.tmp 4], (some 5), none⟩,
 ⟨.move, [.tmp 5], (some 2), none⟩])
 .ret)), [.tmp 2]⟩
theorem c57_ok : compFunc Tryz.prog Tryz.f57 = some c57 := by kernel_rfl
theorem c57_body : hasBody Tryz.prog 57 = true := hasBody_of Tryz.func57 (by kernel_rfl)
/-- (*coachyard/pool.next).popped -/
def c58 : PFn := ⟨19, Tr.ofList (List.replicate 19 undefA), (.seq (.seqR [⟨.box, [.tmp 1], (some 3), none⟩])
 (.drawR [⟨⟨.move, [.tmp 0], (some 4), none⟩, false, false, 0, 2⟩,
 ⟨⟨(.load true 3), [.tmp 3], (some 5), none⟩, false, false, 0, 2⟩,
 ⟨⟨.move, [.tmp 0], (some 6), none⟩, false, false, 0, 0⟩,
 ⟨⟨.nilCheck, [.tmp 6], (some 7), none⟩, false, false, 0, 0⟩,
 ⟨⟨(.fieldAddr 0), [.tmp 7], (some 8), none⟩, false, false, 0, 0⟩,
 ⟨⟨(.fieldAddr 0), [.tmp 8], (some 9), none⟩, false, false, 0, 0⟩,
 ⟨⟨(.load false 1), [.tmp 9], (some 10), none⟩, false, false, 0, 0⟩,
 ⟨⟨.nilCheck, [.tmp 10], (some 11), none⟩, false, false, 0, 0⟩,
 ⟨⟨(.fieldAddr 0), [.tmp 11], (some 12), none⟩, false, false, 0, 0⟩,
 ⟨⟨(.load true 4), [.tmp 12], (some 13), none⟩, false, false, 0, 0⟩,
 ⟨⟨(.callF 63), [.tmp 13], (some 14), none⟩, true, false, 0, 1⟩,
 ⟨⟨(.callF 97), [.tmp 14], (some 15), none⟩, true, false, 1, 2⟩,
 ⟨⟨.move, [.tmp 0], (some 16), none⟩, false, false, 0, 2⟩,
 ⟨⟨(.mkFunc (.func 98) 1), [.tmp 16], (some 17), none⟩, false, false, 0, 2⟩,
 ⟨⟨(.callF 96), [.tmp 4, .tmp 5, .tmp 15, .tmp 17], (some 18), none⟩, true, false, 2, 3⟩])), []⟩
theorem c58_ok : compFunc Tryz.prog Tryz.f58 = some c58 := by kernel_rfl
theorem c58_body : hasBody Tryz.prog 58 = true := hasBody_of Tryz.func58 (by kernel_rfl)
/-- (*coachyard/pool.Pool).Park$1 -/
def c59 : PFn := ⟨20, Tr.ofList (List.replicate 20 undefA), (.seq (.seqR [⟨.box, [.tmp 0], (some 3), none⟩])
 (.seq (.seqR [⟨(.load true 3), [.tmp 3], (some 5), none⟩,
 ⟨(.build [(.ptr none), (.ptr none), (.int .i64 0), (.int .u32 0), (.int .i64 0), (.int .u64 0), (.bool false)] [(0, 3)]), [.tmp 5], (some 6), none⟩,
 ⟨.box, [.tmp 6], (some 7), none⟩,
 ⟨.move, [.tmp 7], (some 4), none⟩])
 (.drawR [⟨⟨(.fieldAddr 1), [.tmp 3], (some 8), none⟩, false, false, 0, 2⟩,
 ⟨⟨(.load false 1), [.tmp 8], (some 9), none⟩, false, false, 0, 2⟩,
 ⟨⟨(.load false 1), [.tmp 1], (some 10), none⟩, false, false, 0, 0⟩,
 ⟨⟨.nilCheck, [.tmp 10], (some 11), none⟩, false, false, 0, 0⟩,
 ⟨⟨(.fieldAddr 0), [.tmp 11], (some 12), none⟩, false, false, 0, 0⟩,
 ⟨⟨(.load true 4), [.tmp 12], (some 13), none⟩, false, false, 0, 0⟩,
 ⟨⟨(.load false 1), [.tmp 2], (some 14), none⟩, false, false, 0, 0⟩,
 ⟨⟨(.callF 60), [.tmp 13, .tmp 14], (some 15), none⟩, true, false, 0, 1⟩,
 ⟨⟨(.callF 61), [.tmp 15], (some 16), none⟩, true, false, 1, 2⟩,
 ⟨⟨.move, [.tmp 4], (some 17), none⟩, false, false, 0, 2⟩,
 ⟨⟨(.mkFunc (.func 62) 1), [.tmp 17], (some 18), none⟩, false, false, 0, 2⟩,
 ⟨⟨(.callF 52), [.tmp 9, .tmp 16, .tmp 18], (some 19), none⟩, true, false, 2, 3⟩]))), []⟩
theorem c59_ok : compFunc Tryz.prog Tryz.f59 = some c59 := by kernel_rfl
theorem c59_body : hasBody Tryz.prog 59 = true := hasBody_of Tryz.func59 (by kernel_rfl)
/-- (coachyard/plan.Plan).Spot -/
def c60 : PFn := ⟨13, Tr.ofList (List.replicate 13 undefA), (.seq (.seqR [⟨.box, [.tmp 0], (some 2), none⟩,
 ⟨(.new [(.int .i64 0)]), [], (some 4), none⟩])
 (.seq (.seq (.seqR [⟨(.load true 4), [.tmp 2], (some 5), none⟩,
 ⟨.move, [.tmp 1], (some 6), none⟩,
 ⟨(.callF 99), [.tmp 5, .tmp 6], (some 7), none⟩,
 ⟨.not, [.tmp 7], (some 8), none⟩])
 (.cond (.tmp 8) (.seq (.seqR [⟨(.build [(.int .i64 0)] [(0, 1)]), [.const (.int .i64 (-1))], (some 9), none⟩,
 ⟨(.store 1), [.tmp 4, .tmp 9], none, none⟩])
 .ret)
 .skip))
 (.seq (.seqR [⟨.move, [.tmp 1], (some 10), none⟩,
 ⟨(.bin .add), [.const (.int .i64 1), .tmp 10], (some 11), none⟩,
 ⟨(.build [(.int .i64 0)] [(0, 1)]), [.tmp 11], (some 12), none⟩,
 ⟨(.store 1), [.tmp 4, .tmp 12], none, none⟩])
 .ret))), [.cell 4 true 1]⟩
theorem c60_ok : compFunc Tryz.prog Tryz.f60 = some c60 := by kernel_rfl
theorem c60_body : hasBody Tryz.prog 60 = true := hasBody_of Tryz.func60 (by kernel_rfl)
/-- (coachyard/park.Spot).Prepare -/
def c61 : PFn := ⟨5, Tr.ofList (List.replicate 5 undefA), (.seq (.seqR [⟨.box, [.tmp 0], (some 1), none⟩,
 ⟨.move, [.const (.ptr none)], (some 2), none⟩])
 (.seq (.seqR [⟨(.load true 1), [.tmp 1], (some 3), none⟩,
 ⟨(.callF 100), [.tmp 3, .const (.int .i64 5), .const (.int .u64 1), .const (.func (.func 101) [] [])], (some 4), none⟩,
 ⟨.move, [.tmp 4], (some 2), none⟩])
 .ret)), [.tmp 2]⟩
theorem c61_ok : compFunc Tryz.prog Tryz.f61 = some c61 := by kernel_rfl
theorem c61_body : hasBody Tryz.prog 61 = true := hasBody_of Tryz.func61 (by kernel_rfl)
/-- (*coachyard/pool.parker).prepared -/
def c62 : PFn := ⟨32, Tr.ofList (List.replicate 32 undefA), (.seq (.seqR [⟨.box, [.tmp 0], (some 2), none⟩,
 ⟨.box, [.tmp 1], (some 3), none⟩])
 (.seq (.seqR [⟨(.load false 1), [.tmp 2], (some 4), none⟩,
 ⟨(.fieldAddr 1), [.tmp 3], (some 5), none⟩,
 ⟨(.load false 1), [.tmp 5], (some 6), none⟩,
 ⟨(.conv .u32), [.tmp 6], (some 7), none⟩,
 ⟨.nilCheck, [.tmp 4], (some 8), none⟩,
 ⟨(.fieldAddr 3), [.tmp 8], (some 9), none⟩,
 ⟨(.store 1), [.tmp 9, .tmp 7], none, none⟩])
 (.drawR [⟨⟨(.load false 1), [.tmp 2], (some 10), none⟩, false, false, 0, 2⟩,
 ⟨⟨.nilCheck, [.tmp 10], (some 11), none⟩, false, false, 0, 2⟩,
 ⟨⟨(.fieldAddr 0), [.tmp 11], (some 12), none⟩, false, false, 0, 2⟩,
 ⟨⟨(.fieldAddr 1), [.tmp 12], (some 13), none⟩, false, false, 0, 2⟩,
 ⟨⟨(.load false 1), [.tmp 13], (some 14), none⟩, false, false, 0, 2⟩,
 ⟨⟨(.load false 1), [.tmp 2], (some 15), none⟩, false, false, 0, 0⟩,
 ⟨⟨.nilCheck, [.tmp 15], (some 16), none⟩, false, false, 0, 0⟩,
 ⟨⟨(.fieldAddr 0), [.tmp 16], (some 17), none⟩, false, false, 0, 0⟩,
 ⟨⟨(.fieldAddr 0), [.tmp 17], (some 18), none⟩, false, false, 0, 0⟩,
 ⟨⟨(.load false 1), [.tmp 18], (some 19), none⟩, false, false, 0, 0⟩,
 ⟨⟨.nilCheck, [.tmp 19], (some 20), none⟩, false, false, 0, 0⟩,
 ⟨⟨(.fieldAddr 0), [.tmp 20], (some 21), none⟩, false, false, 0, 0⟩,
 ⟨⟨(.load true 4), [.tmp 21], (some 22), none⟩, false, false, 0, 0⟩,
 ⟨⟨(.callF 102), [.tmp 22], (some 23), none⟩, true, false, 0, 1⟩,
 ⟨⟨(.load false 1), [.tmp 2], (some 24), none⟩, false, false, 0, 1⟩,
 ⟨⟨.nilCheck, [.tmp 24], (some 25), none⟩, false, false, 0, 1⟩,
 ⟨⟨(.fieldAddr 0), [.tmp 25], (some 26), none⟩, false, false, 0, 1⟩,
 ⟨⟨(.fieldAddr 2), [.tmp 26], (some 27), none⟩, false, false, 0, 1⟩,
 ⟨⟨(.load false 1), [.tmp 27], (some 28), none⟩, false, false, 0, 1⟩,
 ⟨⟨(.callF 103), [.tmp 23, .tmp 28], (some 29), none⟩, true, false, 1, 2⟩,
 ⟨⟨(.mkFunc (.func 104) 0), [.tmp 2], (some 30), none⟩, false, false, 0, 2⟩,
 ⟨⟨(.callF 52), [.tmp 14, .tmp 29, .tmp 30], (some 31), none⟩, true, false, 2, 3⟩]))), []⟩
theorem c62_ok : compFunc Tryz.prog Tryz.f62 = some c62 := by kernel_rfl
theorem c62_body : hasBody Tryz.prog 62 = true := hasBody_of Tryz.func62 (by kernel_rfl)
/-- (coachyard/plan.Plan).Line -/
def c63 : PFn := ⟨16, Tr.ofList (List.replicate 16 undefA), (.seq (.seqR [⟨.box, [.tmp 0], (some 1), none⟩,
 ⟨(.new [(.int .i64 0), (.int .i64 0)]), [], (some 2), none⟩])
 (.seq (.seq (.seqR [⟨(.fieldAddr 0), [.tmp 1], (some 3), none⟩,
 ⟨(.fieldAddr 0), [.tmp 3], (some 4), none⟩,
 ⟨(.load false 1), [.tmp 4], (some 5), none⟩,
 ⟨(.bin .eql), [.tmp 5, .const (.int .i64 0)], (some 6), none⟩])
 (.cond (.tmp 6) (.seq (.seqR [⟨(.build [(.int .i64 0), (.int .i64 0)] []), [], (some 7), none⟩,
 ⟨(.store 2), [.tmp 2, .tmp 7], none, none⟩])
 .ret)
 .skip))
 (.seq (.seqR [⟨(.fieldAddr 0), [.tmp 1], (some 8), none⟩,
 ⟨(.fieldAddr 0), [.tmp 8], (some 9), none⟩,
 ⟨(.load false 1), [.tmp 9], (some 10), none⟩,
 ⟨(.bin .add), [.const (.int .i64 1), .tmp 10], (some 11), none⟩,
 ⟨(.fieldAddr 0), [.tmp 1], (some 12), none⟩,
 ⟨(.fieldAddr 3), [.tmp 12], (some 13), none⟩,
 ⟨(.load false 1), [.tmp 13], (some 14), none⟩,
 ⟨(.build [(.int .i64 0), (.int .i64 0)] [(0, 1), (1, 1)]), [.tmp 11, .tmp 14], (some 15), none⟩,
 ⟨(.store 2), [.tmp 2, .tmp 15], none, none⟩])
 .ret))), [.cell 2 true 2]⟩
theorem c63_ok : compFunc Tryz.prog Tryz.f63 = some c63 := by kernel_rfl
theorem c63_body : hasBody Tryz.prog 63 = true := hasBody_of Tryz.func63 (by kernel_rfl)
/-- (coachyard/queue.Line).All -/
def c64 : PFn := ⟨73, Tr.ofList (List.replicate 73 undefA), (.seq (.seqR [⟨.box, [.tmp 0], (some 2), none⟩,
 ⟨.move, [.const (.slice none 0 0 false)], (some 4), none⟩,
 ⟨.move, [.const (.int .i64 0)], (some 5), none⟩])
 (.seq (.seq (.seqR [⟨(.load true 2), [.tmp 2], (some 13), none⟩,
 ⟨.move, [.tmp 1], (some 14), none⟩,
 ⟨(.callF 106), [.tmp 13, .tmp 14], (some 15), none⟩,
 ⟨.move, [.tmp 15], (some 6), none⟩])
 (.seq (.seqR [⟨.move, [.tmp 6], (some 16), none⟩,
 ⟨(.bin .neq), [.tmp 16, .const (.int .i64 0)], (some 17), none⟩])
 (.cond (.tmp 17) (.seq (.seqR [⟨.move, [.tmp 6], (some 18), none⟩,
 ⟨.move, [.const (.slice none 0 0 false)], (some 4), none⟩,
 ⟨.move, [.tmp 18], (some 5), none⟩])
 .ret)
 .skip)))
 (.seq (.seqR [⟨.move, [.tmp 1], (some 19), none⟩,
 ⟨(.callF 107), [.tmp 19], (some 20), none⟩,
 ⟨.move, [.tmp 20], (some 7), none⟩])
 (.seq (.seqR [⟨(.fieldAddr 1), [.tmp 2], (some 21), none⟩,
 ⟨(.load false 1), [.tmp 21], (some 22), none⟩,
 ⟨(.bin .add), [.tmp 22, .const (.int .i64 1)], (some 23), none⟩,
 ⟨(.makeSlice 1 1 [(.bool false)]), [.tmp 23, .tmp 23], (some 24), none⟩,
 ⟨.move, [.tmp 24], (some 8), none⟩])
 (.seq (.seqR [⟨.move, [.const (.slice none 0 0 false)], (some 9), none⟩])
 (.seq (.seqR [⟨.move, [.tmp 7], (some 25), none⟩,
 ⟨(.fieldAddr 0), [.tmp 2], (some 26), none⟩,
 ⟨(.load false 1), [.tmp 26], (some 27), none⟩,
 ⟨(.indexAddrS 1), [.tmp 25, .tmp 27], (some 28), none⟩,
 ⟨(.load false 1), [.tmp 28], (some 29), none⟩,
 ⟨.move, [.tmp 29], (some 10), none⟩])
 (.block 0 (.loop (.block 1 (.seq (.seqR [⟨(.load true 2), [.tmp 2], (some 31), none⟩,
 ⟨.move, [.tmp 10], (some 32), none⟩,
 ⟨(.callF 108), [.tmp 31, .tmp 32], (some 33), none⟩,
 ⟨.move, [.tmp 33], (some 30), none⟩,
 ⟨(.extract 0), [.tmp 30], (some 34), none⟩,
 ⟨(.extract 1), [.tmp 30], (some 35), none⟩,
 ⟨.move, [.tmp 34], (some 11), none⟩,
 ⟨.move, [.tmp 35], (some 12), none⟩])
 (.seq (.block 2 (.seq (.seqR [⟨.move, [.tmp 11], (some 37), none⟩,
 ⟨(.bin .eql), [.tmp 37, .const (.int .u32 0)], (some 38), none⟩,
 ⟨.move, [.tmp 38], (some 39), none⟩,
 ⟨.move, [.tmp 9], (some 40), some (39, true)⟩,
 ⟨.lenS, [.tmp 40], (some 41), some (39, true)⟩,
 ⟨(.bin .gtr), [.tmp 41, .const (.int .i64 0)], (some 42), some (39, true)⟩,
 ⟨.pick, [.tmp 39, .tmp 42, .const (.bool false)], (some 43), none⟩,
 ⟨.move, [.tmp 43], (some 36), none⟩])
 (.cond (.tmp 36) (.seq (.seqR [⟨.move, [.tmp 9], (some 44), none⟩,
 ⟨(.slice 1 true false false), [.tmp 44, .const (.int .i64 1)], (some 45), none⟩,
 ⟨.move, [.tmp 45], (some 4), none⟩,
 ⟨.move, [.const (.int .i64 0)], (some 5), none⟩])
 .ret)
 (.seq (.seqR [⟨.move, [.tmp 12], (some 47), none⟩,
 ⟨.not, [.tmp 47], (some 48), none⟩,
 ⟨.move, [.tmp 48], (some 49), none⟩,
 ⟨.move, [.tmp 8], (some 50), some (49, false)⟩,
 ⟨.move, [.tmp 11], (some 51), some (49, false)⟩,
 ⟨(.indexAddrS 1), [.tmp 50, .tmp 51], (some 52), some (49, false)⟩,
 ⟨(.load false 1), [.tmp 52], (some 53), some (49, false)⟩,
 ⟨.pick, [.tmp 49, .const (.bool true), .tmp 53], (some 54), none⟩,
 ⟨.move, [.tmp 54], (some 46), none⟩])
 (.cond (.tmp 46) (.seq (.seqR [⟨.move, [.const (.slice none 0 0 false)], (some 4), none⟩,
 ⟨.move, [.const (.int .i64 9)], (some 5), none⟩])
 .ret)
 .skip)))))
 (.seq (.seqR [⟨.move, [.tmp 8], (some 55), none⟩,
 ⟨.move, [.tmp 11], (some 56), none⟩,
 ⟨(.indexAddrS 1), [.tmp 55, .tmp 56], (some 57), none⟩,
 ⟨(.store 1), [.tmp 57, .const (.bool true)], none, none⟩])
 (.seq (.seqR [⟨.move, [.tmp 9], (some 58), none⟩,
 ⟨.move, [.tmp 7], (some 59), none⟩,
 ⟨(.load true 2), [.tmp 2], (some 60), none⟩,
 ⟨.move, [.tmp 11], (some 61), none⟩,
 ⟨(.callF 109), [.tmp 60, .tmp 61], (some 62), none⟩,
 ⟨(.indexAddrS 1), [.tmp 59, .tmp 62], (some 63), none⟩,
 ⟨(.load false 1), [.tmp 63], (some 64), none⟩,
 ⟨(.sliceLit 1 [(.int .u64 0)] [(0, 1)]), [.tmp 64], (some 65), none⟩,
 ⟨(.append 1 8), [.tmp 58, .tmp 65], (some 66), none⟩,
 ⟨.move, [.tmp 66], (some 9), none⟩])
 (.seqR [⟨.move, [.tmp 7], (some 67), none⟩,
 ⟨(.load true 2), [.tmp 2], (some 68), none⟩,
 ⟨.move, [.tmp 11], (some 69), none⟩,
 ⟨(.callF 110), [.tmp 68, .tmp 69], (some 70), none⟩,
 ⟨(.indexAddrS 1), [.tmp 67, .tmp 70], (some 71), none⟩,
 ⟨(.load false 1), [.tmp 71], (some 72), none⟩,
 ⟨.move, [.tmp 72], (some 10), none⟩])))))))))))))), [.tmp 4, .tmp 5]⟩
theorem c64_ok : compFunc Tryz.prog Tryz.f64 = some c64 := by kernel_rfl
theorem c64_body : hasBody Tryz.prog 64 = true := hasBody_of Tryz.func64 (by kernel_rfl)
/-- (coachyard/plan.Plan).Config -/
def c65 : PFn := ⟨5, Tr.ofList (List.replicate 5 undefA), (.seq (.seqR [⟨.box, [.tmp 0], (some 1), none⟩,
 ⟨(.new [(.int .i64 0), (.int .i64 0), (.int .i64 0), (.int .i64 0)]), [], (some 2), none⟩])
 (.seq (.seqR [⟨(.fieldAddr 0), [.tmp 1], (some 3), none⟩,
 ⟨(.load true 4), [.tmp 3], (some 4), none⟩,
 ⟨(.store 4), [.tmp 2, .tmp 4], none, none⟩])
 .ret)), [.cell 2 true 4]⟩
theorem c65_ok : compFunc Tryz.prog Tryz.f65 = some c65 := by kernel_rfl
theorem c65_body : hasBody Tryz.prog 65 = true := hasBody_of Tryz.func65 (by kernel_rfl)
/-- (coachyard/local.Row).All -/
def c66 : PFn := ⟨12, Tr.ofList (List.replicate 12 undefA), (.seq (.seqR [⟨.box, [.tmp 0], (some 2), none⟩,
 ⟨.move, [.const (.slice none 0 0 false)], (some 4), none⟩,
 ⟨.move, [.const (.int .i64 0)], (some 5), none⟩])
 (.seq (.seqR [⟨(.load true 3), [.tmp 2], (some 6), none⟩,
 ⟨(.callF 91), [.tmp 6], (some 7), none⟩,
 ⟨.move, [.tmp 1], (some 8), none⟩,
 ⟨(.invoke [(27, 14), (43, 107), (49, 66), (58, 20), (134, 64), (202, 303), (203, 319), (205, 334)] []), [.tmp 7, .tmp 8], (some 9), none⟩,
 ⟨(.extract 0), [.tmp 9], (some 10), none⟩,
 ⟨(.extract 1), [.tmp 9], (some 11), none⟩,
 ⟨.move, [.tmp 10], (some 4), none⟩,
 ⟨.move, [.tmp 11], (some 5), none⟩])
 .ret)), [.tmp 4, .tmp 5]⟩
theorem c66_ok : compFunc Tryz.prog Tryz.f66 = some c66 := by kernel_rfl
theorem c66_body : hasBody Tryz.prog 66 = true := hasBody_of Tryz.func66 (by kernel_rfl)
end Go.Proofs.YtfpamakhkkdikaaGreatDoor
