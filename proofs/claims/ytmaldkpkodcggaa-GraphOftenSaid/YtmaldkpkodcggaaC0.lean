/- The code of the small machine for some of the program's functions: printed by program; each is what the rules make of the program's own. -/
import Derived.Test.YtmaldkpkodcggaaVx16
import Derived.Test.YtmaldkpkodcggaaProg
import Derived.KernelRfl
namespace Go.Proofs.Ytmaldkpkodcggaa
open Go Go.Vx Go.Proofs
/-- coachyard/coachyardlaw25.GraphOften -/
def c3 : PFn := ⟨137, Tr.ofList (List.replicate 137 undefA), (.seq (.seqR [⟨.move, [.const (.bool false)], (some 4), none⟩])
 (.seq (.seq (.seqR [⟨(.callF 5), [], (some 16), none⟩,
 ⟨.not, [.tmp 16], (some 17), none⟩])
 (.cond (.tmp 17) (.seq (.seqR [⟨.move, [.const (.bool false)], (some 4), none⟩])
 .ret)
 .skip))
 (.seq (.seq (.seqR [⟨.move, [.tmp 0], (some 18), none⟩,
 ⟨(.callF 6), [.tmp 18, .const (.int .i64 60)], (some 19), none⟩,
 ⟨.move, [.tmp 19], (some 20), none⟩,
 ⟨.move, [.tmp 0], (some 21), some (20, false)⟩,
 ⟨.lenS, [.tmp 21], (some 22), some (20, false)⟩,
 ⟨(.bin .gtr), [.tmp 22, .const (.int .i64 60)], (some 23), some (20, false)⟩,
 ⟨.pick, [.tmp 20, .const (.bool true), .tmp 23], (some 24), none⟩,
 ⟨.move, [.tmp 24], (some 25), none⟩,
 ⟨.move, [.tmp 1], (some 26), some (25, false)⟩,
 ⟨.lenS, [.tmp 26], (some 27), some (25, false)⟩,
 ⟨(.bin .gtr), [.tmp 27, .const (.int .i64 60)], (some 28), some (25, false)⟩,
 ⟨.pick, [.tmp 25, .const (.bool true), .tmp 28], (some 29), none⟩])
 (.cond (.tmp 29) (.seq (.seqR [⟨.move, [.const (.bool true)], (some 4), none⟩])
 .ret)
 .skip))
 (.seq (.seqR [⟨.move, [.tmp 0], (some 31), none⟩,
 ⟨.move, [.tmp 1], (some 32), none⟩,
 ⟨(.callF 7), [.tmp 31, .tmp 32], (some 33), none⟩,
 ⟨.move, [.tmp 33], (some 30), none⟩,
 ⟨(.extract 0), [.tmp 30], (some 34), none⟩,
 ⟨(.extract 1), [.tmp 30], (some 35), none⟩,
 ⟨.move, [.tmp 34], (some 5), none⟩,
 ⟨.move, [.tmp 35], (some 6), none⟩])
 (.seq (.seqR [⟨.move, [.tmp 0], (some 37), none⟩,
 ⟨.move, [.tmp 1], (some 38), none⟩,
 ⟨(.callF 8), [.tmp 37, .tmp 38], (some 39), none⟩,
 ⟨.move, [.tmp 39], (some 36), none⟩,
 ⟨(.extract 0), [.tmp 36], (some 40), none⟩,
 ⟨(.extract 1), [.tmp 36], (some 41), none⟩,
 ⟨.move, [.tmp 40], (some 7), none⟩,
 ⟨.move, [.tmp 41], (some 8), none⟩])
 (.seq (.seq (.seqR [⟨.move, [.tmp 0], (some 43), none⟩,
 ⟨(.callF 9), [.tmp 43], (some 44), none⟩,
 ⟨.move, [.tmp 44], (some 42), none⟩,
 ⟨(.extract 0), [.tmp 42], (some 45), none⟩,
 ⟨(.extract 1), [.tmp 42], (some 46), none⟩,
 ⟨.move, [.tmp 45], (some 9), none⟩,
 ⟨.move, [.tmp 46], (some 10), none⟩])
 (.seq (.seqR [⟨.move, [.tmp 10], (some 47), none⟩,
 ⟨.not, [.tmp 47], (some 48), none⟩])
 (.cond (.tmp 48) (.seq (.seqR [⟨.move, [.tmp 5], (some 49), none⟩,
 ⟨.lenS, [.tmp 49], (some 50), none⟩,
 ⟨(.bin .eql), [.tmp 50, .const (.int .i64 0)], (some 51), none⟩,
 ⟨.move, [.tmp 51], (some 52), none⟩,
 ⟨.move, [.tmp 6], (some 53), some (52, true)⟩,
 ⟨(.bin .eql), [.tmp 53, .const (.int .i64 13)], (some 54), some (52, true)⟩,
 ⟨.pick, [.tmp 52, .tmp 54, .const (.bool false)], (some 55), none⟩,
 ⟨.move, [.tmp 55], (some 56), none⟩,
 ⟨.move, [.tmp 7], (some 57), some (56, true)⟩,
 ⟨(.bin .eql), [.tmp 57, .const (.int .i64 0)], (some 58), some (56, true)⟩,
 ⟨.pick, [.tmp 56, .tmp 58, .const (.bool false)], (some 59), none⟩,
 ⟨.move, [.tmp 59], (some 60), none⟩,
 ⟨.move, [.tmp 8], (some 61), some (60, true)⟩,
 ⟨(.bin .eql), [.tmp 61, .const (.int .i64 13)], (some 62), some (60, true)⟩,
 ⟨.pick, [.tmp 60, .tmp 62, .const (.bool false)], (some 63), none⟩,
 ⟨.move, [.tmp 63], (some 4), none⟩])
 .ret)
 .skip)))
 (.seq (.seqR [⟨.move, [.tmp 0], (some 65), none⟩,
 ⟨.move, [.tmp 1], (some 66), none⟩,
 ⟨(.callF 10), [.tmp 65, .tmp 66], (some 67), none⟩,
 ⟨.move, [.tmp 67], (some 64), none⟩,
 ⟨(.extract 0), [.tmp 64], (some 68), none⟩,
 ⟨(.extract 1), [.tmp 64], (some 69), none⟩,
 ⟨.move, [.tmp 68], (some 11), none⟩,
 ⟨.move, [.tmp 69], (some 12), none⟩])
 (.seq (.seqR [⟨.move, [.tmp 0], (some 71), none⟩,
 ⟨.move, [.tmp 1], (some 72), none⟩,
 ⟨(.callF 11), [.tmp 71, .tmp 72], (some 73), none⟩,
 ⟨.move, [.tmp 73], (some 70), none⟩,
 ⟨(.extract 0), [.tmp 70], (some 74), none⟩,
 ⟨(.extract 1), [.tmp 70], (some 75), none⟩,
 ⟨.move, [.tmp 74], (some 13), none⟩,
 ⟨.move, [.tmp 75], (some 14), none⟩])
 (.seq (.seq (.seqR [⟨.move, [.tmp 12], (some 76), none⟩,
 ⟨.not, [.tmp 76], (some 77), none⟩,
 ⟨.move, [.tmp 77], (some 78), none⟩,
 ⟨.move, [.tmp 5], (some 79), some (78, true)⟩,
 ⟨.lenS, [.tmp 79], (some 80), some (78, true)⟩,
 ⟨(.bin .neq), [.tmp 80, .const (.int .i64 0)], (some 81), some (78, true)⟩,
 ⟨.move, [.tmp 81], (some 82), some (78, true)⟩,
 ⟨.move, [.tmp 6], (some 83), some (82, false)⟩,
 ⟨(.bin .neq), [.tmp 83, .const (.int .i64 14)], (some 84), some (82, false)⟩,
 ⟨.pick, [.tmp 82, .const (.bool true), .tmp 84], (some 85), some (78, true)⟩,
 ⟨.pick, [.tmp 78, .tmp 85, .const (.bool false)], (some 86), none⟩,
 ⟨.move, [.tmp 86], (some 87), none⟩,
 ⟨.move, [.tmp 14], (some 88), some (87, false)⟩,
 ⟨.not, [.tmp 88], (some 89), some (87, false)⟩,
 ⟨.move, [.tmp 89], (some 90), some (87, false)⟩,
 ⟨.move, [.tmp 7], (some 91), some (90, true)⟩,
 ⟨(.bin .neq), [.tmp 91, .const (.int .i64 0)], (some 92), some (90, true)⟩,
 ⟨.move, [.tmp 92], (some 93), some (90, true)⟩,
 ⟨.move, [.tmp 8], (some 94), some (93, false)⟩,
 ⟨(.bin .neq), [.tmp 94, .const (.int .i64 14)], (some 95), some (93, false)⟩,
 ⟨.pick, [.tmp 93, .const (.bool true), .tmp 95], (some 96), some (90, true)⟩,
 ⟨.pick, [.tmp 90, .tmp 96, .const (.bool false)], (some 97), some (87, false)⟩,
 ⟨.pick, [.tmp 87, .const (.bool true), .tmp 97], (some 98), none⟩,
 ⟨.move, [.tmp 98], (some 99), none⟩,
 ⟨.move, [.tmp 14], (some 100), some (99, false)⟩,
 ⟨.move, [.tmp 100], (some 101), some (99, false)⟩,
 ⟨.move, [.tmp 7], (some 102), some (101, true)⟩,
 ⟨.move, [.tmp 13], (some 103), some (101, true)⟩,
 ⟨(.bin .neq), [.tmp 102, .tmp 103], (some 104), some (101, true)⟩,
 ⟨.move, [.tmp 104], (some 105), some (101, true)⟩,
 ⟨.move, [.tmp 8], (some 106), some (105, false)⟩,
 ⟨(.bin .neq), [.tmp 106, .const (.int .i64 0)], (some 107), some (105, false)⟩,
 ⟨.pick, [.tmp 105, .const (.bool true), .tmp 107], (some 108), some (101, true)⟩,
 ⟨.pick, [.tmp 101, .tmp 108, .const (.bool false)], (some 109), some (99, false)⟩,
 ⟨.pick, [.tmp 99, .const (.bool true), .tmp 109], (some 110), none⟩])
 (.cond (.tmp 110) (.seq (.seqR [⟨.move, [.const (.bool false)], (some 4), none⟩])
 .ret)
 .skip))
 (.seq (.seq (.seqR [⟨.move, [.tmp 12], (some 111), none⟩,
 ⟨.not, [.tmp 111], (some 112), none⟩])
 (.cond (.tmp 112) (.seq (.seqR [⟨.move, [.const (.bool true)], (some 4), none⟩])
 .ret)
 .skip))
 (.seq (.seq (.seqR [⟨.move, [.tmp 6], (some 113), none⟩,
 ⟨(.bin .neq), [.tmp 113, .const (.int .i64 0)], (some 114), none⟩,
 ⟨.move, [.tmp 114], (some 115), none⟩,
 ⟨.move, [.tmp 5], (some 116), some (115, false)⟩,
 ⟨.lenS, [.tmp 116], (some 117), some (115, false)⟩,
 ⟨.move, [.tmp 11], (some 118), some (115, false)⟩,
 ⟨.lenS, [.tmp 118], (some 119), some (115, false)⟩,
 ⟨(.bin .neq), [.tmp 117, .tmp 119], (some 120), some (115, false)⟩,
 ⟨.pick, [.tmp 115, .const (.bool true), .tmp 120], (some 121), none⟩])
 (.cond (.tmp 121) (.seq (.seqR [⟨.move, [.const (.bool false)], (some 4), none⟩])
 .ret)
 .skip))
 (.seq (.seq (.seqR [⟨.move, [.const (.int .i64 0)], (some 15), none⟩])
 (.block 0 (.loop (.seq (.seq (.seqR [⟨.move, [.tmp 15], (some 122), none⟩,
 ⟨.move, [.tmp 5], (some 123), none⟩,
 ⟨.lenS, [.tmp 123], (some 124), none⟩,
 ⟨(.bin .lss), [.tmp 122, .tmp 124], (some 125), none⟩])
 (.cond (.tmp 125) .skip
 (.exit 0)))
 (.seq (.block 1 (.seq (.drawR [⟨⟨.move, [.tmp 5], (some 128), none⟩, false, false, 0, 0⟩,
 ⟨⟨.move, [.tmp 15], (some 129), none⟩, false, false, 0, 0⟩,
 ⟨⟨(.indexAddrS 1), [.tmp 128, .tmp 129], (some 130), none⟩, false, false, 0, 0⟩,
 ⟨⟨(.load false 1), [.tmp 130], (some 131), none⟩, false, false, 0, 0⟩,
 ⟨⟨.move, [.tmp 11], (some 132), none⟩, false, false, 0, 0⟩,
 ⟨⟨.move, [.tmp 15], (some 133), none⟩, false, false, 0, 0⟩,
 ⟨⟨(.indexAddrS 1), [.tmp 132, .tmp 133], (some 134), none⟩, false, false, 0, 0⟩,
 ⟨⟨(.load false 1), [.tmp 134], (some 135), none⟩, false, false, 0, 0⟩,
 ⟨⟨(.bin .neq), [.tmp 131, .tmp 135], (some 136), none⟩, false, false, 0, 0⟩])
 (.cond (.tmp 136) (.seq (.seqR [⟨.move, [.const (.bool false)], (some 4), none⟩])
 .ret)
 .skip)))
 (.seqR [⟨.move, [.tmp 15], (some 126), none⟩,
 ⟨(.bin .add), [.tmp 126, .const (.int .i64 1)], (some 127), none⟩,
 ⟨.move, [.tmp 127], (some 15), none⟩]))))))
 (.seq (.seqR [⟨.move, [.const (.bool true)], (some 4), none⟩])
 .ret))))))))))))), [.tmp 4]⟩
theorem c3_ok : compFunc Try.prog Try.f3 = some c3 := by kernel_rfl
theorem c3_body : hasBody Try.prog 3 = true := hasBody_of Try.func3 (by kernel_rfl)
/-- coachyard/coachyardlaw25.GraphRanks -/
def c4 : PFn := ⟨48, Tr.ofList (List.replicate 48 undefA), (.seq (.seqR [⟨.move, [.const (.bool false)], (some 2), none⟩])
 (.seq (.seq (.seqR [⟨(.callF 5), [], (some 7), none⟩,
 ⟨.not, [.tmp 7], (some 8), none⟩])
 (.cond (.tmp 8) (.seq (.seqR [⟨.move, [.const (.bool false)], (some 2), none⟩])
 .ret)
 .skip))
 (.seq (.seq (.seqR [⟨.move, [.tmp 0], (some 9), none⟩,
 ⟨(.callF 6), [.tmp 9, .const (.int .i64 30)], (some 10), none⟩])
 (.cond (.tmp 10) (.seq (.seqR [⟨.move, [.const (.bool true)], (some 2), none⟩])
 .ret)
 .skip))
 (.seq (.seqR [⟨.move, [.tmp 0], (some 12), none⟩,
 ⟨(.callF 12), [.tmp 12], (some 13), none⟩,
 ⟨.move, [.tmp 13], (some 11), none⟩,
 ⟨(.extract 0), [.tmp 11], (some 14), none⟩,
 ⟨(.extract 1), [.tmp 11], (some 15), none⟩,
 ⟨.move, [.tmp 14], (some 3), none⟩,
 ⟨.move, [.tmp 15], (some 4), none⟩])
 (.seq (.seqR [⟨.move, [.tmp 0], (some 17), none⟩,
 ⟨(.callF 9), [.tmp 17], (some 18), none⟩,
 ⟨.move, [.tmp 18], (some 16), none⟩,
 ⟨(.extract 0), [.tmp 16], (some 19), none⟩,
 ⟨(.extract 1), [.tmp 16], (some 20), none⟩,
 ⟨.move, [.tmp 19], (some 5), none⟩,
 ⟨.move, [.tmp 20], (some 6), none⟩])
 (.seq (.seq (.seqR [⟨.move, [.tmp 0], (some 21), none⟩,
 ⟨(.callF 13), [.tmp 21], (some 22), none⟩,
 ⟨.move, [.tmp 0], (some 23), none⟩,
 ⟨(.callF 14), [.tmp 23], (some 24), none⟩,
 ⟨(.eqBool true), [.tmp 22, .tmp 24], (some 25), none⟩,
 ⟨.move, [.tmp 25], (some 26), none⟩,
 ⟨.move, [.tmp 0], (some 27), some (26, false)⟩,
 ⟨(.callF 15), [.tmp 27], (some 28), some (26, false)⟩,
 ⟨.move, [.tmp 6], (some 29), some (26, false)⟩,
 ⟨(.eqBool true), [.tmp 28, .tmp 29], (some 30), some (26, false)⟩,
 ⟨.pick, [.tmp 26, .const (.bool true), .tmp 30], (some 31), none⟩])
 (.cond (.tmp 31) (.seq (.seqR [⟨.move, [.const (.bool false)], (some 2), none⟩])
 .ret)
 .skip))
 (.seq (.seq (.seqR [⟨.move, [.tmp 6], (some 32), none⟩,
 ⟨.not, [.tmp 32], (some 33), none⟩])
 (.cond (.tmp 33) (.seq (.seqR [⟨.move, [.tmp 3], (some 34), none⟩,
 ⟨.lenS, [.tmp 34], (some 35), none⟩,
 ⟨(.bin .eql), [.tmp 35, .const (.int .i64 0)], (some 36), none⟩,
 ⟨.move, [.tmp 36], (some 37), none⟩,
 ⟨.move, [.tmp 4], (some 38), some (37, true)⟩,
 ⟨(.bin .eql), [.tmp 38, .const (.int .i64 13)], (some 39), some (37, true)⟩,
 ⟨.pick, [.tmp 37, .tmp 39, .const (.bool false)], (some 40), none⟩,
 ⟨.move, [.tmp 40], (some 2), none⟩])
 .ret)
 .skip))
 (.seq (.seqR [⟨.move, [.tmp 4], (some 41), none⟩,
 ⟨(.bin .eql), [.tmp 41, .const (.int .i64 0)], (some 42), none⟩,
 ⟨.move, [.tmp 42], (some 43), none⟩,
 ⟨.move, [.tmp 3], (some 44), some (43, true)⟩,
 ⟨.move, [.tmp 5], (some 45), some (43, true)⟩,
 ⟨(.callF 16), [.tmp 44, .tmp 45], (some 46), some (43, true)⟩,
 ⟨.pick, [.tmp 43, .tmp 46, .const (.bool false)], (some 47), none⟩,
 ⟨.move, [.tmp 47], (some 2), none⟩])
 .ret)))))))), [.tmp 2]⟩
theorem c4_ok : compFunc Try.prog Try.f4 = some c4 := by kernel_rfl
theorem c4_body : hasBody Try.prog 4 = true := hasBody_of Try.func4 (by kernel_rfl)
/-- coachyard/coachyardlaw25.awake -/
def c5 : PFn := ⟨38, Tr.ofList (List.replicate 38 undefA), (.seq (.seqR [⟨.move, [.const (.bool false)], (some 0), none⟩])
 (.seq (.seqR [⟨(.sliceLit 2 [(.int .i64 0), (.int .i64 0)] [(0, 1), (1, 1)]), [.const (.int .i64 1), .const (.int .i64 1)], (some 6), none⟩,
 ⟨(.build [(.int .u64 0), (.slice none 0 0 false)] [(0, 1), (1, 1)]), [.const (.int .u64 7), .tmp 6], (some 7), none⟩,
 ⟨(.sliceLit 1 [(.int .i64 0)] [(0, 1)]), [.const (.int .i64 2)], (some 8), none⟩,
 ⟨(.build [(.int .u64 0), (.slice none 0 0 false)] [(0, 1), (1, 1)]), [.const (.int .u64 8), .tmp 8], (some 9), none⟩,
 ⟨(.build [(.int .u64 0), (.slice none 0 0 false)] [(0, 1)]), [.const (.int .u64 9)], (some 10), none⟩,
 ⟨(.sliceLit 3 [(.int .u64 0), (.slice none 0 0 false), (.int .u64 0), (.slice none 0 0 false), (.int .u64 0), (.slice none 0 0 false)] [(0, 2), (2, 2), (4, 2)]), [.tmp 7, .tmp 9, .tmp 10], (some 11), none⟩,
 ⟨.move, [.tmp 11], (some 1), none⟩])
 (.seq (.seqR [⟨.move, [.tmp 1], (some 13), none⟩,
 ⟨(.sliceLit 1 [(.int .u64 0)] [(0, 1)]), [.const (.int .u64 7)], (some 14), none⟩,
 ⟨(.callF 8), [.tmp 13, .tmp 14], (some 15), none⟩,
 ⟨.move, [.tmp 15], (some 12), none⟩,
 ⟨(.extract 0), [.tmp 12], (some 16), none⟩,
 ⟨(.extract 1), [.tmp 12], (some 17), none⟩,
 ⟨.move, [.tmp 16], (some 2), none⟩,
 ⟨.move, [.tmp 17], (some 3), none⟩])
 (.seq (.seqR [⟨.move, [.tmp 1], (some 19), none⟩,
 ⟨(.callF 12), [.tmp 19], (some 20), none⟩,
 ⟨.move, [.tmp 20], (some 18), none⟩,
 ⟨(.extract 0), [.tmp 18], (some 21), none⟩,
 ⟨(.extract 1), [.tmp 18], (some 22), none⟩,
 ⟨.move, [.tmp 21], (some 4), none⟩,
 ⟨.move, [.tmp 22], (some 5), none⟩])
 (.seq (.seqR [⟨.move, [.tmp 3], (some 23), none⟩,
 ⟨(.bin .eql), [.tmp 23, .const (.int .i64 0)], (some 24), none⟩,
 ⟨.move, [.tmp 24], (some 25), none⟩,
 ⟨.move, [.tmp 2], (some 26), some (25, true)⟩,
 ⟨(.bin .eql), [.tmp 26, .const (.int .i64 5)], (some 27), some (25, true)⟩,
 ⟨.pick, [.tmp 25, .tmp 27, .const (.bool false)], (some 28), none⟩,
 ⟨.move, [.tmp 28], (some 29), none⟩,
 ⟨.move, [.tmp 5], (some 30), some (29, true)⟩,
 ⟨(.bin .eql), [.tmp 30, .const (.int .i64 0)], (some 31), some (29, true)⟩,
 ⟨.pick, [.tmp 29, .tmp 31, .const (.bool false)], (some 32), none⟩,
 ⟨.move, [.tmp 32], (some 33), none⟩,
 ⟨.move, [.tmp 4], (some 34), some (33, true)⟩,
 ⟨(.sliceLit 3 [(.int .i64 0), (.int .i64 0), (.int .i64 0)] [(0, 1), (1, 1), (2, 1)]), [.const (.int .i64 2), .const (.int .i64 1), .const (.int .i64 0)], (some 35), some (33, true)⟩,
 ⟨(.callF 16), [.tmp 34, .tmp 35], (some 36), some (33, true)⟩,
 ⟨.pick, [.tmp 33, .tmp 36, .const (.bool false)], (some 37), none⟩,
 ⟨.move, [.tmp 37], (some 0), none⟩])
 .ret))))), [.tmp 0]⟩
theorem c5_ok : compFunc Try.prog Try.f5 = some c5 := by kernel_rfl
theorem c5_body : hasBody Try.prog 5 = true := hasBody_of Try.func5 (by kernel_rfl)
/-- coachyard/coachyardref25.Heavy -/
def c6 : PFn := ⟨33, Tr.ofList (List.replicate 33 undefA), (.seq (.seqR [⟨.move, [.const (.bool false)], (some 4), none⟩])
 (.seq (.seq (.seqR [⟨.move, [.tmp 0], (some 6), none⟩,
 ⟨.lenS, [.tmp 6], (some 7), none⟩,
 ⟨.move, [.tmp 1], (some 8), none⟩,
 ⟨(.bin .gtr), [.tmp 7, .tmp 8], (some 9), none⟩,
 ⟨.move, [.tmp 9], (some 10), none⟩,
 ⟨.move, [.tmp 0], (some 11), some (10, true)⟩,
 ⟨.lenS, [.tmp 11], (some 12), some (10, true)⟩,
 ⟨(.bin .leq), [.tmp 12, .const (.int .i64 200)], (some 13), some (10, true)⟩,
 ⟨.pick, [.tmp 10, .tmp 13, .const (.bool false)], (some 14), none⟩,
 ⟨.move, [.tmp 14], (some 15), none⟩,
 ⟨.move, [.tmp 0], (some 16), some (15, false)⟩,
 ⟨.lenS, [.tmp 16], (some 17), some (15, false)⟩,
 ⟨(.bin .gtr), [.tmp 17, .const (.int .i64 300)], (some 18), some (15, false)⟩,
 ⟨.pick, [.tmp 15, .const (.bool true), .tmp 18], (some 19), none⟩])
 (.cond (.tmp 19) (.seq (.seqR [⟨.move, [.const (.bool true)], (some 4), none⟩])
 .ret)
 .skip))
 (.seq (.seq (.seqR [⟨.move, [.const (.int .i64 0)], (some 5), none⟩])
 (.block 0 (.loop (.seq (.seq (.seqR [⟨.move, [.tmp 5], (some 20), none⟩,
 ⟨.move, [.tmp 0], (some 21), none⟩,
 ⟨.lenS, [.tmp 21], (some 22), none⟩,
 ⟨(.bin .lss), [.tmp 20, .tmp 22], (some 23), none⟩])
 (.cond (.tmp 23) .skip
 (.exit 0)))
 (.seq (.block 1 (.seq (.seqR [⟨.move, [.tmp 0], (some 26), none⟩,
 ⟨.move, [.tmp 5], (some 27), none⟩,
 ⟨(.indexAddrS 2), [.tmp 26, .tmp 27], (some 28), none⟩,
 ⟨(.fieldAddr 1), [.tmp 28], (some 29), none⟩,
 ⟨(.load false 1), [.tmp 29], (some 30), none⟩,
 ⟨.lenS, [.tmp 30], (some 31), none⟩,
 ⟨(.bin .gtr), [.tmp 31, .const (.int .i64 20)], (some 32), none⟩])
 (.cond (.tmp 32) (.seq (.seqR [⟨.move, [.const (.bool true)], (some 4), none⟩])
 .ret)
 .skip)))
 (.seqR [⟨.move, [.tmp 5], (some 24), none⟩,
 ⟨(.bin .add), [.tmp 24, .const (.int .i64 1)], (some 25), none⟩,
 ⟨.move, [.tmp 25], (some 5), none⟩]))))))
 (.seq (.seqR [⟨.move, [.const (.bool false)], (some 4), none⟩])
 .ret)))), [.tmp 4]⟩
theorem c6_ok : compFunc Try.prog Try.f6 = some c6 := by kernel_rfl
theorem c6_body : hasBody Try.prog 6 = true := hasBody_of Try.func6 (by kernel_rfl)
/-- coachyard/graph.Often -/
def c7 : PFn := ⟨100, Tr.ofList (List.replicate 100 undefA), (.seq (.seqR [⟨.move, [.const (.slice none 0 0 false)], (some 4), none⟩,
 ⟨.move, [.const (.int .i64 0)], (some 5), none⟩])
 (.seq (.seqR [⟨.move, [.tmp 0], (some 21), none⟩,
 ⟨(.callF 17), [.tmp 21], (some 22), none⟩,
 ⟨.move, [.tmp 22], (some 20), none⟩,
 ⟨(.extract 0), [.tmp 20], (some 23), none⟩,
 ⟨(.extract 1), [.tmp 20], (some 24), none⟩,
 ⟨.move, [.tmp 23], (some 6), none⟩,
 ⟨.move, [.tmp 24], (some 7), none⟩])
 (.seq (.seq (.seqR [⟨.move, [.tmp 7], (some 25), none⟩,
 ⟨.not, [.tmp 25], (some 26), none⟩])
 (.cond (.tmp 26) (.seq (.seqR [⟨.move, [.const (.slice none 0 0 false)], (some 4), none⟩,
 ⟨.move, [.const (.int .i64 13)], (some 5), none⟩])
 .ret)
 .skip))
 (.seq (.seqR [⟨.makeMap, [], (some 27), none⟩,
 ⟨.move, [.tmp 27], (some 8), none⟩])
 (.seq (.seq (.seqR [⟨.move, [.tmp 0], (some 28), none⟩,
 ⟨.lenS, [.tmp 28], (some 29), none⟩,
 ⟨.move, [.const (.int .i64 0)], (some 30), none⟩])
 (.block 0 (.loop (.seq (.seqR [⟨(.bin .lss), [.tmp 30, .tmp 29], (some 31), none⟩])
 (.seq (.cond (.tmp 31) .skip
 (.exit 0))
 (.seq (.block 1 (.seq (.seqR [⟨.move, [.tmp 30], (some 32), none⟩,
 ⟨(.indexAddrS 2), [.tmp 28, .tmp 30], (some 33), none⟩,
 ⟨(.load true 2), [.tmp 33], (some 34), none⟩,
 ⟨(.new [(.int .u64 0), (.slice none 0 0 false)]), [], (some 10), none⟩,
 ⟨.move, [.tmp 32], (some 9), none⟩,
 ⟨(.store 2), [.tmp 10, .tmp 34], none, none⟩])
 (.seqR [⟨.move, [.tmp 8], (some 35), none⟩,
 ⟨(.fieldAddr 0), [.tmp 10], (some 36), none⟩,
 ⟨(.load false 1), [.tmp 36], (some 37), none⟩,
 ⟨.move, [.tmp 9], (some 38), none⟩,
 ⟨(.mapUpdate 0), [.tmp 35, .tmp 37, .tmp 38], none, none⟩])))
 (.seqR [⟨(.bin .add), [.tmp 30, .const (.int .i64 1)], (some 39), none⟩,
 ⟨.move, [.tmp 39], (some 30), none⟩])))))))
 (.seq (.seqR [⟨.move, [.tmp 0], (some 40), none⟩,
 ⟨.lenS, [.tmp 40], (some 41), none⟩,
 ⟨(.makeSlice 1 8 [(.int .i64 0)]), [.tmp 41, .tmp 41], (some 42), none⟩,
 ⟨.move, [.tmp 42], (some 11), none⟩])
 (.seq (.seq (.seqR [⟨.move, [.tmp 1], (some 43), none⟩,
 ⟨.lenS, [.tmp 43], (some 44), none⟩,
 ⟨.move, [.const (.int .i64 0)], (some 45), none⟩])
 (.block 2 (.loop (.seq (.seqR [⟨(.bin .lss), [.tmp 45, .tmp 44], (some 46), none⟩])
 (.seq (.cond (.tmp 46) .skip
 (.exit 2))
 (.seq (.block 3 (.seq (.seqR [⟨(.indexAddrS 1), [.tmp 43, .tmp 45], (some 47), none⟩,
 ⟨(.load false 1), [.tmp 47], (some 48), none⟩,
 ⟨.move, [.tmp 48], (some 13), none⟩])
 (.seq (.seqR [⟨.move, [.tmp 8], (some 50), none⟩,
 ⟨.move, [.tmp 13], (some 51), none⟩,
 ⟨(.lookup 0 true (.int .i64 0)), [.tmp 50, .tmp 51], (some 52), none⟩,
 ⟨.move, [.tmp 52], (some 49), none⟩,
 ⟨(.extract 0), [.tmp 49], (some 53), none⟩,
 ⟨(.extract 1), [.tmp 49], (some 54), none⟩,
 ⟨.move, [.tmp 53], (some 14), none⟩,
 ⟨.move, [.tmp 54], (some 15), none⟩])
 (.seq (.seqR [⟨.move, [.tmp 15], (some 55), none⟩])
 (.cond (.tmp 55) (.seqR [⟨.move, [.tmp 11], (some 56), none⟩,
 ⟨.move, [.tmp 14], (some 57), none⟩,
 ⟨(.indexAddrS 1), [.tmp 56, .tmp 57], (some 58), none⟩,
 ⟨(.load false 1), [.tmp 58], (some 59), none⟩,
 ⟨(.bin .add), [.tmp 59, .const (.int .i64 1)], (some 60), none⟩,
 ⟨(.indexAddrS 1), [.tmp 56, .tmp 57], (some 61), none⟩,
 ⟨(.store 1), [.tmp 61, .tmp 60], none, none⟩])
 .skip)))))
 (.seqR [⟨(.bin .add), [.tmp 45, .const (.int .i64 1)], (some 62), none⟩,
 ⟨.move, [.tmp 62], (some 45), none⟩])))))))
 (.seq (.seq (.seqR [⟨.move, [.tmp 6], (some 63), none⟩,
 ⟨.lenS, [.tmp 63], (some 64), none⟩,
 ⟨.move, [.const (.int .i64 0)], (some 65), none⟩])
 (.block 4 (.loop (.seq (.seqR [⟨(.bin .lss), [.tmp 65, .tmp 64], (some 66), none⟩])
 (.seq (.cond (.tmp 66) .skip
 (.exit 4))
 (.seq (.block 5 (.seq (.seqR [⟨(.indexAddrS 1), [.tmp 63, .tmp 65], (some 67), none⟩,
 ⟨(.load false 1), [.tmp 67], (some 68), none⟩,
 ⟨.move, [.tmp 68], (some 17), none⟩])
 (.seq (.seq (.seqR [⟨.move, [.tmp 11], (some 69), none⟩,
 ⟨.move, [.tmp 17], (some 70), none⟩,
 ⟨(.indexAddrS 1), [.tmp 69, .tmp 70], (some 71), none⟩,
 ⟨(.load false 1), [.tmp 71], (some 72), none⟩,
 ⟨(.bin .gtr), [.tmp 72, .const (.int .i64 1099511627776)], (some 73), none⟩])
 (.cond (.tmp 73) (.seq (.seqR [⟨.move, [.const (.slice none 0 0 false)], (some 4), none⟩,
 ⟨.move, [.const (.int .i64 14)], (some 5), none⟩])
 .ret)
 .skip))
 (.seq (.seqR [⟨.move, [.tmp 0], (some 74), none⟩,
 ⟨.move, [.tmp 17], (some 75), none⟩,
 ⟨(.indexAddrS 2), [.tmp 74, .tmp 75], (some 76), none⟩,
 ⟨(.fieldAddr 1), [.tmp 76], (some 77), none⟩,
 ⟨(.load false 1), [.tmp 77], (some 78), none⟩,
 ⟨.lenS, [.tmp 78], (some 79), none⟩,
 ⟨.move, [.const (.int .i64 0)], (some 80), none⟩])
 (.block 6 (.loop (.seq (.seqR [⟨(.bin .lss), [.tmp 80, .tmp 79], (some 81), none⟩])
 (.seq (.cond (.tmp 81) .skip
 (.exit 6))
 (.seq (.block 7 (.seq (.seqR [⟨(.indexAddrS 1), [.tmp 78, .tmp 80], (some 82), none⟩,
 ⟨(.load false 1), [.tmp 82], (some 83), none⟩,
 ⟨.move, [.tmp 83], (some 19), none⟩])
 (.drawR [⟨⟨.move, [.tmp 11], (some 84), none⟩, false, false, 0, 0⟩,
 ⟨⟨.move, [.tmp 19], (some 85), none⟩, false, false, 0, 0⟩,
 ⟨⟨.move, [.tmp 11], (some 86), none⟩, false, false, 0, 0⟩,
 ⟨⟨.move, [.tmp 19], (some 87), none⟩, false, false, 0, 0⟩,
 ⟨⟨(.indexAddrS 1), [.tmp 86, .tmp 87], (some 88), none⟩, false, false, 0, 0⟩,
 ⟨⟨(.load false 1), [.tmp 88], (some 89), none⟩, false, false, 0, 0⟩,
 ⟨⟨.move, [.tmp 11], (some 90), none⟩, false, false, 0, 0⟩,
 ⟨⟨.move, [.tmp 17], (some 91), none⟩, false, false, 0, 0⟩,
 ⟨⟨(.indexAddrS 1), [.tmp 90, .tmp 91], (some 92), none⟩, false, false, 0, 0⟩,
 ⟨⟨(.load false 1), [.tmp 92], (some 93), none⟩, false, false, 0, 0⟩,
 ⟨⟨(.bin .add), [.tmp 89, .tmp 93], (some 94), none⟩, false, false, 0, 0⟩,
 ⟨⟨(.minmax false), [.tmp 94, .const (.int .i64 1099511627777)], (some 95), none⟩, false, false, 0, 0⟩,
 ⟨⟨(.indexAddrS 1), [.tmp 84, .tmp 85], (some 96), none⟩, false, false, 0, 0⟩,
 ⟨⟨(.store 1), [.tmp 96, .tmp 95], none, none⟩, true, false, 0, 1⟩])))
 (.seqR [⟨(.bin .add), [.tmp 80, .const (.int .i64 1)], (some 97), none⟩,
 ⟨.move, [.tmp 97], (some 80), none⟩]))))))))))
 (.seqR [⟨(.bin .add), [.tmp 65, .const (.int .i64 1)], (some 98), none⟩,
 ⟨.move, [.tmp 98], (some 65), none⟩])))))))
 (.seq (.seqR [⟨.move, [.tmp 11], (some 99), none⟩,
 ⟨.move, [.tmp 99], (some 4), none⟩,
 ⟨.move, [.const (.int .i64 0)], (some 5), none⟩])
 .ret))))))))), [.tmp 4, .tmp 5]⟩
theorem c7_ok : compFunc Try.prog Try.f7 = some c7 := by kernel_rfl
theorem c7_body : hasBody Try.prog 7 = true := hasBody_of Try.func7 (by kernel_rfl)
/-- coachyard/graph.Work -/
def c8 : PFn := ⟨57, Tr.ofList (List.replicate 57 undefA), (.seq (.seqR [⟨.move, [.const (.int .i64 0)], (some 4), none⟩,
 ⟨.move, [.const (.int .i64 0)], (some 5), none⟩])
 (.seq (.seqR [⟨.move, [.tmp 0], (some 15), none⟩,
 ⟨.move, [.tmp 1], (some 16), none⟩,
 ⟨(.callF 7), [.tmp 15, .tmp 16], (some 17), none⟩,
 ⟨.move, [.tmp 17], (some 14), none⟩,
 ⟨(.extract 0), [.tmp 14], (some 18), none⟩,
 ⟨(.extract 1), [.tmp 14], (some 19), none⟩,
 ⟨.move, [.tmp 18], (some 6), none⟩,
 ⟨.move, [.tmp 19], (some 7), none⟩])
 (.seq (.seq (.seqR [⟨.move, [.tmp 7], (some 20), none⟩,
 ⟨(.bin .neq), [.tmp 20, .const (.int .i64 0)], (some 21), none⟩])
 (.cond (.tmp 21) (.seq (.seqR [⟨.move, [.tmp 7], (some 22), none⟩,
 ⟨.move, [.const (.int .i64 0)], (some 4), none⟩,
 ⟨.move, [.tmp 22], (some 5), none⟩])
 .ret)
 .skip))
 (.seq (.seqR [⟨.makeMap, [], (some 23), none⟩,
 ⟨.move, [.tmp 23], (some 8), none⟩])
 (.seq (.seqR [⟨.move, [.const (.int .i64 0)], (some 9), none⟩])
 (.seq (.seq (.seqR [⟨.move, [.tmp 6], (some 24), none⟩,
 ⟨.lenS, [.tmp 24], (some 25), none⟩,
 ⟨.move, [.const (.int .i64 0)], (some 26), none⟩])
 (.block 0 (.loop (.seq (.seqR [⟨(.bin .lss), [.tmp 26, .tmp 25], (some 27), none⟩])
 (.seq (.cond (.tmp 27) .skip
 (.exit 0))
 (.seq (.block 1 (.seq (.seqR [⟨.move, [.tmp 26], (some 28), none⟩,
 ⟨(.indexAddrS 1), [.tmp 24, .tmp 26], (some 29), none⟩,
 ⟨(.load false 1), [.tmp 29], (some 30), none⟩,
 ⟨.move, [.tmp 28], (some 10), none⟩,
 ⟨.move, [.tmp 30], (some 11), none⟩])
 (.seq (.seqR [⟨.move, [.tmp 8], (some 31), none⟩,
 ⟨.move, [.tmp 0], (some 32), none⟩,
 ⟨.move, [.tmp 10], (some 33), none⟩,
 ⟨(.indexAddrS 2), [.tmp 32, .tmp 33], (some 34), none⟩,
 ⟨(.fieldAddr 0), [.tmp 34], (some 35), none⟩,
 ⟨(.load false 1), [.tmp 35], (some 36), none⟩,
 ⟨(.mapUpdate 0), [.tmp 31, .tmp 36, .const (.bool true)], none, none⟩])
 (.seqR [⟨.move, [.tmp 9], (some 37), none⟩,
 ⟨.move, [.tmp 11], (some 38), none⟩,
 ⟨(.bin .add), [.tmp 37, .tmp 38], (some 39), none⟩,
 ⟨.move, [.tmp 39], (some 9), none⟩]))))
 (.seqR [⟨(.bin .add), [.tmp 26, .const (.int .i64 1)], (some 40), none⟩,
 ⟨.move, [.tmp 40], (some 26), none⟩])))))))
 (.seq (.seq (.seqR [⟨.move, [.tmp 1], (some 41), none⟩,
 ⟨.lenS, [.tmp 41], (some 42), none⟩,
 ⟨.move, [.const (.int .i64 0)], (some 43), none⟩])
 (.block 2 (.loop (.seq (.seqR [⟨(.bin .lss), [.tmp 43, .tmp 42], (some 44), none⟩])
 (.seq (.cond (.tmp 44) .skip
 (.exit 2))
 (.seq (.block 3 (.seq (.seqR [⟨(.indexAddrS 1), [.tmp 41, .tmp 43], (some 45), none⟩,
 ⟨(.load false 1), [.tmp 45], (some 46), none⟩,
 ⟨.move, [.tmp 46], (some 13), none⟩])
 (.seq (.seqR [⟨.move, [.tmp 8], (some 47), none⟩,
 ⟨.move, [.tmp 13], (some 48), none⟩,
 ⟨(.lookup 0 false (.bool false)), [.tmp 47, .tmp 48], (some 49), none⟩,
 ⟨.not, [.tmp 49], (some 50), none⟩])
 (.cond (.tmp 50) (.seqR [⟨.move, [.tmp 9], (some 51), none⟩,
 ⟨(.bin .add), [.tmp 51, .const (.int .i64 1)], (some 52), none⟩,
 ⟨.move, [.tmp 52], (some 9), none⟩])
 .skip))))
 (.seqR [⟨(.bin .add), [.tmp 43, .const (.int .i64 1)], (some 53), none⟩,
 ⟨.move, [.tmp 53], (some 43), none⟩])))))))
 (.seq (.seq (.seqR [⟨.move, [.tmp 9], (some 54), none⟩,
 ⟨(.bin .gtr), [.tmp 54, .const (.int .i64 1099511627776)], (some 55), none⟩])
 (.cond (.tmp 55) (.seq (.seqR [⟨.move, [.const (.int .i64 0)], (some 4), none⟩,
 ⟨.move, [.const (.int .i64 14)], (some 5), none⟩])
 .ret)
 .skip))
 (.seq (.seqR [⟨.move, [.tmp 9], (some 56), none⟩,
 ⟨.move, [.tmp 56], (some 4), none⟩,
 ⟨.move, [.const (.int .i64 0)], (some 5), none⟩])
 .ret))))))))), [.tmp 4, .tmp 5]⟩
theorem c8_ok : compFunc Try.prog Try.f8 = some c8 := by kernel_rfl
theorem c8_body : hasBody Try.prog 8 = true := hasBody_of Try.func8 (by kernel_rfl)
/-- coachyard/coachyardref25.Ranks -/
def c9 : PFn := ⟨63, Tr.ofList (List.replicate 63 undefA), (.seq (.seqR [⟨.move, [.const (.slice none 0 0 false)], (some 2), none⟩,
 ⟨.move, [.const (.bool false)], (some 3), none⟩])
 (.seq (.seq (.seqR [⟨.move, [.tmp 0], (some 10), none⟩,
 ⟨(.callF 14), [.tmp 10], (some 11), none⟩,
 ⟨.not, [.tmp 11], (some 12), none⟩])
 (.cond (.tmp 12) (.seq (.seqR [⟨.move, [.const (.slice none 0 0 false)], (some 2), none⟩,
 ⟨.move, [.const (.bool false)], (some 3), none⟩])
 .ret)
 .skip))
 (.seq (.seqR [⟨.move, [.tmp 0], (some 13), none⟩,
 ⟨.lenS, [.tmp 13], (some 14), none⟩,
 ⟨(.makeSlice 1 8 [(.int .i64 0)]), [.tmp 14, .tmp 14], (some 15), none⟩,
 ⟨.move, [.tmp 15], (some 4), none⟩])
 (.seq (.seq (.seqR [⟨.move, [.const (.int .i64 0)], (some 5), none⟩])
 (.block 0 (.loop (.seq (.seq (.seqR [⟨.move, [.tmp 5], (some 16), none⟩,
 ⟨.move, [.tmp 0], (some 17), none⟩,
 ⟨.lenS, [.tmp 17], (some 18), none⟩,
 ⟨(.bin .leq), [.tmp 16, .tmp 18], (some 19), none⟩])
 (.cond (.tmp 19) .skip
 (.exit 0)))
 (.seq (.block 1 (.seq (.seqR [⟨.move, [.const (.bool false)], (some 6), none⟩])
 (.seq (.seq (.seqR [⟨.move, [.const (.int .i64 0)], (some 7), none⟩])
 (.block 2 (.loop (.seq (.seq (.seqR [⟨.move, [.tmp 7], (some 22), none⟩,
 ⟨.move, [.tmp 0], (some 23), none⟩,
 ⟨.lenS, [.tmp 23], (some 24), none⟩,
 ⟨(.bin .lss), [.tmp 22, .tmp 24], (some 25), none⟩])
 (.cond (.tmp 25) .skip
 (.exit 2)))
 (.seq (.block 3 (.seq (.seqR [⟨.move, [.const (.int .i64 0)], (some 8), none⟩])
 (.block 4 (.loop (.seq (.seq (.seqR [⟨.move, [.tmp 8], (some 28), none⟩,
 ⟨.move, [.tmp 0], (some 29), none⟩,
 ⟨.move, [.tmp 7], (some 30), none⟩,
 ⟨(.indexAddrS 2), [.tmp 29, .tmp 30], (some 31), none⟩,
 ⟨(.fieldAddr 1), [.tmp 31], (some 32), none⟩,
 ⟨(.load false 1), [.tmp 32], (some 33), none⟩,
 ⟨.lenS, [.tmp 33], (some 34), none⟩,
 ⟨(.bin .lss), [.tmp 28, .tmp 34], (some 35), none⟩])
 (.cond (.tmp 35) .skip
 (.exit 4)))
 (.seq (.block 5 (.seq (.seqR [⟨.move, [.tmp 4], (some 38), none⟩,
 ⟨.move, [.tmp 0], (some 39), none⟩,
 ⟨.move, [.tmp 7], (some 40), none⟩,
 ⟨(.indexAddrS 2), [.tmp 39, .tmp 40], (some 41), none⟩,
 ⟨(.fieldAddr 1), [.tmp 41], (some 42), none⟩,
 ⟨(.load false 1), [.tmp 42], (some 43), none⟩,
 ⟨.move, [.tmp 8], (some 44), none⟩,
 ⟨(.indexAddrS 1), [.tmp 43, .tmp 44], (some 45), none⟩,
 ⟨(.load false 1), [.tmp 45], (some 46), none⟩,
 ⟨(.indexAddrS 1), [.tmp 38, .tmp 46], (some 47), none⟩,
 ⟨(.load false 1), [.tmp 47], (some 48), none⟩,
 ⟨(.bin .add), [.tmp 48, .const (.int .i64 1)], (some 49), none⟩,
 ⟨.move, [.tmp 49], (some 9), none⟩])
 (.seq (.seqR [⟨.move, [.tmp 9], (some 50), none⟩,
 ⟨.move, [.tmp 4], (some 51), none⟩,
 ⟨.move, [.tmp 7], (some 52), none⟩,
 ⟨(.indexAddrS 1), [.tmp 51, .tmp 52], (some 53), none⟩,
 ⟨(.load false 1), [.tmp 53], (some 54), none⟩,
 ⟨(.bin .gtr), [.tmp 50, .tmp 54], (some 55), none⟩])
 (.cond (.tmp 55) (.seq (.seqR [⟨.move, [.tmp 4], (some 56), none⟩,
 ⟨.move, [.tmp 7], (some 57), none⟩,
 ⟨.move, [.tmp 9], (some 58), none⟩,
 ⟨(.indexAddrS 1), [.tmp 56, .tmp 57], (some 59), none⟩,
 ⟨(.store 1), [.tmp 59, .tmp 58], none, none⟩])
 (.seqR [⟨.move, [.const (.bool true)], (some 6), none⟩]))
 .skip))))
 (.seqR [⟨.move, [.tmp 8], (some 36), none⟩,
 ⟨(.bin .add), [.tmp 36, .const (.int .i64 1)], (some 37), none⟩,
 ⟨.move, [.tmp 37], (some 8), none⟩])))))))
 (.seqR [⟨.move, [.tmp 7], (some 26), none⟩,
 ⟨(.bin .add), [.tmp 26, .const (.int .i64 1)], (some 27), none⟩,
 ⟨.move, [.tmp 27], (some 7), none⟩]))))))
 (.seq (.seqR [⟨.move, [.tmp 6], (some 60), none⟩,
 ⟨.not, [.tmp 60], (some 61), none⟩])
 (.cond (.tmp 61) (.seq (.seqR [⟨.move, [.tmp 4], (some 62), none⟩,
 ⟨.move, [.tmp 62], (some 2), none⟩,
 ⟨.move, [.const (.bool true)], (some 3), none⟩])
 .ret)
 .skip)))))
 (.seqR [⟨.move, [.tmp 5], (some 20), none⟩,
 ⟨(.bin .add), [.tmp 20, .const (.int .i64 1)], (some 21), none⟩,
 ⟨.move, [.tmp 21], (some 5), none⟩]))))))
 (.seq (.seqR [⟨.move, [.const (.slice none 0 0 false)], (some 2), none⟩,
 ⟨.move, [.const (.bool false)], (some 3), none⟩])
 .ret))))), [.tmp 2, .tmp 3]⟩
theorem c9_ok : compFunc Try.prog Try.f9 = some c9 := by kernel_rfl
theorem c9_body : hasBody Try.prog 9 = true := hasBody_of Try.func9 (by kernel_rfl)
/-- coachyard/coachyardref25.Often -/
def c10 : PFn := ⟨34, Tr.ofList (List.replicate 34 undefA), (.seq (.seqR [⟨.move, [.const (.slice none 0 0 false)], (some 4), none⟩,
 ⟨.move, [.const (.bool false)], (some 5), none⟩])
 (.seq (.seqR [⟨(.sliceLit 0 [] []), [], (some 10), none⟩,
 ⟨.move, [.tmp 10], (some 6), none⟩])
 (.seq (.seq (.seqR [⟨.move, [.const (.int .i64 0)], (some 7), none⟩])
 (.block 0 (.loop (.seq (.seq (.seqR [⟨.move, [.tmp 7], (some 11), none⟩,
 ⟨.move, [.tmp 0], (some 12), none⟩,
 ⟨.lenS, [.tmp 12], (some 13), none⟩,
 ⟨(.bin .lss), [.tmp 11, .tmp 13], (some 14), none⟩])
 (.cond (.tmp 14) .skip
 (.exit 0)))
 (.seq (.block 1 (.seqR [⟨.move, [.tmp 6], (some 17), none⟩,
 ⟨(.sliceLit 1 [(.int .i64 0)] [(0, 1)]), [.const (.int .i64 (-1))], (some 18), none⟩,
 ⟨(.append 1 8), [.tmp 17, .tmp 18], (some 19), none⟩,
 ⟨.move, [.tmp 19], (some 6), none⟩]))
 (.seqR [⟨.move, [.tmp 7], (some 15), none⟩,
 ⟨(.bin .add), [.tmp 15, .const (.int .i64 1)], (some 16), none⟩,
 ⟨.move, [.tmp 16], (some 7), none⟩]))))))
 (.seq (.seqR [⟨.move, [.const (.bool true)], (some 8), none⟩])
 (.seq (.seq (.seqR [⟨.move, [.const (.int .i64 0)], (some 9), none⟩])
 (.block 2 (.loop (.seq (.seq (.seqR [⟨.move, [.tmp 9], (some 20), none⟩,
 ⟨.move, [.tmp 0], (some 21), none⟩,
 ⟨.lenS, [.tmp 21], (some 22), none⟩,
 ⟨(.bin .lss), [.tmp 20, .tmp 22], (some 23), none⟩])
 (.cond (.tmp 23) .skip
 (.exit 2)))
 (.seq (.block 3 (.seq (.seqR [⟨.move, [.tmp 0], (some 26), none⟩,
 ⟨.move, [.tmp 1], (some 27), none⟩,
 ⟨.move, [.tmp 6], (some 28), none⟩,
 ⟨.move, [.tmp 9], (some 29), none⟩,
 ⟨(.callF 18), [.tmp 26, .tmp 27, .tmp 28, .tmp 29], (some 30), none⟩,
 ⟨(.bin .gtr), [.tmp 30, .const (.int .i64 1099511627776)], (some 31), none⟩])
 (.cond (.tmp 31) (.seqR [⟨.move, [.const (.bool false)], (some 8), none⟩])
 .skip)))
 (.seqR [⟨.move, [.tmp 9], (some 24), none⟩,
 ⟨(.bin .add), [.tmp 24, .const (.int .i64 1)], (some 25), none⟩,
 ⟨.move, [.tmp 25], (some 9), none⟩]))))))
 (.seq (.seqR [⟨.move, [.tmp 6], (some 32), none⟩,
 ⟨.move, [.tmp 8], (some 33), none⟩,
 ⟨.move, [.tmp 32], (some 4), none⟩,
 ⟨.move, [.tmp 33], (some 5), none⟩])
 .ret)))))), [.tmp 4, .tmp 5]⟩
theorem c10_ok : compFunc Try.prog Try.f10 = some c10 := by kernel_rfl
theorem c10_body : hasBody Try.prog 10 = true := hasBody_of Try.func10 (by kernel_rfl)
/-- coachyard/coachyardref25.Work -/
def c11 : PFn := ⟨66, Tr.ofList (List.replicate 66 undefA), (.seq (.seqR [⟨.move, [.const (.int .i64 0)], (some 4), none⟩,
 ⟨.move, [.const (.bool false)], (some 5), none⟩])
 (.seq (.seqR [⟨.move, [.tmp 0], (some 14), none⟩,
 ⟨.move, [.tmp 1], (some 15), none⟩,
 ⟨(.callF 10), [.tmp 14, .tmp 15], (some 16), none⟩,
 ⟨.move, [.tmp 16], (some 13), none⟩,
 ⟨(.extract 0), [.tmp 13], (some 17), none⟩,
 ⟨(.extract 1), [.tmp 13], (some 18), none⟩,
 ⟨.move, [.tmp 17], (some 6), none⟩,
 ⟨.move, [.tmp 18], (some 7), none⟩])
 (.seq (.seqR [⟨.move, [.const (.int .i64 0)], (some 8), none⟩])
 (.seq (.seq (.seqR [⟨.move, [.const (.int .i64 0)], (some 9), none⟩])
 (.block 0 (.loop (.seq (.seq (.seqR [⟨.move, [.tmp 9], (some 19), none⟩,
 ⟨.move, [.tmp 6], (some 20), none⟩,
 ⟨.lenS, [.tmp 20], (some 21), none⟩,
 ⟨(.bin .lss), [.tmp 19, .tmp 21], (some 22), none⟩])
 (.cond (.tmp 22) .skip
 (.exit 0)))
 (.seq (.block 1 (.seqR [⟨.move, [.tmp 8], (some 25), none⟩,
 ⟨.move, [.tmp 6], (some 26), none⟩,
 ⟨.move, [.tmp 9], (some 27), none⟩,
 ⟨(.indexAddrS 1), [.tmp 26, .tmp 27], (some 28), none⟩,
 ⟨(.load false 1), [.tmp 28], (some 29), none⟩,
 ⟨(.bin .add), [.tmp 25, .tmp 29], (some 30), none⟩,
 ⟨.move, [.tmp 30], (some 8), none⟩]))
 (.seqR [⟨.move, [.tmp 9], (some 23), none⟩,
 ⟨(.bin .add), [.tmp 23, .const (.int .i64 1)], (some 24), none⟩,
 ⟨.move, [.tmp 24], (some 9), none⟩]))))))
 (.seq (.seq (.seqR [⟨.move, [.const (.int .i64 0)], (some 10), none⟩])
 (.block 2 (.loop (.seq (.seq (.seqR [⟨.move, [.tmp 10], (some 31), none⟩,
 ⟨.move, [.tmp 1], (some 32), none⟩,
 ⟨.lenS, [.tmp 32], (some 33), none⟩,
 ⟨(.bin .lss), [.tmp 31, .tmp 33], (some 34), none⟩])
 (.cond (.tmp 34) .skip
 (.exit 2)))
 (.seq (.block 3 (.seq (.seqR [⟨.move, [.const (.bool false)], (some 11), none⟩])
 (.seq (.seq (.seqR [⟨.move, [.const (.int .i64 0)], (some 12), none⟩])
 (.block 4 (.loop (.seq (.seq (.seqR [⟨.move, [.tmp 12], (some 37), none⟩,
 ⟨.move, [.tmp 0], (some 38), none⟩,
 ⟨.lenS, [.tmp 38], (some 39), none⟩,
 ⟨(.bin .lss), [.tmp 37, .tmp 39], (some 40), none⟩])
 (.cond (.tmp 40) .skip
 (.exit 4)))
 (.seq (.block 5 (.drawR [⟨⟨.move, [.tmp 11], (some 43), none⟩, false, false, 0, 0⟩,
 ⟨⟨.move, [.tmp 43], (some 44), none⟩, false, false, 0, 0⟩,
 ⟨⟨.move, [.tmp 0], (some 45), some (44, false)⟩, false, false, 0, 0⟩,
 ⟨⟨.move, [.tmp 12], (some 46), some (44, false)⟩, false, false, 0, 0⟩,
 ⟨⟨(.indexAddrS 2), [.tmp 45, .tmp 46], (some 47), some (44, false)⟩, false, false, 0, 0⟩,
 ⟨⟨(.fieldAddr 0), [.tmp 47], (some 48), some (44, false)⟩, false, false, 0, 0⟩,
 ⟨⟨(.load false 1), [.tmp 48], (some 49), some (44, false)⟩, false, false, 0, 0⟩,
 ⟨⟨.move, [.tmp 1], (some 50), some (44, false)⟩, false, false, 0, 0⟩,
 ⟨⟨.move, [.tmp 10], (some 51), some (44, false)⟩, false, false, 0, 0⟩,
 ⟨⟨(.indexAddrS 1), [.tmp 50, .tmp 51], (some 52), some (44, false)⟩, false, false, 0, 0⟩,
 ⟨⟨(.load false 1), [.tmp 52], (some 53), some (44, false)⟩, false, false, 0, 0⟩,
 ⟨⟨(.bin .eql), [.tmp 49, .tmp 53], (some 54), some (44, false)⟩, false, false, 0, 0⟩,
 ⟨⟨.pick, [.tmp 44, .const (.bool true), .tmp 54], (some 55), none⟩, false, false, 0, 0⟩,
 ⟨⟨.move, [.tmp 55], (some 11), none⟩, false, false, 0, 0⟩]))
 (.seqR [⟨.move, [.tmp 12], (some 41), none⟩,
 ⟨(.bin .add), [.tmp 41, .const (.int .i64 1)], (some 42), none⟩,
 ⟨.move, [.tmp 42], (some 12), none⟩]))))))
 (.seq (.seqR [⟨.move, [.tmp 11], (some 56), none⟩,
 ⟨.not, [.tmp 56], (some 57), none⟩])
 (.cond (.tmp 57) (.seqR [⟨.move, [.tmp 8], (some 58), none⟩,
 ⟨(.bin .add), [.tmp 58, .const (.int .i64 1)], (some 59), none⟩,
 ⟨.move, [.tmp 59], (some 8), none⟩])
 .skip)))))
 (.seqR [⟨.move, [.tmp 10], (some 35), none⟩,
 ⟨(.bin .add), [.tmp 35, .const (.int .i64 1)], (some 36), none⟩,
 ⟨.move, [.tmp 36], (some 10), none⟩]))))))
 (.seq (.seqR [⟨.move, [.tmp 8], (some 60), none⟩,
 ⟨.move, [.tmp 7], (some 61), none⟩,
 ⟨.move, [.tmp 61], (some 62), none⟩,
 ⟨.move, [.tmp 8], (some 63), some (62, true)⟩,
 ⟨(.bin .leq), [.tmp 63, .const (.int .i64 1099511627776)], (some 64), some (62, true)⟩,
 ⟨.pick, [.tmp 62, .tmp 64, .const (.bool false)], (some 65), none⟩,
 ⟨.move, [.tmp 60], (some 4), none⟩,
 ⟨.move, [.tmp 65], (some 5), none⟩])
 .ret)))))), [.tmp 4, .tmp 5]⟩
theorem c11_ok : compFunc Try.prog Try.f11 = some c11 := by kernel_rfl
theorem c11_body : hasBody Try.prog 11 = true := hasBody_of Try.func11 (by kernel_rfl)
/-- coachyard/graph.Ranks -/
def c12 : PFn := ⟨61, Tr.ofList (List.replicate 61 undefA), (.seq (.seqR [⟨.move, [.const (.slice none 0 0 false)], (some 2), none⟩,
 ⟨.move, [.const (.int .i64 0)], (some 3), none⟩])
 (.seq (.seqR [⟨.move, [.tmp 0], (some 11), none⟩,
 ⟨(.callF 17), [.tmp 11], (some 12), none⟩,
 ⟨.move, [.tmp 12], (some 10), none⟩,
 ⟨(.extract 0), [.tmp 10], (some 13), none⟩,
 ⟨(.extract 1), [.tmp 10], (some 14), none⟩,
 ⟨.move, [.tmp 13], (some 4), none⟩,
 ⟨.move, [.tmp 14], (some 5), none⟩])
 (.seq (.seq (.seqR [⟨.move, [.tmp 5], (some 15), none⟩,
 ⟨.not, [.tmp 15], (some 16), none⟩])
 (.cond (.tmp 16) (.seq (.seqR [⟨.move, [.const (.slice none 0 0 false)], (some 2), none⟩,
 ⟨.move, [.const (.int .i64 13)], (some 3), none⟩])
 .ret)
 .skip))
 (.seq (.seqR [⟨.move, [.tmp 0], (some 17), none⟩,
 ⟨.lenS, [.tmp 17], (some 18), none⟩,
 ⟨(.makeSlice 1 8 [(.int .i64 0)]), [.tmp 18, .tmp 18], (some 19), none⟩,
 ⟨.move, [.tmp 19], (some 6), none⟩])
 (.seq (.seq (.seqR [⟨.move, [.tmp 4], (some 20), none⟩,
 ⟨.lenS, [.tmp 20], (some 21), none⟩,
 ⟨(.bin .sub), [.tmp 21, .const (.int .i64 1)], (some 22), none⟩,
 ⟨.move, [.tmp 22], (some 7), none⟩])
 (.block 0 (.loop (.seq (.seq (.seqR [⟨.move, [.tmp 7], (some 23), none⟩,
 ⟨(.bin .geq), [.tmp 23, .const (.int .i64 0)], (some 24), none⟩])
 (.cond (.tmp 24) .skip
 (.exit 0)))
 (.seq (.block 1 (.seq (.seqR [⟨.move, [.tmp 0], (some 27), none⟩,
 ⟨.move, [.tmp 4], (some 28), none⟩,
 ⟨.move, [.tmp 7], (some 29), none⟩,
 ⟨(.indexAddrS 1), [.tmp 28, .tmp 29], (some 30), none⟩,
 ⟨(.load false 1), [.tmp 30], (some 31), none⟩,
 ⟨(.indexAddrS 2), [.tmp 27, .tmp 31], (some 32), none⟩,
 ⟨(.fieldAddr 1), [.tmp 32], (some 33), none⟩,
 ⟨(.load false 1), [.tmp 33], (some 34), none⟩,
 ⟨.lenS, [.tmp 34], (some 35), none⟩,
 ⟨.move, [.const (.int .i64 0)], (some 36), none⟩])
 (.block 2 (.loop (.seq (.seqR [⟨(.bin .lss), [.tmp 36, .tmp 35], (some 37), none⟩])
 (.seq (.cond (.tmp 37) .skip
 (.exit 2))
 (.seq (.block 3 (.seq (.seqR [⟨(.indexAddrS 1), [.tmp 34, .tmp 36], (some 38), none⟩,
 ⟨(.load false 1), [.tmp 38], (some 39), none⟩,
 ⟨.move, [.tmp 39], (some 9), none⟩])
 (.drawR [⟨⟨.move, [.tmp 6], (some 40), none⟩, false, false, 0, 0⟩,
 ⟨⟨.move, [.tmp 4], (some 41), none⟩, false, false, 0, 0⟩,
 ⟨⟨.move, [.tmp 7], (some 42), none⟩, false, false, 0, 0⟩,
 ⟨⟨(.indexAddrS 1), [.tmp 41, .tmp 42], (some 43), none⟩, false, false, 0, 0⟩,
 ⟨⟨(.load false 1), [.tmp 43], (some 44), none⟩, false, false, 0, 0⟩,
 ⟨⟨.move, [.tmp 6], (some 45), none⟩, false, false, 0, 0⟩,
 ⟨⟨.move, [.tmp 4], (some 46), none⟩, false, false, 0, 0⟩,
 ⟨⟨.move, [.tmp 7], (some 47), none⟩, false, false, 0, 0⟩,
 ⟨⟨(.indexAddrS 1), [.tmp 46, .tmp 47], (some 48), none⟩, false, false, 0, 0⟩,
 ⟨⟨(.load false 1), [.tmp 48], (some 49), none⟩, false, false, 0, 0⟩,
 ⟨⟨(.indexAddrS 1), [.tmp 45, .tmp 49], (some 50), none⟩, false, false, 0, 0⟩,
 ⟨⟨(.load false 1), [.tmp 50], (some 51), none⟩, false, false, 0, 0⟩,
 ⟨⟨.move, [.tmp 6], (some 52), none⟩, false, false, 0, 0⟩,
 ⟨⟨.move, [.tmp 9], (some 53), none⟩, false, false, 0, 0⟩,
 ⟨⟨(.indexAddrS 1), [.tmp 52, .tmp 53], (some 54), none⟩, false, false, 0, 0⟩,
 ⟨⟨(.load false 1), [.tmp 54], (some 55), none⟩, false, false, 0, 0⟩,
 ⟨⟨(.bin .add), [.tmp 55, .const (.int .i64 1)], (some 56), none⟩, false, false, 0, 0⟩,
 ⟨⟨(.minmax true), [.tmp 51, .tmp 56], (some 57), none⟩, false, false, 0, 0⟩,
 ⟨⟨(.indexAddrS 1), [.tmp 40, .tmp 44], (some 58), none⟩, false, false, 0, 0⟩,
 ⟨⟨(.store 1), [.tmp 58, .tmp 57], none, none⟩, true, false, 0, 1⟩])))
 (.seqR [⟨(.bin .add), [.tmp 36, .const (.int .i64 1)], (some 59), none⟩,
 ⟨.move, [.tmp 59], (some 36), none⟩]))))))))
 (.seqR [⟨.move, [.tmp 7], (some 25), none⟩,
 ⟨(.bin .sub), [.tmp 25, .const (.int .i64 1)], (some 26), none⟩,
 ⟨.move, [.tmp 26], (some 7), none⟩]))))))
 (.seq (.seqR [⟨.move, [.tmp 6], (some 60), none⟩,
 ⟨.move, [.tmp 60], (some 2), none⟩,
 ⟨.move, [.const (.int .i64 0)], (some 3), none⟩])
 .ret)))))), [.tmp 2, .tmp 3]⟩
theorem c12_ok : compFunc Try.prog Try.f12 = some c12 := by kernel_rfl
theorem c12_body : hasBody Try.prog 12 = true := hasBody_of Try.func12 (by kernel_rfl)
/-- coachyard/graph.Right -/
def c13 : PFn := ⟨42, Tr.ofList (List.replicate 42 undefA), (.seq (.seqR [⟨.move, [.const (.bool false)], (some 2), none⟩])
 (.seq (.seq (.seqR [⟨.move, [.tmp 0], (some 8), none⟩,
 ⟨.lenS, [.tmp 8], (some 9), none⟩,
 ⟨(.bin .gtr), [.tmp 9, .const (.int .i64 200)], (some 10), none⟩])
 (.cond (.tmp 10) (.seq (.seqR [⟨.move, [.const (.bool false)], (some 2), none⟩])
 .ret)
 .skip))
 (.seq (.seqR [⟨.makeMap, [], (some 11), none⟩,
 ⟨.move, [.tmp 11], (some 3), none⟩])
 (.seq (.seq (.seqR [⟨.move, [.tmp 0], (some 12), none⟩,
 ⟨.lenS, [.tmp 12], (some 13), none⟩,
 ⟨.move, [.const (.int .i64 0)], (some 14), none⟩])
 (.block 0 (.loop (.seq (.seqR [⟨(.bin .lss), [.tmp 14, .tmp 13], (some 15), none⟩])
 (.seq (.cond (.tmp 15) .skip
 (.exit 0))
 (.seq (.block 1 (.seq (.seqR [⟨(.indexAddrS 2), [.tmp 12, .tmp 14], (some 16), none⟩,
 ⟨(.load true 2), [.tmp 16], (some 17), none⟩,
 ⟨(.new [(.int .u64 0), (.slice none 0 0 false)]), [], (some 5), none⟩,
 ⟨(.store 2), [.tmp 5, .tmp 17], none, none⟩])
 (.seq (.seq (.seqR [⟨.move, [.tmp 3], (some 18), none⟩,
 ⟨(.fieldAddr 0), [.tmp 5], (some 19), none⟩,
 ⟨(.load false 1), [.tmp 19], (some 20), none⟩,
 ⟨(.lookup 0 false (.bool false)), [.tmp 18, .tmp 20], (some 21), none⟩])
 (.cond (.tmp 21) (.seq (.seqR [⟨.move, [.const (.bool false)], (some 2), none⟩])
 .ret)
 .skip))
 (.seq (.seqR [⟨.move, [.tmp 3], (some 22), none⟩,
 ⟨(.fieldAddr 0), [.tmp 5], (some 23), none⟩,
 ⟨(.load false 1), [.tmp 23], (some 24), none⟩,
 ⟨(.mapUpdate 0), [.tmp 22, .tmp 24, .const (.bool true)], none, none⟩])
 (.seq (.seqR [⟨(.fieldAddr 1), [.tmp 5], (some 25), none⟩,
 ⟨(.load false 1), [.tmp 25], (some 26), none⟩,
 ⟨.lenS, [.tmp 26], (some 27), none⟩,
 ⟨.move, [.const (.int .i64 0)], (some 28), none⟩])
 (.block 2 (.loop (.seq (.seqR [⟨(.bin .lss), [.tmp 28, .tmp 27], (some 29), none⟩])
 (.seq (.cond (.tmp 29) .skip
 (.exit 2))
 (.seq (.block 3 (.seq (.seqR [⟨(.indexAddrS 1), [.tmp 26, .tmp 28], (some 30), none⟩,
 ⟨(.load false 1), [.tmp 30], (some 31), none⟩,
 ⟨.move, [.tmp 31], (some 7), none⟩])
 (.seq (.seqR [⟨.move, [.tmp 7], (some 32), none⟩,
 ⟨(.bin .lss), [.tmp 32, .const (.int .i64 0)], (some 33), none⟩,
 ⟨.move, [.tmp 33], (some 34), none⟩,
 ⟨.move, [.tmp 7], (some 35), some (34, false)⟩,
 ⟨.move, [.tmp 0], (some 36), some (34, false)⟩,
 ⟨.lenS, [.tmp 36], (some 37), some (34, false)⟩,
 ⟨(.bin .geq), [.tmp 35, .tmp 37], (some 38), some (34, false)⟩,
 ⟨.pick, [.tmp 34, .const (.bool true), .tmp 38], (some 39), none⟩])
 (.cond (.tmp 39) (.seq (.seqR [⟨.move, [.const (.bool false)], (some 2), none⟩])
 .ret)
 .skip))))
 (.seqR [⟨(.bin .add), [.tmp 28, .const (.int .i64 1)], (some 40), none⟩,
 ⟨.move, [.tmp 40], (some 28), none⟩])))))))))))
 (.seqR [⟨(.bin .add), [.tmp 14, .const (.int .i64 1)], (some 41), none⟩,
 ⟨.move, [.tmp 41], (some 14), none⟩])))))))
 (.seq (.seqR [⟨.move, [.const (.bool true)], (some 2), none⟩])
 .ret))))), [.tmp 2]⟩
theorem c13_ok : compFunc Try.prog Try.f13 = some c13 := by kernel_rfl
theorem c13_body : hasBody Try.prog 13 = true := hasBody_of Try.func13 (by kernel_rfl)
/-- coachyard/coachyardref25.Right -/
def c14 : PFn := ⟨63, Tr.ofList (List.replicate 63 undefA), (.seq (.seqR [⟨.move, [.const (.bool false)], (some 2), none⟩])
 (.seq (.seq (.seqR [⟨.move, [.tmp 0], (some 6), none⟩,
 ⟨.lenS, [.tmp 6], (some 7), none⟩,
 ⟨(.bin .gtr), [.tmp 7, .const (.int .i64 200)], (some 8), none⟩])
 (.cond (.tmp 8) (.seq (.seqR [⟨.move, [.const (.bool false)], (some 2), none⟩])
 .ret)
 .skip))
 (.seq (.seq (.seqR [⟨.move, [.const (.int .i64 0)], (some 3), none⟩])
 (.block 0 (.loop (.seq (.seq (.seqR [⟨.move, [.tmp 3], (some 9), none⟩,
 ⟨.move, [.tmp 0], (some 10), none⟩,
 ⟨.lenS, [.tmp 10], (some 11), none⟩,
 ⟨(.bin .lss), [.tmp 9, .tmp 11], (some 12), none⟩])
 (.cond (.tmp 12) .skip
 (.exit 0)))
 (.seq (.block 1 (.seq (.seq (.seqR [⟨.move, [.const (.int .i64 0)], (some 4), none⟩])
 (.block 2 (.loop (.seq (.seq (.seqR [⟨.move, [.tmp 4], (some 15), none⟩,
 ⟨.move, [.tmp 3], (some 16), none⟩,
 ⟨(.bin .lss), [.tmp 15, .tmp 16], (some 17), none⟩])
 (.cond (.tmp 17) .skip
 (.exit 2)))
 (.seq (.block 3 (.seq (.drawR [⟨⟨.move, [.tmp 0], (some 20), none⟩, false, false, 0, 0⟩,
 ⟨⟨.move, [.tmp 4], (some 21), none⟩, false, false, 0, 0⟩,
 ⟨⟨(.indexAddrS 2), [.tmp 20, .tmp 21], (some 22), none⟩, false, false, 0, 0⟩,
 ⟨⟨(.fieldAddr 0), [.tmp 22], (some 23), none⟩, false, false, 0, 0⟩,
 ⟨⟨(.load false 1), [.tmp 23], (some 24), none⟩, false, false, 0, 0⟩,
 ⟨⟨.move, [.tmp 0], (some 25), none⟩, false, false, 0, 0⟩,
 ⟨⟨.move, [.tmp 3], (some 26), none⟩, false, false, 0, 0⟩,
 ⟨⟨(.indexAddrS 2), [.tmp 25, .tmp 26], (some 27), none⟩, false, false, 0, 0⟩,
 ⟨⟨(.fieldAddr 0), [.tmp 27], (some 28), none⟩, false, false, 0, 0⟩,
 ⟨⟨(.load false 1), [.tmp 28], (some 29), none⟩, false, false, 0, 0⟩,
 ⟨⟨(.bin .eql), [.tmp 24, .tmp 29], (some 30), none⟩, false, false, 0, 0⟩])
 (.cond (.tmp 30) (.seq (.seqR [⟨.move, [.const (.bool false)], (some 2), none⟩])
 .ret)
 .skip)))
 (.seqR [⟨.move, [.tmp 4], (some 18), none⟩,
 ⟨(.bin .add), [.tmp 18, .const (.int .i64 1)], (some 19), none⟩,
 ⟨.move, [.tmp 19], (some 4), none⟩]))))))
 (.seq (.seqR [⟨.move, [.const (.int .i64 0)], (some 5), none⟩])
 (.block 4 (.loop (.seq (.seq (.seqR [⟨.move, [.tmp 5], (some 31), none⟩,
 ⟨.move, [.tmp 0], (some 32), none⟩,
 ⟨.move, [.tmp 3], (some 33), none⟩,
 ⟨(.indexAddrS 2), [.tmp 32, .tmp 33], (some 34), none⟩,
 ⟨(.fieldAddr 1), [.tmp 34], (some 35), none⟩,
 ⟨(.load false 1), [.tmp 35], (some 36), none⟩,
 ⟨.lenS, [.tmp 36], (some 37), none⟩,
 ⟨(.bin .lss), [.tmp 31, .tmp 37], (some 38), none⟩])
 (.cond (.tmp 38) .skip
 (.exit 4)))
 (.seq (.block 5 (.seq (.seqR [⟨.move, [.tmp 0], (some 41), none⟩,
 ⟨.move, [.tmp 3], (some 42), none⟩,
 ⟨(.indexAddrS 2), [.tmp 41, .tmp 42], (some 43), none⟩,
 ⟨(.fieldAddr 1), [.tmp 43], (some 44), none⟩,
 ⟨(.load false 1), [.tmp 44], (some 45), none⟩,
 ⟨.move, [.tmp 5], (some 46), none⟩,
 ⟨(.indexAddrS 1), [.tmp 45, .tmp 46], (some 47), none⟩,
 ⟨(.load false 1), [.tmp 47], (some 48), none⟩,
 ⟨(.bin .lss), [.tmp 48, .const (.int .i64 0)], (some 49), none⟩,
 ⟨.move, [.tmp 49], (some 50), none⟩,
 ⟨.move, [.tmp 0], (some 51), some (50, false)⟩,
 ⟨.move, [.tmp 3], (some 52), some (50, false)⟩,
 ⟨(.indexAddrS 2), [.tmp 51, .tmp 52], (some 53), some (50, false)⟩,
 ⟨(.fieldAddr 1), [.tmp 53], (some 54), some (50, false)⟩,
 ⟨(.load false 1), [.tmp 54], (some 55), some (50, false)⟩,
 ⟨.move, [.tmp 5], (some 56), some (50, false)⟩,
 ⟨(.indexAddrS 1), [.tmp 55, .tmp 56], (some 57), some (50, false)⟩,
 ⟨(.load false 1), [.tmp 57], (some 58), some (50, false)⟩,
 ⟨.move, [.tmp 0], (some 59), some (50, false)⟩,
 ⟨.lenS, [.tmp 59], (some 60), some (50, false)⟩,
 ⟨(.bin .geq), [.tmp 58, .tmp 60], (some 61), some (50, false)⟩,
 ⟨.pick, [.tmp 50, .const (.bool true), .tmp 61], (some 62), none⟩])
 (.cond (.tmp 62) (.seq (.seqR [⟨.move, [.const (.bool false)], (some 2), none⟩])
 .ret)
 .skip)))
 (.seqR [⟨.move, [.tmp 5], (some 39), none⟩,
 ⟨(.bin .add), [.tmp 39, .const (.int .i64 1)], (some 40), none⟩,
 ⟨.move, [.tmp 40], (some 5), none⟩]))))))))
 (.seqR [⟨.move, [.tmp 3], (some 13), none⟩,
 ⟨(.bin .add), [.tmp 13, .const (.int .i64 1)], (some 14), none⟩,
 ⟨.move, [.tmp 14], (some 3), none⟩]))))))
 (.seq (.seqR [⟨.move, [.const (.bool true)], (some 2), none⟩])
 .ret)))), [.tmp 2]⟩
theorem c14_ok : compFunc Try.prog Try.f14 = some c14 := by kernel_rfl
theorem c14_body : hasBody Try.prog 14 = true := hasBody_of Try.func14 (by kernel_rfl)
/-- coachyard/graph.Even -/
def c15 : PFn := ⟨11, Tr.ofList (List.replicate 11 undefA), (.seq (.seqR [⟨.move, [.const (.bool false)], (some 2), none⟩])
 (.seq (.seqR [⟨.move, [.tmp 0], (some 6), none⟩,
 ⟨(.callF 17), [.tmp 6], (some 7), none⟩,
 ⟨.move, [.tmp 7], (some 5), none⟩,
 ⟨(.extract 0), [.tmp 5], (some 8), none⟩,
 ⟨(.extract 1), [.tmp 5], (some 9), none⟩,
 ⟨.move, [.tmp 8], (some 3), none⟩,
 ⟨.move, [.tmp 9], (some 4), none⟩])
 (.seq (.seqR [⟨.move, [.tmp 4], (some 10), none⟩,
 ⟨.move, [.tmp 10], (some 2), none⟩])
 .ret))), [.tmp 2]⟩
theorem c15_ok : compFunc Try.prog Try.f15 = some c15 := by kernel_rfl
theorem c15_body : hasBody Try.prog 15 = true := hasBody_of Try.func15 (by kernel_rfl)
/-- coachyard/coachyardref01.SameInts -/
def c16 : PFn := ⟨26, Tr.ofList (List.replicate 26 undefA), (.seq (.seqR [⟨.move, [.const (.bool false)], (some 4), none⟩])
 (.seq (.seq (.seqR [⟨.move, [.tmp 0], (some 6), none⟩,
 ⟨.lenS, [.tmp 6], (some 7), none⟩,
 ⟨.move, [.tmp 1], (some 8), none⟩,
 ⟨.lenS, [.tmp 8], (some 9), none⟩,
 ⟨(.bin .neq), [.tmp 7, .tmp 9], (some 10), none⟩])
 (.cond (.tmp 10) (.seq (.seqR [⟨.move, [.const (.bool false)], (some 4), none⟩])
 .ret)
 .skip))
 (.seq (.seq (.seqR [⟨.move, [.const (.int .i64 0)], (some 5), none⟩])
 (.block 0 (.loop (.seq (.seq (.seqR [⟨.move, [.tmp 5], (some 11), none⟩,
 ⟨.move, [.tmp 0], (some 12), none⟩,
 ⟨.lenS, [.tmp 12], (some 13), none⟩,
 ⟨(.bin .lss), [.tmp 11, .tmp 13], (some 14), none⟩])
 (.cond (.tmp 14) .skip
 (.exit 0)))
 (.seq (.block 1 (.seq (.drawR [⟨⟨.move, [.tmp 0], (some 17), none⟩, false, false, 0, 0⟩,
 ⟨⟨.move, [.tmp 5], (some 18), none⟩, false, false, 0, 0⟩,
 ⟨⟨(.indexAddrS 1), [.tmp 17, .tmp 18], (some 19), none⟩, false, false, 0, 0⟩,
 ⟨⟨(.load false 1), [.tmp 19], (some 20), none⟩, false, false, 0, 0⟩,
 ⟨⟨.move, [.tmp 1], (some 21), none⟩, false, false, 0, 0⟩,
 ⟨⟨.move, [.tmp 5], (some 22), none⟩, false, false, 0, 0⟩,
 ⟨⟨(.indexAddrS 1), [.tmp 21, .tmp 22], (some 23), none⟩, false, false, 0, 0⟩,
 ⟨⟨(.load false 1), [.tmp 23], (some 24), none⟩, false, false, 0, 0⟩,
 ⟨⟨(.bin .neq), [.tmp 20, .tmp 24], (some 25), none⟩, false, false, 0, 0⟩])
 (.cond (.tmp 25) (.seq (.seqR [⟨.move, [.const (.bool false)], (some 4), none⟩])
 .ret)
 .skip)))
 (.seqR [⟨.move, [.tmp 5], (some 15), none⟩,
 ⟨(.bin .add), [.tmp 15, .const (.int .i64 1)], (some 16), none⟩,
 ⟨.move, [.tmp 16], (some 5), none⟩]))))))
 (.seq (.seqR [⟨.move, [.const (.bool true)], (some 4), none⟩])
 .ret)))), [.tmp 4]⟩
theorem c16_ok : compFunc Try.prog Try.f16 = some c16 := by kernel_rfl
theorem c16_body : hasBody Try.prog 16 = true := hasBody_of Try.func16 (by kernel_rfl)
/-- coachyard/graph.order -/
def c17 : PFn := ⟨106, Tr.ofList (List.replicate 106 undefA), (.seq (.seqR [⟨.move, [.const (.slice none 0 0 false)], (some 2), none⟩,
 ⟨.move, [.const (.bool false)], (some 3), none⟩])
 (.seq (.seq (.seqR [⟨.move, [.tmp 0], (some 16), none⟩,
 ⟨(.callF 13), [.tmp 16], (some 17), none⟩,
 ⟨.not, [.tmp 17], (some 18), none⟩])
 (.cond (.tmp 18) (.seq (.seqR [⟨.move, [.const (.slice none 0 0 false)], (some 2), none⟩,
 ⟨.move, [.const (.bool false)], (some 3), none⟩])
 .ret)
 .skip))
 (.seq (.seqR [⟨.move, [.tmp 0], (some 19), none⟩,
 ⟨.lenS, [.tmp 19], (some 20), none⟩,
 ⟨(.makeSlice 1 8 [(.int .i64 0)]), [.tmp 20, .tmp 20], (some 21), none⟩,
 ⟨.move, [.tmp 21], (some 4), none⟩])
 (.seq (.seq (.seqR [⟨.move, [.tmp 0], (some 22), none⟩,
 ⟨.lenS, [.tmp 22], (some 23), none⟩,
 ⟨.move, [.const (.int .i64 0)], (some 24), none⟩])
 (.block 0 (.loop (.seq (.seqR [⟨(.bin .lss), [.tmp 24, .tmp 23], (some 25), none⟩])
 (.seq (.cond (.tmp 25) .skip
 (.exit 0))
 (.seq (.block 1 (.seq (.seqR [⟨(.indexAddrS 2), [.tmp 22, .tmp 24], (some 26), none⟩,
 ⟨(.load true 2), [.tmp 26], (some 27), none⟩,
 ⟨(.new [(.int .u64 0), (.slice none 0 0 false)]), [], (some 6), none⟩,
 ⟨(.store 2), [.tmp 6, .tmp 27], none, none⟩])
 (.seq (.seqR [⟨(.fieldAddr 1), [.tmp 6], (some 28), none⟩,
 ⟨(.load false 1), [.tmp 28], (some 29), none⟩,
 ⟨.lenS, [.tmp 29], (some 30), none⟩,
 ⟨.move, [.const (.int .i64 0)], (some 31), none⟩])
 (.block 2 (.loop (.seq (.seqR [⟨(.bin .lss), [.tmp 31, .tmp 30], (some 32), none⟩])
 (.seq (.cond (.tmp 32) .skip
 (.exit 2))
 (.seq (.block 3 (.seq (.seqR [⟨(.indexAddrS 1), [.tmp 29, .tmp 31], (some 33), none⟩,
 ⟨(.load false 1), [.tmp 33], (some 34), none⟩,
 ⟨.move, [.tmp 34], (some 8), none⟩])
 (.seqR [⟨.move, [.tmp 4], (some 35), none⟩,
 ⟨.move, [.tmp 8], (some 36), none⟩,
 ⟨(.indexAddrS 1), [.tmp 35, .tmp 36], (some 37), none⟩,
 ⟨(.load false 1), [.tmp 37], (some 38), none⟩,
 ⟨(.bin .add), [.tmp 38, .const (.int .i64 1)], (some 39), none⟩,
 ⟨(.indexAddrS 1), [.tmp 35, .tmp 36], (some 40), none⟩,
 ⟨(.store 1), [.tmp 40, .tmp 39], none, none⟩])))
 (.seqR [⟨(.bin .add), [.tmp 31, .const (.int .i64 1)], (some 41), none⟩,
 ⟨.move, [.tmp 41], (some 31), none⟩])))))))))
 (.seqR [⟨(.bin .add), [.tmp 24, .const (.int .i64 1)], (some 42), none⟩,
 ⟨.move, [.tmp 42], (some 24), none⟩])))))))
 (.seq (.seqR [⟨(.sliceLit 0 [] []), [], (some 43), none⟩,
 ⟨.box, [.tmp 43], (some 44), none⟩,
 ⟨.move, [.tmp 44], (some 9), none⟩])
 (.seq (.seq (.seqR [⟨.move, [.tmp 4], (some 45), none⟩,
 ⟨.lenS, [.tmp 45], (some 46), none⟩,
 ⟨.move, [.const (.int .i64 0)], (some 47), none⟩])
 (.block 4 (.loop (.seq (.seqR [⟨(.bin .lss), [.tmp 47, .tmp 46], (some 48), none⟩])
 (.seq (.cond (.tmp 48) .skip
 (.exit 4))
 (.seq (.block 5 (.seq (.seqR [⟨.move, [.tmp 47], (some 49), none⟩,
 ⟨(.indexAddrS 1), [.tmp 45, .tmp 47], (some 50), none⟩,
 ⟨(.load false 1), [.tmp 50], (some 51), none⟩,
 ⟨.move, [.tmp 49], (some 10), none⟩,
 ⟨.move, [.tmp 51], (some 11), none⟩])
 (.seq (.seqR [⟨.move, [.tmp 11], (some 52), none⟩,
 ⟨(.bin .eql), [.tmp 52, .const (.int .i64 0)], (some 53), none⟩])
 (.cond (.tmp 53) (.seqR [⟨.move, [.tmp 9], (some 54), none⟩,
 ⟨(.mkIface 51), [.tmp 54], (some 55), none⟩,
 ⟨.move, [.tmp 10], (some 56), none⟩,
 ⟨(.mkIface 3), [.tmp 56], (some 57), none⟩,
 ⟨(.callF 19), [.tmp 55, .tmp 57], (some 58), none⟩])
 .skip))))
 (.seqR [⟨(.bin .add), [.tmp 47, .const (.int .i64 1)], (some 59), none⟩,
 ⟨.move, [.tmp 59], (some 47), none⟩])))))))
 (.seq (.seqR [⟨.move, [.const (.slice none 0 0 false)], (some 12), none⟩])
 (.seq (.block 6 (.loop (.seq (.seq (.seqR [⟨.move, [.tmp 9], (some 60), none⟩,
 ⟨.nilCheck, [.tmp 60], (some 61), none⟩,
 ⟨(.load false 1), [.tmp 61], (some 62), none⟩,
 ⟨(.callF 20), [.tmp 62], (some 63), none⟩,
 ⟨(.bin .gtr), [.tmp 63, .const (.int .i64 0)], (some 64), none⟩])
 (.cond (.tmp 64) .skip
 (.exit 6)))
 (.block 7 (.seq (.seqR [⟨.move, [.tmp 9], (some 65), none⟩,
 ⟨(.mkIface 51), [.tmp 65], (some 66), none⟩,
 ⟨(.callF 21), [.tmp 66], (some 67), none⟩,
 ⟨(.assertC 3 false (.int .i64 0)), [.tmp 67], (some 68), none⟩,
 ⟨.move, [.tmp 68], (some 13), none⟩])
 (.seq (.seqR [⟨.move, [.tmp 12], (some 69), none⟩,
 ⟨.move, [.tmp 13], (some 70), none⟩,
 ⟨(.sliceLit 1 [(.int .i64 0)] [(0, 1)]), [.tmp 70], (some 71), none⟩,
 ⟨(.append 1 8), [.tmp 69, .tmp 71], (some 72), none⟩,
 ⟨.move, [.tmp 72], (some 12), none⟩])
 (.seq (.seqR [⟨.move, [.tmp 0], (some 73), none⟩,
 ⟨.move, [.tmp 13], (some 74), none⟩,
 ⟨(.indexAddrS 2), [.tmp 73, .tmp 74], (some 75), none⟩,
 ⟨(.fieldAddr 1), [.tmp 75], (some 76), none⟩,
 ⟨(.load false 1), [.tmp 76], (some 77), none⟩,
 ⟨.lenS, [.tmp 77], (some 78), none⟩,
 ⟨.move, [.const (.int .i64 0)], (some 79), none⟩])
 (.block 8 (.loop (.seq (.seqR [⟨(.bin .lss), [.tmp 79, .tmp 78], (some 80), none⟩])
 (.seq (.cond (.tmp 80) .skip
 (.exit 8))
 (.seq (.block 9 (.seq (.seqR [⟨(.indexAddrS 1), [.tmp 77, .tmp 79], (some 81), none⟩,
 ⟨(.load false 1), [.tmp 81], (some 82), none⟩,
 ⟨.move, [.tmp 82], (some 15), none⟩])
 (.seq (.seqR [⟨.move, [.tmp 4], (some 83), none⟩,
 ⟨.move, [.tmp 15], (some 84), none⟩,
 ⟨(.indexAddrS 1), [.tmp 83, .tmp 84], (some 85), none⟩,
 ⟨(.load false 1), [.tmp 85], (some 86), none⟩,
 ⟨(.bin .sub), [.tmp 86, .const (.int .i64 1)], (some 87), none⟩,
 ⟨(.indexAddrS 1), [.tmp 83, .tmp 84], (some 88), none⟩,
 ⟨(.store 1), [.tmp 88, .tmp 87], none, none⟩])
 (.seq (.seqR [⟨.move, [.tmp 4], (some 89), none⟩,
 ⟨.move, [.tmp 15], (some 90), none⟩,
 ⟨(.indexAddrS 1), [.tmp 89, .tmp 90], (some 91), none⟩,
 ⟨(.load false 1), [.tmp 91], (some 92), none⟩,
 ⟨(.bin .eql), [.tmp 92, .const (.int .i64 0)], (some 93), none⟩])
 (.cond (.tmp 93) (.seqR [⟨.move, [.tmp 9], (some 94), none⟩,
 ⟨(.mkIface 51), [.tmp 94], (some 95), none⟩,
 ⟨.move, [.tmp 15], (some 96), none⟩,
 ⟨(.mkIface 3), [.tmp 96], (some 97), none⟩,
 ⟨(.callF 19), [.tmp 95, .tmp 97], (some 98), none⟩])
 .skip)))))
 (.seqR [⟨(.bin .add), [.tmp 79, .const (.int .i64 1)], (some 99), none⟩,
 ⟨.move, [.tmp 99], (some 79), none⟩])))))))))))))
 (.seq (.seqR [⟨.move, [.tmp 12], (some 100), none⟩,
 ⟨.move, [.tmp 12], (some 101), none⟩,
 ⟨.lenS, [.tmp 101], (some 102), none⟩,
 ⟨.move, [.tmp 0], (some 103), none⟩,
 ⟨.lenS, [.tmp 103], (some 104), none⟩,
 ⟨(.bin .eql), [.tmp 102, .tmp 104], (some 105), none⟩,
 ⟨.move, [.tmp 100], (some 2), none⟩,
 ⟨.move, [.tmp 105], (some 3), none⟩])
 .ret))))))))), [.tmp 2, .tmp 3]⟩
theorem c17_ok : compFunc Try.prog Try.f17 = some c17 := by kernel_rfl
theorem c17_body : hasBody Try.prog 17 = true := hasBody_of Try.func17 (by kernel_rfl)
/-- coachyard/coachyardref25.times -/
def c18 : PFn := ⟨80, Tr.ofList (List.replicate 80 undefA), (.seq (.seqR [⟨.move, [.const (.int .i64 0)], (some 8), none⟩])
 (.seq (.seq (.seqR [⟨.move, [.tmp 2], (some 13), none⟩,
 ⟨.move, [.tmp 3], (some 14), none⟩,
 ⟨(.indexAddrS 1), [.tmp 13, .tmp 14], (some 15), none⟩,
 ⟨(.load false 1), [.tmp 15], (some 16), none⟩,
 ⟨(.bin .geq), [.tmp 16, .const (.int .i64 0)], (some 17), none⟩])
 (.cond (.tmp 17) (.seq (.seqR [⟨.move, [.tmp 2], (some 18), none⟩,
 ⟨.move, [.tmp 3], (some 19), none⟩,
 ⟨(.indexAddrS 1), [.tmp 18, .tmp 19], (some 20), none⟩,
 ⟨(.load false 1), [.tmp 20], (some 21), none⟩,
 ⟨.move, [.tmp 21], (some 8), none⟩])
 .ret)
 .skip))
 (.seq (.seqR [⟨.move, [.const (.int .i64 0)], (some 9), none⟩])
 (.seq (.seq (.seqR [⟨.move, [.const (.int .i64 0)], (some 10), none⟩])
 (.block 0 (.loop (.seq (.seq (.seqR [⟨.move, [.tmp 10], (some 22), none⟩,
 ⟨.move, [.tmp 1], (some 23), none⟩,
 ⟨.lenS, [.tmp 23], (some 24), none⟩,
 ⟨(.bin .lss), [.tmp 22, .tmp 24], (some 25), none⟩])
 (.cond (.tmp 25) .skip
 (.exit 0)))
 (.seq (.block 1 (.seq (.drawR [⟨⟨.move, [.tmp 1], (some 28), none⟩, false, false, 0, 0⟩,
 ⟨⟨.move, [.tmp 10], (some 29), none⟩, false, false, 0, 0⟩,
 ⟨⟨(.indexAddrS 1), [.tmp 28, .tmp 29], (some 30), none⟩, false, false, 0, 0⟩,
 ⟨⟨(.load false 1), [.tmp 30], (some 31), none⟩, false, false, 0, 0⟩,
 ⟨⟨.move, [.tmp 0], (some 32), none⟩, false, false, 0, 0⟩,
 ⟨⟨.move, [.tmp 3], (some 33), none⟩, false, false, 0, 0⟩,
 ⟨⟨(.indexAddrS 2), [.tmp 32, .tmp 33], (some 34), none⟩, false, false, 0, 0⟩,
 ⟨⟨(.fieldAddr 0), [.tmp 34], (some 35), none⟩, false, false, 0, 0⟩,
 ⟨⟨(.load false 1), [.tmp 35], (some 36), none⟩, false, false, 0, 0⟩,
 ⟨⟨(.bin .eql), [.tmp 31, .tmp 36], (some 37), none⟩, false, false, 0, 0⟩])
 (.cond (.tmp 37) (.seqR [⟨.move, [.tmp 9], (some 38), none⟩,
 ⟨(.bin .add), [.tmp 38, .const (.int .i64 1)], (some 39), none⟩,
 ⟨.move, [.tmp 39], (some 9), none⟩])
 .skip)))
 (.seqR [⟨.move, [.tmp 10], (some 26), none⟩,
 ⟨(.bin .add), [.tmp 26, .const (.int .i64 1)], (some 27), none⟩,
 ⟨.move, [.tmp 27], (some 10), none⟩]))))))
 (.seq (.seq (.seqR [⟨.move, [.const (.int .i64 0)], (some 11), none⟩])
 (.block 2 (.loop (.seq (.seq (.seqR [⟨.move, [.tmp 11], (some 40), none⟩,
 ⟨.move, [.tmp 0], (some 41), none⟩,
 ⟨.lenS, [.tmp 41], (some 42), none⟩,
 ⟨(.bin .lss), [.tmp 40, .tmp 42], (some 43), none⟩])
 (.cond (.tmp 43) .skip
 (.exit 2)))
 (.seq (.block 3 (.seq (.seqR [⟨.move, [.const (.int .i64 0)], (some 12), none⟩])
 (.block 4 (.loop (.seq (.seq (.seqR [⟨.move, [.tmp 12], (some 46), none⟩,
 ⟨.move, [.tmp 0], (some 47), none⟩,
 ⟨.move, [.tmp 11], (some 48), none⟩,
 ⟨(.indexAddrS 2), [.tmp 47, .tmp 48], (some 49), none⟩,
 ⟨(.fieldAddr 1), [.tmp 49], (some 50), none⟩,
 ⟨(.load false 1), [.tmp 50], (some 51), none⟩,
 ⟨.lenS, [.tmp 51], (some 52), none⟩,
 ⟨(.bin .lss), [.tmp 46, .tmp 52], (some 53), none⟩])
 (.cond (.tmp 53) .skip
 (.exit 4)))
 (.seq (.block 5 (.seq (.seq (.seqR [⟨.move, [.tmp 0], (some 56), none⟩,
 ⟨.move, [.tmp 11], (some 57), none⟩,
 ⟨(.indexAddrS 2), [.tmp 56, .tmp 57], (some 58), none⟩,
 ⟨(.fieldAddr 1), [.tmp 58], (some 59), none⟩,
 ⟨(.load false 1), [.tmp 59], (some 60), none⟩,
 ⟨.move, [.tmp 12], (some 61), none⟩,
 ⟨(.indexAddrS 1), [.tmp 60, .tmp 61], (some 62), none⟩,
 ⟨(.load false 1), [.tmp 62], (some 63), none⟩,
 ⟨.move, [.tmp 3], (some 64), none⟩,
 ⟨(.bin .eql), [.tmp 63, .tmp 64], (some 65), none⟩])
 (.cond (.tmp 65) (.seqR [⟨.move, [.tmp 9], (some 66), none⟩,
 ⟨.move, [.tmp 0], (some 67), none⟩,
 ⟨.move, [.tmp 1], (some 68), none⟩,
 ⟨.move, [.tmp 2], (some 69), none⟩,
 ⟨.move, [.tmp 11], (some 70), none⟩,
 ⟨(.callF 18), [.tmp 67, .tmp 68, .tmp 69, .tmp 70], (some 71), none⟩,
 ⟨(.bin .add), [.tmp 66, .tmp 71], (some 72), none⟩,
 ⟨.move, [.tmp 72], (some 9), none⟩])
 .skip))
 (.seq (.seqR [⟨.move, [.tmp 9], (some 73), none⟩,
 ⟨(.bin .gtr), [.tmp 73, .const (.int .i64 1099511627777)], (some 74), none⟩])
 (.cond (.tmp 74) (.seqR [⟨.move, [.const (.int .i64 1099511627777)], (some 9), none⟩])
 .skip))))
 (.seqR [⟨.move, [.tmp 12], (some 54), none⟩,
 ⟨(.bin .add), [.tmp 54, .const (.int .i64 1)], (some 55), none⟩,
 ⟨.move, [.tmp 55], (some 12), none⟩])))))))
 (.seqR [⟨.move, [.tmp 11], (some 44), none⟩,
 ⟨(.bin .add), [.tmp 44, .const (.int .i64 1)], (some 45), none⟩,
 ⟨.move, [.tmp 45], (some 11), none⟩]))))))
 (.seq (.seqR [⟨.move, [.tmp 2], (some 75), none⟩,
 ⟨.move, [.tmp 3], (some 76), none⟩,
 ⟨.move, [.tmp 9], (some 77), none⟩,
 ⟨(.indexAddrS 1), [.tmp 75, .tmp 76], (some 78), none⟩,
 ⟨(.store 1), [.tmp 78, .tmp 77], none, none⟩])
 (.seq (.seqR [⟨.move, [.tmp 9], (some 79), none⟩,
 ⟨.move, [.tmp 79], (some 8), none⟩])
 .ret))))))), [.tmp 8]⟩
theorem c18_ok : compFunc Try.prog Try.f18 = some c18 := by kernel_rfl
theorem c18_body : hasBody Try.prog 18 = true := hasBody_of Try.func18 (by kernel_rfl)
/-- container/heap.Push -/
def c19 : PFn := ⟨12, Tr.ofList (List.replicate 12 undefA), (.seq (.seqR [⟨.move, [.tmp 0], (some 4), none⟩,
 ⟨.move, [.tmp 1], (some 5), none⟩,
 ⟨(.invoke [(51, 42)] []), [.tmp 4, .tmp 5], (some 6), none⟩])
 (.seqR [⟨.move, [.tmp 0], (some 7), none⟩,
 ⟨.move, [.tmp 0], (some 8), none⟩,
 ⟨(.invoke [(52, 20)] [(51, 20, false, 1)]), [.tmp 8], (some 9), none⟩,
 ⟨(.bin .sub), [.tmp 9, .const (.int .i64 1)], (some 10), none⟩,
 ⟨(.callF 22), [.tmp 7, .tmp 10], (some 11), none⟩])), []⟩
theorem c19_ok : compFunc Try.prog Try.f19 = some c19 := by kernel_rfl
theorem c19_body : hasBody Try.prog 19 = true := hasBody_of Try.func19 (by kernel_rfl)
/-- (coachyard/graph.places).Len -/
def c20 : PFn := ⟨5, Tr.ofList (List.replicate 5 undefA), (.seq (.seqR [⟨.move, [.const (.int .i64 0)], (some 2), none⟩])
 (.seq (.seqR [⟨.move, [.tmp 0], (some 3), none⟩,
 ⟨.lenS, [.tmp 3], (some 4), none⟩,
 ⟨.move, [.tmp 4], (some 2), none⟩])
 .ret)), [.tmp 2]⟩
theorem c20_ok : compFunc Try.prog Try.f20 = some c20 := by kernel_rfl
theorem c20_body : hasBody Try.prog 20 = true := hasBody_of Try.func20 (by kernel_rfl)
/-- container/heap.Pop -/
def c21 : PFn := ⟨15, Tr.ofList (List.replicate 15 undefA), (.seq (.seqR [⟨.move, [.const .nilIface], (some 2), none⟩])
 (.seq (.seqR [⟨.move, [.tmp 0], (some 4), none⟩,
 ⟨(.invoke [(52, 20)] [(51, 20, false, 1)]), [.tmp 4], (some 5), none⟩,
 ⟨(.bin .sub), [.tmp 5, .const (.int .i64 1)], (some 6), none⟩,
 ⟨.move, [.tmp 6], (some 3), none⟩])
 (.seq (.seqR [⟨.move, [.tmp 0], (some 7), none⟩,
 ⟨.move, [.tmp 3], (some 8), none⟩,
 ⟨(.invoke [(52, 43)] [(51, 43, false, 1)]), [.tmp 7, .const (.int .i64 0), .tmp 8], (some 9), none⟩])
 (.seq (.seqR [⟨.move, [.tmp 0], (some 10), none⟩,
 ⟨.move, [.tmp 3], (some 11), none⟩,
 ⟨(.callF 23), [.tmp 10, .const (.int .i64 0), .tmp 11], (some 12), none⟩])
 (.seq (.seqR [⟨.move, [.tmp 0], (some 13), none⟩,
 ⟨(.invoke [(51, 41)] []), [.tmp 13], (some 14), none⟩,
 ⟨.move, [.tmp 14], (some 2), none⟩])
 .ret))))), [.tmp 2]⟩
theorem c21_ok : compFunc Try.prog Try.f21 = some c21 := by kernel_rfl
theorem c21_body : hasBody Try.prog 21 = true := hasBody_of Try.func21 (by kernel_rfl)
/-- container/heap.up -/
def c22 : PFn := ⟨23, Tr.ofList (List.replicate 23 undefA), (.block 0 (.loop (.block 1 (.seq (.seqR [⟨.move, [.tmp 1], (some 5), none⟩,
 ⟨(.bin .sub), [.tmp 5, .const (.int .i64 1)], (some 6), none⟩,
 ⟨(.bin .quo), [.tmp 6, .const (.int .i64 2)], (some 7), none⟩,
 ⟨.move, [.tmp 7], (some 4), none⟩])
 (.seq (.seq (.seqR [⟨.move, [.tmp 4], (some 8), none⟩,
 ⟨.move, [.tmp 1], (some 9), none⟩,
 ⟨(.bin .eql), [.tmp 8, .tmp 9], (some 10), none⟩,
 ⟨.move, [.tmp 10], (some 11), none⟩,
 ⟨.move, [.tmp 0], (some 12), some (11, false)⟩,
 ⟨.move, [.tmp 1], (some 13), some (11, false)⟩,
 ⟨.move, [.tmp 4], (some 14), some (11, false)⟩,
 ⟨(.invoke [(52, 40)] [(51, 40, false, 1)]), [.tmp 12, .tmp 13, .tmp 14], (some 15), some (11, false)⟩,
 ⟨.not, [.tmp 15], (some 16), some (11, false)⟩,
 ⟨.pick, [.tmp 11, .const (.bool true), .tmp 16], (some 17), none⟩])
 (.cond (.tmp 17) (.exit 0)
 .skip))
 (.seq (.seqR [⟨.move, [.tmp 0], (some 18), none⟩,
 ⟨.move, [.tmp 4], (some 19), none⟩,
 ⟨.move, [.tmp 1], (some 20), none⟩,
 ⟨(.invoke [(52, 43)] [(51, 43, false, 1)]), [.tmp 18, .tmp 19, .tmp 20], (some 21), none⟩])
 (.seqR [⟨.move, [.tmp 4], (some 22), none⟩,
 ⟨.move, [.tmp 22], (some 1), none⟩]))))))), []⟩
theorem c22_ok : compFunc Try.prog Try.f22 = some c22 := by kernel_rfl
theorem c22_body : hasBody Try.prog 22 = true := hasBody_of Try.func22 (by kernel_rfl)
/-- container/heap.down -/
def c23 : PFn := ⟨48, Tr.ofList (List.replicate 48 undefA), (.seq (.seqR [⟨.move, [.const (.bool false)], (some 6), none⟩])
 (.seq (.seqR [⟨.move, [.tmp 1], (some 11), none⟩,
 ⟨.move, [.tmp 11], (some 7), none⟩])
 (.seq (.block 0 (.loop (.block 1 (.seq (.seqR [⟨.move, [.tmp 7], (some 12), none⟩,
 ⟨(.bin .mul), [.const (.int .i64 2), .tmp 12], (some 13), none⟩,
 ⟨(.bin .add), [.tmp 13, .const (.int .i64 1)], (some 14), none⟩,
 ⟨.move, [.tmp 14], (some 8), none⟩])
 (.seq (.seq (.seqR [⟨.move, [.tmp 8], (some 15), none⟩,
 ⟨.move, [.tmp 2], (some 16), none⟩,
 ⟨(.bin .geq), [.tmp 15, .tmp 16], (some 17), none⟩,
 ⟨.move, [.tmp 17], (some 18), none⟩,
 ⟨.move, [.tmp 8], (some 19), some (18, false)⟩,
 ⟨(.bin .lss), [.tmp 19, .const (.int .i64 0)], (some 20), some (18, false)⟩,
 ⟨.pick, [.tmp 18, .const (.bool true), .tmp 20], (some 21), none⟩])
 (.cond (.tmp 21) (.exit 0)
 .skip))
 (.seq (.seqR [⟨.move, [.tmp 8], (some 22), none⟩,
 ⟨.move, [.tmp 22], (some 9), none⟩])
 (.seq (.seq (.seqR [⟨.move, [.tmp 8], (some 23), none⟩,
 ⟨(.bin .add), [.tmp 23, .const (.int .i64 1)], (some 24), none⟩,
 ⟨.move, [.tmp 24], (some 10), none⟩])
 (.seq (.seqR [⟨.move, [.tmp 10], (some 25), none⟩,
 ⟨.move, [.tmp 2], (some 26), none⟩,
 ⟨(.bin .lss), [.tmp 25, .tmp 26], (some 27), none⟩,
 ⟨.move, [.tmp 27], (some 28), none⟩,
 ⟨.move, [.tmp 0], (some 29), some (28, true)⟩,
 ⟨.move, [.tmp 10], (some 30), some (28, true)⟩,
 ⟨.move, [.tmp 8], (some 31), some (28, true)⟩,
 ⟨(.invoke [(52, 40)] [(51, 40, false, 1)]), [.tmp 29, .tmp 30, .tmp 31], (some 32), some (28, true)⟩,
 ⟨.pick, [.tmp 28, .tmp 32, .const (.bool false)], (some 33), none⟩])
 (.cond (.tmp 33) (.seqR [⟨.move, [.tmp 10], (some 34), none⟩,
 ⟨.move, [.tmp 34], (some 9), none⟩])
 .skip)))
 (.seq (.seq (.seqR [⟨.move, [.tmp 0], (some 35), none⟩,
 ⟨.move, [.tmp 9], (some 36), none⟩,
 ⟨.move, [.tmp 7], (some 37), none⟩,
 ⟨(.invoke [(52, 40)] [(51, 40, false, 1)]), [.tmp 35, .tmp 36, .tmp 37], (some 38), none⟩,
 ⟨.not, [.tmp 38], (some 39), none⟩])
 (.cond (.tmp 39) (.exit 0)
 .skip))
 (.seq (.seqR [⟨.move, [.tmp 0], (some 40), none⟩,
 ⟨.move, [.tmp 7], (some 41), none⟩,
 ⟨.move, [.tmp 9], (some 42), none⟩,
 ⟨(.invoke [(52, 43)] [(51, 43, false, 1)]), [.tmp 40, .tmp 41, .tmp 42], (some 43), none⟩])
 (.seqR [⟨.move, [.tmp 9], (some 44), none⟩,
 ⟨.move, [.tmp 44], (some 7), none⟩]))))))))))
 (.seq (.seqR [⟨.move, [.tmp 7], (some 45), none⟩,
 ⟨.move, [.tmp 1], (some 46), none⟩,
 ⟨(.bin .gtr), [.tmp 45, .tmp 46], (some 47), none⟩,
 ⟨.move, [.tmp 47], (some 6), none⟩])
 .ret)))), [.tmp 6]⟩
theorem c23_ok : compFunc Try.prog Try.f23 = some c23 := by kernel_rfl
theorem c23_body : hasBody Try.prog 23 = true := hasBody_of Try.func23 (by kernel_rfl)
/-- (coachyard/graph.places).Less -/
def c40 : PFn := ⟨16, Tr.ofList (List.replicate 16 undefA), (.seq (.seqR [⟨.move, [.const (.bool false)], (some 6), none⟩])
 (.seq (.drawR [⟨⟨.move, [.tmp 0], (some 7), none⟩, false, false, 0, 0⟩,
 ⟨⟨.move, [.tmp 1], (some 8), none⟩, false, false, 0, 0⟩,
 ⟨⟨(.indexAddrS 1), [.tmp 7, .tmp 8], (some 9), none⟩, false, false, 0, 0⟩,
 ⟨⟨(.load false 1), [.tmp 9], (some 10), none⟩, false, false, 0, 0⟩,
 ⟨⟨.move, [.tmp 0], (some 11), none⟩, false, false, 0, 0⟩,
 ⟨⟨.move, [.tmp 2], (some 12), none⟩, false, false, 0, 0⟩,
 ⟨⟨(.indexAddrS 1), [.tmp 11, .tmp 12], (some 13), none⟩, false, false, 0, 0⟩,
 ⟨⟨(.load false 1), [.tmp 13], (some 14), none⟩, false, false, 0, 0⟩,
 ⟨⟨(.bin .lss), [.tmp 10, .tmp 14], (some 15), none⟩, false, false, 0, 0⟩,
 ⟨⟨.move, [.tmp 15], (some 6), none⟩, false, false, 0, 0⟩])
 .ret)), [.tmp 6]⟩
theorem c40_ok : compFunc Try.prog Try.f40 = some c40 := by kernel_rfl
theorem c40_body : hasBody Try.prog 40 = true := hasBody_of Try.func40 (by kernel_rfl)
/-- (*coachyard/graph.places).Pop -/
def c41 : PFn := ⟨27, Tr.ofList (List.replicate 27 undefA), (.seq (.seqR [⟨.move, [.const .nilIface], (some 2), none⟩])
 (.seq (.drawR [⟨⟨.move, [.tmp 0], (some 4), none⟩, false, false, 0, 0⟩,
 ⟨⟨.nilCheck, [.tmp 4], (some 5), none⟩, false, false, 0, 0⟩,
 ⟨⟨(.load false 1), [.tmp 5], (some 6), none⟩, false, false, 0, 0⟩,
 ⟨⟨.move, [.tmp 0], (some 7), none⟩, false, false, 0, 0⟩,
 ⟨⟨.nilCheck, [.tmp 7], (some 8), none⟩, false, false, 0, 0⟩,
 ⟨⟨(.load false 1), [.tmp 8], (some 9), none⟩, false, false, 0, 0⟩,
 ⟨⟨.lenS, [.tmp 9], (some 10), none⟩, false, false, 0, 0⟩,
 ⟨⟨(.bin .sub), [.tmp 10, .const (.int .i64 1)], (some 11), none⟩, false, false, 0, 0⟩,
 ⟨⟨(.indexAddrS 1), [.tmp 6, .tmp 11], (some 12), none⟩, false, false, 0, 0⟩,
 ⟨⟨(.load false 1), [.tmp 12], (some 13), none⟩, false, false, 0, 0⟩,
 ⟨⟨.move, [.tmp 13], (some 3), none⟩, false, false, 0, 0⟩])
 (.seq (.drawR [⟨⟨.move, [.tmp 0], (some 14), none⟩, false, false, 0, 0⟩,
 ⟨⟨.move, [.tmp 0], (some 15), none⟩, false, false, 0, 0⟩,
 ⟨⟨.nilCheck, [.tmp 15], (some 16), none⟩, false, false, 0, 0⟩,
 ⟨⟨(.load false 1), [.tmp 16], (some 17), none⟩, false, false, 0, 0⟩,
 ⟨⟨.move, [.tmp 0], (some 18), none⟩, false, false, 0, 0⟩,
 ⟨⟨.nilCheck, [.tmp 18], (some 19), none⟩, false, false, 0, 0⟩,
 ⟨⟨(.load false 1), [.tmp 19], (some 20), none⟩, false, false, 0, 0⟩,
 ⟨⟨.lenS, [.tmp 20], (some 21), none⟩, false, false, 0, 0⟩,
 ⟨⟨(.bin .sub), [.tmp 21, .const (.int .i64 1)], (some 22), none⟩, false, false, 0, 0⟩,
 ⟨⟨(.slice 1 false true false), [.tmp 17, .tmp 22], (some 23), none⟩, false, false, 0, 0⟩,
 ⟨⟨.nilCheck, [.tmp 14], (some 24), none⟩, false, false, 0, 0⟩,
 ⟨⟨(.store 1), [.tmp 24, .tmp 23], none, none⟩, true, false, 0, 1⟩])
 (.seq (.seqR [⟨.move, [.tmp 3], (some 25), none⟩,
 ⟨(.mkIface 3), [.tmp 25], (some 26), none⟩,
 ⟨.move, [.tmp 26], (some 2), none⟩])
 .ret)))), [.tmp 2]⟩
theorem c41_ok : compFunc Try.prog Try.f41 = some c41 := by kernel_rfl
theorem c41_body : hasBody Try.prog 41 = true := hasBody_of Try.func41 (by kernel_rfl)
/-- (*coachyard/graph.places).Push -/
def c42 : PFn := ⟨13, Tr.ofList (List.replicate 13 undefA), (.drawR [⟨⟨.move, [.tmp 0], (some 4), none⟩, false, false, 0, 2⟩,
 ⟨⟨.move, [.tmp 0], (some 5), none⟩, false, false, 0, 1⟩,
 ⟨⟨.nilCheck, [.tmp 5], (some 6), none⟩, false, false, 0, 1⟩,
 ⟨⟨(.load false 1), [.tmp 6], (some 7), none⟩, false, false, 0, 1⟩,
 ⟨⟨.move, [.tmp 1], (some 8), none⟩, false, false, 0, 0⟩,
 ⟨⟨(.assertC 3 false (.int .i64 0)), [.tmp 8], (some 9), none⟩, false, false, 0, 0⟩,
 ⟨⟨(.sliceLit 1 [(.int .i64 0)] [(0, 1)]), [.tmp 9], (some 10), none⟩, true, false, 0, 1⟩,
 ⟨⟨(.append 1 8), [.tmp 7, .tmp 10], (some 11), none⟩, true, false, 1, 2⟩,
 ⟨⟨.nilCheck, [.tmp 4], (some 12), none⟩, false, false, 2, 2⟩,
 ⟨⟨(.store 1), [.tmp 12, .tmp 11], none, none⟩, true, false, 2, 3⟩]), []⟩
theorem c42_ok : compFunc Try.prog Try.f42 = some c42 := by kernel_rfl
theorem c42_body : hasBody Try.prog 42 = true := hasBody_of Try.func42 (by kernel_rfl)
/-- (coachyard/graph.places).Swap -/
def c43 : PFn := ⟨20, Tr.ofList (List.replicate 20 undefA), (.drawR [⟨⟨.move, [.tmp 0], (some 6), none⟩, false, false, 0, 0⟩,
 ⟨⟨.move, [.tmp 1], (some 7), none⟩, false, false, 0, 0⟩,
 ⟨⟨.move, [.tmp 0], (some 8), none⟩, false, false, 0, 1⟩,
 ⟨⟨.move, [.tmp 2], (some 9), none⟩, false, false, 0, 1⟩,
 ⟨⟨.move, [.tmp 0], (some 10), none⟩, false, false, 0, 0⟩,
 ⟨⟨.move, [.tmp 2], (some 11), none⟩, false, false, 0, 0⟩,
 ⟨⟨(.indexAddrS 1), [.tmp 10, .tmp 11], (some 12), none⟩, false, false, 0, 0⟩,
 ⟨⟨(.load false 1), [.tmp 12], (some 13), none⟩, false, false, 0, 0⟩,
 ⟨⟨.move, [.tmp 0], (some 14), none⟩, false, false, 0, 0⟩,
 ⟨⟨.move, [.tmp 1], (some 15), none⟩, false, false, 0, 0⟩,
 ⟨⟨(.indexAddrS 1), [.tmp 14, .tmp 15], (some 16), none⟩, false, false, 0, 0⟩,
 ⟨⟨(.load false 1), [.tmp 16], (some 17), none⟩, false, false, 0, 0⟩,
 ⟨⟨(.indexAddrS 1), [.tmp 6, .tmp 7], (some 18), none⟩, false, false, 0, 0⟩,
 ⟨⟨(.store 1), [.tmp 18, .tmp 13], none, none⟩, true, false, 0, 1⟩,
 ⟨⟨(.indexAddrS 1), [.tmp 8, .tmp 9], (some 19), none⟩, false, false, 1, 1⟩,
 ⟨⟨(.store 1), [.tmp 19, .tmp 17], none, none⟩, true, false, 1, 2⟩]), []⟩
theorem c43_ok : compFunc Try.prog Try.f43 = some c43 := by kernel_rfl
theorem c43_body : hasBody Try.prog 43 = true := hasBody_of Try.func43 (by kernel_rfl)
end Go.Proofs.Ytmaldkpkodcggaa
