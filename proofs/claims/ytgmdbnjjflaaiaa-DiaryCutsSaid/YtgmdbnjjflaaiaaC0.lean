/- The code of the small machine for some of the program's functions: printed by program; each is what the rules make of the program's own. -/
import Derived.Test.YtgmdbnjjflaaiaaVx16
import Derived.Test.YtgmdbnjjflaaiaaProg
import Derived.KernelRfl
namespace Go.Proofs.Ytgmdbnjjflaaiaa
open Go Go.Vx Go.Proofs
/-- coachyard/coachyardlaw15.DiarySpans -/
def c3 : PFn := ⟨146, Tr.ofList (List.replicate 146 undefA), (.seq (.seqR [⟨.move, [.const (.bool false)], (some 2), none⟩])
 (.seq (.seq (.seqR [⟨(.callF 5), [], (some 11), none⟩,
 ⟨.not, [.tmp 11], (some 12), none⟩])
 (.cond (.tmp 12) (.seq (.seqR [⟨.move, [.const (.bool false)], (some 2), none⟩])
 .ret)
 .skip))
 (.seq (.seq (.seqR [⟨.move, [.tmp 0], (some 13), none⟩,
 ⟨.lenS, [.tmp 13], (some 14), none⟩,
 ⟨(.bin .gtr), [.tmp 14, .const (.int .i64 200)], (some 15), none⟩])
 (.cond (.tmp 15) (.seq (.seqR [⟨.move, [.const (.bool true)], (some 2), none⟩])
 .ret)
 .skip))
 (.seq (.seq (.seqR [⟨.move, [.const (.int .i64 0)], (some 3), none⟩])
 (.block 0 (.loop (.seq (.seq (.seqR [⟨.move, [.tmp 3], (some 16), none⟩,
 ⟨.move, [.tmp 0], (some 17), none⟩,
 ⟨.lenS, [.tmp 17], (some 18), none⟩,
 ⟨(.bin .lss), [.tmp 16, .tmp 18], (some 19), none⟩])
 (.cond (.tmp 19) .skip
 (.exit 0)))
 (.seq (.block 1 (.seq (.seqR [⟨.move, [.tmp 0], (some 22), none⟩,
 ⟨.move, [.tmp 3], (some 23), none⟩,
 ⟨(.indexAddrS 10), [.tmp 22, .tmp 23], (some 24), none⟩,
 ⟨(.fieldAddr 4), [.tmp 24], (some 25), none⟩,
 ⟨(.fieldAddr 2), [.tmp 25], (some 26), none⟩,
 ⟨(.load false 1), [.tmp 26], (some 27), none⟩,
 ⟨.lenS, [.tmp 27], (some 28), none⟩,
 ⟨(.bin .gtr), [.tmp 28, .const (.int .i64 100)], (some 29), none⟩,
 ⟨.move, [.tmp 29], (some 30), none⟩,
 ⟨.move, [.tmp 0], (some 31), some (30, false)⟩,
 ⟨.move, [.tmp 3], (some 32), some (30, false)⟩,
 ⟨(.indexAddrS 10), [.tmp 31, .tmp 32], (some 33), some (30, false)⟩,
 ⟨(.fieldAddr 7), [.tmp 33], (some 34), some (30, false)⟩,
 ⟨(.fieldAddr 2), [.tmp 34], (some 35), some (30, false)⟩,
 ⟨(.load false 1), [.tmp 35], (some 36), some (30, false)⟩,
 ⟨.lenS, [.tmp 36], (some 37), some (30, false)⟩,
 ⟨(.bin .gtr), [.tmp 37, .const (.int .i64 100)], (some 38), some (30, false)⟩,
 ⟨.pick, [.tmp 30, .const (.bool true), .tmp 38], (some 39), none⟩])
 (.cond (.tmp 39) (.seq (.seqR [⟨.move, [.const (.bool true)], (some 2), none⟩])
 .ret)
 .skip)))
 (.seqR [⟨.move, [.tmp 3], (some 20), none⟩,
 ⟨(.bin .add), [.tmp 20, .const (.int .i64 1)], (some 21), none⟩,
 ⟨.move, [.tmp 21], (some 3), none⟩]))))))
 (.seq (.seqR [⟨.move, [.tmp 0], (some 41), none⟩,
 ⟨(.callF 6), [.tmp 41], (some 42), none⟩,
 ⟨.move, [.tmp 42], (some 40), none⟩,
 ⟨(.extract 0), [.tmp 40], (some 43), none⟩,
 ⟨(.extract 1), [.tmp 40], (some 44), none⟩,
 ⟨.move, [.tmp 43], (some 4), none⟩,
 ⟨.move, [.tmp 44], (some 5), none⟩])
 (.seq (.seq (.seqR [⟨.move, [.tmp 0], (some 45), none⟩,
 ⟨(.callF 7), [.tmp 45], (some 46), none⟩,
 ⟨.move, [.tmp 0], (some 47), none⟩,
 ⟨(.callF 8), [.tmp 47], (some 48), none⟩,
 ⟨(.eqBool true), [.tmp 46, .tmp 48], (some 49), none⟩])
 (.cond (.tmp 49) (.seq (.seqR [⟨.move, [.const (.bool false)], (some 2), none⟩])
 .ret)
 .skip))
 (.seq (.seq (.seqR [⟨.move, [.tmp 0], (some 50), none⟩,
 ⟨(.callF 8), [.tmp 50], (some 51), none⟩,
 ⟨.not, [.tmp 51], (some 52), none⟩])
 (.cond (.tmp 52) (.seq (.seqR [⟨.move, [.tmp 4], (some 53), none⟩,
 ⟨.lenS, [.tmp 53], (some 54), none⟩,
 ⟨(.bin .eql), [.tmp 54, .const (.int .i64 0)], (some 55), none⟩,
 ⟨.move, [.tmp 55], (some 56), none⟩,
 ⟨.move, [.tmp 5], (some 57), some (56, true)⟩,
 ⟨(.bin .eql), [.tmp 57, .const (.int .i64 13)], (some 58), some (56, true)⟩,
 ⟨.pick, [.tmp 56, .tmp 58, .const (.bool false)], (some 59), none⟩,
 ⟨.move, [.tmp 59], (some 2), none⟩])
 .ret)
 .skip))
 (.seq (.seq (.seqR [⟨.move, [.tmp 5], (some 60), none⟩,
 ⟨(.bin .neq), [.tmp 60, .const (.int .i64 0)], (some 61), none⟩,
 ⟨.move, [.tmp 61], (some 62), none⟩,
 ⟨.move, [.tmp 4], (some 63), some (62, false)⟩,
 ⟨.move, [.tmp 0], (some 64), some (62, false)⟩,
 ⟨(.callF 10), [.tmp 64], (some 65), some (62, false)⟩,
 ⟨(.callF 9), [.tmp 63, .tmp 65], (some 66), some (62, false)⟩,
 ⟨.not, [.tmp 66], (some 67), some (62, false)⟩,
 ⟨.pick, [.tmp 62, .const (.bool true), .tmp 67], (some 68), none⟩])
 (.cond (.tmp 68) (.seq (.seqR [⟨.move, [.const (.bool false)], (some 2), none⟩])
 .ret)
 .skip))
 (.seq (.seq (.seqR [⟨.move, [.const (.int .i64 0)], (some 6), none⟩])
 (.block 2 (.loop (.seq (.seq (.seqR [⟨.move, [.tmp 6], (some 69), none⟩,
 ⟨.move, [.tmp 4], (some 70), none⟩,
 ⟨.lenS, [.tmp 70], (some 71), none⟩,
 ⟨(.bin .lss), [.tmp 69, .tmp 71], (some 72), none⟩])
 (.cond (.tmp 72) .skip
 (.exit 2)))
 (.seq (.block 3 (.seq (.seq (.seqR [⟨.move, [.const (.int .i64 0)], (some 7), none⟩])
 (.block 4 (.loop (.seq (.seq (.seqR [⟨.move, [.tmp 7], (some 75), none⟩,
 ⟨.move, [.tmp 4], (some 76), none⟩,
 ⟨.move, [.tmp 6], (some 77), none⟩,
 ⟨(.indexAddrS 10), [.tmp 76, .tmp 77], (some 78), none⟩,
 ⟨(.fieldAddr 4), [.tmp 78], (some 79), none⟩,
 ⟨(.fieldAddr 2), [.tmp 79], (some 80), none⟩,
 ⟨(.load false 1), [.tmp 80], (some 81), none⟩,
 ⟨.lenS, [.tmp 81], (some 82), none⟩,
 ⟨(.bin .lss), [.tmp 75, .tmp 82], (some 83), none⟩])
 (.cond (.tmp 83) .skip
 (.exit 4)))
 (.seq (.block 5 (.drawR [⟨⟨.move, [.tmp 4], (some 86), none⟩, false, false, 0, 0⟩,
 ⟨⟨.move, [.tmp 6], (some 87), none⟩, false, false, 0, 0⟩,
 ⟨⟨(.indexAddrS 10), [.tmp 86, .tmp 87], (some 88), none⟩, false, false, 0, 0⟩,
 ⟨⟨(.fieldAddr 4), [.tmp 88], (some 89), none⟩, false, false, 0, 0⟩,
 ⟨⟨(.fieldAddr 2), [.tmp 89], (some 90), none⟩, false, false, 0, 0⟩,
 ⟨⟨(.load false 1), [.tmp 90], (some 91), none⟩, false, false, 0, 0⟩,
 ⟨⟨.move, [.tmp 7], (some 92), none⟩, false, false, 0, 0⟩,
 ⟨⟨.move, [.tmp 4], (some 93), none⟩, false, false, 0, 0⟩,
 ⟨⟨.move, [.tmp 6], (some 94), none⟩, false, false, 0, 0⟩,
 ⟨⟨(.indexAddrS 10), [.tmp 93, .tmp 94], (some 95), none⟩, false, false, 0, 0⟩,
 ⟨⟨(.fieldAddr 4), [.tmp 95], (some 96), none⟩, false, false, 0, 0⟩,
 ⟨⟨(.fieldAddr 2), [.tmp 96], (some 97), none⟩, false, false, 0, 0⟩,
 ⟨⟨(.load false 1), [.tmp 97], (some 98), none⟩, false, false, 0, 0⟩,
 ⟨⟨.move, [.tmp 7], (some 99), none⟩, false, false, 0, 0⟩,
 ⟨⟨(.indexAddrS 1), [.tmp 98, .tmp 99], (some 100), none⟩, false, false, 0, 0⟩,
 ⟨⟨(.load false 1), [.tmp 100], (some 101), none⟩, false, false, 0, 0⟩,
 ⟨⟨(.bin .xor), [.tmp 101, .const (.int .i64 1)], (some 102), none⟩, false, false, 0, 0⟩,
 ⟨⟨(.indexAddrS 1), [.tmp 91, .tmp 92], (some 103), none⟩, false, false, 0, 0⟩,
 ⟨⟨(.store 1), [.tmp 103, .tmp 102], none, none⟩, true, false, 0, 1⟩]))
 (.seqR [⟨.move, [.tmp 7], (some 84), none⟩,
 ⟨(.bin .add), [.tmp 84, .const (.int .i64 1)], (some 85), none⟩,
 ⟨.move, [.tmp 85], (some 7), none⟩]))))))
 (.seq (.seqR [⟨.move, [.const (.int .i64 0)], (some 8), none⟩])
 (.block 6 (.loop (.seq (.seq (.seqR [⟨.move, [.tmp 8], (some 104), none⟩,
 ⟨.move, [.tmp 4], (some 105), none⟩,
 ⟨.move, [.tmp 6], (some 106), none⟩,
 ⟨(.indexAddrS 10), [.tmp 105, .tmp 106], (some 107), none⟩,
 ⟨(.fieldAddr 7), [.tmp 107], (some 108), none⟩,
 ⟨(.fieldAddr 2), [.tmp 108], (some 109), none⟩,
 ⟨(.load false 1), [.tmp 109], (some 110), none⟩,
 ⟨.lenS, [.tmp 110], (some 111), none⟩,
 ⟨(.bin .lss), [.tmp 104, .tmp 111], (some 112), none⟩])
 (.cond (.tmp 112) .skip
 (.exit 6)))
 (.seq (.block 7 (.drawR [⟨⟨.move, [.tmp 4], (some 115), none⟩, false, false, 0, 0⟩,
 ⟨⟨.move, [.tmp 6], (some 116), none⟩, false, false, 0, 0⟩,
 ⟨⟨(.indexAddrS 10), [.tmp 115, .tmp 116], (some 117), none⟩, false, false, 0, 0⟩,
 ⟨⟨(.fieldAddr 7), [.tmp 117], (some 118), none⟩, false, false, 0, 0⟩,
 ⟨⟨(.fieldAddr 2), [.tmp 118], (some 119), none⟩, false, false, 0, 0⟩,
 ⟨⟨(.load false 1), [.tmp 119], (some 120), none⟩, false, false, 0, 0⟩,
 ⟨⟨.move, [.tmp 8], (some 121), none⟩, false, false, 0, 0⟩,
 ⟨⟨.move, [.tmp 4], (some 122), none⟩, false, false, 0, 0⟩,
 ⟨⟨.move, [.tmp 6], (some 123), none⟩, false, false, 0, 0⟩,
 ⟨⟨(.indexAddrS 10), [.tmp 122, .tmp 123], (some 124), none⟩, false, false, 0, 0⟩,
 ⟨⟨(.fieldAddr 7), [.tmp 124], (some 125), none⟩, false, false, 0, 0⟩,
 ⟨⟨(.fieldAddr 2), [.tmp 125], (some 126), none⟩, false, false, 0, 0⟩,
 ⟨⟨(.load false 1), [.tmp 126], (some 127), none⟩, false, false, 0, 0⟩,
 ⟨⟨.move, [.tmp 8], (some 128), none⟩, false, false, 0, 0⟩,
 ⟨⟨(.indexAddrS 1), [.tmp 127, .tmp 128], (some 129), none⟩, false, false, 0, 0⟩,
 ⟨⟨(.load false 1), [.tmp 129], (some 130), none⟩, false, false, 0, 0⟩,
 ⟨⟨(.bin .add), [.tmp 130, .const (.int .u64 1)], (some 131), none⟩, false, false, 0, 0⟩,
 ⟨⟨(.indexAddrS 1), [.tmp 120, .tmp 121], (some 132), none⟩, false, false, 0, 0⟩,
 ⟨⟨(.store 1), [.tmp 132, .tmp 131], none, none⟩, true, false, 0, 1⟩]))
 (.seqR [⟨.move, [.tmp 8], (some 113), none⟩,
 ⟨(.bin .add), [.tmp 113, .const (.int .i64 1)], (some 114), none⟩,
 ⟨.move, [.tmp 114], (some 8), none⟩]))))))))
 (.seqR [⟨.move, [.tmp 6], (some 73), none⟩,
 ⟨(.bin .add), [.tmp 73, .const (.int .i64 1)], (some 74), none⟩,
 ⟨.move, [.tmp 74], (some 6), none⟩]))))))
 (.seq (.seqR [⟨.move, [.tmp 0], (some 134), none⟩,
 ⟨(.callF 6), [.tmp 134], (some 135), none⟩,
 ⟨.move, [.tmp 135], (some 133), none⟩,
 ⟨(.extract 0), [.tmp 133], (some 136), none⟩,
 ⟨(.extract 1), [.tmp 133], (some 137), none⟩,
 ⟨.move, [.tmp 136], (some 9), none⟩,
 ⟨.move, [.tmp 137], (some 10), none⟩])
 (.seq (.seqR [⟨.move, [.tmp 10], (some 138), none⟩,
 ⟨(.bin .eql), [.tmp 138, .const (.int .i64 0)], (some 139), none⟩,
 ⟨.move, [.tmp 139], (some 140), none⟩,
 ⟨.move, [.tmp 9], (some 141), some (140, true)⟩,
 ⟨.move, [.tmp 0], (some 142), some (140, true)⟩,
 ⟨(.callF 10), [.tmp 142], (some 143), some (140, true)⟩,
 ⟨(.callF 9), [.tmp 141, .tmp 143], (some 144), some (140, true)⟩,
 ⟨.pick, [.tmp 140, .tmp 144, .const (.bool false)], (some 145), none⟩,
 ⟨.move, [.tmp 145], (some 2), none⟩])
 .ret))))))))))), [.tmp 2]⟩
theorem c3_ok : compFunc Try.prog Try.f3 = some c3 := by kernel_rfl
theorem c3_body : hasBody Try.prog 3 = true := hasBody_of Try.func3 (by kernel_rfl)
/-- coachyard/coachyardlaw15.DiaryCuts -/
def c4 : PFn := ⟨172, Tr.ofList (List.replicate 172 undefA), (.seq (.seqR [⟨.move, [.const (.bool false)], (some 4), none⟩])
 (.seq (.seq (.seqR [⟨(.callF 5), [], (some 11), none⟩,
 ⟨.not, [.tmp 11], (some 12), none⟩])
 (.cond (.tmp 12) (.seq (.seqR [⟨.move, [.const (.bool false)], (some 4), none⟩])
 .ret)
 .skip))
 (.seq (.seq (.seqR [⟨.move, [.tmp 0], (some 13), none⟩,
 ⟨.lenS, [.tmp 13], (some 14), none⟩,
 ⟨(.bin .gtr), [.tmp 14, .const (.int .i64 60)], (some 15), none⟩,
 ⟨.move, [.tmp 15], (some 16), none⟩,
 ⟨.move, [.tmp 1], (some 17), some (16, false)⟩,
 ⟨(.bin .lss), [.tmp 17, .const (.int .i64 0)], (some 18), some (16, false)⟩,
 ⟨.pick, [.tmp 16, .const (.bool true), .tmp 18], (some 19), none⟩,
 ⟨.move, [.tmp 19], (some 20), none⟩,
 ⟨.move, [.tmp 1], (some 21), some (20, false)⟩,
 ⟨.move, [.tmp 0], (some 22), some (20, false)⟩,
 ⟨.lenS, [.tmp 22], (some 23), some (20, false)⟩,
 ⟨(.bin .gtr), [.tmp 21, .tmp 23], (some 24), some (20, false)⟩,
 ⟨.pick, [.tmp 20, .const (.bool true), .tmp 24], (some 25), none⟩])
 (.cond (.tmp 25) (.seq (.seqR [⟨.move, [.const (.bool true)], (some 4), none⟩])
 .ret)
 .skip))
 (.seq (.seq (.seqR [⟨.move, [.const (.int .i64 0)], (some 5), none⟩])
 (.block 0 (.loop (.seq (.seq (.seqR [⟨.move, [.tmp 5], (some 26), none⟩,
 ⟨.move, [.tmp 0], (some 27), none⟩,
 ⟨.lenS, [.tmp 27], (some 28), none⟩,
 ⟨(.bin .lss), [.tmp 26, .tmp 28], (some 29), none⟩])
 (.cond (.tmp 29) .skip
 (.exit 0)))
 (.seq (.block 1 (.seq (.seqR [⟨.move, [.tmp 0], (some 32), none⟩,
 ⟨.move, [.tmp 5], (some 33), none⟩,
 ⟨(.indexAddrS 10), [.tmp 32, .tmp 33], (some 34), none⟩,
 ⟨(.fieldAddr 4), [.tmp 34], (some 35), none⟩,
 ⟨(.fieldAddr 2), [.tmp 35], (some 36), none⟩,
 ⟨(.load false 1), [.tmp 36], (some 37), none⟩,
 ⟨.lenS, [.tmp 37], (some 38), none⟩,
 ⟨(.bin .gtr), [.tmp 38, .const (.int .i64 100)], (some 39), none⟩,
 ⟨.move, [.tmp 39], (some 40), none⟩,
 ⟨.move, [.tmp 0], (some 41), some (40, false)⟩,
 ⟨.move, [.tmp 5], (some 42), some (40, false)⟩,
 ⟨(.indexAddrS 10), [.tmp 41, .tmp 42], (some 43), some (40, false)⟩,
 ⟨(.fieldAddr 7), [.tmp 43], (some 44), some (40, false)⟩,
 ⟨(.fieldAddr 2), [.tmp 44], (some 45), some (40, false)⟩,
 ⟨(.load false 1), [.tmp 45], (some 46), some (40, false)⟩,
 ⟨.lenS, [.tmp 46], (some 47), some (40, false)⟩,
 ⟨(.bin .gtr), [.tmp 47, .const (.int .i64 100)], (some 48), some (40, false)⟩,
 ⟨.pick, [.tmp 40, .const (.bool true), .tmp 48], (some 49), none⟩])
 (.cond (.tmp 49) (.seq (.seqR [⟨.move, [.const (.bool true)], (some 4), none⟩])
 .ret)
 .skip)))
 (.seqR [⟨.move, [.tmp 5], (some 30), none⟩,
 ⟨(.bin .add), [.tmp 30, .const (.int .i64 1)], (some 31), none⟩,
 ⟨.move, [.tmp 31], (some 5), none⟩]))))))
 (.seq (.seq (.seqR [⟨.move, [.tmp 0], (some 50), none⟩,
 ⟨(.callF 8), [.tmp 50], (some 51), none⟩,
 ⟨.not, [.tmp 51], (some 52), none⟩])
 (.cond (.tmp 52) (.seq (.seqR [⟨.move, [.const (.bool true)], (some 4), none⟩])
 .ret)
 .skip))
 (.seq (.seqR [⟨.move, [.tmp 0], (some 54), none⟩,
 ⟨(.callF 6), [.tmp 54], (some 55), none⟩,
 ⟨.move, [.tmp 55], (some 53), none⟩,
 ⟨(.extract 0), [.tmp 53], (some 56), none⟩,
 ⟨(.extract 1), [.tmp 53], (some 57), none⟩,
 ⟨.move, [.tmp 56], (some 6), none⟩,
 ⟨.move, [.tmp 57], (some 7), none⟩])
 (.seq (.seqR [⟨.move, [.tmp 0], (some 59), none⟩,
 ⟨.move, [.tmp 1], (some 60), none⟩,
 ⟨(.slice 10 false true false), [.tmp 59, .tmp 60], (some 61), none⟩,
 ⟨(.callF 6), [.tmp 61], (some 62), none⟩,
 ⟨.move, [.tmp 62], (some 58), none⟩,
 ⟨(.extract 0), [.tmp 58], (some 63), none⟩,
 ⟨(.extract 1), [.tmp 58], (some 64), none⟩,
 ⟨.move, [.tmp 63], (some 8), none⟩,
 ⟨.move, [.tmp 64], (some 9), none⟩])
 (.seq (.seq (.seqR [⟨.move, [.tmp 7], (some 65), none⟩,
 ⟨(.bin .neq), [.tmp 65, .const (.int .i64 0)], (some 66), none⟩,
 ⟨.move, [.tmp 66], (some 67), none⟩,
 ⟨.move, [.tmp 9], (some 68), some (67, false)⟩,
 ⟨(.bin .neq), [.tmp 68, .const (.int .i64 0)], (some 69), some (67, false)⟩,
 ⟨.pick, [.tmp 67, .const (.bool true), .tmp 69], (some 70), none⟩,
 ⟨.move, [.tmp 70], (some 71), none⟩,
 ⟨.move, [.tmp 0], (some 72), some (71, false)⟩,
 ⟨.move, [.tmp 1], (some 73), some (71, false)⟩,
 ⟨(.slice 10 false true false), [.tmp 72, .tmp 73], (some 74), some (71, false)⟩,
 ⟨(.callF 7), [.tmp 74], (some 75), some (71, false)⟩,
 ⟨.not, [.tmp 75], (some 76), some (71, false)⟩,
 ⟨.pick, [.tmp 71, .const (.bool true), .tmp 76], (some 77), none⟩,
 ⟨.move, [.tmp 77], (some 78), none⟩,
 ⟨.move, [.tmp 8], (some 79), some (78, false)⟩,
 ⟨.lenS, [.tmp 79], (some 80), some (78, false)⟩,
 ⟨.move, [.tmp 6], (some 81), some (78, false)⟩,
 ⟨.lenS, [.tmp 81], (some 82), some (78, false)⟩,
 ⟨(.bin .gtr), [.tmp 80, .tmp 82], (some 83), some (78, false)⟩,
 ⟨.pick, [.tmp 78, .const (.bool true), .tmp 83], (some 84), none⟩,
 ⟨.move, [.tmp 84], (some 85), none⟩,
 ⟨.move, [.tmp 8], (some 86), some (85, false)⟩,
 ⟨(.callF 11), [.tmp 86], (some 87), some (85, false)⟩,
 ⟨.move, [.tmp 6], (some 88), some (85, false)⟩,
 ⟨(.callF 11), [.tmp 88], (some 89), some (85, false)⟩,
 ⟨(.bin .gtr), [.tmp 87, .tmp 89], (some 90), some (85, false)⟩,
 ⟨.pick, [.tmp 85, .const (.bool true), .tmp 90], (some 91), none⟩])
 (.cond (.tmp 91) (.seq (.seqR [⟨.move, [.const (.bool false)], (some 4), none⟩])
 .ret)
 .skip))
 (.seq (.seq (.seqR [⟨.move, [.const (.int .i64 0)], (some 10), none⟩])
 (.block 2 (.loop (.seq (.seq (.seqR [⟨.move, [.tmp 10], (some 92), none⟩,
 ⟨.move, [.tmp 6], (some 93), none⟩,
 ⟨.lenS, [.tmp 93], (some 94), none⟩,
 ⟨(.bin .lss), [.tmp 92, .tmp 94], (some 95), none⟩])
 (.cond (.tmp 95) .skip
 (.exit 2)))
 (.seq (.block 3 (.seq (.seq (.seqR [⟨.move, [.tmp 6], (some 98), none⟩,
 ⟨.move, [.tmp 10], (some 99), none⟩,
 ⟨(.indexAddrS 10), [.tmp 98, .tmp 99], (some 100), none⟩,
 ⟨(.fieldAddr 2), [.tmp 100], (some 101), none⟩,
 ⟨(.load false 1), [.tmp 101], (some 102), none⟩,
 ⟨.move, [.tmp 1], (some 103), none⟩,
 ⟨(.bin .lss), [.tmp 102, .tmp 103], (some 104), none⟩,
 ⟨.move, [.tmp 10], (some 105), none⟩,
 ⟨.move, [.tmp 8], (some 106), none⟩,
 ⟨.lenS, [.tmp 106], (some 107), none⟩,
 ⟨(.bin .lss), [.tmp 105, .tmp 107], (some 108), none⟩,
 ⟨(.eqBool true), [.tmp 104, .tmp 108], (some 109), none⟩])
 (.cond (.tmp 109) (.seq (.seqR [⟨.move, [.const (.bool false)], (some 4), none⟩])
 .ret)
 .skip))
 (.seq (.drawR [⟨⟨.move, [.tmp 10], (some 110), none⟩, false, false, 0, 0⟩,
 ⟨⟨.move, [.tmp 8], (some 111), none⟩, false, false, 0, 0⟩,
 ⟨⟨.lenS, [.tmp 111], (some 112), none⟩, false, false, 0, 0⟩,
 ⟨⟨(.bin .lss), [.tmp 110, .tmp 112], (some 113), none⟩, false, false, 0, 0⟩,
 ⟨⟨.move, [.tmp 113], (some 114), none⟩, false, false, 0, 0⟩,
 ⟨⟨.move, [.tmp 8], (some 115), some (114, true)⟩, false, false, 0, 0⟩,
 ⟨⟨.move, [.tmp 10], (some 116), some (114, true)⟩, false, false, 0, 0⟩,
 ⟨⟨(.indexAddrS 10), [.tmp 115, .tmp 116], (some 117), some (114, true)⟩, false, false, 0, 0⟩,
 ⟨⟨(.fieldAddr 2), [.tmp 117], (some 118), some (114, true)⟩, false, false, 0, 0⟩,
 ⟨⟨(.load false 1), [.tmp 118], (some 119), some (114, true)⟩, false, false, 0, 0⟩,
 ⟨⟨.move, [.tmp 6], (some 120), some (114, true)⟩, false, false, 0, 0⟩,
 ⟨⟨.move, [.tmp 10], (some 121), some (114, true)⟩, false, false, 0, 0⟩,
 ⟨⟨(.indexAddrS 10), [.tmp 120, .tmp 121], (some 122), some (114, true)⟩, false, false, 0, 0⟩,
 ⟨⟨(.fieldAddr 2), [.tmp 122], (some 123), some (114, true)⟩, false, false, 0, 0⟩,
 ⟨⟨(.load false 1), [.tmp 123], (some 124), some (114, true)⟩, false, false, 0, 0⟩,
 ⟨⟨(.bin .neq), [.tmp 119, .tmp 124], (some 125), some (114, true)⟩, false, false, 0, 0⟩,
 ⟨⟨.move, [.tmp 125], (some 126), some (114, true)⟩, false, false, 0, 0⟩,
 ⟨⟨.move, [.tmp 8], (some 127), some (126, false)⟩, false, false, 0, 0⟩,
 ⟨⟨.move, [.tmp 10], (some 128), some (126, false)⟩, false, false, 0, 0⟩,
 ⟨⟨(.indexAddrS 10), [.tmp 127, .tmp 128], (some 129), some (126, false)⟩, false, false, 0, 0⟩,
 ⟨⟨(.fieldAddr 3), [.tmp 129], (some 130), some (126, false)⟩, false, false, 0, 0⟩,
 ⟨⟨(.load false 1), [.tmp 130], (some 131), some (126, false)⟩, false, false, 0, 0⟩,
 ⟨⟨(.bin .geq), [.tmp 131, .const (.int .i64 0)], (some 132), some (126, false)⟩, false, false, 0, 0⟩,
 ⟨⟨.move, [.tmp 6], (some 133), some (126, false)⟩, false, false, 0, 0⟩,
 ⟨⟨.move, [.tmp 10], (some 134), some (126, false)⟩, false, false, 0, 0⟩,
 ⟨⟨(.indexAddrS 10), [.tmp 133, .tmp 134], (some 135), some (126, false)⟩, false, false, 0, 0⟩,
 ⟨⟨(.fieldAddr 3), [.tmp 135], (some 136), some (126, false)⟩, false, false, 0, 0⟩,
 ⟨⟨(.load false 1), [.tmp 136], (some 137), some (126, false)⟩, false, false, 0, 0⟩,
 ⟨⟨(.bin .geq), [.tmp 137, .const (.int .i64 0)], (some 138), some (126, false)⟩, false, false, 0, 0⟩,
 ⟨⟨.move, [.tmp 138], (some 139), some (126, false)⟩, false, false, 0, 0⟩,
 ⟨⟨.move, [.tmp 6], (some 140), some (139, true)⟩, false, false, 0, 0⟩,
 ⟨⟨.move, [.tmp 10], (some 141), some (139, true)⟩, false, false, 0, 0⟩,
 ⟨⟨(.indexAddrS 10), [.tmp 140, .tmp 141], (some 142), some (139, true)⟩, false, false, 0, 0⟩,
 ⟨⟨(.fieldAddr 3), [.tmp 142], (some 143), some (139, true)⟩, false, false, 0, 0⟩,
 ⟨⟨(.load false 1), [.tmp 143], (some 144), some (139, true)⟩, false, false, 0, 0⟩,
 ⟨⟨.move, [.tmp 1], (some 145), some (139, true)⟩, false, false, 0, 0⟩,
 ⟨⟨(.bin .lss), [.tmp 144, .tmp 145], (some 146), some (139, true)⟩, false, false, 0, 0⟩,
 ⟨⟨.pick, [.tmp 139, .tmp 146, .const (.bool false)], (some 147), some (126, false)⟩, false, false, 0, 0⟩,
 ⟨⟨(.eqBool true), [.tmp 132, .tmp 147], (some 148), some (126, false)⟩, false, false, 0, 0⟩,
 ⟨⟨.pick, [.tmp 126, .const (.bool true), .tmp 148], (some 149), some (114, true)⟩, false, false, 0, 0⟩,
 ⟨⟨.move, [.tmp 149], (some 150), some (114, true)⟩, false, false, 0, 0⟩,
 ⟨⟨.move, [.tmp 8], (some 151), some (150, false)⟩, false, false, 0, 0⟩,
 ⟨⟨.move, [.tmp 10], (some 152), some (150, false)⟩, false, false, 0, 0⟩,
 ⟨⟨(.indexAddrS 10), [.tmp 151, .tmp 152], (some 153), some (150, false)⟩, false, false, 0, 0⟩,
 ⟨⟨(.fieldAddr 3), [.tmp 153], (some 154), some (150, false)⟩, false, false, 0, 0⟩,
 ⟨⟨(.load false 1), [.tmp 154], (some 155), some (150, false)⟩, false, false, 0, 0⟩,
 ⟨⟨(.bin .geq), [.tmp 155, .const (.int .i64 0)], (some 156), some (150, false)⟩, false, false, 0, 0⟩,
 ⟨⟨.move, [.tmp 156], (some 157), some (150, false)⟩, false, false, 0, 0⟩,
 ⟨⟨.move, [.tmp 8], (some 158), some (157, true)⟩, false, false, 0, 0⟩,
 ⟨⟨.move, [.tmp 10], (some 159), some (157, true)⟩, false, false, 0, 0⟩,
 ⟨⟨(.indexAddrS 10), [.tmp 158, .tmp 159], (some 160), some (157, true)⟩, false, false, 0, 0⟩,
 ⟨⟨(.fieldAddr 3), [.tmp 160], (some 161), some (157, true)⟩, false, false, 0, 0⟩,
 ⟨⟨(.load false 1), [.tmp 161], (some 162), some (157, true)⟩, false, false, 0, 0⟩,
 ⟨⟨.move, [.tmp 6], (some 163), some (157, true)⟩, false, false, 0, 0⟩,
 ⟨⟨.move, [.tmp 10], (some 164), some (157, true)⟩, false, false, 0, 0⟩,
 ⟨⟨(.indexAddrS 10), [.tmp 163, .tmp 164], (some 165), some (157, true)⟩, false, false, 0, 0⟩,
 ⟨⟨(.fieldAddr 3), [.tmp 165], (some 166), some (157, true)⟩, false, false, 0, 0⟩,
 ⟨⟨(.load false 1), [.tmp 166], (some 167), some (157, true)⟩, false, false, 0, 0⟩,
 ⟨⟨(.bin .neq), [.tmp 162, .tmp 167], (some 168), some (157, true)⟩, false, false, 0, 0⟩,
 ⟨⟨.pick, [.tmp 157, .tmp 168, .const (.bool false)], (some 169), some (150, false)⟩, false, false, 0, 0⟩,
 ⟨⟨.pick, [.tmp 150, .const (.bool true), .tmp 169], (some 170), some (114, true)⟩, false, false, 0, 0⟩,
 ⟨⟨.pick, [.tmp 114, .tmp 170, .const (.bool false)], (some 171), none⟩, false, false, 0, 0⟩])
 (.cond (.tmp 171) (.seq (.seqR [⟨.move, [.const (.bool false)], (some 4), none⟩])
 .ret)
 .skip))))
 (.seqR [⟨.move, [.tmp 10], (some 96), none⟩,
 ⟨(.bin .add), [.tmp 96, .const (.int .i64 1)], (some 97), none⟩,
 ⟨.move, [.tmp 97], (some 10), none⟩]))))))
 (.seq (.seqR [⟨.move, [.const (.bool true)], (some 4), none⟩])
 .ret)))))))))), [.tmp 4]⟩
theorem c4_ok : compFunc Try.prog Try.f4 = some c4 := by kernel_rfl
theorem c4_body : hasBody Try.prog 4 = true := hasBody_of Try.func4 (by kernel_rfl)
/-- coachyard/coachyardlaw15.awake -/
def c5 : PFn := ⟨44, Tr.ofList (List.replicate 44 undefA), (.seq (.seqR [⟨.move, [.const (.bool false)], (some 0), none⟩])
 (.seq (.seqR [⟨(.build [(.int .i64 0), (.int .i64 0), (.int .i64 0), (.bool false), (.int .i64 0), (.int .u64 0), (.slice none 0 0 false), (.int .i64 0), (.int .u64 0), (.slice none 0 0 false)] [(1, 1)]), [.const (.int .i64 0)], (some 4), none⟩,
 ⟨(.build [(.int .i64 0), (.int .i64 0), (.int .i64 0), (.bool false), (.int .i64 0), (.int .u64 0), (.slice none 0 0 false), (.int .i64 0), (.int .u64 0), (.slice none 0 0 false)] [(1, 1)]), [.const (.int .i64 1)], (some 5), none⟩,
 ⟨(.build [(.int .i64 0), (.int .i64 0), (.int .i64 0), (.bool false), (.int .i64 0), (.int .u64 0), (.slice none 0 0 false), (.int .i64 0), (.int .u64 0), (.slice none 0 0 false)] [(1, 1), (3, 1)]), [.const (.int .i64 0), .const (.bool true)], (some 6), none⟩,
 ⟨(.sliceLit 3 [(.int .i64 0), (.int .i64 0), (.int .i64 0), (.bool false), (.int .i64 0), (.int .u64 0), (.slice none 0 0 false), (.int .i64 0), (.int .u64 0), (.slice none 0 0 false), (.int .i64 0), (.int .i64 0), (.int .i64 0), (.bool false), (.int .i64 0), (.int .u64 0), (.slice none 0 0 false), (.int .i64 0), (.int .u64 0), (.slice none 0 0 false), (.int .i64 0), (.int .i64 0), (.int .i64 0), (.bool false), (.int .i64 0), (.int .u64 0), (.slice none 0 0 false), (.int .i64 0), (.int .u64 0), (.slice none 0 0 false)] [(0, 10), (10, 10), (20, 10)]), [.tmp 4, .tmp 5, .tmp 6], (some 7), none⟩,
 ⟨(.callF 6), [.tmp 7], (some 8), none⟩,
 ⟨.move, [.tmp 8], (some 3), none⟩,
 ⟨(.extract 0), [.tmp 3], (some 9), none⟩,
 ⟨(.extract 1), [.tmp 3], (some 10), none⟩,
 ⟨.move, [.tmp 9], (some 1), none⟩,
 ⟨.move, [.tmp 10], (some 2), none⟩])
 (.seq (.seqR [⟨.move, [.tmp 2], (some 11), none⟩,
 ⟨(.bin .eql), [.tmp 11, .const (.int .i64 0)], (some 12), none⟩,
 ⟨.move, [.tmp 12], (some 13), none⟩,
 ⟨.move, [.tmp 1], (some 14), some (13, true)⟩,
 ⟨.lenS, [.tmp 14], (some 15), some (13, true)⟩,
 ⟨(.bin .eql), [.tmp 15, .const (.int .i64 2)], (some 16), some (13, true)⟩,
 ⟨.pick, [.tmp 13, .tmp 16, .const (.bool false)], (some 17), none⟩,
 ⟨.move, [.tmp 17], (some 18), none⟩,
 ⟨.move, [.tmp 1], (some 19), some (18, true)⟩,
 ⟨(.indexAddrS 10), [.tmp 19, .const (.int .i64 0)], (some 20), some (18, true)⟩,
 ⟨(.fieldAddr 3), [.tmp 20], (some 21), some (18, true)⟩,
 ⟨(.load false 1), [.tmp 21], (some 22), some (18, true)⟩,
 ⟨(.bin .eql), [.tmp 22, .const (.int .i64 2)], (some 23), some (18, true)⟩,
 ⟨.pick, [.tmp 18, .tmp 23, .const (.bool false)], (some 24), none⟩,
 ⟨.move, [.tmp 24], (some 25), none⟩,
 ⟨.move, [.tmp 1], (some 26), some (25, true)⟩,
 ⟨(.indexAddrS 10), [.tmp 26, .const (.int .i64 1)], (some 27), some (25, true)⟩,
 ⟨(.fieldAddr 2), [.tmp 27], (some 28), some (25, true)⟩,
 ⟨(.load false 1), [.tmp 28], (some 29), some (25, true)⟩,
 ⟨(.bin .eql), [.tmp 29, .const (.int .i64 1)], (some 30), some (25, true)⟩,
 ⟨.pick, [.tmp 25, .tmp 30, .const (.bool false)], (some 31), none⟩,
 ⟨.move, [.tmp 31], (some 32), none⟩,
 ⟨.move, [.tmp 1], (some 33), some (32, true)⟩,
 ⟨(.indexAddrS 10), [.tmp 33, .const (.int .i64 1)], (some 34), some (32, true)⟩,
 ⟨(.fieldAddr 3), [.tmp 34], (some 35), some (32, true)⟩,
 ⟨(.load false 1), [.tmp 35], (some 36), some (32, true)⟩,
 ⟨(.bin .eql), [.tmp 36, .const (.int .i64 (-1))], (some 37), some (32, true)⟩,
 ⟨.pick, [.tmp 32, .tmp 37, .const (.bool false)], (some 38), none⟩,
 ⟨.move, [.tmp 38], (some 39), none⟩,
 ⟨.move, [.tmp 1], (some 40), some (39, true)⟩,
 ⟨(.callF 11), [.tmp 40], (some 41), some (39, true)⟩,
 ⟨(.bin .eql), [.tmp 41, .const (.int .i64 2)], (some 42), some (39, true)⟩,
 ⟨.pick, [.tmp 39, .tmp 42, .const (.bool false)], (some 43), none⟩,
 ⟨.move, [.tmp 43], (some 0), none⟩])
 .ret))), [.tmp 0]⟩
theorem c5_ok : compFunc Try.prog Try.f5 = some c5 := by kernel_rfl
theorem c5_body : hasBody Try.prog 5 = true := hasBody_of Try.func5 (by kernel_rfl)
/-- coachyard/diary.Spans -/
def c6 : PFn := ⟨36, Tr.ofList (List.replicate 36 undefA), (.seq (.seqR [⟨.move, [.const (.slice none 0 0 false)], (some 2), none⟩,
 ⟨.move, [.const (.int .i64 0)], (some 3), none⟩])
 (.seq (.seqR [⟨(.build [(.int .i64 0), (.int .i64 0), (.int .i64 0), (.int .i64 0), (.int .i64 0), (.int .i64 0), (.int .i64 0), (.int .i64 0), (.int .i64 0), (.int .i64 0), (.int .i64 0), (.int .i64 0), (.int .i64 0), (.int .i64 0), (.int .i64 0), (.int .i64 0), (.int .i64 0), (.int .i64 0), (.int .i64 0), (.int .i64 0), (.int .i64 0), (.int .i64 0), (.int .i64 0), (.int .i64 0), (.int .i64 0), (.int .i64 0), (.int .i64 0), (.int .i64 0), (.int .i64 0), (.int .i64 0), (.int .i64 0), (.int .i64 0), (.int .i64 0), (.slice none 0 0 false)] []), [], (some 8), none⟩,
 ⟨.box, [.tmp 8], (some 9), none⟩,
 ⟨.move, [.tmp 9], (some 4), none⟩])
 (.seq (.seq (.seqR [⟨.move, [.const (.int .i64 0)], (some 10), none⟩])
 (.block 0 (.loop (.seq (.seqR [⟨(.bin .lss), [.tmp 10, .const (.int .i64 16)], (some 11), none⟩])
 (.seq (.cond (.tmp 11) .skip
 (.exit 0))
 (.seq (.block 1 (.seq (.seqR [⟨.move, [.tmp 10], (some 12), none⟩,
 ⟨.move, [.tmp 12], (some 5), none⟩])
 (.seqR [⟨.move, [.tmp 4], (some 13), none⟩,
 ⟨.move, [.tmp 5], (some 14), none⟩,
 ⟨.nilCheck, [.tmp 13], (some 15), none⟩,
 ⟨(.fieldAddr 17), [.tmp 15], (some 16), none⟩,
 ⟨(.indexAddrA 16 1), [.tmp 16, .tmp 14], (some 17), none⟩,
 ⟨(.store 1), [.tmp 17, .const (.int .i64 (-1))], none, none⟩])))
 (.seqR [⟨(.bin .add), [.tmp 10, .const (.int .i64 1)], (some 18), none⟩,
 ⟨.move, [.tmp 18], (some 10), none⟩])))))))
 (.seq (.seq (.seqR [⟨.move, [.tmp 0], (some 19), none⟩,
 ⟨.lenS, [.tmp 19], (some 20), none⟩,
 ⟨.move, [.const (.int .i64 0)], (some 21), none⟩])
 (.block 2 (.loop (.seq (.seqR [⟨(.bin .lss), [.tmp 21, .tmp 20], (some 22), none⟩])
 (.seq (.cond (.tmp 22) .skip
 (.exit 2))
 (.seq (.block 3 (.seq (.seqR [⟨.move, [.tmp 21], (some 23), none⟩,
 ⟨(.indexAddrS 10), [.tmp 19, .tmp 21], (some 24), none⟩,
 ⟨(.load true 10), [.tmp 24], (some 25), none⟩,
 ⟨(.new [(.int .i64 0), (.int .i64 0), (.int .i64 0), (.bool false), (.int .i64 0), (.int .u64 0), (.slice none 0 0 false), (.int .i64 0), (.int .u64 0), (.slice none 0 0 false)]), [], (some 7), none⟩,
 ⟨.move, [.tmp 23], (some 6), none⟩,
 ⟨(.store 10), [.tmp 7, .tmp 25], none, none⟩])
 (.seq (.seqR [⟨.move, [.tmp 4], (some 26), none⟩,
 ⟨.move, [.tmp 6], (some 27), none⟩,
 ⟨(.load true 10), [.tmp 7], (some 28), none⟩,
 ⟨(.callF 12), [.tmp 26, .tmp 27, .tmp 28], (some 29), none⟩,
 ⟨.not, [.tmp 29], (some 30), none⟩])
 (.cond (.tmp 30) (.seq (.seqR [⟨.move, [.const (.slice none 0 0 false)], (some 2), none⟩,
 ⟨.move, [.const (.int .i64 13)], (some 3), none⟩])
 .ret)
 .skip))))
 (.seqR [⟨(.bin .add), [.tmp 21, .const (.int .i64 1)], (some 31), none⟩,
 ⟨.move, [.tmp 31], (some 21), none⟩])))))))
 (.seq (.seqR [⟨.move, [.tmp 4], (some 32), none⟩,
 ⟨.nilCheck, [.tmp 32], (some 33), none⟩,
 ⟨(.fieldAddr 33), [.tmp 33], (some 34), none⟩,
 ⟨(.load false 1), [.tmp 34], (some 35), none⟩,
 ⟨.move, [.tmp 35], (some 2), none⟩,
 ⟨.move, [.const (.int .i64 0)], (some 3), none⟩])
 .ret))))), [.tmp 2, .tmp 3]⟩
theorem c6_ok : compFunc Try.prog Try.f6 = some c6 := by kernel_rfl
theorem c6_body : hasBody Try.prog 6 = true := hasBody_of Try.func6 (by kernel_rfl)
/-- coachyard/diary.Right -/
def c7 : PFn := ⟨12, Tr.ofList (List.replicate 12 undefA), (.seq (.seqR [⟨.move, [.const (.bool false)], (some 2), none⟩])
 (.seq (.seqR [⟨.move, [.tmp 0], (some 6), none⟩,
 ⟨(.callF 6), [.tmp 6], (some 7), none⟩,
 ⟨.move, [.tmp 7], (some 5), none⟩,
 ⟨(.extract 0), [.tmp 5], (some 8), none⟩,
 ⟨(.extract 1), [.tmp 5], (some 9), none⟩,
 ⟨.move, [.tmp 8], (some 3), none⟩,
 ⟨.move, [.tmp 9], (some 4), none⟩])
 (.seq (.seqR [⟨.move, [.tmp 4], (some 10), none⟩,
 ⟨(.bin .eql), [.tmp 10, .const (.int .i64 0)], (some 11), none⟩,
 ⟨.move, [.tmp 11], (some 2), none⟩])
 .ret))), [.tmp 2]⟩
theorem c7_ok : compFunc Try.prog Try.f7 = some c7 := by kernel_rfl
theorem c7_body : hasBody Try.prog 7 = true := hasBody_of Try.func7 (by kernel_rfl)
/-- coachyard/coachyardref15.Right -/
def c8 : PFn := ⟨114, Tr.ofList (List.replicate 114 undefA), (.seq (.seqR [⟨.move, [.const (.bool false)], (some 2), none⟩])
 (.seq (.seq (.seqR [⟨.move, [.const (.int .i64 0)], (some 3), none⟩])
 (.block 0 (.loop (.seq (.seq (.seqR [⟨.move, [.tmp 3], (some 8), none⟩,
 ⟨.move, [.tmp 0], (some 9), none⟩,
 ⟨.lenS, [.tmp 9], (some 10), none⟩,
 ⟨(.bin .lss), [.tmp 8, .tmp 10], (some 11), none⟩])
 (.cond (.tmp 11) .skip
 (.exit 0)))
 (.seq (.block 1 (.seq (.drawR [⟨⟨.move, [.tmp 0], (some 14), none⟩, false, false, 0, 0⟩,
 ⟨⟨.move, [.tmp 3], (some 15), none⟩, false, false, 0, 0⟩,
 ⟨⟨(.indexAddrS 10), [.tmp 14, .tmp 15], (some 16), none⟩, false, false, 0, 0⟩,
 ⟨⟨(.fieldAddr 0), [.tmp 16], (some 17), none⟩, false, false, 0, 0⟩,
 ⟨⟨(.load false 1), [.tmp 17], (some 18), none⟩, false, false, 0, 0⟩,
 ⟨⟨(.bin .lss), [.tmp 18, .const (.int .i64 0)], (some 19), none⟩, false, false, 0, 0⟩,
 ⟨⟨.move, [.tmp 19], (some 20), none⟩, false, false, 0, 0⟩,
 ⟨⟨.move, [.tmp 3], (some 21), some (20, false)⟩, false, false, 0, 0⟩,
 ⟨⟨(.bin .gtr), [.tmp 21, .const (.int .i64 0)], (some 22), some (20, false)⟩, false, false, 0, 0⟩,
 ⟨⟨.move, [.tmp 22], (some 23), some (20, false)⟩, false, false, 0, 0⟩,
 ⟨⟨.move, [.tmp 0], (some 24), some (23, true)⟩, false, false, 0, 0⟩,
 ⟨⟨.move, [.tmp 3], (some 25), some (23, true)⟩, false, false, 0, 0⟩,
 ⟨⟨(.indexAddrS 10), [.tmp 24, .tmp 25], (some 26), some (23, true)⟩, false, false, 0, 0⟩,
 ⟨⟨(.fieldAddr 0), [.tmp 26], (some 27), some (23, true)⟩, false, false, 0, 0⟩,
 ⟨⟨(.load false 1), [.tmp 27], (some 28), some (23, true)⟩, false, false, 0, 0⟩,
 ⟨⟨.move, [.tmp 0], (some 29), some (23, true)⟩, false, false, 0, 0⟩,
 ⟨⟨.move, [.tmp 3], (some 30), some (23, true)⟩, false, false, 0, 0⟩,
 ⟨⟨(.bin .sub), [.tmp 30, .const (.int .i64 1)], (some 31), some (23, true)⟩, false, false, 0, 0⟩,
 ⟨⟨(.indexAddrS 10), [.tmp 29, .tmp 31], (some 32), some (23, true)⟩, false, false, 0, 0⟩,
 ⟨⟨(.fieldAddr 0), [.tmp 32], (some 33), some (23, true)⟩, false, false, 0, 0⟩,
 ⟨⟨(.load false 1), [.tmp 33], (some 34), some (23, true)⟩, false, false, 0, 0⟩,
 ⟨⟨(.bin .lss), [.tmp 28, .tmp 34], (some 35), some (23, true)⟩, false, false, 0, 0⟩,
 ⟨⟨.pick, [.tmp 23, .tmp 35, .const (.bool false)], (some 36), some (20, false)⟩, false, false, 0, 0⟩,
 ⟨⟨.pick, [.tmp 20, .const (.bool true), .tmp 36], (some 37), none⟩, false, false, 0, 0⟩,
 ⟨⟨.move, [.tmp 37], (some 38), none⟩, false, false, 0, 0⟩,
 ⟨⟨.move, [.tmp 0], (some 39), some (38, false)⟩, false, false, 0, 0⟩,
 ⟨⟨.move, [.tmp 3], (some 40), some (38, false)⟩, false, false, 0, 0⟩,
 ⟨⟨(.indexAddrS 10), [.tmp 39, .tmp 40], (some 41), some (38, false)⟩, false, false, 0, 0⟩,
 ⟨⟨(.fieldAddr 1), [.tmp 41], (some 42), some (38, false)⟩, false, false, 0, 0⟩,
 ⟨⟨(.load false 1), [.tmp 42], (some 43), some (38, false)⟩, false, false, 0, 0⟩,
 ⟨⟨(.bin .lss), [.tmp 43, .const (.int .i64 0)], (some 44), some (38, false)⟩, false, false, 0, 0⟩,
 ⟨⟨.pick, [.tmp 38, .const (.bool true), .tmp 44], (some 45), none⟩, false, false, 0, 0⟩,
 ⟨⟨.move, [.tmp 45], (some 46), none⟩, false, false, 0, 0⟩,
 ⟨⟨.move, [.tmp 0], (some 47), some (46, false)⟩, false, false, 0, 0⟩,
 ⟨⟨.move, [.tmp 3], (some 48), some (46, false)⟩, false, false, 0, 0⟩,
 ⟨⟨(.indexAddrS 10), [.tmp 47, .tmp 48], (some 49), some (46, false)⟩, false, false, 0, 0⟩,
 ⟨⟨(.fieldAddr 1), [.tmp 49], (some 50), some (46, false)⟩, false, false, 0, 0⟩,
 ⟨⟨(.load false 1), [.tmp 50], (some 51), some (46, false)⟩, false, false, 0, 0⟩,
 ⟨⟨(.bin .gtr), [.tmp 51, .const (.int .i64 15)], (some 52), some (46, false)⟩, false, false, 0, 0⟩,
 ⟨⟨.pick, [.tmp 46, .const (.bool true), .tmp 52], (some 53), none⟩, false, false, 0, 0⟩])
 (.cond (.tmp 53) (.seq (.seqR [⟨.move, [.const (.bool false)], (some 2), none⟩])
 .ret)
 .skip)))
 (.seqR [⟨.move, [.tmp 3], (some 12), none⟩,
 ⟨(.bin .add), [.tmp 12, .const (.int .i64 1)], (some 13), none⟩,
 ⟨.move, [.tmp 13], (some 3), none⟩]))))))
 (.seq (.seq (.seqR [⟨.move, [.const (.int .i64 0)], (some 4), none⟩])
 (.block 2 (.loop (.seq (.seq (.seqR [⟨.move, [.tmp 4], (some 54), none⟩,
 ⟨(.bin .lss), [.tmp 54, .const (.int .i64 16)], (some 55), none⟩])
 (.cond (.tmp 55) .skip
 (.exit 2)))
 (.seq (.block 3 (.seq (.seqR [⟨.move, [.tmp 0], (some 58), none⟩,
 ⟨.move, [.tmp 4], (some 59), none⟩,
 ⟨(.callF 13), [.tmp 58, .tmp 59], (some 60), none⟩,
 ⟨.move, [.tmp 60], (some 5), none⟩])
 (.seq (.seqR [⟨.move, [.const (.int .i64 0)], (some 6), none⟩])
 (.block 4 (.loop (.seq (.seq (.seqR [⟨.move, [.tmp 6], (some 61), none⟩,
 ⟨.move, [.tmp 5], (some 62), none⟩,
 ⟨.lenS, [.tmp 62], (some 63), none⟩,
 ⟨(.bin .lss), [.tmp 61, .tmp 63], (some 64), none⟩])
 (.cond (.tmp 64) .skip
 (.exit 4)))
 (.seq (.block 5 (.seq (.seqR [⟨.move, [.tmp 0], (some 67), none⟩,
 ⟨.move, [.tmp 5], (some 68), none⟩,
 ⟨.move, [.tmp 6], (some 69), none⟩,
 ⟨(.indexAddrS 1), [.tmp 68, .tmp 69], (some 70), none⟩,
 ⟨(.load false 1), [.tmp 70], (some 71), none⟩,
 ⟨(.indexAddrS 10), [.tmp 67, .tmp 71], (some 72), none⟩,
 ⟨(.load true 10), [.tmp 72], (some 73), none⟩,
 ⟨(.new [(.int .i64 0), (.int .i64 0), (.int .i64 0), (.bool false), (.int .i64 0), (.int .u64 0), (.slice none 0 0 false), (.int .i64 0), (.int .u64 0), (.slice none 0 0 false)]), [], (some 7), none⟩,
 ⟨(.store 10), [.tmp 7, .tmp 73], none, none⟩])
 (.seq (.seq (.seqR [⟨(.fieldAddr 2), [.tmp 7], (some 74), none⟩,
 ⟨(.load false 1), [.tmp 74], (some 75), none⟩,
 ⟨.move, [.tmp 6], (some 76), none⟩,
 ⟨(.bin .quo), [.tmp 76, .const (.int .i64 2)], (some 77), none⟩,
 ⟨(.bin .neq), [.tmp 75, .tmp 77], (some 78), none⟩,
 ⟨.move, [.tmp 78], (some 79), none⟩,
 ⟨(.fieldAddr 3), [.tmp 7], (some 80), some (79, false)⟩,
 ⟨(.load false 1), [.tmp 80], (some 81), some (79, false)⟩,
 ⟨.move, [.tmp 6], (some 82), some (79, false)⟩,
 ⟨(.bin .rem), [.tmp 82, .const (.int .i64 2)], (some 83), some (79, false)⟩,
 ⟨(.bin .eql), [.tmp 83, .const (.int .i64 1)], (some 84), some (79, false)⟩,
 ⟨(.eqBool true), [.tmp 81, .tmp 84], (some 85), some (79, false)⟩,
 ⟨.pick, [.tmp 79, .const (.bool true), .tmp 85], (some 86), none⟩])
 (.cond (.tmp 86) (.seq (.seqR [⟨.move, [.const (.bool false)], (some 2), none⟩])
 .ret)
 .skip))
 (.seq (.seq (.seqR [⟨(.fieldAddr 3), [.tmp 7], (some 87), none⟩,
 ⟨(.load false 1), [.tmp 87], (some 88), none⟩,
 ⟨.not, [.tmp 88], (some 89), none⟩,
 ⟨.move, [.tmp 89], (some 90), none⟩,
 ⟨(.fieldAddr 7), [.tmp 7], (some 91), some (90, true)⟩,
 ⟨(.load true 3), [.tmp 91], (some 92), some (90, true)⟩,
 ⟨(.build [(.int .i64 0), (.int .u64 0), (.slice none 0 0 false)] []), [], (some 93), some (90, true)⟩,
 ⟨(.callF 14), [.tmp 92, .tmp 93], (some 94), some (90, true)⟩,
 ⟨.not, [.tmp 94], (some 95), some (90, true)⟩,
 ⟨.pick, [.tmp 90, .tmp 95, .const (.bool false)], (some 96), none⟩])
 (.cond (.tmp 96) (.seq (.seqR [⟨.move, [.const (.bool false)], (some 2), none⟩])
 .ret)
 .skip))
 (.seq (.drawR [⟨⟨(.fieldAddr 3), [.tmp 7], (some 97), none⟩, false, false, 0, 0⟩,
 ⟨⟨(.load false 1), [.tmp 97], (some 98), none⟩, false, false, 0, 0⟩,
 ⟨⟨.move, [.tmp 98], (some 99), none⟩, false, false, 0, 0⟩,
 ⟨⟨(.fieldAddr 4), [.tmp 7], (some 100), some (99, true)⟩, false, false, 0, 0⟩,
 ⟨⟨(.load true 3), [.tmp 100], (some 101), some (99, true)⟩, false, false, 0, 0⟩,
 ⟨⟨.move, [.tmp 0], (some 102), some (99, true)⟩, false, false, 0, 0⟩,
 ⟨⟨.move, [.tmp 5], (some 103), some (99, true)⟩, false, false, 0, 0⟩,
 ⟨⟨.move, [.tmp 6], (some 104), some (99, true)⟩, false, false, 0, 0⟩,
 ⟨⟨(.bin .sub), [.tmp 104, .const (.int .i64 1)], (some 105), some (99, true)⟩, false, false, 0, 0⟩,
 ⟨⟨(.indexAddrS 1), [.tmp 103, .tmp 105], (some 106), some (99, true)⟩, false, false, 0, 0⟩,
 ⟨⟨(.load false 1), [.tmp 106], (some 107), some (99, true)⟩, false, false, 0, 0⟩,
 ⟨⟨(.indexAddrS 10), [.tmp 102, .tmp 107], (some 108), some (99, true)⟩, false, false, 0, 0⟩,
 ⟨⟨(.fieldAddr 4), [.tmp 108], (some 109), some (99, true)⟩, false, false, 0, 0⟩,
 ⟨⟨(.load true 3), [.tmp 109], (some 110), some (99, true)⟩, false, false, 0, 0⟩,
 ⟨⟨(.callF 15), [.tmp 101, .tmp 110], (some 111), some (99, true)⟩, true, false, 0, 1⟩,
 ⟨⟨.not, [.tmp 111], (some 112), some (99, true)⟩, false, false, 1, 1⟩,
 ⟨⟨.pick, [.tmp 99, .tmp 112, .const (.bool false)], (some 113), none⟩, false, false, 1, 1⟩])
 (.cond (.tmp 113) (.seq (.seqR [⟨.move, [.const (.bool false)], (some 2), none⟩])
 .ret)
 .skip))))))
 (.seqR [⟨.move, [.tmp 6], (some 65), none⟩,
 ⟨(.bin .add), [.tmp 65, .const (.int .i64 1)], (some 66), none⟩,
 ⟨.move, [.tmp 66], (some 6), none⟩]))))))))
 (.seqR [⟨.move, [.tmp 4], (some 56), none⟩,
 ⟨(.bin .add), [.tmp 56, .const (.int .i64 1)], (some 57), none⟩,
 ⟨.move, [.tmp 57], (some 4), none⟩]))))))
 (.seq (.seqR [⟨.move, [.const (.bool true)], (some 2), none⟩])
 .ret)))), [.tmp 2]⟩
theorem c8_ok : compFunc Try.prog Try.f8 = some c8 := by kernel_rfl
theorem c8_body : hasBody Try.prog 8 = true := hasBody_of Try.func8 (by kernel_rfl)
/-- coachyard/coachyardref15.SameSpans -/
def c9 : PFn := ⟨95, Tr.ofList (List.replicate 95 undefA), (.seq (.seqR [⟨.move, [.const (.bool false)], (some 4), none⟩])
 (.seq (.seq (.seqR [⟨.move, [.tmp 0], (some 6), none⟩,
 ⟨.lenS, [.tmp 6], (some 7), none⟩,
 ⟨.move, [.tmp 1], (some 8), none⟩,
 ⟨.lenS, [.tmp 8], (some 9), none⟩,
 ⟨(.bin .neq), [.tmp 7, .tmp 9], (some 10), none⟩])
 (.cond (.tmp 10) (.seq (.seqR [⟨.move, [.const (.bool false)], (some 4), none⟩])
 .ret)
 .skip))
 (.seq (.seq (.seqR [⟨.move, [.const (.int .i64 0)], (some 5), none⟩])
 (.block 0 (.loop (.seq (.seq (.seqR [⟨.move, [.tmp 5], (some 11), none⟩,
 ⟨.move, [.tmp 0], (some 12), none⟩,
 ⟨.lenS, [.tmp 12], (some 13), none⟩,
 ⟨(.bin .lss), [.tmp 11, .tmp 13], (some 14), none⟩])
 (.cond (.tmp 14) .skip
 (.exit 0)))
 (.seq (.block 1 (.seq (.drawR [⟨⟨.move, [.tmp 0], (some 17), none⟩, false, false, 0, 0⟩,
 ⟨⟨.move, [.tmp 5], (some 18), none⟩, false, false, 0, 0⟩,
 ⟨⟨(.indexAddrS 10), [.tmp 17, .tmp 18], (some 19), none⟩, false, false, 0, 0⟩,
 ⟨⟨(.fieldAddr 0), [.tmp 19], (some 20), none⟩, false, false, 0, 0⟩,
 ⟨⟨(.load false 1), [.tmp 20], (some 21), none⟩, false, false, 0, 0⟩,
 ⟨⟨.move, [.tmp 1], (some 22), none⟩, false, false, 0, 0⟩,
 ⟨⟨.move, [.tmp 5], (some 23), none⟩, false, false, 0, 0⟩,
 ⟨⟨(.indexAddrS 10), [.tmp 22, .tmp 23], (some 24), none⟩, false, false, 0, 0⟩,
 ⟨⟨(.fieldAddr 0), [.tmp 24], (some 25), none⟩, false, false, 0, 0⟩,
 ⟨⟨(.load false 1), [.tmp 25], (some 26), none⟩, false, false, 0, 0⟩,
 ⟨⟨(.bin .neq), [.tmp 21, .tmp 26], (some 27), none⟩, false, false, 0, 0⟩,
 ⟨⟨.move, [.tmp 27], (some 28), none⟩, false, false, 0, 0⟩,
 ⟨⟨.move, [.tmp 0], (some 29), some (28, false)⟩, false, false, 0, 0⟩,
 ⟨⟨.move, [.tmp 5], (some 30), some (28, false)⟩, false, false, 0, 0⟩,
 ⟨⟨(.indexAddrS 10), [.tmp 29, .tmp 30], (some 31), some (28, false)⟩, false, false, 0, 0⟩,
 ⟨⟨(.fieldAddr 1), [.tmp 31], (some 32), some (28, false)⟩, false, false, 0, 0⟩,
 ⟨⟨(.load false 1), [.tmp 32], (some 33), some (28, false)⟩, false, false, 0, 0⟩,
 ⟨⟨.move, [.tmp 1], (some 34), some (28, false)⟩, false, false, 0, 0⟩,
 ⟨⟨.move, [.tmp 5], (some 35), some (28, false)⟩, false, false, 0, 0⟩,
 ⟨⟨(.indexAddrS 10), [.tmp 34, .tmp 35], (some 36), some (28, false)⟩, false, false, 0, 0⟩,
 ⟨⟨(.fieldAddr 1), [.tmp 36], (some 37), some (28, false)⟩, false, false, 0, 0⟩,
 ⟨⟨(.load false 1), [.tmp 37], (some 38), some (28, false)⟩, false, false, 0, 0⟩,
 ⟨⟨(.bin .neq), [.tmp 33, .tmp 38], (some 39), some (28, false)⟩, false, false, 0, 0⟩,
 ⟨⟨.pick, [.tmp 28, .const (.bool true), .tmp 39], (some 40), none⟩, false, false, 0, 0⟩,
 ⟨⟨.move, [.tmp 40], (some 41), none⟩, false, false, 0, 0⟩,
 ⟨⟨.move, [.tmp 0], (some 42), some (41, false)⟩, false, false, 0, 0⟩,
 ⟨⟨.move, [.tmp 5], (some 43), some (41, false)⟩, false, false, 0, 0⟩,
 ⟨⟨(.indexAddrS 10), [.tmp 42, .tmp 43], (some 44), some (41, false)⟩, false, false, 0, 0⟩,
 ⟨⟨(.fieldAddr 2), [.tmp 44], (some 45), some (41, false)⟩, false, false, 0, 0⟩,
 ⟨⟨(.load false 1), [.tmp 45], (some 46), some (41, false)⟩, false, false, 0, 0⟩,
 ⟨⟨.move, [.tmp 1], (some 47), some (41, false)⟩, false, false, 0, 0⟩,
 ⟨⟨.move, [.tmp 5], (some 48), some (41, false)⟩, false, false, 0, 0⟩,
 ⟨⟨(.indexAddrS 10), [.tmp 47, .tmp 48], (some 49), some (41, false)⟩, false, false, 0, 0⟩,
 ⟨⟨(.fieldAddr 2), [.tmp 49], (some 50), some (41, false)⟩, false, false, 0, 0⟩,
 ⟨⟨(.load false 1), [.tmp 50], (some 51), some (41, false)⟩, false, false, 0, 0⟩,
 ⟨⟨(.bin .neq), [.tmp 46, .tmp 51], (some 52), some (41, false)⟩, false, false, 0, 0⟩,
 ⟨⟨.pick, [.tmp 41, .const (.bool true), .tmp 52], (some 53), none⟩, false, false, 0, 0⟩,
 ⟨⟨.move, [.tmp 53], (some 54), none⟩, false, false, 0, 0⟩,
 ⟨⟨.move, [.tmp 0], (some 55), some (54, false)⟩, false, false, 0, 0⟩,
 ⟨⟨.move, [.tmp 5], (some 56), some (54, false)⟩, false, false, 0, 0⟩,
 ⟨⟨(.indexAddrS 10), [.tmp 55, .tmp 56], (some 57), some (54, false)⟩, false, false, 0, 0⟩,
 ⟨⟨(.fieldAddr 3), [.tmp 57], (some 58), some (54, false)⟩, false, false, 0, 0⟩,
 ⟨⟨(.load false 1), [.tmp 58], (some 59), some (54, false)⟩, false, false, 0, 0⟩,
 ⟨⟨.move, [.tmp 1], (some 60), some (54, false)⟩, false, false, 0, 0⟩,
 ⟨⟨.move, [.tmp 5], (some 61), some (54, false)⟩, false, false, 0, 0⟩,
 ⟨⟨(.indexAddrS 10), [.tmp 60, .tmp 61], (some 62), some (54, false)⟩, false, false, 0, 0⟩,
 ⟨⟨(.fieldAddr 3), [.tmp 62], (some 63), some (54, false)⟩, false, false, 0, 0⟩,
 ⟨⟨(.load false 1), [.tmp 63], (some 64), some (54, false)⟩, false, false, 0, 0⟩,
 ⟨⟨(.bin .neq), [.tmp 59, .tmp 64], (some 65), some (54, false)⟩, false, false, 0, 0⟩,
 ⟨⟨.pick, [.tmp 54, .const (.bool true), .tmp 65], (some 66), none⟩, false, false, 0, 0⟩,
 ⟨⟨.move, [.tmp 66], (some 67), none⟩, false, false, 0, 0⟩,
 ⟨⟨.move, [.tmp 0], (some 68), some (67, false)⟩, false, false, 0, 0⟩,
 ⟨⟨.move, [.tmp 5], (some 69), some (67, false)⟩, false, false, 0, 0⟩,
 ⟨⟨(.indexAddrS 10), [.tmp 68, .tmp 69], (some 70), some (67, false)⟩, false, false, 0, 0⟩,
 ⟨⟨(.fieldAddr 4), [.tmp 70], (some 71), some (67, false)⟩, false, false, 0, 0⟩,
 ⟨⟨(.load true 3), [.tmp 71], (some 72), some (67, false)⟩, false, false, 0, 0⟩,
 ⟨⟨.move, [.tmp 1], (some 73), some (67, false)⟩, false, false, 0, 0⟩,
 ⟨⟨.move, [.tmp 5], (some 74), some (67, false)⟩, false, false, 0, 0⟩,
 ⟨⟨(.indexAddrS 10), [.tmp 73, .tmp 74], (some 75), some (67, false)⟩, false, false, 0, 0⟩,
 ⟨⟨(.fieldAddr 4), [.tmp 75], (some 76), some (67, false)⟩, false, false, 0, 0⟩,
 ⟨⟨(.load true 3), [.tmp 76], (some 77), some (67, false)⟩, false, false, 0, 0⟩,
 ⟨⟨(.callF 15), [.tmp 72, .tmp 77], (some 78), some (67, false)⟩, true, false, 0, 1⟩,
 ⟨⟨.not, [.tmp 78], (some 79), some (67, false)⟩, false, false, 1, 1⟩,
 ⟨⟨.pick, [.tmp 67, .const (.bool true), .tmp 79], (some 80), none⟩, false, false, 1, 1⟩,
 ⟨⟨.move, [.tmp 80], (some 81), none⟩, false, false, 1, 1⟩,
 ⟨⟨.move, [.tmp 0], (some 82), some (81, false)⟩, false, false, 1, 1⟩,
 ⟨⟨.move, [.tmp 5], (some 83), some (81, false)⟩, false, false, 1, 1⟩,
 ⟨⟨(.indexAddrS 10), [.tmp 82, .tmp 83], (some 84), some (81, false)⟩, false, false, 1, 1⟩,
 ⟨⟨(.fieldAddr 7), [.tmp 84], (some 85), some (81, false)⟩, false, false, 1, 1⟩,
 ⟨⟨(.load true 3), [.tmp 85], (some 86), some (81, false)⟩, false, false, 1, 1⟩,
 ⟨⟨.move, [.tmp 1], (some 87), some (81, false)⟩, false, false, 1, 1⟩,
 ⟨⟨.move, [.tmp 5], (some 88), some (81, false)⟩, false, false, 1, 1⟩,
 ⟨⟨(.indexAddrS 10), [.tmp 87, .tmp 88], (some 89), some (81, false)⟩, false, false, 1, 1⟩,
 ⟨⟨(.fieldAddr 7), [.tmp 89], (some 90), some (81, false)⟩, false, false, 1, 1⟩,
 ⟨⟨(.load true 3), [.tmp 90], (some 91), some (81, false)⟩, false, false, 1, 1⟩,
 ⟨⟨(.callF 14), [.tmp 86, .tmp 91], (some 92), some (81, false)⟩, true, false, 1, 2⟩,
 ⟨⟨.not, [.tmp 92], (some 93), some (81, false)⟩, false, false, 2, 2⟩,
 ⟨⟨.pick, [.tmp 81, .const (.bool true), .tmp 93], (some 94), none⟩, false, false, 2, 2⟩])
 (.cond (.tmp 94) (.seq (.seqR [⟨.move, [.const (.bool false)], (some 4), none⟩])
 .ret)
 .skip)))
 (.seqR [⟨.move, [.tmp 5], (some 15), none⟩,
 ⟨(.bin .add), [.tmp 15, .const (.int .i64 1)], (some 16), none⟩,
 ⟨.move, [.tmp 16], (some 5), none⟩]))))))
 (.seq (.seqR [⟨.move, [.const (.bool true)], (some 4), none⟩])
 .ret)))), [.tmp 4]⟩
theorem c9_ok : compFunc Try.prog Try.f9 = some c9 := by kernel_rfl
theorem c9_body : hasBody Try.prog 9 = true := hasBody_of Try.func9 (by kernel_rfl)
/-- coachyard/coachyardref15.Spans -/
def c10 : PFn := ⟨82, Tr.ofList (List.replicate 82 undefA), (.seq (.seqR [⟨.move, [.const (.slice none 0 0 false)], (some 2), none⟩])
 (.seq (.seqR [⟨(.sliceLit 0 [] []), [], (some 7), none⟩,
 ⟨.move, [.tmp 7], (some 3), none⟩])
 (.seq (.seq (.seqR [⟨.move, [.const (.int .i64 0)], (some 4), none⟩])
 (.block 0 (.loop (.seq (.seq (.seqR [⟨.move, [.tmp 4], (some 8), none⟩,
 ⟨.move, [.tmp 0], (some 9), none⟩,
 ⟨.lenS, [.tmp 9], (some 10), none⟩,
 ⟨(.bin .lss), [.tmp 8, .tmp 10], (some 11), none⟩])
 (.cond (.tmp 11) .skip
 (.exit 0)))
 (.seq (.block 1 (.seq (.seq (.seqR [⟨.move, [.tmp 0], (some 14), none⟩,
 ⟨.move, [.tmp 4], (some 15), none⟩,
 ⟨(.indexAddrS 10), [.tmp 14, .tmp 15], (some 16), none⟩,
 ⟨(.fieldAddr 3), [.tmp 16], (some 17), none⟩,
 ⟨(.load false 1), [.tmp 17], (some 18), none⟩])
 (.cond (.tmp 18) (.exit 1)
 .skip))
 (.seq (.drawR [⟨⟨.move, [.tmp 0], (some 19), none⟩, false, false, 0, 1⟩,
 ⟨⟨.move, [.tmp 4], (some 20), none⟩, false, false, 0, 1⟩,
 ⟨⟨(.indexAddrS 10), [.tmp 19, .tmp 20], (some 21), none⟩, false, false, 0, 1⟩,
 ⟨⟨(.fieldAddr 1), [.tmp 21], (some 22), none⟩, false, false, 0, 1⟩,
 ⟨⟨(.load false 1), [.tmp 22], (some 23), none⟩, false, false, 0, 1⟩,
 ⟨⟨.move, [.tmp 0], (some 24), none⟩, false, false, 0, 1⟩,
 ⟨⟨.move, [.tmp 4], (some 25), none⟩, false, false, 0, 1⟩,
 ⟨⟨(.indexAddrS 10), [.tmp 24, .tmp 25], (some 26), none⟩, false, false, 0, 1⟩,
 ⟨⟨(.fieldAddr 2), [.tmp 26], (some 27), none⟩, false, false, 0, 1⟩,
 ⟨⟨(.load false 1), [.tmp 27], (some 28), none⟩, false, false, 0, 1⟩,
 ⟨⟨.move, [.tmp 4], (some 29), none⟩, false, false, 0, 1⟩,
 ⟨⟨.move, [.tmp 0], (some 30), none⟩, false, false, 0, 1⟩,
 ⟨⟨.move, [.tmp 4], (some 31), none⟩, false, false, 0, 1⟩,
 ⟨⟨(.indexAddrS 10), [.tmp 30, .tmp 31], (some 32), none⟩, false, false, 0, 1⟩,
 ⟨⟨(.fieldAddr 4), [.tmp 32], (some 33), none⟩, false, false, 0, 1⟩,
 ⟨⟨(.load true 3), [.tmp 33], (some 34), none⟩, false, false, 0, 1⟩,
 ⟨⟨(.build [(.int .i64 0), (.int .i64 0), (.int .i64 0), (.int .i64 0), (.int .i64 0), (.int .u64 0), (.slice none 0 0 false), (.int .i64 0), (.int .u64 0), (.slice none 0 0 false)] [(0, 1), (1, 1), (2, 1), (3, 1), (4, 3)]), [.tmp 23, .tmp 28, .tmp 29, .const (.int .i64 (-1)), .tmp 34], (some 35), none⟩, false, false, 0, 1⟩,
 ⟨⟨(.new [(.int .i64 0), (.int .i64 0), (.int .i64 0), (.int .i64 0), (.int .i64 0), (.int .u64 0), (.slice none 0 0 false), (.int .i64 0), (.int .u64 0), (.slice none 0 0 false)]), [], (some 5), none⟩, true, false, 0, 1⟩,
 ⟨⟨(.store 10), [.tmp 5, .tmp 35], none, none⟩, true, false, 1, 2⟩])
 (.seq (.seq (.seqR [⟨.move, [.tmp 4], (some 36), none⟩,
 ⟨(.bin .add), [.tmp 36, .const (.int .i64 1)], (some 37), none⟩,
 ⟨.move, [.tmp 37], (some 6), none⟩])
 (.block 2 (.loop (.seq (.seq (.seqR [⟨.move, [.tmp 6], (some 38), none⟩,
 ⟨.move, [.tmp 0], (some 39), none⟩,
 ⟨.lenS, [.tmp 39], (some 40), none⟩,
 ⟨(.bin .lss), [.tmp 38, .tmp 40], (some 41), none⟩])
 (.cond (.tmp 41) .skip
 (.exit 2)))
 (.seq (.block 3 (.seq (.drawR [⟨⟨.move, [.tmp 0], (some 44), none⟩, false, false, 0, 0⟩,
 ⟨⟨.move, [.tmp 6], (some 45), none⟩, false, false, 0, 0⟩,
 ⟨⟨(.indexAddrS 10), [.tmp 44, .tmp 45], (some 46), none⟩, false, false, 0, 0⟩,
 ⟨⟨(.fieldAddr 1), [.tmp 46], (some 47), none⟩, false, false, 0, 0⟩,
 ⟨⟨(.load false 1), [.tmp 47], (some 48), none⟩, false, false, 0, 0⟩,
 ⟨⟨(.fieldAddr 0), [.tmp 5], (some 49), none⟩, false, false, 0, 0⟩,
 ⟨⟨(.load false 1), [.tmp 49], (some 50), none⟩, false, false, 0, 0⟩,
 ⟨⟨(.bin .eql), [.tmp 48, .tmp 50], (some 51), none⟩, false, false, 0, 0⟩,
 ⟨⟨.move, [.tmp 51], (some 52), none⟩, false, false, 0, 0⟩,
 ⟨⟨.move, [.tmp 0], (some 53), some (52, true)⟩, false, false, 0, 0⟩,
 ⟨⟨.move, [.tmp 6], (some 54), some (52, true)⟩, false, false, 0, 0⟩,
 ⟨⟨(.indexAddrS 10), [.tmp 53, .tmp 54], (some 55), some (52, true)⟩, false, false, 0, 0⟩,
 ⟨⟨(.fieldAddr 3), [.tmp 55], (some 56), some (52, true)⟩, false, false, 0, 0⟩,
 ⟨⟨(.load false 1), [.tmp 56], (some 57), some (52, true)⟩, false, false, 0, 0⟩,
 ⟨⟨.pick, [.tmp 52, .tmp 57, .const (.bool false)], (some 58), none⟩, false, false, 0, 0⟩,
 ⟨⟨.move, [.tmp 58], (some 59), none⟩, false, false, 0, 0⟩,
 ⟨⟨.move, [.tmp 0], (some 60), some (59, true)⟩, false, false, 0, 0⟩,
 ⟨⟨.move, [.tmp 6], (some 61), some (59, true)⟩, false, false, 0, 0⟩,
 ⟨⟨(.indexAddrS 10), [.tmp 60, .tmp 61], (some 62), some (59, true)⟩, false, false, 0, 0⟩,
 ⟨⟨(.fieldAddr 2), [.tmp 62], (some 63), some (59, true)⟩, false, false, 0, 0⟩,
 ⟨⟨(.load false 1), [.tmp 63], (some 64), some (59, true)⟩, false, false, 0, 0⟩,
 ⟨⟨(.fieldAddr 1), [.tmp 5], (some 65), some (59, true)⟩, false, false, 0, 0⟩,
 ⟨⟨(.load false 1), [.tmp 65], (some 66), some (59, true)⟩, false, false, 0, 0⟩,
 ⟨⟨(.bin .eql), [.tmp 64, .tmp 66], (some 67), some (59, true)⟩, false, false, 0, 0⟩,
 ⟨⟨.pick, [.tmp 59, .tmp 67, .const (.bool false)], (some 68), none⟩, false, false, 0, 0⟩])
 (.cond (.tmp 68) (.seq (.seqR [⟨.move, [.tmp 6], (some 69), none⟩,
 ⟨(.fieldAddr 3), [.tmp 5], (some 70), none⟩,
 ⟨(.store 1), [.tmp 70, .tmp 69], none, none⟩])
 (.seqR [⟨.move, [.tmp 0], (some 71), none⟩,
 ⟨.move, [.tmp 6], (some 72), none⟩,
 ⟨(.indexAddrS 10), [.tmp 71, .tmp 72], (some 73), none⟩,
 ⟨(.fieldAddr 7), [.tmp 73], (some 74), none⟩,
 ⟨(.load true 3), [.tmp 74], (some 75), none⟩,
 ⟨(.fieldAddr 7), [.tmp 5], (some 76), none⟩,
 ⟨(.store 3), [.tmp 76, .tmp 75], none, none⟩]))
 .skip)))
 (.seqR [⟨.move, [.tmp 6], (some 42), none⟩,
 ⟨(.bin .add), [.tmp 42, .const (.int .i64 1)], (some 43), none⟩,
 ⟨.move, [.tmp 43], (some 6), none⟩]))))))
 (.seqR [⟨.move, [.tmp 3], (some 77), none⟩,
 ⟨(.load true 10), [.tmp 5], (some 78), none⟩,
 ⟨(.sliceLit 1 [(.int .i64 0), (.int .i64 0), (.int .i64 0), (.int .i64 0), (.int .i64 0), (.int .u64 0), (.slice none 0 0 false), (.int .i64 0), (.int .u64 0), (.slice none 0 0 false)] [(0, 10)]), [.tmp 78], (some 79), none⟩,
 ⟨(.append 10 112), [.tmp 77, .tmp 79], (some 80), none⟩,
 ⟨.move, [.tmp 80], (some 3), none⟩])))))
 (.seqR [⟨.move, [.tmp 4], (some 12), none⟩,
 ⟨(.bin .add), [.tmp 12, .const (.int .i64 1)], (some 13), none⟩,
 ⟨.move, [.tmp 13], (some 4), none⟩]))))))
 (.seq (.seqR [⟨.move, [.tmp 3], (some 81), none⟩,
 ⟨.move, [.tmp 81], (some 2), none⟩])
 .ret)))), [.tmp 2]⟩
theorem c10_ok : compFunc Try.prog Try.f10 = some c10 := by kernel_rfl
theorem c10_body : hasBody Try.prog 10 = true := hasBody_of Try.func10 (by kernel_rfl)
/-- coachyard/diary.Most -/
def c11 : PFn := ⟨66, Tr.ofList (List.replicate 66 undefA), (.seq (.seqR [⟨.move, [.const (.int .i64 0)], (some 2), none⟩])
 (.seq (.seqR [⟨.move, [.const (.slice none 0 0 false)], (some 3), none⟩])
 (.seq (.seq (.seqR [⟨.move, [.tmp 0], (some 10), none⟩,
 ⟨.lenS, [.tmp 10], (some 11), none⟩,
 ⟨.move, [.const (.int .i64 0)], (some 12), none⟩])
 (.block 0 (.loop (.seq (.seqR [⟨(.bin .lss), [.tmp 12, .tmp 11], (some 13), none⟩])
 (.seq (.cond (.tmp 13) .skip
 (.exit 0))
 (.seq (.block 1 (.seq (.seqR [⟨(.indexAddrS 10), [.tmp 10, .tmp 12], (some 14), none⟩,
 ⟨(.load true 10), [.tmp 14], (some 15), none⟩,
 ⟨(.new [(.int .i64 0), (.int .i64 0), (.int .i64 0), (.int .i64 0), (.int .i64 0), (.int .u64 0), (.slice none 0 0 false), (.int .i64 0), (.int .u64 0), (.slice none 0 0 false)]), [], (some 5), none⟩,
 ⟨(.store 10), [.tmp 5, .tmp 15], none, none⟩])
 (.seq (.seq (.seqR [⟨(.fieldAddr 2), [.tmp 5], (some 16), none⟩,
 ⟨(.load false 1), [.tmp 16], (some 17), none⟩,
 ⟨(.bin .lss), [.tmp 17, .const (.int .i64 0)], (some 18), none⟩,
 ⟨.move, [.tmp 18], (some 19), none⟩,
 ⟨(.fieldAddr 3), [.tmp 5], (some 20), some (19, false)⟩,
 ⟨(.load false 1), [.tmp 20], (some 21), some (19, false)⟩,
 ⟨(.bin .geq), [.tmp 21, .const (.int .i64 0)], (some 22), some (19, false)⟩,
 ⟨.move, [.tmp 22], (some 23), some (19, false)⟩,
 ⟨(.fieldAddr 3), [.tmp 5], (some 24), some (23, true)⟩,
 ⟨(.load false 1), [.tmp 24], (some 25), some (23, true)⟩,
 ⟨(.fieldAddr 2), [.tmp 5], (some 26), some (23, true)⟩,
 ⟨(.load false 1), [.tmp 26], (some 27), some (23, true)⟩,
 ⟨(.bin .lss), [.tmp 25, .tmp 27], (some 28), some (23, true)⟩,
 ⟨.pick, [.tmp 23, .tmp 28, .const (.bool false)], (some 29), some (19, false)⟩,
 ⟨.pick, [.tmp 19, .const (.bool true), .tmp 29], (some 30), none⟩])
 (.cond (.tmp 30) (.exit 1)
 .skip))
 (.seq (.seqR [⟨.move, [.tmp 3], (some 31), none⟩,
 ⟨(.fieldAddr 2), [.tmp 5], (some 32), none⟩,
 ⟨(.load false 1), [.tmp 32], (some 33), none⟩,
 ⟨(.build [(.int .i64 0), (.bool false)] [(0, 1), (1, 1)]), [.tmp 33, .const (.bool false)], (some 34), none⟩,
 ⟨(.sliceLit 1 [(.int .i64 0), (.bool false)] [(0, 2)]), [.tmp 34], (some 35), none⟩,
 ⟨(.append 2 16), [.tmp 31, .tmp 35], (some 36), none⟩,
 ⟨.move, [.tmp 36], (some 3), none⟩])
 (.seq (.seqR [⟨(.fieldAddr 3), [.tmp 5], (some 37), none⟩,
 ⟨(.load false 1), [.tmp 37], (some 38), none⟩,
 ⟨(.bin .geq), [.tmp 38, .const (.int .i64 0)], (some 39), none⟩])
 (.cond (.tmp 39) (.seqR [⟨.move, [.tmp 3], (some 40), none⟩,
 ⟨(.fieldAddr 3), [.tmp 5], (some 41), none⟩,
 ⟨(.load false 1), [.tmp 41], (some 42), none⟩,
 ⟨(.build [(.int .i64 0), (.bool false)] [(0, 1), (1, 1)]), [.tmp 42, .const (.bool true)], (some 43), none⟩,
 ⟨(.sliceLit 1 [(.int .i64 0), (.bool false)] [(0, 2)]), [.tmp 43], (some 44), none⟩,
 ⟨(.append 2 16), [.tmp 40, .tmp 44], (some 45), none⟩,
 ⟨.move, [.tmp 45], (some 3), none⟩])
 .skip))))))
 (.seqR [⟨(.bin .add), [.tmp 12, .const (.int .i64 1)], (some 46), none⟩,
 ⟨.move, [.tmp 46], (some 12), none⟩])))))))
 (.seq (.seqR [⟨.move, [.tmp 3], (some 47), none⟩,
 ⟨(.callF 16), [.tmp 47, .const (.func (.func 17) [] [])], (some 48), none⟩])
 (.seq (.seqR [⟨.move, [.const (.int .i64 0)], (some 6), none⟩,
 ⟨.move, [.const (.int .i64 0)], (some 7), none⟩])
 (.seq (.seq (.seqR [⟨.move, [.tmp 3], (some 49), none⟩,
 ⟨.lenS, [.tmp 49], (some 50), none⟩,
 ⟨.move, [.const (.int .i64 0)], (some 51), none⟩])
 (.block 2 (.loop (.seq (.seqR [⟨(.bin .lss), [.tmp 51, .tmp 50], (some 52), none⟩])
 (.seq (.cond (.tmp 52) .skip
 (.exit 2))
 (.seq (.block 3 (.seq (.seqR [⟨(.indexAddrS 2), [.tmp 49, .tmp 51], (some 53), none⟩,
 ⟨(.load true 2), [.tmp 53], (some 54), none⟩,
 ⟨(.new [(.int .i64 0), (.bool false)]), [], (some 9), none⟩,
 ⟨(.store 2), [.tmp 9, .tmp 54], none, none⟩])
 (.seq (.seq (.seqR [⟨(.fieldAddr 1), [.tmp 9], (some 55), none⟩,
 ⟨(.load false 1), [.tmp 55], (some 56), none⟩])
 (.cond (.tmp 56) (.seq (.seqR [⟨.move, [.tmp 6], (some 57), none⟩,
 ⟨(.bin .sub), [.tmp 57, .const (.int .i64 1)], (some 58), none⟩,
 ⟨.move, [.tmp 58], (some 6), none⟩])
 (.exit 3))
 .skip))
 (.seq (.seqR [⟨.move, [.tmp 6], (some 59), none⟩,
 ⟨(.bin .add), [.tmp 59, .const (.int .i64 1)], (some 60), none⟩,
 ⟨.move, [.tmp 60], (some 6), none⟩])
 (.seqR [⟨.move, [.tmp 7], (some 61), none⟩,
 ⟨.move, [.tmp 6], (some 62), none⟩,
 ⟨(.minmax true), [.tmp 61, .tmp 62], (some 63), none⟩,
 ⟨.move, [.tmp 63], (some 7), none⟩])))))
 (.seqR [⟨(.bin .add), [.tmp 51, .const (.int .i64 1)], (some 64), none⟩,
 ⟨.move, [.tmp 64], (some 51), none⟩])))))))
 (.seq (.seqR [⟨.move, [.tmp 7], (some 65), none⟩,
 ⟨.move, [.tmp 65], (some 2), none⟩])
 .ret))))))), [.tmp 2]⟩
theorem c11_ok : compFunc Try.prog Try.f11 = some c11 := by kernel_rfl
theorem c11_body : hasBody Try.prog 11 = true := hasBody_of Try.func11 (by kernel_rfl)
/-- (*coachyard/diary.reader).take -/
def c12 : PFn := ⟨150, Tr.ofList (List.replicate 150 undefA), (.seq (.seqR [⟨.box, [.tmp 2], (some 5), none⟩,
 ⟨.move, [.const (.bool false)], (some 6), none⟩])
 (.seq (.seq (.drawR [⟨⟨(.fieldAddr 0), [.tmp 5], (some 8), none⟩, false, false, 0, 0⟩,
 ⟨⟨(.load false 1), [.tmp 8], (some 9), none⟩, false, false, 0, 0⟩,
 ⟨⟨.move, [.tmp 0], (some 10), none⟩, false, false, 0, 0⟩,
 ⟨⟨.nilCheck, [.tmp 10], (some 11), none⟩, false, false, 0, 0⟩,
 ⟨⟨(.fieldAddr 0), [.tmp 11], (some 12), none⟩, false, false, 0, 0⟩,
 ⟨⟨(.load false 1), [.tmp 12], (some 13), none⟩, false, false, 0, 0⟩,
 ⟨⟨(.bin .lss), [.tmp 9, .tmp 13], (some 14), none⟩, false, false, 0, 0⟩,
 ⟨⟨.move, [.tmp 14], (some 15), none⟩, false, false, 0, 0⟩,
 ⟨⟨(.fieldAddr 1), [.tmp 5], (some 16), some (15, false)⟩, false, false, 0, 0⟩,
 ⟨⟨(.load false 1), [.tmp 16], (some 17), some (15, false)⟩, false, false, 0, 0⟩,
 ⟨⟨(.bin .lss), [.tmp 17, .const (.int .i64 0)], (some 18), some (15, false)⟩, false, false, 0, 0⟩,
 ⟨⟨.pick, [.tmp 15, .const (.bool true), .tmp 18], (some 19), none⟩, false, false, 0, 0⟩,
 ⟨⟨.move, [.tmp 19], (some 20), none⟩, false, false, 0, 0⟩,
 ⟨⟨(.fieldAddr 1), [.tmp 5], (some 21), some (20, false)⟩, false, false, 0, 0⟩,
 ⟨⟨(.load false 1), [.tmp 21], (some 22), some (20, false)⟩, false, false, 0, 0⟩,
 ⟨⟨(.bin .geq), [.tmp 22, .const (.int .i64 16)], (some 23), some (20, false)⟩, false, false, 0, 0⟩,
 ⟨⟨.pick, [.tmp 20, .const (.bool true), .tmp 23], (some 24), none⟩, false, false, 0, 0⟩,
 ⟨⟨.move, [.tmp 24], (some 25), none⟩, false, false, 0, 0⟩,
 ⟨⟨(.fieldAddr 2), [.tmp 5], (some 26), some (25, false)⟩, false, false, 0, 0⟩,
 ⟨⟨(.load false 1), [.tmp 26], (some 27), some (25, false)⟩, false, false, 0, 0⟩,
 ⟨⟨.move, [.tmp 0], (some 28), some (25, false)⟩, false, false, 0, 0⟩,
 ⟨⟨(.fieldAddr 1), [.tmp 5], (some 29), some (25, false)⟩, false, false, 0, 0⟩,
 ⟨⟨(.load false 1), [.tmp 29], (some 30), some (25, false)⟩, false, false, 0, 0⟩,
 ⟨⟨.nilCheck, [.tmp 28], (some 31), some (25, false)⟩, false, false, 0, 0⟩,
 ⟨⟨(.fieldAddr 1), [.tmp 31], (some 32), some (25, false)⟩, false, false, 0, 0⟩,
 ⟨⟨(.indexAddrA 16 1), [.tmp 32, .tmp 30], (some 33), some (25, false)⟩, false, false, 0, 0⟩,
 ⟨⟨(.load false 1), [.tmp 33], (some 34), some (25, false)⟩, false, false, 0, 0⟩,
 ⟨⟨(.bin .neq), [.tmp 27, .tmp 34], (some 35), some (25, false)⟩, false, false, 0, 0⟩,
 ⟨⟨.pick, [.tmp 25, .const (.bool true), .tmp 35], (some 36), none⟩, false, false, 0, 0⟩])
 (.cond (.tmp 36) (.seq (.seqR [⟨.move, [.const (.bool false)], (some 6), none⟩])
 .ret)
 .skip))
 (.seq (.seqR [⟨.move, [.tmp 0], (some 37), none⟩,
 ⟨(.fieldAddr 0), [.tmp 5], (some 38), none⟩,
 ⟨(.load false 1), [.tmp 38], (some 39), none⟩,
 ⟨.nilCheck, [.tmp 37], (some 40), none⟩,
 ⟨(.fieldAddr 0), [.tmp 40], (some 41), none⟩,
 ⟨(.store 1), [.tmp 41, .tmp 39], none, none⟩])
 (.seq (.drawR [⟨⟨.move, [.tmp 0], (some 42), none⟩, false, false, 0, 0⟩,
 ⟨⟨(.fieldAddr 1), [.tmp 5], (some 43), none⟩, false, false, 0, 0⟩,
 ⟨⟨(.load false 1), [.tmp 43], (some 44), none⟩, false, false, 0, 0⟩,
 ⟨⟨.nilCheck, [.tmp 42], (some 45), none⟩, false, false, 0, 0⟩,
 ⟨⟨(.fieldAddr 17), [.tmp 45], (some 46), none⟩, false, false, 0, 0⟩,
 ⟨⟨(.indexAddrA 16 1), [.tmp 46, .tmp 44], (some 47), none⟩, false, false, 0, 0⟩,
 ⟨⟨(.load false 1), [.tmp 47], (some 48), none⟩, false, false, 0, 0⟩,
 ⟨⟨.move, [.tmp 48], (some 7), none⟩, false, false, 0, 0⟩])
 (.seq (.block 0 (.seq (.seqR [⟨(.fieldAddr 3), [.tmp 5], (some 50), none⟩,
 ⟨(.load false 1), [.tmp 50], (some 51), none⟩,
 ⟨.not, [.tmp 51], (some 52), none⟩,
 ⟨.move, [.tmp 52], (some 53), none⟩,
 ⟨.move, [.tmp 7], (some 54), some (53, true)⟩,
 ⟨(.bin .geq), [.tmp 54, .const (.int .i64 0)], (some 55), some (53, true)⟩,
 ⟨.move, [.tmp 55], (some 56), some (53, true)⟩,
 ⟨(.fieldAddr 7), [.tmp 5], (some 57), some (56, false)⟩,
 ⟨(.load true 3), [.tmp 57], (some 58), some (56, false)⟩,
 ⟨(.callF 19), [.tmp 58], (some 59), some (56, false)⟩,
 ⟨.not, [.tmp 59], (some 60), some (56, false)⟩,
 ⟨.pick, [.tmp 56, .const (.bool true), .tmp 60], (some 61), some (53, true)⟩,
 ⟨.pick, [.tmp 53, .tmp 61, .const (.bool false)], (some 62), none⟩,
 ⟨.move, [.tmp 62], (some 49), none⟩])
 (.cond (.tmp 49) (.seq (.seqR [⟨.move, [.const (.bool false)], (some 6), none⟩])
 .ret)
 (.seq (.seqR [⟨(.fieldAddr 3), [.tmp 5], (some 64), none⟩,
 ⟨(.load false 1), [.tmp 64], (some 65), none⟩,
 ⟨.not, [.tmp 65], (some 66), none⟩,
 ⟨.move, [.tmp 66], (some 63), none⟩])
 (.cond (.tmp 63) (.seq (.drawR [⟨⟨.move, [.tmp 0], (some 67), none⟩, false, false, 0, 0⟩,
 ⟨⟨(.fieldAddr 1), [.tmp 5], (some 68), none⟩, false, false, 0, 0⟩,
 ⟨⟨(.load false 1), [.tmp 68], (some 69), none⟩, false, false, 0, 0⟩,
 ⟨⟨.move, [.tmp 0], (some 70), none⟩, false, false, 0, 0⟩,
 ⟨⟨.nilCheck, [.tmp 70], (some 71), none⟩, false, false, 0, 0⟩,
 ⟨⟨(.fieldAddr 33), [.tmp 71], (some 72), none⟩, false, false, 0, 0⟩,
 ⟨⟨(.load false 1), [.tmp 72], (some 73), none⟩, false, false, 0, 0⟩,
 ⟨⟨.lenS, [.tmp 73], (some 74), none⟩, false, false, 0, 0⟩,
 ⟨⟨.nilCheck, [.tmp 67], (some 75), none⟩, false, false, 0, 0⟩,
 ⟨⟨(.fieldAddr 17), [.tmp 75], (some 76), none⟩, false, false, 0, 0⟩,
 ⟨⟨(.indexAddrA 16 1), [.tmp 76, .tmp 69], (some 77), none⟩, false, false, 0, 0⟩,
 ⟨⟨(.store 1), [.tmp 77, .tmp 74], none, none⟩, true, false, 0, 1⟩])
 (.seq (.drawR [⟨⟨.move, [.tmp 0], (some 78), none⟩, false, false, 0, 3⟩,
 ⟨⟨.move, [.tmp 0], (some 79), none⟩, false, false, 0, 2⟩,
 ⟨⟨.nilCheck, [.tmp 79], (some 80), none⟩, false, false, 0, 2⟩,
 ⟨⟨(.fieldAddr 33), [.tmp 80], (some 81), none⟩, false, false, 0, 2⟩,
 ⟨⟨(.load false 1), [.tmp 81], (some 82), none⟩, false, false, 0, 2⟩,
 ⟨⟨(.fieldAddr 1), [.tmp 5], (some 83), none⟩, false, false, 0, 0⟩,
 ⟨⟨(.load false 1), [.tmp 83], (some 84), none⟩, false, false, 0, 0⟩,
 ⟨⟨(.fieldAddr 2), [.tmp 5], (some 85), none⟩, false, false, 0, 0⟩,
 ⟨⟨(.load false 1), [.tmp 85], (some 86), none⟩, false, false, 0, 0⟩,
 ⟨⟨.move, [.tmp 1], (some 87), none⟩, false, false, 0, 0⟩,
 ⟨⟨(.fieldAddr 4), [.tmp 5], (some 88), none⟩, false, false, 0, 0⟩,
 ⟨⟨(.load true 3), [.tmp 88], (some 89), none⟩, false, false, 0, 0⟩,
 ⟨⟨(.build [(.int .i64 0), (.int .i64 0), (.int .i64 0), (.int .i64 0), (.int .i64 0), (.int .u64 0), (.slice none 0 0 false), (.int .i64 0), (.int .u64 0), (.slice none 0 0 false)] [(0, 1), (1, 1), (2, 1), (3, 1), (4, 3)]), [.tmp 84, .tmp 86, .tmp 87, .const (.int .i64 (-1)), .tmp 89], (some 90), none⟩, false, false, 0, 0⟩,
 ⟨⟨(.callF 20), [.tmp 90], (some 91), none⟩, true, false, 0, 1⟩,
 ⟨⟨(.sliceLit 1 [(.int .i64 0), (.int .i64 0), (.int .i64 0), (.int .i64 0), (.int .i64 0), (.int .u64 0), (.slice none 0 0 false), (.int .i64 0), (.int .u64 0), (.slice none 0 0 false)] [(0, 10)]), [.tmp 91], (some 92), none⟩, true, false, 1, 2⟩,
 ⟨⟨(.append 10 112), [.tmp 82, .tmp 92], (some 93), none⟩, true, false, 2, 3⟩,
 ⟨⟨.nilCheck, [.tmp 78], (some 94), none⟩, false, false, 3, 3⟩,
 ⟨⟨(.fieldAddr 33), [.tmp 94], (some 95), none⟩, false, false, 3, 3⟩,
 ⟨⟨(.store 1), [.tmp 95, .tmp 93], none, none⟩, true, false, 3, 4⟩])
 (.seq (.seqR [⟨.move, [.const (.bool true)], (some 6), none⟩])
 .ret)))
 (.seq (.drawR [⟨⟨.move, [.tmp 7], (some 97), none⟩, false, false, 0, 0⟩,
 ⟨⟨(.bin .lss), [.tmp 97, .const (.int .i64 0)], (some 98), none⟩, false, false, 0, 0⟩,
 ⟨⟨.move, [.tmp 98], (some 99), none⟩, false, false, 0, 0⟩,
 ⟨⟨.move, [.tmp 0], (some 100), some (99, false)⟩, false, false, 0, 0⟩,
 ⟨⟨.nilCheck, [.tmp 100], (some 101), some (99, false)⟩, false, false, 0, 0⟩,
 ⟨⟨(.fieldAddr 33), [.tmp 101], (some 102), some (99, false)⟩, false, false, 0, 0⟩,
 ⟨⟨(.load false 1), [.tmp 102], (some 103), some (99, false)⟩, false, false, 0, 0⟩,
 ⟨⟨.move, [.tmp 7], (some 104), some (99, false)⟩, false, false, 0, 0⟩,
 ⟨⟨(.indexAddrS 10), [.tmp 103, .tmp 104], (some 105), some (99, false)⟩, false, false, 0, 0⟩,
 ⟨⟨(.fieldAddr 4), [.tmp 105], (some 106), some (99, false)⟩, false, false, 0, 0⟩,
 ⟨⟨(.load true 3), [.tmp 106], (some 107), some (99, false)⟩, false, false, 0, 0⟩,
 ⟨⟨(.fieldAddr 4), [.tmp 5], (some 108), some (99, false)⟩, false, false, 0, 0⟩,
 ⟨⟨(.load true 3), [.tmp 108], (some 109), some (99, false)⟩, false, false, 0, 0⟩,
 ⟨⟨(.callF 21), [.tmp 107, .tmp 109], (some 110), some (99, false)⟩, true, false, 0, 1⟩,
 ⟨⟨.not, [.tmp 110], (some 111), some (99, false)⟩, false, false, 1, 1⟩,
 ⟨⟨.pick, [.tmp 99, .const (.bool true), .tmp 111], (some 112), none⟩, false, false, 1, 1⟩,
 ⟨⟨.move, [.tmp 112], (some 96), none⟩, false, false, 1, 1⟩])
 (.cond (.tmp 96) (.seq (.seqR [⟨.move, [.const (.bool false)], (some 6), none⟩])
 .ret)
 .skip)))))))
 (.seq (.seqR [⟨.move, [.tmp 0], (some 113), none⟩,
 ⟨.nilCheck, [.tmp 113], (some 114), none⟩,
 ⟨(.fieldAddr 33), [.tmp 114], (some 115), none⟩,
 ⟨(.load false 1), [.tmp 115], (some 116), none⟩,
 ⟨.move, [.tmp 7], (some 117), none⟩,
 ⟨.move, [.tmp 1], (some 118), none⟩,
 ⟨(.indexAddrS 10), [.tmp 116, .tmp 117], (some 119), none⟩,
 ⟨(.fieldAddr 3), [.tmp 119], (some 120), none⟩,
 ⟨(.store 1), [.tmp 120, .tmp 118], none, none⟩])
 (.seq (.drawR [⟨⟨.move, [.tmp 0], (some 121), none⟩, false, false, 0, 1⟩,
 ⟨⟨.nilCheck, [.tmp 121], (some 122), none⟩, false, false, 0, 1⟩,
 ⟨⟨(.fieldAddr 33), [.tmp 122], (some 123), none⟩, false, false, 0, 1⟩,
 ⟨⟨(.load false 1), [.tmp 123], (some 124), none⟩, false, false, 0, 1⟩,
 ⟨⟨.move, [.tmp 7], (some 125), none⟩, false, false, 0, 1⟩,
 ⟨⟨(.fieldAddr 7), [.tmp 5], (some 126), none⟩, false, false, 0, 0⟩,
 ⟨⟨(.load true 3), [.tmp 126], (some 127), none⟩, false, false, 0, 0⟩,
 ⟨⟨(.build [(.int .i64 0), (.int .i64 0), (.int .i64 0), (.int .i64 0), (.int .i64 0), (.int .u64 0), (.slice none 0 0 false), (.int .i64 0), (.int .u64 0), (.slice none 0 0 false)] [(7, 3)]), [.tmp 127], (some 128), none⟩, false, false, 0, 0⟩,
 ⟨⟨(.callF 20), [.tmp 128], (some 129), none⟩, true, false, 0, 1⟩,
 ⟨⟨(.field 7 3 true), [.tmp 129], (some 130), none⟩, false, false, 1, 1⟩,
 ⟨⟨(.indexAddrS 10), [.tmp 124, .tmp 125], (some 131), none⟩, false, false, 1, 1⟩,
 ⟨⟨(.fieldAddr 7), [.tmp 131], (some 132), none⟩, false, false, 1, 1⟩,
 ⟨⟨(.store 3), [.tmp 132, .tmp 130], none, none⟩, true, false, 1, 2⟩])
 (.seq (.drawR [⟨⟨.move, [.tmp 0], (some 133), none⟩, false, false, 0, 0⟩,
 ⟨⟨(.fieldAddr 1), [.tmp 5], (some 134), none⟩, false, false, 0, 0⟩,
 ⟨⟨(.load false 1), [.tmp 134], (some 135), none⟩, false, false, 0, 0⟩,
 ⟨⟨.nilCheck, [.tmp 133], (some 136), none⟩, false, false, 0, 0⟩,
 ⟨⟨(.fieldAddr 17), [.tmp 136], (some 137), none⟩, false, false, 0, 0⟩,
 ⟨⟨(.indexAddrA 16 1), [.tmp 137, .tmp 135], (some 138), none⟩, false, false, 0, 0⟩,
 ⟨⟨(.store 1), [.tmp 138, .const (.int .i64 (-1))], none, none⟩, true, false, 0, 1⟩])
 (.seq (.drawR [⟨⟨.move, [.tmp 0], (some 139), none⟩, false, false, 0, 0⟩,
 ⟨⟨(.fieldAddr 1), [.tmp 5], (some 140), none⟩, false, false, 0, 0⟩,
 ⟨⟨(.load false 1), [.tmp 140], (some 141), none⟩, false, false, 0, 0⟩,
 ⟨⟨.nilCheck, [.tmp 139], (some 142), none⟩, false, false, 0, 0⟩,
 ⟨⟨(.fieldAddr 1), [.tmp 142], (some 143), none⟩, false, false, 0, 0⟩,
 ⟨⟨(.indexAddrA 16 1), [.tmp 143, .tmp 141], (some 144), none⟩, false, false, 0, 0⟩,
 ⟨⟨(.load false 1), [.tmp 144], (some 145), none⟩, false, false, 0, 0⟩,
 ⟨⟨(.bin .add), [.tmp 145, .const (.int .i64 1)], (some 146), none⟩, false, false, 0, 0⟩,
 ⟨⟨.nilCheck, [.tmp 139], (some 147), none⟩, false, false, 0, 0⟩,
 ⟨⟨(.fieldAddr 1), [.tmp 147], (some 148), none⟩, false, false, 0, 0⟩,
 ⟨⟨(.indexAddrA 16 1), [.tmp 148, .tmp 141], (some 149), none⟩, false, false, 0, 0⟩,
 ⟨⟨(.store 1), [.tmp 149, .tmp 146], none, none⟩, true, false, 0, 1⟩])
 (.seq (.seqR [⟨.move, [.const (.bool true)], (some 6), none⟩])
 .ret)))))))))), [.tmp 6]⟩
theorem c12_ok : compFunc Try.prog Try.f12 = some c12 := by kernel_rfl
theorem c12_body : hasBody Try.prog 12 = true := hasBody_of Try.func12 (by kernel_rfl)
/-- coachyard/coachyardref15.own -/
def c13 : PFn := ⟨26, Tr.ofList (List.replicate 26 undefA), (.seq (.seqR [⟨.move, [.const (.slice none 0 0 false)], (some 4), none⟩])
 (.seq (.seqR [⟨(.sliceLit 0 [] []), [], (some 7), none⟩,
 ⟨.move, [.tmp 7], (some 5), none⟩])
 (.seq (.seq (.seqR [⟨.move, [.const (.int .i64 0)], (some 6), none⟩])
 (.block 0 (.loop (.seq (.seq (.seqR [⟨.move, [.tmp 6], (some 8), none⟩,
 ⟨.move, [.tmp 0], (some 9), none⟩,
 ⟨.lenS, [.tmp 9], (some 10), none⟩,
 ⟨(.bin .lss), [.tmp 8, .tmp 10], (some 11), none⟩])
 (.cond (.tmp 11) .skip
 (.exit 0)))
 (.seq (.block 1 (.seq (.seqR [⟨.move, [.tmp 0], (some 14), none⟩,
 ⟨.move, [.tmp 6], (some 15), none⟩,
 ⟨(.indexAddrS 10), [.tmp 14, .tmp 15], (some 16), none⟩,
 ⟨(.fieldAddr 1), [.tmp 16], (some 17), none⟩,
 ⟨(.load false 1), [.tmp 17], (some 18), none⟩,
 ⟨.move, [.tmp 1], (some 19), none⟩,
 ⟨(.bin .eql), [.tmp 18, .tmp 19], (some 20), none⟩])
 (.cond (.tmp 20) (.seqR [⟨.move, [.tmp 5], (some 21), none⟩,
 ⟨.move, [.tmp 6], (some 22), none⟩,
 ⟨(.sliceLit 1 [(.int .i64 0)] [(0, 1)]), [.tmp 22], (some 23), none⟩,
 ⟨(.append 1 8), [.tmp 21, .tmp 23], (some 24), none⟩,
 ⟨.move, [.tmp 24], (some 5), none⟩])
 .skip)))
 (.seqR [⟨.move, [.tmp 6], (some 12), none⟩,
 ⟨(.bin .add), [.tmp 12, .const (.int .i64 1)], (some 13), none⟩,
 ⟨.move, [.tmp 13], (some 6), none⟩]))))))
 (.seq (.seqR [⟨.move, [.tmp 5], (some 25), none⟩,
 ⟨.move, [.tmp 25], (some 4), none⟩])
 .ret)))), [.tmp 4]⟩
theorem c13_ok : compFunc Try.prog Try.f13 = some c13 := by kernel_rfl
theorem c13_body : hasBody Try.prog 13 = true := hasBody_of Try.func13 (by kernel_rfl)
/-- coachyard/coachyardref15.SameResult -/
def c14 : PFn := ⟨24, Tr.ofList (List.replicate 24 undefA), (.seq (.seqR [⟨.box, [.tmp 0], (some 2), none⟩,
 ⟨.box, [.tmp 1], (some 3), none⟩,
 ⟨.move, [.const (.bool false)], (some 4), none⟩])
 (.seq (.seqR [⟨(.fieldAddr 0), [.tmp 2], (some 5), none⟩,
 ⟨(.load false 1), [.tmp 5], (some 6), none⟩,
 ⟨(.fieldAddr 0), [.tmp 3], (some 7), none⟩,
 ⟨(.load false 1), [.tmp 7], (some 8), none⟩,
 ⟨(.bin .eql), [.tmp 6, .tmp 8], (some 9), none⟩,
 ⟨.move, [.tmp 9], (some 10), none⟩,
 ⟨(.fieldAddr 1), [.tmp 2], (some 11), some (10, true)⟩,
 ⟨(.load false 1), [.tmp 11], (some 12), some (10, true)⟩,
 ⟨(.fieldAddr 1), [.tmp 3], (some 13), some (10, true)⟩,
 ⟨(.load false 1), [.tmp 13], (some 14), some (10, true)⟩,
 ⟨(.bin .eql), [.tmp 12, .tmp 14], (some 15), some (10, true)⟩,
 ⟨.pick, [.tmp 10, .tmp 15, .const (.bool false)], (some 16), none⟩,
 ⟨.move, [.tmp 16], (some 17), none⟩,
 ⟨(.fieldAddr 2), [.tmp 2], (some 18), some (17, true)⟩,
 ⟨(.load false 1), [.tmp 18], (some 19), some (17, true)⟩,
 ⟨(.fieldAddr 2), [.tmp 3], (some 20), some (17, true)⟩,
 ⟨(.load false 1), [.tmp 20], (some 21), some (17, true)⟩,
 ⟨(.callF 22), [.tmp 19, .tmp 21], (some 22), some (17, true)⟩,
 ⟨.pick, [.tmp 17, .tmp 22, .const (.bool false)], (some 23), none⟩,
 ⟨.move, [.tmp 23], (some 4), none⟩])
 .ret)), [.tmp 4]⟩
theorem c14_ok : compFunc Try.prog Try.f14 = some c14 := by kernel_rfl
theorem c14_body : hasBody Try.prog 14 = true := hasBody_of Try.func14 (by kernel_rfl)
/-- coachyard/coachyardref15.SameCall -/
def c15 : PFn := ⟨24, Tr.ofList (List.replicate 24 undefA), (.seq (.seqR [⟨.box, [.tmp 0], (some 2), none⟩,
 ⟨.box, [.tmp 1], (some 3), none⟩,
 ⟨.move, [.const (.bool false)], (some 4), none⟩])
 (.seq (.seqR [⟨(.fieldAddr 0), [.tmp 2], (some 5), none⟩,
 ⟨(.load false 1), [.tmp 5], (some 6), none⟩,
 ⟨(.fieldAddr 0), [.tmp 3], (some 7), none⟩,
 ⟨(.load false 1), [.tmp 7], (some 8), none⟩,
 ⟨(.bin .eql), [.tmp 6, .tmp 8], (some 9), none⟩,
 ⟨.move, [.tmp 9], (some 10), none⟩,
 ⟨(.fieldAddr 1), [.tmp 2], (some 11), some (10, true)⟩,
 ⟨(.load false 1), [.tmp 11], (some 12), some (10, true)⟩,
 ⟨(.fieldAddr 1), [.tmp 3], (some 13), some (10, true)⟩,
 ⟨(.load false 1), [.tmp 13], (some 14), some (10, true)⟩,
 ⟨(.bin .eql), [.tmp 12, .tmp 14], (some 15), some (10, true)⟩,
 ⟨.pick, [.tmp 10, .tmp 15, .const (.bool false)], (some 16), none⟩,
 ⟨.move, [.tmp 16], (some 17), none⟩,
 ⟨(.fieldAddr 2), [.tmp 2], (some 18), some (17, true)⟩,
 ⟨(.load false 1), [.tmp 18], (some 19), some (17, true)⟩,
 ⟨(.fieldAddr 2), [.tmp 3], (some 20), some (17, true)⟩,
 ⟨(.load false 1), [.tmp 20], (some 21), some (17, true)⟩,
 ⟨(.callF 23), [.tmp 19, .tmp 21], (some 22), some (17, true)⟩,
 ⟨.pick, [.tmp 17, .tmp 22, .const (.bool false)], (some 23), none⟩,
 ⟨.move, [.tmp 23], (some 4), none⟩])
 .ret)), [.tmp 4]⟩
theorem c15_ok : compFunc Try.prog Try.f15 = some c15 := by kernel_rfl
theorem c15_body : hasBody Try.prog 15 = true := hasBody_of Try.func15 (by kernel_rfl)
/-- slices.SortFunc[[]coachyard/diary.edge,coachyard/diary.edge] -/
def c16 : PFn := ⟨14, Tr.ofList (List.replicate 14 undefA), (.seq (.seqR [⟨.move, [.tmp 0], (some 5), none⟩,
 ⟨.lenS, [.tmp 5], (some 6), none⟩,
 ⟨.move, [.tmp 6], (some 4), none⟩])
 (.seqR [⟨.move, [.tmp 0], (some 7), none⟩,
 ⟨.move, [.tmp 4], (some 8), none⟩,
 ⟨.move, [.tmp 4], (some 9), none⟩,
 ⟨(.conv .u64), [.tmp 9], (some 10), none⟩,
 ⟨(.callF 25), [.tmp 10], (some 11), none⟩,
 ⟨.move, [.tmp 1], (some 12), none⟩,
 ⟨(.callF 24), [.tmp 7, .const (.int .i64 0), .tmp 8, .tmp 11, .tmp 12], (some 13), none⟩])), []⟩
theorem c16_ok : compFunc Try.prog Try.f16 = some c16 := by kernel_rfl
theorem c16_body : hasBody Try.prog 16 = true := hasBody_of Try.func16 (by kernel_rfl)
/-- coachyard/diary.Most$1 -/
def c17 : PFn := ⟨24, Tr.ofList (List.replicate 24 undefA), (.seq (.seqR [⟨.box, [.tmp 0], (some 2), none⟩,
 ⟨.box, [.tmp 1], (some 3), none⟩,
 ⟨.move, [.const (.int .i64 0)], (some 4), none⟩])
 (.seq (.seq (.seqR [⟨(.fieldAddr 0), [.tmp 2], (some 5), none⟩,
 ⟨(.load false 1), [.tmp 5], (some 6), none⟩,
 ⟨(.fieldAddr 0), [.tmp 3], (some 7), none⟩,
 ⟨(.load false 1), [.tmp 7], (some 8), none⟩,
 ⟨(.bin .neq), [.tmp 6, .tmp 8], (some 9), none⟩])
 (.cond (.tmp 9) (.seq (.seqR [⟨(.fieldAddr 0), [.tmp 2], (some 10), none⟩,
 ⟨(.load false 1), [.tmp 10], (some 11), none⟩,
 ⟨(.fieldAddr 0), [.tmp 3], (some 12), none⟩,
 ⟨(.load false 1), [.tmp 12], (some 13), none⟩,
 ⟨(.callF 18), [.tmp 11, .tmp 13], (some 14), none⟩,
 ⟨.move, [.tmp 14], (some 4), none⟩])
 .ret)
 .skip))
 (.seq (.block 0 (.seq (.seqR [⟨(.fieldAddr 1), [.tmp 2], (some 16), none⟩,
 ⟨(.load false 1), [.tmp 16], (some 17), none⟩,
 ⟨(.fieldAddr 1), [.tmp 3], (some 18), none⟩,
 ⟨(.load false 1), [.tmp 18], (some 19), none⟩,
 ⟨(.eqBool false), [.tmp 17, .tmp 19], (some 20), none⟩,
 ⟨.move, [.tmp 20], (some 15), none⟩])
 (.cond (.tmp 15) (.seq (.seqR [⟨.move, [.const (.int .i64 0)], (some 4), none⟩])
 .ret)
 (.seq (.seqR [⟨(.fieldAddr 1), [.tmp 2], (some 22), none⟩,
 ⟨(.load false 1), [.tmp 22], (some 23), none⟩,
 ⟨.move, [.tmp 23], (some 21), none⟩])
 (.cond (.tmp 21) (.seq (.seqR [⟨.move, [.const (.int .i64 1)], (some 4), none⟩])
 .ret)
 .skip)))))
 (.seq (.seqR [⟨.move, [.const (.int .i64 (-1))], (some 4), none⟩])
 .ret)))), [.tmp 4]⟩
theorem c17_ok : compFunc Try.prog Try.f17 = some c17 := by kernel_rfl
theorem c17_body : hasBody Try.prog 17 = true := hasBody_of Try.func17 (by kernel_rfl)
/-- cmp.Compare[int] -/
def c18 : PFn := ⟨20, Tr.ofList (List.replicate 20 undefA), (.seq (.seqR [⟨.move, [.const (.int .i64 0)], (some 4), none⟩])
 (.seq (.seqR [⟨.move, [.tmp 0], (some 7), none⟩,
 ⟨(.callF 26), [.tmp 7], (some 8), none⟩,
 ⟨.move, [.tmp 8], (some 5), none⟩])
 (.seq (.seqR [⟨.move, [.tmp 1], (some 9), none⟩,
 ⟨(.callF 26), [.tmp 9], (some 10), none⟩,
 ⟨.move, [.tmp 10], (some 6), none⟩])
 (.seq (.seq (.seqR [⟨.move, [.tmp 5], (some 11), none⟩])
 (.cond (.tmp 11) (.seq (.seq (.seqR [⟨.move, [.tmp 6], (some 12), none⟩])
 (.cond (.tmp 12) (.seq (.seqR [⟨.move, [.const (.int .i64 0)], (some 4), none⟩])
 .ret)
 .skip))
 (.seq (.seqR [⟨.move, [.const (.int .i64 (-1))], (some 4), none⟩])
 .ret))
 .skip))
 (.seq (.seq (.seqR [⟨.move, [.tmp 6], (some 13), none⟩])
 (.cond (.tmp 13) (.seq (.seqR [⟨.move, [.const (.int .i64 1)], (some 4), none⟩])
 .ret)
 .skip))
 (.seq (.seq (.seqR [⟨.move, [.tmp 0], (some 14), none⟩,
 ⟨.move, [.tmp 1], (some 15), none⟩,
 ⟨(.bin .lss), [.tmp 14, .tmp 15], (some 16), none⟩])
 (.cond (.tmp 16) (.seq (.seqR [⟨.move, [.const (.int .i64 (-1))], (some 4), none⟩])
 .ret)
 .skip))
 (.seq (.seq (.seqR [⟨.move, [.tmp 0], (some 17), none⟩,
 ⟨.move, [.tmp 1], (some 18), none⟩,
 ⟨(.bin .gtr), [.tmp 17, .tmp 18], (some 19), none⟩])
 (.cond (.tmp 19) (.seq (.seqR [⟨.move, [.const (.int .i64 1)], (some 4), none⟩])
 .ret)
 .skip))
 (.seq (.seqR [⟨.move, [.const (.int .i64 0)], (some 4), none⟩])
 .ret)))))))), [.tmp 4]⟩
theorem c18_ok : compFunc Try.prog Try.f18 = some c18 := by kernel_rfl
theorem c18_body : hasBody Try.prog 18 = true := hasBody_of Try.func18 (by kernel_rfl)
/-- coachyard/diary.none -/
def c19 : PFn := ⟨17, Tr.ofList (List.replicate 17 undefA), (.seq (.seqR [⟨.box, [.tmp 0], (some 1), none⟩,
 ⟨.move, [.const (.bool false)], (some 2), none⟩])
 (.seq (.seqR [⟨(.fieldAddr 0), [.tmp 1], (some 3), none⟩,
 ⟨(.load false 1), [.tmp 3], (some 4), none⟩,
 ⟨(.bin .eql), [.tmp 4, .const (.int .i64 0)], (some 5), none⟩,
 ⟨.move, [.tmp 5], (some 6), none⟩,
 ⟨(.fieldAddr 1), [.tmp 1], (some 7), some (6, true)⟩,
 ⟨(.load false 1), [.tmp 7], (some 8), some (6, true)⟩,
 ⟨(.bin .eql), [.tmp 8, .const (.int .u64 0)], (some 9), some (6, true)⟩,
 ⟨.pick, [.tmp 6, .tmp 9, .const (.bool false)], (some 10), none⟩,
 ⟨.move, [.tmp 10], (some 11), none⟩,
 ⟨(.fieldAddr 2), [.tmp 1], (some 12), some (11, true)⟩,
 ⟨(.load false 1), [.tmp 12], (some 13), some (11, true)⟩,
 ⟨.lenS, [.tmp 13], (some 14), some (11, true)⟩,
 ⟨(.bin .eql), [.tmp 14, .const (.int .i64 0)], (some 15), some (11, true)⟩,
 ⟨.pick, [.tmp 11, .tmp 15, .const (.bool false)], (some 16), none⟩,
 ⟨.move, [.tmp 16], (some 2), none⟩])
 .ret)), [.tmp 2]⟩
theorem c19_ok : compFunc Try.prog Try.f19 = some c19 := by kernel_rfl
theorem c19_body : hasBody Try.prog 19 = true := hasBody_of Try.func19 (by kernel_rfl)
/-- coachyard/diary.own -/
def c20 : PFn := ⟨16, Tr.ofList (List.replicate 16 undefA), (.seq (.seqR [⟨.box, [.tmp 0], (some 1), none⟩,
 ⟨(.new [(.int .i64 0), (.int .i64 0), (.int .i64 0), (.int .i64 0), (.int .i64 0), (.int .u64 0), (.slice none 0 0 false), (.int .i64 0), (.int .u64 0), (.slice none 0 0 false)]), [], (some 2), none⟩])
 (.seq (.seqR [⟨(.fieldAddr 4), [.tmp 1], (some 3), none⟩,
 ⟨(.fieldAddr 2), [.tmp 3], (some 4), none⟩,
 ⟨(.load false 1), [.tmp 4], (some 5), none⟩,
 ⟨(.callF 27), [.tmp 5], (some 6), none⟩,
 ⟨(.fieldAddr 4), [.tmp 1], (some 7), none⟩,
 ⟨(.fieldAddr 2), [.tmp 7], (some 8), none⟩,
 ⟨(.store 1), [.tmp 8, .tmp 6], none, none⟩])
 (.seq (.seqR [⟨(.fieldAddr 7), [.tmp 1], (some 9), none⟩,
 ⟨(.fieldAddr 2), [.tmp 9], (some 10), none⟩,
 ⟨(.load false 1), [.tmp 10], (some 11), none⟩,
 ⟨(.callF 28), [.tmp 11], (some 12), none⟩,
 ⟨(.fieldAddr 7), [.tmp 1], (some 13), none⟩,
 ⟨(.fieldAddr 2), [.tmp 13], (some 14), none⟩,
 ⟨(.store 1), [.tmp 14, .tmp 12], none, none⟩])
 (.seq (.seqR [⟨(.load true 10), [.tmp 1], (some 15), none⟩,
 ⟨(.store 10), [.tmp 2, .tmp 15], none, none⟩])
 .ret)))), [.cell 2 true 10]⟩
theorem c20_ok : compFunc Try.prog Try.f20 = some c20 := by kernel_rfl
theorem c20_body : hasBody Try.prog 20 = true := hasBody_of Try.func20 (by kernel_rfl)
/-- coachyard/diary.same -/
def c21 : PFn := ⟨24, Tr.ofList (List.replicate 24 undefA), (.seq (.seqR [⟨.box, [.tmp 0], (some 2), none⟩,
 ⟨.box, [.tmp 1], (some 3), none⟩,
 ⟨.move, [.const (.bool false)], (some 4), none⟩])
 (.seq (.seqR [⟨(.fieldAddr 0), [.tmp 2], (some 5), none⟩,
 ⟨(.load false 1), [.tmp 5], (some 6), none⟩,
 ⟨(.fieldAddr 0), [.tmp 3], (some 7), none⟩,
 ⟨(.load false 1), [.tmp 7], (some 8), none⟩,
 ⟨(.bin .eql), [.tmp 6, .tmp 8], (some 9), none⟩,
 ⟨.move, [.tmp 9], (some 10), none⟩,
 ⟨(.fieldAddr 1), [.tmp 2], (some 11), some (10, true)⟩,
 ⟨(.load false 1), [.tmp 11], (some 12), some (10, true)⟩,
 ⟨(.fieldAddr 1), [.tmp 3], (some 13), some (10, true)⟩,
 ⟨(.load false 1), [.tmp 13], (some 14), some (10, true)⟩,
 ⟨(.bin .eql), [.tmp 12, .tmp 14], (some 15), some (10, true)⟩,
 ⟨.pick, [.tmp 10, .tmp 15, .const (.bool false)], (some 16), none⟩,
 ⟨.move, [.tmp 16], (some 17), none⟩,
 ⟨(.fieldAddr 2), [.tmp 2], (some 18), some (17, true)⟩,
 ⟨(.load false 1), [.tmp 18], (some 19), some (17, true)⟩,
 ⟨(.fieldAddr 2), [.tmp 3], (some 20), some (17, true)⟩,
 ⟨(.load false 1), [.tmp 20], (some 21), some (17, true)⟩,
 ⟨(.callF 29), [.tmp 19, .tmp 21], (some 22), some (17, true)⟩,
 ⟨.pick, [.tmp 17, .tmp 22, .const (.bool false)], (some 23), none⟩,
 ⟨.move, [.tmp 23], (some 4), none⟩])
 .ret)), [.tmp 4]⟩
theorem c21_ok : compFunc Try.prog Try.f21 = some c21 := by kernel_rfl
theorem c21_body : hasBody Try.prog 21 = true := hasBody_of Try.func21 (by kernel_rfl)
/-- coachyard/coachyardref01.Same -/
def c22 : PFn := ⟨26, Tr.ofList (List.replicate 26 undefA), (.seq (.seqR [⟨.move, [.const (.bool false)], (some 4), none⟩])
 (.seq (.seq (.seqR [⟨.move, [.tmp 0], (some 6), none⟩,
 ⟨.lenS, [.tmp 6], (some 7), none⟩,
 ⟨.move, [.tmp 1], (some 8), none⟩,
 ⟨.lenS, [.tmp 8], (some 9), none⟩,
 ⟨(.bin .neq), [.tmp 7, .tmp 9], (some 10), none⟩])
 (.cond (.tmp 10) (.seq (.seqR [⟨.move, [.const (.bool false)], (some 4), none⟩])
 .ret)
 .skip))
 (.seq (.seq (.seqR [⟨.move, [.const (.int .i64 0)], (some 5), none⟩])
 (.block 0 (.loop (.seq (.seq (.seqR [⟨.move, [.tmp 5], (some 11), none⟩,
 ⟨.move, [.tmp 0], (some 12), none⟩,
 ⟨.lenS, [.tmp 12], (some 13), none⟩,
 ⟨(.bin .lss), [.tmp 11, .tmp 13], (some 14), none⟩])
 (.cond (.tmp 14) .skip
 (.exit 0)))
 (.seq (.block 1 (.seq (.drawR [⟨⟨.move, [.tmp 0], (some 17), none⟩, false, false, 0, 0⟩,
 ⟨⟨.move, [.tmp 5], (some 18), none⟩, false, false, 0, 0⟩,
 ⟨⟨(.indexAddrS 1), [.tmp 17, .tmp 18], (some 19), none⟩, false, false, 0, 0⟩,
 ⟨⟨(.load false 1), [.tmp 19], (some 20), none⟩, false, false, 0, 0⟩,
 ⟨⟨.move, [.tmp 1], (some 21), none⟩, false, false, 0, 0⟩,
 ⟨⟨.move, [.tmp 5], (some 22), none⟩, false, false, 0, 0⟩,
 ⟨⟨(.indexAddrS 1), [.tmp 21, .tmp 22], (some 23), none⟩, false, false, 0, 0⟩,
 ⟨⟨(.load false 1), [.tmp 23], (some 24), none⟩, false, false, 0, 0⟩,
 ⟨⟨(.bin .neq), [.tmp 20, .tmp 24], (some 25), none⟩, false, false, 0, 0⟩])
 (.cond (.tmp 25) (.seq (.seqR [⟨.move, [.const (.bool false)], (some 4), none⟩])
 .ret)
 .skip)))
 (.seqR [⟨.move, [.tmp 5], (some 15), none⟩,
 ⟨(.bin .add), [.tmp 15, .const (.int .i64 1)], (some 16), none⟩,
 ⟨.move, [.tmp 16], (some 5), none⟩]))))))
 (.seq (.seqR [⟨.move, [.const (.bool true)], (some 4), none⟩])
 .ret)))), [.tmp 4]⟩
theorem c22_ok : compFunc Try.prog Try.f22 = some c22 := by kernel_rfl
theorem c22_body : hasBody Try.prog 22 = true := hasBody_of Try.func22 (by kernel_rfl)
/-- coachyard/coachyardref01.SameInts -/
def c23 : PFn := ⟨26, Tr.ofList (List.replicate 26 undefA), (.seq (.seqR [⟨.move, [.const (.bool false)], (some 4), none⟩])
 (.seq (.seq (.seqR [⟨.move, [.tmp 0], (some 6), none⟩,
 ⟨.lenS, [.tmp 6], (some 7), none⟩,
 ⟨.move, [.tmp 1], (some 8), none⟩,
 ⟨.lenS, [.tmp 8], (some 9), none⟩,
 ⟨(.bin .neq), [.tmp 7, .tmp 9], (some 10), none⟩])
 (.cond (.tmp 10) (.seq (.seqR [⟨.move, [.const (.bool false)], (some 4), none⟩])
 .ret)
 .skip))
 (.seq (.seq (.seqR [⟨.move, [.const (.int .i64 0)], (some 5), none⟩])
 (.block 0 (.loop (.seq (.seq (.seqR [⟨.move, [.tmp 5], (some 11), none⟩,
 ⟨.move, [.tmp 0], (some 12), none⟩,
 ⟨.lenS, [.tmp 12], (some 13), none⟩,
 ⟨(.bin .lss), [.tmp 11, .tmp 13], (some 14), none⟩])
 (.cond (.tmp 14) .skip
 (.exit 0)))
 (.seq (.block 1 (.seq (.drawR [⟨⟨.move, [.tmp 0], (some 17), none⟩, false, false, 0, 0⟩,
 ⟨⟨.move, [.tmp 5], (some 18), none⟩, false, false, 0, 0⟩,
 ⟨⟨(.indexAddrS 1), [.tmp 17, .tmp 18], (some 19), none⟩, false, false, 0, 0⟩,
 ⟨⟨(.load false 1), [.tmp 19], (some 20), none⟩, false, false, 0, 0⟩,
 ⟨⟨.move, [.tmp 1], (some 21), none⟩, false, false, 0, 0⟩,
 ⟨⟨.move, [.tmp 5], (some 22), none⟩, false, false, 0, 0⟩,
 ⟨⟨(.indexAddrS 1), [.tmp 21, .tmp 22], (some 23), none⟩, false, false, 0, 0⟩,
 ⟨⟨(.load false 1), [.tmp 23], (some 24), none⟩, false, false, 0, 0⟩,
 ⟨⟨(.bin .neq), [.tmp 20, .tmp 24], (some 25), none⟩, false, false, 0, 0⟩])
 (.cond (.tmp 25) (.seq (.seqR [⟨.move, [.const (.bool false)], (some 4), none⟩])
 .ret)
 .skip)))
 (.seqR [⟨.move, [.tmp 5], (some 15), none⟩,
 ⟨(.bin .add), [.tmp 15, .const (.int .i64 1)], (some 16), none⟩,
 ⟨.move, [.tmp 16], (some 5), none⟩]))))))
 (.seq (.seqR [⟨.move, [.const (.bool true)], (some 4), none⟩])
 .ret)))), [.tmp 4]⟩
theorem c23_ok : compFunc Try.prog Try.f23 = some c23 := by kernel_rfl
theorem c23_body : hasBody Try.prog 23 = true := hasBody_of Try.func23 (by kernel_rfl)
/-- slices.pdqsortCmpFunc[coachyard/diary.edge] -/
def c24 : PFn := ⟨148, Tr.ofList (List.replicate 148 undefA), (.seq (.seqR [⟨.move, [.const (.bool true)], (some 10), none⟩])
 (.seq (.seqR [⟨.move, [.const (.bool true)], (some 11), none⟩])
 (.block 0 (.loop (.block 1 (.seq (.seqR [⟨.move, [.tmp 2], (some 21), none⟩,
 ⟨.move, [.tmp 1], (some 22), none⟩,
 ⟨(.bin .sub), [.tmp 21, .tmp 22], (some 23), none⟩,
 ⟨.move, [.tmp 23], (some 12), none⟩])
 (.seq (.seq (.seqR [⟨.move, [.tmp 12], (some 24), none⟩,
 ⟨(.bin .leq), [.tmp 24, .const (.int .i64 12)], (some 25), none⟩])
 (.cond (.tmp 25) (.seq (.seqR [⟨.move, [.tmp 0], (some 26), none⟩,
 ⟨.move, [.tmp 1], (some 27), none⟩,
 ⟨.move, [.tmp 2], (some 28), none⟩,
 ⟨.move, [.tmp 4], (some 29), none⟩,
 ⟨(.callF 30), [.tmp 26, .tmp 27, .tmp 28, .tmp 29], (some 30), none⟩])
 .ret)
 .skip))
 (.seq (.seq (.seqR [⟨.move, [.tmp 3], (some 31), none⟩,
 ⟨(.bin .eql), [.tmp 31, .const (.int .i64 0)], (some 32), none⟩])
 (.cond (.tmp 32) (.seq (.seqR [⟨.move, [.tmp 0], (some 33), none⟩,
 ⟨.move, [.tmp 1], (some 34), none⟩,
 ⟨.move, [.tmp 2], (some 35), none⟩,
 ⟨.move, [.tmp 4], (some 36), none⟩,
 ⟨(.callF 31), [.tmp 33, .tmp 34, .tmp 35, .tmp 36], (some 37), none⟩])
 .ret)
 .skip))
 (.seq (.seq (.seqR [⟨.move, [.tmp 10], (some 38), none⟩,
 ⟨.not, [.tmp 38], (some 39), none⟩])
 (.cond (.tmp 39) (.seq (.seqR [⟨.move, [.tmp 0], (some 40), none⟩,
 ⟨.move, [.tmp 1], (some 41), none⟩,
 ⟨.move, [.tmp 2], (some 42), none⟩,
 ⟨.move, [.tmp 4], (some 43), none⟩,
 ⟨(.callF 32), [.tmp 40, .tmp 41, .tmp 42, .tmp 43], (some 44), none⟩])
 (.seqR [⟨.move, [.tmp 3], (some 45), none⟩,
 ⟨(.bin .sub), [.tmp 45, .const (.int .i64 1)], (some 46), none⟩,
 ⟨.move, [.tmp 46], (some 3), none⟩]))
 .skip))
 (.seq (.seqR [⟨.move, [.tmp 0], (some 48), none⟩,
 ⟨.move, [.tmp 1], (some 49), none⟩,
 ⟨.move, [.tmp 2], (some 50), none⟩,
 ⟨.move, [.tmp 4], (some 51), none⟩,
 ⟨(.callF 33), [.tmp 48, .tmp 49, .tmp 50, .tmp 51], (some 52), none⟩,
 ⟨.move, [.tmp 52], (some 47), none⟩,
 ⟨(.extract 0), [.tmp 47], (some 53), none⟩,
 ⟨(.extract 1), [.tmp 47], (some 54), none⟩,
 ⟨.move, [.tmp 53], (some 13), none⟩,
 ⟨.move, [.tmp 54], (some 14), none⟩])
 (.seq (.seq (.seqR [⟨.move, [.tmp 14], (some 55), none⟩,
 ⟨(.bin .eql), [.tmp 55, .const (.int .i64 2)], (some 56), none⟩])
 (.cond (.tmp 56) (.seq (.seqR [⟨.move, [.tmp 0], (some 57), none⟩,
 ⟨.move, [.tmp 1], (some 58), none⟩,
 ⟨.move, [.tmp 2], (some 59), none⟩,
 ⟨.move, [.tmp 4], (some 60), none⟩,
 ⟨(.callF 34), [.tmp 57, .tmp 58, .tmp 59, .tmp 60], (some 61), none⟩])
 (.seq (.seqR [⟨.move, [.tmp 2], (some 62), none⟩,
 ⟨(.bin .sub), [.tmp 62, .const (.int .i64 1)], (some 63), none⟩,
 ⟨.move, [.tmp 13], (some 64), none⟩,
 ⟨.move, [.tmp 1], (some 65), none⟩,
 ⟨(.bin .sub), [.tmp 64, .tmp 65], (some 66), none⟩,
 ⟨(.bin .sub), [.tmp 63, .tmp 66], (some 67), none⟩,
 ⟨.move, [.tmp 67], (some 13), none⟩])
 (.seqR [⟨.move, [.const (.int .i64 1)], (some 14), none⟩])))
 .skip))
 (.seq (.seq (.seqR [⟨.move, [.tmp 10], (some 68), none⟩,
 ⟨.move, [.tmp 68], (some 69), none⟩,
 ⟨.move, [.tmp 11], (some 70), some (69, true)⟩,
 ⟨.pick, [.tmp 69, .tmp 70, .const (.bool false)], (some 71), none⟩,
 ⟨.move, [.tmp 71], (some 72), none⟩,
 ⟨.move, [.tmp 14], (some 73), some (72, true)⟩,
 ⟨(.bin .eql), [.tmp 73, .const (.int .i64 1)], (some 74), some (72, true)⟩,
 ⟨.pick, [.tmp 72, .tmp 74, .const (.bool false)], (some 75), none⟩])
 (.cond (.tmp 75) (.seq (.seqR [⟨.move, [.tmp 0], (some 76), none⟩,
 ⟨.move, [.tmp 1], (some 77), none⟩,
 ⟨.move, [.tmp 2], (some 78), none⟩,
 ⟨.move, [.tmp 4], (some 79), none⟩,
 ⟨(.callF 35), [.tmp 76, .tmp 77, .tmp 78, .tmp 79], (some 80), none⟩])
 (.cond (.tmp 80) .ret
 .skip))
 .skip))
 (.seq (.seq (.drawR [⟨⟨.move, [.tmp 1], (some 81), none⟩, false, false, 0, 0⟩,
 ⟨⟨(.bin .gtr), [.tmp 81, .const (.int .i64 0)], (some 82), none⟩, false, false, 0, 0⟩,
 ⟨⟨.move, [.tmp 82], (some 83), none⟩, false, false, 0, 0⟩,
 ⟨⟨.move, [.tmp 4], (some 84), some (83, true)⟩, false, false, 0, 0⟩,
 ⟨⟨.move, [.tmp 0], (some 85), some (83, true)⟩, false, false, 0, 0⟩,
 ⟨⟨.move, [.tmp 1], (some 86), some (83, true)⟩, false, false, 0, 0⟩,
 ⟨⟨(.bin .sub), [.tmp 86, .const (.int .i64 1)], (some 87), some (83, true)⟩, false, false, 0, 0⟩,
 ⟨⟨(.indexAddrS 2), [.tmp 85, .tmp 87], (some 88), some (83, true)⟩, false, false, 0, 0⟩,
 ⟨⟨(.load true 2), [.tmp 88], (some 89), some (83, true)⟩, false, false, 0, 0⟩,
 ⟨⟨.move, [.tmp 0], (some 90), some (83, true)⟩, false, false, 0, 0⟩,
 ⟨⟨.move, [.tmp 13], (some 91), some (83, true)⟩, false, false, 0, 0⟩,
 ⟨⟨(.indexAddrS 2), [.tmp 90, .tmp 91], (some 92), some (83, true)⟩, false, false, 0, 0⟩,
 ⟨⟨(.load true 2), [.tmp 92], (some 93), some (83, true)⟩, false, false, 0, 0⟩,
 ⟨⟨.callV, [.tmp 84, .tmp 89, .tmp 93], (some 94), some (83, true)⟩, true, false, 0, 1⟩,
 ⟨⟨(.bin .lss), [.tmp 94, .const (.int .i64 0)], (some 95), some (83, true)⟩, false, false, 1, 1⟩,
 ⟨⟨.not, [.tmp 95], (some 96), some (83, true)⟩, false, false, 1, 1⟩,
 ⟨⟨.pick, [.tmp 83, .tmp 96, .const (.bool false)], (some 97), none⟩, false, false, 1, 1⟩])
 (.cond (.tmp 97) (.seq (.seqR [⟨.move, [.tmp 0], (some 98), none⟩,
 ⟨.move, [.tmp 1], (some 99), none⟩,
 ⟨.move, [.tmp 2], (some 100), none⟩,
 ⟨.move, [.tmp 13], (some 101), none⟩,
 ⟨.move, [.tmp 4], (some 102), none⟩,
 ⟨(.callF 36), [.tmp 98, .tmp 99, .tmp 100, .tmp 101, .tmp 102], (some 103), none⟩,
 ⟨.move, [.tmp 103], (some 15), none⟩])
 (.seq (.seqR [⟨.move, [.tmp 15], (some 104), none⟩,
 ⟨.move, [.tmp 104], (some 1), none⟩])
 (.exit 1)))
 .skip))
 (.seq (.seqR [⟨.move, [.tmp 0], (some 106), none⟩,
 ⟨.move, [.tmp 1], (some 107), none⟩,
 ⟨.move, [.tmp 2], (some 108), none⟩,
 ⟨.move, [.tmp 13], (some 109), none⟩,
 ⟨.move, [.tmp 4], (some 110), none⟩,
 ⟨(.callF 37), [.tmp 106, .tmp 107, .tmp 108, .tmp 109, .tmp 110], (some 111), none⟩,
 ⟨.move, [.tmp 111], (some 105), none⟩,
 ⟨(.extract 0), [.tmp 105], (some 112), none⟩,
 ⟨(.extract 1), [.tmp 105], (some 113), none⟩,
 ⟨.move, [.tmp 112], (some 16), none⟩,
 ⟨.move, [.tmp 113], (some 17), none⟩])
 (.seq (.seqR [⟨.move, [.tmp 17], (some 114), none⟩,
 ⟨.move, [.tmp 114], (some 11), none⟩])
 (.seq (.seqR [⟨.move, [.tmp 16], (some 115), none⟩,
 ⟨.move, [.tmp 1], (some 116), none⟩,
 ⟨(.bin .sub), [.tmp 115, .tmp 116], (some 117), none⟩,
 ⟨.move, [.tmp 2], (some 118), none⟩,
 ⟨.move, [.tmp 16], (some 119), none⟩,
 ⟨(.bin .sub), [.tmp 118, .tmp 119], (some 120), none⟩,
 ⟨.move, [.tmp 117], (some 18), none⟩,
 ⟨.move, [.tmp 120], (some 19), none⟩])
 (.seq (.seqR [⟨.move, [.tmp 12], (some 121), none⟩,
 ⟨(.bin .quo), [.tmp 121, .const (.int .i64 8)], (some 122), none⟩,
 ⟨.move, [.tmp 122], (some 20), none⟩])
 (.seq (.seqR [⟨.move, [.tmp 18], (some 123), none⟩,
 ⟨.move, [.tmp 19], (some 124), none⟩,
 ⟨(.bin .lss), [.tmp 123, .tmp 124], (some 125), none⟩])
 (.cond (.tmp 125) (.seq (.seqR [⟨.move, [.tmp 18], (some 126), none⟩,
 ⟨.move, [.tmp 20], (some 127), none⟩,
 ⟨(.bin .geq), [.tmp 126, .tmp 127], (some 128), none⟩,
 ⟨.move, [.tmp 128], (some 10), none⟩])
 (.seq (.seqR [⟨.move, [.tmp 0], (some 129), none⟩,
 ⟨.move, [.tmp 1], (some 130), none⟩,
 ⟨.move, [.tmp 16], (some 131), none⟩,
 ⟨.move, [.tmp 3], (some 132), none⟩,
 ⟨.move, [.tmp 4], (some 133), none⟩,
 ⟨(.callF 24), [.tmp 129, .tmp 130, .tmp 131, .tmp 132, .tmp 133], (some 134), none⟩])
 (.seqR [⟨.move, [.tmp 16], (some 135), none⟩,
 ⟨(.bin .add), [.tmp 135, .const (.int .i64 1)], (some 136), none⟩,
 ⟨.move, [.tmp 136], (some 1), none⟩])))
 (.seq (.seqR [⟨.move, [.tmp 19], (some 137), none⟩,
 ⟨.move, [.tmp 20], (some 138), none⟩,
 ⟨(.bin .geq), [.tmp 137, .tmp 138], (some 139), none⟩,
 ⟨.move, [.tmp 139], (some 10), none⟩])
 (.seq (.seqR [⟨.move, [.tmp 0], (some 140), none⟩,
 ⟨.move, [.tmp 16], (some 141), none⟩,
 ⟨(.bin .add), [.tmp 141, .const (.int .i64 1)], (some 142), none⟩,
 ⟨.move, [.tmp 2], (some 143), none⟩,
 ⟨.move, [.tmp 3], (some 144), none⟩,
 ⟨.move, [.tmp 4], (some 145), none⟩,
 ⟨(.callF 24), [.tmp 140, .tmp 142, .tmp 143, .tmp 144, .tmp 145], (some 146), none⟩])
 (.seqR [⟨.move, [.tmp 16], (some 147), none⟩,
 ⟨.move, [.tmp 147], (some 2), none⟩])))))))))))))))))))))), []⟩
theorem c24_ok : compFunc Try.prog Try.f24 = some c24 := by kernel_rfl
theorem c24_body : hasBody Try.prog 24 = true := hasBody_of Try.func24 (by kernel_rfl)
end Go.Proofs.Ytgmdbnjjflaaiaa
