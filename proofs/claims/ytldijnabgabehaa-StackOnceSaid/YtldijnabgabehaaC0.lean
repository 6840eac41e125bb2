/- The code of the small machine for some of the program's functions: printed by program; each is what the rules make of the program's own. -/
import Derived.Test.YtldijnabgabehaaVx16
import Derived.Test.YtldijnabgabehaaProg
import Derived.KernelRfl
namespace Go.Proofs.Ytldijnabgabehaa
open Go Go.Vx Go.Proofs
/-- coachyard/coachyardlaw31.StackOnce -/
def c3 : PFn := ⟨191, Tr.ofList (List.replicate 191 undefA), (.seq (.seqR [⟨.move, [.const (.bool false)], (some 6), none⟩])
 (.seq (.seq (.seqR [⟨(.callF 4), [], (some 22), none⟩,
 ⟨.not, [.tmp 22], (some 23), none⟩])
 (.cond (.tmp 23) (.seq (.seqR [⟨.move, [.const (.bool false)], (some 6), none⟩])
 .ret)
 .skip))
 (.seq (.seq (.seqR [⟨.move, [.tmp 0], (some 24), none⟩,
 ⟨(.bin .lss), [.tmp 24, .const (.int .i64 1)], (some 25), none⟩,
 ⟨.move, [.tmp 25], (some 26), none⟩,
 ⟨.move, [.tmp 0], (some 27), some (26, false)⟩,
 ⟨(.bin .gtr), [.tmp 27, .const (.int .i64 4)], (some 28), some (26, false)⟩,
 ⟨.pick, [.tmp 26, .const (.bool true), .tmp 28], (some 29), none⟩,
 ⟨.move, [.tmp 29], (some 30), none⟩,
 ⟨.move, [.tmp 1], (some 31), some (30, false)⟩,
 ⟨(.bin .lss), [.tmp 31, .const (.int .i64 1)], (some 32), some (30, false)⟩,
 ⟨.pick, [.tmp 30, .const (.bool true), .tmp 32], (some 33), none⟩,
 ⟨.move, [.tmp 33], (some 34), none⟩,
 ⟨.move, [.tmp 1], (some 35), some (34, false)⟩,
 ⟨(.bin .gtr), [.tmp 35, .const (.int .i64 12)], (some 36), some (34, false)⟩,
 ⟨.pick, [.tmp 34, .const (.bool true), .tmp 36], (some 37), none⟩,
 ⟨.move, [.tmp 37], (some 38), none⟩,
 ⟨.move, [.tmp 2], (some 39), some (38, false)⟩,
 ⟨.lenS, [.tmp 39], (some 40), some (38, false)⟩,
 ⟨(.bin .gtr), [.tmp 40, .const (.int .i64 400)], (some 41), some (38, false)⟩,
 ⟨.pick, [.tmp 38, .const (.bool true), .tmp 41], (some 42), none⟩])
 (.cond (.tmp 42) (.seq (.seqR [⟨.move, [.const (.bool true)], (some 6), none⟩])
 .ret)
 .skip))
 (.seq (.seqR [⟨.move, [.tmp 1], (some 43), none⟩,
 ⟨(.build [(.int .i64 0), (.int .i64 0)] [(1, 1)]), [.tmp 43], (some 44), none⟩,
 ⟨(.new [(.int .i64 0), (.int .i64 0)]), [], (some 7), none⟩,
 ⟨(.store 2), [.tmp 7, .tmp 44], none, none⟩])
 (.seq (.seqR [⟨.move, [.tmp 1], (some 46), none⟩,
 ⟨(.bin .mul), [.const (.int .i64 3), .tmp 46], (some 47), none⟩,
 ⟨(.bin .add), [.tmp 47, .const (.int .i64 2)], (some 48), none⟩,
 ⟨(.callF 5), [.tmp 48], (some 49), none⟩,
 ⟨.move, [.tmp 49], (some 45), none⟩,
 ⟨(.extract 0), [.tmp 45], (some 50), none⟩,
 ⟨(.extract 1), [.tmp 45], (some 51), none⟩,
 ⟨.move, [.tmp 50], (some 8), none⟩,
 ⟨.move, [.tmp 51], (some 9), none⟩])
 (.seq (.seq (.seqR [⟨(.load true 2), [.tmp 7], (some 52), none⟩,
 ⟨.move, [.tmp 8], (some 53), none⟩,
 ⟨(.callF 6), [.tmp 52, .tmp 53], (some 54), none⟩,
 ⟨(.bin .neq), [.tmp 54, .const (.int .i64 0)], (some 55), none⟩])
 (.cond (.tmp 55) (.seq (.seqR [⟨.move, [.const (.bool false)], (some 6), none⟩])
 .ret)
 .skip))
 (.seq (.seqR [⟨(.load true 2), [.tmp 7], (some 57), none⟩,
 ⟨.move, [.tmp 8], (some 58), none⟩,
 ⟨.move, [.tmp 0], (some 59), none⟩,
 ⟨.move, [.tmp 2], (some 60), none⟩,
 ⟨(.callF 7), [.tmp 57, .tmp 58, .tmp 59, .tmp 60, .const (.int .i64 1000)], (some 61), none⟩,
 ⟨.move, [.tmp 61], (some 56), none⟩,
 ⟨(.extract 0), [.tmp 56], (some 62), none⟩,
 ⟨(.extract 1), [.tmp 56], (some 63), none⟩,
 ⟨.move, [.tmp 62], (some 10), none⟩,
 ⟨.move, [.tmp 63], (some 11), none⟩])
 (.seq (.seq (.seqR [⟨.move, [.tmp 11], (some 64), none⟩,
 ⟨.not, [.tmp 64], (some 65), none⟩])
 (.cond (.tmp 65) (.seq (.seqR [⟨.move, [.const (.bool false)], (some 6), none⟩])
 .ret)
 .skip))
 (.seq (.seqR [⟨(.load true 2), [.tmp 7], (some 67), none⟩,
 ⟨.move, [.tmp 8], (some 68), none⟩,
 ⟨(.callF 8), [.tmp 67, .tmp 68], (some 69), none⟩,
 ⟨.move, [.tmp 69], (some 66), none⟩,
 ⟨(.extract 0), [.tmp 66], (some 70), none⟩,
 ⟨(.extract 1), [.tmp 66], (some 71), none⟩,
 ⟨.move, [.tmp 70], (some 12), none⟩,
 ⟨.move, [.tmp 71], (some 13), none⟩])
 (.seq (.seqR [⟨(.load true 2), [.tmp 7], (some 73), none⟩,
 ⟨(.callF 9), [.tmp 73], (some 74), none⟩,
 ⟨.move, [.tmp 8], (some 75), none⟩,
 ⟨(.callF 10), [.tmp 74, .tmp 75], (some 76), none⟩,
 ⟨.move, [.tmp 76], (some 72), none⟩,
 ⟨(.extract 0), [.tmp 72], (some 77), none⟩,
 ⟨(.extract 1), [.tmp 72], (some 78), none⟩,
 ⟨.move, [.tmp 77], (some 14), none⟩,
 ⟨.move, [.tmp 78], (some 15), none⟩])
 (.seq (.seq (.seqR [⟨.move, [.tmp 13], (some 79), none⟩,
 ⟨(.bin .neq), [.tmp 79, .const (.int .i64 0)], (some 80), none⟩,
 ⟨.move, [.tmp 80], (some 81), none⟩,
 ⟨.move, [.tmp 15], (some 82), some (81, false)⟩,
 ⟨(.bin .neq), [.tmp 82, .const (.int .i64 0)], (some 83), some (81, false)⟩,
 ⟨.pick, [.tmp 81, .const (.bool true), .tmp 83], (some 84), none⟩,
 ⟨.move, [.tmp 84], (some 85), none⟩,
 ⟨.move, [.tmp 12], (some 86), some (85, false)⟩,
 ⟨.lenS, [.tmp 86], (some 87), some (85, false)⟩,
 ⟨.move, [.tmp 14], (some 88), some (85, false)⟩,
 ⟨.lenS, [.tmp 88], (some 89), some (85, false)⟩,
 ⟨(.bin .add), [.tmp 87, .tmp 89], (some 90), some (85, false)⟩,
 ⟨.move, [.tmp 1], (some 91), some (85, false)⟩,
 ⟨(.bin .neq), [.tmp 90, .tmp 91], (some 92), some (85, false)⟩,
 ⟨.pick, [.tmp 85, .const (.bool true), .tmp 92], (some 93), none⟩])
 (.cond (.tmp 93) (.seq (.seqR [⟨.move, [.const (.bool false)], (some 6), none⟩])
 .ret)
 .skip))
 (.seq (.seqR [⟨.makeMap, [], (some 94), none⟩,
 ⟨.move, [.tmp 94], (some 16), none⟩])
 (.seq (.seq (.seqR [⟨.move, [.const (.int .i64 0)], (some 17), none⟩])
 (.block 0 (.loop (.seq (.seq (.seqR [⟨.move, [.tmp 17], (some 95), none⟩,
 ⟨.move, [.tmp 12], (some 96), none⟩,
 ⟨.lenS, [.tmp 96], (some 97), none⟩,
 ⟨(.bin .lss), [.tmp 95, .tmp 97], (some 98), none⟩])
 (.cond (.tmp 98) .skip
 (.exit 0)))
 (.seq (.block 1 (.seqR [⟨.move, [.tmp 16], (some 101), none⟩,
 ⟨.move, [.tmp 12], (some 102), none⟩,
 ⟨.move, [.tmp 17], (some 103), none⟩,
 ⟨(.indexAddrS 1), [.tmp 102, .tmp 103], (some 104), none⟩,
 ⟨(.load false 1), [.tmp 104], (some 105), none⟩,
 ⟨(.lookup 0 false (.int .i64 0)), [.tmp 101, .tmp 105], (some 106), none⟩,
 ⟨(.bin .add), [.tmp 106, .const (.int .i64 1)], (some 107), none⟩,
 ⟨(.mapUpdate 0), [.tmp 101, .tmp 105, .tmp 107], none, none⟩]))
 (.seqR [⟨.move, [.tmp 17], (some 99), none⟩,
 ⟨(.bin .add), [.tmp 99, .const (.int .i64 1)], (some 100), none⟩,
 ⟨.move, [.tmp 100], (some 17), none⟩]))))))
 (.seq (.seqR [⟨.move, [.const (.int .i64 0)], (some 18), none⟩])
 (.seq (.seq (.seqR [⟨.move, [.const (.int .i64 0)], (some 19), none⟩])
 (.block 2 (.loop (.seq (.seq (.seqR [⟨.move, [.tmp 19], (some 108), none⟩,
 ⟨.move, [.tmp 10], (some 109), none⟩,
 ⟨.lenS, [.tmp 109], (some 110), none⟩,
 ⟨(.bin .lss), [.tmp 108, .tmp 110], (some 111), none⟩])
 (.cond (.tmp 111) .skip
 (.exit 2)))
 (.seq (.block 3 (.seq (.seqR [⟨.move, [.tmp 10], (some 114), none⟩,
 ⟨.move, [.tmp 19], (some 115), none⟩,
 ⟨(.indexAddrS 5), [.tmp 114, .tmp 115], (some 116), none⟩,
 ⟨(.load true 5), [.tmp 116], (some 117), none⟩,
 ⟨(.new [(.int .i64 0), (.int .i64 0), (.bool false), (.int .u64 0), (.int .i64 0)]), [], (some 20), none⟩,
 ⟨(.store 5), [.tmp 20, .tmp 117], none, none⟩])
 (.seq (.seq (.seqR [⟨(.fieldAddr 2), [.tmp 20], (some 118), none⟩,
 ⟨(.load false 1), [.tmp 118], (some 119), none⟩,
 ⟨.not, [.tmp 119], (some 120), none⟩,
 ⟨.move, [.tmp 120], (some 121), none⟩,
 ⟨(.fieldAddr 4), [.tmp 20], (some 122), some (121, true)⟩,
 ⟨(.load false 1), [.tmp 122], (some 123), some (121, true)⟩,
 ⟨(.bin .eql), [.tmp 123, .const (.int .i64 0)], (some 124), some (121, true)⟩,
 ⟨.pick, [.tmp 121, .tmp 124, .const (.bool false)], (some 125), none⟩])
 (.cond (.tmp 125) (.seqR [⟨.move, [.tmp 16], (some 126), none⟩,
 ⟨(.fieldAddr 3), [.tmp 20], (some 127), none⟩,
 ⟨(.load false 1), [.tmp 127], (some 128), none⟩,
 ⟨(.lookup 0 false (.int .i64 0)), [.tmp 126, .tmp 128], (some 129), none⟩,
 ⟨(.bin .add), [.tmp 129, .const (.int .i64 1)], (some 130), none⟩,
 ⟨(.mapUpdate 0), [.tmp 126, .tmp 128, .tmp 130], none, none⟩])
 .skip))
 (.seq (.seqR [⟨(.fieldAddr 2), [.tmp 20], (some 131), none⟩,
 ⟨(.load false 1), [.tmp 131], (some 132), none⟩,
 ⟨.move, [.tmp 132], (some 133), none⟩,
 ⟨(.fieldAddr 4), [.tmp 20], (some 134), some (133, true)⟩,
 ⟨(.load false 1), [.tmp 134], (some 135), some (133, true)⟩,
 ⟨(.bin .neq), [.tmp 135, .const (.int .i64 0)], (some 136), some (133, true)⟩,
 ⟨.pick, [.tmp 133, .tmp 136, .const (.bool false)], (some 137), none⟩,
 ⟨.move, [.tmp 137], (some 138), none⟩,
 ⟨(.fieldAddr 4), [.tmp 20], (some 139), some (138, true)⟩,
 ⟨(.load false 1), [.tmp 139], (some 140), some (138, true)⟩,
 ⟨(.bin .neq), [.tmp 140, .const (.int .i64 7)], (some 141), some (138, true)⟩,
 ⟨.pick, [.tmp 138, .tmp 141, .const (.bool false)], (some 142), none⟩,
 ⟨.move, [.tmp 142], (some 143), none⟩,
 ⟨(.fieldAddr 2), [.tmp 20], (some 144), some (143, false)⟩,
 ⟨(.load false 1), [.tmp 144], (some 145), some (143, false)⟩,
 ⟨.not, [.tmp 145], (some 146), some (143, false)⟩,
 ⟨.move, [.tmp 146], (some 147), some (143, false)⟩,
 ⟨(.fieldAddr 4), [.tmp 20], (some 148), some (147, true)⟩,
 ⟨(.load false 1), [.tmp 148], (some 149), some (147, true)⟩,
 ⟨(.bin .neq), [.tmp 149, .const (.int .i64 0)], (some 150), some (147, true)⟩,
 ⟨.pick, [.tmp 147, .tmp 150, .const (.bool false)], (some 151), some (143, false)⟩,
 ⟨.move, [.tmp 151], (some 152), some (143, false)⟩,
 ⟨(.fieldAddr 4), [.tmp 20], (some 153), some (152, true)⟩,
 ⟨(.load false 1), [.tmp 153], (some 154), some (152, true)⟩,
 ⟨(.bin .neq), [.tmp 154, .const (.int .i64 5)], (some 155), some (152, true)⟩,
 ⟨.pick, [.tmp 152, .tmp 155, .const (.bool false)], (some 156), some (143, false)⟩,
 ⟨.pick, [.tmp 143, .const (.bool true), .tmp 156], (some 157), none⟩])
 (.cond (.tmp 157) (.seq (.seqR [⟨.move, [.const (.bool false)], (some 6), none⟩])
 .ret)
 .skip)))))
 (.seqR [⟨.move, [.tmp 19], (some 112), none⟩,
 ⟨(.bin .add), [.tmp 112, .const (.int .i64 1)], (some 113), none⟩,
 ⟨.move, [.tmp 113], (some 19), none⟩]))))))
 (.seq (.seq (.seqR [⟨.move, [.const (.int .i64 0)], (some 21), none⟩])
 (.block 4 (.loop (.seq (.seq (.seqR [⟨.move, [.tmp 21], (some 158), none⟩,
 ⟨.move, [.tmp 10], (some 159), none⟩,
 ⟨.lenS, [.tmp 159], (some 160), none⟩,
 ⟨(.bin .lss), [.tmp 158, .tmp 160], (some 161), none⟩])
 (.cond (.tmp 161) .skip
 (.exit 4)))
 (.seq (.block 5 (.seq (.seqR [⟨.move, [.tmp 10], (some 164), none⟩,
 ⟨.move, [.tmp 21], (some 165), none⟩,
 ⟨(.indexAddrS 5), [.tmp 164, .tmp 165], (some 166), none⟩,
 ⟨(.fieldAddr 2), [.tmp 166], (some 167), none⟩,
 ⟨(.load false 1), [.tmp 167], (some 168), none⟩,
 ⟨.move, [.tmp 168], (some 169), none⟩,
 ⟨.move, [.tmp 10], (some 170), some (169, true)⟩,
 ⟨.move, [.tmp 21], (some 171), some (169, true)⟩,
 ⟨(.indexAddrS 5), [.tmp 170, .tmp 171], (some 172), some (169, true)⟩,
 ⟨(.fieldAddr 4), [.tmp 172], (some 173), some (169, true)⟩,
 ⟨(.load false 1), [.tmp 173], (some 174), some (169, true)⟩,
 ⟨(.bin .eql), [.tmp 174, .const (.int .i64 0)], (some 175), some (169, true)⟩,
 ⟨.pick, [.tmp 169, .tmp 175, .const (.bool false)], (some 176), none⟩])
 (.cond (.tmp 176) (.seq (.seqR [⟨.move, [.tmp 18], (some 177), none⟩,
 ⟨(.bin .add), [.tmp 177, .const (.int .i64 1)], (some 178), none⟩,
 ⟨.move, [.tmp 178], (some 18), none⟩])
 (.seq (.seqR [⟨.move, [.tmp 16], (some 179), none⟩,
 ⟨.move, [.tmp 10], (some 180), none⟩,
 ⟨.move, [.tmp 21], (some 181), none⟩,
 ⟨(.indexAddrS 5), [.tmp 180, .tmp 181], (some 182), none⟩,
 ⟨(.fieldAddr 3), [.tmp 182], (some 183), none⟩,
 ⟨(.load false 1), [.tmp 183], (some 184), none⟩,
 ⟨(.lookup 0 false (.int .i64 0)), [.tmp 179, .tmp 184], (some 185), none⟩,
 ⟨(.bin .neq), [.tmp 185, .const (.int .i64 1)], (some 186), none⟩])
 (.cond (.tmp 186) (.seq (.seqR [⟨.move, [.const (.bool false)], (some 6), none⟩])
 .ret)
 .skip)))
 .skip)))
 (.seqR [⟨.move, [.tmp 21], (some 162), none⟩,
 ⟨(.bin .add), [.tmp 162, .const (.int .i64 1)], (some 163), none⟩,
 ⟨.move, [.tmp 163], (some 21), none⟩]))))))
 (.seq (.seqR [⟨.move, [.tmp 16], (some 187), none⟩,
 ⟨.lenM, [.tmp 187], (some 188), none⟩,
 ⟨.move, [.tmp 18], (some 189), none⟩,
 ⟨(.bin .eql), [.tmp 188, .tmp 189], (some 190), none⟩,
 ⟨.move, [.tmp 190], (some 6), none⟩])
 .ret))))))))))))))))), [.tmp 6]⟩
theorem c3_ok : compFunc Try.prog Try.f3 = some c3 := by kernel_rfl
theorem c3_body : hasBody Try.prog 3 = true := hasBody_of Try.func3 (by kernel_rfl)
/-- coachyard/coachyardlaw31.awake -/
def c4 : PFn := ⟨80, Tr.ofList (List.replicate 80 undefA), (.seq (.seqR [⟨.move, [.const (.bool false)], (some 0), none⟩])
 (.seq (.seqR [⟨(.build [(.int .i64 0), (.int .i64 0)] [(1, 1)]), [.const (.int .i64 2)], (some 12), none⟩,
 ⟨(.new [(.int .i64 0), (.int .i64 0)]), [], (some 1), none⟩,
 ⟨(.store 2), [.tmp 1, .tmp 12], none, none⟩])
 (.seq (.seqR [⟨(.callF 5), [.const (.int .i64 8)], (some 14), none⟩,
 ⟨.move, [.tmp 14], (some 13), none⟩,
 ⟨(.extract 0), [.tmp 13], (some 15), none⟩,
 ⟨(.extract 1), [.tmp 13], (some 16), none⟩,
 ⟨.move, [.tmp 15], (some 2), none⟩,
 ⟨.move, [.tmp 16], (some 3), none⟩])
 (.seq (.seqR [⟨.move, [.tmp 2], (some 18), none⟩,
 ⟨(.callF 11), [.tmp 18, .const (.int .i64 1)], (some 19), none⟩,
 ⟨.move, [.tmp 19], (some 17), none⟩,
 ⟨(.extract 0), [.tmp 17], (some 20), none⟩,
 ⟨(.extract 1), [.tmp 17], (some 21), none⟩,
 ⟨.move, [.tmp 20], (some 4), none⟩,
 ⟨.move, [.tmp 21], (some 5), none⟩])
 (.seq (.seq (.seqR [⟨(.load true 2), [.tmp 1], (some 22), none⟩,
 ⟨.move, [.tmp 2], (some 23), none⟩,
 ⟨(.callF 6), [.tmp 22, .tmp 23], (some 24), none⟩,
 ⟨(.bin .neq), [.tmp 24, .const (.int .i64 0)], (some 25), none⟩])
 (.cond (.tmp 25) (.seq (.seqR [⟨.move, [.const (.bool false)], (some 0), none⟩])
 .ret)
 .skip))
 (.seq (.drawR [⟨⟨(.load true 2), [.tmp 1], (some 26), none⟩, false, false, 0, 0⟩,
 ⟨⟨(.callF 12), [.tmp 26, .const (.int .u64 1)], (some 27), none⟩, true, false, 0, 1⟩,
 ⟨⟨(.load true 2), [.tmp 1], (some 28), none⟩, false, false, 0, 1⟩,
 ⟨⟨(.callF 12), [.tmp 28, .const (.int .u64 2)], (some 29), none⟩, true, false, 1, 2⟩,
 ⟨⟨(.load true 2), [.tmp 1], (some 30), none⟩, false, false, 0, 2⟩,
 ⟨⟨(.callF 12), [.tmp 30, .const (.int .u64 3)], (some 31), none⟩, true, false, 2, 3⟩,
 ⟨⟨(.load true 2), [.tmp 1], (some 32), none⟩, false, false, 0, 3⟩,
 ⟨⟨(.callF 13), [.tmp 32], (some 33), none⟩, true, false, 3, 4⟩,
 ⟨⟨(.load true 2), [.tmp 1], (some 34), none⟩, false, false, 0, 4⟩,
 ⟨⟨(.callF 13), [.tmp 34], (some 35), none⟩, true, false, 4, 5⟩,
 ⟨⟨(.load true 2), [.tmp 1], (some 36), none⟩, false, false, 0, 5⟩,
 ⟨⟨(.callF 13), [.tmp 36], (some 37), none⟩, true, false, 5, 6⟩,
 ⟨⟨(.sliceLit 6 [(.ptr none), (.ptr none), (.ptr none), (.ptr none), (.ptr none), (.ptr none)] [(0, 1), (1, 1), (2, 1), (3, 1), (4, 1), (5, 1)]), [.tmp 27, .tmp 29, .tmp 31, .tmp 33, .tmp 35, .tmp 37], (some 38), none⟩, true, false, 6, 7⟩,
 ⟨⟨.move, [.tmp 38], (some 6), none⟩, false, false, 7, 7⟩])
 (.seq (.seqR [⟨(.sliceLit 6 [(.int .i64 0), (.int .i64 0), (.int .i64 0), (.int .i64 0), (.int .i64 0), (.int .i64 0)] [(0, 1), (1, 1), (2, 1), (3, 1), (4, 1), (5, 1)]), [.const (.int .i64 0), .const (.int .i64 0), .const (.int .i64 7), .const (.int .i64 0), .const (.int .i64 0), .const (.int .i64 5)], (some 39), none⟩,
 ⟨.move, [.tmp 39], (some 7), none⟩])
 (.seq (.seqR [⟨(.sliceLit 6 [(.int .u64 0), (.int .u64 0), (.int .u64 0), (.int .u64 0), (.int .u64 0), (.int .u64 0)] [(0, 1), (1, 1), (2, 1), (3, 1), (4, 1), (5, 1)]), [.const (.int .u64 0), .const (.int .u64 0), .const (.int .u64 0), .const (.int .u64 2), .const (.int .u64 1), .const (.int .u64 0)], (some 40), none⟩,
 ⟨.move, [.tmp 40], (some 8), none⟩])
 (.seq (.seq (.seqR [⟨.move, [.const (.int .i64 0)], (some 9), none⟩])
 (.block 0 (.loop (.seq (.seq (.seqR [⟨.move, [.tmp 9], (some 41), none⟩,
 ⟨.move, [.tmp 6], (some 42), none⟩,
 ⟨.lenS, [.tmp 42], (some 43), none⟩,
 ⟨(.bin .lss), [.tmp 41, .tmp 43], (some 44), none⟩])
 (.cond (.tmp 44) .skip
 (.exit 0)))
 (.seq (.block 1 (.seq (.seqR [⟨.move, [.tmp 4], (some 47), none⟩,
 ⟨.move, [.tmp 6], (some 48), none⟩,
 ⟨.move, [.tmp 9], (some 49), none⟩,
 ⟨(.indexAddrS 1), [.tmp 48, .tmp 49], (some 50), none⟩,
 ⟨(.load false 1), [.tmp 50], (some 51), none⟩,
 ⟨(.callF 14), [.tmp 47, .const (.int .i64 0), .tmp 51], (some 52), none⟩])
 (.seq (.seqR [⟨.move, [.tmp 4], (some 53), none⟩,
 ⟨(.callF 15), [.tmp 53, .const (.int .i64 0), .const (.int .i64 60)], (some 54), none⟩])
 (.seq (.seqR [⟨.move, [.tmp 4], (some 56), none⟩,
 ⟨(.callF 16), [.tmp 56, .const (.int .i64 0)], (some 57), none⟩,
 ⟨.move, [.tmp 57], (some 55), none⟩,
 ⟨(.extract 0), [.tmp 55], (some 58), none⟩,
 ⟨(.extract 1), [.tmp 55], (some 59), none⟩,
 ⟨(.new [(.int .i64 0), (.int .u64 0), (.slice none 0 0 false)]), [], (some 10), none⟩,
 ⟨(.store 3), [.tmp 10, .tmp 58], none, none⟩,
 ⟨.move, [.tmp 59], (some 11), none⟩])
 (.seq (.drawR [⟨⟨.move, [.tmp 11], (some 60), none⟩, false, false, 0, 0⟩,
 ⟨⟨.not, [.tmp 60], (some 61), none⟩, false, false, 0, 0⟩,
 ⟨⟨.move, [.tmp 61], (some 62), none⟩, false, false, 0, 0⟩,
 ⟨⟨(.fieldAddr 0), [.tmp 10], (some 63), some (62, false)⟩, false, false, 0, 0⟩,
 ⟨⟨(.load false 1), [.tmp 63], (some 64), some (62, false)⟩, false, false, 0, 0⟩,
 ⟨⟨.move, [.tmp 7], (some 65), some (62, false)⟩, false, false, 0, 0⟩,
 ⟨⟨.move, [.tmp 9], (some 66), some (62, false)⟩, false, false, 0, 0⟩,
 ⟨⟨(.indexAddrS 1), [.tmp 65, .tmp 66], (some 67), some (62, false)⟩, false, false, 0, 0⟩,
 ⟨⟨(.load false 1), [.tmp 67], (some 68), some (62, false)⟩, false, false, 0, 0⟩,
 ⟨⟨(.bin .neq), [.tmp 64, .tmp 68], (some 69), some (62, false)⟩, false, false, 0, 0⟩,
 ⟨⟨.pick, [.tmp 62, .const (.bool true), .tmp 69], (some 70), none⟩, false, false, 0, 0⟩,
 ⟨⟨.move, [.tmp 70], (some 71), none⟩, false, false, 0, 0⟩,
 ⟨⟨(.fieldAddr 1), [.tmp 10], (some 72), some (71, false)⟩, false, false, 0, 0⟩,
 ⟨⟨(.load false 1), [.tmp 72], (some 73), some (71, false)⟩, false, false, 0, 0⟩,
 ⟨⟨.move, [.tmp 8], (some 74), some (71, false)⟩, false, false, 0, 0⟩,
 ⟨⟨.move, [.tmp 9], (some 75), some (71, false)⟩, false, false, 0, 0⟩,
 ⟨⟨(.indexAddrS 1), [.tmp 74, .tmp 75], (some 76), some (71, false)⟩, false, false, 0, 0⟩,
 ⟨⟨(.load false 1), [.tmp 76], (some 77), some (71, false)⟩, false, false, 0, 0⟩,
 ⟨⟨(.bin .neq), [.tmp 73, .tmp 77], (some 78), some (71, false)⟩, false, false, 0, 0⟩,
 ⟨⟨.pick, [.tmp 71, .const (.bool true), .tmp 78], (some 79), none⟩, false, false, 0, 0⟩])
 (.cond (.tmp 79) (.seq (.seqR [⟨.move, [.const (.bool false)], (some 0), none⟩])
 .ret)
 .skip))))))
 (.seqR [⟨.move, [.tmp 9], (some 45), none⟩,
 ⟨(.bin .add), [.tmp 45, .const (.int .i64 1)], (some 46), none⟩,
 ⟨.move, [.tmp 46], (some 9), none⟩]))))))
 (.seq (.seqR [⟨.move, [.const (.bool true)], (some 0), none⟩])
 .ret)))))))))), [.tmp 0]⟩
theorem c4_ok : compFunc Try.prog Try.f4 = some c4 := by kernel_rfl
theorem c4_body : hasBody Try.prog 4 = true := hasBody_of Try.func4 (by kernel_rfl)
/-- coachyard/cells.New -/
def c5 : PFn := ⟨14, Tr.ofList (List.replicate 14 undefA), (.seq (.seqR [⟨.move, [.const (.ptr none)], (some 2), none⟩,
 ⟨.move, [.const (.int .i64 0)], (some 3), none⟩])
 (.seq (.seq (.seqR [⟨.move, [.tmp 0], (some 4), none⟩,
 ⟨(.bin .lss), [.tmp 4, .const (.int .i64 1)], (some 5), none⟩,
 ⟨.move, [.tmp 5], (some 6), none⟩,
 ⟨.move, [.tmp 0], (some 7), some (6, false)⟩,
 ⟨(.bin .gtr), [.tmp 7, .const (.int .i64 65536)], (some 8), some (6, false)⟩,
 ⟨.pick, [.tmp 6, .const (.bool true), .tmp 8], (some 9), none⟩])
 (.cond (.tmp 9) (.seq (.seqR [⟨.move, [.const (.ptr none)], (some 2), none⟩,
 ⟨.move, [.const (.int .i64 2)], (some 3), none⟩])
 .ret)
 .skip))
 (.seq (.seqR [⟨.move, [.tmp 0], (some 10), none⟩,
 ⟨(.makeSlice 1 8 [(.int .u64 0)]), [.tmp 10, .tmp 10], (some 11), none⟩,
 ⟨(.build [(.slice none 0 0 false)] [(0, 1)]), [.tmp 11], (some 12), none⟩,
 ⟨.box, [.tmp 12], (some 13), none⟩,
 ⟨.move, [.tmp 13], (some 2), none⟩,
 ⟨.move, [.const (.int .i64 0)], (some 3), none⟩])
 .ret))), [.tmp 2, .tmp 3]⟩
theorem c5_ok : compFunc Try.prog Try.f5 = some c5 := by kernel_rfl
theorem c5_body : hasBody Try.prog 5 = true := hasBody_of Try.func5 (by kernel_rfl)
/-- (coachyard/stack.Pile).Init -/
def c6 : PFn := ⟨32, Tr.ofList (List.replicate 32 undefA), (.seq (.seqR [⟨.box, [.tmp 0], (some 2), none⟩,
 ⟨.move, [.const (.int .i64 0)], (some 4), none⟩])
 (.seq (.seq (.seqR [⟨(.load true 2), [.tmp 2], (some 7), none⟩,
 ⟨.move, [.tmp 1], (some 8), none⟩,
 ⟨(.callF 17), [.tmp 7, .tmp 8], (some 9), none⟩,
 ⟨.move, [.tmp 9], (some 5), none⟩])
 (.seq (.seqR [⟨.move, [.tmp 5], (some 10), none⟩,
 ⟨(.bin .neq), [.tmp 10, .const (.int .i64 0)], (some 11), none⟩])
 (.cond (.tmp 11) (.seq (.seqR [⟨.move, [.tmp 5], (some 12), none⟩,
 ⟨.move, [.tmp 12], (some 4), none⟩])
 .ret)
 .skip)))
 (.seq (.seq (.seqR [⟨(.fieldAddr 1), [.tmp 2], (some 13), none⟩,
 ⟨(.load false 1), [.tmp 13], (some 14), none⟩,
 ⟨(.bin .mul), [.const (.int .i64 3), .tmp 14], (some 15), none⟩,
 ⟨(.bin .add), [.tmp 15, .const (.int .i64 2)], (some 16), none⟩,
 ⟨.move, [.const (.int .i64 0)], (some 17), none⟩])
 (.block 0 (.loop (.seq (.seqR [⟨(.bin .lss), [.tmp 17, .tmp 16], (some 18), none⟩])
 (.seq (.cond (.tmp 18) .skip
 (.exit 0))
 (.seq (.block 1 (.seq (.seqR [⟨.move, [.tmp 17], (some 19), none⟩,
 ⟨.move, [.tmp 19], (some 6), none⟩])
 (.seqR [⟨.move, [.tmp 1], (some 20), none⟩,
 ⟨(.fieldAddr 0), [.tmp 2], (some 21), none⟩,
 ⟨(.load false 1), [.tmp 21], (some 22), none⟩,
 ⟨.move, [.tmp 6], (some 23), none⟩,
 ⟨(.bin .add), [.tmp 22, .tmp 23], (some 24), none⟩,
 ⟨(.build [(.int .i64 0), (.int .i64 0), (.int .u64 0), (.int .u64 0)] [(0, 1), (1, 1)]), [.const (.int .i64 2), .tmp 24], (some 25), none⟩,
 ⟨(.callF 18), [.tmp 20, .tmp 25], (some 26), none⟩])))
 (.seqR [⟨(.bin .add), [.tmp 17, .const (.int .i64 1)], (some 27), none⟩,
 ⟨.move, [.tmp 27], (some 17), none⟩])))))))
 (.seq (.seqR [⟨(.load true 2), [.tmp 2], (some 28), none⟩,
 ⟨(.callF 9), [.tmp 28], (some 29), none⟩,
 ⟨.move, [.tmp 1], (some 30), none⟩,
 ⟨(.callF 19), [.tmp 29, .tmp 30, .const (.int .i64 1)], (some 31), none⟩,
 ⟨.move, [.tmp 31], (some 4), none⟩])
 .ret)))), [.tmp 4]⟩
theorem c6_ok : compFunc Try.prog Try.f6 = some c6 := by kernel_rfl
theorem c6_body : hasBody Try.prog 6 = true := hasBody_of Try.func6 (by kernel_rfl)
/-- coachyard/coachyardlaw31.play -/
def c7 : PFn := ⟨154, Tr.ofList (List.replicate 154 undefA), (.seq (.seqR [⟨.box, [.tmp 0], (some 5), none⟩,
 ⟨.move, [.const (.slice none 0 0 false)], (some 10), none⟩,
 ⟨.move, [.const (.bool false)], (some 11), none⟩])
 (.seq (.seqR [⟨.move, [.tmp 1], (some 27), none⟩,
 ⟨.move, [.tmp 2], (some 28), none⟩,
 ⟨(.callF 11), [.tmp 27, .tmp 28], (some 29), none⟩,
 ⟨.move, [.tmp 29], (some 26), none⟩,
 ⟨(.extract 0), [.tmp 26], (some 30), none⟩,
 ⟨(.extract 1), [.tmp 26], (some 31), none⟩,
 ⟨.move, [.tmp 30], (some 12), none⟩,
 ⟨.move, [.tmp 31], (some 13), none⟩])
 (.seq (.seq (.seqR [⟨.move, [.tmp 13], (some 32), none⟩,
 ⟨(.bin .neq), [.tmp 32, .const (.int .i64 0)], (some 33), none⟩])
 (.cond (.tmp 33) (.seq (.seqR [⟨.move, [.const (.slice none 0 0 false)], (some 10), none⟩,
 ⟨.move, [.const (.bool false)], (some 11), none⟩])
 .ret)
 .skip))
 (.seq (.seqR [⟨(.sliceLit 0 [] []), [], (some 34), none⟩,
 ⟨.move, [.tmp 34], (some 14), none⟩])
 (.seq (.seqR [⟨.move, [.tmp 2], (some 35), none⟩,
 ⟨(.makeSlice 1 8 [(.int .i64 0)]), [.tmp 35, .tmp 35], (some 36), none⟩,
 ⟨.move, [.tmp 36], (some 15), none⟩])
 (.seq (.seqR [⟨.move, [.const (.int .u64 1)], (some 16), none⟩])
 (.seq (.seq (.seqR [⟨.move, [.const (.int .i64 0)], (some 17), none⟩])
 (.block 0 (.loop (.seq (.seq (.seqR [⟨.move, [.tmp 17], (some 37), none⟩,
 ⟨.move, [.tmp 3], (some 38), none⟩,
 ⟨.lenS, [.tmp 38], (some 39), none⟩,
 ⟨.move, [.tmp 2], (some 40), none⟩,
 ⟨(.bin .mul), [.const (.int .i64 100), .tmp 40], (some 41), none⟩,
 ⟨(.bin .add), [.tmp 39, .tmp 41], (some 42), none⟩,
 ⟨(.bin .lss), [.tmp 37, .tmp 42], (some 43), none⟩])
 (.cond (.tmp 43) .skip
 (.exit 0)))
 (.seq (.block 1 (.seq (.seqR [⟨.move, [.tmp 17], (some 46), none⟩,
 ⟨.move, [.tmp 3], (some 47), none⟩,
 ⟨.lenS, [.tmp 47], (some 48), none⟩,
 ⟨(.bin .geq), [.tmp 46, .tmp 48], (some 49), none⟩,
 ⟨.move, [.tmp 49], (some 18), none⟩])
 (.seq (.seqR [⟨.move, [.const (.int .i64 0)], (some 19), none⟩])
 (.seq (.seq (.seqR [⟨.move, [.tmp 18], (some 50), none⟩])
 (.cond (.tmp 50) (.seqR [⟨.move, [.tmp 17], (some 51), none⟩,
 ⟨.move, [.tmp 3], (some 52), none⟩,
 ⟨.lenS, [.tmp 52], (some 53), none⟩,
 ⟨(.bin .sub), [.tmp 51, .tmp 53], (some 54), none⟩,
 ⟨(.bin .quo), [.tmp 54, .const (.int .i64 100)], (some 55), none⟩,
 ⟨.move, [.tmp 55], (some 19), none⟩])
 (.seqR [⟨.move, [.tmp 3], (some 56), none⟩,
 ⟨.move, [.tmp 17], (some 57), none⟩,
 ⟨(.indexAddrS 1), [.tmp 56, .tmp 57], (some 58), none⟩,
 ⟨(.load false 1), [.tmp 58], (some 59), none⟩,
 ⟨(.conv .i64), [.tmp 59], (some 60), none⟩,
 ⟨.move, [.tmp 2], (some 61), none⟩,
 ⟨(.bin .rem), [.tmp 60, .tmp 61], (some 62), none⟩,
 ⟨.move, [.tmp 62], (some 19), none⟩])))
 (.seq (.seq (.seqR [⟨.move, [.tmp 12], (some 63), none⟩,
 ⟨.move, [.tmp 19], (some 64), none⟩,
 ⟨(.callF 20), [.tmp 63, .tmp 64], (some 65), none⟩,
 ⟨.not, [.tmp 65], (some 66), none⟩])
 (.cond (.tmp 66) (.seq (.seq (.seqR [⟨.move, [.tmp 18], (some 67), none⟩,
 ⟨.move, [.tmp 67], (some 68), none⟩,
 ⟨.move, [.tmp 14], (some 69), some (68, false)⟩,
 ⟨.lenS, [.tmp 69], (some 70), some (68, false)⟩,
 ⟨.move, [.tmp 4], (some 71), some (68, false)⟩,
 ⟨(.bin .eql), [.tmp 70, .tmp 71], (some 72), some (68, false)⟩,
 ⟨.pick, [.tmp 68, .const (.bool true), .tmp 72], (some 73), none⟩])
 (.cond (.tmp 73) (.exit 1)
 .skip))
 (.seq (.seqR [⟨.move, [.tmp 17], (some 74), none⟩,
 ⟨.move, [.tmp 3], (some 75), none⟩,
 ⟨.move, [.tmp 17], (some 76), none⟩,
 ⟨(.indexAddrS 1), [.tmp 75, .tmp 76], (some 77), none⟩,
 ⟨(.load false 1), [.tmp 77], (some 78), none⟩,
 ⟨(.bin .geq), [.tmp 78, .const (.int .u8 120)], (some 79), none⟩,
 ⟨(.build [(.int .i64 0), (.int .i64 0), (.bool false), (.int .u64 0), (.int .i64 0)] [(0, 1), (1, 1), (2, 1)]), [.tmp 74, .const (.int .i64 (-1)), .tmp 79], (some 80), none⟩,
 ⟨(.new [(.int .i64 0), (.int .i64 0), (.bool false), (.int .u64 0), (.int .i64 0)]), [], (some 20), none⟩,
 ⟨(.store 5), [.tmp 20, .tmp 80], none, none⟩])
 (.seq (.seqR [⟨(.load true 2), [.tmp 5], (some 81), none⟩,
 ⟨(.callF 13), [.tmp 81], (some 82), none⟩,
 ⟨.move, [.tmp 82], (some 21), none⟩])
 (.seq (.seq (.seqR [⟨(.fieldAddr 2), [.tmp 20], (some 83), none⟩,
 ⟨(.load false 1), [.tmp 83], (some 84), none⟩])
 (.cond (.tmp 84) (.seq (.seqR [⟨.move, [.tmp 16], (some 85), none⟩,
 ⟨(.fieldAddr 3), [.tmp 20], (some 86), none⟩,
 ⟨(.store 1), [.tmp 86, .tmp 85], none, none⟩])
 (.seq (.seqR [⟨.move, [.tmp 16], (some 87), none⟩,
 ⟨(.bin .add), [.tmp 87, .const (.int .u64 1)], (some 88), none⟩,
 ⟨.move, [.tmp 88], (some 16), none⟩])
 (.seqR [⟨(.load true 2), [.tmp 5], (some 89), none⟩,
 ⟨(.fieldAddr 3), [.tmp 20], (some 90), none⟩,
 ⟨(.load false 1), [.tmp 90], (some 91), none⟩,
 ⟨(.callF 12), [.tmp 89, .tmp 91], (some 92), none⟩,
 ⟨.move, [.tmp 92], (some 21), none⟩])))
 .skip))
 (.seq (.seqR [⟨.move, [.tmp 15], (some 93), none⟩,
 ⟨.move, [.tmp 19], (some 94), none⟩,
 ⟨.move, [.tmp 14], (some 95), none⟩,
 ⟨.lenS, [.tmp 95], (some 96), none⟩,
 ⟨(.indexAddrS 1), [.tmp 93, .tmp 94], (some 97), none⟩,
 ⟨(.store 1), [.tmp 97, .tmp 96], none, none⟩])
 (.seq (.seqR [⟨.move, [.tmp 14], (some 98), none⟩,
 ⟨(.load true 5), [.tmp 20], (some 99), none⟩,
 ⟨(.sliceLit 1 [(.int .i64 0), (.int .i64 0), (.bool false), (.int .u64 0), (.int .i64 0)] [(0, 5)]), [.tmp 99], (some 100), none⟩,
 ⟨(.append 5 40), [.tmp 98, .tmp 100], (some 101), none⟩,
 ⟨.move, [.tmp 101], (some 14), none⟩])
 (.seq (.seqR [⟨.move, [.tmp 12], (some 102), none⟩,
 ⟨.move, [.tmp 19], (some 103), none⟩,
 ⟨.move, [.tmp 21], (some 104), none⟩,
 ⟨(.callF 14), [.tmp 102, .tmp 103, .tmp 104], (some 105), none⟩,
 ⟨(.bin .neq), [.tmp 105, .const (.int .i64 0)], (some 106), none⟩])
 (.cond (.tmp 106) (.seq (.seqR [⟨.move, [.const (.slice none 0 0 false)], (some 10), none⟩,
 ⟨.move, [.const (.bool false)], (some 11), none⟩])
 .ret)
 .skip))))))))
 .skip))
 (.seq (.seq (.seqR [⟨.move, [.tmp 12], (some 107), none⟩,
 ⟨.move, [.tmp 19], (some 108), none⟩,
 ⟨(.callF 21), [.tmp 107, .tmp 108], (some 109), none⟩,
 ⟨(.bin .neq), [.tmp 109, .const (.int .i64 0)], (some 110), none⟩])
 (.cond (.tmp 110) (.seq (.seqR [⟨.move, [.const (.slice none 0 0 false)], (some 10), none⟩,
 ⟨.move, [.const (.bool false)], (some 11), none⟩])
 .ret)
 .skip))
 (.seq (.seqR [⟨.move, [.tmp 12], (some 112), none⟩,
 ⟨.move, [.tmp 19], (some 113), none⟩,
 ⟨(.callF 16), [.tmp 112, .tmp 113], (some 114), none⟩,
 ⟨.move, [.tmp 114], (some 111), none⟩,
 ⟨(.extract 0), [.tmp 111], (some 115), none⟩,
 ⟨(.extract 1), [.tmp 111], (some 116), none⟩,
 ⟨(.new [(.int .i64 0), (.int .u64 0), (.slice none 0 0 false)]), [], (some 22), none⟩,
 ⟨(.store 3), [.tmp 22, .tmp 115], none, none⟩,
 ⟨.move, [.tmp 116], (some 23), none⟩])
 (.seq (.seqR [⟨.move, [.tmp 23], (some 117), none⟩])
 (.cond (.tmp 117) (.seq (.seqR [⟨.move, [.tmp 15], (some 118), none⟩,
 ⟨.move, [.tmp 19], (some 119), none⟩,
 ⟨(.indexAddrS 1), [.tmp 118, .tmp 119], (some 120), none⟩,
 ⟨(.load false 1), [.tmp 120], (some 121), none⟩,
 ⟨.move, [.tmp 121], (some 24), none⟩])
 (.seq (.seqR [⟨.move, [.tmp 14], (some 122), none⟩,
 ⟨.move, [.tmp 24], (some 123), none⟩,
 ⟨.move, [.tmp 17], (some 124), none⟩,
 ⟨(.indexAddrS 5), [.tmp 122, .tmp 123], (some 125), none⟩,
 ⟨(.fieldAddr 1), [.tmp 125], (some 126), none⟩,
 ⟨(.store 1), [.tmp 126, .tmp 124], none, none⟩])
 (.seq (.seqR [⟨.move, [.tmp 14], (some 127), none⟩,
 ⟨.move, [.tmp 24], (some 128), none⟩,
 ⟨(.fieldAddr 0), [.tmp 22], (some 129), none⟩,
 ⟨(.load false 1), [.tmp 129], (some 130), none⟩,
 ⟨(.indexAddrS 5), [.tmp 127, .tmp 128], (some 131), none⟩,
 ⟨(.fieldAddr 4), [.tmp 131], (some 132), none⟩,
 ⟨(.store 1), [.tmp 132, .tmp 130], none, none⟩])
 (.seq (.seqR [⟨.move, [.tmp 14], (some 133), none⟩,
 ⟨.move, [.tmp 24], (some 134), none⟩,
 ⟨(.indexAddrS 5), [.tmp 133, .tmp 134], (some 135), none⟩,
 ⟨(.fieldAddr 2), [.tmp 135], (some 136), none⟩,
 ⟨(.load false 1), [.tmp 136], (some 137), none⟩,
 ⟨.not, [.tmp 137], (some 138), none⟩])
 (.cond (.tmp 138) (.seqR [⟨.move, [.tmp 14], (some 139), none⟩,
 ⟨.move, [.tmp 24], (some 140), none⟩,
 ⟨(.fieldAddr 1), [.tmp 22], (some 141), none⟩,
 ⟨(.load false 1), [.tmp 141], (some 142), none⟩,
 ⟨(.indexAddrS 5), [.tmp 139, .tmp 140], (some 143), none⟩,
 ⟨(.fieldAddr 3), [.tmp 143], (some 144), none⟩,
 ⟨(.store 1), [.tmp 144, .tmp 142], none, none⟩])
 .skip)))))
 .skip)))))))))
 (.seqR [⟨.move, [.tmp 17], (some 44), none⟩,
 ⟨(.bin .add), [.tmp 44, .const (.int .i64 1)], (some 45), none⟩,
 ⟨.move, [.tmp 45], (some 17), none⟩]))))))
 (.seq (.seq (.seqR [⟨.move, [.const (.int .i64 0)], (some 25), none⟩])
 (.block 2 (.loop (.seq (.seq (.seqR [⟨.move, [.tmp 25], (some 145), none⟩,
 ⟨.move, [.tmp 2], (some 146), none⟩,
 ⟨(.bin .lss), [.tmp 145, .tmp 146], (some 147), none⟩])
 (.cond (.tmp 147) .skip
 (.exit 2)))
 (.seq (.block 3 (.seq (.seqR [⟨.move, [.tmp 12], (some 150), none⟩,
 ⟨.move, [.tmp 25], (some 151), none⟩,
 ⟨(.callF 20), [.tmp 150, .tmp 151], (some 152), none⟩])
 (.cond (.tmp 152) (.seq (.seqR [⟨.move, [.const (.slice none 0 0 false)], (some 10), none⟩,
 ⟨.move, [.const (.bool false)], (some 11), none⟩])
 .ret)
 .skip)))
 (.seqR [⟨.move, [.tmp 25], (some 148), none⟩,
 ⟨(.bin .add), [.tmp 148, .const (.int .i64 1)], (some 149), none⟩,
 ⟨.move, [.tmp 149], (some 25), none⟩]))))))
 (.seq (.seqR [⟨.move, [.tmp 14], (some 153), none⟩,
 ⟨.move, [.tmp 153], (some 10), none⟩,
 ⟨.move, [.const (.bool true)], (some 11), none⟩])
 .ret))))))))), [.tmp 10, .tmp 11]⟩
theorem c7_ok : compFunc Try.prog Try.f7 = some c7 := by kernel_rfl
theorem c7_body : hasBody Try.prog 7 = true := hasBody_of Try.func7 (by kernel_rfl)
/-- (coachyard/stack.Pile).All -/
def c8 : PFn := ⟨56, Tr.ofList (List.replicate 56 undefA), (.seq (.seqR [⟨.box, [.tmp 0], (some 2), none⟩,
 ⟨.move, [.const (.slice none 0 0 false)], (some 4), none⟩,
 ⟨.move, [.const (.int .i64 0)], (some 5), none⟩])
 (.seq (.seq (.seqR [⟨(.load true 2), [.tmp 2], (some 11), none⟩,
 ⟨.move, [.tmp 1], (some 12), none⟩,
 ⟨(.callF 17), [.tmp 11, .tmp 12], (some 13), none⟩,
 ⟨.move, [.tmp 13], (some 6), none⟩])
 (.seq (.seqR [⟨.move, [.tmp 6], (some 14), none⟩,
 ⟨(.bin .neq), [.tmp 14, .const (.int .i64 0)], (some 15), none⟩])
 (.cond (.tmp 15) (.seq (.seqR [⟨.move, [.tmp 6], (some 16), none⟩,
 ⟨.move, [.const (.slice none 0 0 false)], (some 4), none⟩,
 ⟨.move, [.tmp 16], (some 5), none⟩])
 .ret)
 .skip)))
 (.seq (.seqR [⟨.move, [.tmp 1], (some 17), none⟩,
 ⟨(.callF 22), [.tmp 17], (some 18), none⟩,
 ⟨.move, [.tmp 18], (some 7), none⟩])
 (.seq (.seqR [⟨.makeMap, [], (some 19), none⟩,
 ⟨.move, [.tmp 19], (some 8), none⟩])
 (.seq (.seqR [⟨.move, [.const (.slice none 0 0 false)], (some 9), none⟩])
 (.seq (.seq (.seqR [⟨.move, [.tmp 7], (some 20), none⟩,
 ⟨(.fieldAddr 0), [.tmp 2], (some 21), none⟩,
 ⟨(.load false 1), [.tmp 21], (some 22), none⟩,
 ⟨(.indexAddrS 1), [.tmp 20, .tmp 22], (some 23), none⟩,
 ⟨(.load false 1), [.tmp 23], (some 24), none⟩,
 ⟨(.callF 23), [.tmp 24], (some 25), none⟩,
 ⟨.move, [.tmp 25], (some 10), none⟩])
 (.block 0 (.loop (.seq (.seq (.seqR [⟨.move, [.tmp 10], (some 26), none⟩,
 ⟨(.bin .neq), [.tmp 26, .const (.int .u32 0)], (some 27), none⟩])
 (.cond (.tmp 27) .skip
 (.exit 0)))
 (.seq (.block 1 (.seq (.seq (.seqR [⟨(.load true 2), [.tmp 2], (some 35), none⟩,
 ⟨.move, [.tmp 10], (some 36), none⟩,
 ⟨(.callF 25), [.tmp 35, .tmp 36], (some 37), none⟩,
 ⟨.not, [.tmp 37], (some 38), none⟩,
 ⟨.move, [.tmp 38], (some 39), none⟩,
 ⟨.move, [.tmp 8], (some 40), some (39, false)⟩,
 ⟨.move, [.tmp 10], (some 41), some (39, false)⟩,
 ⟨(.lookup 0 false (.bool false)), [.tmp 40, .tmp 41], (some 42), some (39, false)⟩,
 ⟨.pick, [.tmp 39, .const (.bool true), .tmp 42], (some 43), none⟩])
 (.cond (.tmp 43) (.seq (.seqR [⟨.move, [.const (.slice none 0 0 false)], (some 4), none⟩,
 ⟨.move, [.const (.int .i64 9)], (some 5), none⟩])
 .ret)
 .skip))
 (.seq (.seqR [⟨.move, [.tmp 8], (some 44), none⟩,
 ⟨.move, [.tmp 10], (some 45), none⟩,
 ⟨(.mapUpdate 0), [.tmp 44, .tmp 45, .const (.bool true)], none, none⟩])
 (.seqR [⟨.move, [.tmp 9], (some 46), none⟩,
 ⟨.move, [.tmp 7], (some 47), none⟩,
 ⟨(.load true 2), [.tmp 2], (some 48), none⟩,
 ⟨.move, [.tmp 10], (some 49), none⟩,
 ⟨(.callF 26), [.tmp 48, .tmp 49], (some 50), none⟩,
 ⟨(.indexAddrS 1), [.tmp 47, .tmp 50], (some 51), none⟩,
 ⟨(.load false 1), [.tmp 51], (some 52), none⟩,
 ⟨(.sliceLit 1 [(.int .u64 0)] [(0, 1)]), [.tmp 52], (some 53), none⟩,
 ⟨(.append 1 8), [.tmp 46, .tmp 53], (some 54), none⟩,
 ⟨.move, [.tmp 54], (some 9), none⟩]))))
 (.seqR [⟨.move, [.tmp 7], (some 28), none⟩,
 ⟨(.load true 2), [.tmp 2], (some 29), none⟩,
 ⟨.move, [.tmp 10], (some 30), none⟩,
 ⟨(.callF 24), [.tmp 29, .tmp 30], (some 31), none⟩,
 ⟨(.indexAddrS 1), [.tmp 28, .tmp 31], (some 32), none⟩,
 ⟨(.load false 1), [.tmp 32], (some 33), none⟩,
 ⟨(.callF 23), [.tmp 33], (some 34), none⟩,
 ⟨.move, [.tmp 34], (some 10), none⟩]))))))
 (.seq (.seqR [⟨.move, [.tmp 9], (some 55), none⟩,
 ⟨.move, [.tmp 55], (some 4), none⟩,
 ⟨.move, [.const (.int .i64 0)], (some 5), none⟩])
 .ret))))))), [.tmp 4, .tmp 5]⟩
theorem c8_ok : compFunc Try.prog Try.f8 = some c8 := by kernel_rfl
theorem c8_body : hasBody Try.prog 8 = true := hasBody_of Try.func8 (by kernel_rfl)
/-- (coachyard/stack.Pile).Arena -/
def c9 : PFn := ⟨9, Tr.ofList (List.replicate 9 undefA), (.seq (.seqR [⟨.box, [.tmp 0], (some 1), none⟩,
 ⟨(.new [(.int .i64 0), (.int .i64 0)]), [], (some 2), none⟩])
 (.seq (.seqR [⟨(.fieldAddr 0), [.tmp 1], (some 3), none⟩,
 ⟨(.load false 1), [.tmp 3], (some 4), none⟩,
 ⟨(.bin .add), [.tmp 4, .const (.int .i64 1)], (some 5), none⟩,
 ⟨(.fieldAddr 1), [.tmp 1], (some 6), none⟩,
 ⟨(.load false 1), [.tmp 6], (some 7), none⟩,
 ⟨(.build [(.int .i64 0), (.int .i64 0)] [(0, 1), (1, 1)]), [.tmp 5, .tmp 7], (some 8), none⟩,
 ⟨(.store 2), [.tmp 2, .tmp 8], none, none⟩])
 .ret)), [.cell 2 true 2]⟩
theorem c9_ok : compFunc Try.prog Try.f9 = some c9 := by kernel_rfl
theorem c9_body : hasBody Try.prog 9 = true := hasBody_of Try.func9 (by kernel_rfl)
/-- (coachyard/arena.Arena).Free -/
def c10 : PFn := ⟨63, Tr.ofList (List.replicate 63 undefA), (.seq (.seqR [⟨.box, [.tmp 0], (some 2), none⟩,
 ⟨.move, [.const (.slice none 0 0 false)], (some 4), none⟩,
 ⟨.move, [.const (.int .i64 0)], (some 5), none⟩])
 (.seq (.seq (.seqR [⟨(.load true 2), [.tmp 2], (some 11), none⟩,
 ⟨.move, [.tmp 1], (some 12), none⟩,
 ⟨(.callF 27), [.tmp 11, .tmp 12], (some 13), none⟩,
 ⟨.move, [.tmp 13], (some 6), none⟩])
 (.seq (.seqR [⟨.move, [.tmp 6], (some 14), none⟩,
 ⟨(.bin .neq), [.tmp 14, .const (.int .i64 0)], (some 15), none⟩])
 (.cond (.tmp 15) (.seq (.seqR [⟨.move, [.tmp 6], (some 16), none⟩,
 ⟨.move, [.const (.slice none 0 0 false)], (some 4), none⟩,
 ⟨.move, [.tmp 16], (some 5), none⟩])
 .ret)
 .skip)))
 (.seq (.drawR [⟨⟨.move, [.tmp 1], (some 17), none⟩, false, false, 0, 0⟩,
 ⟨⟨(.callF 22), [.tmp 17], (some 18), none⟩, true, false, 0, 1⟩,
 ⟨⟨(.fieldAddr 0), [.tmp 2], (some 19), none⟩, false, false, 0, 1⟩,
 ⟨⟨(.load false 1), [.tmp 19], (some 20), none⟩, false, false, 0, 1⟩,
 ⟨⟨(.fieldAddr 0), [.tmp 2], (some 21), none⟩, false, false, 0, 1⟩,
 ⟨⟨(.load false 1), [.tmp 21], (some 22), none⟩, false, false, 0, 1⟩,
 ⟨⟨(.fieldAddr 1), [.tmp 2], (some 23), none⟩, false, false, 0, 1⟩,
 ⟨⟨(.load false 1), [.tmp 23], (some 24), none⟩, false, false, 0, 1⟩,
 ⟨⟨(.bin .add), [.tmp 22, .tmp 24], (some 25), none⟩, false, false, 0, 1⟩,
 ⟨⟨(.bin .add), [.tmp 25, .const (.int .i64 1)], (some 26), none⟩, false, false, 0, 1⟩,
 ⟨⟨(.slice 1 true true false), [.tmp 18, .tmp 20, .tmp 26], (some 27), none⟩, false, false, 1, 1⟩,
 ⟨⟨.move, [.tmp 27], (some 7), none⟩, false, false, 1, 1⟩])
 (.seq (.seqR [⟨.move, [.const (.slice none 0 0 false)], (some 8), none⟩])
 (.seq (.seqR [⟨(.fieldAddr 1), [.tmp 2], (some 28), none⟩,
 ⟨(.load false 1), [.tmp 28], (some 29), none⟩,
 ⟨(.bin .add), [.tmp 29, .const (.int .i64 1)], (some 30), none⟩,
 ⟨(.makeSlice 1 1 [(.bool false)]), [.tmp 30, .tmp 30], (some 31), none⟩,
 ⟨.move, [.tmp 31], (some 9), none⟩])
 (.seq (.seq (.seqR [⟨.move, [.tmp 7], (some 32), none⟩,
 ⟨(.indexAddrS 1), [.tmp 32, .const (.int .i64 0)], (some 33), none⟩,
 ⟨(.load false 1), [.tmp 33], (some 34), none⟩,
 ⟨(.callF 28), [.tmp 34], (some 35), none⟩,
 ⟨.move, [.tmp 35], (some 10), none⟩])
 (.block 0 (.loop (.seq (.seq (.seqR [⟨.move, [.tmp 10], (some 36), none⟩,
 ⟨(.bin .neq), [.tmp 36, .const (.int .u32 0)], (some 37), none⟩])
 (.cond (.tmp 37) .skip
 (.exit 0)))
 (.seq (.block 1 (.seq (.seq (.seqR [⟨.move, [.tmp 10], (some 43), none⟩,
 ⟨(.conv .i64), [.tmp 43], (some 44), none⟩,
 ⟨(.fieldAddr 1), [.tmp 2], (some 45), none⟩,
 ⟨(.load false 1), [.tmp 45], (some 46), none⟩,
 ⟨(.bin .gtr), [.tmp 44, .tmp 46], (some 47), none⟩,
 ⟨.move, [.tmp 47], (some 48), none⟩,
 ⟨.move, [.tmp 9], (some 49), some (48, false)⟩,
 ⟨.move, [.tmp 10], (some 50), some (48, false)⟩,
 ⟨(.indexAddrS 1), [.tmp 49, .tmp 50], (some 51), some (48, false)⟩,
 ⟨(.load false 1), [.tmp 51], (some 52), some (48, false)⟩,
 ⟨.pick, [.tmp 48, .const (.bool true), .tmp 52], (some 53), none⟩])
 (.cond (.tmp 53) (.seq (.seqR [⟨.move, [.const (.slice none 0 0 false)], (some 4), none⟩,
 ⟨.move, [.const (.int .i64 9)], (some 5), none⟩])
 .ret)
 .skip))
 (.seq (.seqR [⟨.move, [.tmp 9], (some 54), none⟩,
 ⟨.move, [.tmp 10], (some 55), none⟩,
 ⟨(.indexAddrS 1), [.tmp 54, .tmp 55], (some 56), none⟩,
 ⟨(.store 1), [.tmp 56, .const (.bool true)], none, none⟩])
 (.seqR [⟨.move, [.tmp 8], (some 57), none⟩,
 ⟨.move, [.tmp 10], (some 58), none⟩,
 ⟨(.conv .i64), [.tmp 58], (some 59), none⟩,
 ⟨(.sliceLit 1 [(.int .i64 0)] [(0, 1)]), [.tmp 59], (some 60), none⟩,
 ⟨(.append 1 8), [.tmp 57, .tmp 60], (some 61), none⟩,
 ⟨.move, [.tmp 61], (some 8), none⟩]))))
 (.seqR [⟨.move, [.tmp 7], (some 38), none⟩,
 ⟨.move, [.tmp 10], (some 39), none⟩,
 ⟨(.indexAddrS 1), [.tmp 38, .tmp 39], (some 40), none⟩,
 ⟨(.load false 1), [.tmp 40], (some 41), none⟩,
 ⟨(.callF 28), [.tmp 41], (some 42), none⟩,
 ⟨.move, [.tmp 42], (some 10), none⟩]))))))
 (.seq (.seqR [⟨.move, [.tmp 8], (some 62), none⟩,
 ⟨.move, [.tmp 62], (some 4), none⟩,
 ⟨.move, [.const (.int .i64 0)], (some 5), none⟩])
 .ret))))))), [.tmp 4, .tmp 5]⟩
theorem c10_ok : compFunc Try.prog Try.f10 = some c10 := by kernel_rfl
theorem c10_body : hasBody Try.prog 10 = true := hasBody_of Try.func10 (by kernel_rfl)
/-- coachyard/loom.New -/
def c11 : PFn := ⟨21, Tr.ofList (List.replicate 21 undefA), (.seq (.seqR [⟨.move, [.const (.ptr none)], (some 4), none⟩,
 ⟨.move, [.const (.int .i64 0)], (some 5), none⟩])
 (.seq (.block 0 (.seq (.seqR [⟨.move, [.tmp 0], (some 7), none⟩,
 ⟨(.eqPtr false), [.tmp 7, .const (.ptr none)], (some 8), none⟩,
 ⟨.move, [.tmp 8], (some 6), none⟩])
 (.cond (.tmp 6) (.seq (.seqR [⟨.move, [.const (.ptr none)], (some 4), none⟩,
 ⟨.move, [.const (.int .i64 1)], (some 5), none⟩])
 .ret)
 (.seq (.seqR [⟨.move, [.tmp 1], (some 10), none⟩,
 ⟨(.bin .lss), [.tmp 10, .const (.int .i64 1)], (some 11), none⟩,
 ⟨.move, [.tmp 11], (some 12), none⟩,
 ⟨.move, [.tmp 1], (some 13), some (12, false)⟩,
 ⟨(.bin .gtr), [.tmp 13, .const (.int .i64 16)], (some 14), some (12, false)⟩,
 ⟨.pick, [.tmp 12, .const (.bool true), .tmp 14], (some 15), none⟩,
 ⟨.move, [.tmp 15], (some 9), none⟩])
 (.cond (.tmp 9) (.seq (.seqR [⟨.move, [.const (.ptr none)], (some 4), none⟩,
 ⟨.move, [.const (.int .i64 2)], (some 5), none⟩])
 .ret)
 .skip)))))
 (.seq (.seqR [⟨.move, [.tmp 0], (some 16), none⟩,
 ⟨.move, [.tmp 1], (some 17), none⟩,
 ⟨(.makeSlice 1 8 [(.ptr none)]), [.tmp 17, .tmp 17], (some 18), none⟩,
 ⟨(.build [(.ptr none), (.slice none 0 0 false), (.int .i64 0)] [(0, 1), (1, 1)]), [.tmp 16, .tmp 18], (some 19), none⟩,
 ⟨.box, [.tmp 19], (some 20), none⟩,
 ⟨.move, [.tmp 20], (some 4), none⟩,
 ⟨.move, [.const (.int .i64 0)], (some 5), none⟩])
 .ret))), [.tmp 4, .tmp 5]⟩
theorem c11_ok : compFunc Try.prog Try.f11 = some c11 := by kernel_rfl
theorem c11_body : hasBody Try.prog 11 = true := hasBody_of Try.func11 (by kernel_rfl)
/-- (coachyard/stack.Pile).Push -/
def c12 : PFn := ⟨8, Tr.ofList (List.replicate 8 undefA), (.seq (.seqR [⟨.box, [.tmp 0], (some 2), none⟩,
 ⟨.box, [.tmp 1], (some 3), none⟩,
 ⟨.move, [.const (.ptr none)], (some 4), none⟩])
 (.seq (.seqR [⟨(.load true 2), [.tmp 2], (some 5), none⟩,
 ⟨(.mkFunc (.func 30) 0), [.tmp 3, .tmp 2], (some 6), none⟩,
 ⟨(.callF 29), [.tmp 5, .tmp 6], (some 7), none⟩,
 ⟨.move, [.tmp 7], (some 4), none⟩])
 .ret)), [.tmp 4]⟩
theorem c12_ok : compFunc Try.prog Try.f12 = some c12 := by kernel_rfl
theorem c12_body : hasBody Try.prog 12 = true := hasBody_of Try.func12 (by kernel_rfl)
/-- (coachyard/stack.Pile).Pop -/
def c13 : PFn := ⟨6, Tr.ofList (List.replicate 6 undefA), (.seq (.seqR [⟨.box, [.tmp 0], (some 1), none⟩,
 ⟨.move, [.const (.ptr none)], (some 2), none⟩])
 (.seq (.seqR [⟨(.load true 2), [.tmp 1], (some 3), none⟩,
 ⟨(.mkFunc (.func 35) 0), [.tmp 1], (some 4), none⟩,
 ⟨(.callF 29), [.tmp 3, .tmp 4], (some 5), none⟩,
 ⟨.move, [.tmp 5], (some 2), none⟩])
 .ret)), [.tmp 2]⟩
theorem c13_ok : compFunc Try.prog Try.f13 = some c13 := by kernel_rfl
theorem c13_body : hasBody Try.prog 13 = true := hasBody_of Try.func13 (by kernel_rfl)
/-- (*coachyard/loom.Loom).Start -/
def c14 : PFn := ⟨30, Tr.ofList (List.replicate 30 undefA), (.seq (.seqR [⟨.move, [.const (.int .i64 0)], (some 6), none⟩])
 (.seq (.seq (.seqR [⟨.move, [.tmp 0], (some 8), none⟩,
 ⟨(.eqPtr false), [.tmp 8, .const (.ptr none)], (some 9), none⟩,
 ⟨.move, [.tmp 9], (some 10), none⟩,
 ⟨.move, [.tmp 2], (some 11), some (10, false)⟩,
 ⟨(.eqPtr false), [.tmp 11, .const (.ptr none)], (some 12), some (10, false)⟩,
 ⟨.pick, [.tmp 10, .const (.bool true), .tmp 12], (some 13), none⟩])
 (.cond (.tmp 13) (.seq (.seqR [⟨.move, [.const (.int .i64 1)], (some 6), none⟩])
 .ret)
 .skip))
 (.seq (.seq (.seqR [⟨.move, [.tmp 0], (some 14), none⟩,
 ⟨.move, [.tmp 1], (some 15), none⟩,
 ⟨(.callF 38), [.tmp 14, .tmp 15], (some 16), none⟩,
 ⟨.move, [.tmp 16], (some 7), none⟩])
 (.seq (.seqR [⟨.move, [.tmp 7], (some 17), none⟩,
 ⟨(.bin .neq), [.tmp 17, .const (.int .i64 0)], (some 18), none⟩])
 (.cond (.tmp 18) (.seq (.seqR [⟨.move, [.tmp 7], (some 19), none⟩,
 ⟨.move, [.tmp 19], (some 6), none⟩])
 .ret)
 .skip)))
 (.seq (.seq (.seqR [⟨.move, [.tmp 0], (some 20), none⟩,
 ⟨.move, [.tmp 1], (some 21), none⟩,
 ⟨(.callF 20), [.tmp 20, .tmp 21], (some 22), none⟩])
 (.cond (.tmp 22) (.seq (.seqR [⟨.move, [.const (.int .i64 8)], (some 6), none⟩])
 .ret)
 .skip))
 (.seq (.seqR [⟨.move, [.tmp 0], (some 23), none⟩,
 ⟨.nilCheck, [.tmp 23], (some 24), none⟩,
 ⟨(.fieldAddr 1), [.tmp 24], (some 25), none⟩,
 ⟨(.load false 1), [.tmp 25], (some 26), none⟩,
 ⟨.move, [.tmp 1], (some 27), none⟩,
 ⟨.move, [.tmp 2], (some 28), none⟩,
 ⟨(.indexAddrS 1), [.tmp 26, .tmp 27], (some 29), none⟩,
 ⟨(.store 1), [.tmp 29, .tmp 28], none, none⟩])
 (.seq (.seqR [⟨.move, [.const (.int .i64 0)], (some 6), none⟩])
 .ret)))))), [.tmp 6]⟩
theorem c14_ok : compFunc Try.prog Try.f14 = some c14 := by kernel_rfl
theorem c14_body : hasBody Try.prog 14 = true := hasBody_of Try.func14 (by kernel_rfl)
/-- (*coachyard/loom.Loom).Alone -/
def c15 : PFn := ⟨59, Tr.ofList (List.replicate 59 undefA), (.seq (.seqR [⟨.move, [.const (.int .i64 0)], (some 6), none⟩,
 ⟨.move, [.const (.int .i64 0)], (some 7), none⟩])
 (.seq (.seq (.seqR [⟨.move, [.tmp 0], (some 13), none⟩,
 ⟨.move, [.tmp 1], (some 14), none⟩,
 ⟨(.callF 39), [.tmp 13, .tmp 14], (some 15), none⟩,
 ⟨.move, [.tmp 15], (some 12), none⟩,
 ⟨(.extract 0), [.tmp 12], (some 16), none⟩,
 ⟨(.extract 1), [.tmp 12], (some 17), none⟩,
 ⟨(.new [(.int .i64 0), (.int .i64 0), (.int .u64 0), (.int .u64 0)]), [], (some 8), none⟩,
 ⟨(.store 4), [.tmp 8, .tmp 16], none, none⟩,
 ⟨.move, [.tmp 17], (some 9), none⟩])
 (.seq (.seqR [⟨.move, [.tmp 9], (some 18), none⟩,
 ⟨(.bin .neq), [.tmp 18, .const (.int .i64 0)], (some 19), none⟩,
 ⟨.move, [.tmp 19], (some 20), none⟩,
 ⟨.move, [.tmp 9], (some 21), some (20, true)⟩,
 ⟨(.bin .neq), [.tmp 21, .const (.int .i64 11)], (some 22), some (20, true)⟩,
 ⟨.pick, [.tmp 20, .tmp 22, .const (.bool false)], (some 23), none⟩])
 (.cond (.tmp 23) (.seq (.seqR [⟨.move, [.tmp 9], (some 24), none⟩,
 ⟨.move, [.const (.int .i64 0)], (some 6), none⟩,
 ⟨.move, [.tmp 24], (some 7), none⟩])
 .ret)
 .skip)))
 (.seq (.seqR [⟨.move, [.const (.int .i64 0)], (some 10), none⟩])
 (.seq (.block 0 (.loop (.seq (.seq (.seqR [⟨.move, [.tmp 10], (some 25), none⟩,
 ⟨.move, [.tmp 2], (some 26), none⟩,
 ⟨(.bin .lss), [.tmp 25, .tmp 26], (some 27), none⟩])
 (.cond (.tmp 27) .skip
 (.exit 0)))
 (.seq (.block 1 (.seq (.seqR [⟨.move, [.tmp 0], (some 30), none⟩,
 ⟨.move, [.tmp 1], (some 31), none⟩,
 ⟨(.callF 21), [.tmp 30, .tmp 31], (some 32), none⟩,
 ⟨.move, [.tmp 32], (some 11), none⟩])
 (.block 2 (.seq (.seqR [⟨.move, [.tmp 11], (some 34), none⟩,
 ⟨(.bin .eql), [.tmp 34, .const (.int .i64 9)], (some 35), none⟩,
 ⟨.move, [.tmp 35], (some 33), none⟩])
 (.cond (.tmp 33) (.seq (.seqR [⟨.move, [.tmp 10], (some 36), none⟩,
 ⟨(.bin .add), [.tmp 36, .const (.int .i64 1)], (some 37), none⟩,
 ⟨.move, [.tmp 37], (some 6), none⟩,
 ⟨.move, [.const (.int .i64 0)], (some 7), none⟩])
 .ret)
 (.seq (.seqR [⟨.move, [.tmp 11], (some 39), none⟩,
 ⟨(.bin .eql), [.tmp 39, .const (.int .i64 10)], (some 40), none⟩,
 ⟨.move, [.tmp 40], (some 41), none⟩,
 ⟨.move, [.tmp 0], (some 42), some (41, true)⟩,
 ⟨.move, [.tmp 1], (some 43), some (41, true)⟩,
 ⟨(.callF 20), [.tmp 42, .tmp 43], (some 44), some (41, true)⟩,
 ⟨.not, [.tmp 44], (some 45), some (41, true)⟩,
 ⟨.pick, [.tmp 41, .tmp 45, .const (.bool false)], (some 46), none⟩,
 ⟨.move, [.tmp 46], (some 38), none⟩])
 (.cond (.tmp 38) (.seq (.seqR [⟨.move, [.tmp 10], (some 47), none⟩,
 ⟨.move, [.tmp 47], (some 6), none⟩,
 ⟨.move, [.const (.int .i64 0)], (some 7), none⟩])
 .ret)
 (.seq (.seqR [⟨.move, [.tmp 11], (some 49), none⟩,
 ⟨(.bin .neq), [.tmp 49, .const (.int .i64 0)], (some 50), none⟩,
 ⟨.move, [.tmp 50], (some 48), none⟩])
 (.cond (.tmp 48) (.seq (.seqR [⟨.move, [.tmp 10], (some 51), none⟩,
 ⟨.move, [.tmp 11], (some 52), none⟩,
 ⟨.move, [.tmp 51], (some 6), none⟩,
 ⟨.move, [.tmp 52], (some 7), none⟩])
 .ret)
 .skip)))))))))
 (.seqR [⟨.move, [.tmp 10], (some 28), none⟩,
 ⟨(.bin .add), [.tmp 28, .const (.int .i64 1)], (some 29), none⟩,
 ⟨.move, [.tmp 29], (some 10), none⟩])))))
 (.seq (.seq (.seqR [⟨.move, [.tmp 0], (some 53), none⟩,
 ⟨.move, [.tmp 1], (some 54), none⟩,
 ⟨(.callF 20), [.tmp 53, .tmp 54], (some 55), none⟩,
 ⟨.not, [.tmp 55], (some 56), none⟩])
 (.cond (.tmp 56) (.seq (.seqR [⟨.move, [.tmp 10], (some 57), none⟩,
 ⟨.move, [.tmp 57], (some 6), none⟩,
 ⟨.move, [.const (.int .i64 0)], (some 7), none⟩])
 .ret)
 .skip))
 (.seq (.seqR [⟨.move, [.tmp 10], (some 58), none⟩,
 ⟨.move, [.tmp 58], (some 6), none⟩,
 ⟨.move, [.const (.int .i64 14)], (some 7), none⟩])
 .ret)))))), [.tmp 6, .tmp 7]⟩
theorem c15_ok : compFunc Try.prog Try.f15 = some c15 := by kernel_rfl
theorem c15_body : hasBody Try.prog 15 = true := hasBody_of Try.func15 (by kernel_rfl)
/-- (*coachyard/loom.Loom).Result -/
def c16 : PFn := ⟨21, Tr.ofList (List.replicate 21 undefA), (.seq (.seqR [⟨(.new [(.int .i64 0), (.int .u64 0), (.slice none 0 0 false)]), [], (some 4), none⟩,
 ⟨.move, [.const (.bool false)], (some 5), none⟩])
 (.seq (.seq (.seqR [⟨.move, [.tmp 0], (some 6), none⟩,
 ⟨.move, [.tmp 1], (some 7), none⟩,
 ⟨(.callF 38), [.tmp 6, .tmp 7], (some 8), none⟩,
 ⟨(.bin .neq), [.tmp 8, .const (.int .i64 0)], (some 9), none⟩])
 (.cond (.tmp 9) (.seq (.seqR [⟨(.build [(.int .i64 0), (.int .u64 0), (.slice none 0 0 false)] []), [], (some 10), none⟩,
 ⟨(.store 3), [.tmp 4, .tmp 10], none, none⟩,
 ⟨.move, [.const (.bool false)], (some 5), none⟩])
 .ret)
 .skip))
 (.seq (.seqR [⟨.move, [.tmp 0], (some 11), none⟩,
 ⟨.nilCheck, [.tmp 11], (some 12), none⟩,
 ⟨(.fieldAddr 1), [.tmp 12], (some 13), none⟩,
 ⟨(.load false 1), [.tmp 13], (some 14), none⟩,
 ⟨.move, [.tmp 1], (some 15), none⟩,
 ⟨(.indexAddrS 1), [.tmp 14, .tmp 15], (some 16), none⟩,
 ⟨(.load false 1), [.tmp 16], (some 17), none⟩,
 ⟨(.callF 40), [.tmp 17], (some 18), none⟩,
 ⟨(.extract 0), [.tmp 18], (some 19), none⟩,
 ⟨(.extract 1), [.tmp 18], (some 20), none⟩,
 ⟨(.store 3), [.tmp 4, .tmp 19], none, none⟩,
 ⟨.move, [.tmp 20], (some 5), none⟩])
 .ret))), [.cell 4 true 3, .tmp 5]⟩
theorem c16_ok : compFunc Try.prog Try.f16 = some c16 := by kernel_rfl
theorem c16_body : hasBody Try.prog 16 = true := hasBody_of Try.func16 (by kernel_rfl)
/-- (coachyard/stack.Pile).check -/
def c17 : PFn := ⟨23, Tr.ofList (List.replicate 23 undefA), (.seq (.seqR [⟨.box, [.tmp 0], (some 2), none⟩,
 ⟨.move, [.const (.int .i64 0)], (some 4), none⟩])
 (.seq (.block 0 (.seq (.seqR [⟨.move, [.tmp 1], (some 6), none⟩,
 ⟨(.eqPtr false), [.tmp 6, .const (.ptr none)], (some 7), none⟩,
 ⟨.move, [.tmp 7], (some 5), none⟩])
 (.cond (.tmp 5) (.seq (.seqR [⟨.move, [.const (.int .i64 1)], (some 4), none⟩])
 .ret)
 (.seq (.seqR [⟨(.load true 2), [.tmp 2], (some 9), none⟩,
 ⟨(.callF 41), [.tmp 9], (some 10), none⟩,
 ⟨.not, [.tmp 10], (some 11), none⟩,
 ⟨.move, [.tmp 11], (some 8), none⟩])
 (.cond (.tmp 8) (.seq (.seqR [⟨.move, [.const (.int .i64 2)], (some 4), none⟩])
 .ret)
 (.seq (.drawR [⟨⟨.move, [.tmp 1], (some 13), none⟩, false, false, 0, 0⟩,
 ⟨⟨(.callF 42), [.tmp 13], (some 14), none⟩, true, false, 0, 1⟩,
 ⟨⟨(.fieldAddr 0), [.tmp 2], (some 15), none⟩, false, false, 0, 1⟩,
 ⟨⟨(.load false 1), [.tmp 15], (some 16), none⟩, false, false, 0, 1⟩,
 ⟨⟨(.fieldAddr 1), [.tmp 2], (some 17), none⟩, false, false, 0, 1⟩,
 ⟨⟨(.load false 1), [.tmp 17], (some 18), none⟩, false, false, 0, 1⟩,
 ⟨⟨(.bin .mul), [.const (.int .i64 3), .tmp 18], (some 19), none⟩, false, false, 0, 1⟩,
 ⟨⟨(.bin .add), [.tmp 16, .tmp 19], (some 20), none⟩, false, false, 0, 1⟩,
 ⟨⟨(.bin .add), [.tmp 20, .const (.int .i64 1)], (some 21), none⟩, false, false, 0, 1⟩,
 ⟨⟨(.bin .leq), [.tmp 14, .tmp 21], (some 22), none⟩, false, false, 1, 1⟩,
 ⟨⟨.move, [.tmp 22], (some 12), none⟩, false, false, 1, 1⟩])
 (.cond (.tmp 12) (.seq (.seqR [⟨.move, [.const (.int .i64 3)], (some 4), none⟩])
 .ret)
 .skip)))))))
 (.seq (.seqR [⟨.move, [.const (.int .i64 0)], (some 4), none⟩])
 .ret))), [.tmp 4]⟩
theorem c17_ok : compFunc Try.prog Try.f17 = some c17 := by kernel_rfl
theorem c17_body : hasBody Try.prog 17 = true := hasBody_of Try.func17 (by kernel_rfl)
/-- (*coachyard/cells.Mem).Do -/
def c18 : PFn := ⟨58, Tr.ofList (List.replicate 58 undefA), (.seq (.seqR [⟨.box, [.tmp 1], (some 3), none⟩,
 ⟨.move, [.const (.int .u64 0)], (some 4), none⟩,
 ⟨.move, [.const (.bool false)], (some 5), none⟩,
 ⟨.move, [.const (.int .i64 0)], (some 6), none⟩])
 (.seq (.seq (.seqR [⟨.move, [.tmp 0], (some 11), none⟩,
 ⟨(.eqPtr false), [.tmp 11, .const (.ptr none)], (some 12), none⟩])
 (.cond (.tmp 12) (.seq (.seqR [⟨.move, [.const (.int .u64 0)], (some 4), none⟩,
 ⟨.move, [.const (.bool false)], (some 5), none⟩,
 ⟨.move, [.const (.int .i64 1)], (some 6), none⟩])
 .ret)
 .skip))
 (.seq (.seqR [⟨(.fieldAddr 0), [.tmp 3], (some 13), none⟩,
 ⟨(.load false 1), [.tmp 13], (some 14), none⟩,
 ⟨(.callF 43), [.tmp 14], (some 15), none⟩,
 ⟨.move, [.tmp 15], (some 7), none⟩])
 (.seq (.block 0 (.seq (.seqR [⟨.move, [.tmp 7], (some 17), none⟩,
 ⟨(.eqNil 2 false), [.tmp 17, .const .nilFunc], (some 18), none⟩,
 ⟨.move, [.tmp 18], (some 16), none⟩])
 (.cond (.tmp 16) (.seq (.seqR [⟨.move, [.const (.int .u64 0)], (some 4), none⟩,
 ⟨.move, [.const (.bool false)], (some 5), none⟩,
 ⟨.move, [.const (.int .i64 2)], (some 6), none⟩])
 .ret)
 (.seq (.drawR [⟨⟨(.fieldAddr 1), [.tmp 3], (some 20), none⟩, false, false, 0, 0⟩,
 ⟨⟨(.load false 1), [.tmp 20], (some 21), none⟩, false, false, 0, 0⟩,
 ⟨⟨(.bin .lss), [.tmp 21, .const (.int .i64 0)], (some 22), none⟩, false, false, 0, 0⟩,
 ⟨⟨.move, [.tmp 22], (some 23), none⟩, false, false, 0, 0⟩,
 ⟨⟨(.fieldAddr 1), [.tmp 3], (some 24), some (23, false)⟩, false, false, 0, 0⟩,
 ⟨⟨(.load false 1), [.tmp 24], (some 25), some (23, false)⟩, false, false, 0, 0⟩,
 ⟨⟨.move, [.tmp 0], (some 26), some (23, false)⟩, false, false, 0, 0⟩,
 ⟨⟨.nilCheck, [.tmp 26], (some 27), some (23, false)⟩, false, false, 0, 0⟩,
 ⟨⟨(.fieldAddr 0), [.tmp 27], (some 28), some (23, false)⟩, false, false, 0, 0⟩,
 ⟨⟨(.load false 1), [.tmp 28], (some 29), some (23, false)⟩, false, false, 0, 0⟩,
 ⟨⟨.lenS, [.tmp 29], (some 30), some (23, false)⟩, false, false, 0, 0⟩,
 ⟨⟨(.bin .geq), [.tmp 25, .tmp 30], (some 31), some (23, false)⟩, false, false, 0, 0⟩,
 ⟨⟨.pick, [.tmp 23, .const (.bool true), .tmp 31], (some 32), none⟩, false, false, 0, 0⟩,
 ⟨⟨.move, [.tmp 32], (some 19), none⟩, false, false, 0, 0⟩])
 (.cond (.tmp 19) (.seq (.seqR [⟨.move, [.const (.int .u64 0)], (some 4), none⟩,
 ⟨.move, [.const (.bool false)], (some 5), none⟩,
 ⟨.move, [.const (.int .i64 3)], (some 6), none⟩])
 .ret)
 .skip)))))
 (.seq (.drawR [⟨⟨.move, [.tmp 0], (some 33), none⟩, false, false, 0, 0⟩,
 ⟨⟨.nilCheck, [.tmp 33], (some 34), none⟩, false, false, 0, 0⟩,
 ⟨⟨(.fieldAddr 0), [.tmp 34], (some 35), none⟩, false, false, 0, 0⟩,
 ⟨⟨(.load false 1), [.tmp 35], (some 36), none⟩, false, false, 0, 0⟩,
 ⟨⟨(.fieldAddr 1), [.tmp 3], (some 37), none⟩, false, false, 0, 0⟩,
 ⟨⟨(.load false 1), [.tmp 37], (some 38), none⟩, false, false, 0, 0⟩,
 ⟨⟨(.indexAddrS 1), [.tmp 36, .tmp 38], (some 39), none⟩, false, false, 0, 0⟩,
 ⟨⟨(.load false 1), [.tmp 39], (some 40), none⟩, false, false, 0, 0⟩,
 ⟨⟨.move, [.tmp 40], (some 8), none⟩, false, false, 0, 0⟩])
 (.seq (.seqR [⟨.move, [.tmp 7], (some 42), none⟩,
 ⟨.move, [.tmp 8], (some 43), none⟩,
 ⟨(.load true 4), [.tmp 3], (some 44), none⟩,
 ⟨.callV, [.tmp 42, .tmp 43, .tmp 44], (some 45), none⟩,
 ⟨.move, [.tmp 45], (some 41), none⟩,
 ⟨(.extract 0), [.tmp 41], (some 46), none⟩,
 ⟨(.extract 1), [.tmp 41], (some 47), none⟩,
 ⟨.move, [.tmp 46], (some 9), none⟩,
 ⟨.move, [.tmp 47], (some 10), none⟩])
 (.seq (.drawR [⟨⟨.move, [.tmp 0], (some 48), none⟩, false, false, 0, 0⟩,
 ⟨⟨.nilCheck, [.tmp 48], (some 49), none⟩, false, false, 0, 0⟩,
 ⟨⟨(.fieldAddr 0), [.tmp 49], (some 50), none⟩, false, false, 0, 0⟩,
 ⟨⟨(.load false 1), [.tmp 50], (some 51), none⟩, false, false, 0, 0⟩,
 ⟨⟨(.fieldAddr 1), [.tmp 3], (some 52), none⟩, false, false, 0, 0⟩,
 ⟨⟨(.load false 1), [.tmp 52], (some 53), none⟩, false, false, 0, 0⟩,
 ⟨⟨.move, [.tmp 9], (some 54), none⟩, false, false, 0, 0⟩,
 ⟨⟨(.indexAddrS 1), [.tmp 51, .tmp 53], (some 55), none⟩, false, false, 0, 0⟩,
 ⟨⟨(.store 1), [.tmp 55, .tmp 54], none, none⟩, true, false, 0, 1⟩])
 (.seq (.seqR [⟨.move, [.tmp 8], (some 56), none⟩,
 ⟨.move, [.tmp 10], (some 57), none⟩,
 ⟨.move, [.tmp 56], (some 4), none⟩,
 ⟨.move, [.tmp 57], (some 5), none⟩,
 ⟨.move, [.const (.int .i64 0)], (some 6), none⟩])
 .ret)))))))), [.tmp 4, .tmp 5, .tmp 6]⟩
theorem c18_ok : compFunc Try.prog Try.f18 = some c18 := by kernel_rfl
theorem c18_body : hasBody Try.prog 18 = true := hasBody_of Try.func18 (by kernel_rfl)
/-- (coachyard/arena.Arena).Init -/
def c19 : PFn := ⟨72, Tr.ofList (List.replicate 72 undefA), (.seq (.seqR [⟨.box, [.tmp 0], (some 3), none⟩,
 ⟨.move, [.const (.int .i64 0)], (some 6), none⟩])
 (.seq (.seqR [⟨(.load true 2), [.tmp 3], (some 11), none⟩,
 ⟨.move, [.tmp 1], (some 12), none⟩,
 ⟨(.callF 27), [.tmp 11, .tmp 12], (some 13), none⟩,
 ⟨.move, [.tmp 13], (some 7), none⟩])
 (.seq (.seq (.seqR [⟨.move, [.tmp 7], (some 14), none⟩,
 ⟨(.bin .eql), [.tmp 14, .const (.int .i64 1)], (some 15), none⟩])
 (.cond (.tmp 15) (.seq (.seqR [⟨.move, [.tmp 7], (some 16), none⟩,
 ⟨.move, [.tmp 16], (some 6), none⟩])
 .ret)
 .skip))
 (.seq (.seq (.seqR [⟨(.load true 2), [.tmp 3], (some 17), none⟩,
 ⟨(.callF 44), [.tmp 17], (some 18), none⟩,
 ⟨.not, [.tmp 18], (some 19), none⟩,
 ⟨.move, [.tmp 19], (some 20), none⟩,
 ⟨.move, [.tmp 2], (some 21), some (20, false)⟩,
 ⟨(.bin .lss), [.tmp 21, .const (.int .i64 1)], (some 22), some (20, false)⟩,
 ⟨.pick, [.tmp 20, .const (.bool true), .tmp 22], (some 23), none⟩,
 ⟨.move, [.tmp 23], (some 24), none⟩,
 ⟨.move, [.tmp 2], (some 25), some (24, false)⟩,
 ⟨(.fieldAddr 1), [.tmp 3], (some 26), some (24, false)⟩,
 ⟨(.load false 1), [.tmp 26], (some 27), some (24, false)⟩,
 ⟨(.bin .add), [.tmp 27, .const (.int .i64 1)], (some 28), some (24, false)⟩,
 ⟨(.bin .gtr), [.tmp 25, .tmp 28], (some 29), some (24, false)⟩,
 ⟨.pick, [.tmp 24, .const (.bool true), .tmp 29], (some 30), none⟩])
 (.cond (.tmp 30) (.seq (.seqR [⟨.move, [.const (.int .i64 2)], (some 6), none⟩])
 .ret)
 .skip))
 (.seq (.seq (.seqR [⟨.move, [.tmp 7], (some 31), none⟩,
 ⟨(.bin .neq), [.tmp 31, .const (.int .i64 0)], (some 32), none⟩])
 (.cond (.tmp 32) (.seq (.seqR [⟨.move, [.tmp 7], (some 33), none⟩,
 ⟨.move, [.tmp 33], (some 6), none⟩])
 .ret)
 .skip))
 (.seq (.seqR [⟨.move, [.const (.int .u64 0)], (some 8), none⟩])
 (.seq (.seq (.seqR [⟨.move, [.tmp 2], (some 34), none⟩,
 ⟨(.fieldAddr 1), [.tmp 3], (some 35), none⟩,
 ⟨(.load false 1), [.tmp 35], (some 36), none⟩,
 ⟨(.bin .leq), [.tmp 34, .tmp 36], (some 37), none⟩])
 (.cond (.tmp 37) (.seqR [⟨.move, [.tmp 2], (some 38), none⟩,
 ⟨(.conv .u64), [.tmp 38], (some 39), none⟩,
 ⟨.move, [.tmp 39], (some 8), none⟩])
 .skip))
 (.seq (.seqR [⟨.move, [.tmp 1], (some 40), none⟩,
 ⟨(.fieldAddr 0), [.tmp 3], (some 41), none⟩,
 ⟨(.load false 1), [.tmp 41], (some 42), none⟩,
 ⟨.move, [.tmp 8], (some 43), none⟩,
 ⟨(.build [(.int .i64 0), (.int .i64 0), (.int .u64 0), (.int .u64 0)] [(0, 1), (1, 1), (2, 1)]), [.const (.int .i64 2), .tmp 42, .tmp 43], (some 44), none⟩,
 ⟨(.callF 18), [.tmp 40, .tmp 44], (some 45), none⟩])
 (.seq (.seq (.seqR [⟨.move, [.const (.int .i64 1)], (some 9), none⟩])
 (.block 0 (.loop (.seq (.seq (.seqR [⟨.move, [.tmp 9], (some 46), none⟩,
 ⟨(.fieldAddr 1), [.tmp 3], (some 47), none⟩,
 ⟨(.load false 1), [.tmp 47], (some 48), none⟩,
 ⟨(.bin .leq), [.tmp 46, .tmp 48], (some 49), none⟩])
 (.cond (.tmp 49) .skip
 (.exit 0)))
 (.seq (.block 1 (.seq (.seqR [⟨.move, [.const (.int .u64 0)], (some 10), none⟩])
 (.seq (.seq (.seqR [⟨.move, [.tmp 9], (some 52), none⟩,
 ⟨.move, [.tmp 2], (some 53), none⟩,
 ⟨(.bin .geq), [.tmp 52, .tmp 53], (some 54), none⟩,
 ⟨.move, [.tmp 54], (some 55), none⟩,
 ⟨.move, [.tmp 9], (some 56), some (55, true)⟩,
 ⟨(.fieldAddr 1), [.tmp 3], (some 57), some (55, true)⟩,
 ⟨(.load false 1), [.tmp 57], (some 58), some (55, true)⟩,
 ⟨(.bin .lss), [.tmp 56, .tmp 58], (some 59), some (55, true)⟩,
 ⟨.pick, [.tmp 55, .tmp 59, .const (.bool false)], (some 60), none⟩])
 (.cond (.tmp 60) (.seqR [⟨.move, [.tmp 9], (some 61), none⟩,
 ⟨(.conv .u64), [.tmp 61], (some 62), none⟩,
 ⟨(.bin .add), [.tmp 62, .const (.int .u64 1)], (some 63), none⟩,
 ⟨.move, [.tmp 63], (some 10), none⟩])
 .skip))
 (.seqR [⟨.move, [.tmp 1], (some 64), none⟩,
 ⟨(.fieldAddr 0), [.tmp 3], (some 65), none⟩,
 ⟨(.load false 1), [.tmp 65], (some 66), none⟩,
 ⟨.move, [.tmp 9], (some 67), none⟩,
 ⟨(.bin .add), [.tmp 66, .tmp 67], (some 68), none⟩,
 ⟨.move, [.tmp 10], (some 69), none⟩,
 ⟨(.build [(.int .i64 0), (.int .i64 0), (.int .u64 0), (.int .u64 0)] [(0, 1), (1, 1), (2, 1)]), [.const (.int .i64 2), .tmp 68, .tmp 69], (some 70), none⟩,
 ⟨(.callF 18), [.tmp 64, .tmp 70], (some 71), none⟩]))))
 (.seqR [⟨.move, [.tmp 9], (some 50), none⟩,
 ⟨(.bin .add), [.tmp 50, .const (.int .i64 1)], (some 51), none⟩,
 ⟨.move, [.tmp 51], (some 9), none⟩]))))))
 (.seq (.seqR [⟨.move, [.const (.int .i64 0)], (some 6), none⟩])
 .ret)))))))))), [.tmp 6]⟩
theorem c19_ok : compFunc Try.prog Try.f19 = some c19 := by kernel_rfl
theorem c19_body : hasBody Try.prog 19 = true := hasBody_of Try.func19 (by kernel_rfl)
/-- (*coachyard/loom.Loom).Busy -/
def c20 : PFn := ⟨34, Tr.ofList (List.replicate 34 undefA), (.seq (.seqR [⟨.move, [.const (.bool false)], (some 4), none⟩])
 (.seq (.seq (.seqR [⟨.move, [.tmp 0], (some 7), none⟩,
 ⟨.move, [.tmp 1], (some 8), none⟩,
 ⟨(.callF 38), [.tmp 7, .tmp 8], (some 9), none⟩,
 ⟨(.bin .neq), [.tmp 9, .const (.int .i64 0)], (some 10), none⟩,
 ⟨.move, [.tmp 10], (some 11), none⟩,
 ⟨.move, [.tmp 0], (some 12), some (11, false)⟩,
 ⟨.nilCheck, [.tmp 12], (some 13), some (11, false)⟩,
 ⟨(.fieldAddr 1), [.tmp 13], (some 14), some (11, false)⟩,
 ⟨(.load false 1), [.tmp 14], (some 15), some (11, false)⟩,
 ⟨.move, [.tmp 1], (some 16), some (11, false)⟩,
 ⟨(.indexAddrS 1), [.tmp 15, .tmp 16], (some 17), some (11, false)⟩,
 ⟨(.load false 1), [.tmp 17], (some 18), some (11, false)⟩,
 ⟨(.eqPtr false), [.tmp 18, .const (.ptr none)], (some 19), some (11, false)⟩,
 ⟨.pick, [.tmp 11, .const (.bool true), .tmp 19], (some 20), none⟩])
 (.cond (.tmp 20) (.seq (.seqR [⟨.move, [.const (.bool false)], (some 4), none⟩])
 .ret)
 .skip))
 (.seq (.seqR [⟨.move, [.tmp 0], (some 22), none⟩,
 ⟨.nilCheck, [.tmp 22], (some 23), none⟩,
 ⟨(.fieldAddr 1), [.tmp 23], (some 24), none⟩,
 ⟨(.load false 1), [.tmp 24], (some 25), none⟩,
 ⟨.move, [.tmp 1], (some 26), none⟩,
 ⟨(.indexAddrS 1), [.tmp 25, .tmp 26], (some 27), none⟩,
 ⟨(.load false 1), [.tmp 27], (some 28), none⟩,
 ⟨(.callF 40), [.tmp 28], (some 29), none⟩,
 ⟨.move, [.tmp 29], (some 21), none⟩,
 ⟨(.extract 0), [.tmp 21], (some 30), none⟩,
 ⟨(.extract 1), [.tmp 21], (some 31), none⟩,
 ⟨(.new [(.int .i64 0), (.int .u64 0), (.slice none 0 0 false)]), [], (some 5), none⟩,
 ⟨(.store 3), [.tmp 5, .tmp 30], none, none⟩,
 ⟨.move, [.tmp 31], (some 6), none⟩])
 (.seq (.seqR [⟨.move, [.tmp 6], (some 32), none⟩,
 ⟨.not, [.tmp 32], (some 33), none⟩,
 ⟨.move, [.tmp 33], (some 4), none⟩])
 .ret)))), [.tmp 4]⟩
theorem c20_ok : compFunc Try.prog Try.f20 = some c20 := by kernel_rfl
theorem c20_body : hasBody Try.prog 20 = true := hasBody_of Try.func20 (by kernel_rfl)
/-- (*coachyard/loom.Loom).Pick -/
def c21 : PFn := ⟨55, Tr.ofList (List.replicate 55 undefA), (.seq (.seqR [⟨.move, [.const (.int .i64 0)], (some 4), none⟩])
 (.seq (.seqR [⟨.move, [.tmp 0], (some 10), none⟩,
 ⟨.move, [.tmp 1], (some 11), none⟩,
 ⟨(.callF 39), [.tmp 10, .tmp 11], (some 12), none⟩,
 ⟨.move, [.tmp 12], (some 9), none⟩,
 ⟨(.extract 0), [.tmp 9], (some 13), none⟩,
 ⟨(.extract 1), [.tmp 9], (some 14), none⟩,
 ⟨(.new [(.int .i64 0), (.int .i64 0), (.int .u64 0), (.int .u64 0)]), [], (some 5), none⟩,
 ⟨(.store 4), [.tmp 5, .tmp 13], none, none⟩,
 ⟨.move, [.tmp 14], (some 6), none⟩])
 (.seq (.seq (.seqR [⟨.move, [.tmp 6], (some 15), none⟩,
 ⟨(.bin .neq), [.tmp 15, .const (.int .i64 0)], (some 16), none⟩])
 (.cond (.tmp 16) (.seq (.seqR [⟨.move, [.tmp 6], (some 17), none⟩,
 ⟨.move, [.tmp 17], (some 4), none⟩])
 .ret)
 .skip))
 (.seq (.seqR [⟨.move, [.tmp 0], (some 18), none⟩,
 ⟨.nilCheck, [.tmp 18], (some 19), none⟩,
 ⟨(.fieldAddr 2), [.tmp 19], (some 20), none⟩,
 ⟨(.load false 1), [.tmp 20], (some 21), none⟩,
 ⟨(.bin .add), [.tmp 21, .const (.int .i64 1)], (some 22), none⟩,
 ⟨.nilCheck, [.tmp 18], (some 23), none⟩,
 ⟨(.fieldAddr 2), [.tmp 23], (some 24), none⟩,
 ⟨(.store 1), [.tmp 24, .tmp 22], none, none⟩])
 (.seq (.drawR [⟨⟨.move, [.tmp 0], (some 26), none⟩, false, false, 0, 0⟩,
 ⟨⟨.nilCheck, [.tmp 26], (some 27), none⟩, false, false, 0, 0⟩,
 ⟨⟨(.fieldAddr 0), [.tmp 27], (some 28), none⟩, false, false, 0, 0⟩,
 ⟨⟨(.load false 1), [.tmp 28], (some 29), none⟩, false, false, 0, 0⟩,
 ⟨⟨(.load true 4), [.tmp 5], (some 30), none⟩, false, false, 0, 0⟩,
 ⟨⟨(.callF 18), [.tmp 29, .tmp 30], (some 31), none⟩, true, false, 0, 1⟩,
 ⟨⟨.move, [.tmp 31], (some 25), none⟩, false, false, 1, 1⟩,
 ⟨⟨(.extract 0), [.tmp 25], (some 32), none⟩, false, false, 1, 1⟩,
 ⟨⟨(.extract 1), [.tmp 25], (some 33), none⟩, false, false, 1, 1⟩,
 ⟨⟨(.extract 2), [.tmp 25], (some 34), none⟩, false, false, 1, 1⟩,
 ⟨⟨.move, [.tmp 32], (some 7), none⟩, false, false, 1, 1⟩,
 ⟨⟨.move, [.tmp 33], (some 8), none⟩, false, false, 1, 1⟩,
 ⟨⟨.move, [.tmp 34], (some 6), none⟩, false, false, 1, 1⟩])
 (.seq (.seq (.seqR [⟨.move, [.tmp 6], (some 35), none⟩,
 ⟨(.bin .neq), [.tmp 35, .const (.int .i64 0)], (some 36), none⟩])
 (.cond (.tmp 36) (.seq (.seqR [⟨.move, [.tmp 0], (some 37), none⟩,
 ⟨.nilCheck, [.tmp 37], (some 38), none⟩,
 ⟨(.fieldAddr 1), [.tmp 38], (some 39), none⟩,
 ⟨(.load false 1), [.tmp 39], (some 40), none⟩,
 ⟨.move, [.tmp 1], (some 41), none⟩,
 ⟨(.indexAddrS 1), [.tmp 40, .tmp 41], (some 42), none⟩,
 ⟨(.load false 1), [.tmp 42], (some 43), none⟩,
 ⟨(.callF 45), [.tmp 43, .const (.int .i64 9)], (some 44), none⟩])
 (.seq (.seqR [⟨.move, [.const (.int .i64 9)], (some 4), none⟩])
 .ret))
 .skip))
 (.seq (.seqR [⟨.move, [.tmp 0], (some 45), none⟩,
 ⟨.nilCheck, [.tmp 45], (some 46), none⟩,
 ⟨(.fieldAddr 1), [.tmp 46], (some 47), none⟩,
 ⟨(.load false 1), [.tmp 47], (some 48), none⟩,
 ⟨.move, [.tmp 1], (some 49), none⟩,
 ⟨(.indexAddrS 1), [.tmp 48, .tmp 49], (some 50), none⟩,
 ⟨(.load false 1), [.tmp 50], (some 51), none⟩,
 ⟨.move, [.tmp 7], (some 52), none⟩,
 ⟨.move, [.tmp 8], (some 53), none⟩,
 ⟨(.callF 46), [.tmp 51, .tmp 52, .tmp 53], (some 54), none⟩])
 (.seq (.seqR [⟨.move, [.const (.int .i64 0)], (some 4), none⟩])
 .ret)))))))), [.tmp 4]⟩
theorem c21_ok : compFunc Try.prog Try.f21 = some c21 := by kernel_rfl
theorem c21_body : hasBody Try.prog 21 = true := hasBody_of Try.func21 (by kernel_rfl)
/-- (*coachyard/cells.Mem).All -/
def c22 : PFn := ⟨10, Tr.ofList (List.replicate 10 undefA), (.seq (.seqR [⟨.move, [.const (.slice none 0 0 false)], (some 2), none⟩])
 (.seq (.seq (.seqR [⟨.move, [.tmp 0], (some 3), none⟩,
 ⟨(.eqPtr false), [.tmp 3, .const (.ptr none)], (some 4), none⟩])
 (.cond (.tmp 4) (.seq (.seqR [⟨.move, [.const (.slice none 0 0 false)], (some 2), none⟩])
 .ret)
 .skip))
 (.seq (.seqR [⟨.move, [.tmp 0], (some 5), none⟩,
 ⟨.nilCheck, [.tmp 5], (some 6), none⟩,
 ⟨(.fieldAddr 0), [.tmp 6], (some 7), none⟩,
 ⟨(.load false 1), [.tmp 7], (some 8), none⟩,
 ⟨(.callF 47), [.tmp 8], (some 9), none⟩,
 ⟨.move, [.tmp 9], (some 2), none⟩])
 .ret))), [.tmp 2]⟩
theorem c22_ok : compFunc Try.prog Try.f22 = some c22 := by kernel_rfl
theorem c22_body : hasBody Try.prog 22 = true := hasBody_of Try.func22 (by kernel_rfl)
/-- coachyard/stack.node -/
def c23 : PFn := ⟨11, Tr.ofList (List.replicate 11 undefA), (.seq (.seqR [⟨.move, [.const (.int .u32 0)], (some 2), none⟩])
 (.seq (.seqR [⟨.move, [.tmp 0], (some 6), none⟩,
 ⟨(.callF 48), [.tmp 6], (some 7), none⟩,
 ⟨.move, [.tmp 7], (some 5), none⟩,
 ⟨(.extract 0), [.tmp 5], (some 8), none⟩,
 ⟨(.extract 1), [.tmp 5], (some 9), none⟩,
 ⟨.move, [.tmp 8], (some 3), none⟩,
 ⟨.move, [.tmp 9], (some 4), none⟩])
 (.seq (.seqR [⟨.move, [.tmp 4], (some 10), none⟩,
 ⟨.move, [.tmp 10], (some 2), none⟩])
 .ret))), [.tmp 2]⟩
theorem c23_ok : compFunc Try.prog Try.f23 = some c23 := by kernel_rfl
theorem c23_body : hasBody Try.prog 23 = true := hasBody_of Try.func23 (by kernel_rfl)
/-- (coachyard/stack.Pile).below -/
def c24 : PFn := ⟨15, Tr.ofList (List.replicate 15 undefA), (.seq (.seqR [⟨.box, [.tmp 0], (some 2), none⟩,
 ⟨.move, [.const (.int .i64 0)], (some 4), none⟩])
 (.seq (.seqR [⟨(.fieldAddr 0), [.tmp 2], (some 5), none⟩,
 ⟨(.load false 1), [.tmp 5], (some 6), none⟩,
 ⟨(.bin .add), [.tmp 6, .const (.int .i64 1)], (some 7), none⟩,
 ⟨(.fieldAddr 1), [.tmp 2], (some 8), none⟩,
 ⟨(.load false 1), [.tmp 8], (some 9), none⟩,
 ⟨(.bin .mul), [.const (.int .i64 2), .tmp 9], (some 10), none⟩,
 ⟨(.bin .add), [.tmp 7, .tmp 10], (some 11), none⟩,
 ⟨.move, [.tmp 1], (some 12), none⟩,
 ⟨(.conv .i64), [.tmp 12], (some 13), none⟩,
 ⟨(.bin .add), [.tmp 11, .tmp 13], (some 14), none⟩,
 ⟨.move, [.tmp 14], (some 4), none⟩])
 .ret)), [.tmp 4]⟩
theorem c24_ok : compFunc Try.prog Try.f24 = some c24 := by kernel_rfl
theorem c24_body : hasBody Try.prog 24 = true := hasBody_of Try.func24 (by kernel_rfl)
/-- (coachyard/stack.Pile).there -/
def c25 : PFn := ⟨14, Tr.ofList (List.replicate 14 undefA), (.seq (.seqR [⟨.box, [.tmp 0], (some 2), none⟩,
 ⟨.move, [.const (.bool false)], (some 4), none⟩])
 (.seq (.seqR [⟨.move, [.tmp 1], (some 5), none⟩,
 ⟨(.bin .geq), [.tmp 5, .const (.int .u32 1)], (some 6), none⟩,
 ⟨.move, [.tmp 6], (some 7), none⟩,
 ⟨.move, [.tmp 1], (some 8), some (7, true)⟩,
 ⟨(.conv .i64), [.tmp 8], (some 9), some (7, true)⟩,
 ⟨(.fieldAddr 1), [.tmp 2], (some 10), some (7, true)⟩,
 ⟨(.load false 1), [.tmp 10], (some 11), some (7, true)⟩,
 ⟨(.bin .leq), [.tmp 9, .tmp 11], (some 12), some (7, true)⟩,
 ⟨.pick, [.tmp 7, .tmp 12, .const (.bool false)], (some 13), none⟩,
 ⟨.move, [.tmp 13], (some 4), none⟩])
 .ret)), [.tmp 4]⟩
theorem c25_ok : compFunc Try.prog Try.f25 = some c25 := by kernel_rfl
theorem c25_body : hasBody Try.prog 25 = true := hasBody_of Try.func25 (by kernel_rfl)
/-- (coachyard/stack.Pile).task -/
def c26 : PFn := ⟨14, Tr.ofList (List.replicate 14 undefA), (.seq (.seqR [⟨.box, [.tmp 0], (some 2), none⟩,
 ⟨.move, [.const (.int .i64 0)], (some 4), none⟩])
 (.seq (.seqR [⟨(.fieldAddr 0), [.tmp 2], (some 5), none⟩,
 ⟨(.load false 1), [.tmp 5], (some 6), none⟩,
 ⟨(.bin .add), [.tmp 6, .const (.int .i64 1)], (some 7), none⟩,
 ⟨(.fieldAddr 1), [.tmp 2], (some 8), none⟩,
 ⟨(.load false 1), [.tmp 8], (some 9), none⟩,
 ⟨(.bin .add), [.tmp 7, .tmp 9], (some 10), none⟩,
 ⟨.move, [.tmp 1], (some 11), none⟩,
 ⟨(.conv .i64), [.tmp 11], (some 12), none⟩,
 ⟨(.bin .add), [.tmp 10, .tmp 12], (some 13), none⟩,
 ⟨.move, [.tmp 13], (some 4), none⟩])
 .ret)), [.tmp 4]⟩
theorem c26_ok : compFunc Try.prog Try.f26 = some c26 := by kernel_rfl
theorem c26_body : hasBody Try.prog 26 = true := hasBody_of Try.func26 (by kernel_rfl)
/-- (coachyard/arena.Arena).check -/
def c27 : PFn := ⟨21, Tr.ofList (List.replicate 21 undefA), (.seq (.seqR [⟨.box, [.tmp 0], (some 2), none⟩,
 ⟨.move, [.const (.int .i64 0)], (some 4), none⟩])
 (.seq (.block 0 (.seq (.seqR [⟨.move, [.tmp 1], (some 6), none⟩,
 ⟨(.eqPtr false), [.tmp 6, .const (.ptr none)], (some 7), none⟩,
 ⟨.move, [.tmp 7], (some 5), none⟩])
 (.cond (.tmp 5) (.seq (.seqR [⟨.move, [.const (.int .i64 1)], (some 4), none⟩])
 .ret)
 (.seq (.seqR [⟨(.load true 2), [.tmp 2], (some 9), none⟩,
 ⟨(.callF 44), [.tmp 9], (some 10), none⟩,
 ⟨.not, [.tmp 10], (some 11), none⟩,
 ⟨.move, [.tmp 11], (some 8), none⟩])
 (.cond (.tmp 8) (.seq (.seqR [⟨.move, [.const (.int .i64 2)], (some 4), none⟩])
 .ret)
 (.seq (.drawR [⟨⟨.move, [.tmp 1], (some 13), none⟩, false, false, 0, 0⟩,
 ⟨⟨(.callF 42), [.tmp 13], (some 14), none⟩, true, false, 0, 1⟩,
 ⟨⟨(.fieldAddr 0), [.tmp 2], (some 15), none⟩, false, false, 0, 1⟩,
 ⟨⟨(.load false 1), [.tmp 15], (some 16), none⟩, false, false, 0, 1⟩,
 ⟨⟨(.fieldAddr 1), [.tmp 2], (some 17), none⟩, false, false, 0, 1⟩,
 ⟨⟨(.load false 1), [.tmp 17], (some 18), none⟩, false, false, 0, 1⟩,
 ⟨⟨(.bin .add), [.tmp 16, .tmp 18], (some 19), none⟩, false, false, 0, 1⟩,
 ⟨⟨(.bin .leq), [.tmp 14, .tmp 19], (some 20), none⟩, false, false, 1, 1⟩,
 ⟨⟨.move, [.tmp 20], (some 12), none⟩, false, false, 1, 1⟩])
 (.cond (.tmp 12) (.seq (.seqR [⟨.move, [.const (.int .i64 3)], (some 4), none⟩])
 .ret)
 .skip)))))))
 (.seq (.seqR [⟨.move, [.const (.int .i64 0)], (some 4), none⟩])
 .ret))), [.tmp 4]⟩
theorem c27_ok : compFunc Try.prog Try.f27 = some c27 := by kernel_rfl
theorem c27_body : hasBody Try.prog 27 = true := hasBody_of Try.func27 (by kernel_rfl)
/-- coachyard/arena.low -/
def c28 : PFn := ⟨11, Tr.ofList (List.replicate 11 undefA), (.seq (.seqR [⟨.move, [.const (.int .u32 0)], (some 2), none⟩])
 (.seq (.seqR [⟨.move, [.tmp 0], (some 6), none⟩,
 ⟨(.callF 48), [.tmp 6], (some 7), none⟩,
 ⟨.move, [.tmp 7], (some 5), none⟩,
 ⟨(.extract 0), [.tmp 5], (some 8), none⟩,
 ⟨(.extract 1), [.tmp 5], (some 9), none⟩,
 ⟨.move, [.tmp 8], (some 3), none⟩,
 ⟨.move, [.tmp 9], (some 4), none⟩])
 (.seq (.seqR [⟨.move, [.tmp 4], (some 10), none⟩,
 ⟨.move, [.tmp 10], (some 2), none⟩])
 .ret))), [.tmp 2]⟩
theorem c28_ok : compFunc Try.prog Try.f28 = some c28 := by kernel_rfl
theorem c28_body : hasBody Try.prog 28 = true := hasBody_of Try.func28 (by kernel_rfl)
/-- (coachyard/stack.Pile).begun -/
def c29 : PFn := ⟨7, Tr.ofList (List.replicate 7 undefA), (.seq (.seqR [⟨.box, [.tmp 0], (some 2), none⟩,
 ⟨.box, [.tmp 1], (some 3), none⟩,
 ⟨.move, [.const (.ptr none)], (some 4), none⟩])
 (.seq (.seqR [⟨(.mkFunc (.func 50) 0), [.tmp 2, .tmp 3], (some 5), none⟩,
 ⟨(.callF 49), [.tmp 5], (some 6), none⟩,
 ⟨.move, [.tmp 6], (some 4), none⟩])
 .ret)), [.tmp 4]⟩
theorem c29_ok : compFunc Try.prog Try.f29 = some c29 := by kernel_rfl
theorem c29_body : hasBody Try.prog 29 = true := hasBody_of Try.func29 (by kernel_rfl)
/-- (coachyard/stack.Pile).Push$1 -/
def c30 : PFn := ⟨26, Tr.ofList (List.replicate 26 undefA), (.seq (.seqR [⟨.move, [.tmp 0], (some 4), none⟩,
 ⟨(.load false 1), [.tmp 1], (some 5), none⟩,
 ⟨.nilCheck, [.tmp 4], (some 6), none⟩,
 ⟨(.fieldAddr 5), [.tmp 6], (some 7), none⟩,
 ⟨(.store 1), [.tmp 7, .tmp 5], none, none⟩])
 (.seq (.drawR [⟨⟨.move, [.tmp 0], (some 8), none⟩, false, false, 0, 1⟩,
 ⟨⟨.nilCheck, [.tmp 8], (some 9), none⟩, false, false, 0, 1⟩,
 ⟨⟨(.fieldAddr 2), [.tmp 9], (some 10), none⟩, false, false, 0, 1⟩,
 ⟨⟨(.load false 1), [.tmp 10], (some 11), none⟩, false, false, 0, 1⟩,
 ⟨⟨(.load false 1), [.tmp 1], (some 12), none⟩, false, false, 0, 0⟩,
 ⟨⟨(.sliceLit 1 [(.int .u64 0)] [(0, 1)]), [.tmp 12], (some 13), none⟩, true, false, 0, 1⟩,
 ⟨⟨(.callF 31), [.tmp 11, .tmp 13], (some 14), none⟩, true, false, 1, 2⟩])
 (.drawR [⟨⟨.move, [.tmp 0], (some 15), none⟩, false, false, 0, 2⟩,
 ⟨⟨.nilCheck, [.tmp 15], (some 16), none⟩, false, false, 0, 2⟩,
 ⟨⟨(.fieldAddr 2), [.tmp 16], (some 17), none⟩, false, false, 0, 2⟩,
 ⟨⟨(.load false 1), [.tmp 17], (some 18), none⟩, false, false, 0, 2⟩,
 ⟨⟨(.load true 2), [.tmp 2], (some 19), none⟩, false, false, 0, 0⟩,
 ⟨⟨(.callF 9), [.tmp 19], (some 20), none⟩, true, false, 0, 1⟩,
 ⟨⟨(.callF 33), [.tmp 20], (some 21), none⟩, true, false, 1, 2⟩,
 ⟨⟨.move, [.tmp 0], (some 22), none⟩, false, false, 0, 2⟩,
 ⟨⟨(.build [(.ptr none)] [(0, 1)]), [.tmp 22], (some 23), none⟩, false, false, 0, 2⟩,
 ⟨⟨(.mkFunc (.func 34) 1), [.tmp 23], (some 24), none⟩, false, false, 0, 2⟩,
 ⟨⟨(.callF 32), [.tmp 18, .tmp 21, .tmp 24], (some 25), none⟩, true, false, 2, 3⟩]))), []⟩
theorem c30_ok : compFunc Try.prog Try.f30 = some c30 := by kernel_rfl
theorem c30_body : hasBody Try.prog 30 = true := hasBody_of Try.func30 (by kernel_rfl)
/-- (*coachyard/walk.Walk).Hold -/
def c31 : PFn := ⟨11, Tr.ofList (List.replicate 11 undefA), (.seq (.seqR [⟨.move, [.tmp 0], (some 4), none⟩,
 ⟨(.eqPtr true), [.tmp 4, .const (.ptr none)], (some 5), none⟩])
 (.cond (.tmp 5) (.seqR [⟨.move, [.tmp 0], (some 6), none⟩,
 ⟨.move, [.tmp 1], (some 7), none⟩,
 ⟨(.callF 47), [.tmp 7], (some 8), none⟩,
 ⟨.nilCheck, [.tmp 6], (some 9), none⟩,
 ⟨(.fieldAddr 12), [.tmp 9], (some 10), none⟩,
 ⟨(.store 1), [.tmp 10, .tmp 8], none, none⟩])
 .skip)), []⟩
theorem c31_ok : compFunc Try.prog Try.f31 = some c31 := by kernel_rfl
theorem c31_body : hasBody Try.prog 31 = true := hasBody_of Try.func31 (by kernel_rfl)
/-- (*coachyard/walk.Walk).Into -/
def c32 : PFn := ⟨19, Tr.ofList (List.replicate 19 undefA), (.seq (.seq (.seqR [⟨.move, [.tmp 0], (some 6), none⟩,
 ⟨(.callF 51), [.tmp 6], (some 7), none⟩,
 ⟨.not, [.tmp 7], (some 8), none⟩])
 (.cond (.tmp 8) .ret
 .skip))
 (.seq (.seqR [⟨.move, [.tmp 0], (some 9), none⟩,
 ⟨.move, [.tmp 0], (some 10), none⟩,
 ⟨.move, [.tmp 1], (some 11), none⟩,
 ⟨.move, [.tmp 2], (some 12), none⟩,
 ⟨.nilCheck, [.tmp 9], (some 13), none⟩,
 ⟨(.fieldAddr 6), [.tmp 13], (some 14), none⟩,
 ⟨(.store 1), [.tmp 14, .tmp 11], none, none⟩,
 ⟨.nilCheck, [.tmp 10], (some 15), none⟩,
 ⟨(.fieldAddr 7), [.tmp 15], (some 16), none⟩,
 ⟨(.store 1), [.tmp 16, .tmp 12], none, none⟩])
 (.seqR [⟨.move, [.tmp 0], (some 17), none⟩,
 ⟨(.callF 52), [.tmp 17], (some 18), none⟩]))), []⟩
theorem c32_ok : compFunc Try.prog Try.f32 = some c32 := by kernel_rfl
theorem c32_body : hasBody Try.prog 32 = true := hasBody_of Try.func32 (by kernel_rfl)
/-- (coachyard/arena.Arena).Take -/
def c33 : PFn := ⟨9, Tr.ofList (List.replicate 9 undefA), (.seq (.seqR [⟨.box, [.tmp 0], (some 1), none⟩,
 ⟨.move, [.const (.ptr none)], (some 2), none⟩])
 (.seq (.seqR [⟨(.load true 2), [.tmp 1], (some 4), none⟩,
 ⟨(.build [(.int .i64 0), (.int .i64 0), (.ptr none), (.int .u64 0)] [(0, 2)]), [.tmp 4], (some 5), none⟩,
 ⟨.box, [.tmp 5], (some 6), none⟩,
 ⟨(.new [(.ptr none)]), [], (some 3), none⟩,
 ⟨(.store 1), [.tmp 3, .tmp 6], none, none⟩])
 (.seq (.seqR [⟨(.mkFunc (.func 53) 0), [.tmp 3, .tmp 1], (some 7), none⟩,
 ⟨(.callF 49), [.tmp 7], (some 8), none⟩,
 ⟨.move, [.tmp 8], (some 2), none⟩])
 .ret))), [.tmp 2]⟩
theorem c33_ok : compFunc Try.prog Try.f33 = some c33 := by kernel_rfl
theorem c33_body : hasBody Try.prog 33 = true := hasBody_of Try.func33 (by kernel_rfl)
/-- (coachyard/stack.push).taken -/
def c34 : PFn := ⟨53, Tr.ofList (List.replicate 53 undefA), (.seq (.seqR [⟨.box, [.tmp 0], (some 2), none⟩,
 ⟨.box, [.tmp 1], (some 3), none⟩])
 (.seq (.seq (.seqR [⟨(.fieldAddr 0), [.tmp 3], (some 4), none⟩,
 ⟨(.load false 1), [.tmp 4], (some 5), none⟩,
 ⟨(.bin .neq), [.tmp 5, .const (.int .i64 0)], (some 6), none⟩])
 (.cond (.tmp 6) (.seq (.seqR [⟨(.fieldAddr 0), [.tmp 2], (some 7), none⟩,
 ⟨(.load false 1), [.tmp 7], (some 8), none⟩,
 ⟨.nilCheck, [.tmp 8], (some 9), none⟩,
 ⟨(.fieldAddr 2), [.tmp 9], (some 10), none⟩,
 ⟨(.load false 1), [.tmp 10], (some 11), none⟩,
 ⟨(.callF 31), [.tmp 11, .const (.slice none 0 0 false)], (some 12), none⟩])
 (.seq (.drawR [⟨⟨(.fieldAddr 0), [.tmp 2], (some 13), none⟩, false, false, 0, 0⟩,
 ⟨⟨(.load false 1), [.tmp 13], (some 14), none⟩, false, false, 0, 0⟩,
 ⟨⟨.nilCheck, [.tmp 14], (some 15), none⟩, false, false, 0, 0⟩,
 ⟨⟨(.fieldAddr 2), [.tmp 15], (some 16), none⟩, false, false, 0, 0⟩,
 ⟨⟨(.load false 1), [.tmp 16], (some 17), none⟩, false, false, 0, 0⟩,
 ⟨⟨(.fieldAddr 0), [.tmp 3], (some 18), none⟩, false, false, 0, 0⟩,
 ⟨⟨(.load false 1), [.tmp 18], (some 19), none⟩, false, false, 0, 0⟩,
 ⟨⟨(.callF 45), [.tmp 17, .tmp 19], (some 20), none⟩, true, false, 0, 1⟩])
 .ret))
 .skip))
 (.seq (.seqR [⟨(.fieldAddr 0), [.tmp 2], (some 21), none⟩,
 ⟨(.load false 1), [.tmp 21], (some 22), none⟩,
 ⟨(.fieldAddr 1), [.tmp 3], (some 23), none⟩,
 ⟨(.load false 1), [.tmp 23], (some 24), none⟩,
 ⟨(.conv .u32), [.tmp 24], (some 25), none⟩,
 ⟨.nilCheck, [.tmp 22], (some 26), none⟩,
 ⟨(.fieldAddr 4), [.tmp 26], (some 27), none⟩,
 ⟨(.store 1), [.tmp 27, .tmp 25], none, none⟩])
 (.drawR [⟨⟨(.fieldAddr 0), [.tmp 2], (some 28), none⟩, false, false, 0, 1⟩,
 ⟨⟨(.load false 1), [.tmp 28], (some 29), none⟩, false, false, 0, 1⟩,
 ⟨⟨.nilCheck, [.tmp 29], (some 30), none⟩, false, false, 0, 1⟩,
 ⟨⟨(.fieldAddr 2), [.tmp 30], (some 31), none⟩, false, false, 0, 1⟩,
 ⟨⟨(.load false 1), [.tmp 31], (some 32), none⟩, false, false, 0, 1⟩,
 ⟨⟨(.fieldAddr 0), [.tmp 2], (some 33), none⟩, false, false, 0, 0⟩,
 ⟨⟨(.load false 1), [.tmp 33], (some 34), none⟩, false, false, 0, 0⟩,
 ⟨⟨.nilCheck, [.tmp 34], (some 35), none⟩, false, false, 0, 0⟩,
 ⟨⟨(.fieldAddr 0), [.tmp 35], (some 36), none⟩, false, false, 0, 0⟩,
 ⟨⟨(.load true 2), [.tmp 36], (some 37), none⟩, false, false, 0, 0⟩,
 ⟨⟨(.fieldAddr 0), [.tmp 2], (some 38), none⟩, false, false, 0, 0⟩,
 ⟨⟨(.load false 1), [.tmp 38], (some 39), none⟩, false, false, 0, 0⟩,
 ⟨⟨.nilCheck, [.tmp 39], (some 40), none⟩, false, false, 0, 0⟩,
 ⟨⟨(.fieldAddr 4), [.tmp 40], (some 41), none⟩, false, false, 0, 0⟩,
 ⟨⟨(.load false 1), [.tmp 41], (some 42), none⟩, false, false, 0, 0⟩,
 ⟨⟨(.callF 26), [.tmp 37, .tmp 42], (some 43), none⟩, true, false, 0, 1⟩,
 ⟨⟨(.fieldAddr 0), [.tmp 2], (some 44), none⟩, false, false, 0, 1⟩,
 ⟨⟨(.load false 1), [.tmp 44], (some 45), none⟩, false, false, 0, 1⟩,
 ⟨⟨.nilCheck, [.tmp 45], (some 46), none⟩, false, false, 0, 1⟩,
 ⟨⟨(.fieldAddr 5), [.tmp 46], (some 47), none⟩, false, false, 0, 1⟩,
 ⟨⟨(.load false 1), [.tmp 47], (some 48), none⟩, false, false, 0, 1⟩,
 ⟨⟨(.build [(.int .i64 0), (.int .i64 0), (.int .u64 0), (.int .u64 0)] [(0, 1), (1, 1), (2, 1)]), [.const (.int .i64 2), .tmp 43, .tmp 48], (some 49), none⟩, false, false, 1, 1⟩,
 ⟨⟨(.load true 1), [.tmp 2], (some 50), none⟩, false, false, 0, 1⟩,
 ⟨⟨(.mkFunc (.func 56) 1), [.tmp 50], (some 51), none⟩, false, false, 0, 1⟩,
 ⟨⟨(.callF 54), [.tmp 32, .tmp 49, .tmp 51], (some 52), none⟩, true, false, 1, 2⟩])))), []⟩
theorem c34_ok : compFunc Try.prog Try.f34 = some c34 := by kernel_rfl
theorem c34_body : hasBody Try.prog 34 = true := hasBody_of Try.func34 (by kernel_rfl)
/-- (coachyard/stack.Pile).Pop$1 -/
def c35 : PFn := ⟨10, Tr.ofList (List.replicate 10 undefA), (.seqR [⟨.move, [.tmp 0], (some 3), none⟩,
 ⟨(.fieldAddr 0), [.tmp 1], (some 4), none⟩,
 ⟨(.load false 1), [.tmp 4], (some 5), none⟩,
 ⟨.move, [.tmp 0], (some 6), none⟩,
 ⟨(.build [(.ptr none)] [(0, 1)]), [.tmp 6], (some 7), none⟩,
 ⟨(.mkFunc (.func 37) 1), [.tmp 7], (some 8), none⟩,
 ⟨(.callF 36), [.tmp 3, .tmp 5, .tmp 8], (some 9), none⟩]), []⟩
theorem c35_ok : compFunc Try.prog Try.f35 = some c35 := by kernel_rfl
theorem c35_body : hasBody Try.prog 35 = true := hasBody_of Try.func35 (by kernel_rfl)
/-- (*coachyard/stack.way).load -/
def c36 : PFn := ⟨14, Tr.ofList (List.replicate 14 undefA), (.seqR [⟨.move, [.tmp 0], (some 6), none⟩,
 ⟨.nilCheck, [.tmp 6], (some 7), none⟩,
 ⟨(.fieldAddr 2), [.tmp 7], (some 8), none⟩,
 ⟨(.load false 1), [.tmp 8], (some 9), none⟩,
 ⟨.move, [.tmp 1], (some 10), none⟩,
 ⟨(.build [(.int .i64 0), (.int .i64 0), (.int .u64 0), (.int .u64 0)] [(0, 1), (1, 1)]), [.const (.int .i64 1), .tmp 10], (some 11), none⟩,
 ⟨.move, [.tmp 2], (some 12), none⟩,
 ⟨(.callF 54), [.tmp 9, .tmp 11, .tmp 12], (some 13), none⟩]), []⟩
theorem c36_ok : compFunc Try.prog Try.f36 = some c36 := by kernel_rfl
theorem c36_body : hasBody Try.prog 36 = true := hasBody_of Try.func36 (by kernel_rfl)
/-- (coachyard/stack.pop).top -/
def c37 : PFn := ⟨65, Tr.ofList (List.replicate 65 undefA), (.seq (.seqR [⟨.box, [.tmp 0], (some 3), none⟩])
 (.seq (.drawR [⟨⟨(.fieldAddr 0), [.tmp 3], (some 6), none⟩, false, false, 0, 1⟩,
 ⟨⟨(.load false 1), [.tmp 6], (some 7), none⟩, false, false, 0, 1⟩,
 ⟨⟨(.fieldAddr 0), [.tmp 3], (some 8), none⟩, false, false, 0, 2⟩,
 ⟨⟨(.load false 1), [.tmp 8], (some 9), none⟩, false, false, 0, 2⟩,
 ⟨⟨.move, [.tmp 1], (some 10), none⟩, false, false, 0, 1⟩,
 ⟨⟨.move, [.tmp 1], (some 11), none⟩, false, false, 0, 0⟩,
 ⟨⟨(.callF 23), [.tmp 11], (some 12), none⟩, true, false, 0, 1⟩,
 ⟨⟨.nilCheck, [.tmp 7], (some 13), none⟩, false, false, 1, 1⟩,
 ⟨⟨(.fieldAddr 3), [.tmp 13], (some 14), none⟩, false, false, 1, 1⟩,
 ⟨⟨(.store 1), [.tmp 14, .tmp 10], none, none⟩, true, false, 1, 2⟩,
 ⟨⟨.nilCheck, [.tmp 9], (some 15), none⟩, false, false, 2, 2⟩,
 ⟨⟨(.fieldAddr 4), [.tmp 15], (some 16), none⟩, false, false, 2, 2⟩,
 ⟨⟨(.store 1), [.tmp 16, .tmp 12], none, none⟩, true, false, 2, 3⟩])
 (.block 0 (.seq (.seqR [⟨(.fieldAddr 0), [.tmp 3], (some 34), none⟩,
 ⟨(.load false 1), [.tmp 34], (some 35), none⟩,
 ⟨.nilCheck, [.tmp 35], (some 36), none⟩,
 ⟨(.fieldAddr 4), [.tmp 36], (some 37), none⟩,
 ⟨(.load false 1), [.tmp 37], (some 38), none⟩,
 ⟨(.bin .eql), [.tmp 38, .const (.int .u32 0)], (some 39), none⟩,
 ⟨.move, [.tmp 39], (some 33), none⟩])
 (.cond (.tmp 33) (.seqR [⟨(.fieldAddr 0), [.tmp 3], (some 40), none⟩,
 ⟨(.load false 1), [.tmp 40], (some 41), none⟩,
 ⟨.nilCheck, [.tmp 41], (some 42), none⟩,
 ⟨(.fieldAddr 2), [.tmp 42], (some 43), none⟩,
 ⟨(.load false 1), [.tmp 43], (some 44), none⟩,
 ⟨(.callF 45), [.tmp 44, .const (.int .i64 5)], (some 45), none⟩])
 (.seq (.drawR [⟨⟨(.fieldAddr 0), [.tmp 3], (some 47), none⟩, false, false, 0, 0⟩,
 ⟨⟨(.load false 1), [.tmp 47], (some 48), none⟩, false, false, 0, 0⟩,
 ⟨⟨.nilCheck, [.tmp 48], (some 49), none⟩, false, false, 0, 0⟩,
 ⟨⟨(.fieldAddr 0), [.tmp 49], (some 50), none⟩, false, false, 0, 0⟩,
 ⟨⟨(.load true 2), [.tmp 50], (some 51), none⟩, false, false, 0, 0⟩,
 ⟨⟨(.fieldAddr 0), [.tmp 3], (some 52), none⟩, false, false, 0, 0⟩,
 ⟨⟨(.load false 1), [.tmp 52], (some 53), none⟩, false, false, 0, 0⟩,
 ⟨⟨.nilCheck, [.tmp 53], (some 54), none⟩, false, false, 0, 0⟩,
 ⟨⟨(.fieldAddr 4), [.tmp 54], (some 55), none⟩, false, false, 0, 0⟩,
 ⟨⟨(.load false 1), [.tmp 55], (some 56), none⟩, false, false, 0, 0⟩,
 ⟨⟨(.callF 25), [.tmp 51, .tmp 56], (some 57), none⟩, true, false, 0, 1⟩,
 ⟨⟨.not, [.tmp 57], (some 58), none⟩, false, false, 1, 1⟩,
 ⟨⟨.move, [.tmp 58], (some 46), none⟩, false, false, 1, 1⟩])
 (.cond (.tmp 46) (.seqR [⟨(.fieldAddr 0), [.tmp 3], (some 59), none⟩,
 ⟨(.load false 1), [.tmp 59], (some 60), none⟩,
 ⟨.nilCheck, [.tmp 60], (some 61), none⟩,
 ⟨(.fieldAddr 2), [.tmp 61], (some 62), none⟩,
 ⟨(.load false 1), [.tmp 62], (some 63), none⟩,
 ⟨(.callF 45), [.tmp 63, .const (.int .i64 9)], (some 64), none⟩])
 (.drawR [⟨⟨(.fieldAddr 0), [.tmp 3], (some 17), none⟩, false, false, 0, 1⟩,
 ⟨⟨(.load false 1), [.tmp 17], (some 18), none⟩, false, false, 0, 1⟩,
 ⟨⟨(.fieldAddr 0), [.tmp 3], (some 19), none⟩, false, false, 0, 0⟩,
 ⟨⟨(.load false 1), [.tmp 19], (some 20), none⟩, false, false, 0, 0⟩,
 ⟨⟨.nilCheck, [.tmp 20], (some 21), none⟩, false, false, 0, 0⟩,
 ⟨⟨(.fieldAddr 0), [.tmp 21], (some 22), none⟩, false, false, 0, 0⟩,
 ⟨⟨(.load true 2), [.tmp 22], (some 23), none⟩, false, false, 0, 0⟩,
 ⟨⟨(.fieldAddr 0), [.tmp 3], (some 24), none⟩, false, false, 0, 0⟩,
 ⟨⟨(.load false 1), [.tmp 24], (some 25), none⟩, false, false, 0, 0⟩,
 ⟨⟨.nilCheck, [.tmp 25], (some 26), none⟩, false, false, 0, 0⟩,
 ⟨⟨(.fieldAddr 4), [.tmp 26], (some 27), none⟩, false, false, 0, 0⟩,
 ⟨⟨(.load false 1), [.tmp 27], (some 28), none⟩, false, false, 0, 0⟩,
 ⟨⟨(.callF 24), [.tmp 23, .tmp 28], (some 29), none⟩, true, false, 0, 1⟩,
 ⟨⟨(.load true 1), [.tmp 3], (some 30), none⟩, false, false, 0, 1⟩,
 ⟨⟨(.mkFunc (.func 57) 1), [.tmp 30], (some 31), none⟩, false, false, 0, 1⟩,
 ⟨⟨(.callF 36), [.tmp 18, .tmp 29, .tmp 31], (some 32), none⟩, true, false, 1, 2⟩])))))))), []⟩
theorem c37_ok : compFunc Try.prog Try.f37 = some c37 := by kernel_rfl
theorem c37_body : hasBody Try.prog 37 = true := hasBody_of Try.func37 (by kernel_rfl)
/-- (*coachyard/loom.Loom).check -/
def c38 : PFn := ⟨20, Tr.ofList (List.replicate 20 undefA), (.seq (.seqR [⟨.move, [.const (.int .i64 0)], (some 4), none⟩])
 (.seq (.block 0 (.seq (.seqR [⟨.move, [.tmp 0], (some 6), none⟩,
 ⟨(.eqPtr false), [.tmp 6, .const (.ptr none)], (some 7), none⟩,
 ⟨.move, [.tmp 7], (some 5), none⟩])
 (.cond (.tmp 5) (.seq (.seqR [⟨.move, [.const (.int .i64 1)], (some 4), none⟩])
 .ret)
 (.seq (.seqR [⟨.move, [.tmp 1], (some 9), none⟩,
 ⟨(.bin .lss), [.tmp 9, .const (.int .i64 0)], (some 10), none⟩,
 ⟨.move, [.tmp 10], (some 11), none⟩,
 ⟨.move, [.tmp 1], (some 12), some (11, false)⟩,
 ⟨.move, [.tmp 0], (some 13), some (11, false)⟩,
 ⟨.nilCheck, [.tmp 13], (some 14), some (11, false)⟩,
 ⟨(.fieldAddr 1), [.tmp 14], (some 15), some (11, false)⟩,
 ⟨(.load false 1), [.tmp 15], (some 16), some (11, false)⟩,
 ⟨.lenS, [.tmp 16], (some 17), some (11, false)⟩,
 ⟨(.bin .geq), [.tmp 12, .tmp 17], (some 18), some (11, false)⟩,
 ⟨.pick, [.tmp 11, .const (.bool true), .tmp 18], (some 19), none⟩,
 ⟨.move, [.tmp 19], (some 8), none⟩])
 (.cond (.tmp 8) (.seq (.seqR [⟨.move, [.const (.int .i64 3)], (some 4), none⟩])
 .ret)
 .skip)))))
 (.seq (.seqR [⟨.move, [.const (.int .i64 0)], (some 4), none⟩])
 .ret))), [.tmp 4]⟩
theorem c38_ok : compFunc Try.prog Try.f38 = some c38 := by kernel_rfl
theorem c38_body : hasBody Try.prog 38 = true := hasBody_of Try.func38 (by kernel_rfl)
/-- (*coachyard/loom.Loom).wants -/
def c39 : PFn := ⟨60, Tr.ofList (List.replicate 60 undefA), (.seq (.seqR [⟨(.new [(.int .i64 0), (.int .i64 0), (.int .u64 0), (.int .u64 0)]), [], (some 4), none⟩,
 ⟨.move, [.const (.int .i64 0)], (some 5), none⟩])
 (.seq (.seq (.seqR [⟨.move, [.tmp 0], (some 12), none⟩,
 ⟨.move, [.tmp 1], (some 13), none⟩,
 ⟨(.callF 38), [.tmp 12, .tmp 13], (some 14), none⟩,
 ⟨.move, [.tmp 14], (some 6), none⟩])
 (.seq (.seqR [⟨.move, [.tmp 6], (some 15), none⟩,
 ⟨(.bin .neq), [.tmp 15, .const (.int .i64 0)], (some 16), none⟩])
 (.cond (.tmp 16) (.seq (.seqR [⟨(.build [(.int .i64 0), (.int .i64 0), (.int .u64 0), (.int .u64 0)] []), [], (some 17), none⟩,
 ⟨.move, [.tmp 6], (some 18), none⟩,
 ⟨(.store 4), [.tmp 4, .tmp 17], none, none⟩,
 ⟨.move, [.tmp 18], (some 5), none⟩])
 .ret)
 .skip)))
 (.seq (.seqR [⟨.move, [.tmp 0], (some 20), none⟩,
 ⟨.nilCheck, [.tmp 20], (some 21), none⟩,
 ⟨(.fieldAddr 1), [.tmp 21], (some 22), none⟩,
 ⟨(.load false 1), [.tmp 22], (some 23), none⟩,
 ⟨.move, [.tmp 1], (some 24), none⟩,
 ⟨(.indexAddrS 1), [.tmp 23, .tmp 24], (some 25), none⟩,
 ⟨(.load false 1), [.tmp 25], (some 26), none⟩,
 ⟨(.callF 58), [.tmp 26], (some 27), none⟩,
 ⟨.move, [.tmp 27], (some 19), none⟩,
 ⟨(.extract 0), [.tmp 19], (some 28), none⟩,
 ⟨(.extract 1), [.tmp 19], (some 29), none⟩,
 ⟨(.new [(.int .i64 0), (.int .i64 0), (.int .u64 0), (.int .u64 0)]), [], (some 7), none⟩,
 ⟨(.store 4), [.tmp 7, .tmp 28], none, none⟩,
 ⟨.move, [.tmp 29], (some 8), none⟩])
 (.seq (.seq (.seqR [⟨.move, [.tmp 8], (some 30), none⟩,
 ⟨.not, [.tmp 30], (some 31), none⟩,
 ⟨.move, [.tmp 31], (some 32), none⟩,
 ⟨.move, [.tmp 0], (some 33), some (32, false)⟩,
 ⟨.move, [.tmp 1], (some 34), some (32, false)⟩,
 ⟨(.callF 20), [.tmp 33, .tmp 34], (some 35), some (32, false)⟩,
 ⟨.not, [.tmp 35], (some 36), some (32, false)⟩,
 ⟨.pick, [.tmp 32, .const (.bool true), .tmp 36], (some 37), none⟩])
 (.cond (.tmp 37) (.seq (.seqR [⟨(.build [(.int .i64 0), (.int .i64 0), (.int .u64 0), (.int .u64 0)] []), [], (some 38), none⟩,
 ⟨(.store 4), [.tmp 4, .tmp 38], none, none⟩,
 ⟨.move, [.const (.int .i64 10)], (some 5), none⟩])
 .ret)
 .skip))
 (.seq (.seq (.seqR [⟨(.fieldAddr 0), [.tmp 7], (some 39), none⟩,
 ⟨(.load false 1), [.tmp 39], (some 40), none⟩,
 ⟨(.bin .eql), [.tmp 40, .const (.int .i64 7)], (some 41), none⟩])
 (.cond (.tmp 41) (.seq (.drawR [⟨⟨.move, [.tmp 0], (some 43), none⟩, false, false, 0, 0⟩,
 ⟨⟨.nilCheck, [.tmp 43], (some 44), none⟩, false, false, 0, 0⟩,
 ⟨⟨(.fieldAddr 0), [.tmp 44], (some 45), none⟩, false, false, 0, 0⟩,
 ⟨⟨(.load false 1), [.tmp 45], (some 46), none⟩, false, false, 0, 0⟩,
 ⟨⟨(.load true 4), [.tmp 7], (some 47), none⟩, false, false, 0, 0⟩,
 ⟨⟨(.callF 18), [.tmp 46, .tmp 47], (some 48), none⟩, true, false, 0, 1⟩,
 ⟨⟨.move, [.tmp 48], (some 42), none⟩, false, false, 1, 1⟩,
 ⟨⟨(.extract 0), [.tmp 42], (some 49), none⟩, false, false, 1, 1⟩,
 ⟨⟨(.extract 1), [.tmp 42], (some 50), none⟩, false, false, 1, 1⟩,
 ⟨⟨(.extract 2), [.tmp 42], (some 51), none⟩, false, false, 1, 1⟩,
 ⟨⟨.move, [.tmp 49], (some 9), none⟩, false, false, 1, 1⟩,
 ⟨⟨.move, [.tmp 50], (some 10), none⟩, false, false, 1, 1⟩,
 ⟨⟨.move, [.tmp 51], (some 11), none⟩, false, false, 1, 1⟩])
 (.seq (.seqR [⟨.move, [.tmp 11], (some 52), none⟩,
 ⟨(.bin .eql), [.tmp 52, .const (.int .i64 0)], (some 53), none⟩,
 ⟨.move, [.tmp 53], (some 54), none⟩,
 ⟨.move, [.tmp 10], (some 55), some (54, true)⟩,
 ⟨.not, [.tmp 55], (some 56), some (54, true)⟩,
 ⟨.pick, [.tmp 54, .tmp 56, .const (.bool false)], (some 57), none⟩])
 (.cond (.tmp 57) (.seq (.seqR [⟨(.load true 4), [.tmp 7], (some 58), none⟩,
 ⟨(.store 4), [.tmp 4, .tmp 58], none, none⟩,
 ⟨.move, [.const (.int .i64 11)], (some 5), none⟩])
 .ret)
 .skip)))
 .skip))
 (.seq (.seqR [⟨(.load true 4), [.tmp 7], (some 59), none⟩,
 ⟨(.store 4), [.tmp 4, .tmp 59], none, none⟩,
 ⟨.move, [.const (.int .i64 0)], (some 5), none⟩])
 .ret)))))), [.cell 4 true 4, .tmp 5]⟩
theorem c39_ok : compFunc Try.prog Try.f39 = some c39 := by kernel_rfl
theorem c39_body : hasBody Try.prog 39 = true := hasBody_of Try.func39 (by kernel_rfl)
/-- (*coachyard/walk.Walk).Result -/
def c40 : PFn := ⟨24, Tr.ofList (List.replicate 24 undefA), (.seq (.seqR [⟨(.new [(.int .i64 0), (.int .u64 0), (.slice none 0 0 false)]), [], (some 2), none⟩,
 ⟨.move, [.const (.bool false)], (some 3), none⟩])
 (.seq (.seq (.seqR [⟨.move, [.tmp 0], (some 5), none⟩,
 ⟨(.eqPtr false), [.tmp 5, .const (.ptr none)], (some 6), none⟩,
 ⟨.move, [.tmp 6], (some 7), none⟩,
 ⟨.move, [.tmp 0], (some 8), some (7, false)⟩,
 ⟨.nilCheck, [.tmp 8], (some 9), some (7, false)⟩,
 ⟨(.fieldAddr 8), [.tmp 9], (some 10), some (7, false)⟩,
 ⟨(.load false 1), [.tmp 10], (some 11), some (7, false)⟩,
 ⟨.not, [.tmp 11], (some 12), some (7, false)⟩,
 ⟨.pick, [.tmp 7, .const (.bool true), .tmp 12], (some 13), none⟩])
 (.cond (.tmp 13) (.seq (.seqR [⟨(.build [(.int .i64 0), (.int .u64 0), (.slice none 0 0 false)] []), [], (some 14), none⟩,
 ⟨(.store 3), [.tmp 2, .tmp 14], none, none⟩,
 ⟨.move, [.const (.bool false)], (some 3), none⟩])
 .ret)
 .skip))
 (.seq (.seqR [⟨.move, [.tmp 0], (some 15), none⟩,
 ⟨.nilCheck, [.tmp 15], (some 16), none⟩,
 ⟨(.fieldAddr 9), [.tmp 16], (some 17), none⟩,
 ⟨(.load true 3), [.tmp 17], (some 18), none⟩,
 ⟨(.new [(.int .i64 0), (.int .u64 0), (.slice none 0 0 false)]), [], (some 4), none⟩,
 ⟨(.store 3), [.tmp 4, .tmp 18], none, none⟩])
 (.seq (.seqR [⟨(.fieldAddr 2), [.tmp 4], (some 19), none⟩,
 ⟨(.load false 1), [.tmp 19], (some 20), none⟩,
 ⟨(.callF 47), [.tmp 20], (some 21), none⟩,
 ⟨(.fieldAddr 2), [.tmp 4], (some 22), none⟩,
 ⟨(.store 1), [.tmp 22, .tmp 21], none, none⟩])
 (.seq (.seqR [⟨(.load true 3), [.tmp 4], (some 23), none⟩,
 ⟨(.store 3), [.tmp 2, .tmp 23], none, none⟩,
 ⟨.move, [.const (.bool true)], (some 3), none⟩])
 .ret))))), [.cell 2 true 3, .tmp 3]⟩
theorem c40_ok : compFunc Try.prog Try.f40 = some c40 := by kernel_rfl
theorem c40_body : hasBody Try.prog 40 = true := hasBody_of Try.func40 (by kernel_rfl)
end Go.Proofs.Ytldijnabgabehaa
