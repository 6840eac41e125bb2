/- The code of the small machine for some of the program's functions: printed by program; each is what the rules make of the program's own. -/
import Derived.Test.YtbjipmhdncfodaaVx16
import Derived.Test.YtbjipmhdncfodaaProg
import Derived.KernelRfl
namespace Go.Proofs.Ytbjipmhdncfodaa
open Go Go.Vx Go.Proofs
/-- coachyard/coachyardlaw23.TimerOnce -/
def c3 : PFn := ⟨305, Tr.ofList (List.replicate 305 undefA), (.seq (.seqR [⟨.move, [.const (.bool false)], (some 6), none⟩])
 (.seq (.seq (.seqR [⟨(.callF 5), [], (some 23), none⟩,
 ⟨.not, [.tmp 23], (some 24), none⟩])
 (.cond (.tmp 24) (.seq (.seqR [⟨.move, [.const (.bool false)], (some 6), none⟩])
 .ret)
 .skip))
 (.seq (.seq (.seqR [⟨.move, [.tmp 0], (some 25), none⟩,
 ⟨.lenS, [.tmp 25], (some 26), none⟩,
 ⟨(.bin .gtr), [.tmp 26, .const (.int .i64 100)], (some 27), none⟩,
 ⟨.move, [.tmp 27], (some 28), none⟩,
 ⟨.move, [.tmp 1], (some 29), some (28, false)⟩,
 ⟨.lenS, [.tmp 29], (some 30), some (28, false)⟩,
 ⟨(.bin .gtr), [.tmp 30, .const (.int .i64 100)], (some 31), some (28, false)⟩,
 ⟨.pick, [.tmp 28, .const (.bool true), .tmp 31], (some 32), none⟩,
 ⟨.move, [.tmp 32], (some 33), none⟩,
 ⟨.move, [.tmp 2], (some 34), some (33, false)⟩,
 ⟨.lenS, [.tmp 34], (some 35), some (33, false)⟩,
 ⟨(.bin .gtr), [.tmp 35, .const (.int .i64 60)], (some 36), some (33, false)⟩,
 ⟨.pick, [.tmp 33, .const (.bool true), .tmp 36], (some 37), none⟩])
 (.cond (.tmp 37) (.seq (.seqR [⟨.move, [.const (.bool true)], (some 6), none⟩])
 .ret)
 .skip))
 (.seq (.seqR [⟨(.callF 6), [], (some 38), none⟩,
 ⟨.move, [.tmp 38], (some 7), none⟩])
 (.seq (.seqR [⟨(.sliceLit 0 [] []), [], (some 39), none⟩,
 ⟨.move, [.tmp 39], (some 8), none⟩])
 (.seq (.seq (.seqR [⟨.move, [.const (.int .i64 0)], (some 9), none⟩])
 (.block 0 (.loop (.seq (.seq (.seqR [⟨.move, [.tmp 9], (some 40), none⟩,
 ⟨.move, [.tmp 0], (some 41), none⟩,
 ⟨.lenS, [.tmp 41], (some 42), none⟩,
 ⟨(.bin .lss), [.tmp 40, .tmp 42], (some 43), none⟩])
 (.cond (.tmp 43) .skip
 (.exit 0)))
 (.seq (.block 1 (.seq (.seqR [⟨.move, [.tmp 7], (some 47), none⟩,
 ⟨.move, [.tmp 0], (some 48), none⟩,
 ⟨.move, [.tmp 9], (some 49), none⟩,
 ⟨(.indexAddrS 1), [.tmp 48, .tmp 49], (some 50), none⟩,
 ⟨(.load false 1), [.tmp 50], (some 51), none⟩,
 ⟨.move, [.tmp 8], (some 52), none⟩,
 ⟨.lenS, [.tmp 52], (some 53), none⟩,
 ⟨(.conv .u64), [.tmp 53], (some 54), none⟩,
 ⟨(.callF 7), [.tmp 47, .tmp 51, .tmp 54], (some 55), none⟩,
 ⟨.move, [.tmp 55], (some 46), none⟩,
 ⟨(.extract 0), [.tmp 46], (some 56), none⟩,
 ⟨(.extract 1), [.tmp 46], (some 57), none⟩,
 ⟨.move, [.tmp 56], (some 10), none⟩,
 ⟨.move, [.tmp 57], (some 11), none⟩])
 (.seq (.seq (.seqR [⟨.move, [.tmp 11], (some 58), none⟩,
 ⟨(.bin .eql), [.tmp 58, .const (.int .i64 0)], (some 59), none⟩,
 ⟨.move, [.tmp 0], (some 60), none⟩,
 ⟨.move, [.tmp 9], (some 61), none⟩,
 ⟨(.indexAddrS 1), [.tmp 60, .tmp 61], (some 62), none⟩,
 ⟨(.load false 1), [.tmp 62], (some 63), none⟩,
 ⟨(.bin .geq), [.tmp 63, .const (.int .i64 0)], (some 64), none⟩,
 ⟨.move, [.tmp 64], (some 65), none⟩,
 ⟨.move, [.tmp 0], (some 66), some (65, true)⟩,
 ⟨.move, [.tmp 9], (some 67), some (65, true)⟩,
 ⟨(.indexAddrS 1), [.tmp 66, .tmp 67], (some 68), some (65, true)⟩,
 ⟨(.load false 1), [.tmp 68], (some 69), some (65, true)⟩,
 ⟨(.bin .leq), [.tmp 69, .const (.int .i64 1099511627776)], (some 70), some (65, true)⟩,
 ⟨.pick, [.tmp 65, .tmp 70, .const (.bool false)], (some 71), none⟩,
 ⟨(.eqBool true), [.tmp 59, .tmp 71], (some 72), none⟩,
 ⟨.move, [.tmp 72], (some 73), none⟩,
 ⟨.move, [.tmp 11], (some 74), some (73, false)⟩,
 ⟨(.bin .eql), [.tmp 74, .const (.int .i64 0)], (some 75), some (73, false)⟩,
 ⟨.move, [.tmp 75], (some 76), some (73, false)⟩,
 ⟨.move, [.tmp 10], (some 77), some (76, true)⟩,
 ⟨.move, [.tmp 8], (some 78), some (76, true)⟩,
 ⟨.lenS, [.tmp 78], (some 79), some (76, true)⟩,
 ⟨(.bin .neq), [.tmp 77, .tmp 79], (some 80), some (76, true)⟩,
 ⟨.pick, [.tmp 76, .tmp 80, .const (.bool false)], (some 81), some (73, false)⟩,
 ⟨.pick, [.tmp 73, .const (.bool true), .tmp 81], (some 82), none⟩])
 (.cond (.tmp 82) (.seq (.seqR [⟨.move, [.const (.bool false)], (some 6), none⟩])
 .ret)
 .skip))
 (.seq (.seqR [⟨.move, [.tmp 11], (some 83), none⟩,
 ⟨(.bin .eql), [.tmp 83, .const (.int .i64 0)], (some 84), none⟩])
 (.cond (.tmp 84) (.seqR [⟨.move, [.tmp 8], (some 85), none⟩,
 ⟨.move, [.tmp 0], (some 86), none⟩,
 ⟨.move, [.tmp 9], (some 87), none⟩,
 ⟨(.indexAddrS 1), [.tmp 86, .tmp 87], (some 88), none⟩,
 ⟨(.load false 1), [.tmp 88], (some 89), none⟩,
 ⟨(.sliceLit 1 [(.int .i64 0)] [(0, 1)]), [.tmp 89], (some 90), none⟩,
 ⟨(.append 1 8), [.tmp 85, .tmp 90], (some 91), none⟩,
 ⟨.move, [.tmp 91], (some 8), none⟩])
 .skip)))))
 (.seqR [⟨.move, [.tmp 9], (some 44), none⟩,
 ⟨(.bin .add), [.tmp 44, .const (.int .i64 1)], (some 45), none⟩,
 ⟨.move, [.tmp 45], (some 9), none⟩]))))))
 (.seq (.seqR [⟨.move, [.tmp 8], (some 92), none⟩,
 ⟨.lenS, [.tmp 92], (some 93), none⟩,
 ⟨(.makeSlice 1 1 [(.bool false)]), [.tmp 93, .tmp 93], (some 94), none⟩,
 ⟨.move, [.tmp 94], (some 12), none⟩])
 (.seq (.seq (.seqR [⟨.move, [.const (.int .i64 0)], (some 13), none⟩])
 (.block 2 (.loop (.seq (.seq (.seqR [⟨.move, [.tmp 13], (some 95), none⟩,
 ⟨.move, [.tmp 1], (some 96), none⟩,
 ⟨.lenS, [.tmp 96], (some 97), none⟩,
 ⟨(.bin .lss), [.tmp 95, .tmp 97], (some 98), none⟩])
 (.cond (.tmp 98) .skip
 (.exit 2)))
 (.seq (.block 3 (.seq (.seqR [⟨.move, [.tmp 1], (some 101), none⟩,
 ⟨.move, [.tmp 13], (some 102), none⟩,
 ⟨(.indexAddrS 1), [.tmp 101, .tmp 102], (some 103), none⟩,
 ⟨(.load false 1), [.tmp 103], (some 104), none⟩,
 ⟨(.bin .geq), [.tmp 104, .const (.int .i64 0)], (some 105), none⟩,
 ⟨.move, [.tmp 105], (some 106), none⟩,
 ⟨.move, [.tmp 1], (some 107), some (106, true)⟩,
 ⟨.move, [.tmp 13], (some 108), some (106, true)⟩,
 ⟨(.indexAddrS 1), [.tmp 107, .tmp 108], (some 109), some (106, true)⟩,
 ⟨(.load false 1), [.tmp 109], (some 110), some (106, true)⟩,
 ⟨.move, [.tmp 8], (some 111), some (106, true)⟩,
 ⟨.lenS, [.tmp 111], (some 112), some (106, true)⟩,
 ⟨(.bin .lss), [.tmp 110, .tmp 112], (some 113), some (106, true)⟩,
 ⟨.pick, [.tmp 106, .tmp 113, .const (.bool false)], (some 114), none⟩,
 ⟨.move, [.tmp 114], (some 115), none⟩,
 ⟨.move, [.tmp 12], (some 116), some (115, true)⟩,
 ⟨.move, [.tmp 1], (some 117), some (115, true)⟩,
 ⟨.move, [.tmp 13], (some 118), some (115, true)⟩,
 ⟨(.indexAddrS 1), [.tmp 117, .tmp 118], (some 119), some (115, true)⟩,
 ⟨(.load false 1), [.tmp 119], (some 120), some (115, true)⟩,
 ⟨(.indexAddrS 1), [.tmp 116, .tmp 120], (some 121), some (115, true)⟩,
 ⟨(.load false 1), [.tmp 121], (some 122), some (115, true)⟩,
 ⟨.not, [.tmp 122], (some 123), some (115, true)⟩,
 ⟨.pick, [.tmp 115, .tmp 123, .const (.bool false)], (some 124), none⟩,
 ⟨.move, [.tmp 124], (some 14), none⟩])
 (.seq (.seq (.seqR [⟨.move, [.tmp 7], (some 125), none⟩,
 ⟨.move, [.tmp 1], (some 126), none⟩,
 ⟨.move, [.tmp 13], (some 127), none⟩,
 ⟨(.indexAddrS 1), [.tmp 126, .tmp 127], (some 128), none⟩,
 ⟨(.load false 1), [.tmp 128], (some 129), none⟩,
 ⟨(.callF 8), [.tmp 125, .tmp 129], (some 130), none⟩,
 ⟨(.bin .eql), [.tmp 130, .const (.int .i64 0)], (some 131), none⟩,
 ⟨.move, [.tmp 14], (some 132), none⟩,
 ⟨(.eqBool true), [.tmp 131, .tmp 132], (some 133), none⟩])
 (.cond (.tmp 133) (.seq (.seqR [⟨.move, [.const (.bool false)], (some 6), none⟩])
 .ret)
 .skip))
 (.seq (.seqR [⟨.move, [.tmp 14], (some 134), none⟩])
 (.cond (.tmp 134) (.seqR [⟨.move, [.tmp 12], (some 135), none⟩,
 ⟨.move, [.tmp 1], (some 136), none⟩,
 ⟨.move, [.tmp 13], (some 137), none⟩,
 ⟨(.indexAddrS 1), [.tmp 136, .tmp 137], (some 138), none⟩,
 ⟨(.load false 1), [.tmp 138], (some 139), none⟩,
 ⟨(.indexAddrS 1), [.tmp 135, .tmp 139], (some 140), none⟩,
 ⟨(.store 1), [.tmp 140, .const (.bool true)], none, none⟩])
 .skip)))))
 (.seqR [⟨.move, [.tmp 13], (some 99), none⟩,
 ⟨(.bin .add), [.tmp 99, .const (.int .i64 1)], (some 100), none⟩,
 ⟨.move, [.tmp 100], (some 13), none⟩]))))))
 (.seq (.seq (.seqR [⟨.move, [.const (.int .i64 0)], (some 15), none⟩])
 (.block 4 (.loop (.seq (.seq (.seqR [⟨.move, [.tmp 15], (some 141), none⟩,
 ⟨.move, [.tmp 2], (some 142), none⟩,
 ⟨.lenS, [.tmp 142], (some 143), none⟩,
 ⟨(.bin .lss), [.tmp 141, .tmp 143], (some 144), none⟩])
 (.cond (.tmp 144) .skip
 (.exit 4)))
 (.seq (.block 5 (.seq (.seqR [⟨.move, [.tmp 7], (some 147), none⟩,
 ⟨(.callF 9), [.tmp 147], (some 148), none⟩,
 ⟨.move, [.tmp 148], (some 16), none⟩])
 (.seq (.seqR [⟨.move, [.tmp 7], (some 150), none⟩,
 ⟨.move, [.tmp 2], (some 151), none⟩,
 ⟨.move, [.tmp 15], (some 152), none⟩,
 ⟨(.indexAddrS 1), [.tmp 151, .tmp 152], (some 153), none⟩,
 ⟨(.load false 1), [.tmp 153], (some 154), none⟩,
 ⟨(.callF 10), [.tmp 150, .tmp 154], (some 155), none⟩,
 ⟨.move, [.tmp 155], (some 149), none⟩,
 ⟨(.extract 0), [.tmp 149], (some 156), none⟩,
 ⟨(.extract 1), [.tmp 149], (some 157), none⟩,
 ⟨.move, [.tmp 156], (some 17), none⟩,
 ⟨.move, [.tmp 157], (some 18), none⟩])
 (.seq (.seq (.seqR [⟨.move, [.tmp 18], (some 158), none⟩,
 ⟨(.bin .neq), [.tmp 158, .const (.int .i64 0)], (some 159), none⟩])
 (.cond (.tmp 159) (.seq (.seq (.seqR [⟨.move, [.tmp 2], (some 160), none⟩,
 ⟨.move, [.tmp 15], (some 161), none⟩,
 ⟨(.indexAddrS 1), [.tmp 160, .tmp 161], (some 162), none⟩,
 ⟨(.load false 1), [.tmp 162], (some 163), none⟩,
 ⟨.move, [.tmp 16], (some 164), none⟩,
 ⟨(.bin .geq), [.tmp 163, .tmp 164], (some 165), none⟩,
 ⟨.move, [.tmp 165], (some 166), none⟩,
 ⟨.move, [.tmp 2], (some 167), some (166, true)⟩,
 ⟨.move, [.tmp 15], (some 168), some (166, true)⟩,
 ⟨(.indexAddrS 1), [.tmp 167, .tmp 168], (some 169), some (166, true)⟩,
 ⟨(.load false 1), [.tmp 169], (some 170), some (166, true)⟩,
 ⟨(.bin .leq), [.tmp 170, .const (.int .i64 1099511627776)], (some 171), some (166, true)⟩,
 ⟨.pick, [.tmp 166, .tmp 171, .const (.bool false)], (some 172), none⟩])
 (.cond (.tmp 172) (.seq (.seqR [⟨.move, [.const (.bool false)], (some 6), none⟩])
 .ret)
 .skip))
 (.exit 5))
 .skip))
 (.seq (.seq (.seqR [⟨.move, [.const (.int .i64 0)], (some 19), none⟩])
 (.block 6 (.loop (.seq (.seq (.seqR [⟨.move, [.tmp 19], (some 173), none⟩,
 ⟨.move, [.tmp 17], (some 174), none⟩,
 ⟨.lenS, [.tmp 174], (some 175), none⟩,
 ⟨(.bin .lss), [.tmp 173, .tmp 175], (some 176), none⟩])
 (.cond (.tmp 176) .skip
 (.exit 6)))
 (.seq (.block 7 (.seq (.seq (.drawR [⟨⟨.move, [.tmp 17], (some 179), none⟩, false, false, 0, 0⟩,
 ⟨⟨.move, [.tmp 19], (some 180), none⟩, false, false, 0, 0⟩,
 ⟨⟨(.indexAddrS 1), [.tmp 179, .tmp 180], (some 181), none⟩, false, false, 0, 0⟩,
 ⟨⟨(.load false 1), [.tmp 181], (some 182), none⟩, false, false, 0, 0⟩,
 ⟨⟨.move, [.tmp 8], (some 183), none⟩, false, false, 0, 0⟩,
 ⟨⟨.lenS, [.tmp 183], (some 184), none⟩, false, false, 0, 0⟩,
 ⟨⟨(.conv .u64), [.tmp 184], (some 185), none⟩, false, false, 0, 0⟩,
 ⟨⟨(.bin .geq), [.tmp 182, .tmp 185], (some 186), none⟩, false, false, 0, 0⟩,
 ⟨⟨.move, [.tmp 186], (some 187), none⟩, false, false, 0, 0⟩,
 ⟨⟨.move, [.tmp 12], (some 188), some (187, false)⟩, false, false, 0, 0⟩,
 ⟨⟨.move, [.tmp 17], (some 189), some (187, false)⟩, false, false, 0, 0⟩,
 ⟨⟨.move, [.tmp 19], (some 190), some (187, false)⟩, false, false, 0, 0⟩,
 ⟨⟨(.indexAddrS 1), [.tmp 189, .tmp 190], (some 191), some (187, false)⟩, false, false, 0, 0⟩,
 ⟨⟨(.load false 1), [.tmp 191], (some 192), some (187, false)⟩, false, false, 0, 0⟩,
 ⟨⟨(.indexAddrS 1), [.tmp 188, .tmp 192], (some 193), some (187, false)⟩, false, false, 0, 0⟩,
 ⟨⟨(.load false 1), [.tmp 193], (some 194), some (187, false)⟩, false, false, 0, 0⟩,
 ⟨⟨.pick, [.tmp 187, .const (.bool true), .tmp 194], (some 195), none⟩, false, false, 0, 0⟩,
 ⟨⟨.move, [.tmp 195], (some 196), none⟩, false, false, 0, 0⟩,
 ⟨⟨.move, [.tmp 8], (some 197), some (196, false)⟩, false, false, 0, 0⟩,
 ⟨⟨.move, [.tmp 17], (some 198), some (196, false)⟩, false, false, 0, 0⟩,
 ⟨⟨.move, [.tmp 19], (some 199), some (196, false)⟩, false, false, 0, 0⟩,
 ⟨⟨(.indexAddrS 1), [.tmp 198, .tmp 199], (some 200), some (196, false)⟩, false, false, 0, 0⟩,
 ⟨⟨(.load false 1), [.tmp 200], (some 201), some (196, false)⟩, false, false, 0, 0⟩,
 ⟨⟨(.indexAddrS 1), [.tmp 197, .tmp 201], (some 202), some (196, false)⟩, false, false, 0, 0⟩,
 ⟨⟨(.load false 1), [.tmp 202], (some 203), some (196, false)⟩, false, false, 0, 0⟩,
 ⟨⟨.move, [.tmp 2], (some 204), some (196, false)⟩, false, false, 0, 0⟩,
 ⟨⟨.move, [.tmp 15], (some 205), some (196, false)⟩, false, false, 0, 0⟩,
 ⟨⟨(.indexAddrS 1), [.tmp 204, .tmp 205], (some 206), some (196, false)⟩, false, false, 0, 0⟩,
 ⟨⟨(.load false 1), [.tmp 206], (some 207), some (196, false)⟩, false, false, 0, 0⟩,
 ⟨⟨(.bin .gtr), [.tmp 203, .tmp 207], (some 208), some (196, false)⟩, false, false, 0, 0⟩,
 ⟨⟨.pick, [.tmp 196, .const (.bool true), .tmp 208], (some 209), none⟩, false, false, 0, 0⟩])
 (.cond (.tmp 209) (.seq (.seqR [⟨.move, [.const (.bool false)], (some 6), none⟩])
 .ret)
 .skip))
 (.seq (.seqR [⟨.move, [.tmp 12], (some 210), none⟩,
 ⟨.move, [.tmp 17], (some 211), none⟩,
 ⟨.move, [.tmp 19], (some 212), none⟩,
 ⟨(.indexAddrS 1), [.tmp 211, .tmp 212], (some 213), none⟩,
 ⟨(.load false 1), [.tmp 213], (some 214), none⟩,
 ⟨(.indexAddrS 1), [.tmp 210, .tmp 214], (some 215), none⟩,
 ⟨(.store 1), [.tmp 215, .const (.bool true)], none, none⟩])
 (.seq (.drawR [⟨⟨.move, [.tmp 19], (some 216), none⟩, false, false, 0, 0⟩,
 ⟨⟨(.bin .gtr), [.tmp 216, .const (.int .i64 0)], (some 217), none⟩, false, false, 0, 0⟩,
 ⟨⟨.move, [.tmp 217], (some 218), none⟩, false, false, 0, 0⟩,
 ⟨⟨.move, [.tmp 8], (some 219), some (218, true)⟩, false, false, 0, 0⟩,
 ⟨⟨.move, [.tmp 17], (some 220), some (218, true)⟩, false, false, 0, 0⟩,
 ⟨⟨.move, [.tmp 19], (some 221), some (218, true)⟩, false, false, 0, 0⟩,
 ⟨⟨(.bin .sub), [.tmp 221, .const (.int .i64 1)], (some 222), some (218, true)⟩, false, false, 0, 0⟩,
 ⟨⟨(.indexAddrS 1), [.tmp 220, .tmp 222], (some 223), some (218, true)⟩, false, false, 0, 0⟩,
 ⟨⟨(.load false 1), [.tmp 223], (some 224), some (218, true)⟩, false, false, 0, 0⟩,
 ⟨⟨(.indexAddrS 1), [.tmp 219, .tmp 224], (some 225), some (218, true)⟩, false, false, 0, 0⟩,
 ⟨⟨(.load false 1), [.tmp 225], (some 226), some (218, true)⟩, false, false, 0, 0⟩,
 ⟨⟨.move, [.tmp 8], (some 227), some (218, true)⟩, false, false, 0, 0⟩,
 ⟨⟨.move, [.tmp 17], (some 228), some (218, true)⟩, false, false, 0, 0⟩,
 ⟨⟨.move, [.tmp 19], (some 229), some (218, true)⟩, false, false, 0, 0⟩,
 ⟨⟨(.indexAddrS 1), [.tmp 228, .tmp 229], (some 230), some (218, true)⟩, false, false, 0, 0⟩,
 ⟨⟨(.load false 1), [.tmp 230], (some 231), some (218, true)⟩, false, false, 0, 0⟩,
 ⟨⟨(.indexAddrS 1), [.tmp 227, .tmp 231], (some 232), some (218, true)⟩, false, false, 0, 0⟩,
 ⟨⟨(.load false 1), [.tmp 232], (some 233), some (218, true)⟩, false, false, 0, 0⟩,
 ⟨⟨(.bin .gtr), [.tmp 226, .tmp 233], (some 234), some (218, true)⟩, false, false, 0, 0⟩,
 ⟨⟨.move, [.tmp 234], (some 235), some (218, true)⟩, false, false, 0, 0⟩,
 ⟨⟨.move, [.tmp 8], (some 236), some (235, false)⟩, false, false, 0, 0⟩,
 ⟨⟨.move, [.tmp 17], (some 237), some (235, false)⟩, false, false, 0, 0⟩,
 ⟨⟨.move, [.tmp 19], (some 238), some (235, false)⟩, false, false, 0, 0⟩,
 ⟨⟨(.bin .sub), [.tmp 238, .const (.int .i64 1)], (some 239), some (235, false)⟩, false, false, 0, 0⟩,
 ⟨⟨(.indexAddrS 1), [.tmp 237, .tmp 239], (some 240), some (235, false)⟩, false, false, 0, 0⟩,
 ⟨⟨(.load false 1), [.tmp 240], (some 241), some (235, false)⟩, false, false, 0, 0⟩,
 ⟨⟨(.indexAddrS 1), [.tmp 236, .tmp 241], (some 242), some (235, false)⟩, false, false, 0, 0⟩,
 ⟨⟨(.load false 1), [.tmp 242], (some 243), some (235, false)⟩, false, false, 0, 0⟩,
 ⟨⟨.move, [.tmp 8], (some 244), some (235, false)⟩, false, false, 0, 0⟩,
 ⟨⟨.move, [.tmp 17], (some 245), some (235, false)⟩, false, false, 0, 0⟩,
 ⟨⟨.move, [.tmp 19], (some 246), some (235, false)⟩, false, false, 0, 0⟩,
 ⟨⟨(.indexAddrS 1), [.tmp 245, .tmp 246], (some 247), some (235, false)⟩, false, false, 0, 0⟩,
 ⟨⟨(.load false 1), [.tmp 247], (some 248), some (235, false)⟩, false, false, 0, 0⟩,
 ⟨⟨(.indexAddrS 1), [.tmp 244, .tmp 248], (some 249), some (235, false)⟩, false, false, 0, 0⟩,
 ⟨⟨(.load false 1), [.tmp 249], (some 250), some (235, false)⟩, false, false, 0, 0⟩,
 ⟨⟨(.bin .eql), [.tmp 243, .tmp 250], (some 251), some (235, false)⟩, false, false, 0, 0⟩,
 ⟨⟨.move, [.tmp 251], (some 252), some (235, false)⟩, false, false, 0, 0⟩,
 ⟨⟨.move, [.tmp 17], (some 253), some (252, true)⟩, false, false, 0, 0⟩,
 ⟨⟨.move, [.tmp 19], (some 254), some (252, true)⟩, false, false, 0, 0⟩,
 ⟨⟨(.bin .sub), [.tmp 254, .const (.int .i64 1)], (some 255), some (252, true)⟩, false, false, 0, 0⟩,
 ⟨⟨(.indexAddrS 1), [.tmp 253, .tmp 255], (some 256), some (252, true)⟩, false, false, 0, 0⟩,
 ⟨⟨(.load false 1), [.tmp 256], (some 257), some (252, true)⟩, false, false, 0, 0⟩,
 ⟨⟨.move, [.tmp 17], (some 258), some (252, true)⟩, false, false, 0, 0⟩,
 ⟨⟨.move, [.tmp 19], (some 259), some (252, true)⟩, false, false, 0, 0⟩,
 ⟨⟨(.indexAddrS 1), [.tmp 258, .tmp 259], (some 260), some (252, true)⟩, false, false, 0, 0⟩,
 ⟨⟨(.load false 1), [.tmp 260], (some 261), some (252, true)⟩, false, false, 0, 0⟩,
 ⟨⟨(.bin .gtr), [.tmp 257, .tmp 261], (some 262), some (252, true)⟩, false, false, 0, 0⟩,
 ⟨⟨.pick, [.tmp 252, .tmp 262, .const (.bool false)], (some 263), some (235, false)⟩, false, false, 0, 0⟩,
 ⟨⟨.pick, [.tmp 235, .const (.bool true), .tmp 263], (some 264), some (218, true)⟩, false, false, 0, 0⟩,
 ⟨⟨.pick, [.tmp 218, .tmp 264, .const (.bool false)], (some 265), none⟩, false, false, 0, 0⟩])
 (.cond (.tmp 265) (.seq (.seqR [⟨.move, [.const (.bool false)], (some 6), none⟩])
 .ret)
 .skip)))))
 (.seqR [⟨.move, [.tmp 19], (some 177), none⟩,
 ⟨(.bin .add), [.tmp 177, .const (.int .i64 1)], (some 178), none⟩,
 ⟨.move, [.tmp 178], (some 19), none⟩]))))))
 (.seq (.seqR [⟨.move, [.const (.int .i64 0)], (some 20), none⟩])
 (.block 8 (.loop (.seq (.seq (.seqR [⟨.move, [.tmp 20], (some 266), none⟩,
 ⟨.move, [.tmp 8], (some 267), none⟩,
 ⟨.lenS, [.tmp 267], (some 268), none⟩,
 ⟨(.bin .lss), [.tmp 266, .tmp 268], (some 269), none⟩])
 (.cond (.tmp 269) .skip
 (.exit 8)))
 (.seq (.block 9 (.seq (.drawR [⟨⟨.move, [.tmp 12], (some 272), none⟩, false, false, 0, 0⟩,
 ⟨⟨.move, [.tmp 20], (some 273), none⟩, false, false, 0, 0⟩,
 ⟨⟨(.indexAddrS 1), [.tmp 272, .tmp 273], (some 274), none⟩, false, false, 0, 0⟩,
 ⟨⟨(.load false 1), [.tmp 274], (some 275), none⟩, false, false, 0, 0⟩,
 ⟨⟨.not, [.tmp 275], (some 276), none⟩, false, false, 0, 0⟩,
 ⟨⟨.move, [.tmp 276], (some 277), none⟩, false, false, 0, 0⟩,
 ⟨⟨.move, [.tmp 8], (some 278), some (277, true)⟩, false, false, 0, 0⟩,
 ⟨⟨.move, [.tmp 20], (some 279), some (277, true)⟩, false, false, 0, 0⟩,
 ⟨⟨(.indexAddrS 1), [.tmp 278, .tmp 279], (some 280), some (277, true)⟩, false, false, 0, 0⟩,
 ⟨⟨(.load false 1), [.tmp 280], (some 281), some (277, true)⟩, false, false, 0, 0⟩,
 ⟨⟨.move, [.tmp 2], (some 282), some (277, true)⟩, false, false, 0, 0⟩,
 ⟨⟨.move, [.tmp 15], (some 283), some (277, true)⟩, false, false, 0, 0⟩,
 ⟨⟨(.indexAddrS 1), [.tmp 282, .tmp 283], (some 284), some (277, true)⟩, false, false, 0, 0⟩,
 ⟨⟨(.load false 1), [.tmp 284], (some 285), some (277, true)⟩, false, false, 0, 0⟩,
 ⟨⟨(.bin .leq), [.tmp 281, .tmp 285], (some 286), some (277, true)⟩, false, false, 0, 0⟩,
 ⟨⟨.pick, [.tmp 277, .tmp 286, .const (.bool false)], (some 287), none⟩, false, false, 0, 0⟩])
 (.cond (.tmp 287) (.seq (.seqR [⟨.move, [.const (.bool false)], (some 6), none⟩])
 .ret)
 .skip)))
 (.seqR [⟨.move, [.tmp 20], (some 270), none⟩,
 ⟨(.bin .add), [.tmp 270, .const (.int .i64 1)], (some 271), none⟩,
 ⟨.move, [.tmp 271], (some 20), none⟩])))))))))))
 (.seqR [⟨.move, [.tmp 15], (some 145), none⟩,
 ⟨(.bin .add), [.tmp 145, .const (.int .i64 1)], (some 146), none⟩,
 ⟨.move, [.tmp 146], (some 15), none⟩]))))))
 (.seq (.seqR [⟨.move, [.const (.int .i64 0)], (some 21), none⟩])
 (.seq (.seq (.seqR [⟨.move, [.const (.int .i64 0)], (some 22), none⟩])
 (.block 10 (.loop (.seq (.seq (.seqR [⟨.move, [.tmp 22], (some 288), none⟩,
 ⟨.move, [.tmp 8], (some 289), none⟩,
 ⟨.lenS, [.tmp 289], (some 290), none⟩,
 ⟨(.bin .lss), [.tmp 288, .tmp 290], (some 291), none⟩])
 (.cond (.tmp 291) .skip
 (.exit 10)))
 (.seq (.block 11 (.seq (.seqR [⟨.move, [.tmp 12], (some 294), none⟩,
 ⟨.move, [.tmp 22], (some 295), none⟩,
 ⟨(.indexAddrS 1), [.tmp 294, .tmp 295], (some 296), none⟩,
 ⟨(.load false 1), [.tmp 296], (some 297), none⟩,
 ⟨.not, [.tmp 297], (some 298), none⟩])
 (.cond (.tmp 298) (.seqR [⟨.move, [.tmp 21], (some 299), none⟩,
 ⟨(.bin .add), [.tmp 299, .const (.int .i64 1)], (some 300), none⟩,
 ⟨.move, [.tmp 300], (some 21), none⟩])
 .skip)))
 (.seqR [⟨.move, [.tmp 22], (some 292), none⟩,
 ⟨(.bin .add), [.tmp 292, .const (.int .i64 1)], (some 293), none⟩,
 ⟨.move, [.tmp 293], (some 22), none⟩]))))))
 (.seq (.seqR [⟨.move, [.tmp 7], (some 301), none⟩,
 ⟨(.callF 11), [.tmp 301], (some 302), none⟩,
 ⟨.move, [.tmp 21], (some 303), none⟩,
 ⟨(.bin .eql), [.tmp 302, .tmp 303], (some 304), none⟩,
 ⟨.move, [.tmp 304], (some 6), none⟩])
 .ret)))))))))))), [.tmp 6]⟩
theorem c3_ok : compFunc Try.prog Try.f3 = some c3 := by kernel_rfl
theorem c3_body : hasBody Try.prog 3 = true := hasBody_of Try.func3 (by kernel_rfl)
/-- coachyard/coachyardlaw23.awake -/
def c5 : PFn := ⟨39, Tr.ofList (List.replicate 39 undefA), (.seq (.seqR [⟨.move, [.const (.bool false)], (some 0), none⟩])
 (.seq (.seqR [⟨(.callF 6), [], (some 6), none⟩,
 ⟨.move, [.tmp 6], (some 1), none⟩])
 (.seq (.seqR [⟨.move, [.tmp 1], (some 7), none⟩,
 ⟨(.callF 7), [.tmp 7, .const (.int .i64 5), .const (.int .u64 1)], (some 8), none⟩])
 (.seq (.seqR [⟨.move, [.tmp 1], (some 9), none⟩,
 ⟨(.callF 7), [.tmp 9, .const (.int .i64 3), .const (.int .u64 2)], (some 10), none⟩])
 (.seq (.seqR [⟨.move, [.tmp 1], (some 11), none⟩,
 ⟨(.callF 7), [.tmp 11, .const (.int .i64 5), .const (.int .u64 3)], (some 12), none⟩])
 (.seq (.seqR [⟨.move, [.tmp 1], (some 14), none⟩,
 ⟨(.callF 10), [.tmp 14, .const (.int .i64 4)], (some 15), none⟩,
 ⟨.move, [.tmp 15], (some 13), none⟩,
 ⟨(.extract 0), [.tmp 13], (some 16), none⟩,
 ⟨(.extract 1), [.tmp 13], (some 17), none⟩,
 ⟨.move, [.tmp 16], (some 2), none⟩,
 ⟨.move, [.tmp 17], (some 3), none⟩])
 (.seq (.seqR [⟨.move, [.tmp 1], (some 19), none⟩,
 ⟨(.callF 10), [.tmp 19, .const (.int .i64 9)], (some 20), none⟩,
 ⟨.move, [.tmp 20], (some 18), none⟩,
 ⟨(.extract 0), [.tmp 18], (some 21), none⟩,
 ⟨(.extract 1), [.tmp 18], (some 22), none⟩,
 ⟨.move, [.tmp 21], (some 4), none⟩,
 ⟨.move, [.tmp 22], (some 5), none⟩])
 (.seq (.seqR [⟨.move, [.tmp 3], (some 23), none⟩,
 ⟨(.bin .eql), [.tmp 23, .const (.int .i64 0)], (some 24), none⟩,
 ⟨.move, [.tmp 24], (some 25), none⟩,
 ⟨.move, [.tmp 5], (some 26), some (25, true)⟩,
 ⟨(.bin .eql), [.tmp 26, .const (.int .i64 0)], (some 27), some (25, true)⟩,
 ⟨.pick, [.tmp 25, .tmp 27, .const (.bool false)], (some 28), none⟩,
 ⟨.move, [.tmp 28], (some 29), none⟩,
 ⟨.move, [.tmp 2], (some 30), some (29, true)⟩,
 ⟨(.sliceLit 1 [(.int .u64 0)] [(0, 1)]), [.const (.int .u64 2)], (some 31), some (29, true)⟩,
 ⟨(.callF 15), [.tmp 30, .tmp 31], (some 32), some (29, true)⟩,
 ⟨.pick, [.tmp 29, .tmp 32, .const (.bool false)], (some 33), none⟩,
 ⟨.move, [.tmp 33], (some 34), none⟩,
 ⟨.move, [.tmp 4], (some 35), some (34, true)⟩,
 ⟨(.sliceLit 2 [(.int .u64 0), (.int .u64 0)] [(0, 1), (1, 1)]), [.const (.int .u64 1), .const (.int .u64 3)], (some 36), some (34, true)⟩,
 ⟨(.callF 15), [.tmp 35, .tmp 36], (some 37), some (34, true)⟩,
 ⟨.pick, [.tmp 34, .tmp 37, .const (.bool false)], (some 38), none⟩,
 ⟨.move, [.tmp 38], (some 0), none⟩])
 .ret)))))))), [.tmp 0]⟩
theorem c5_ok : compFunc Try.prog Try.f5 = some c5 := by kernel_rfl
theorem c5_body : hasBody Try.prog 5 = true := hasBody_of Try.func5 (by kernel_rfl)
/-- coachyard/timer.New -/
def c6 : PFn := ⟨4, Tr.ofList (List.replicate 4 undefA), (.seq (.seqR [⟨.move, [.const (.ptr none)], (some 0), none⟩])
 (.seq (.seqR [⟨.makeMap, [], (some 1), none⟩,
 ⟨(.build [(.slice none 0 0 false), (.map none), (.int .i64 0), (.int .i64 0)] [(1, 1)]), [.tmp 1], (some 2), none⟩,
 ⟨.box, [.tmp 2], (some 3), none⟩,
 ⟨.move, [.tmp 3], (some 0), none⟩])
 .ret)), [.tmp 0]⟩
theorem c6_ok : compFunc Try.prog Try.f6 = some c6 := by kernel_rfl
theorem c6_body : hasBody Try.prog 6 = true := hasBody_of Try.func6 (by kernel_rfl)
/-- (*coachyard/timer.Timer).Add -/
def c7 : PFn := ⟨52, Tr.ofList (List.replicate 52 undefA), (.seq (.seqR [⟨.move, [.const (.int .i64 0)], (some 6), none⟩,
 ⟨.move, [.const (.int .i64 0)], (some 7), none⟩])
 (.seq (.seq (.seqR [⟨.move, [.tmp 0], (some 10), none⟩,
 ⟨.move, [.tmp 1], (some 11), none⟩,
 ⟨(.callF 17), [.tmp 10, .tmp 11], (some 12), none⟩,
 ⟨.move, [.tmp 12], (some 8), none⟩])
 (.seq (.seqR [⟨.move, [.tmp 8], (some 13), none⟩,
 ⟨(.bin .neq), [.tmp 13, .const (.int .i64 0)], (some 14), none⟩])
 (.cond (.tmp 14) (.seq (.seqR [⟨.move, [.tmp 8], (some 15), none⟩,
 ⟨.move, [.const (.int .i64 0)], (some 6), none⟩,
 ⟨.move, [.tmp 15], (some 7), none⟩])
 .ret)
 .skip)))
 (.seq (.seqR [⟨.move, [.tmp 1], (some 16), none⟩,
 ⟨.move, [.tmp 2], (some 17), none⟩,
 ⟨(.build [(.int .i64 0), (.int .u64 0)] [(0, 1), (1, 1)]), [.tmp 16, .tmp 17], (some 18), none⟩,
 ⟨.move, [.tmp 0], (some 19), none⟩,
 ⟨.nilCheck, [.tmp 19], (some 20), none⟩,
 ⟨(.fieldAddr 2), [.tmp 20], (some 21), none⟩,
 ⟨(.load false 1), [.tmp 21], (some 22), none⟩,
 ⟨(.build [(.int .i64 0), (.int .u64 0), (.int .i64 0), (.int .i64 0)] [(0, 2), (2, 1)]), [.tmp 18, .tmp 22], (some 23), none⟩,
 ⟨.box, [.tmp 23], (some 24), none⟩,
 ⟨.move, [.tmp 24], (some 9), none⟩])
 (.seq (.seqR [⟨.move, [.tmp 0], (some 25), none⟩,
 ⟨.nilCheck, [.tmp 25], (some 26), none⟩,
 ⟨(.fieldAddr 0), [.tmp 26], (some 27), none⟩,
 ⟨(.mkIface 66), [.tmp 27], (some 28), none⟩,
 ⟨.move, [.tmp 9], (some 29), none⟩,
 ⟨(.mkIface 60), [.tmp 29], (some 30), none⟩,
 ⟨(.callF 18), [.tmp 28, .tmp 30], (some 31), none⟩])
 (.seq (.drawR [⟨⟨.move, [.tmp 0], (some 32), none⟩, false, false, 0, 0⟩,
 ⟨⟨.nilCheck, [.tmp 32], (some 33), none⟩, false, false, 0, 0⟩,
 ⟨⟨(.fieldAddr 1), [.tmp 33], (some 34), none⟩, false, false, 0, 0⟩,
 ⟨⟨(.load false 1), [.tmp 34], (some 35), none⟩, false, false, 0, 0⟩,
 ⟨⟨.move, [.tmp 9], (some 36), none⟩, false, false, 0, 0⟩,
 ⟨⟨.nilCheck, [.tmp 36], (some 37), none⟩, false, false, 0, 0⟩,
 ⟨⟨(.fieldAddr 2), [.tmp 37], (some 38), none⟩, false, false, 0, 0⟩,
 ⟨⟨(.load false 1), [.tmp 38], (some 39), none⟩, false, false, 0, 0⟩,
 ⟨⟨.move, [.tmp 9], (some 40), none⟩, false, false, 0, 0⟩,
 ⟨⟨(.mapUpdate 0), [.tmp 35, .tmp 39, .tmp 40], none, none⟩, true, false, 0, 1⟩])
 (.seq (.seqR [⟨.move, [.tmp 0], (some 41), none⟩,
 ⟨.nilCheck, [.tmp 41], (some 42), none⟩,
 ⟨(.fieldAddr 2), [.tmp 42], (some 43), none⟩,
 ⟨(.load false 1), [.tmp 43], (some 44), none⟩,
 ⟨(.bin .add), [.tmp 44, .const (.int .i64 1)], (some 45), none⟩,
 ⟨.nilCheck, [.tmp 41], (some 46), none⟩,
 ⟨(.fieldAddr 2), [.tmp 46], (some 47), none⟩,
 ⟨(.store 1), [.tmp 47, .tmp 45], none, none⟩])
 (.seq (.seqR [⟨.move, [.tmp 9], (some 48), none⟩,
 ⟨.nilCheck, [.tmp 48], (some 49), none⟩,
 ⟨(.fieldAddr 2), [.tmp 49], (some 50), none⟩,
 ⟨(.load false 1), [.tmp 50], (some 51), none⟩,
 ⟨.move, [.tmp 51], (some 6), none⟩,
 ⟨.move, [.const (.int .i64 0)], (some 7), none⟩])
 .ret))))))), [.tmp 6, .tmp 7]⟩
theorem c7_ok : compFunc Try.prog Try.f7 = some c7 := by kernel_rfl
theorem c7_body : hasBody Try.prog 7 = true := hasBody_of Try.func7 (by kernel_rfl)
/-- (*coachyard/timer.Timer).Drop -/
def c8 : PFn := ⟨34, Tr.ofList (List.replicate 34 undefA), (.seq (.seqR [⟨.move, [.const (.int .i64 0)], (some 4), none⟩])
 (.seq (.seq (.seqR [⟨.move, [.tmp 0], (some 7), none⟩,
 ⟨(.eqPtr false), [.tmp 7, .const (.ptr none)], (some 8), none⟩])
 (.cond (.tmp 8) (.seq (.seqR [⟨.move, [.const (.int .i64 1)], (some 4), none⟩])
 .ret)
 .skip))
 (.seq (.seqR [⟨.move, [.tmp 0], (some 10), none⟩,
 ⟨.nilCheck, [.tmp 10], (some 11), none⟩,
 ⟨(.fieldAddr 1), [.tmp 11], (some 12), none⟩,
 ⟨(.load false 1), [.tmp 12], (some 13), none⟩,
 ⟨.move, [.tmp 1], (some 14), none⟩,
 ⟨(.lookup 0 true (.ptr none)), [.tmp 13, .tmp 14], (some 15), none⟩,
 ⟨.move, [.tmp 15], (some 9), none⟩,
 ⟨(.extract 0), [.tmp 9], (some 16), none⟩,
 ⟨(.extract 1), [.tmp 9], (some 17), none⟩,
 ⟨.move, [.tmp 16], (some 5), none⟩,
 ⟨.move, [.tmp 17], (some 6), none⟩])
 (.seq (.seq (.seqR [⟨.move, [.tmp 6], (some 18), none⟩,
 ⟨.not, [.tmp 18], (some 19), none⟩])
 (.cond (.tmp 19) (.seq (.seqR [⟨.move, [.const (.int .i64 15)], (some 4), none⟩])
 .ret)
 .skip))
 (.seq (.drawR [⟨⟨.move, [.tmp 0], (some 20), none⟩, false, false, 0, 0⟩,
 ⟨⟨.nilCheck, [.tmp 20], (some 21), none⟩, false, false, 0, 0⟩,
 ⟨⟨(.fieldAddr 0), [.tmp 21], (some 22), none⟩, false, false, 0, 0⟩,
 ⟨⟨(.mkIface 66), [.tmp 22], (some 23), none⟩, false, false, 0, 0⟩,
 ⟨⟨.move, [.tmp 5], (some 24), none⟩, false, false, 0, 0⟩,
 ⟨⟨.nilCheck, [.tmp 24], (some 25), none⟩, false, false, 0, 0⟩,
 ⟨⟨(.fieldAddr 3), [.tmp 25], (some 26), none⟩, false, false, 0, 0⟩,
 ⟨⟨(.load false 1), [.tmp 26], (some 27), none⟩, false, false, 0, 0⟩,
 ⟨⟨(.callF 19), [.tmp 23, .tmp 27], (some 28), none⟩, true, false, 0, 1⟩])
 (.seq (.seqR [⟨.move, [.tmp 0], (some 29), none⟩,
 ⟨.nilCheck, [.tmp 29], (some 30), none⟩,
 ⟨(.fieldAddr 1), [.tmp 30], (some 31), none⟩,
 ⟨(.load false 1), [.tmp 31], (some 32), none⟩,
 ⟨.move, [.tmp 1], (some 33), none⟩,
 ⟨(.delete 0), [.tmp 32, .tmp 33], none, none⟩])
 (.seq (.seqR [⟨.move, [.const (.int .i64 0)], (some 4), none⟩])
 .ret))))))), [.tmp 4]⟩
theorem c8_ok : compFunc Try.prog Try.f8 = some c8 := by kernel_rfl
theorem c8_body : hasBody Try.prog 8 = true := hasBody_of Try.func8 (by kernel_rfl)
/-- (*coachyard/timer.Timer).Now -/
def c9 : PFn := ⟨9, Tr.ofList (List.replicate 9 undefA), (.seq (.seqR [⟨.move, [.const (.int .i64 0)], (some 2), none⟩])
 (.seq (.seq (.seqR [⟨.move, [.tmp 0], (some 3), none⟩,
 ⟨(.eqPtr false), [.tmp 3, .const (.ptr none)], (some 4), none⟩])
 (.cond (.tmp 4) (.seq (.seqR [⟨.move, [.const (.int .i64 0)], (some 2), none⟩])
 .ret)
 .skip))
 (.seq (.seqR [⟨.move, [.tmp 0], (some 5), none⟩,
 ⟨.nilCheck, [.tmp 5], (some 6), none⟩,
 ⟨(.fieldAddr 3), [.tmp 6], (some 7), none⟩,
 ⟨(.load false 1), [.tmp 7], (some 8), none⟩,
 ⟨.move, [.tmp 8], (some 2), none⟩])
 .ret))), [.tmp 2]⟩
theorem c9_ok : compFunc Try.prog Try.f9 = some c9 := by kernel_rfl
theorem c9_body : hasBody Try.prog 9 = true := hasBody_of Try.func9 (by kernel_rfl)
/-- (*coachyard/timer.Timer).Due -/
def c10 : PFn := ⟨62, Tr.ofList (List.replicate 62 undefA), (.seq (.seqR [⟨.move, [.const (.slice none 0 0 false)], (some 4), none⟩,
 ⟨.move, [.const (.int .i64 0)], (some 5), none⟩])
 (.seq (.seq (.seqR [⟨.move, [.tmp 0], (some 9), none⟩,
 ⟨.move, [.tmp 1], (some 10), none⟩,
 ⟨(.callF 17), [.tmp 9, .tmp 10], (some 11), none⟩,
 ⟨.move, [.tmp 11], (some 6), none⟩])
 (.seq (.seqR [⟨.move, [.tmp 6], (some 12), none⟩,
 ⟨(.bin .neq), [.tmp 12, .const (.int .i64 0)], (some 13), none⟩])
 (.cond (.tmp 13) (.seq (.seqR [⟨.move, [.tmp 6], (some 14), none⟩,
 ⟨.move, [.const (.slice none 0 0 false)], (some 4), none⟩,
 ⟨.move, [.tmp 14], (some 5), none⟩])
 .ret)
 .skip)))
 (.seq (.seqR [⟨.move, [.tmp 0], (some 15), none⟩,
 ⟨.move, [.tmp 1], (some 16), none⟩,
 ⟨.nilCheck, [.tmp 15], (some 17), none⟩,
 ⟨(.fieldAddr 3), [.tmp 17], (some 18), none⟩,
 ⟨(.store 1), [.tmp 18, .tmp 16], none, none⟩])
 (.seq (.seqR [⟨.move, [.const (.slice none 0 0 false)], (some 7), none⟩])
 (.seq (.block 0 (.loop (.seq (.seq (.seqR [⟨.move, [.tmp 0], (some 19), none⟩,
 ⟨.nilCheck, [.tmp 19], (some 20), none⟩,
 ⟨(.fieldAddr 0), [.tmp 20], (some 21), none⟩,
 ⟨(.load false 1), [.tmp 21], (some 22), none⟩,
 ⟨.lenS, [.tmp 22], (some 23), none⟩,
 ⟨(.bin .gtr), [.tmp 23, .const (.int .i64 0)], (some 24), none⟩,
 ⟨.move, [.tmp 24], (some 25), none⟩,
 ⟨.move, [.tmp 0], (some 26), some (25, true)⟩,
 ⟨.nilCheck, [.tmp 26], (some 27), some (25, true)⟩,
 ⟨(.fieldAddr 0), [.tmp 27], (some 28), some (25, true)⟩,
 ⟨(.load false 1), [.tmp 28], (some 29), some (25, true)⟩,
 ⟨(.indexAddrS 1), [.tmp 29, .const (.int .i64 0)], (some 30), some (25, true)⟩,
 ⟨(.load false 1), [.tmp 30], (some 31), some (25, true)⟩,
 ⟨.nilCheck, [.tmp 31], (some 32), some (25, true)⟩,
 ⟨(.fieldAddr 0), [.tmp 32], (some 33), some (25, true)⟩,
 ⟨(.fieldAddr 0), [.tmp 33], (some 34), some (25, true)⟩,
 ⟨(.load false 1), [.tmp 34], (some 35), some (25, true)⟩,
 ⟨.move, [.tmp 1], (some 36), some (25, true)⟩,
 ⟨(.bin .leq), [.tmp 35, .tmp 36], (some 37), some (25, true)⟩,
 ⟨.pick, [.tmp 25, .tmp 37, .const (.bool false)], (some 38), none⟩])
 (.cond (.tmp 38) .skip
 (.exit 0)))
 (.block 1 (.seq (.seqR [⟨.move, [.tmp 0], (some 39), none⟩,
 ⟨.nilCheck, [.tmp 39], (some 40), none⟩,
 ⟨(.fieldAddr 0), [.tmp 40], (some 41), none⟩,
 ⟨(.mkIface 66), [.tmp 41], (some 42), none⟩,
 ⟨(.callF 20), [.tmp 42], (some 43), none⟩,
 ⟨(.assertC 60 false (.ptr none)), [.tmp 43], (some 44), none⟩,
 ⟨.move, [.tmp 44], (some 8), none⟩])
 (.seq (.drawR [⟨⟨.move, [.tmp 0], (some 45), none⟩, false, false, 0, 0⟩,
 ⟨⟨.nilCheck, [.tmp 45], (some 46), none⟩, false, false, 0, 0⟩,
 ⟨⟨(.fieldAddr 1), [.tmp 46], (some 47), none⟩, false, false, 0, 0⟩,
 ⟨⟨(.load false 1), [.tmp 47], (some 48), none⟩, false, false, 0, 0⟩,
 ⟨⟨.move, [.tmp 8], (some 49), none⟩, false, false, 0, 0⟩,
 ⟨⟨.nilCheck, [.tmp 49], (some 50), none⟩, false, false, 0, 0⟩,
 ⟨⟨(.fieldAddr 2), [.tmp 50], (some 51), none⟩, false, false, 0, 0⟩,
 ⟨⟨(.load false 1), [.tmp 51], (some 52), none⟩, false, false, 0, 0⟩,
 ⟨⟨(.delete 0), [.tmp 48, .tmp 52], none, none⟩, true, false, 0, 1⟩])
 (.seqR [⟨.move, [.tmp 7], (some 53), none⟩,
 ⟨.move, [.tmp 8], (some 54), none⟩,
 ⟨.nilCheck, [.tmp 54], (some 55), none⟩,
 ⟨(.fieldAddr 0), [.tmp 55], (some 56), none⟩,
 ⟨(.fieldAddr 1), [.tmp 56], (some 57), none⟩,
 ⟨(.load false 1), [.tmp 57], (some 58), none⟩,
 ⟨(.sliceLit 1 [(.int .u64 0)] [(0, 1)]), [.tmp 58], (some 59), none⟩,
 ⟨(.append 1 8), [.tmp 53, .tmp 59], (some 60), none⟩,
 ⟨.move, [.tmp 60], (some 7), none⟩])))))))
 (.seq (.seqR [⟨.move, [.tmp 7], (some 61), none⟩,
 ⟨.move, [.tmp 61], (some 4), none⟩,
 ⟨.move, [.const (.int .i64 0)], (some 5), none⟩])
 .ret)))))), [.tmp 4, .tmp 5]⟩
theorem c10_ok : compFunc Try.prog Try.f10 = some c10 := by kernel_rfl
theorem c10_body : hasBody Try.prog 10 = true := hasBody_of Try.func10 (by kernel_rfl)
/-- (*coachyard/timer.Timer).Len -/
def c11 : PFn := ⟨10, Tr.ofList (List.replicate 10 undefA), (.seq (.seqR [⟨.move, [.const (.int .i64 0)], (some 2), none⟩])
 (.seq (.seq (.seqR [⟨.move, [.tmp 0], (some 3), none⟩,
 ⟨(.eqPtr false), [.tmp 3, .const (.ptr none)], (some 4), none⟩])
 (.cond (.tmp 4) (.seq (.seqR [⟨.move, [.const (.int .i64 0)], (some 2), none⟩])
 .ret)
 .skip))
 (.seq (.seqR [⟨.move, [.tmp 0], (some 5), none⟩,
 ⟨.nilCheck, [.tmp 5], (some 6), none⟩,
 ⟨(.fieldAddr 0), [.tmp 6], (some 7), none⟩,
 ⟨(.load false 1), [.tmp 7], (some 8), none⟩,
 ⟨.lenS, [.tmp 8], (some 9), none⟩,
 ⟨.move, [.tmp 9], (some 2), none⟩])
 .ret))), [.tmp 2]⟩
theorem c11_ok : compFunc Try.prog Try.f11 = some c11 := by kernel_rfl
theorem c11_body : hasBody Try.prog 11 = true := hasBody_of Try.func11 (by kernel_rfl)
/-- coachyard/coachyardref01.Same -/
def c15 : PFn := ⟨26, Tr.ofList (List.replicate 26 undefA), (.seq (.seqR [⟨.move, [.const (.bool false)], (some 4), none⟩])
 (.seq (.seq (.seqR [⟨.move, [.tmp 0], (some 6), none⟩,
 ⟨.lenS, [.tmp 6], (some 7), none⟩,
 ⟨.move, [.tmp 1], (some 8), none⟩,
 ⟨.lenS, [.tmp 8], (some 9), none⟩,
 ⟨(.bin .neq), [.tmp 7, .tmp 9], (some 10), none⟩])
 (.cond (.tmp 10) (.seq (.seqR [⟨.move, [.const (.bool false)], (some 4), none⟩])
 .ret)
 .skip))
 (.seq (.seq (.seqR [⟨.move, [.const (.int .i64 0)], (some 5), none⟩])
 (.block 0 (.loop (.seq (.seq (.seqR [⟨.move, [.tmp 5], (some 11), none⟩,
 ⟨.move, [.tmp 0], (some 12), none⟩,
 ⟨.lenS, [.tmp 12], (some 13), none⟩,
 ⟨(.bin .lss), [.tmp 11, .tmp 13], (some 14), none⟩])
 (.cond (.tmp 14) .skip
 (.exit 0)))
 (.seq (.block 1 (.seq (.drawR [⟨⟨.move, [.tmp 0], (some 17), none⟩, false, false, 0, 0⟩,
 ⟨⟨.move, [.tmp 5], (some 18), none⟩, false, false, 0, 0⟩,
 ⟨⟨(.indexAddrS 1), [.tmp 17, .tmp 18], (some 19), none⟩, false, false, 0, 0⟩,
 ⟨⟨(.load false 1), [.tmp 19], (some 20), none⟩, false, false, 0, 0⟩,
 ⟨⟨.move, [.tmp 1], (some 21), none⟩, false, false, 0, 0⟩,
 ⟨⟨.move, [.tmp 5], (some 22), none⟩, false, false, 0, 0⟩,
 ⟨⟨(.indexAddrS 1), [.tmp 21, .tmp 22], (some 23), none⟩, false, false, 0, 0⟩,
 ⟨⟨(.load false 1), [.tmp 23], (some 24), none⟩, false, false, 0, 0⟩,
 ⟨⟨(.bin .neq), [.tmp 20, .tmp 24], (some 25), none⟩, false, false, 0, 0⟩])
 (.cond (.tmp 25) (.seq (.seqR [⟨.move, [.const (.bool false)], (some 4), none⟩])
 .ret)
 .skip)))
 (.seqR [⟨.move, [.tmp 5], (some 15), none⟩,
 ⟨(.bin .add), [.tmp 15, .const (.int .i64 1)], (some 16), none⟩,
 ⟨.move, [.tmp 16], (some 5), none⟩]))))))
 (.seq (.seqR [⟨.move, [.const (.bool true)], (some 4), none⟩])
 .ret)))), [.tmp 4]⟩
theorem c15_ok : compFunc Try.prog Try.f15 = some c15 := by kernel_rfl
theorem c15_body : hasBody Try.prog 15 = true := hasBody_of Try.func15 (by kernel_rfl)
/-- (*coachyard/timer.Timer).check -/
def c17 : PFn := ⟨22, Tr.ofList (List.replicate 22 undefA), (.seq (.seqR [⟨.move, [.const (.int .i64 0)], (some 4), none⟩])
 (.seq (.block 0 (.seq (.seqR [⟨.move, [.tmp 0], (some 6), none⟩,
 ⟨(.eqPtr false), [.tmp 6, .const (.ptr none)], (some 7), none⟩,
 ⟨.move, [.tmp 7], (some 5), none⟩])
 (.cond (.tmp 5) (.seq (.seqR [⟨.move, [.const (.int .i64 1)], (some 4), none⟩])
 .ret)
 (.seq (.seqR [⟨.move, [.tmp 1], (some 9), none⟩,
 ⟨(.bin .lss), [.tmp 9, .const (.int .i64 0)], (some 10), none⟩,
 ⟨.move, [.tmp 10], (some 11), none⟩,
 ⟨.move, [.tmp 1], (some 12), some (11, false)⟩,
 ⟨(.bin .gtr), [.tmp 12, .const (.int .i64 1099511627776)], (some 13), some (11, false)⟩,
 ⟨.pick, [.tmp 11, .const (.bool true), .tmp 13], (some 14), none⟩,
 ⟨.move, [.tmp 14], (some 8), none⟩])
 (.cond (.tmp 8) (.seq (.seqR [⟨.move, [.const (.int .i64 2)], (some 4), none⟩])
 .ret)
 (.seq (.seqR [⟨.move, [.tmp 1], (some 16), none⟩,
 ⟨.move, [.tmp 0], (some 17), none⟩,
 ⟨.nilCheck, [.tmp 17], (some 18), none⟩,
 ⟨(.fieldAddr 3), [.tmp 18], (some 19), none⟩,
 ⟨(.load false 1), [.tmp 19], (some 20), none⟩,
 ⟨(.bin .lss), [.tmp 16, .tmp 20], (some 21), none⟩,
 ⟨.move, [.tmp 21], (some 15), none⟩])
 (.cond (.tmp 15) (.seq (.seqR [⟨.move, [.const (.int .i64 15)], (some 4), none⟩])
 .ret)
 .skip)))))))
 (.seq (.seqR [⟨.move, [.const (.int .i64 0)], (some 4), none⟩])
 .ret))), [.tmp 4]⟩
theorem c17_ok : compFunc Try.prog Try.f17 = some c17 := by kernel_rfl
theorem c17_body : hasBody Try.prog 17 = true := hasBody_of Try.func17 (by kernel_rfl)
/-- container/heap.Push -/
def c18 : PFn := ⟨12, Tr.ofList (List.replicate 12 undefA), (.seq (.seqR [⟨.move, [.tmp 0], (some 4), none⟩,
 ⟨.move, [.tmp 1], (some 5), none⟩,
 ⟨(.invoke [(66, 76)] []), [.tmp 4, .tmp 5], (some 6), none⟩])
 (.seqR [⟨.move, [.tmp 0], (some 7), none⟩,
 ⟨.move, [.tmp 0], (some 8), none⟩,
 ⟨(.invoke [(25, 11), (56, 72)] [(66, 72, false, 1)]), [.tmp 8], (some 9), none⟩,
 ⟨(.bin .sub), [.tmp 9, .const (.int .i64 1)], (some 10), none⟩,
 ⟨(.callF 24), [.tmp 7, .tmp 10], (some 11), none⟩])), []⟩
theorem c18_ok : compFunc Try.prog Try.f18 = some c18 := by kernel_rfl
theorem c18_body : hasBody Try.prog 18 = true := hasBody_of Try.func18 (by kernel_rfl)
/-- container/heap.Remove -/
def c19 : PFn := ⟨26, Tr.ofList (List.replicate 26 undefA), (.seq (.seqR [⟨.move, [.const .nilIface], (some 4), none⟩])
 (.seq (.seqR [⟨.move, [.tmp 0], (some 6), none⟩,
 ⟨(.invoke [(25, 11), (56, 72)] [(66, 72, false, 1)]), [.tmp 6], (some 7), none⟩,
 ⟨(.bin .sub), [.tmp 7, .const (.int .i64 1)], (some 8), none⟩,
 ⟨.move, [.tmp 8], (some 5), none⟩])
 (.seq (.seq (.seqR [⟨.move, [.tmp 5], (some 9), none⟩,
 ⟨.move, [.tmp 1], (some 10), none⟩,
 ⟨(.bin .neq), [.tmp 9, .tmp 10], (some 11), none⟩])
 (.cond (.tmp 11) (.seq (.seqR [⟨.move, [.tmp 0], (some 12), none⟩,
 ⟨.move, [.tmp 1], (some 13), none⟩,
 ⟨.move, [.tmp 5], (some 14), none⟩,
 ⟨(.invoke [(56, 74)] [(66, 74, false, 1)]), [.tmp 12, .tmp 13, .tmp 14], (some 15), none⟩])
 (.seq (.seqR [⟨.move, [.tmp 0], (some 16), none⟩,
 ⟨.move, [.tmp 1], (some 17), none⟩,
 ⟨.move, [.tmp 5], (some 18), none⟩,
 ⟨(.callF 25), [.tmp 16, .tmp 17, .tmp 18], (some 19), none⟩,
 ⟨.not, [.tmp 19], (some 20), none⟩])
 (.cond (.tmp 20) (.seqR [⟨.move, [.tmp 0], (some 21), none⟩,
 ⟨.move, [.tmp 1], (some 22), none⟩,
 ⟨(.callF 24), [.tmp 21, .tmp 22], (some 23), none⟩])
 .skip)))
 .skip))
 (.seq (.seqR [⟨.move, [.tmp 0], (some 24), none⟩,
 ⟨(.invoke [(66, 75)] []), [.tmp 24], (some 25), none⟩,
 ⟨.move, [.tmp 25], (some 4), none⟩])
 .ret)))), [.tmp 4]⟩
theorem c19_ok : compFunc Try.prog Try.f19 = some c19 := by kernel_rfl
theorem c19_body : hasBody Try.prog 19 = true := hasBody_of Try.func19 (by kernel_rfl)
/-- container/heap.Pop -/
def c20 : PFn := ⟨15, Tr.ofList (List.replicate 15 undefA), (.seq (.seqR [⟨.move, [.const .nilIface], (some 2), none⟩])
 (.seq (.seqR [⟨.move, [.tmp 0], (some 4), none⟩,
 ⟨(.invoke [(25, 11), (56, 72)] [(66, 72, false, 1)]), [.tmp 4], (some 5), none⟩,
 ⟨(.bin .sub), [.tmp 5, .const (.int .i64 1)], (some 6), none⟩,
 ⟨.move, [.tmp 6], (some 3), none⟩])
 (.seq (.seqR [⟨.move, [.tmp 0], (some 7), none⟩,
 ⟨.move, [.tmp 3], (some 8), none⟩,
 ⟨(.invoke [(56, 74)] [(66, 74, false, 1)]), [.tmp 7, .const (.int .i64 0), .tmp 8], (some 9), none⟩])
 (.seq (.seqR [⟨.move, [.tmp 0], (some 10), none⟩,
 ⟨.move, [.tmp 3], (some 11), none⟩,
 ⟨(.callF 25), [.tmp 10, .const (.int .i64 0), .tmp 11], (some 12), none⟩])
 (.seq (.seqR [⟨.move, [.tmp 0], (some 13), none⟩,
 ⟨(.invoke [(66, 75)] []), [.tmp 13], (some 14), none⟩,
 ⟨.move, [.tmp 14], (some 2), none⟩])
 .ret))))), [.tmp 2]⟩
theorem c20_ok : compFunc Try.prog Try.f20 = some c20 := by kernel_rfl
theorem c20_body : hasBody Try.prog 20 = true := hasBody_of Try.func20 (by kernel_rfl)
/-- container/heap.up -/
def c24 : PFn := ⟨23, Tr.ofList (List.replicate 23 undefA), (.block 0 (.loop (.block 1 (.seq (.seqR [⟨.move, [.tmp 1], (some 5), none⟩,
 ⟨(.bin .sub), [.tmp 5, .const (.int .i64 1)], (some 6), none⟩,
 ⟨(.bin .quo), [.tmp 6, .const (.int .i64 2)], (some 7), none⟩,
 ⟨.move, [.tmp 7], (some 4), none⟩])
 (.seq (.seq (.seqR [⟨.move, [.tmp 4], (some 8), none⟩,
 ⟨.move, [.tmp 1], (some 9), none⟩,
 ⟨(.bin .eql), [.tmp 8, .tmp 9], (some 10), none⟩,
 ⟨.move, [.tmp 10], (some 11), none⟩,
 ⟨.move, [.tmp 0], (some 12), some (11, false)⟩,
 ⟨.move, [.tmp 1], (some 13), some (11, false)⟩,
 ⟨.move, [.tmp 4], (some 14), some (11, false)⟩,
 ⟨(.invoke [(56, 73)] [(66, 73, false, 1)]), [.tmp 12, .tmp 13, .tmp 14], (some 15), some (11, false)⟩,
 ⟨.not, [.tmp 15], (some 16), some (11, false)⟩,
 ⟨.pick, [.tmp 11, .const (.bool true), .tmp 16], (some 17), none⟩])
 (.cond (.tmp 17) (.exit 0)
 .skip))
 (.seq (.seqR [⟨.move, [.tmp 0], (some 18), none⟩,
 ⟨.move, [.tmp 4], (some 19), none⟩,
 ⟨.move, [.tmp 1], (some 20), none⟩,
 ⟨(.invoke [(56, 74)] [(66, 74, false, 1)]), [.tmp 18, .tmp 19, .tmp 20], (some 21), none⟩])
 (.seqR [⟨.move, [.tmp 4], (some 22), none⟩,
 ⟨.move, [.tmp 22], (some 1), none⟩]))))))), []⟩
theorem c24_ok : compFunc Try.prog Try.f24 = some c24 := by kernel_rfl
theorem c24_body : hasBody Try.prog 24 = true := hasBody_of Try.func24 (by kernel_rfl)
/-- container/heap.down -/
def c25 : PFn := ⟨48, Tr.ofList (List.replicate 48 undefA), (.seq (.seqR [⟨.move, [.const (.bool false)], (some 6), none⟩])
 (.seq (.seqR [⟨.move, [.tmp 1], (some 11), none⟩,
 ⟨.move, [.tmp 11], (some 7), none⟩])
 (.seq (.block 0 (.loop (.block 1 (.seq (.seqR [⟨.move, [.tmp 7], (some 12), none⟩,
 ⟨(.bin .mul), [.const (.int .i64 2), .tmp 12], (some 13), none⟩,
 ⟨(.bin .add), [.tmp 13, .const (.int .i64 1)], (some 14), none⟩,
 ⟨.move, [.tmp 14], (some 8), none⟩])
 (.seq (.seq (.seqR [⟨.move, [.tmp 8], (some 15), none⟩,
 ⟨.move, [.tmp 2], (some 16), none⟩,
 ⟨(.bin .geq), [.tmp 15, .tmp 16], (some 17), none⟩,
 ⟨.move, [.tmp 17], (some 18), none⟩,
 ⟨.move, [.tmp 8], (some 19), some (18, false)⟩,
 ⟨(.bin .lss), [.tmp 19, .const (.int .i64 0)], (some 20), some (18, false)⟩,
 ⟨.pick, [.tmp 18, .const (.bool true), .tmp 20], (some 21), none⟩])
 (.cond (.tmp 21) (.exit 0)
 .skip))
 (.seq (.seqR [⟨.move, [.tmp 8], (some 22), none⟩,
 ⟨.move, [.tmp 22], (some 9), none⟩])
 (.seq (.seq (.seqR [⟨.move, [.tmp 8], (some 23), none⟩,
 ⟨(.bin .add), [.tmp 23, .const (.int .i64 1)], (some 24), none⟩,
 ⟨.move, [.tmp 24], (some 10), none⟩])
 (.seq (.seqR [⟨.move, [.tmp 10], (some 25), none⟩,
 ⟨.move, [.tmp 2], (some 26), none⟩,
 ⟨(.bin .lss), [.tmp 25, .tmp 26], (some 27), none⟩,
 ⟨.move, [.tmp 27], (some 28), none⟩,
 ⟨.move, [.tmp 0], (some 29), some (28, true)⟩,
 ⟨.move, [.tmp 10], (some 30), some (28, true)⟩,
 ⟨.move, [.tmp 8], (some 31), some (28, true)⟩,
 ⟨(.invoke [(56, 73)] [(66, 73, false, 1)]), [.tmp 29, .tmp 30, .tmp 31], (some 32), some (28, true)⟩,
 ⟨.pick, [.tmp 28, .tmp 32, .const (.bool false)], (some 33), none⟩])
 (.cond (.tmp 33) (.seqR [⟨.move, [.tmp 10], (some 34), none⟩,
 ⟨.move, [.tmp 34], (some 9), none⟩])
 .skip)))
 (.seq (.seq (.seqR [⟨.move, [.tmp 0], (some 35), none⟩,
 ⟨.move, [.tmp 9], (some 36), none⟩,
 ⟨.move, [.tmp 7], (some 37), none⟩,
 ⟨(.invoke [(56, 73)] [(66, 73, false, 1)]), [.tmp 35, .tmp 36, .tmp 37], (some 38), none⟩,
 ⟨.not, [.tmp 38], (some 39), none⟩])
 (.cond (.tmp 39) (.exit 0)
 .skip))
 (.seq (.seqR [⟨.move, [.tmp 0], (some 40), none⟩,
 ⟨.move, [.tmp 7], (some 41), none⟩,
 ⟨.move, [.tmp 9], (some 42), none⟩,
 ⟨(.invoke [(56, 74)] [(66, 74, false, 1)]), [.tmp 40, .tmp 41, .tmp 42], (some 43), none⟩])
 (.seqR [⟨.move, [.tmp 9], (some 44), none⟩,
 ⟨.move, [.tmp 44], (some 7), none⟩]))))))))))
 (.seq (.seqR [⟨.move, [.tmp 7], (some 45), none⟩,
 ⟨.move, [.tmp 1], (some 46), none⟩,
 ⟨(.bin .gtr), [.tmp 45, .tmp 46], (some 47), none⟩,
 ⟨.move, [.tmp 47], (some 6), none⟩])
 .ret)))), [.tmp 6]⟩
theorem c25_ok : compFunc Try.prog Try.f25 = some c25 := by kernel_rfl
theorem c25_body : hasBody Try.prog 25 = true := hasBody_of Try.func25 (by kernel_rfl)
/-- coachyard/timer.compare -/
def c28 : PFn := ⟨27, Tr.ofList (List.replicate 27 undefA), (.seq (.seqR [⟨.move, [.const (.int .i64 0)], (some 4), none⟩])
 (.seq (.drawR [⟨⟨.move, [.tmp 0], (some 5), none⟩, false, false, 0, 0⟩,
 ⟨⟨.nilCheck, [.tmp 5], (some 6), none⟩, false, false, 0, 0⟩,
 ⟨⟨(.fieldAddr 0), [.tmp 6], (some 7), none⟩, false, false, 0, 0⟩,
 ⟨⟨(.fieldAddr 0), [.tmp 7], (some 8), none⟩, false, false, 0, 0⟩,
 ⟨⟨(.load false 1), [.tmp 8], (some 9), none⟩, false, false, 0, 0⟩,
 ⟨⟨.move, [.tmp 1], (some 10), none⟩, false, false, 0, 0⟩,
 ⟨⟨.nilCheck, [.tmp 10], (some 11), none⟩, false, false, 0, 0⟩,
 ⟨⟨(.fieldAddr 0), [.tmp 11], (some 12), none⟩, false, false, 0, 0⟩,
 ⟨⟨(.fieldAddr 0), [.tmp 12], (some 13), none⟩, false, false, 0, 0⟩,
 ⟨⟨(.load false 1), [.tmp 13], (some 14), none⟩, false, false, 0, 0⟩,
 ⟨⟨(.callF 33), [.tmp 9, .tmp 14], (some 15), none⟩, true, false, 0, 1⟩,
 ⟨⟨.move, [.tmp 0], (some 16), none⟩, false, false, 0, 1⟩,
 ⟨⟨.nilCheck, [.tmp 16], (some 17), none⟩, false, false, 0, 1⟩,
 ⟨⟨(.fieldAddr 2), [.tmp 17], (some 18), none⟩, false, false, 0, 1⟩,
 ⟨⟨(.load false 1), [.tmp 18], (some 19), none⟩, false, false, 0, 1⟩,
 ⟨⟨.move, [.tmp 1], (some 20), none⟩, false, false, 0, 1⟩,
 ⟨⟨.nilCheck, [.tmp 20], (some 21), none⟩, false, false, 0, 1⟩,
 ⟨⟨(.fieldAddr 2), [.tmp 21], (some 22), none⟩, false, false, 0, 1⟩,
 ⟨⟨(.load false 1), [.tmp 22], (some 23), none⟩, false, false, 0, 1⟩,
 ⟨⟨(.callF 34), [.tmp 19, .tmp 23], (some 24), none⟩, true, false, 1, 2⟩,
 ⟨⟨(.sliceLit 2 [(.int .i64 0), (.int .i64 0)] [(0, 1), (1, 1)]), [.tmp 15, .tmp 24], (some 25), none⟩, true, false, 2, 3⟩,
 ⟨⟨(.callF 32), [.tmp 25], (some 26), none⟩, true, false, 3, 4⟩,
 ⟨⟨.move, [.tmp 26], (some 4), none⟩, false, false, 4, 4⟩])
 .ret)), [.tmp 4]⟩
theorem c28_ok : compFunc Try.prog Try.f28 = some c28 := by kernel_rfl
theorem c28_body : hasBody Try.prog 28 = true := hasBody_of Try.func28 (by kernel_rfl)
/-- cmp.Or[int] -/
def c32 : PFn := ⟨18, Tr.ofList (List.replicate 18 undefA), (.seq (.seqR [⟨.move, [.const (.int .i64 0)], (some 2), none⟩])
 (.seq (.seqR [⟨.move, [.const (.int .i64 0)], (some 3), none⟩])
 (.seq (.seq (.seqR [⟨.move, [.tmp 0], (some 6), none⟩,
 ⟨.lenS, [.tmp 6], (some 7), none⟩,
 ⟨.move, [.const (.int .i64 0)], (some 8), none⟩])
 (.block 0 (.loop (.seq (.seqR [⟨(.bin .lss), [.tmp 8, .tmp 7], (some 9), none⟩])
 (.seq (.cond (.tmp 9) .skip
 (.exit 0))
 (.seq (.block 1 (.seq (.seqR [⟨(.indexAddrS 1), [.tmp 6, .tmp 8], (some 10), none⟩,
 ⟨(.load false 1), [.tmp 10], (some 11), none⟩,
 ⟨.move, [.tmp 11], (some 5), none⟩])
 (.seq (.seqR [⟨.move, [.tmp 5], (some 12), none⟩,
 ⟨.move, [.tmp 3], (some 13), none⟩,
 ⟨(.bin .neq), [.tmp 12, .tmp 13], (some 14), none⟩])
 (.cond (.tmp 14) (.seq (.seqR [⟨.move, [.tmp 5], (some 15), none⟩,
 ⟨.move, [.tmp 15], (some 2), none⟩])
 .ret)
 .skip))))
 (.seqR [⟨(.bin .add), [.tmp 8, .const (.int .i64 1)], (some 16), none⟩,
 ⟨.move, [.tmp 16], (some 8), none⟩])))))))
 (.seq (.seqR [⟨.move, [.tmp 3], (some 17), none⟩,
 ⟨.move, [.tmp 17], (some 2), none⟩])
 .ret)))), [.tmp 2]⟩
theorem c32_ok : compFunc Try.prog Try.f32 = some c32 := by kernel_rfl
theorem c32_body : hasBody Try.prog 32 = true := hasBody_of Try.func32 (by kernel_rfl)
/-- cmp.Compare[int64] -/
def c33 : PFn := ⟨20, Tr.ofList (List.replicate 20 undefA), (.seq (.seqR [⟨.move, [.const (.int .i64 0)], (some 4), none⟩])
 (.seq (.seqR [⟨.move, [.tmp 0], (some 7), none⟩,
 ⟨(.callF 38), [.tmp 7], (some 8), none⟩,
 ⟨.move, [.tmp 8], (some 5), none⟩])
 (.seq (.seqR [⟨.move, [.tmp 1], (some 9), none⟩,
 ⟨(.callF 38), [.tmp 9], (some 10), none⟩,
 ⟨.move, [.tmp 10], (some 6), none⟩])
 (.seq (.seq (.seqR [⟨.move, [.tmp 5], (some 11), none⟩])
 (.cond (.tmp 11) (.seq (.seq (.seqR [⟨.move, [.tmp 6], (some 12), none⟩])
 (.cond (.tmp 12) (.seq (.seqR [⟨.move, [.const (.int .i64 0)], (some 4), none⟩])
 .ret)
 .skip))
 (.seq (.seqR [⟨.move, [.const (.int .i64 (-1))], (some 4), none⟩])
 .ret))
 .skip))
 (.seq (.seq (.seqR [⟨.move, [.tmp 6], (some 13), none⟩])
 (.cond (.tmp 13) (.seq (.seqR [⟨.move, [.const (.int .i64 1)], (some 4), none⟩])
 .ret)
 .skip))
 (.seq (.seq (.seqR [⟨.move, [.tmp 0], (some 14), none⟩,
 ⟨.move, [.tmp 1], (some 15), none⟩,
 ⟨(.bin .lss), [.tmp 14, .tmp 15], (some 16), none⟩])
 (.cond (.tmp 16) (.seq (.seqR [⟨.move, [.const (.int .i64 (-1))], (some 4), none⟩])
 .ret)
 .skip))
 (.seq (.seq (.seqR [⟨.move, [.tmp 0], (some 17), none⟩,
 ⟨.move, [.tmp 1], (some 18), none⟩,
 ⟨(.bin .gtr), [.tmp 17, .tmp 18], (some 19), none⟩])
 (.cond (.tmp 19) (.seq (.seqR [⟨.move, [.const (.int .i64 1)], (some 4), none⟩])
 .ret)
 .skip))
 (.seq (.seqR [⟨.move, [.const (.int .i64 0)], (some 4), none⟩])
 .ret)))))))), [.tmp 4]⟩
theorem c33_ok : compFunc Try.prog Try.f33 = some c33 := by kernel_rfl
theorem c33_body : hasBody Try.prog 33 = true := hasBody_of Try.func33 (by kernel_rfl)
/-- cmp.Compare[int] -/
def c34 : PFn := ⟨20, Tr.ofList (List.replicate 20 undefA), (.seq (.seqR [⟨.move, [.const (.int .i64 0)], (some 4), none⟩])
 (.seq (.seqR [⟨.move, [.tmp 0], (some 7), none⟩,
 ⟨(.callF 39), [.tmp 7], (some 8), none⟩,
 ⟨.move, [.tmp 8], (some 5), none⟩])
 (.seq (.seqR [⟨.move, [.tmp 1], (some 9), none⟩,
 ⟨(.callF 39), [.tmp 9], (some 10), none⟩,
 ⟨.move, [.tmp 10], (some 6), none⟩])
 (.seq (.seq (.seqR [⟨.move, [.tmp 5], (some 11), none⟩])
 (.cond (.tmp 11) (.seq (.seq (.seqR [⟨.move, [.tmp 6], (some 12), none⟩])
 (.cond (.tmp 12) (.seq (.seqR [⟨.move, [.const (.int .i64 0)], (some 4), none⟩])
 .ret)
 .skip))
 (.seq (.seqR [⟨.move, [.const (.int .i64 (-1))], (some 4), none⟩])
 .ret))
 .skip))
 (.seq (.seq (.seqR [⟨.move, [.tmp 6], (some 13), none⟩])
 (.cond (.tmp 13) (.seq (.seqR [⟨.move, [.const (.int .i64 1)], (some 4), none⟩])
 .ret)
 .skip))
 (.seq (.seq (.seqR [⟨.move, [.tmp 0], (some 14), none⟩,
 ⟨.move, [.tmp 1], (some 15), none⟩,
 ⟨(.bin .lss), [.tmp 14, .tmp 15], (some 16), none⟩])
 (.cond (.tmp 16) (.seq (.seqR [⟨.move, [.const (.int .i64 (-1))], (some 4), none⟩])
 .ret)
 .skip))
 (.seq (.seq (.seqR [⟨.move, [.tmp 0], (some 17), none⟩,
 ⟨.move, [.tmp 1], (some 18), none⟩,
 ⟨(.bin .gtr), [.tmp 17, .tmp 18], (some 19), none⟩])
 (.cond (.tmp 19) (.seq (.seqR [⟨.move, [.const (.int .i64 1)], (some 4), none⟩])
 .ret)
 .skip))
 (.seq (.seqR [⟨.move, [.const (.int .i64 0)], (some 4), none⟩])
 .ret)))))))), [.tmp 4]⟩
theorem c34_ok : compFunc Try.prog Try.f34 = some c34 := by kernel_rfl
theorem c34_body : hasBody Try.prog 34 = true := hasBody_of Try.func34 (by kernel_rfl)
/-- cmp.isNaN[int64] -/
def c38 : PFn := ⟨6, Tr.ofList (List.replicate 6 undefA), (.seq (.seqR [⟨.move, [.const (.bool false)], (some 2), none⟩])
 (.seq (.seqR [⟨.move, [.tmp 0], (some 3), none⟩,
 ⟨.move, [.tmp 0], (some 4), none⟩,
 ⟨(.bin .neq), [.tmp 3, .tmp 4], (some 5), none⟩,
 ⟨.move, [.tmp 5], (some 2), none⟩])
 .ret)), [.tmp 2]⟩
theorem c38_ok : compFunc Try.prog Try.f38 = some c38 := by kernel_rfl
theorem c38_body : hasBody Try.prog 38 = true := hasBody_of Try.func38 (by kernel_rfl)
/-- cmp.isNaN[int] -/
def c39 : PFn := ⟨6, Tr.ofList (List.replicate 6 undefA), (.seq (.seqR [⟨.move, [.const (.bool false)], (some 2), none⟩])
 (.seq (.seqR [⟨.move, [.tmp 0], (some 3), none⟩,
 ⟨.move, [.tmp 0], (some 4), none⟩,
 ⟨(.bin .neq), [.tmp 3, .tmp 4], (some 5), none⟩,
 ⟨.move, [.tmp 5], (some 2), none⟩])
 .ret)), [.tmp 2]⟩
theorem c39_ok : compFunc Try.prog Try.f39 = some c39 := by kernel_rfl
theorem c39_body : hasBody Try.prog 39 = true := hasBody_of Try.func39 (by kernel_rfl)
/-- (coachyard/timer.pile).Len -/
def c72 : PFn := ⟨5, Tr.ofList (List.replicate 5 undefA), (.seq (.seqR [⟨.move, [.const (.int .i64 0)], (some 2), none⟩])
 (.seq (.seqR [⟨.move, [.tmp 0], (some 3), none⟩,
 ⟨.lenS, [.tmp 3], (some 4), none⟩,
 ⟨.move, [.tmp 4], (some 2), none⟩])
 .ret)), [.tmp 2]⟩
theorem c72_ok : compFunc Try.prog Try.f72 = some c72 := by kernel_rfl
theorem c72_body : hasBody Try.prog 72 = true := hasBody_of Try.func72 (by kernel_rfl)
/-- (coachyard/timer.pile).Less -/
def c73 : PFn := ⟨17, Tr.ofList (List.replicate 17 undefA), (.seq (.seqR [⟨.move, [.const (.bool false)], (some 6), none⟩])
 (.seq (.drawR [⟨⟨.move, [.tmp 0], (some 7), none⟩, false, false, 0, 0⟩,
 ⟨⟨.move, [.tmp 1], (some 8), none⟩, false, false, 0, 0⟩,
 ⟨⟨(.indexAddrS 1), [.tmp 7, .tmp 8], (some 9), none⟩, false, false, 0, 0⟩,
 ⟨⟨(.load false 1), [.tmp 9], (some 10), none⟩, false, false, 0, 0⟩,
 ⟨⟨.move, [.tmp 0], (some 11), none⟩, false, false, 0, 0⟩,
 ⟨⟨.move, [.tmp 2], (some 12), none⟩, false, false, 0, 0⟩,
 ⟨⟨(.indexAddrS 1), [.tmp 11, .tmp 12], (some 13), none⟩, false, false, 0, 0⟩,
 ⟨⟨(.load false 1), [.tmp 13], (some 14), none⟩, false, false, 0, 0⟩,
 ⟨⟨(.callF 28), [.tmp 10, .tmp 14], (some 15), none⟩, true, false, 0, 1⟩,
 ⟨⟨(.bin .lss), [.tmp 15, .const (.int .i64 0)], (some 16), none⟩, false, false, 1, 1⟩,
 ⟨⟨.move, [.tmp 16], (some 6), none⟩, false, false, 1, 1⟩])
 .ret)), [.tmp 6]⟩
theorem c73_ok : compFunc Try.prog Try.f73 = some c73 := by kernel_rfl
theorem c73_body : hasBody Try.prog 73 = true := hasBody_of Try.func73 (by kernel_rfl)
/-- (coachyard/timer.pile).Swap -/
def c74 : PFn := ⟨34, Tr.ofList (List.replicate 34 undefA), (.seq (.drawR [⟨⟨.move, [.tmp 0], (some 6), none⟩, false, false, 0, 0⟩,
 ⟨⟨.move, [.tmp 1], (some 7), none⟩, false, false, 0, 0⟩,
 ⟨⟨.move, [.tmp 0], (some 8), none⟩, false, false, 0, 1⟩,
 ⟨⟨.move, [.tmp 2], (some 9), none⟩, false, false, 0, 1⟩,
 ⟨⟨.move, [.tmp 0], (some 10), none⟩, false, false, 0, 0⟩,
 ⟨⟨.move, [.tmp 2], (some 11), none⟩, false, false, 0, 0⟩,
 ⟨⟨(.indexAddrS 1), [.tmp 10, .tmp 11], (some 12), none⟩, false, false, 0, 0⟩,
 ⟨⟨(.load false 1), [.tmp 12], (some 13), none⟩, false, false, 0, 0⟩,
 ⟨⟨.move, [.tmp 0], (some 14), none⟩, false, false, 0, 0⟩,
 ⟨⟨.move, [.tmp 1], (some 15), none⟩, false, false, 0, 0⟩,
 ⟨⟨(.indexAddrS 1), [.tmp 14, .tmp 15], (some 16), none⟩, false, false, 0, 0⟩,
 ⟨⟨(.load false 1), [.tmp 16], (some 17), none⟩, false, false, 0, 0⟩,
 ⟨⟨(.indexAddrS 1), [.tmp 6, .tmp 7], (some 18), none⟩, false, false, 0, 0⟩,
 ⟨⟨(.store 1), [.tmp 18, .tmp 13], none, none⟩, true, false, 0, 1⟩,
 ⟨⟨(.indexAddrS 1), [.tmp 8, .tmp 9], (some 19), none⟩, false, false, 1, 1⟩,
 ⟨⟨(.store 1), [.tmp 19, .tmp 17], none, none⟩, true, false, 1, 2⟩])
 (.drawR [⟨⟨.move, [.tmp 0], (some 20), none⟩, false, false, 0, 0⟩,
 ⟨⟨.move, [.tmp 1], (some 21), none⟩, false, false, 0, 0⟩,
 ⟨⟨(.indexAddrS 1), [.tmp 20, .tmp 21], (some 22), none⟩, false, false, 0, 0⟩,
 ⟨⟨(.load false 1), [.tmp 22], (some 23), none⟩, false, false, 0, 0⟩,
 ⟨⟨.move, [.tmp 0], (some 24), none⟩, false, false, 0, 0⟩,
 ⟨⟨.move, [.tmp 2], (some 25), none⟩, false, false, 0, 0⟩,
 ⟨⟨(.indexAddrS 1), [.tmp 24, .tmp 25], (some 26), none⟩, false, false, 0, 0⟩,
 ⟨⟨(.load false 1), [.tmp 26], (some 27), none⟩, false, false, 0, 0⟩,
 ⟨⟨.move, [.tmp 1], (some 28), none⟩, false, false, 0, 0⟩,
 ⟨⟨.move, [.tmp 2], (some 29), none⟩, false, false, 0, 1⟩,
 ⟨⟨.nilCheck, [.tmp 23], (some 30), none⟩, false, false, 0, 0⟩,
 ⟨⟨(.fieldAddr 3), [.tmp 30], (some 31), none⟩, false, false, 0, 0⟩,
 ⟨⟨(.store 1), [.tmp 31, .tmp 28], none, none⟩, true, false, 0, 1⟩,
 ⟨⟨.nilCheck, [.tmp 27], (some 32), none⟩, false, false, 1, 1⟩,
 ⟨⟨(.fieldAddr 3), [.tmp 32], (some 33), none⟩, false, false, 1, 1⟩,
 ⟨⟨(.store 1), [.tmp 33, .tmp 29], none, none⟩, true, false, 1, 2⟩])), []⟩
theorem c74_ok : compFunc Try.prog Try.f74 = some c74 := by kernel_rfl
theorem c74_body : hasBody Try.prog 74 = true := hasBody_of Try.func74 (by kernel_rfl)
/-- (*coachyard/timer.pile).Pop -/
def c75 : PFn := ⟨27, Tr.ofList (List.replicate 27 undefA), (.seq (.seqR [⟨.move, [.const .nilIface], (some 2), none⟩])
 (.seq (.drawR [⟨⟨.move, [.tmp 0], (some 4), none⟩, false, false, 0, 0⟩,
 ⟨⟨.nilCheck, [.tmp 4], (some 5), none⟩, false, false, 0, 0⟩,
 ⟨⟨(.load false 1), [.tmp 5], (some 6), none⟩, false, false, 0, 0⟩,
 ⟨⟨.move, [.tmp 0], (some 7), none⟩, false, false, 0, 0⟩,
 ⟨⟨.nilCheck, [.tmp 7], (some 8), none⟩, false, false, 0, 0⟩,
 ⟨⟨(.load false 1), [.tmp 8], (some 9), none⟩, false, false, 0, 0⟩,
 ⟨⟨.lenS, [.tmp 9], (some 10), none⟩, false, false, 0, 0⟩,
 ⟨⟨(.bin .sub), [.tmp 10, .const (.int .i64 1)], (some 11), none⟩, false, false, 0, 0⟩,
 ⟨⟨(.indexAddrS 1), [.tmp 6, .tmp 11], (some 12), none⟩, false, false, 0, 0⟩,
 ⟨⟨(.load false 1), [.tmp 12], (some 13), none⟩, false, false, 0, 0⟩,
 ⟨⟨.move, [.tmp 13], (some 3), none⟩, false, false, 0, 0⟩])
 (.seq (.drawR [⟨⟨.move, [.tmp 0], (some 14), none⟩, false, false, 0, 0⟩,
 ⟨⟨.move, [.tmp 0], (some 15), none⟩, false, false, 0, 0⟩,
 ⟨⟨.nilCheck, [.tmp 15], (some 16), none⟩, false, false, 0, 0⟩,
 ⟨⟨(.load false 1), [.tmp 16], (some 17), none⟩, false, false, 0, 0⟩,
 ⟨⟨.move, [.tmp 0], (some 18), none⟩, false, false, 0, 0⟩,
 ⟨⟨.nilCheck, [.tmp 18], (some 19), none⟩, false, false, 0, 0⟩,
 ⟨⟨(.load false 1), [.tmp 19], (some 20), none⟩, false, false, 0, 0⟩,
 ⟨⟨.lenS, [.tmp 20], (some 21), none⟩, false, false, 0, 0⟩,
 ⟨⟨(.bin .sub), [.tmp 21, .const (.int .i64 1)], (some 22), none⟩, false, false, 0, 0⟩,
 ⟨⟨(.slice 1 false true false), [.tmp 17, .tmp 22], (some 23), none⟩, false, false, 0, 0⟩,
 ⟨⟨.nilCheck, [.tmp 14], (some 24), none⟩, false, false, 0, 0⟩,
 ⟨⟨(.store 1), [.tmp 24, .tmp 23], none, none⟩, true, false, 0, 1⟩])
 (.seq (.seqR [⟨.move, [.tmp 3], (some 25), none⟩,
 ⟨(.mkIface 60), [.tmp 25], (some 26), none⟩,
 ⟨.move, [.tmp 26], (some 2), none⟩])
 .ret)))), [.tmp 2]⟩
theorem c75_ok : compFunc Try.prog Try.f75 = some c75 := by kernel_rfl
theorem c75_body : hasBody Try.prog 75 = true := hasBody_of Try.func75 (by kernel_rfl)
/-- (*coachyard/timer.pile).Push -/
def c76 : PFn := ⟨22, Tr.ofList (List.replicate 22 undefA), (.seq (.seqR [⟨.move, [.tmp 1], (some 5), none⟩,
 ⟨(.assertC 60 false (.ptr none)), [.tmp 5], (some 6), none⟩,
 ⟨.move, [.tmp 6], (some 4), none⟩])
 (.seq (.seqR [⟨.move, [.tmp 4], (some 7), none⟩,
 ⟨.move, [.tmp 0], (some 8), none⟩,
 ⟨.nilCheck, [.tmp 8], (some 9), none⟩,
 ⟨(.load false 1), [.tmp 9], (some 10), none⟩,
 ⟨.lenS, [.tmp 10], (some 11), none⟩,
 ⟨.nilCheck, [.tmp 7], (some 12), none⟩,
 ⟨(.fieldAddr 3), [.tmp 12], (some 13), none⟩,
 ⟨(.store 1), [.tmp 13, .tmp 11], none, none⟩])
 (.seqR [⟨.move, [.tmp 0], (some 14), none⟩,
 ⟨.move, [.tmp 0], (some 15), none⟩,
 ⟨.nilCheck, [.tmp 15], (some 16), none⟩,
 ⟨(.load false 1), [.tmp 16], (some 17), none⟩,
 ⟨.move, [.tmp 4], (some 18), none⟩,
 ⟨(.sliceLit 1 [(.ptr none)] [(0, 1)]), [.tmp 18], (some 19), none⟩,
 ⟨(.append 1 8), [.tmp 17, .tmp 19], (some 20), none⟩,
 ⟨.nilCheck, [.tmp 14], (some 21), none⟩,
 ⟨(.store 1), [.tmp 21, .tmp 20], none, none⟩]))), []⟩
theorem c76_ok : compFunc Try.prog Try.f76 = some c76 := by kernel_rfl
theorem c76_body : hasBody Try.prog 76 = true := hasBody_of Try.func76 (by kernel_rfl)
end Go.Proofs.Ytbjipmhdncfodaa
