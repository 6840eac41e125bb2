/- The code of the small machine for some of the program's functions: printed by program; each is what the rules make of the program's own. -/
import Derived.Test.YtpbejdlpkpehlaaVx16
import Derived.Test.YtpbejdlpkpehlaaProg
import Derived.KernelRfl
namespace Go.Proofs.Ytpbejdlpkpehlaa
open Go Go.Vx Go.Proofs
/-- slices.partitionOrdered[uint64] -/
def c56 : PFn := ⟨168, Tr.ofList (List.replicate 168 undefA), (.seq (.seqR [⟨.move, [.const (.int .i64 0)], (some 8), none⟩,
 ⟨.move, [.const (.bool false)], (some 9), none⟩])
 (.seq (.drawR [⟨⟨.move, [.tmp 0], (some 12), none⟩, false, false, 0, 0⟩,
 ⟨⟨.move, [.tmp 1], (some 13), none⟩, false, false, 0, 0⟩,
 ⟨⟨.move, [.tmp 0], (some 14), none⟩, false, false, 0, 1⟩,
 ⟨⟨.move, [.tmp 3], (some 15), none⟩, false, false, 0, 1⟩,
 ⟨⟨.move, [.tmp 0], (some 16), none⟩, false, false, 0, 0⟩,
 ⟨⟨.move, [.tmp 3], (some 17), none⟩, false, false, 0, 0⟩,
 ⟨⟨(.indexAddrS 1), [.tmp 16, .tmp 17], (some 18), none⟩, false, false, 0, 0⟩,
 ⟨⟨(.load false 1), [.tmp 18], (some 19), none⟩, false, false, 0, 0⟩,
 ⟨⟨.move, [.tmp 0], (some 20), none⟩, false, false, 0, 0⟩,
 ⟨⟨.move, [.tmp 1], (some 21), none⟩, false, false, 0, 0⟩,
 ⟨⟨(.indexAddrS 1), [.tmp 20, .tmp 21], (some 22), none⟩, false, false, 0, 0⟩,
 ⟨⟨(.load false 1), [.tmp 22], (some 23), none⟩, false, false, 0, 0⟩,
 ⟨⟨(.indexAddrS 1), [.tmp 12, .tmp 13], (some 24), none⟩, false, false, 0, 0⟩,
 ⟨⟨(.store 1), [.tmp 24, .tmp 19], none, none⟩, true, false, 0, 1⟩,
 ⟨⟨(.indexAddrS 1), [.tmp 14, .tmp 15], (some 25), none⟩, false, false, 1, 1⟩,
 ⟨⟨(.store 1), [.tmp 25, .tmp 23], none, none⟩, true, false, 1, 2⟩])
 (.seq (.seqR [⟨.move, [.tmp 1], (some 26), none⟩,
 ⟨(.bin .add), [.tmp 26, .const (.int .i64 1)], (some 27), none⟩,
 ⟨.move, [.tmp 2], (some 28), none⟩,
 ⟨(.bin .sub), [.tmp 28, .const (.int .i64 1)], (some 29), none⟩,
 ⟨.move, [.tmp 27], (some 10), none⟩,
 ⟨.move, [.tmp 29], (some 11), none⟩])
 (.seq (.block 0 (.loop (.seq (.seq (.drawR [⟨⟨.move, [.tmp 10], (some 30), none⟩, false, false, 0, 0⟩,
 ⟨⟨.move, [.tmp 11], (some 31), none⟩, false, false, 0, 0⟩,
 ⟨⟨(.bin .leq), [.tmp 30, .tmp 31], (some 32), none⟩, false, false, 0, 0⟩,
 ⟨⟨.move, [.tmp 32], (some 33), none⟩, false, false, 0, 0⟩,
 ⟨⟨.move, [.tmp 0], (some 34), some (33, true)⟩, false, false, 0, 0⟩,
 ⟨⟨.move, [.tmp 10], (some 35), some (33, true)⟩, false, false, 0, 0⟩,
 ⟨⟨(.indexAddrS 1), [.tmp 34, .tmp 35], (some 36), some (33, true)⟩, false, false, 0, 0⟩,
 ⟨⟨(.load false 1), [.tmp 36], (some 37), some (33, true)⟩, false, false, 0, 0⟩,
 ⟨⟨.move, [.tmp 0], (some 38), some (33, true)⟩, false, false, 0, 0⟩,
 ⟨⟨.move, [.tmp 1], (some 39), some (33, true)⟩, false, false, 0, 0⟩,
 ⟨⟨(.indexAddrS 1), [.tmp 38, .tmp 39], (some 40), some (33, true)⟩, false, false, 0, 0⟩,
 ⟨⟨(.load false 1), [.tmp 40], (some 41), some (33, true)⟩, false, false, 0, 0⟩,
 ⟨⟨(.callF 54), [.tmp 37, .tmp 41], (some 42), some (33, true)⟩, true, false, 0, 1⟩,
 ⟨⟨.pick, [.tmp 33, .tmp 42, .const (.bool false)], (some 43), none⟩, false, false, 1, 1⟩])
 (.cond (.tmp 43) .skip
 (.exit 0)))
 (.block 1 (.seqR [⟨.move, [.tmp 10], (some 44), none⟩,
 ⟨(.bin .add), [.tmp 44, .const (.int .i64 1)], (some 45), none⟩,
 ⟨.move, [.tmp 45], (some 10), none⟩])))))
 (.seq (.block 2 (.loop (.seq (.seq (.drawR [⟨⟨.move, [.tmp 10], (some 46), none⟩, false, false, 0, 0⟩,
 ⟨⟨.move, [.tmp 11], (some 47), none⟩, false, false, 0, 0⟩,
 ⟨⟨(.bin .leq), [.tmp 46, .tmp 47], (some 48), none⟩, false, false, 0, 0⟩,
 ⟨⟨.move, [.tmp 48], (some 49), none⟩, false, false, 0, 0⟩,
 ⟨⟨.move, [.tmp 0], (some 50), some (49, true)⟩, false, false, 0, 0⟩,
 ⟨⟨.move, [.tmp 11], (some 51), some (49, true)⟩, false, false, 0, 0⟩,
 ⟨⟨(.indexAddrS 1), [.tmp 50, .tmp 51], (some 52), some (49, true)⟩, false, false, 0, 0⟩,
 ⟨⟨(.load false 1), [.tmp 52], (some 53), some (49, true)⟩, false, false, 0, 0⟩,
 ⟨⟨.move, [.tmp 0], (some 54), some (49, true)⟩, false, false, 0, 0⟩,
 ⟨⟨.move, [.tmp 1], (some 55), some (49, true)⟩, false, false, 0, 0⟩,
 ⟨⟨(.indexAddrS 1), [.tmp 54, .tmp 55], (some 56), some (49, true)⟩, false, false, 0, 0⟩,
 ⟨⟨(.load false 1), [.tmp 56], (some 57), some (49, true)⟩, false, false, 0, 0⟩,
 ⟨⟨(.callF 54), [.tmp 53, .tmp 57], (some 58), some (49, true)⟩, true, false, 0, 1⟩,
 ⟨⟨.not, [.tmp 58], (some 59), some (49, true)⟩, false, false, 1, 1⟩,
 ⟨⟨.pick, [.tmp 49, .tmp 59, .const (.bool false)], (some 60), none⟩, false, false, 1, 1⟩])
 (.cond (.tmp 60) .skip
 (.exit 2)))
 (.block 3 (.seqR [⟨.move, [.tmp 11], (some 61), none⟩,
 ⟨(.bin .sub), [.tmp 61, .const (.int .i64 1)], (some 62), none⟩,
 ⟨.move, [.tmp 62], (some 11), none⟩])))))
 (.seq (.seq (.seqR [⟨.move, [.tmp 10], (some 63), none⟩,
 ⟨.move, [.tmp 11], (some 64), none⟩,
 ⟨(.bin .gtr), [.tmp 63, .tmp 64], (some 65), none⟩])
 (.cond (.tmp 65) (.seq (.drawR [⟨⟨.move, [.tmp 0], (some 66), none⟩, false, false, 0, 0⟩,
 ⟨⟨.move, [.tmp 11], (some 67), none⟩, false, false, 0, 0⟩,
 ⟨⟨.move, [.tmp 0], (some 68), none⟩, false, false, 0, 1⟩,
 ⟨⟨.move, [.tmp 1], (some 69), none⟩, false, false, 0, 1⟩,
 ⟨⟨.move, [.tmp 0], (some 70), none⟩, false, false, 0, 0⟩,
 ⟨⟨.move, [.tmp 1], (some 71), none⟩, false, false, 0, 0⟩,
 ⟨⟨(.indexAddrS 1), [.tmp 70, .tmp 71], (some 72), none⟩, false, false, 0, 0⟩,
 ⟨⟨(.load false 1), [.tmp 72], (some 73), none⟩, false, false, 0, 0⟩,
 ⟨⟨.move, [.tmp 0], (some 74), none⟩, false, false, 0, 0⟩,
 ⟨⟨.move, [.tmp 11], (some 75), none⟩, false, false, 0, 0⟩,
 ⟨⟨(.indexAddrS 1), [.tmp 74, .tmp 75], (some 76), none⟩, false, false, 0, 0⟩,
 ⟨⟨(.load false 1), [.tmp 76], (some 77), none⟩, false, false, 0, 0⟩,
 ⟨⟨(.indexAddrS 1), [.tmp 66, .tmp 67], (some 78), none⟩, false, false, 0, 0⟩,
 ⟨⟨(.store 1), [.tmp 78, .tmp 73], none, none⟩, true, false, 0, 1⟩,
 ⟨⟨(.indexAddrS 1), [.tmp 68, .tmp 69], (some 79), none⟩, false, false, 1, 1⟩,
 ⟨⟨(.store 1), [.tmp 79, .tmp 77], none, none⟩, true, false, 1, 2⟩])
 (.seq (.seqR [⟨.move, [.tmp 11], (some 80), none⟩,
 ⟨.move, [.tmp 80], (some 8), none⟩,
 ⟨.move, [.const (.bool true)], (some 9), none⟩])
 .ret))
 .skip))
 (.seq (.drawR [⟨⟨.move, [.tmp 0], (some 81), none⟩, false, false, 0, 0⟩,
 ⟨⟨.move, [.tmp 10], (some 82), none⟩, false, false, 0, 0⟩,
 ⟨⟨.move, [.tmp 0], (some 83), none⟩, false, false, 0, 1⟩,
 ⟨⟨.move, [.tmp 11], (some 84), none⟩, false, false, 0, 1⟩,
 ⟨⟨.move, [.tmp 0], (some 85), none⟩, false, false, 0, 0⟩,
 ⟨⟨.move, [.tmp 11], (some 86), none⟩, false, false, 0, 0⟩,
 ⟨⟨(.indexAddrS 1), [.tmp 85, .tmp 86], (some 87), none⟩, false, false, 0, 0⟩,
 ⟨⟨(.load false 1), [.tmp 87], (some 88), none⟩, false, false, 0, 0⟩,
 ⟨⟨.move, [.tmp 0], (some 89), none⟩, false, false, 0, 0⟩,
 ⟨⟨.move, [.tmp 10], (some 90), none⟩, false, false, 0, 0⟩,
 ⟨⟨(.indexAddrS 1), [.tmp 89, .tmp 90], (some 91), none⟩, false, false, 0, 0⟩,
 ⟨⟨(.load false 1), [.tmp 91], (some 92), none⟩, false, false, 0, 0⟩,
 ⟨⟨(.indexAddrS 1), [.tmp 81, .tmp 82], (some 93), none⟩, false, false, 0, 0⟩,
 ⟨⟨(.store 1), [.tmp 93, .tmp 88], none, none⟩, true, false, 0, 1⟩,
 ⟨⟨(.indexAddrS 1), [.tmp 83, .tmp 84], (some 94), none⟩, false, false, 1, 1⟩,
 ⟨⟨(.store 1), [.tmp 94, .tmp 92], none, none⟩, true, false, 1, 2⟩])
 (.seq (.seqR [⟨.move, [.tmp 10], (some 95), none⟩,
 ⟨(.bin .add), [.tmp 95, .const (.int .i64 1)], (some 96), none⟩,
 ⟨.move, [.tmp 96], (some 10), none⟩])
 (.seq (.seqR [⟨.move, [.tmp 11], (some 97), none⟩,
 ⟨(.bin .sub), [.tmp 97, .const (.int .i64 1)], (some 98), none⟩,
 ⟨.move, [.tmp 98], (some 11), none⟩])
 (.seq (.block 4 (.loop (.block 5 (.seq (.block 6 (.loop (.seq (.seq (.drawR [⟨⟨.move, [.tmp 10], (some 99), none⟩, false, false, 0, 0⟩,
 ⟨⟨.move, [.tmp 11], (some 100), none⟩, false, false, 0, 0⟩,
 ⟨⟨(.bin .leq), [.tmp 99, .tmp 100], (some 101), none⟩, false, false, 0, 0⟩,
 ⟨⟨.move, [.tmp 101], (some 102), none⟩, false, false, 0, 0⟩,
 ⟨⟨.move, [.tmp 0], (some 103), some (102, true)⟩, false, false, 0, 0⟩,
 ⟨⟨.move, [.tmp 10], (some 104), some (102, true)⟩, false, false, 0, 0⟩,
 ⟨⟨(.indexAddrS 1), [.tmp 103, .tmp 104], (some 105), some (102, true)⟩, false, false, 0, 0⟩,
 ⟨⟨(.load false 1), [.tmp 105], (some 106), some (102, true)⟩, false, false, 0, 0⟩,
 ⟨⟨.move, [.tmp 0], (some 107), some (102, true)⟩, false, false, 0, 0⟩,
 ⟨⟨.move, [.tmp 1], (some 108), some (102, true)⟩, false, false, 0, 0⟩,
 ⟨⟨(.indexAddrS 1), [.tmp 107, .tmp 108], (some 109), some (102, true)⟩, false, false, 0, 0⟩,
 ⟨⟨(.load false 1), [.tmp 109], (some 110), some (102, true)⟩, false, false, 0, 0⟩,
 ⟨⟨(.callF 54), [.tmp 106, .tmp 110], (some 111), some (102, true)⟩, true, false, 0, 1⟩,
 ⟨⟨.pick, [.tmp 102, .tmp 111, .const (.bool false)], (some 112), none⟩, false, false, 1, 1⟩])
 (.cond (.tmp 112) .skip
 (.exit 6)))
 (.block 7 (.seqR [⟨.move, [.tmp 10], (some 113), none⟩,
 ⟨(.bin .add), [.tmp 113, .const (.int .i64 1)], (some 114), none⟩,
 ⟨.move, [.tmp 114], (some 10), none⟩])))))
 (.seq (.block 8 (.loop (.seq (.seq (.drawR [⟨⟨.move, [.tmp 10], (some 115), none⟩, false, false, 0, 0⟩,
 ⟨⟨.move, [.tmp 11], (some 116), none⟩, false, false, 0, 0⟩,
 ⟨⟨(.bin .leq), [.tmp 115, .tmp 116], (some 117), none⟩, false, false, 0, 0⟩,
 ⟨⟨.move, [.tmp 117], (some 118), none⟩, false, false, 0, 0⟩,
 ⟨⟨.move, [.tmp 0], (some 119), some (118, true)⟩, false, false, 0, 0⟩,
 ⟨⟨.move, [.tmp 11], (some 120), some (118, true)⟩, false, false, 0, 0⟩,
 ⟨⟨(.indexAddrS 1), [.tmp 119, .tmp 120], (some 121), some (118, true)⟩, false, false, 0, 0⟩,
 ⟨⟨(.load false 1), [.tmp 121], (some 122), some (118, true)⟩, false, false, 0, 0⟩,
 ⟨⟨.move, [.tmp 0], (some 123), some (118, true)⟩, false, false, 0, 0⟩,
 ⟨⟨.move, [.tmp 1], (some 124), some (118, true)⟩, false, false, 0, 0⟩,
 ⟨⟨(.indexAddrS 1), [.tmp 123, .tmp 124], (some 125), some (118, true)⟩, false, false, 0, 0⟩,
 ⟨⟨(.load false 1), [.tmp 125], (some 126), some (118, true)⟩, false, false, 0, 0⟩,
 ⟨⟨(.callF 54), [.tmp 122, .tmp 126], (some 127), some (118, true)⟩, true, false, 0, 1⟩,
 ⟨⟨.not, [.tmp 127], (some 128), some (118, true)⟩, false, false, 1, 1⟩,
 ⟨⟨.pick, [.tmp 118, .tmp 128, .const (.bool false)], (some 129), none⟩, false, false, 1, 1⟩])
 (.cond (.tmp 129) .skip
 (.exit 8)))
 (.block 9 (.seqR [⟨.move, [.tmp 11], (some 130), none⟩,
 ⟨(.bin .sub), [.tmp 130, .const (.int .i64 1)], (some 131), none⟩,
 ⟨.move, [.tmp 131], (some 11), none⟩])))))
 (.seq (.seq (.seqR [⟨.move, [.tmp 10], (some 132), none⟩,
 ⟨.move, [.tmp 11], (some 133), none⟩,
 ⟨(.bin .gtr), [.tmp 132, .tmp 133], (some 134), none⟩])
 (.cond (.tmp 134) (.exit 4)
 .skip))
 (.seq (.drawR [⟨⟨.move, [.tmp 0], (some 135), none⟩, false, false, 0, 0⟩,
 ⟨⟨.move, [.tmp 10], (some 136), none⟩, false, false, 0, 0⟩,
 ⟨⟨.move, [.tmp 0], (some 137), none⟩, false, false, 0, 1⟩,
 ⟨⟨.move, [.tmp 11], (some 138), none⟩, false, false, 0, 1⟩,
 ⟨⟨.move, [.tmp 0], (some 139), none⟩, false, false, 0, 0⟩,
 ⟨⟨.move, [.tmp 11], (some 140), none⟩, false, false, 0, 0⟩,
 ⟨⟨(.indexAddrS 1), [.tmp 139, .tmp 140], (some 141), none⟩, false, false, 0, 0⟩,
 ⟨⟨(.load false 1), [.tmp 141], (some 142), none⟩, false, false, 0, 0⟩,
 ⟨⟨.move, [.tmp 0], (some 143), none⟩, false, false, 0, 0⟩,
 ⟨⟨.move, [.tmp 10], (some 144), none⟩, false, false, 0, 0⟩,
 ⟨⟨(.indexAddrS 1), [.tmp 143, .tmp 144], (some 145), none⟩, false, false, 0, 0⟩,
 ⟨⟨(.load false 1), [.tmp 145], (some 146), none⟩, false, false, 0, 0⟩,
 ⟨⟨(.indexAddrS 1), [.tmp 135, .tmp 136], (some 147), none⟩, false, false, 0, 0⟩,
 ⟨⟨(.store 1), [.tmp 147, .tmp 142], none, none⟩, true, false, 0, 1⟩,
 ⟨⟨(.indexAddrS 1), [.tmp 137, .tmp 138], (some 148), none⟩, false, false, 1, 1⟩,
 ⟨⟨(.store 1), [.tmp 148, .tmp 146], none, none⟩, true, false, 1, 2⟩])
 (.seq (.seqR [⟨.move, [.tmp 10], (some 149), none⟩,
 ⟨(.bin .add), [.tmp 149, .const (.int .i64 1)], (some 150), none⟩,
 ⟨.move, [.tmp 150], (some 10), none⟩])
 (.seqR [⟨.move, [.tmp 11], (some 151), none⟩,
 ⟨(.bin .sub), [.tmp 151, .const (.int .i64 1)], (some 152), none⟩,
 ⟨.move, [.tmp 152], (some 11), none⟩])))))))))
 (.seq (.drawR [⟨⟨.move, [.tmp 0], (some 153), none⟩, false, false, 0, 0⟩,
 ⟨⟨.move, [.tmp 11], (some 154), none⟩, false, false, 0, 0⟩,
 ⟨⟨.move, [.tmp 0], (some 155), none⟩, false, false, 0, 1⟩,
 ⟨⟨.move, [.tmp 1], (some 156), none⟩, false, false, 0, 1⟩,
 ⟨⟨.move, [.tmp 0], (some 157), none⟩, false, false, 0, 0⟩,
 ⟨⟨.move, [.tmp 1], (some 158), none⟩, false, false, 0, 0⟩,
 ⟨⟨(.indexAddrS 1), [.tmp 157, .tmp 158], (some 159), none⟩, false, false, 0, 0⟩,
 ⟨⟨(.load false 1), [.tmp 159], (some 160), none⟩, false, false, 0, 0⟩,
 ⟨⟨.move, [.tmp 0], (some 161), none⟩, false, false, 0, 0⟩,
 ⟨⟨.move, [.tmp 11], (some 162), none⟩, false, false, 0, 0⟩,
 ⟨⟨(.indexAddrS 1), [.tmp 161, .tmp 162], (some 163), none⟩, false, false, 0, 0⟩,
 ⟨⟨(.load false 1), [.tmp 163], (some 164), none⟩, false, false, 0, 0⟩,
 ⟨⟨(.indexAddrS 1), [.tmp 153, .tmp 154], (some 165), none⟩, false, false, 0, 0⟩,
 ⟨⟨(.store 1), [.tmp 165, .tmp 160], none, none⟩, true, false, 0, 1⟩,
 ⟨⟨(.indexAddrS 1), [.tmp 155, .tmp 156], (some 166), none⟩, false, false, 1, 1⟩,
 ⟨⟨(.store 1), [.tmp 166, .tmp 164], none, none⟩, true, false, 1, 2⟩])
 (.seq (.seqR [⟨.move, [.tmp 11], (some 167), none⟩,
 ⟨.move, [.tmp 167], (some 8), none⟩,
 ⟨.move, [.const (.bool false)], (some 9), none⟩])
 .ret)))))))))))), [.tmp 8, .tmp 9]⟩
theorem c56_ok : compFunc Try.prog Try.f56 = some c56 := by kernel_rfl
theorem c56_body : hasBody Try.prog 56 = true := hasBody_of Try.func56 (by kernel_rfl)
/-- slices.insertionSortCmpFunc[int] -/
def c57 : PFn := ⟨53, Tr.ofList (List.replicate 53 undefA), (.seq (.seqR [⟨.move, [.tmp 1], (some 10), none⟩,
 ⟨(.bin .add), [.tmp 10, .const (.int .i64 1)], (some 11), none⟩,
 ⟨.move, [.tmp 11], (some 8), none⟩])
 (.block 0 (.loop (.seq (.seq (.seqR [⟨.move, [.tmp 8], (some 12), none⟩,
 ⟨.move, [.tmp 2], (some 13), none⟩,
 ⟨(.bin .lss), [.tmp 12, .tmp 13], (some 14), none⟩])
 (.cond (.tmp 14) .skip
 (.exit 0)))
 (.seq (.block 1 (.seq (.seqR [⟨.move, [.tmp 8], (some 17), none⟩,
 ⟨.move, [.tmp 17], (some 9), none⟩])
 (.block 2 (.loop (.seq (.seq (.drawR [⟨⟨.move, [.tmp 9], (some 18), none⟩, false, false, 0, 0⟩,
 ⟨⟨.move, [.tmp 1], (some 19), none⟩, false, false, 0, 0⟩,
 ⟨⟨(.bin .gtr), [.tmp 18, .tmp 19], (some 20), none⟩, false, false, 0, 0⟩,
 ⟨⟨.move, [.tmp 20], (some 21), none⟩, false, false, 0, 0⟩,
 ⟨⟨.move, [.tmp 3], (some 22), some (21, true)⟩, false, false, 0, 0⟩,
 ⟨⟨.move, [.tmp 0], (some 23), some (21, true)⟩, false, false, 0, 0⟩,
 ⟨⟨.move, [.tmp 9], (some 24), some (21, true)⟩, false, false, 0, 0⟩,
 ⟨⟨(.indexAddrS 1), [.tmp 23, .tmp 24], (some 25), some (21, true)⟩, false, false, 0, 0⟩,
 ⟨⟨(.load false 1), [.tmp 25], (some 26), some (21, true)⟩, false, false, 0, 0⟩,
 ⟨⟨.move, [.tmp 0], (some 27), some (21, true)⟩, false, false, 0, 0⟩,
 ⟨⟨.move, [.tmp 9], (some 28), some (21, true)⟩, false, false, 0, 0⟩,
 ⟨⟨(.bin .sub), [.tmp 28, .const (.int .i64 1)], (some 29), some (21, true)⟩, false, false, 0, 0⟩,
 ⟨⟨(.indexAddrS 1), [.tmp 27, .tmp 29], (some 30), some (21, true)⟩, false, false, 0, 0⟩,
 ⟨⟨(.load false 1), [.tmp 30], (some 31), some (21, true)⟩, false, false, 0, 0⟩,
 ⟨⟨.callV, [.tmp 22, .tmp 26, .tmp 31], (some 32), some (21, true)⟩, true, false, 0, 1⟩,
 ⟨⟨(.bin .lss), [.tmp 32, .const (.int .i64 0)], (some 33), some (21, true)⟩, false, false, 1, 1⟩,
 ⟨⟨.pick, [.tmp 21, .tmp 33, .const (.bool false)], (some 34), none⟩, false, false, 1, 1⟩])
 (.cond (.tmp 34) .skip
 (.exit 2)))
 (.seq (.block 3 (.drawR [⟨⟨.move, [.tmp 0], (some 37), none⟩, false, false, 0, 0⟩,
 ⟨⟨.move, [.tmp 9], (some 38), none⟩, false, false, 0, 0⟩,
 ⟨⟨.move, [.tmp 0], (some 39), none⟩, false, false, 0, 1⟩,
 ⟨⟨.move, [.tmp 9], (some 40), none⟩, false, false, 0, 1⟩,
 ⟨⟨(.bin .sub), [.tmp 40, .const (.int .i64 1)], (some 41), none⟩, false, false, 0, 1⟩,
 ⟨⟨.move, [.tmp 0], (some 42), none⟩, false, false, 0, 0⟩,
 ⟨⟨.move, [.tmp 9], (some 43), none⟩, false, false, 0, 0⟩,
 ⟨⟨(.bin .sub), [.tmp 43, .const (.int .i64 1)], (some 44), none⟩, false, false, 0, 0⟩,
 ⟨⟨(.indexAddrS 1), [.tmp 42, .tmp 44], (some 45), none⟩, false, false, 0, 0⟩,
 ⟨⟨(.load false 1), [.tmp 45], (some 46), none⟩, false, false, 0, 0⟩,
 ⟨⟨.move, [.tmp 0], (some 47), none⟩, false, false, 0, 0⟩,
 ⟨⟨.move, [.tmp 9], (some 48), none⟩, false, false, 0, 0⟩,
 ⟨⟨(.indexAddrS 1), [.tmp 47, .tmp 48], (some 49), none⟩, false, false, 0, 0⟩,
 ⟨⟨(.load false 1), [.tmp 49], (some 50), none⟩, false, false, 0, 0⟩,
 ⟨⟨(.indexAddrS 1), [.tmp 37, .tmp 38], (some 51), none⟩, false, false, 0, 0⟩,
 ⟨⟨(.store 1), [.tmp 51, .tmp 46], none, none⟩, true, false, 0, 1⟩,
 ⟨⟨(.indexAddrS 1), [.tmp 39, .tmp 41], (some 52), none⟩, false, false, 1, 1⟩,
 ⟨⟨(.store 1), [.tmp 52, .tmp 50], none, none⟩, true, false, 1, 2⟩]))
 (.seqR [⟨.move, [.tmp 9], (some 35), none⟩,
 ⟨(.bin .sub), [.tmp 35, .const (.int .i64 1)], (some 36), none⟩,
 ⟨.move, [.tmp 36], (some 9), none⟩])))))))
 (.seqR [⟨.move, [.tmp 8], (some 15), none⟩,
 ⟨(.bin .add), [.tmp 15, .const (.int .i64 1)], (some 16), none⟩,
 ⟨.move, [.tmp 16], (some 8), none⟩])))))), []⟩
theorem c57_ok : compFunc Try.prog Try.f57 = some c57 := by kernel_rfl
theorem c57_body : hasBody Try.prog 57 = true := hasBody_of Try.func57 (by kernel_rfl)
/-- slices.symMergeCmpFunc[int] -/
def c58 : PFn := ⟨220, Tr.ofList (List.replicate 220 undefA), (.seq (.seq (.seqR [⟨.move, [.tmp 2], (some 25), none⟩,
 ⟨.move, [.tmp 1], (some 26), none⟩,
 ⟨(.bin .sub), [.tmp 25, .tmp 26], (some 27), none⟩,
 ⟨(.bin .eql), [.tmp 27, .const (.int .i64 1)], (some 28), none⟩])
 (.cond (.tmp 28) (.seq (.seqR [⟨.move, [.tmp 2], (some 29), none⟩,
 ⟨.move, [.tmp 29], (some 10), none⟩])
 (.seq (.seqR [⟨.move, [.tmp 3], (some 30), none⟩,
 ⟨.move, [.tmp 30], (some 11), none⟩])
 (.seq (.block 0 (.loop (.seq (.seq (.seqR [⟨.move, [.tmp 10], (some 31), none⟩,
 ⟨.move, [.tmp 11], (some 32), none⟩,
 ⟨(.bin .lss), [.tmp 31, .tmp 32], (some 33), none⟩])
 (.cond (.tmp 33) .skip
 (.exit 0)))
 (.block 1 (.seq (.seqR [⟨.move, [.tmp 10], (some 34), none⟩,
 ⟨.move, [.tmp 11], (some 35), none⟩,
 ⟨(.bin .add), [.tmp 34, .tmp 35], (some 36), none⟩,
 ⟨(.conv .u64), [.tmp 36], (some 37), none⟩,
 ⟨(.bin .shr), [.tmp 37, .const (.int .u64 1)], (some 38), none⟩,
 ⟨(.conv .i64), [.tmp 38], (some 39), none⟩,
 ⟨.move, [.tmp 39], (some 12), none⟩])
 (.seq (.drawR [⟨⟨.move, [.tmp 4], (some 40), none⟩, false, false, 0, 0⟩,
 ⟨⟨.move, [.tmp 0], (some 41), none⟩, false, false, 0, 0⟩,
 ⟨⟨.move, [.tmp 12], (some 42), none⟩, false, false, 0, 0⟩,
 ⟨⟨(.indexAddrS 1), [.tmp 41, .tmp 42], (some 43), none⟩, false, false, 0, 0⟩,
 ⟨⟨(.load false 1), [.tmp 43], (some 44), none⟩, false, false, 0, 0⟩,
 ⟨⟨.move, [.tmp 0], (some 45), none⟩, false, false, 0, 0⟩,
 ⟨⟨.move, [.tmp 1], (some 46), none⟩, false, false, 0, 0⟩,
 ⟨⟨(.indexAddrS 1), [.tmp 45, .tmp 46], (some 47), none⟩, false, false, 0, 0⟩,
 ⟨⟨(.load false 1), [.tmp 47], (some 48), none⟩, false, false, 0, 0⟩,
 ⟨⟨.callV, [.tmp 40, .tmp 44, .tmp 48], (some 49), none⟩, true, false, 0, 1⟩,
 ⟨⟨(.bin .lss), [.tmp 49, .const (.int .i64 0)], (some 50), none⟩, false, false, 1, 1⟩])
 (.cond (.tmp 50) (.seqR [⟨.move, [.tmp 12], (some 51), none⟩,
 ⟨(.bin .add), [.tmp 51, .const (.int .i64 1)], (some 52), none⟩,
 ⟨.move, [.tmp 52], (some 10), none⟩])
 (.seqR [⟨.move, [.tmp 12], (some 53), none⟩,
 ⟨.move, [.tmp 53], (some 11), none⟩]))))))))
 (.seq (.seq (.seqR [⟨.move, [.tmp 1], (some 54), none⟩,
 ⟨.move, [.tmp 54], (some 13), none⟩])
 (.block 2 (.loop (.seq (.seq (.seqR [⟨.move, [.tmp 13], (some 55), none⟩,
 ⟨.move, [.tmp 10], (some 56), none⟩,
 ⟨(.bin .sub), [.tmp 56, .const (.int .i64 1)], (some 57), none⟩,
 ⟨(.bin .lss), [.tmp 55, .tmp 57], (some 58), none⟩])
 (.cond (.tmp 58) .skip
 (.exit 2)))
 (.seq (.block 3 (.drawR [⟨⟨.move, [.tmp 0], (some 61), none⟩, false, false, 0, 0⟩,
 ⟨⟨.move, [.tmp 13], (some 62), none⟩, false, false, 0, 0⟩,
 ⟨⟨.move, [.tmp 0], (some 63), none⟩, false, false, 0, 1⟩,
 ⟨⟨.move, [.tmp 13], (some 64), none⟩, false, false, 0, 1⟩,
 ⟨⟨(.bin .add), [.tmp 64, .const (.int .i64 1)], (some 65), none⟩, false, false, 0, 1⟩,
 ⟨⟨.move, [.tmp 0], (some 66), none⟩, false, false, 0, 0⟩,
 ⟨⟨.move, [.tmp 13], (some 67), none⟩, false, false, 0, 0⟩,
 ⟨⟨(.bin .add), [.tmp 67, .const (.int .i64 1)], (some 68), none⟩, false, false, 0, 0⟩,
 ⟨⟨(.indexAddrS 1), [.tmp 66, .tmp 68], (some 69), none⟩, false, false, 0, 0⟩,
 ⟨⟨(.load false 1), [.tmp 69], (some 70), none⟩, false, false, 0, 0⟩,
 ⟨⟨.move, [.tmp 0], (some 71), none⟩, false, false, 0, 0⟩,
 ⟨⟨.move, [.tmp 13], (some 72), none⟩, false, false, 0, 0⟩,
 ⟨⟨(.indexAddrS 1), [.tmp 71, .tmp 72], (some 73), none⟩, false, false, 0, 0⟩,
 ⟨⟨(.load false 1), [.tmp 73], (some 74), none⟩, false, false, 0, 0⟩,
 ⟨⟨(.indexAddrS 1), [.tmp 61, .tmp 62], (some 75), none⟩, false, false, 0, 0⟩,
 ⟨⟨(.store 1), [.tmp 75, .tmp 70], none, none⟩, true, false, 0, 1⟩,
 ⟨⟨(.indexAddrS 1), [.tmp 63, .tmp 65], (some 76), none⟩, false, false, 1, 1⟩,
 ⟨⟨(.store 1), [.tmp 76, .tmp 74], none, none⟩, true, false, 1, 2⟩]))
 (.seqR [⟨.move, [.tmp 13], (some 59), none⟩,
 ⟨(.bin .add), [.tmp 59, .const (.int .i64 1)], (some 60), none⟩,
 ⟨.move, [.tmp 60], (some 13), none⟩]))))))
 .ret))))
 .skip))
 (.seq (.seq (.seqR [⟨.move, [.tmp 3], (some 77), none⟩,
 ⟨.move, [.tmp 2], (some 78), none⟩,
 ⟨(.bin .sub), [.tmp 77, .tmp 78], (some 79), none⟩,
 ⟨(.bin .eql), [.tmp 79, .const (.int .i64 1)], (some 80), none⟩])
 (.cond (.tmp 80) (.seq (.seqR [⟨.move, [.tmp 1], (some 81), none⟩,
 ⟨.move, [.tmp 81], (some 14), none⟩])
 (.seq (.seqR [⟨.move, [.tmp 2], (some 82), none⟩,
 ⟨.move, [.tmp 82], (some 15), none⟩])
 (.seq (.block 4 (.loop (.seq (.seq (.seqR [⟨.move, [.tmp 14], (some 83), none⟩,
 ⟨.move, [.tmp 15], (some 84), none⟩,
 ⟨(.bin .lss), [.tmp 83, .tmp 84], (some 85), none⟩])
 (.cond (.tmp 85) .skip
 (.exit 4)))
 (.block 5 (.seq (.seqR [⟨.move, [.tmp 14], (some 86), none⟩,
 ⟨.move, [.tmp 15], (some 87), none⟩,
 ⟨(.bin .add), [.tmp 86, .tmp 87], (some 88), none⟩,
 ⟨(.conv .u64), [.tmp 88], (some 89), none⟩,
 ⟨(.bin .shr), [.tmp 89, .const (.int .u64 1)], (some 90), none⟩,
 ⟨(.conv .i64), [.tmp 90], (some 91), none⟩,
 ⟨.move, [.tmp 91], (some 16), none⟩])
 (.seq (.drawR [⟨⟨.move, [.tmp 4], (some 92), none⟩, false, false, 0, 0⟩,
 ⟨⟨.move, [.tmp 0], (some 93), none⟩, false, false, 0, 0⟩,
 ⟨⟨.move, [.tmp 2], (some 94), none⟩, false, false, 0, 0⟩,
 ⟨⟨(.indexAddrS 1), [.tmp 93, .tmp 94], (some 95), none⟩, false, false, 0, 0⟩,
 ⟨⟨(.load false 1), [.tmp 95], (some 96), none⟩, false, false, 0, 0⟩,
 ⟨⟨.move, [.tmp 0], (some 97), none⟩, false, false, 0, 0⟩,
 ⟨⟨.move, [.tmp 16], (some 98), none⟩, false, false, 0, 0⟩,
 ⟨⟨(.indexAddrS 1), [.tmp 97, .tmp 98], (some 99), none⟩, false, false, 0, 0⟩,
 ⟨⟨(.load false 1), [.tmp 99], (some 100), none⟩, false, false, 0, 0⟩,
 ⟨⟨.callV, [.tmp 92, .tmp 96, .tmp 100], (some 101), none⟩, true, false, 0, 1⟩,
 ⟨⟨(.bin .lss), [.tmp 101, .const (.int .i64 0)], (some 102), none⟩, false, false, 1, 1⟩,
 ⟨⟨.not, [.tmp 102], (some 103), none⟩, false, false, 1, 1⟩])
 (.cond (.tmp 103) (.seqR [⟨.move, [.tmp 16], (some 104), none⟩,
 ⟨(.bin .add), [.tmp 104, .const (.int .i64 1)], (some 105), none⟩,
 ⟨.move, [.tmp 105], (some 14), none⟩])
 (.seqR [⟨.move, [.tmp 16], (some 106), none⟩,
 ⟨.move, [.tmp 106], (some 15), none⟩]))))))))
 (.seq (.seq (.seqR [⟨.move, [.tmp 2], (some 107), none⟩,
 ⟨.move, [.tmp 107], (some 17), none⟩])
 (.block 6 (.loop (.seq (.seq (.seqR [⟨.move, [.tmp 17], (some 108), none⟩,
 ⟨.move, [.tmp 14], (some 109), none⟩,
 ⟨(.bin .gtr), [.tmp 108, .tmp 109], (some 110), none⟩])
 (.cond (.tmp 110) .skip
 (.exit 6)))
 (.seq (.block 7 (.drawR [⟨⟨.move, [.tmp 0], (some 113), none⟩, false, false, 0, 0⟩,
 ⟨⟨.move, [.tmp 17], (some 114), none⟩, false, false, 0, 0⟩,
 ⟨⟨.move, [.tmp 0], (some 115), none⟩, false, false, 0, 1⟩,
 ⟨⟨.move, [.tmp 17], (some 116), none⟩, false, false, 0, 1⟩,
 ⟨⟨(.bin .sub), [.tmp 116, .const (.int .i64 1)], (some 117), none⟩, false, false, 0, 1⟩,
 ⟨⟨.move, [.tmp 0], (some 118), none⟩, false, false, 0, 0⟩,
 ⟨⟨.move, [.tmp 17], (some 119), none⟩, false, false, 0, 0⟩,
 ⟨⟨(.bin .sub), [.tmp 119, .const (.int .i64 1)], (some 120), none⟩, false, false, 0, 0⟩,
 ⟨⟨(.indexAddrS 1), [.tmp 118, .tmp 120], (some 121), none⟩, false, false, 0, 0⟩,
 ⟨⟨(.load false 1), [.tmp 121], (some 122), none⟩, false, false, 0, 0⟩,
 ⟨⟨.move, [.tmp 0], (some 123), none⟩, false, false, 0, 0⟩,
 ⟨⟨.move, [.tmp 17], (some 124), none⟩, false, false, 0, 0⟩,
 ⟨⟨(.indexAddrS 1), [.tmp 123, .tmp 124], (some 125), none⟩, false, false, 0, 0⟩,
 ⟨⟨(.load false 1), [.tmp 125], (some 126), none⟩, false, false, 0, 0⟩,
 ⟨⟨(.indexAddrS 1), [.tmp 113, .tmp 114], (some 127), none⟩, false, false, 0, 0⟩,
 ⟨⟨(.store 1), [.tmp 127, .tmp 122], none, none⟩, true, false, 0, 1⟩,
 ⟨⟨(.indexAddrS 1), [.tmp 115, .tmp 117], (some 128), none⟩, false, false, 1, 1⟩,
 ⟨⟨(.store 1), [.tmp 128, .tmp 126], none, none⟩, true, false, 1, 2⟩]))
 (.seqR [⟨.move, [.tmp 17], (some 111), none⟩,
 ⟨(.bin .sub), [.tmp 111, .const (.int .i64 1)], (some 112), none⟩,
 ⟨.move, [.tmp 112], (some 17), none⟩]))))))
 .ret))))
 .skip))
 (.seq (.seqR [⟨.move, [.tmp 1], (some 129), none⟩,
 ⟨.move, [.tmp 3], (some 130), none⟩,
 ⟨(.bin .add), [.tmp 129, .tmp 130], (some 131), none⟩,
 ⟨(.conv .u64), [.tmp 131], (some 132), none⟩,
 ⟨(.bin .shr), [.tmp 132, .const (.int .u64 1)], (some 133), none⟩,
 ⟨(.conv .i64), [.tmp 133], (some 134), none⟩,
 ⟨.move, [.tmp 134], (some 18), none⟩])
 (.seq (.seqR [⟨.move, [.tmp 18], (some 135), none⟩,
 ⟨.move, [.tmp 2], (some 136), none⟩,
 ⟨(.bin .add), [.tmp 135, .tmp 136], (some 137), none⟩,
 ⟨.move, [.tmp 137], (some 19), none⟩])
 (.seq (.seqR [⟨.move, [.const (.int .i64 0)], (some 20), none⟩,
 ⟨.move, [.const (.int .i64 0)], (some 21), none⟩])
 (.seq (.seq (.seqR [⟨.move, [.tmp 2], (some 138), none⟩,
 ⟨.move, [.tmp 18], (some 139), none⟩,
 ⟨(.bin .gtr), [.tmp 138, .tmp 139], (some 140), none⟩])
 (.cond (.tmp 140) (.seq (.seqR [⟨.move, [.tmp 19], (some 141), none⟩,
 ⟨.move, [.tmp 3], (some 142), none⟩,
 ⟨(.bin .sub), [.tmp 141, .tmp 142], (some 143), none⟩,
 ⟨.move, [.tmp 143], (some 20), none⟩])
 (.seqR [⟨.move, [.tmp 18], (some 144), none⟩,
 ⟨.move, [.tmp 144], (some 21), none⟩]))
 (.seq (.seqR [⟨.move, [.tmp 1], (some 145), none⟩,
 ⟨.move, [.tmp 145], (some 20), none⟩])
 (.seqR [⟨.move, [.tmp 2], (some 146), none⟩,
 ⟨.move, [.tmp 146], (some 21), none⟩]))))
 (.seq (.seqR [⟨.move, [.tmp 19], (some 147), none⟩,
 ⟨(.bin .sub), [.tmp 147, .const (.int .i64 1)], (some 148), none⟩,
 ⟨.move, [.tmp 148], (some 22), none⟩])
 (.seq (.block 8 (.loop (.seq (.seq (.seqR [⟨.move, [.tmp 20], (some 149), none⟩,
 ⟨.move, [.tmp 21], (some 150), none⟩,
 ⟨(.bin .lss), [.tmp 149, .tmp 150], (some 151), none⟩])
 (.cond (.tmp 151) .skip
 (.exit 8)))
 (.block 9 (.seq (.seqR [⟨.move, [.tmp 20], (some 152), none⟩,
 ⟨.move, [.tmp 21], (some 153), none⟩,
 ⟨(.bin .add), [.tmp 152, .tmp 153], (some 154), none⟩,
 ⟨(.conv .u64), [.tmp 154], (some 155), none⟩,
 ⟨(.bin .shr), [.tmp 155, .const (.int .u64 1)], (some 156), none⟩,
 ⟨(.conv .i64), [.tmp 156], (some 157), none⟩,
 ⟨.move, [.tmp 157], (some 23), none⟩])
 (.seq (.drawR [⟨⟨.move, [.tmp 4], (some 158), none⟩, false, false, 0, 0⟩,
 ⟨⟨.move, [.tmp 0], (some 159), none⟩, false, false, 0, 0⟩,
 ⟨⟨.move, [.tmp 22], (some 160), none⟩, false, false, 0, 0⟩,
 ⟨⟨.move, [.tmp 23], (some 161), none⟩, false, false, 0, 0⟩,
 ⟨⟨(.bin .sub), [.tmp 160, .tmp 161], (some 162), none⟩, false, false, 0, 0⟩,
 ⟨⟨(.indexAddrS 1), [.tmp 159, .tmp 162], (some 163), none⟩, false, false, 0, 0⟩,
 ⟨⟨(.load false 1), [.tmp 163], (some 164), none⟩, false, false, 0, 0⟩,
 ⟨⟨.move, [.tmp 0], (some 165), none⟩, false, false, 0, 0⟩,
 ⟨⟨.move, [.tmp 23], (some 166), none⟩, false, false, 0, 0⟩,
 ⟨⟨(.indexAddrS 1), [.tmp 165, .tmp 166], (some 167), none⟩, false, false, 0, 0⟩,
 ⟨⟨(.load false 1), [.tmp 167], (some 168), none⟩, false, false, 0, 0⟩,
 ⟨⟨.callV, [.tmp 158, .tmp 164, .tmp 168], (some 169), none⟩, true, false, 0, 1⟩,
 ⟨⟨(.bin .lss), [.tmp 169, .const (.int .i64 0)], (some 170), none⟩, false, false, 1, 1⟩,
 ⟨⟨.not, [.tmp 170], (some 171), none⟩, false, false, 1, 1⟩])
 (.cond (.tmp 171) (.seqR [⟨.move, [.tmp 23], (some 172), none⟩,
 ⟨(.bin .add), [.tmp 172, .const (.int .i64 1)], (some 173), none⟩,
 ⟨.move, [.tmp 173], (some 20), none⟩])
 (.seqR [⟨.move, [.tmp 23], (some 174), none⟩,
 ⟨.move, [.tmp 174], (some 21), none⟩]))))))))
 (.seq (.seqR [⟨.move, [.tmp 19], (some 175), none⟩,
 ⟨.move, [.tmp 20], (some 176), none⟩,
 ⟨(.bin .sub), [.tmp 175, .tmp 176], (some 177), none⟩,
 ⟨.move, [.tmp 177], (some 24), none⟩])
 (.seq (.seq (.seqR [⟨.move, [.tmp 20], (some 178), none⟩,
 ⟨.move, [.tmp 2], (some 179), none⟩,
 ⟨(.bin .lss), [.tmp 178, .tmp 179], (some 180), none⟩,
 ⟨.move, [.tmp 180], (some 181), none⟩,
 ⟨.move, [.tmp 2], (some 182), some (181, true)⟩,
 ⟨.move, [.tmp 24], (some 183), some (181, true)⟩,
 ⟨(.bin .lss), [.tmp 182, .tmp 183], (some 184), some (181, true)⟩,
 ⟨.pick, [.tmp 181, .tmp 184, .const (.bool false)], (some 185), none⟩])
 (.cond (.tmp 185) (.seqR [⟨.move, [.tmp 0], (some 186), none⟩,
 ⟨.move, [.tmp 20], (some 187), none⟩,
 ⟨.move, [.tmp 2], (some 188), none⟩,
 ⟨.move, [.tmp 24], (some 189), none⟩,
 ⟨.move, [.tmp 4], (some 190), none⟩,
 ⟨(.callF 68), [.tmp 186, .tmp 187, .tmp 188, .tmp 189, .tmp 190], (some 191), none⟩])
 .skip))
 (.seq (.seq (.seqR [⟨.move, [.tmp 1], (some 192), none⟩,
 ⟨.move, [.tmp 20], (some 193), none⟩,
 ⟨(.bin .lss), [.tmp 192, .tmp 193], (some 194), none⟩,
 ⟨.move, [.tmp 194], (some 195), none⟩,
 ⟨.move, [.tmp 20], (some 196), some (195, true)⟩,
 ⟨.move, [.tmp 18], (some 197), some (195, true)⟩,
 ⟨(.bin .lss), [.tmp 196, .tmp 197], (some 198), some (195, true)⟩,
 ⟨.pick, [.tmp 195, .tmp 198, .const (.bool false)], (some 199), none⟩])
 (.cond (.tmp 199) (.seqR [⟨.move, [.tmp 0], (some 200), none⟩,
 ⟨.move, [.tmp 1], (some 201), none⟩,
 ⟨.move, [.tmp 20], (some 202), none⟩,
 ⟨.move, [.tmp 18], (some 203), none⟩,
 ⟨.move, [.tmp 4], (some 204), none⟩,
 ⟨(.callF 58), [.tmp 200, .tmp 201, .tmp 202, .tmp 203, .tmp 204], (some 205), none⟩])
 .skip))
 (.seq (.seqR [⟨.move, [.tmp 18], (some 206), none⟩,
 ⟨.move, [.tmp 24], (some 207), none⟩,
 ⟨(.bin .lss), [.tmp 206, .tmp 207], (some 208), none⟩,
 ⟨.move, [.tmp 208], (some 209), none⟩,
 ⟨.move, [.tmp 24], (some 210), some (209, true)⟩,
 ⟨.move, [.tmp 3], (some 211), some (209, true)⟩,
 ⟨(.bin .lss), [.tmp 210, .tmp 211], (some 212), some (209, true)⟩,
 ⟨.pick, [.tmp 209, .tmp 212, .const (.bool false)], (some 213), none⟩])
 (.cond (.tmp 213) (.seqR [⟨.move, [.tmp 0], (some 214), none⟩,
 ⟨.move, [.tmp 18], (some 215), none⟩,
 ⟨.move, [.tmp 24], (some 216), none⟩,
 ⟨.move, [.tmp 3], (some 217), none⟩,
 ⟨.move, [.tmp 4], (some 218), none⟩,
 ⟨(.callF 58), [.tmp 214, .tmp 215, .tmp 216, .tmp 217, .tmp 218], (some 219), none⟩])
 .skip))))))))))))), []⟩
theorem c58_ok : compFunc Try.prog Try.f58 = some c58 := by kernel_rfl
theorem c58_body : hasBody Try.prog 58 = true := hasBody_of Try.func58 (by kernel_rfl)
/-- slices.siftDownCmpFunc[coachyard/bag.deed] -/
def c59 : PFn := ⟨82, Tr.ofList (List.replicate 82 undefA), (.seq (.seqR [⟨.move, [.tmp 1], (some 12), none⟩,
 ⟨.move, [.tmp 12], (some 10), none⟩])
 (.block 0 (.loop (.block 1 (.seq (.seqR [⟨.move, [.tmp 10], (some 13), none⟩,
 ⟨(.bin .mul), [.const (.int .i64 2), .tmp 13], (some 14), none⟩,
 ⟨(.bin .add), [.tmp 14, .const (.int .i64 1)], (some 15), none⟩,
 ⟨.move, [.tmp 15], (some 11), none⟩])
 (.seq (.seq (.seqR [⟨.move, [.tmp 11], (some 16), none⟩,
 ⟨.move, [.tmp 2], (some 17), none⟩,
 ⟨(.bin .geq), [.tmp 16, .tmp 17], (some 18), none⟩])
 (.cond (.tmp 18) (.exit 0)
 .skip))
 (.seq (.seq (.drawR [⟨⟨.move, [.tmp 11], (some 19), none⟩, false, false, 0, 0⟩,
 ⟨⟨(.bin .add), [.tmp 19, .const (.int .i64 1)], (some 20), none⟩, false, false, 0, 0⟩,
 ⟨⟨.move, [.tmp 2], (some 21), none⟩, false, false, 0, 0⟩,
 ⟨⟨(.bin .lss), [.tmp 20, .tmp 21], (some 22), none⟩, false, false, 0, 0⟩,
 ⟨⟨.move, [.tmp 22], (some 23), none⟩, false, false, 0, 0⟩,
 ⟨⟨.move, [.tmp 4], (some 24), some (23, true)⟩, false, false, 0, 0⟩,
 ⟨⟨.move, [.tmp 0], (some 25), some (23, true)⟩, false, false, 0, 0⟩,
 ⟨⟨.move, [.tmp 3], (some 26), some (23, true)⟩, false, false, 0, 0⟩,
 ⟨⟨.move, [.tmp 11], (some 27), some (23, true)⟩, false, false, 0, 0⟩,
 ⟨⟨(.bin .add), [.tmp 26, .tmp 27], (some 28), some (23, true)⟩, false, false, 0, 0⟩,
 ⟨⟨(.indexAddrS 3), [.tmp 25, .tmp 28], (some 29), some (23, true)⟩, false, false, 0, 0⟩,
 ⟨⟨(.load true 3), [.tmp 29], (some 30), some (23, true)⟩, false, false, 0, 0⟩,
 ⟨⟨.move, [.tmp 0], (some 31), some (23, true)⟩, false, false, 0, 0⟩,
 ⟨⟨.move, [.tmp 3], (some 32), some (23, true)⟩, false, false, 0, 0⟩,
 ⟨⟨.move, [.tmp 11], (some 33), some (23, true)⟩, false, false, 0, 0⟩,
 ⟨⟨(.bin .add), [.tmp 32, .tmp 33], (some 34), some (23, true)⟩, false, false, 0, 0⟩,
 ⟨⟨(.bin .add), [.tmp 34, .const (.int .i64 1)], (some 35), some (23, true)⟩, false, false, 0, 0⟩,
 ⟨⟨(.indexAddrS 3), [.tmp 31, .tmp 35], (some 36), some (23, true)⟩, false, false, 0, 0⟩,
 ⟨⟨(.load true 3), [.tmp 36], (some 37), some (23, true)⟩, false, false, 0, 0⟩,
 ⟨⟨.callV, [.tmp 24, .tmp 30, .tmp 37], (some 38), some (23, true)⟩, true, false, 0, 1⟩,
 ⟨⟨(.bin .lss), [.tmp 38, .const (.int .i64 0)], (some 39), some (23, true)⟩, false, false, 1, 1⟩,
 ⟨⟨.pick, [.tmp 23, .tmp 39, .const (.bool false)], (some 40), none⟩, false, false, 1, 1⟩])
 (.cond (.tmp 40) (.seqR [⟨.move, [.tmp 11], (some 41), none⟩,
 ⟨(.bin .add), [.tmp 41, .const (.int .i64 1)], (some 42), none⟩,
 ⟨.move, [.tmp 42], (some 11), none⟩])
 .skip))
 (.seq (.seq (.drawR [⟨⟨.move, [.tmp 4], (some 43), none⟩, false, false, 0, 0⟩,
 ⟨⟨.move, [.tmp 0], (some 44), none⟩, false, false, 0, 0⟩,
 ⟨⟨.move, [.tmp 3], (some 45), none⟩, false, false, 0, 0⟩,
 ⟨⟨.move, [.tmp 10], (some 46), none⟩, false, false, 0, 0⟩,
 ⟨⟨(.bin .add), [.tmp 45, .tmp 46], (some 47), none⟩, false, false, 0, 0⟩,
 ⟨⟨(.indexAddrS 3), [.tmp 44, .tmp 47], (some 48), none⟩, false, false, 0, 0⟩,
 ⟨⟨(.load true 3), [.tmp 48], (some 49), none⟩, false, false, 0, 0⟩,
 ⟨⟨.move, [.tmp 0], (some 50), none⟩, false, false, 0, 0⟩,
 ⟨⟨.move, [.tmp 3], (some 51), none⟩, false, false, 0, 0⟩,
 ⟨⟨.move, [.tmp 11], (some 52), none⟩, false, false, 0, 0⟩,
 ⟨⟨(.bin .add), [.tmp 51, .tmp 52], (some 53), none⟩, false, false, 0, 0⟩,
 ⟨⟨(.indexAddrS 3), [.tmp 50, .tmp 53], (some 54), none⟩, false, false, 0, 0⟩,
 ⟨⟨(.load true 3), [.tmp 54], (some 55), none⟩, false, false, 0, 0⟩,
 ⟨⟨.callV, [.tmp 43, .tmp 49, .tmp 55], (some 56), none⟩, true, false, 0, 1⟩,
 ⟨⟨(.bin .lss), [.tmp 56, .const (.int .i64 0)], (some 57), none⟩, false, false, 1, 1⟩,
 ⟨⟨.not, [.tmp 57], (some 58), none⟩, false, false, 1, 1⟩])
 (.cond (.tmp 58) .ret
 .skip))
 (.seq (.drawR [⟨⟨.move, [.tmp 0], (some 59), none⟩, false, false, 0, 0⟩,
 ⟨⟨.move, [.tmp 3], (some 60), none⟩, false, false, 0, 0⟩,
 ⟨⟨.move, [.tmp 10], (some 61), none⟩, false, false, 0, 0⟩,
 ⟨⟨(.bin .add), [.tmp 60, .tmp 61], (some 62), none⟩, false, false, 0, 0⟩,
 ⟨⟨.move, [.tmp 0], (some 63), none⟩, false, false, 0, 1⟩,
 ⟨⟨.move, [.tmp 3], (some 64), none⟩, false, false, 0, 1⟩,
 ⟨⟨.move, [.tmp 11], (some 65), none⟩, false, false, 0, 1⟩,
 ⟨⟨(.bin .add), [.tmp 64, .tmp 65], (some 66), none⟩, false, false, 0, 1⟩,
 ⟨⟨.move, [.tmp 0], (some 67), none⟩, false, false, 0, 0⟩,
 ⟨⟨.move, [.tmp 3], (some 68), none⟩, false, false, 0, 0⟩,
 ⟨⟨.move, [.tmp 11], (some 69), none⟩, false, false, 0, 0⟩,
 ⟨⟨(.bin .add), [.tmp 68, .tmp 69], (some 70), none⟩, false, false, 0, 0⟩,
 ⟨⟨(.indexAddrS 3), [.tmp 67, .tmp 70], (some 71), none⟩, false, false, 0, 0⟩,
 ⟨⟨(.load true 3), [.tmp 71], (some 72), none⟩, false, false, 0, 0⟩,
 ⟨⟨.move, [.tmp 0], (some 73), none⟩, false, false, 0, 0⟩,
 ⟨⟨.move, [.tmp 3], (some 74), none⟩, false, false, 0, 0⟩,
 ⟨⟨.move, [.tmp 10], (some 75), none⟩, false, false, 0, 0⟩,
 ⟨⟨(.bin .add), [.tmp 74, .tmp 75], (some 76), none⟩, false, false, 0, 0⟩,
 ⟨⟨(.indexAddrS 3), [.tmp 73, .tmp 76], (some 77), none⟩, false, false, 0, 0⟩,
 ⟨⟨(.load true 3), [.tmp 77], (some 78), none⟩, false, false, 0, 0⟩,
 ⟨⟨(.indexAddrS 3), [.tmp 59, .tmp 62], (some 79), none⟩, false, false, 0, 0⟩,
 ⟨⟨(.store 3), [.tmp 79, .tmp 72], none, none⟩, true, false, 0, 1⟩,
 ⟨⟨(.indexAddrS 3), [.tmp 63, .tmp 66], (some 80), none⟩, false, false, 1, 1⟩,
 ⟨⟨(.store 3), [.tmp 80, .tmp 78], none, none⟩, true, false, 1, 2⟩])
 (.seqR [⟨.move, [.tmp 11], (some 81), none⟩,
 ⟨.move, [.tmp 81], (some 10), none⟩])))))))))), []⟩
theorem c59_ok : compFunc Try.prog Try.f59 = some c59 := by kernel_rfl
theorem c59_body : hasBody Try.prog 59 = true := hasBody_of Try.func59 (by kernel_rfl)
/-- slices.nextPowerOfTwo -/
def c60 : PFn := ⟨7, Tr.ofList (List.replicate 7 undefA), (.seq (.seqR [⟨.move, [.const (.int .u64 0)], (some 2), none⟩])
 (.seq (.seqR [⟨.move, [.tmp 0], (some 3), none⟩,
 ⟨(.conv .u64), [.tmp 3], (some 4), none⟩,
 ⟨(.callF 34), [.tmp 4], (some 5), none⟩,
 ⟨(.bin .shl), [.const (.int .u64 1), .tmp 5], (some 6), none⟩,
 ⟨.move, [.tmp 6], (some 2), none⟩])
 .ret)), [.tmp 2]⟩
theorem c60_ok : compFunc Try.prog Try.f60 = some c60 := by kernel_rfl
theorem c60_body : hasBody Try.prog 60 = true := hasBody_of Try.func60 (by kernel_rfl)
/-- (*slices.xorshift).Next -/
def c61 : PFn := ⟨33, Tr.ofList (List.replicate 33 undefA), (.seq (.seqR [⟨.move, [.const (.int .u64 0)], (some 2), none⟩])
 (.seq (.drawR [⟨⟨.move, [.tmp 0], (some 3), none⟩, false, false, 0, 0⟩,
 ⟨⟨.nilCheck, [.tmp 3], (some 4), none⟩, false, false, 0, 0⟩,
 ⟨⟨(.load false 1), [.tmp 4], (some 5), none⟩, false, false, 0, 0⟩,
 ⟨⟨.move, [.tmp 0], (some 6), none⟩, false, false, 0, 0⟩,
 ⟨⟨.nilCheck, [.tmp 6], (some 7), none⟩, false, false, 0, 0⟩,
 ⟨⟨(.load false 1), [.tmp 7], (some 8), none⟩, false, false, 0, 0⟩,
 ⟨⟨(.bin .shl), [.tmp 8, .const (.int .u64 13)], (some 9), none⟩, false, false, 0, 0⟩,
 ⟨⟨(.bin .xor), [.tmp 5, .tmp 9], (some 10), none⟩, false, false, 0, 0⟩,
 ⟨⟨.nilCheck, [.tmp 3], (some 11), none⟩, false, false, 0, 0⟩,
 ⟨⟨(.store 1), [.tmp 11, .tmp 10], none, none⟩, true, false, 0, 1⟩])
 (.seq (.drawR [⟨⟨.move, [.tmp 0], (some 12), none⟩, false, false, 0, 0⟩,
 ⟨⟨.nilCheck, [.tmp 12], (some 13), none⟩, false, false, 0, 0⟩,
 ⟨⟨(.load false 1), [.tmp 13], (some 14), none⟩, false, false, 0, 0⟩,
 ⟨⟨.move, [.tmp 0], (some 15), none⟩, false, false, 0, 0⟩,
 ⟨⟨.nilCheck, [.tmp 15], (some 16), none⟩, false, false, 0, 0⟩,
 ⟨⟨(.load false 1), [.tmp 16], (some 17), none⟩, false, false, 0, 0⟩,
 ⟨⟨(.bin .shr), [.tmp 17, .const (.int .u64 7)], (some 18), none⟩, false, false, 0, 0⟩,
 ⟨⟨(.bin .xor), [.tmp 14, .tmp 18], (some 19), none⟩, false, false, 0, 0⟩,
 ⟨⟨.nilCheck, [.tmp 12], (some 20), none⟩, false, false, 0, 0⟩,
 ⟨⟨(.store 1), [.tmp 20, .tmp 19], none, none⟩, true, false, 0, 1⟩])
 (.seq (.drawR [⟨⟨.move, [.tmp 0], (some 21), none⟩, false, false, 0, 0⟩,
 ⟨⟨.nilCheck, [.tmp 21], (some 22), none⟩, false, false, 0, 0⟩,
 ⟨⟨(.load false 1), [.tmp 22], (some 23), none⟩, false, false, 0, 0⟩,
 ⟨⟨.move, [.tmp 0], (some 24), none⟩, false, false, 0, 0⟩,
 ⟨⟨.nilCheck, [.tmp 24], (some 25), none⟩, false, false, 0, 0⟩,
 ⟨⟨(.load false 1), [.tmp 25], (some 26), none⟩, false, false, 0, 0⟩,
 ⟨⟨(.bin .shl), [.tmp 26, .const (.int .u64 17)], (some 27), none⟩, false, false, 0, 0⟩,
 ⟨⟨(.bin .xor), [.tmp 23, .tmp 27], (some 28), none⟩, false, false, 0, 0⟩,
 ⟨⟨.nilCheck, [.tmp 21], (some 29), none⟩, false, false, 0, 0⟩,
 ⟨⟨(.store 1), [.tmp 29, .tmp 28], none, none⟩, true, false, 0, 1⟩])
 (.seq (.seqR [⟨.move, [.tmp 0], (some 30), none⟩,
 ⟨.nilCheck, [.tmp 30], (some 31), none⟩,
 ⟨(.load false 1), [.tmp 31], (some 32), none⟩,
 ⟨.move, [.tmp 32], (some 2), none⟩])
 .ret))))), [.tmp 2]⟩
theorem c61_ok : compFunc Try.prog Try.f61 = some c61 := by kernel_rfl
theorem c61_body : hasBody Try.prog 61 = true := hasBody_of Try.func61 (by kernel_rfl)
/-- slices.medianAdjacentCmpFunc[coachyard/bag.deed] -/
def c62 : PFn := ⟨18, Tr.ofList (List.replicate 18 undefA), (.seq (.seqR [⟨.move, [.const (.int .i64 0)], (some 8), none⟩])
 (.seq (.seqR [⟨.move, [.tmp 0], (some 9), none⟩,
 ⟨.move, [.tmp 1], (some 10), none⟩,
 ⟨(.bin .sub), [.tmp 10, .const (.int .i64 1)], (some 11), none⟩,
 ⟨.move, [.tmp 1], (some 12), none⟩,
 ⟨.move, [.tmp 1], (some 13), none⟩,
 ⟨(.bin .add), [.tmp 13, .const (.int .i64 1)], (some 14), none⟩,
 ⟨.move, [.tmp 2], (some 15), none⟩,
 ⟨.move, [.tmp 3], (some 16), none⟩,
 ⟨(.callF 63), [.tmp 9, .tmp 11, .tmp 12, .tmp 14, .tmp 15, .tmp 16], (some 17), none⟩,
 ⟨.move, [.tmp 17], (some 8), none⟩])
 .ret)), [.tmp 8]⟩
theorem c62_ok : compFunc Try.prog Try.f62 = some c62 := by kernel_rfl
theorem c62_body : hasBody Try.prog 62 = true := hasBody_of Try.func62 (by kernel_rfl)
/-- slices.medianCmpFunc[coachyard/bag.deed] -/
def c63 : PFn := ⟨41, Tr.ofList (List.replicate 41 undefA), (.seq (.seqR [⟨.move, [.const (.int .i64 0)], (some 12), none⟩])
 (.seq (.seqR [⟨.move, [.tmp 0], (some 14), none⟩,
 ⟨.move, [.tmp 1], (some 15), none⟩,
 ⟨.move, [.tmp 2], (some 16), none⟩,
 ⟨.move, [.tmp 4], (some 17), none⟩,
 ⟨.move, [.tmp 5], (some 18), none⟩,
 ⟨(.callF 69), [.tmp 14, .tmp 15, .tmp 16, .tmp 17, .tmp 18], (some 19), none⟩,
 ⟨.move, [.tmp 19], (some 13), none⟩,
 ⟨(.extract 0), [.tmp 13], (some 20), none⟩,
 ⟨(.extract 1), [.tmp 13], (some 21), none⟩,
 ⟨.move, [.tmp 20], (some 1), none⟩,
 ⟨.move, [.tmp 21], (some 2), none⟩])
 (.seq (.seqR [⟨.move, [.tmp 0], (some 23), none⟩,
 ⟨.move, [.tmp 2], (some 24), none⟩,
 ⟨.move, [.tmp 3], (some 25), none⟩,
 ⟨.move, [.tmp 4], (some 26), none⟩,
 ⟨.move, [.tmp 5], (some 27), none⟩,
 ⟨(.callF 69), [.tmp 23, .tmp 24, .tmp 25, .tmp 26, .tmp 27], (some 28), none⟩,
 ⟨.move, [.tmp 28], (some 22), none⟩,
 ⟨(.extract 0), [.tmp 22], (some 29), none⟩,
 ⟨(.extract 1), [.tmp 22], (some 30), none⟩,
 ⟨.move, [.tmp 29], (some 2), none⟩,
 ⟨.move, [.tmp 30], (some 3), none⟩])
 (.seq (.seqR [⟨.move, [.tmp 0], (some 32), none⟩,
 ⟨.move, [.tmp 1], (some 33), none⟩,
 ⟨.move, [.tmp 2], (some 34), none⟩,
 ⟨.move, [.tmp 4], (some 35), none⟩,
 ⟨.move, [.tmp 5], (some 36), none⟩,
 ⟨(.callF 69), [.tmp 32, .tmp 33, .tmp 34, .tmp 35, .tmp 36], (some 37), none⟩,
 ⟨.move, [.tmp 37], (some 31), none⟩,
 ⟨(.extract 0), [.tmp 31], (some 38), none⟩,
 ⟨(.extract 1), [.tmp 31], (some 39), none⟩,
 ⟨.move, [.tmp 38], (some 1), none⟩,
 ⟨.move, [.tmp 39], (some 2), none⟩])
 (.seq (.seqR [⟨.move, [.tmp 2], (some 40), none⟩,
 ⟨.move, [.tmp 40], (some 12), none⟩])
 .ret))))), [.tmp 12]⟩
theorem c63_ok : compFunc Try.prog Try.f63 = some c63 := by kernel_rfl
theorem c63_body : hasBody Try.prog 63 = true := hasBody_of Try.func63 (by kernel_rfl)
/-- slices.siftDownOrdered[uint64] -/
def c64 : PFn := ⟨76, Tr.ofList (List.replicate 76 undefA), (.seq (.seqR [⟨.move, [.tmp 1], (some 10), none⟩,
 ⟨.move, [.tmp 10], (some 8), none⟩])
 (.block 0 (.loop (.block 1 (.seq (.seqR [⟨.move, [.tmp 8], (some 11), none⟩,
 ⟨(.bin .mul), [.const (.int .i64 2), .tmp 11], (some 12), none⟩,
 ⟨(.bin .add), [.tmp 12, .const (.int .i64 1)], (some 13), none⟩,
 ⟨.move, [.tmp 13], (some 9), none⟩])
 (.seq (.seq (.seqR [⟨.move, [.tmp 9], (some 14), none⟩,
 ⟨.move, [.tmp 2], (some 15), none⟩,
 ⟨(.bin .geq), [.tmp 14, .tmp 15], (some 16), none⟩])
 (.cond (.tmp 16) (.exit 0)
 .skip))
 (.seq (.seq (.drawR [⟨⟨.move, [.tmp 9], (some 17), none⟩, false, false, 0, 0⟩,
 ⟨⟨(.bin .add), [.tmp 17, .const (.int .i64 1)], (some 18), none⟩, false, false, 0, 0⟩,
 ⟨⟨.move, [.tmp 2], (some 19), none⟩, false, false, 0, 0⟩,
 ⟨⟨(.bin .lss), [.tmp 18, .tmp 19], (some 20), none⟩, false, false, 0, 0⟩,
 ⟨⟨.move, [.tmp 20], (some 21), none⟩, false, false, 0, 0⟩,
 ⟨⟨.move, [.tmp 0], (some 22), some (21, true)⟩, false, false, 0, 0⟩,
 ⟨⟨.move, [.tmp 3], (some 23), some (21, true)⟩, false, false, 0, 0⟩,
 ⟨⟨.move, [.tmp 9], (some 24), some (21, true)⟩, false, false, 0, 0⟩,
 ⟨⟨(.bin .add), [.tmp 23, .tmp 24], (some 25), some (21, true)⟩, false, false, 0, 0⟩,
 ⟨⟨(.indexAddrS 1), [.tmp 22, .tmp 25], (some 26), some (21, true)⟩, false, false, 0, 0⟩,
 ⟨⟨(.load false 1), [.tmp 26], (some 27), some (21, true)⟩, false, false, 0, 0⟩,
 ⟨⟨.move, [.tmp 0], (some 28), some (21, true)⟩, false, false, 0, 0⟩,
 ⟨⟨.move, [.tmp 3], (some 29), some (21, true)⟩, false, false, 0, 0⟩,
 ⟨⟨.move, [.tmp 9], (some 30), some (21, true)⟩, false, false, 0, 0⟩,
 ⟨⟨(.bin .add), [.tmp 29, .tmp 30], (some 31), some (21, true)⟩, false, false, 0, 0⟩,
 ⟨⟨(.bin .add), [.tmp 31, .const (.int .i64 1)], (some 32), some (21, true)⟩, false, false, 0, 0⟩,
 ⟨⟨(.indexAddrS 1), [.tmp 28, .tmp 32], (some 33), some (21, true)⟩, false, false, 0, 0⟩,
 ⟨⟨(.load false 1), [.tmp 33], (some 34), some (21, true)⟩, false, false, 0, 0⟩,
 ⟨⟨(.callF 54), [.tmp 27, .tmp 34], (some 35), some (21, true)⟩, true, false, 0, 1⟩,
 ⟨⟨.pick, [.tmp 21, .tmp 35, .const (.bool false)], (some 36), none⟩, false, false, 1, 1⟩])
 (.cond (.tmp 36) (.seqR [⟨.move, [.tmp 9], (some 37), none⟩,
 ⟨(.bin .add), [.tmp 37, .const (.int .i64 1)], (some 38), none⟩,
 ⟨.move, [.tmp 38], (some 9), none⟩])
 .skip))
 (.seq (.seq (.drawR [⟨⟨.move, [.tmp 0], (some 39), none⟩, false, false, 0, 0⟩,
 ⟨⟨.move, [.tmp 3], (some 40), none⟩, false, false, 0, 0⟩,
 ⟨⟨.move, [.tmp 8], (some 41), none⟩, false, false, 0, 0⟩,
 ⟨⟨(.bin .add), [.tmp 40, .tmp 41], (some 42), none⟩, false, false, 0, 0⟩,
 ⟨⟨(.indexAddrS 1), [.tmp 39, .tmp 42], (some 43), none⟩, false, false, 0, 0⟩,
 ⟨⟨(.load false 1), [.tmp 43], (some 44), none⟩, false, false, 0, 0⟩,
 ⟨⟨.move, [.tmp 0], (some 45), none⟩, false, false, 0, 0⟩,
 ⟨⟨.move, [.tmp 3], (some 46), none⟩, false, false, 0, 0⟩,
 ⟨⟨.move, [.tmp 9], (some 47), none⟩, false, false, 0, 0⟩,
 ⟨⟨(.bin .add), [.tmp 46, .tmp 47], (some 48), none⟩, false, false, 0, 0⟩,
 ⟨⟨(.indexAddrS 1), [.tmp 45, .tmp 48], (some 49), none⟩, false, false, 0, 0⟩,
 ⟨⟨(.load false 1), [.tmp 49], (some 50), none⟩, false, false, 0, 0⟩,
 ⟨⟨(.callF 54), [.tmp 44, .tmp 50], (some 51), none⟩, true, false, 0, 1⟩,
 ⟨⟨.not, [.tmp 51], (some 52), none⟩, false, false, 1, 1⟩])
 (.cond (.tmp 52) .ret
 .skip))
 (.seq (.drawR [⟨⟨.move, [.tmp 0], (some 53), none⟩, false, false, 0, 0⟩,
 ⟨⟨.move, [.tmp 3], (some 54), none⟩, false, false, 0, 0⟩,
 ⟨⟨.move, [.tmp 8], (some 55), none⟩, false, false, 0, 0⟩,
 ⟨⟨(.bin .add), [.tmp 54, .tmp 55], (some 56), none⟩, false, false, 0, 0⟩,
 ⟨⟨.move, [.tmp 0], (some 57), none⟩, false, false, 0, 1⟩,
 ⟨⟨.move, [.tmp 3], (some 58), none⟩, false, false, 0, 1⟩,
 ⟨⟨.move, [.tmp 9], (some 59), none⟩, false, false, 0, 1⟩,
 ⟨⟨(.bin .add), [.tmp 58, .tmp 59], (some 60), none⟩, false, false, 0, 1⟩,
 ⟨⟨.move, [.tmp 0], (some 61), none⟩, false, false, 0, 0⟩,
 ⟨⟨.move, [.tmp 3], (some 62), none⟩, false, false, 0, 0⟩,
 ⟨⟨.move, [.tmp 9], (some 63), none⟩, false, false, 0, 0⟩,
 ⟨⟨(.bin .add), [.tmp 62, .tmp 63], (some 64), none⟩, false, false, 0, 0⟩,
 ⟨⟨(.indexAddrS 1), [.tmp 61, .tmp 64], (some 65), none⟩, false, false, 0, 0⟩,
 ⟨⟨(.load false 1), [.tmp 65], (some 66), none⟩, false, false, 0, 0⟩,
 ⟨⟨.move, [.tmp 0], (some 67), none⟩, false, false, 0, 0⟩,
 ⟨⟨.move, [.tmp 3], (some 68), none⟩, false, false, 0, 0⟩,
 ⟨⟨.move, [.tmp 8], (some 69), none⟩, false, false, 0, 0⟩,
 ⟨⟨(.bin .add), [.tmp 68, .tmp 69], (some 70), none⟩, false, false, 0, 0⟩,
 ⟨⟨(.indexAddrS 1), [.tmp 67, .tmp 70], (some 71), none⟩, false, false, 0, 0⟩,
 ⟨⟨(.load false 1), [.tmp 71], (some 72), none⟩, false, false, 0, 0⟩,
 ⟨⟨(.indexAddrS 1), [.tmp 53, .tmp 56], (some 73), none⟩, false, false, 0, 0⟩,
 ⟨⟨(.store 1), [.tmp 73, .tmp 66], none, none⟩, true, false, 0, 1⟩,
 ⟨⟨(.indexAddrS 1), [.tmp 57, .tmp 60], (some 74), none⟩, false, false, 1, 1⟩,
 ⟨⟨(.store 1), [.tmp 74, .tmp 72], none, none⟩, true, false, 1, 2⟩])
 (.seqR [⟨.move, [.tmp 9], (some 75), none⟩,
 ⟨.move, [.tmp 75], (some 8), none⟩])))))))))), []⟩
theorem c64_ok : compFunc Try.prog Try.f64 = some c64 := by kernel_rfl
theorem c64_body : hasBody Try.prog 64 = true := hasBody_of Try.func64 (by kernel_rfl)
/-- slices.medianAdjacentOrdered[uint64] -/
def c65 : PFn := ⟨15, Tr.ofList (List.replicate 15 undefA), (.seq (.seqR [⟨.move, [.const (.int .i64 0)], (some 6), none⟩])
 (.seq (.seqR [⟨.move, [.tmp 0], (some 7), none⟩,
 ⟨.move, [.tmp 1], (some 8), none⟩,
 ⟨(.bin .sub), [.tmp 8, .const (.int .i64 1)], (some 9), none⟩,
 ⟨.move, [.tmp 1], (some 10), none⟩,
 ⟨.move, [.tmp 1], (some 11), none⟩,
 ⟨(.bin .add), [.tmp 11, .const (.int .i64 1)], (some 12), none⟩,
 ⟨.move, [.tmp 2], (some 13), none⟩,
 ⟨(.callF 66), [.tmp 7, .tmp 9, .tmp 10, .tmp 12, .tmp 13], (some 14), none⟩,
 ⟨.move, [.tmp 14], (some 6), none⟩])
 .ret)), [.tmp 6]⟩
theorem c65_ok : compFunc Try.prog Try.f65 = some c65 := by kernel_rfl
theorem c65_body : hasBody Try.prog 65 = true := hasBody_of Try.func65 (by kernel_rfl)
/-- slices.medianOrdered[uint64] -/
def c66 : PFn := ⟨36, Tr.ofList (List.replicate 36 undefA), (.seq (.seqR [⟨.move, [.const (.int .i64 0)], (some 10), none⟩])
 (.seq (.seqR [⟨.move, [.tmp 0], (some 12), none⟩,
 ⟨.move, [.tmp 1], (some 13), none⟩,
 ⟨.move, [.tmp 2], (some 14), none⟩,
 ⟨.move, [.tmp 4], (some 15), none⟩,
 ⟨(.callF 70), [.tmp 12, .tmp 13, .tmp 14, .tmp 15], (some 16), none⟩,
 ⟨.move, [.tmp 16], (some 11), none⟩,
 ⟨(.extract 0), [.tmp 11], (some 17), none⟩,
 ⟨(.extract 1), [.tmp 11], (some 18), none⟩,
 ⟨.move, [.tmp 17], (some 1), none⟩,
 ⟨.move, [.tmp 18], (some 2), none⟩])
 (.seq (.seqR [⟨.move, [.tmp 0], (some 20), none⟩,
 ⟨.move, [.tmp 2], (some 21), none⟩,
 ⟨.move, [.tmp 3], (some 22), none⟩,
 ⟨.move, [.tmp 4], (some 23), none⟩,
 ⟨(.callF 70), [.tmp 20, .tmp 21, .tmp 22, .tmp 23], (some 24), none⟩,
 ⟨.move, [.tmp 24], (some 19), none⟩,
 ⟨(.extract 0), [.tmp 19], (some 25), none⟩,
 ⟨(.extract 1), [.tmp 19], (some 26), none⟩,
 ⟨.move, [.tmp 25], (some 2), none⟩,
 ⟨.move, [.tmp 26], (some 3), none⟩])
 (.seq (.seqR [⟨.move, [.tmp 0], (some 28), none⟩,
 ⟨.move, [.tmp 1], (some 29), none⟩,
 ⟨.move, [.tmp 2], (some 30), none⟩,
 ⟨.move, [.tmp 4], (some 31), none⟩,
 ⟨(.callF 70), [.tmp 28, .tmp 29, .tmp 30, .tmp 31], (some 32), none⟩,
 ⟨.move, [.tmp 32], (some 27), none⟩,
 ⟨(.extract 0), [.tmp 27], (some 33), none⟩,
 ⟨(.extract 1), [.tmp 27], (some 34), none⟩,
 ⟨.move, [.tmp 33], (some 1), none⟩,
 ⟨.move, [.tmp 34], (some 2), none⟩])
 (.seq (.seqR [⟨.move, [.tmp 2], (some 35), none⟩,
 ⟨.move, [.tmp 35], (some 10), none⟩])
 .ret))))), [.tmp 10]⟩
theorem c66_ok : compFunc Try.prog Try.f66 = some c66 := by kernel_rfl
theorem c66_body : hasBody Try.prog 66 = true := hasBody_of Try.func66 (by kernel_rfl)
/-- cmp.isNaN[uint64] -/
def c67 : PFn := ⟨6, Tr.ofList (List.replicate 6 undefA), (.seq (.seqR [⟨.move, [.const (.bool false)], (some 2), none⟩])
 (.seq (.seqR [⟨.move, [.tmp 0], (some 3), none⟩,
 ⟨.move, [.tmp 0], (some 4), none⟩,
 ⟨(.bin .neq), [.tmp 3, .tmp 4], (some 5), none⟩,
 ⟨.move, [.tmp 5], (some 2), none⟩])
 .ret)), [.tmp 2]⟩
theorem c67_ok : compFunc Try.prog Try.f67 = some c67 := by kernel_rfl
theorem c67_body : hasBody Try.prog 67 = true := hasBody_of Try.func67 (by kernel_rfl)
/-- slices.rotateCmpFunc[int] -/
def c68 : PFn := ⟨58, Tr.ofList (List.replicate 58 undefA), (.seq (.seqR [⟨.move, [.tmp 2], (some 12), none⟩,
 ⟨.move, [.tmp 1], (some 13), none⟩,
 ⟨(.bin .sub), [.tmp 12, .tmp 13], (some 14), none⟩,
 ⟨.move, [.tmp 14], (some 10), none⟩])
 (.seq (.seqR [⟨.move, [.tmp 3], (some 15), none⟩,
 ⟨.move, [.tmp 2], (some 16), none⟩,
 ⟨(.bin .sub), [.tmp 15, .tmp 16], (some 17), none⟩,
 ⟨.move, [.tmp 17], (some 11), none⟩])
 (.seq (.block 0 (.loop (.seq (.seq (.seqR [⟨.move, [.tmp 10], (some 18), none⟩,
 ⟨.move, [.tmp 11], (some 19), none⟩,
 ⟨(.bin .neq), [.tmp 18, .tmp 19], (some 20), none⟩])
 (.cond (.tmp 20) .skip
 (.exit 0)))
 (.block 1 (.seq (.seqR [⟨.move, [.tmp 10], (some 21), none⟩,
 ⟨.move, [.tmp 11], (some 22), none⟩,
 ⟨(.bin .gtr), [.tmp 21, .tmp 22], (some 23), none⟩])
 (.cond (.tmp 23) (.seq (.seqR [⟨.move, [.tmp 0], (some 24), none⟩,
 ⟨.move, [.tmp 2], (some 25), none⟩,
 ⟨.move, [.tmp 10], (some 26), none⟩,
 ⟨(.bin .sub), [.tmp 25, .tmp 26], (some 27), none⟩,
 ⟨.move, [.tmp 2], (some 28), none⟩,
 ⟨.move, [.tmp 11], (some 29), none⟩,
 ⟨.move, [.tmp 4], (some 30), none⟩,
 ⟨(.callF 71), [.tmp 24, .tmp 27, .tmp 28, .tmp 29, .tmp 30], (some 31), none⟩])
 (.seqR [⟨.move, [.tmp 10], (some 32), none⟩,
 ⟨.move, [.tmp 11], (some 33), none⟩,
 ⟨(.bin .sub), [.tmp 32, .tmp 33], (some 34), none⟩,
 ⟨.move, [.tmp 34], (some 10), none⟩]))
 (.seq (.seqR [⟨.move, [.tmp 0], (some 35), none⟩,
 ⟨.move, [.tmp 2], (some 36), none⟩,
 ⟨.move, [.tmp 10], (some 37), none⟩,
 ⟨(.bin .sub), [.tmp 36, .tmp 37], (some 38), none⟩,
 ⟨.move, [.tmp 2], (some 39), none⟩,
 ⟨.move, [.tmp 11], (some 40), none⟩,
 ⟨(.bin .add), [.tmp 39, .tmp 40], (some 41), none⟩,
 ⟨.move, [.tmp 10], (some 42), none⟩,
 ⟨(.bin .sub), [.tmp 41, .tmp 42], (some 43), none⟩,
 ⟨.move, [.tmp 10], (some 44), none⟩,
 ⟨.move, [.tmp 4], (some 45), none⟩,
 ⟨(.callF 71), [.tmp 35, .tmp 38, .tmp 43, .tmp 44, .tmp 45], (some 46), none⟩])
 (.seqR [⟨.move, [.tmp 11], (some 47), none⟩,
 ⟨.move, [.tmp 10], (some 48), none⟩,
 ⟨(.bin .sub), [.tmp 47, .tmp 48], (some 49), none⟩,
 ⟨.move, [.tmp 49], (some 11), none⟩]))))))))
 (.seqR [⟨.move, [.tmp 0], (some 50), none⟩,
 ⟨.move, [.tmp 2], (some 51), none⟩,
 ⟨.move, [.tmp 10], (some 52), none⟩,
 ⟨(.bin .sub), [.tmp 51, .tmp 52], (some 53), none⟩,
 ⟨.move, [.tmp 2], (some 54), none⟩,
 ⟨.move, [.tmp 10], (some 55), none⟩,
 ⟨.move, [.tmp 4], (some 56), none⟩,
 ⟨(.callF 71), [.tmp 50, .tmp 53, .tmp 54, .tmp 55, .tmp 56], (some 57), none⟩])))), []⟩
theorem c68_ok : compFunc Try.prog Try.f68 = some c68 := by kernel_rfl
theorem c68_body : hasBody Try.prog 68 = true := hasBody_of Try.func68 (by kernel_rfl)
/-- slices.order2CmpFunc[coachyard/bag.deed] -/
def c69 : PFn := ⟨32, Tr.ofList (List.replicate 32 undefA), (.seq (.seqR [⟨.move, [.const (.int .i64 0)], (some 10), none⟩,
 ⟨.move, [.const (.int .i64 0)], (some 11), none⟩])
 (.seq (.seq (.drawR [⟨⟨.move, [.tmp 4], (some 12), none⟩, false, false, 0, 0⟩,
 ⟨⟨.move, [.tmp 0], (some 13), none⟩, false, false, 0, 0⟩,
 ⟨⟨.move, [.tmp 2], (some 14), none⟩, false, false, 0, 0⟩,
 ⟨⟨(.indexAddrS 3), [.tmp 13, .tmp 14], (some 15), none⟩, false, false, 0, 0⟩,
 ⟨⟨(.load true 3), [.tmp 15], (some 16), none⟩, false, false, 0, 0⟩,
 ⟨⟨.move, [.tmp 0], (some 17), none⟩, false, false, 0, 0⟩,
 ⟨⟨.move, [.tmp 1], (some 18), none⟩, false, false, 0, 0⟩,
 ⟨⟨(.indexAddrS 3), [.tmp 17, .tmp 18], (some 19), none⟩, false, false, 0, 0⟩,
 ⟨⟨(.load true 3), [.tmp 19], (some 20), none⟩, false, false, 0, 0⟩,
 ⟨⟨.callV, [.tmp 12, .tmp 16, .tmp 20], (some 21), none⟩, true, false, 0, 1⟩,
 ⟨⟨(.bin .lss), [.tmp 21, .const (.int .i64 0)], (some 22), none⟩, false, false, 1, 1⟩])
 (.cond (.tmp 22) (.seq (.seqR [⟨.move, [.tmp 3], (some 23), none⟩,
 ⟨.nilCheck, [.tmp 23], (some 24), none⟩,
 ⟨(.load false 1), [.tmp 24], (some 25), none⟩,
 ⟨(.bin .add), [.tmp 25, .const (.int .i64 1)], (some 26), none⟩,
 ⟨.nilCheck, [.tmp 23], (some 27), none⟩,
 ⟨(.store 1), [.tmp 27, .tmp 26], none, none⟩])
 (.seq (.seqR [⟨.move, [.tmp 2], (some 28), none⟩,
 ⟨.move, [.tmp 1], (some 29), none⟩,
 ⟨.move, [.tmp 28], (some 10), none⟩,
 ⟨.move, [.tmp 29], (some 11), none⟩])
 .ret))
 .skip))
 (.seq (.seqR [⟨.move, [.tmp 1], (some 30), none⟩,
 ⟨.move, [.tmp 2], (some 31), none⟩,
 ⟨.move, [.tmp 30], (some 10), none⟩,
 ⟨.move, [.tmp 31], (some 11), none⟩])
 .ret))), [.tmp 10, .tmp 11]⟩
theorem c69_ok : compFunc Try.prog Try.f69 = some c69 := by kernel_rfl
theorem c69_body : hasBody Try.prog 69 = true := hasBody_of Try.func69 (by kernel_rfl)
/-- slices.order2Ordered[uint64] -/
def c70 : PFn := ⟨28, Tr.ofList (List.replicate 28 undefA), (.seq (.seqR [⟨.move, [.const (.int .i64 0)], (some 8), none⟩,
 ⟨.move, [.const (.int .i64 0)], (some 9), none⟩])
 (.seq (.seq (.drawR [⟨⟨.move, [.tmp 0], (some 10), none⟩, false, false, 0, 0⟩,
 ⟨⟨.move, [.tmp 2], (some 11), none⟩, false, false, 0, 0⟩,
 ⟨⟨(.indexAddrS 1), [.tmp 10, .tmp 11], (some 12), none⟩, false, false, 0, 0⟩,
 ⟨⟨(.load false 1), [.tmp 12], (some 13), none⟩, false, false, 0, 0⟩,
 ⟨⟨.move, [.tmp 0], (some 14), none⟩, false, false, 0, 0⟩,
 ⟨⟨.move, [.tmp 1], (some 15), none⟩, false, false, 0, 0⟩,
 ⟨⟨(.indexAddrS 1), [.tmp 14, .tmp 15], (some 16), none⟩, false, false, 0, 0⟩,
 ⟨⟨(.load false 1), [.tmp 16], (some 17), none⟩, false, false, 0, 0⟩,
 ⟨⟨(.callF 54), [.tmp 13, .tmp 17], (some 18), none⟩, true, false, 0, 1⟩])
 (.cond (.tmp 18) (.seq (.seqR [⟨.move, [.tmp 3], (some 19), none⟩,
 ⟨.nilCheck, [.tmp 19], (some 20), none⟩,
 ⟨(.load false 1), [.tmp 20], (some 21), none⟩,
 ⟨(.bin .add), [.tmp 21, .const (.int .i64 1)], (some 22), none⟩,
 ⟨.nilCheck, [.tmp 19], (some 23), none⟩,
 ⟨(.store 1), [.tmp 23, .tmp 22], none, none⟩])
 (.seq (.seqR [⟨.move, [.tmp 2], (some 24), none⟩,
 ⟨.move, [.tmp 1], (some 25), none⟩,
 ⟨.move, [.tmp 24], (some 8), none⟩,
 ⟨.move, [.tmp 25], (some 9), none⟩])
 .ret))
 .skip))
 (.seq (.seqR [⟨.move, [.tmp 1], (some 26), none⟩,
 ⟨.move, [.tmp 2], (some 27), none⟩,
 ⟨.move, [.tmp 26], (some 8), none⟩,
 ⟨.move, [.tmp 27], (some 9), none⟩])
 .ret))), [.tmp 8, .tmp 9]⟩
theorem c70_ok : compFunc Try.prog Try.f70 = some c70 := by kernel_rfl
theorem c70_body : hasBody Try.prog 70 = true := hasBody_of Try.func70 (by kernel_rfl)
/-- slices.swapRangeCmpFunc[int] -/
def c71 : PFn := ⟨38, Tr.ofList (List.replicate 38 undefA), (.seq (.seqR [⟨.move, [.const (.int .i64 0)], (some 10), none⟩])
 (.block 0 (.loop (.seq (.seq (.seqR [⟨.move, [.tmp 10], (some 11), none⟩,
 ⟨.move, [.tmp 3], (some 12), none⟩,
 ⟨(.bin .lss), [.tmp 11, .tmp 12], (some 13), none⟩])
 (.cond (.tmp 13) .skip
 (.exit 0)))
 (.seq (.block 1 (.drawR [⟨⟨.move, [.tmp 0], (some 16), none⟩, false, false, 0, 0⟩,
 ⟨⟨.move, [.tmp 1], (some 17), none⟩, false, false, 0, 0⟩,
 ⟨⟨.move, [.tmp 10], (some 18), none⟩, false, false, 0, 0⟩,
 ⟨⟨(.bin .add), [.tmp 17, .tmp 18], (some 19), none⟩, false, false, 0, 0⟩,
 ⟨⟨.move, [.tmp 0], (some 20), none⟩, false, false, 0, 1⟩,
 ⟨⟨.move, [.tmp 2], (some 21), none⟩, false, false, 0, 1⟩,
 ⟨⟨.move, [.tmp 10], (some 22), none⟩, false, false, 0, 1⟩,
 ⟨⟨(.bin .add), [.tmp 21, .tmp 22], (some 23), none⟩, false, false, 0, 1⟩,
 ⟨⟨.move, [.tmp 0], (some 24), none⟩, false, false, 0, 0⟩,
 ⟨⟨.move, [.tmp 2], (some 25), none⟩, false, false, 0, 0⟩,
 ⟨⟨.move, [.tmp 10], (some 26), none⟩, false, false, 0, 0⟩,
 ⟨⟨(.bin .add), [.tmp 25, .tmp 26], (some 27), none⟩, false, false, 0, 0⟩,
 ⟨⟨(.indexAddrS 1), [.tmp 24, .tmp 27], (some 28), none⟩, false, false, 0, 0⟩,
 ⟨⟨(.load false 1), [.tmp 28], (some 29), none⟩, false, false, 0, 0⟩,
 ⟨⟨.move, [.tmp 0], (some 30), none⟩, false, false, 0, 0⟩,
 ⟨⟨.move, [.tmp 1], (some 31), none⟩, false, false, 0, 0⟩,
 ⟨⟨.move, [.tmp 10], (some 32), none⟩, false, false, 0, 0⟩,
 ⟨⟨(.bin .add), [.tmp 31, .tmp 32], (some 33), none⟩, false, false, 0, 0⟩,
 ⟨⟨(.indexAddrS 1), [.tmp 30, .tmp 33], (some 34), none⟩, false, false, 0, 0⟩,
 ⟨⟨(.load false 1), [.tmp 34], (some 35), none⟩, false, false, 0, 0⟩,
 ⟨⟨(.indexAddrS 1), [.tmp 16, .tmp 19], (some 36), none⟩, false, false, 0, 0⟩,
 ⟨⟨(.store 1), [.tmp 36, .tmp 29], none, none⟩, true, false, 0, 1⟩,
 ⟨⟨(.indexAddrS 1), [.tmp 20, .tmp 23], (some 37), none⟩, false, false, 1, 1⟩,
 ⟨⟨(.store 1), [.tmp 37, .tmp 35], none, none⟩, true, false, 1, 2⟩]))
 (.seqR [⟨.move, [.tmp 10], (some 14), none⟩,
 ⟨(.bin .add), [.tmp 14, .const (.int .i64 1)], (some 15), none⟩,
 ⟨.move, [.tmp 15], (some 10), none⟩])))))), []⟩
theorem c71_ok : compFunc Try.prog Try.f71 = some c71 := by kernel_rfl
theorem c71_body : hasBody Try.prog 71 = true := hasBody_of Try.func71 (by kernel_rfl)
end Go.Proofs.Ytpbejdlpkpehlaa
