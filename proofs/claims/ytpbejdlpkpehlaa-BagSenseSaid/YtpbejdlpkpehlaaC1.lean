/- The code of the small machine for some of the program's functions: printed by program; each is what the rules make of the program's own. -/
import Derived.Test.YtpbejdlpkpehlaaVx16
import Derived.Test.YtpbejdlpkpehlaaProg
import Derived.KernelRfl
namespace Go.Proofs.Ytpbejdlpkpehlaa
open Go Go.Vx Go.Proofs
/-- cmp.isNaN[int] -/
def c35 : PFn := ⟨6, Tr.ofList (List.replicate 6 undefA), (.seq (.seqR [⟨.move, [.const (.bool false)], (some 2), none⟩])
 (.seq (.seqR [⟨.move, [.tmp 0], (some 3), none⟩,
 ⟨.move, [.tmp 0], (some 4), none⟩,
 ⟨(.bin .neq), [.tmp 3, .tmp 4], (some 5), none⟩,
 ⟨.move, [.tmp 5], (some 2), none⟩])
 .ret)), [.tmp 2]⟩
theorem c35_ok : compFunc Try.prog Try.f35 = some c35 := by kernel_rfl
theorem c35_body : hasBody Try.prog 35 = true := hasBody_of Try.func35 (by kernel_rfl)
/-- slices.pdqsortOrdered[uint64] -/
def c36 : PFn := ⟨134, Tr.ofList (List.replicate 134 undefA), (.seq (.seqR [⟨.move, [.const (.bool true)], (some 8), none⟩])
 (.seq (.seqR [⟨.move, [.const (.bool true)], (some 9), none⟩])
 (.block 0 (.loop (.block 1 (.seq (.seqR [⟨.move, [.tmp 2], (some 19), none⟩,
 ⟨.move, [.tmp 1], (some 20), none⟩,
 ⟨(.bin .sub), [.tmp 19, .tmp 20], (some 21), none⟩,
 ⟨.move, [.tmp 21], (some 10), none⟩])
 (.seq (.seq (.seqR [⟨.move, [.tmp 10], (some 22), none⟩,
 ⟨(.bin .leq), [.tmp 22, .const (.int .i64 12)], (some 23), none⟩])
 (.cond (.tmp 23) (.seq (.seqR [⟨.move, [.tmp 0], (some 24), none⟩,
 ⟨.move, [.tmp 1], (some 25), none⟩,
 ⟨.move, [.tmp 2], (some 26), none⟩,
 ⟨(.callF 48), [.tmp 24, .tmp 25, .tmp 26], (some 27), none⟩])
 .ret)
 .skip))
 (.seq (.seq (.seqR [⟨.move, [.tmp 3], (some 28), none⟩,
 ⟨(.bin .eql), [.tmp 28, .const (.int .i64 0)], (some 29), none⟩])
 (.cond (.tmp 29) (.seq (.seqR [⟨.move, [.tmp 0], (some 30), none⟩,
 ⟨.move, [.tmp 1], (some 31), none⟩,
 ⟨.move, [.tmp 2], (some 32), none⟩,
 ⟨(.callF 49), [.tmp 30, .tmp 31, .tmp 32], (some 33), none⟩])
 .ret)
 .skip))
 (.seq (.seq (.seqR [⟨.move, [.tmp 8], (some 34), none⟩,
 ⟨.not, [.tmp 34], (some 35), none⟩])
 (.cond (.tmp 35) (.seq (.seqR [⟨.move, [.tmp 0], (some 36), none⟩,
 ⟨.move, [.tmp 1], (some 37), none⟩,
 ⟨.move, [.tmp 2], (some 38), none⟩,
 ⟨(.callF 50), [.tmp 36, .tmp 37, .tmp 38], (some 39), none⟩])
 (.seqR [⟨.move, [.tmp 3], (some 40), none⟩,
 ⟨(.bin .sub), [.tmp 40, .const (.int .i64 1)], (some 41), none⟩,
 ⟨.move, [.tmp 41], (some 3), none⟩]))
 .skip))
 (.seq (.seqR [⟨.move, [.tmp 0], (some 43), none⟩,
 ⟨.move, [.tmp 1], (some 44), none⟩,
 ⟨.move, [.tmp 2], (some 45), none⟩,
 ⟨(.callF 51), [.tmp 43, .tmp 44, .tmp 45], (some 46), none⟩,
 ⟨.move, [.tmp 46], (some 42), none⟩,
 ⟨(.extract 0), [.tmp 42], (some 47), none⟩,
 ⟨(.extract 1), [.tmp 42], (some 48), none⟩,
 ⟨.move, [.tmp 47], (some 11), none⟩,
 ⟨.move, [.tmp 48], (some 12), none⟩])
 (.seq (.seq (.seqR [⟨.move, [.tmp 12], (some 49), none⟩,
 ⟨(.bin .eql), [.tmp 49, .const (.int .i64 2)], (some 50), none⟩])
 (.cond (.tmp 50) (.seq (.seqR [⟨.move, [.tmp 0], (some 51), none⟩,
 ⟨.move, [.tmp 1], (some 52), none⟩,
 ⟨.move, [.tmp 2], (some 53), none⟩,
 ⟨(.callF 52), [.tmp 51, .tmp 52, .tmp 53], (some 54), none⟩])
 (.seq (.seqR [⟨.move, [.tmp 2], (some 55), none⟩,
 ⟨(.bin .sub), [.tmp 55, .const (.int .i64 1)], (some 56), none⟩,
 ⟨.move, [.tmp 11], (some 57), none⟩,
 ⟨.move, [.tmp 1], (some 58), none⟩,
 ⟨(.bin .sub), [.tmp 57, .tmp 58], (some 59), none⟩,
 ⟨(.bin .sub), [.tmp 56, .tmp 59], (some 60), none⟩,
 ⟨.move, [.tmp 60], (some 11), none⟩])
 (.seqR [⟨.move, [.const (.int .i64 1)], (some 12), none⟩])))
 .skip))
 (.seq (.seq (.seqR [⟨.move, [.tmp 8], (some 61), none⟩,
 ⟨.move, [.tmp 61], (some 62), none⟩,
 ⟨.move, [.tmp 9], (some 63), some (62, true)⟩,
 ⟨.pick, [.tmp 62, .tmp 63, .const (.bool false)], (some 64), none⟩,
 ⟨.move, [.tmp 64], (some 65), none⟩,
 ⟨.move, [.tmp 12], (some 66), some (65, true)⟩,
 ⟨(.bin .eql), [.tmp 66, .const (.int .i64 1)], (some 67), some (65, true)⟩,
 ⟨.pick, [.tmp 65, .tmp 67, .const (.bool false)], (some 68), none⟩])
 (.cond (.tmp 68) (.seq (.seqR [⟨.move, [.tmp 0], (some 69), none⟩,
 ⟨.move, [.tmp 1], (some 70), none⟩,
 ⟨.move, [.tmp 2], (some 71), none⟩,
 ⟨(.callF 53), [.tmp 69, .tmp 70, .tmp 71], (some 72), none⟩])
 (.cond (.tmp 72) .ret
 .skip))
 .skip))
 (.seq (.seq (.drawR [⟨⟨.move, [.tmp 1], (some 73), none⟩, false, false, 0, 0⟩,
 ⟨⟨(.bin .gtr), [.tmp 73, .const (.int .i64 0)], (some 74), none⟩, false, false, 0, 0⟩,
 ⟨⟨.move, [.tmp 74], (some 75), none⟩, false, false, 0, 0⟩,
 ⟨⟨.move, [.tmp 0], (some 76), some (75, true)⟩, false, false, 0, 0⟩,
 ⟨⟨.move, [.tmp 1], (some 77), some (75, true)⟩, false, false, 0, 0⟩,
 ⟨⟨(.bin .sub), [.tmp 77, .const (.int .i64 1)], (some 78), some (75, true)⟩, false, false, 0, 0⟩,
 ⟨⟨(.indexAddrS 1), [.tmp 76, .tmp 78], (some 79), some (75, true)⟩, false, false, 0, 0⟩,
 ⟨⟨(.load false 1), [.tmp 79], (some 80), some (75, true)⟩, false, false, 0, 0⟩,
 ⟨⟨.move, [.tmp 0], (some 81), some (75, true)⟩, false, false, 0, 0⟩,
 ⟨⟨.move, [.tmp 11], (some 82), some (75, true)⟩, false, false, 0, 0⟩,
 ⟨⟨(.indexAddrS 1), [.tmp 81, .tmp 82], (some 83), some (75, true)⟩, false, false, 0, 0⟩,
 ⟨⟨(.load false 1), [.tmp 83], (some 84), some (75, true)⟩, false, false, 0, 0⟩,
 ⟨⟨(.callF 54), [.tmp 80, .tmp 84], (some 85), some (75, true)⟩, true, false, 0, 1⟩,
 ⟨⟨.not, [.tmp 85], (some 86), some (75, true)⟩, false, false, 1, 1⟩,
 ⟨⟨.pick, [.tmp 75, .tmp 86, .const (.bool false)], (some 87), none⟩, false, false, 1, 1⟩])
 (.cond (.tmp 87) (.seq (.seqR [⟨.move, [.tmp 0], (some 88), none⟩,
 ⟨.move, [.tmp 1], (some 89), none⟩,
 ⟨.move, [.tmp 2], (some 90), none⟩,
 ⟨.move, [.tmp 11], (some 91), none⟩,
 ⟨(.callF 55), [.tmp 88, .tmp 89, .tmp 90, .tmp 91], (some 92), none⟩,
 ⟨.move, [.tmp 92], (some 13), none⟩])
 (.seq (.seqR [⟨.move, [.tmp 13], (some 93), none⟩,
 ⟨.move, [.tmp 93], (some 1), none⟩])
 (.exit 1)))
 .skip))
 (.seq (.seqR [⟨.move, [.tmp 0], (some 95), none⟩,
 ⟨.move, [.tmp 1], (some 96), none⟩,
 ⟨.move, [.tmp 2], (some 97), none⟩,
 ⟨.move, [.tmp 11], (some 98), none⟩,
 ⟨(.callF 56), [.tmp 95, .tmp 96, .tmp 97, .tmp 98], (some 99), none⟩,
 ⟨.move, [.tmp 99], (some 94), none⟩,
 ⟨(.extract 0), [.tmp 94], (some 100), none⟩,
 ⟨(.extract 1), [.tmp 94], (some 101), none⟩,
 ⟨.move, [.tmp 100], (some 14), none⟩,
 ⟨.move, [.tmp 101], (some 15), none⟩])
 (.seq (.seqR [⟨.move, [.tmp 15], (some 102), none⟩,
 ⟨.move, [.tmp 102], (some 9), none⟩])
 (.seq (.seqR [⟨.move, [.tmp 14], (some 103), none⟩,
 ⟨.move, [.tmp 1], (some 104), none⟩,
 ⟨(.bin .sub), [.tmp 103, .tmp 104], (some 105), none⟩,
 ⟨.move, [.tmp 2], (some 106), none⟩,
 ⟨.move, [.tmp 14], (some 107), none⟩,
 ⟨(.bin .sub), [.tmp 106, .tmp 107], (some 108), none⟩,
 ⟨.move, [.tmp 105], (some 16), none⟩,
 ⟨.move, [.tmp 108], (some 17), none⟩])
 (.seq (.seqR [⟨.move, [.tmp 10], (some 109), none⟩,
 ⟨(.bin .quo), [.tmp 109, .const (.int .i64 8)], (some 110), none⟩,
 ⟨.move, [.tmp 110], (some 18), none⟩])
 (.seq (.seqR [⟨.move, [.tmp 16], (some 111), none⟩,
 ⟨.move, [.tmp 17], (some 112), none⟩,
 ⟨(.bin .lss), [.tmp 111, .tmp 112], (some 113), none⟩])
 (.cond (.tmp 113) (.seq (.seqR [⟨.move, [.tmp 16], (some 114), none⟩,
 ⟨.move, [.tmp 18], (some 115), none⟩,
 ⟨(.bin .geq), [.tmp 114, .tmp 115], (some 116), none⟩,
 ⟨.move, [.tmp 116], (some 8), none⟩])
 (.seq (.seqR [⟨.move, [.tmp 0], (some 117), none⟩,
 ⟨.move, [.tmp 1], (some 118), none⟩,
 ⟨.move, [.tmp 14], (some 119), none⟩,
 ⟨.move, [.tmp 3], (some 120), none⟩,
 ⟨(.callF 36), [.tmp 117, .tmp 118, .tmp 119, .tmp 120], (some 121), none⟩])
 (.seqR [⟨.move, [.tmp 14], (some 122), none⟩,
 ⟨(.bin .add), [.tmp 122, .const (.int .i64 1)], (some 123), none⟩,
 ⟨.move, [.tmp 123], (some 1), none⟩])))
 (.seq (.seqR [⟨.move, [.tmp 17], (some 124), none⟩,
 ⟨.move, [.tmp 18], (some 125), none⟩,
 ⟨(.bin .geq), [.tmp 124, .tmp 125], (some 126), none⟩,
 ⟨.move, [.tmp 126], (some 8), none⟩])
 (.seq (.seqR [⟨.move, [.tmp 0], (some 127), none⟩,
 ⟨.move, [.tmp 14], (some 128), none⟩,
 ⟨(.bin .add), [.tmp 128, .const (.int .i64 1)], (some 129), none⟩,
 ⟨.move, [.tmp 2], (some 130), none⟩,
 ⟨.move, [.tmp 3], (some 131), none⟩,
 ⟨(.callF 36), [.tmp 127, .tmp 129, .tmp 130, .tmp 131], (some 132), none⟩])
 (.seqR [⟨.move, [.tmp 14], (some 133), none⟩,
 ⟨.move, [.tmp 133], (some 2), none⟩])))))))))))))))))))))), []⟩
theorem c36_ok : compFunc Try.prog Try.f36 = some c36 := by kernel_rfl
theorem c36_body : hasBody Try.prog 36 = true := hasBody_of Try.func36 (by kernel_rfl)
/-- slices.stableCmpFunc[int] -/
def c37 : PFn := ⟨63, Tr.ofList (List.replicate 63 undefA), (.seq (.seqR [⟨.move, [.const (.int .i64 20)], (some 6), none⟩])
 (.seq (.seqR [⟨.move, [.tmp 6], (some 10), none⟩,
 ⟨.move, [.const (.int .i64 0)], (some 7), none⟩,
 ⟨.move, [.tmp 10], (some 8), none⟩])
 (.seq (.block 0 (.loop (.seq (.seq (.seqR [⟨.move, [.tmp 8], (some 11), none⟩,
 ⟨.move, [.tmp 1], (some 12), none⟩,
 ⟨(.bin .leq), [.tmp 11, .tmp 12], (some 13), none⟩])
 (.cond (.tmp 13) .skip
 (.exit 0)))
 (.block 1 (.seq (.seqR [⟨.move, [.tmp 0], (some 14), none⟩,
 ⟨.move, [.tmp 7], (some 15), none⟩,
 ⟨.move, [.tmp 8], (some 16), none⟩,
 ⟨.move, [.tmp 2], (some 17), none⟩,
 ⟨(.callF 57), [.tmp 14, .tmp 15, .tmp 16, .tmp 17], (some 18), none⟩])
 (.seq (.seqR [⟨.move, [.tmp 8], (some 19), none⟩,
 ⟨.move, [.tmp 19], (some 7), none⟩])
 (.seqR [⟨.move, [.tmp 8], (some 20), none⟩,
 ⟨.move, [.tmp 6], (some 21), none⟩,
 ⟨(.bin .add), [.tmp 20, .tmp 21], (some 22), none⟩,
 ⟨.move, [.tmp 22], (some 8), none⟩])))))))
 (.seq (.seqR [⟨.move, [.tmp 0], (some 23), none⟩,
 ⟨.move, [.tmp 7], (some 24), none⟩,
 ⟨.move, [.tmp 1], (some 25), none⟩,
 ⟨.move, [.tmp 2], (some 26), none⟩,
 ⟨(.callF 57), [.tmp 23, .tmp 24, .tmp 25, .tmp 26], (some 27), none⟩])
 (.block 2 (.loop (.seq (.seq (.seqR [⟨.move, [.tmp 6], (some 28), none⟩,
 ⟨.move, [.tmp 1], (some 29), none⟩,
 ⟨(.bin .lss), [.tmp 28, .tmp 29], (some 30), none⟩])
 (.cond (.tmp 30) .skip
 (.exit 2)))
 (.block 3 (.seq (.seqR [⟨.move, [.tmp 6], (some 31), none⟩,
 ⟨(.bin .mul), [.const (.int .i64 2), .tmp 31], (some 32), none⟩,
 ⟨.move, [.const (.int .i64 0)], (some 7), none⟩,
 ⟨.move, [.tmp 32], (some 8), none⟩])
 (.seq (.block 4 (.loop (.seq (.seq (.seqR [⟨.move, [.tmp 8], (some 33), none⟩,
 ⟨.move, [.tmp 1], (some 34), none⟩,
 ⟨(.bin .leq), [.tmp 33, .tmp 34], (some 35), none⟩])
 (.cond (.tmp 35) .skip
 (.exit 4)))
 (.block 5 (.seq (.seqR [⟨.move, [.tmp 0], (some 36), none⟩,
 ⟨.move, [.tmp 7], (some 37), none⟩,
 ⟨.move, [.tmp 7], (some 38), none⟩,
 ⟨.move, [.tmp 6], (some 39), none⟩,
 ⟨(.bin .add), [.tmp 38, .tmp 39], (some 40), none⟩,
 ⟨.move, [.tmp 8], (some 41), none⟩,
 ⟨.move, [.tmp 2], (some 42), none⟩,
 ⟨(.callF 58), [.tmp 36, .tmp 37, .tmp 40, .tmp 41, .tmp 42], (some 43), none⟩])
 (.seq (.seqR [⟨.move, [.tmp 8], (some 44), none⟩,
 ⟨.move, [.tmp 44], (some 7), none⟩])
 (.seqR [⟨.move, [.tmp 8], (some 45), none⟩,
 ⟨.move, [.tmp 6], (some 46), none⟩,
 ⟨(.bin .mul), [.const (.int .i64 2), .tmp 46], (some 47), none⟩,
 ⟨(.bin .add), [.tmp 45, .tmp 47], (some 48), none⟩,
 ⟨.move, [.tmp 48], (some 8), none⟩])))))))
 (.seq (.seq (.seqR [⟨.move, [.tmp 7], (some 49), none⟩,
 ⟨.move, [.tmp 6], (some 50), none⟩,
 ⟨(.bin .add), [.tmp 49, .tmp 50], (some 51), none⟩,
 ⟨.move, [.tmp 51], (some 9), none⟩])
 (.seq (.seqR [⟨.move, [.tmp 9], (some 52), none⟩,
 ⟨.move, [.tmp 1], (some 53), none⟩,
 ⟨(.bin .lss), [.tmp 52, .tmp 53], (some 54), none⟩])
 (.cond (.tmp 54) (.seqR [⟨.move, [.tmp 0], (some 55), none⟩,
 ⟨.move, [.tmp 7], (some 56), none⟩,
 ⟨.move, [.tmp 9], (some 57), none⟩,
 ⟨.move, [.tmp 1], (some 58), none⟩,
 ⟨.move, [.tmp 2], (some 59), none⟩,
 ⟨(.callF 58), [.tmp 55, .tmp 56, .tmp 57, .tmp 58, .tmp 59], (some 60), none⟩])
 .skip)))
 (.seqR [⟨.move, [.tmp 6], (some 61), none⟩,
 ⟨(.bin .mul), [.tmp 61, .const (.int .i64 2)], (some 62), none⟩,
 ⟨.move, [.tmp 62], (some 6), none⟩])))))))))))), []⟩
theorem c37_ok : compFunc Try.prog Try.f37 = some c37 := by kernel_rfl
theorem c37_body : hasBody Try.prog 37 = true := hasBody_of Try.func37 (by kernel_rfl)
/-- slices.insertionSortCmpFunc[coachyard/bag.deed] -/
def c38 : PFn := ⟨53, Tr.ofList (List.replicate 53 undefA), (.seq (.seqR [⟨.move, [.tmp 1], (some 10), none⟩,
 ⟨(.bin .add), [.tmp 10, .const (.int .i64 1)], (some 11), none⟩,
 ⟨.move, [.tmp 11], (some 8), none⟩])
 (.block 0 (.loop (.seq (.seq (.seqR [⟨.move, [.tmp 8], (some 12), none⟩,
 ⟨.move, [.tmp 2], (some 13), none⟩,
 ⟨(.bin .lss), [.tmp 12, .tmp 13], (some 14), none⟩])
 (.cond (.tmp 14) .skip
 (.exit 0)))
 (.seq (.block 1 (.seq (.seqR [⟨.move, [.tmp 8], (some 17), none⟩,
 ⟨.move, [.tmp 17], (some 9), none⟩])
 (.block 2 (.loop (.seq (.seq (.drawR [⟨⟨.move, [.tmp 9], (some 18), none⟩, false, false, 0, 0⟩,
 ⟨⟨.move, [.tmp 1], (some 19), none⟩, false, false, 0, 0⟩,
 ⟨⟨(.bin .gtr), [.tmp 18, .tmp 19], (some 20), none⟩, false, false, 0, 0⟩,
 ⟨⟨.move, [.tmp 20], (some 21), none⟩, false, false, 0, 0⟩,
 ⟨⟨.move, [.tmp 3], (some 22), some (21, true)⟩, false, false, 0, 0⟩,
 ⟨⟨.move, [.tmp 0], (some 23), some (21, true)⟩, false, false, 0, 0⟩,
 ⟨⟨.move, [.tmp 9], (some 24), some (21, true)⟩, false, false, 0, 0⟩,
 ⟨⟨(.indexAddrS 3), [.tmp 23, .tmp 24], (some 25), some (21, true)⟩, false, false, 0, 0⟩,
 ⟨⟨(.load true 3), [.tmp 25], (some 26), some (21, true)⟩, false, false, 0, 0⟩,
 ⟨⟨.move, [.tmp 0], (some 27), some (21, true)⟩, false, false, 0, 0⟩,
 ⟨⟨.move, [.tmp 9], (some 28), some (21, true)⟩, false, false, 0, 0⟩,
 ⟨⟨(.bin .sub), [.tmp 28, .const (.int .i64 1)], (some 29), some (21, true)⟩, false, false, 0, 0⟩,
 ⟨⟨(.indexAddrS 3), [.tmp 27, .tmp 29], (some 30), some (21, true)⟩, false, false, 0, 0⟩,
 ⟨⟨(.load true 3), [.tmp 30], (some 31), some (21, true)⟩, false, false, 0, 0⟩,
 ⟨⟨.callV, [.tmp 22, .tmp 26, .tmp 31], (some 32), some (21, true)⟩, true, false, 0, 1⟩,
 ⟨⟨(.bin .lss), [.tmp 32, .const (.int .i64 0)], (some 33), some (21, true)⟩, false, false, 1, 1⟩,
 ⟨⟨.pick, [.tmp 21, .tmp 33, .const (.bool false)], (some 34), none⟩, false, false, 1, 1⟩])
 (.cond (.tmp 34) .skip
 (.exit 2)))
 (.seq (.block 3 (.drawR [⟨⟨.move, [.tmp 0], (some 37), none⟩, false, false, 0, 0⟩,
 ⟨⟨.move, [.tmp 9], (some 38), none⟩, false, false, 0, 0⟩,
 ⟨⟨.move, [.tmp 0], (some 39), none⟩, false, false, 0, 1⟩,
 ⟨⟨.move, [.tmp 9], (some 40), none⟩, false, false, 0, 1⟩,
 ⟨⟨(.bin .sub), [.tmp 40, .const (.int .i64 1)], (some 41), none⟩, false, false, 0, 1⟩,
 ⟨⟨.move, [.tmp 0], (some 42), none⟩, false, false, 0, 0⟩,
 ⟨⟨.move, [.tmp 9], (some 43), none⟩, false, false, 0, 0⟩,
 ⟨⟨(.bin .sub), [.tmp 43, .const (.int .i64 1)], (some 44), none⟩, false, false, 0, 0⟩,
 ⟨⟨(.indexAddrS 3), [.tmp 42, .tmp 44], (some 45), none⟩, false, false, 0, 0⟩,
 ⟨⟨(.load true 3), [.tmp 45], (some 46), none⟩, false, false, 0, 0⟩,
 ⟨⟨.move, [.tmp 0], (some 47), none⟩, false, false, 0, 0⟩,
 ⟨⟨.move, [.tmp 9], (some 48), none⟩, false, false, 0, 0⟩,
 ⟨⟨(.indexAddrS 3), [.tmp 47, .tmp 48], (some 49), none⟩, false, false, 0, 0⟩,
 ⟨⟨(.load true 3), [.tmp 49], (some 50), none⟩, false, false, 0, 0⟩,
 ⟨⟨(.indexAddrS 3), [.tmp 37, .tmp 38], (some 51), none⟩, false, false, 0, 0⟩,
 ⟨⟨(.store 3), [.tmp 51, .tmp 46], none, none⟩, true, false, 0, 1⟩,
 ⟨⟨(.indexAddrS 3), [.tmp 39, .tmp 41], (some 52), none⟩, false, false, 1, 1⟩,
 ⟨⟨(.store 3), [.tmp 52, .tmp 50], none, none⟩, true, false, 1, 2⟩]))
 (.seqR [⟨.move, [.tmp 9], (some 35), none⟩,
 ⟨(.bin .sub), [.tmp 35, .const (.int .i64 1)], (some 36), none⟩,
 ⟨.move, [.tmp 36], (some 9), none⟩])))))))
 (.seqR [⟨.move, [.tmp 8], (some 15), none⟩,
 ⟨(.bin .add), [.tmp 15, .const (.int .i64 1)], (some 16), none⟩,
 ⟨.move, [.tmp 16], (some 8), none⟩])))))), []⟩
theorem c38_ok : compFunc Try.prog Try.f38 = some c38 := by kernel_rfl
theorem c38_body : hasBody Try.prog 38 = true := hasBody_of Try.func38 (by kernel_rfl)
/-- slices.heapSortCmpFunc[coachyard/bag.deed] -/
def c39 : PFn := ⟨60, Tr.ofList (List.replicate 60 undefA), (.seq (.seqR [⟨.move, [.tmp 1], (some 13), none⟩,
 ⟨.move, [.tmp 13], (some 8), none⟩])
 (.seq (.seqR [⟨.move, [.const (.int .i64 0)], (some 9), none⟩])
 (.seq (.seqR [⟨.move, [.tmp 2], (some 14), none⟩,
 ⟨.move, [.tmp 1], (some 15), none⟩,
 ⟨(.bin .sub), [.tmp 14, .tmp 15], (some 16), none⟩,
 ⟨.move, [.tmp 16], (some 10), none⟩])
 (.seq (.seq (.seqR [⟨.move, [.tmp 10], (some 17), none⟩,
 ⟨(.bin .sub), [.tmp 17, .const (.int .i64 1)], (some 18), none⟩,
 ⟨(.bin .quo), [.tmp 18, .const (.int .i64 2)], (some 19), none⟩,
 ⟨.move, [.tmp 19], (some 11), none⟩])
 (.block 0 (.loop (.seq (.seq (.seqR [⟨.move, [.tmp 11], (some 20), none⟩,
 ⟨(.bin .geq), [.tmp 20, .const (.int .i64 0)], (some 21), none⟩])
 (.cond (.tmp 21) .skip
 (.exit 0)))
 (.seq (.block 1 (.seqR [⟨.move, [.tmp 0], (some 24), none⟩,
 ⟨.move, [.tmp 11], (some 25), none⟩,
 ⟨.move, [.tmp 10], (some 26), none⟩,
 ⟨.move, [.tmp 8], (some 27), none⟩,
 ⟨.move, [.tmp 3], (some 28), none⟩,
 ⟨(.callF 59), [.tmp 24, .tmp 25, .tmp 26, .tmp 27, .tmp 28], (some 29), none⟩]))
 (.seqR [⟨.move, [.tmp 11], (some 22), none⟩,
 ⟨(.bin .sub), [.tmp 22, .const (.int .i64 1)], (some 23), none⟩,
 ⟨.move, [.tmp 23], (some 11), none⟩]))))))
 (.seq (.seqR [⟨.move, [.tmp 10], (some 30), none⟩,
 ⟨(.bin .sub), [.tmp 30, .const (.int .i64 1)], (some 31), none⟩,
 ⟨.move, [.tmp 31], (some 12), none⟩])
 (.block 2 (.loop (.seq (.seq (.seqR [⟨.move, [.tmp 12], (some 32), none⟩,
 ⟨(.bin .geq), [.tmp 32, .const (.int .i64 0)], (some 33), none⟩])
 (.cond (.tmp 33) .skip
 (.exit 2)))
 (.seq (.block 3 (.seq (.drawR [⟨⟨.move, [.tmp 0], (some 36), none⟩, false, false, 0, 0⟩,
 ⟨⟨.move, [.tmp 8], (some 37), none⟩, false, false, 0, 0⟩,
 ⟨⟨.move, [.tmp 0], (some 38), none⟩, false, false, 0, 1⟩,
 ⟨⟨.move, [.tmp 8], (some 39), none⟩, false, false, 0, 1⟩,
 ⟨⟨.move, [.tmp 12], (some 40), none⟩, false, false, 0, 1⟩,
 ⟨⟨(.bin .add), [.tmp 39, .tmp 40], (some 41), none⟩, false, false, 0, 1⟩,
 ⟨⟨.move, [.tmp 0], (some 42), none⟩, false, false, 0, 0⟩,
 ⟨⟨.move, [.tmp 8], (some 43), none⟩, false, false, 0, 0⟩,
 ⟨⟨.move, [.tmp 12], (some 44), none⟩, false, false, 0, 0⟩,
 ⟨⟨(.bin .add), [.tmp 43, .tmp 44], (some 45), none⟩, false, false, 0, 0⟩,
 ⟨⟨(.indexAddrS 3), [.tmp 42, .tmp 45], (some 46), none⟩, false, false, 0, 0⟩,
 ⟨⟨(.load true 3), [.tmp 46], (some 47), none⟩, false, false, 0, 0⟩,
 ⟨⟨.move, [.tmp 0], (some 48), none⟩, false, false, 0, 0⟩,
 ⟨⟨.move, [.tmp 8], (some 49), none⟩, false, false, 0, 0⟩,
 ⟨⟨(.indexAddrS 3), [.tmp 48, .tmp 49], (some 50), none⟩, false, false, 0, 0⟩,
 ⟨⟨(.load true 3), [.tmp 50], (some 51), none⟩, false, false, 0, 0⟩,
 ⟨⟨(.indexAddrS 3), [.tmp 36, .tmp 37], (some 52), none⟩, false, false, 0, 0⟩,
 ⟨⟨(.store 3), [.tmp 52, .tmp 47], none, none⟩, true, false, 0, 1⟩,
 ⟨⟨(.indexAddrS 3), [.tmp 38, .tmp 41], (some 53), none⟩, false, false, 1, 1⟩,
 ⟨⟨(.store 3), [.tmp 53, .tmp 51], none, none⟩, true, false, 1, 2⟩])
 (.seqR [⟨.move, [.tmp 0], (some 54), none⟩,
 ⟨.move, [.tmp 9], (some 55), none⟩,
 ⟨.move, [.tmp 12], (some 56), none⟩,
 ⟨.move, [.tmp 8], (some 57), none⟩,
 ⟨.move, [.tmp 3], (some 58), none⟩,
 ⟨(.callF 59), [.tmp 54, .tmp 55, .tmp 56, .tmp 57, .tmp 58], (some 59), none⟩])))
 (.seqR [⟨.move, [.tmp 12], (some 34), none⟩,
 ⟨(.bin .sub), [.tmp 34, .const (.int .i64 1)], (some 35), none⟩,
 ⟨.move, [.tmp 35], (some 12), none⟩])))))))))), []⟩
theorem c39_ok : compFunc Try.prog Try.f39 = some c39 := by kernel_rfl
theorem c39_body : hasBody Try.prog 39 = true := hasBody_of Try.func39 (by kernel_rfl)
/-- slices.breakPatternsCmpFunc[coachyard/bag.deed] -/
def c40 : PFn := ⟨67, Tr.ofList (List.replicate 67 undefA), (.seq (.seqR [⟨.move, [.tmp 2], (some 13), none⟩,
 ⟨.move, [.tmp 1], (some 14), none⟩,
 ⟨(.bin .sub), [.tmp 13, .tmp 14], (some 15), none⟩,
 ⟨.move, [.tmp 15], (some 8), none⟩])
 (.seq (.seqR [⟨.move, [.tmp 8], (some 16), none⟩,
 ⟨(.bin .geq), [.tmp 16, .const (.int .i64 8)], (some 17), none⟩])
 (.cond (.tmp 17) (.seq (.seqR [⟨.move, [.tmp 8], (some 18), none⟩,
 ⟨(.conv .u64), [.tmp 18], (some 19), none⟩,
 ⟨(.new [(.int .u64 0)]), [], (some 9), none⟩,
 ⟨(.store 1), [.tmp 9, .tmp 19], none, none⟩])
 (.seq (.seqR [⟨.move, [.tmp 8], (some 20), none⟩,
 ⟨(.callF 60), [.tmp 20], (some 21), none⟩,
 ⟨.move, [.tmp 21], (some 10), none⟩])
 (.seq (.seqR [⟨.move, [.tmp 1], (some 22), none⟩,
 ⟨.move, [.tmp 8], (some 23), none⟩,
 ⟨(.bin .quo), [.tmp 23, .const (.int .i64 4)], (some 24), none⟩,
 ⟨(.bin .mul), [.tmp 24, .const (.int .i64 2)], (some 25), none⟩,
 ⟨(.bin .add), [.tmp 22, .tmp 25], (some 26), none⟩,
 ⟨(.bin .sub), [.tmp 26, .const (.int .i64 1)], (some 27), none⟩,
 ⟨.move, [.tmp 27], (some 11), none⟩])
 (.block 0 (.loop (.seq (.seq (.seqR [⟨.move, [.tmp 11], (some 28), none⟩,
 ⟨.move, [.tmp 1], (some 29), none⟩,
 ⟨.move, [.tmp 8], (some 30), none⟩,
 ⟨(.bin .quo), [.tmp 30, .const (.int .i64 4)], (some 31), none⟩,
 ⟨(.bin .mul), [.tmp 31, .const (.int .i64 2)], (some 32), none⟩,
 ⟨(.bin .add), [.tmp 29, .tmp 32], (some 33), none⟩,
 ⟨(.bin .add), [.tmp 33, .const (.int .i64 1)], (some 34), none⟩,
 ⟨(.bin .leq), [.tmp 28, .tmp 34], (some 35), none⟩])
 (.cond (.tmp 35) .skip
 (.exit 0)))
 (.seq (.block 1 (.seq (.seqR [⟨(.callF 61), [.tmp 9], (some 38), none⟩,
 ⟨.move, [.tmp 10], (some 39), none⟩,
 ⟨(.bin .sub), [.tmp 39, .const (.int .u64 1)], (some 40), none⟩,
 ⟨(.bin .and), [.tmp 38, .tmp 40], (some 41), none⟩,
 ⟨(.conv .i64), [.tmp 41], (some 42), none⟩,
 ⟨.move, [.tmp 42], (some 12), none⟩])
 (.seq (.seq (.seqR [⟨.move, [.tmp 12], (some 43), none⟩,
 ⟨.move, [.tmp 8], (some 44), none⟩,
 ⟨(.bin .geq), [.tmp 43, .tmp 44], (some 45), none⟩])
 (.cond (.tmp 45) (.seqR [⟨.move, [.tmp 12], (some 46), none⟩,
 ⟨.move, [.tmp 8], (some 47), none⟩,
 ⟨(.bin .sub), [.tmp 46, .tmp 47], (some 48), none⟩,
 ⟨.move, [.tmp 48], (some 12), none⟩])
 .skip))
 (.drawR [⟨⟨.move, [.tmp 0], (some 49), none⟩, false, false, 0, 0⟩,
 ⟨⟨.move, [.tmp 11], (some 50), none⟩, false, false, 0, 0⟩,
 ⟨⟨.move, [.tmp 0], (some 51), none⟩, false, false, 0, 1⟩,
 ⟨⟨.move, [.tmp 1], (some 52), none⟩, false, false, 0, 1⟩,
 ⟨⟨.move, [.tmp 12], (some 53), none⟩, false, false, 0, 1⟩,
 ⟨⟨(.bin .add), [.tmp 52, .tmp 53], (some 54), none⟩, false, false, 0, 1⟩,
 ⟨⟨.move, [.tmp 0], (some 55), none⟩, false, false, 0, 0⟩,
 ⟨⟨.move, [.tmp 1], (some 56), none⟩, false, false, 0, 0⟩,
 ⟨⟨.move, [.tmp 12], (some 57), none⟩, false, false, 0, 0⟩,
 ⟨⟨(.bin .add), [.tmp 56, .tmp 57], (some 58), none⟩, false, false, 0, 0⟩,
 ⟨⟨(.indexAddrS 3), [.tmp 55, .tmp 58], (some 59), none⟩, false, false, 0, 0⟩,
 ⟨⟨(.load true 3), [.tmp 59], (some 60), none⟩, false, false, 0, 0⟩,
 ⟨⟨.move, [.tmp 0], (some 61), none⟩, false, false, 0, 0⟩,
 ⟨⟨.move, [.tmp 11], (some 62), none⟩, false, false, 0, 0⟩,
 ⟨⟨(.indexAddrS 3), [.tmp 61, .tmp 62], (some 63), none⟩, false, false, 0, 0⟩,
 ⟨⟨(.load true 3), [.tmp 63], (some 64), none⟩, false, false, 0, 0⟩,
 ⟨⟨(.indexAddrS 3), [.tmp 49, .tmp 50], (some 65), none⟩, false, false, 0, 0⟩,
 ⟨⟨(.store 3), [.tmp 65, .tmp 60], none, none⟩, true, false, 0, 1⟩,
 ⟨⟨(.indexAddrS 3), [.tmp 51, .tmp 54], (some 66), none⟩, false, false, 1, 1⟩,
 ⟨⟨(.store 3), [.tmp 66, .tmp 64], none, none⟩, true, false, 1, 2⟩]))))
 (.seqR [⟨.move, [.tmp 11], (some 36), none⟩,
 ⟨(.bin .add), [.tmp 36, .const (.int .i64 1)], (some 37), none⟩,
 ⟨.move, [.tmp 37], (some 11), none⟩]))))))))
 .skip))), []⟩
theorem c40_ok : compFunc Try.prog Try.f40 = some c40 := by kernel_rfl
theorem c40_body : hasBody Try.prog 40 = true := hasBody_of Try.func40 (by kernel_rfl)
/-- slices.choosePivotCmpFunc[coachyard/bag.deed] -/
def c41 : PFn := ⟨63, Tr.ofList (List.replicate 63 undefA), (.seq (.seqR [⟨.move, [.const (.int .i64 0)], (some 8), none⟩,
 ⟨.move, [.const (.int .i64 0)], (some 9), none⟩])
 (.seq (.seqR [⟨.move, [.tmp 2], (some 15), none⟩,
 ⟨.move, [.tmp 1], (some 16), none⟩,
 ⟨(.bin .sub), [.tmp 15, .tmp 16], (some 17), none⟩,
 ⟨.move, [.tmp 17], (some 10), none⟩])
 (.seq (.seqR [⟨(.new [(.int .i64 0)]), [], (some 11), none⟩])
 (.seq (.seqR [⟨.move, [.tmp 1], (some 18), none⟩,
 ⟨.move, [.tmp 10], (some 19), none⟩,
 ⟨(.bin .quo), [.tmp 19, .const (.int .i64 4)], (some 20), none⟩,
 ⟨(.bin .mul), [.tmp 20, .const (.int .i64 1)], (some 21), none⟩,
 ⟨(.bin .add), [.tmp 18, .tmp 21], (some 22), none⟩,
 ⟨.move, [.tmp 22], (some 12), none⟩])
 (.seq (.seqR [⟨.move, [.tmp 1], (some 23), none⟩,
 ⟨.move, [.tmp 10], (some 24), none⟩,
 ⟨(.bin .quo), [.tmp 24, .const (.int .i64 4)], (some 25), none⟩,
 ⟨(.bin .mul), [.tmp 25, .const (.int .i64 2)], (some 26), none⟩,
 ⟨(.bin .add), [.tmp 23, .tmp 26], (some 27), none⟩,
 ⟨.move, [.tmp 27], (some 13), none⟩])
 (.seq (.seqR [⟨.move, [.tmp 1], (some 28), none⟩,
 ⟨.move, [.tmp 10], (some 29), none⟩,
 ⟨(.bin .quo), [.tmp 29, .const (.int .i64 4)], (some 30), none⟩,
 ⟨(.bin .mul), [.tmp 30, .const (.int .i64 3)], (some 31), none⟩,
 ⟨(.bin .add), [.tmp 28, .tmp 31], (some 32), none⟩,
 ⟨.move, [.tmp 32], (some 14), none⟩])
 (.seq (.seq (.seqR [⟨.move, [.tmp 10], (some 33), none⟩,
 ⟨(.bin .geq), [.tmp 33, .const (.int .i64 8)], (some 34), none⟩])
 (.cond (.tmp 34) (.seq (.seq (.seqR [⟨.move, [.tmp 10], (some 35), none⟩,
 ⟨(.bin .geq), [.tmp 35, .const (.int .i64 50)], (some 36), none⟩])
 (.cond (.tmp 36) (.seq (.seqR [⟨.move, [.tmp 0], (some 37), none⟩,
 ⟨.move, [.tmp 12], (some 38), none⟩,
 ⟨.move, [.tmp 3], (some 39), none⟩,
 ⟨(.callF 62), [.tmp 37, .tmp 38, .tmp 11, .tmp 39], (some 40), none⟩,
 ⟨.move, [.tmp 40], (some 12), none⟩])
 (.seq (.seqR [⟨.move, [.tmp 0], (some 41), none⟩,
 ⟨.move, [.tmp 13], (some 42), none⟩,
 ⟨.move, [.tmp 3], (some 43), none⟩,
 ⟨(.callF 62), [.tmp 41, .tmp 42, .tmp 11, .tmp 43], (some 44), none⟩,
 ⟨.move, [.tmp 44], (some 13), none⟩])
 (.seqR [⟨.move, [.tmp 0], (some 45), none⟩,
 ⟨.move, [.tmp 14], (some 46), none⟩,
 ⟨.move, [.tmp 3], (some 47), none⟩,
 ⟨(.callF 62), [.tmp 45, .tmp 46, .tmp 11, .tmp 47], (some 48), none⟩,
 ⟨.move, [.tmp 48], (some 14), none⟩])))
 .skip))
 (.seqR [⟨.move, [.tmp 0], (some 49), none⟩,
 ⟨.move, [.tmp 12], (some 50), none⟩,
 ⟨.move, [.tmp 13], (some 51), none⟩,
 ⟨.move, [.tmp 14], (some 52), none⟩,
 ⟨.move, [.tmp 3], (some 53), none⟩,
 ⟨(.callF 63), [.tmp 49, .tmp 50, .tmp 51, .tmp 52, .tmp 11, .tmp 53], (some 54), none⟩,
 ⟨.move, [.tmp 54], (some 13), none⟩]))
 .skip))
 (.seq (.seqR [⟨(.load false 1), [.tmp 11], (some 55), none⟩])
 (.block 0 (.seq (.seqR [⟨(.bin .eql), [.tmp 55, .const (.int .i64 0)], (some 58), none⟩,
 ⟨.move, [.tmp 58], (some 57), none⟩])
 (.cond (.tmp 57) (.seq (.seqR [⟨.move, [.tmp 13], (some 59), none⟩,
 ⟨.move, [.tmp 59], (some 8), none⟩,
 ⟨.move, [.const (.int .i64 1)], (some 9), none⟩])
 .ret)
 (.seq (.seqR [⟨(.bin .eql), [.tmp 55, .const (.int .i64 12)], (some 61), none⟩,
 ⟨.move, [.tmp 61], (some 60), none⟩])
 (.cond (.tmp 60) (.seq (.seqR [⟨.move, [.tmp 13], (some 62), none⟩,
 ⟨.move, [.tmp 62], (some 8), none⟩,
 ⟨.move, [.const (.int .i64 2)], (some 9), none⟩])
 .ret)
 (.seq (.seqR [⟨.move, [.tmp 13], (some 56), none⟩,
 ⟨.move, [.tmp 56], (some 8), none⟩,
 ⟨.move, [.const (.int .i64 0)], (some 9), none⟩])
 .ret)))))))))))))), [.tmp 8, .tmp 9]⟩
theorem c41_ok : compFunc Try.prog Try.f41 = some c41 := by kernel_rfl
theorem c41_body : hasBody Try.prog 41 = true := hasBody_of Try.func41 (by kernel_rfl)
/-- slices.reverseRangeCmpFunc[coachyard/bag.deed] -/
def c42 : PFn := ⟨34, Tr.ofList (List.replicate 34 undefA), (.seq (.seqR [⟨.move, [.tmp 1], (some 10), none⟩,
 ⟨.move, [.tmp 10], (some 8), none⟩])
 (.seq (.seqR [⟨.move, [.tmp 2], (some 11), none⟩,
 ⟨(.bin .sub), [.tmp 11, .const (.int .i64 1)], (some 12), none⟩,
 ⟨.move, [.tmp 12], (some 9), none⟩])
 (.block 0 (.loop (.seq (.seq (.seqR [⟨.move, [.tmp 8], (some 13), none⟩,
 ⟨.move, [.tmp 9], (some 14), none⟩,
 ⟨(.bin .lss), [.tmp 13, .tmp 14], (some 15), none⟩])
 (.cond (.tmp 15) .skip
 (.exit 0)))
 (.block 1 (.seq (.drawR [⟨⟨.move, [.tmp 0], (some 16), none⟩, false, false, 0, 0⟩,
 ⟨⟨.move, [.tmp 8], (some 17), none⟩, false, false, 0, 0⟩,
 ⟨⟨.move, [.tmp 0], (some 18), none⟩, false, false, 0, 1⟩,
 ⟨⟨.move, [.tmp 9], (some 19), none⟩, false, false, 0, 1⟩,
 ⟨⟨.move, [.tmp 0], (some 20), none⟩, false, false, 0, 0⟩,
 ⟨⟨.move, [.tmp 9], (some 21), none⟩, false, false, 0, 0⟩,
 ⟨⟨(.indexAddrS 3), [.tmp 20, .tmp 21], (some 22), none⟩, false, false, 0, 0⟩,
 ⟨⟨(.load true 3), [.tmp 22], (some 23), none⟩, false, false, 0, 0⟩,
 ⟨⟨.move, [.tmp 0], (some 24), none⟩, false, false, 0, 0⟩,
 ⟨⟨.move, [.tmp 8], (some 25), none⟩, false, false, 0, 0⟩,
 ⟨⟨(.indexAddrS 3), [.tmp 24, .tmp 25], (some 26), none⟩, false, false, 0, 0⟩,
 ⟨⟨(.load true 3), [.tmp 26], (some 27), none⟩, false, false, 0, 0⟩,
 ⟨⟨(.indexAddrS 3), [.tmp 16, .tmp 17], (some 28), none⟩, false, false, 0, 0⟩,
 ⟨⟨(.store 3), [.tmp 28, .tmp 23], none, none⟩, true, false, 0, 1⟩,
 ⟨⟨(.indexAddrS 3), [.tmp 18, .tmp 19], (some 29), none⟩, false, false, 1, 1⟩,
 ⟨⟨(.store 3), [.tmp 29, .tmp 27], none, none⟩, true, false, 1, 2⟩])
 (.seq (.seqR [⟨.move, [.tmp 8], (some 30), none⟩,
 ⟨(.bin .add), [.tmp 30, .const (.int .i64 1)], (some 31), none⟩,
 ⟨.move, [.tmp 31], (some 8), none⟩])
 (.seqR [⟨.move, [.tmp 9], (some 32), none⟩,
 ⟨(.bin .sub), [.tmp 32, .const (.int .i64 1)], (some 33), none⟩,
 ⟨.move, [.tmp 33], (some 9), none⟩]))))))))), []⟩
theorem c42_ok : compFunc Try.prog Try.f42 = some c42 := by kernel_rfl
theorem c42_body : hasBody Try.prog 42 = true := hasBody_of Try.func42 (by kernel_rfl)
/-- slices.partialInsertionSortCmpFunc[coachyard/bag.deed] -/
def c43 : PFn := ⟨141, Tr.ofList (List.replicate 141 undefA), (.seq (.seqR [⟨.move, [.const (.bool false)], (some 8), none⟩])
 (.seq (.seqR [⟨.move, [.tmp 1], (some 13), none⟩,
 ⟨(.bin .add), [.tmp 13, .const (.int .i64 1)], (some 14), none⟩,
 ⟨.move, [.tmp 14], (some 9), none⟩])
 (.seq (.seq (.seqR [⟨.move, [.const (.int .i64 0)], (some 10), none⟩])
 (.block 0 (.loop (.seq (.seq (.seqR [⟨.move, [.tmp 10], (some 15), none⟩,
 ⟨(.bin .lss), [.tmp 15, .const (.int .i64 5)], (some 16), none⟩])
 (.cond (.tmp 16) .skip
 (.exit 0)))
 (.seq (.block 1 (.seq (.block 2 (.loop (.seq (.seq (.drawR [⟨⟨.move, [.tmp 9], (some 19), none⟩, false, false, 0, 0⟩,
 ⟨⟨.move, [.tmp 2], (some 20), none⟩, false, false, 0, 0⟩,
 ⟨⟨(.bin .lss), [.tmp 19, .tmp 20], (some 21), none⟩, false, false, 0, 0⟩,
 ⟨⟨.move, [.tmp 21], (some 22), none⟩, false, false, 0, 0⟩,
 ⟨⟨.move, [.tmp 3], (some 23), some (22, true)⟩, false, false, 0, 0⟩,
 ⟨⟨.move, [.tmp 0], (some 24), some (22, true)⟩, false, false, 0, 0⟩,
 ⟨⟨.move, [.tmp 9], (some 25), some (22, true)⟩, false, false, 0, 0⟩,
 ⟨⟨(.indexAddrS 3), [.tmp 24, .tmp 25], (some 26), some (22, true)⟩, false, false, 0, 0⟩,
 ⟨⟨(.load true 3), [.tmp 26], (some 27), some (22, true)⟩, false, false, 0, 0⟩,
 ⟨⟨.move, [.tmp 0], (some 28), some (22, true)⟩, false, false, 0, 0⟩,
 ⟨⟨.move, [.tmp 9], (some 29), some (22, true)⟩, false, false, 0, 0⟩,
 ⟨⟨(.bin .sub), [.tmp 29, .const (.int .i64 1)], (some 30), some (22, true)⟩, false, false, 0, 0⟩,
 ⟨⟨(.indexAddrS 3), [.tmp 28, .tmp 30], (some 31), some (22, true)⟩, false, false, 0, 0⟩,
 ⟨⟨(.load true 3), [.tmp 31], (some 32), some (22, true)⟩, false, false, 0, 0⟩,
 ⟨⟨.callV, [.tmp 23, .tmp 27, .tmp 32], (some 33), some (22, true)⟩, true, false, 0, 1⟩,
 ⟨⟨(.bin .lss), [.tmp 33, .const (.int .i64 0)], (some 34), some (22, true)⟩, false, false, 1, 1⟩,
 ⟨⟨.not, [.tmp 34], (some 35), some (22, true)⟩, false, false, 1, 1⟩,
 ⟨⟨.pick, [.tmp 22, .tmp 35, .const (.bool false)], (some 36), none⟩, false, false, 1, 1⟩])
 (.cond (.tmp 36) .skip
 (.exit 2)))
 (.block 3 (.seqR [⟨.move, [.tmp 9], (some 37), none⟩,
 ⟨(.bin .add), [.tmp 37, .const (.int .i64 1)], (some 38), none⟩,
 ⟨.move, [.tmp 38], (some 9), none⟩])))))
 (.seq (.seq (.seqR [⟨.move, [.tmp 9], (some 39), none⟩,
 ⟨.move, [.tmp 2], (some 40), none⟩,
 ⟨(.bin .eql), [.tmp 39, .tmp 40], (some 41), none⟩])
 (.cond (.tmp 41) (.seq (.seqR [⟨.move, [.const (.bool true)], (some 8), none⟩])
 .ret)
 .skip))
 (.seq (.seq (.seqR [⟨.move, [.tmp 2], (some 42), none⟩,
 ⟨.move, [.tmp 1], (some 43), none⟩,
 ⟨(.bin .sub), [.tmp 42, .tmp 43], (some 44), none⟩,
 ⟨(.bin .lss), [.tmp 44, .const (.int .i64 50)], (some 45), none⟩])
 (.cond (.tmp 45) (.seq (.seqR [⟨.move, [.const (.bool false)], (some 8), none⟩])
 .ret)
 .skip))
 (.seq (.drawR [⟨⟨.move, [.tmp 0], (some 46), none⟩, false, false, 0, 0⟩,
 ⟨⟨.move, [.tmp 9], (some 47), none⟩, false, false, 0, 0⟩,
 ⟨⟨.move, [.tmp 0], (some 48), none⟩, false, false, 0, 1⟩,
 ⟨⟨.move, [.tmp 9], (some 49), none⟩, false, false, 0, 1⟩,
 ⟨⟨(.bin .sub), [.tmp 49, .const (.int .i64 1)], (some 50), none⟩, false, false, 0, 1⟩,
 ⟨⟨.move, [.tmp 0], (some 51), none⟩, false, false, 0, 0⟩,
 ⟨⟨.move, [.tmp 9], (some 52), none⟩, false, false, 0, 0⟩,
 ⟨⟨(.bin .sub), [.tmp 52, .const (.int .i64 1)], (some 53), none⟩, false, false, 0, 0⟩,
 ⟨⟨(.indexAddrS 3), [.tmp 51, .tmp 53], (some 54), none⟩, false, false, 0, 0⟩,
 ⟨⟨(.load true 3), [.tmp 54], (some 55), none⟩, false, false, 0, 0⟩,
 ⟨⟨.move, [.tmp 0], (some 56), none⟩, false, false, 0, 0⟩,
 ⟨⟨.move, [.tmp 9], (some 57), none⟩, false, false, 0, 0⟩,
 ⟨⟨(.indexAddrS 3), [.tmp 56, .tmp 57], (some 58), none⟩, false, false, 0, 0⟩,
 ⟨⟨(.load true 3), [.tmp 58], (some 59), none⟩, false, false, 0, 0⟩,
 ⟨⟨(.indexAddrS 3), [.tmp 46, .tmp 47], (some 60), none⟩, false, false, 0, 0⟩,
 ⟨⟨(.store 3), [.tmp 60, .tmp 55], none, none⟩, true, false, 0, 1⟩,
 ⟨⟨(.indexAddrS 3), [.tmp 48, .tmp 50], (some 61), none⟩, false, false, 1, 1⟩,
 ⟨⟨(.store 3), [.tmp 61, .tmp 59], none, none⟩, true, false, 1, 2⟩])
 (.seq (.seq (.seqR [⟨.move, [.tmp 9], (some 62), none⟩,
 ⟨.move, [.tmp 1], (some 63), none⟩,
 ⟨(.bin .sub), [.tmp 62, .tmp 63], (some 64), none⟩,
 ⟨(.bin .geq), [.tmp 64, .const (.int .i64 2)], (some 65), none⟩])
 (.cond (.tmp 65) (.seq (.seqR [⟨.move, [.tmp 9], (some 66), none⟩,
 ⟨(.bin .sub), [.tmp 66, .const (.int .i64 1)], (some 67), none⟩,
 ⟨.move, [.tmp 67], (some 11), none⟩])
 (.block 4 (.loop (.seq (.seq (.seqR [⟨.move, [.tmp 11], (some 68), none⟩,
 ⟨(.bin .geq), [.tmp 68, .const (.int .i64 1)], (some 69), none⟩])
 (.cond (.tmp 69) .skip
 (.exit 4)))
 (.seq (.block 5 (.seq (.seq (.drawR [⟨⟨.move, [.tmp 3], (some 72), none⟩, false, false, 0, 0⟩,
 ⟨⟨.move, [.tmp 0], (some 73), none⟩, false, false, 0, 0⟩,
 ⟨⟨.move, [.tmp 11], (some 74), none⟩, false, false, 0, 0⟩,
 ⟨⟨(.indexAddrS 3), [.tmp 73, .tmp 74], (some 75), none⟩, false, false, 0, 0⟩,
 ⟨⟨(.load true 3), [.tmp 75], (some 76), none⟩, false, false, 0, 0⟩,
 ⟨⟨.move, [.tmp 0], (some 77), none⟩, false, false, 0, 0⟩,
 ⟨⟨.move, [.tmp 11], (some 78), none⟩, false, false, 0, 0⟩,
 ⟨⟨(.bin .sub), [.tmp 78, .const (.int .i64 1)], (some 79), none⟩, false, false, 0, 0⟩,
 ⟨⟨(.indexAddrS 3), [.tmp 77, .tmp 79], (some 80), none⟩, false, false, 0, 0⟩,
 ⟨⟨(.load true 3), [.tmp 80], (some 81), none⟩, false, false, 0, 0⟩,
 ⟨⟨.callV, [.tmp 72, .tmp 76, .tmp 81], (some 82), none⟩, true, false, 0, 1⟩,
 ⟨⟨(.bin .lss), [.tmp 82, .const (.int .i64 0)], (some 83), none⟩, false, false, 1, 1⟩,
 ⟨⟨.not, [.tmp 83], (some 84), none⟩, false, false, 1, 1⟩])
 (.cond (.tmp 84) (.exit 4)
 .skip))
 (.drawR [⟨⟨.move, [.tmp 0], (some 85), none⟩, false, false, 0, 0⟩,
 ⟨⟨.move, [.tmp 11], (some 86), none⟩, false, false, 0, 0⟩,
 ⟨⟨.move, [.tmp 0], (some 87), none⟩, false, false, 0, 1⟩,
 ⟨⟨.move, [.tmp 11], (some 88), none⟩, false, false, 0, 1⟩,
 ⟨⟨(.bin .sub), [.tmp 88, .const (.int .i64 1)], (some 89), none⟩, false, false, 0, 1⟩,
 ⟨⟨.move, [.tmp 0], (some 90), none⟩, false, false, 0, 0⟩,
 ⟨⟨.move, [.tmp 11], (some 91), none⟩, false, false, 0, 0⟩,
 ⟨⟨(.bin .sub), [.tmp 91, .const (.int .i64 1)], (some 92), none⟩, false, false, 0, 0⟩,
 ⟨⟨(.indexAddrS 3), [.tmp 90, .tmp 92], (some 93), none⟩, false, false, 0, 0⟩,
 ⟨⟨(.load true 3), [.tmp 93], (some 94), none⟩, false, false, 0, 0⟩,
 ⟨⟨.move, [.tmp 0], (some 95), none⟩, false, false, 0, 0⟩,
 ⟨⟨.move, [.tmp 11], (some 96), none⟩, false, false, 0, 0⟩,
 ⟨⟨(.indexAddrS 3), [.tmp 95, .tmp 96], (some 97), none⟩, false, false, 0, 0⟩,
 ⟨⟨(.load true 3), [.tmp 97], (some 98), none⟩, false, false, 0, 0⟩,
 ⟨⟨(.indexAddrS 3), [.tmp 85, .tmp 86], (some 99), none⟩, false, false, 0, 0⟩,
 ⟨⟨(.store 3), [.tmp 99, .tmp 94], none, none⟩, true, false, 0, 1⟩,
 ⟨⟨(.indexAddrS 3), [.tmp 87, .tmp 89], (some 100), none⟩, false, false, 1, 1⟩,
 ⟨⟨(.store 3), [.tmp 100, .tmp 98], none, none⟩, true, false, 1, 2⟩])))
 (.seqR [⟨.move, [.tmp 11], (some 70), none⟩,
 ⟨(.bin .sub), [.tmp 70, .const (.int .i64 1)], (some 71), none⟩,
 ⟨.move, [.tmp 71], (some 11), none⟩]))))))
 .skip))
 (.seq (.seqR [⟨.move, [.tmp 2], (some 101), none⟩,
 ⟨.move, [.tmp 9], (some 102), none⟩,
 ⟨(.bin .sub), [.tmp 101, .tmp 102], (some 103), none⟩,
 ⟨(.bin .geq), [.tmp 103, .const (.int .i64 2)], (some 104), none⟩])
 (.cond (.tmp 104) (.seq (.seqR [⟨.move, [.tmp 9], (some 105), none⟩,
 ⟨(.bin .add), [.tmp 105, .const (.int .i64 1)], (some 106), none⟩,
 ⟨.move, [.tmp 106], (some 12), none⟩])
 (.block 6 (.loop (.seq (.seq (.seqR [⟨.move, [.tmp 12], (some 107), none⟩,
 ⟨.move, [.tmp 2], (some 108), none⟩,
 ⟨(.bin .lss), [.tmp 107, .tmp 108], (some 109), none⟩])
 (.cond (.tmp 109) .skip
 (.exit 6)))
 (.seq (.block 7 (.seq (.seq (.drawR [⟨⟨.move, [.tmp 3], (some 112), none⟩, false, false, 0, 0⟩,
 ⟨⟨.move, [.tmp 0], (some 113), none⟩, false, false, 0, 0⟩,
 ⟨⟨.move, [.tmp 12], (some 114), none⟩, false, false, 0, 0⟩,
 ⟨⟨(.indexAddrS 3), [.tmp 113, .tmp 114], (some 115), none⟩, false, false, 0, 0⟩,
 ⟨⟨(.load true 3), [.tmp 115], (some 116), none⟩, false, false, 0, 0⟩,
 ⟨⟨.move, [.tmp 0], (some 117), none⟩, false, false, 0, 0⟩,
 ⟨⟨.move, [.tmp 12], (some 118), none⟩, false, false, 0, 0⟩,
 ⟨⟨(.bin .sub), [.tmp 118, .const (.int .i64 1)], (some 119), none⟩, false, false, 0, 0⟩,
 ⟨⟨(.indexAddrS 3), [.tmp 117, .tmp 119], (some 120), none⟩, false, false, 0, 0⟩,
 ⟨⟨(.load true 3), [.tmp 120], (some 121), none⟩, false, false, 0, 0⟩,
 ⟨⟨.callV, [.tmp 112, .tmp 116, .tmp 121], (some 122), none⟩, true, false, 0, 1⟩,
 ⟨⟨(.bin .lss), [.tmp 122, .const (.int .i64 0)], (some 123), none⟩, false, false, 1, 1⟩,
 ⟨⟨.not, [.tmp 123], (some 124), none⟩, false, false, 1, 1⟩])
 (.cond (.tmp 124) (.exit 6)
 .skip))
 (.drawR [⟨⟨.move, [.tmp 0], (some 125), none⟩, false, false, 0, 0⟩,
 ⟨⟨.move, [.tmp 12], (some 126), none⟩, false, false, 0, 0⟩,
 ⟨⟨.move, [.tmp 0], (some 127), none⟩, false, false, 0, 1⟩,
 ⟨⟨.move, [.tmp 12], (some 128), none⟩, false, false, 0, 1⟩,
 ⟨⟨(.bin .sub), [.tmp 128, .const (.int .i64 1)], (some 129), none⟩, false, false, 0, 1⟩,
 ⟨⟨.move, [.tmp 0], (some 130), none⟩, false, false, 0, 0⟩,
 ⟨⟨.move, [.tmp 12], (some 131), none⟩, false, false, 0, 0⟩,
 ⟨⟨(.bin .sub), [.tmp 131, .const (.int .i64 1)], (some 132), none⟩, false, false, 0, 0⟩,
 ⟨⟨(.indexAddrS 3), [.tmp 130, .tmp 132], (some 133), none⟩, false, false, 0, 0⟩,
 ⟨⟨(.load true 3), [.tmp 133], (some 134), none⟩, false, false, 0, 0⟩,
 ⟨⟨.move, [.tmp 0], (some 135), none⟩, false, false, 0, 0⟩,
 ⟨⟨.move, [.tmp 12], (some 136), none⟩, false, false, 0, 0⟩,
 ⟨⟨(.indexAddrS 3), [.tmp 135, .tmp 136], (some 137), none⟩, false, false, 0, 0⟩,
 ⟨⟨(.load true 3), [.tmp 137], (some 138), none⟩, false, false, 0, 0⟩,
 ⟨⟨(.indexAddrS 3), [.tmp 125, .tmp 126], (some 139), none⟩, false, false, 0, 0⟩,
 ⟨⟨(.store 3), [.tmp 139, .tmp 134], none, none⟩, true, false, 0, 1⟩,
 ⟨⟨(.indexAddrS 3), [.tmp 127, .tmp 129], (some 140), none⟩, false, false, 1, 1⟩,
 ⟨⟨(.store 3), [.tmp 140, .tmp 138], none, none⟩, true, false, 1, 2⟩])))
 (.seqR [⟨.move, [.tmp 12], (some 110), none⟩,
 ⟨(.bin .add), [.tmp 110, .const (.int .i64 1)], (some 111), none⟩,
 ⟨.move, [.tmp 111], (some 12), none⟩]))))))
 .skip))))))))
 (.seqR [⟨.move, [.tmp 10], (some 17), none⟩,
 ⟨(.bin .add), [.tmp 17, .const (.int .i64 1)], (some 18), none⟩,
 ⟨.move, [.tmp 18], (some 10), none⟩]))))))
 (.seq (.seqR [⟨.move, [.const (.bool false)], (some 8), none⟩])
 .ret)))), [.tmp 8]⟩
theorem c43_ok : compFunc Try.prog Try.f43 = some c43 := by kernel_rfl
theorem c43_body : hasBody Try.prog 43 = true := hasBody_of Try.func43 (by kernel_rfl)
/-- slices.partitionEqualCmpFunc[coachyard/bag.deed] -/
def c44 : PFn := ⟨90, Tr.ofList (List.replicate 90 undefA), (.seq (.seqR [⟨.move, [.const (.int .i64 0)], (some 10), none⟩])
 (.seq (.drawR [⟨⟨.move, [.tmp 0], (some 13), none⟩, false, false, 0, 0⟩,
 ⟨⟨.move, [.tmp 1], (some 14), none⟩, false, false, 0, 0⟩,
 ⟨⟨.move, [.tmp 0], (some 15), none⟩, false, false, 0, 1⟩,
 ⟨⟨.move, [.tmp 3], (some 16), none⟩, false, false, 0, 1⟩,
 ⟨⟨.move, [.tmp 0], (some 17), none⟩, false, false, 0, 0⟩,
 ⟨⟨.move, [.tmp 3], (some 18), none⟩, false, false, 0, 0⟩,
 ⟨⟨(.indexAddrS 3), [.tmp 17, .tmp 18], (some 19), none⟩, false, false, 0, 0⟩,
 ⟨⟨(.load true 3), [.tmp 19], (some 20), none⟩, false, false, 0, 0⟩,
 ⟨⟨.move, [.tmp 0], (some 21), none⟩, false, false, 0, 0⟩,
 ⟨⟨.move, [.tmp 1], (some 22), none⟩, false, false, 0, 0⟩,
 ⟨⟨(.indexAddrS 3), [.tmp 21, .tmp 22], (some 23), none⟩, false, false, 0, 0⟩,
 ⟨⟨(.load true 3), [.tmp 23], (some 24), none⟩, false, false, 0, 0⟩,
 ⟨⟨(.indexAddrS 3), [.tmp 13, .tmp 14], (some 25), none⟩, false, false, 0, 0⟩,
 ⟨⟨(.store 3), [.tmp 25, .tmp 20], none, none⟩, true, false, 0, 1⟩,
 ⟨⟨(.indexAddrS 3), [.tmp 15, .tmp 16], (some 26), none⟩, false, false, 1, 1⟩,
 ⟨⟨(.store 3), [.tmp 26, .tmp 24], none, none⟩, true, false, 1, 2⟩])
 (.seq (.seqR [⟨.move, [.tmp 1], (some 27), none⟩,
 ⟨(.bin .add), [.tmp 27, .const (.int .i64 1)], (some 28), none⟩,
 ⟨.move, [.tmp 2], (some 29), none⟩,
 ⟨(.bin .sub), [.tmp 29, .const (.int .i64 1)], (some 30), none⟩,
 ⟨.move, [.tmp 28], (some 11), none⟩,
 ⟨.move, [.tmp 30], (some 12), none⟩])
 (.seq (.block 0 (.loop (.block 1 (.seq (.block 2 (.loop (.seq (.seq (.drawR [⟨⟨.move, [.tmp 11], (some 31), none⟩, false, false, 0, 0⟩,
 ⟨⟨.move, [.tmp 12], (some 32), none⟩, false, false, 0, 0⟩,
 ⟨⟨(.bin .leq), [.tmp 31, .tmp 32], (some 33), none⟩, false, false, 0, 0⟩,
 ⟨⟨.move, [.tmp 33], (some 34), none⟩, false, false, 0, 0⟩,
 ⟨⟨.move, [.tmp 4], (some 35), some (34, true)⟩, false, false, 0, 0⟩,
 ⟨⟨.move, [.tmp 0], (some 36), some (34, true)⟩, false, false, 0, 0⟩,
 ⟨⟨.move, [.tmp 1], (some 37), some (34, true)⟩, false, false, 0, 0⟩,
 ⟨⟨(.indexAddrS 3), [.tmp 36, .tmp 37], (some 38), some (34, true)⟩, false, false, 0, 0⟩,
 ⟨⟨(.load true 3), [.tmp 38], (some 39), some (34, true)⟩, false, false, 0, 0⟩,
 ⟨⟨.move, [.tmp 0], (some 40), some (34, true)⟩, false, false, 0, 0⟩,
 ⟨⟨.move, [.tmp 11], (some 41), some (34, true)⟩, false, false, 0, 0⟩,
 ⟨⟨(.indexAddrS 3), [.tmp 40, .tmp 41], (some 42), some (34, true)⟩, false, false, 0, 0⟩,
 ⟨⟨(.load true 3), [.tmp 42], (some 43), some (34, true)⟩, false, false, 0, 0⟩,
 ⟨⟨.callV, [.tmp 35, .tmp 39, .tmp 43], (some 44), some (34, true)⟩, true, false, 0, 1⟩,
 ⟨⟨(.bin .lss), [.tmp 44, .const (.int .i64 0)], (some 45), some (34, true)⟩, false, false, 1, 1⟩,
 ⟨⟨.not, [.tmp 45], (some 46), some (34, true)⟩, false, false, 1, 1⟩,
 ⟨⟨.pick, [.tmp 34, .tmp 46, .const (.bool false)], (some 47), none⟩, false, false, 1, 1⟩])
 (.cond (.tmp 47) .skip
 (.exit 2)))
 (.block 3 (.seqR [⟨.move, [.tmp 11], (some 48), none⟩,
 ⟨(.bin .add), [.tmp 48, .const (.int .i64 1)], (some 49), none⟩,
 ⟨.move, [.tmp 49], (some 11), none⟩])))))
 (.seq (.block 4 (.loop (.seq (.seq (.drawR [⟨⟨.move, [.tmp 11], (some 50), none⟩, false, false, 0, 0⟩,
 ⟨⟨.move, [.tmp 12], (some 51), none⟩, false, false, 0, 0⟩,
 ⟨⟨(.bin .leq), [.tmp 50, .tmp 51], (some 52), none⟩, false, false, 0, 0⟩,
 ⟨⟨.move, [.tmp 52], (some 53), none⟩, false, false, 0, 0⟩,
 ⟨⟨.move, [.tmp 4], (some 54), some (53, true)⟩, false, false, 0, 0⟩,
 ⟨⟨.move, [.tmp 0], (some 55), some (53, true)⟩, false, false, 0, 0⟩,
 ⟨⟨.move, [.tmp 1], (some 56), some (53, true)⟩, false, false, 0, 0⟩,
 ⟨⟨(.indexAddrS 3), [.tmp 55, .tmp 56], (some 57), some (53, true)⟩, false, false, 0, 0⟩,
 ⟨⟨(.load true 3), [.tmp 57], (some 58), some (53, true)⟩, false, false, 0, 0⟩,
 ⟨⟨.move, [.tmp 0], (some 59), some (53, true)⟩, false, false, 0, 0⟩,
 ⟨⟨.move, [.tmp 12], (some 60), some (53, true)⟩, false, false, 0, 0⟩,
 ⟨⟨(.indexAddrS 3), [.tmp 59, .tmp 60], (some 61), some (53, true)⟩, false, false, 0, 0⟩,
 ⟨⟨(.load true 3), [.tmp 61], (some 62), some (53, true)⟩, false, false, 0, 0⟩,
 ⟨⟨.callV, [.tmp 54, .tmp 58, .tmp 62], (some 63), some (53, true)⟩, true, false, 0, 1⟩,
 ⟨⟨(.bin .lss), [.tmp 63, .const (.int .i64 0)], (some 64), some (53, true)⟩, false, false, 1, 1⟩,
 ⟨⟨.pick, [.tmp 53, .tmp 64, .const (.bool false)], (some 65), none⟩, false, false, 1, 1⟩])
 (.cond (.tmp 65) .skip
 (.exit 4)))
 (.block 5 (.seqR [⟨.move, [.tmp 12], (some 66), none⟩,
 ⟨(.bin .sub), [.tmp 66, .const (.int .i64 1)], (some 67), none⟩,
 ⟨.move, [.tmp 67], (some 12), none⟩])))))
 (.seq (.seq (.seqR [⟨.move, [.tmp 11], (some 68), none⟩,
 ⟨.move, [.tmp 12], (some 69), none⟩,
 ⟨(.bin .gtr), [.tmp 68, .tmp 69], (some 70), none⟩])
 (.cond (.tmp 70) (.exit 0)
 .skip))
 (.seq (.drawR [⟨⟨.move, [.tmp 0], (some 71), none⟩, false, false, 0, 0⟩,
 ⟨⟨.move, [.tmp 11], (some 72), none⟩, false, false, 0, 0⟩,
 ⟨⟨.move, [.tmp 0], (some 73), none⟩, false, false, 0, 1⟩,
 ⟨⟨.move, [.tmp 12], (some 74), none⟩, false, false, 0, 1⟩,
 ⟨⟨.move, [.tmp 0], (some 75), none⟩, false, false, 0, 0⟩,
 ⟨⟨.move, [.tmp 12], (some 76), none⟩, false, false, 0, 0⟩,
 ⟨⟨(.indexAddrS 3), [.tmp 75, .tmp 76], (some 77), none⟩, false, false, 0, 0⟩,
 ⟨⟨(.load true 3), [.tmp 77], (some 78), none⟩, false, false, 0, 0⟩,
 ⟨⟨.move, [.tmp 0], (some 79), none⟩, false, false, 0, 0⟩,
 ⟨⟨.move, [.tmp 11], (some 80), none⟩, false, false, 0, 0⟩,
 ⟨⟨(.indexAddrS 3), [.tmp 79, .tmp 80], (some 81), none⟩, false, false, 0, 0⟩,
 ⟨⟨(.load true 3), [.tmp 81], (some 82), none⟩, false, false, 0, 0⟩,
 ⟨⟨(.indexAddrS 3), [.tmp 71, .tmp 72], (some 83), none⟩, false, false, 0, 0⟩,
 ⟨⟨(.store 3), [.tmp 83, .tmp 78], none, none⟩, true, false, 0, 1⟩,
 ⟨⟨(.indexAddrS 3), [.tmp 73, .tmp 74], (some 84), none⟩, false, false, 1, 1⟩,
 ⟨⟨(.store 3), [.tmp 84, .tmp 82], none, none⟩, true, false, 1, 2⟩])
 (.seq (.seqR [⟨.move, [.tmp 11], (some 85), none⟩,
 ⟨(.bin .add), [.tmp 85, .const (.int .i64 1)], (some 86), none⟩,
 ⟨.move, [.tmp 86], (some 11), none⟩])
 (.seqR [⟨.move, [.tmp 12], (some 87), none⟩,
 ⟨(.bin .sub), [.tmp 87, .const (.int .i64 1)], (some 88), none⟩,
 ⟨.move, [.tmp 88], (some 12), none⟩])))))))))
 (.seq (.seqR [⟨.move, [.tmp 11], (some 89), none⟩,
 ⟨.move, [.tmp 89], (some 10), none⟩])
 .ret))))), [.tmp 10]⟩
theorem c44_ok : compFunc Try.prog Try.f44 = some c44 := by kernel_rfl
theorem c44_body : hasBody Try.prog 44 = true := hasBody_of Try.func44 (by kernel_rfl)
/-- slices.partitionCmpFunc[coachyard/bag.deed] -/
def c45 : PFn := ⟨178, Tr.ofList (List.replicate 178 undefA), (.seq (.seqR [⟨.move, [.const (.int .i64 0)], (some 10), none⟩,
 ⟨.move, [.const (.bool false)], (some 11), none⟩])
 (.seq (.drawR [⟨⟨.move, [.tmp 0], (some 14), none⟩, false, false, 0, 0⟩,
 ⟨⟨.move, [.tmp 1], (some 15), none⟩, false, false, 0, 0⟩,
 ⟨⟨.move, [.tmp 0], (some 16), none⟩, false, false, 0, 1⟩,
 ⟨⟨.move, [.tmp 3], (some 17), none⟩, false, false, 0, 1⟩,
 ⟨⟨.move, [.tmp 0], (some 18), none⟩, false, false, 0, 0⟩,
 ⟨⟨.move, [.tmp 3], (some 19), none⟩, false, false, 0, 0⟩,
 ⟨⟨(.indexAddrS 3), [.tmp 18, .tmp 19], (some 20), none⟩, false, false, 0, 0⟩,
 ⟨⟨(.load true 3), [.tmp 20], (some 21), none⟩, false, false, 0, 0⟩,
 ⟨⟨.move, [.tmp 0], (some 22), none⟩, false, false, 0, 0⟩,
 ⟨⟨.move, [.tmp 1], (some 23), none⟩, false, false, 0, 0⟩,
 ⟨⟨(.indexAddrS 3), [.tmp 22, .tmp 23], (some 24), none⟩, false, false, 0, 0⟩,
 ⟨⟨(.load true 3), [.tmp 24], (some 25), none⟩, false, false, 0, 0⟩,
 ⟨⟨(.indexAddrS 3), [.tmp 14, .tmp 15], (some 26), none⟩, false, false, 0, 0⟩,
 ⟨⟨(.store 3), [.tmp 26, .tmp 21], none, none⟩, true, false, 0, 1⟩,
 ⟨⟨(.indexAddrS 3), [.tmp 16, .tmp 17], (some 27), none⟩, false, false, 1, 1⟩,
 ⟨⟨(.store 3), [.tmp 27, .tmp 25], none, none⟩, true, false, 1, 2⟩])
 (.seq (.seqR [⟨.move, [.tmp 1], (some 28), none⟩,
 ⟨(.bin .add), [.tmp 28, .const (.int .i64 1)], (some 29), none⟩,
 ⟨.move, [.tmp 2], (some 30), none⟩,
 ⟨(.bin .sub), [.tmp 30, .const (.int .i64 1)], (some 31), none⟩,
 ⟨.move, [.tmp 29], (some 12), none⟩,
 ⟨.move, [.tmp 31], (some 13), none⟩])
 (.seq (.block 0 (.loop (.seq (.seq (.drawR [⟨⟨.move, [.tmp 12], (some 32), none⟩, false, false, 0, 0⟩,
 ⟨⟨.move, [.tmp 13], (some 33), none⟩, false, false, 0, 0⟩,
 ⟨⟨(.bin .leq), [.tmp 32, .tmp 33], (some 34), none⟩, false, false, 0, 0⟩,
 ⟨⟨.move, [.tmp 34], (some 35), none⟩, false, false, 0, 0⟩,
 ⟨⟨.move, [.tmp 4], (some 36), some (35, true)⟩, false, false, 0, 0⟩,
 ⟨⟨.move, [.tmp 0], (some 37), some (35, true)⟩, false, false, 0, 0⟩,
 ⟨⟨.move, [.tmp 12], (some 38), some (35, true)⟩, false, false, 0, 0⟩,
 ⟨⟨(.indexAddrS 3), [.tmp 37, .tmp 38], (some 39), some (35, true)⟩, false, false, 0, 0⟩,
 ⟨⟨(.load true 3), [.tmp 39], (some 40), some (35, true)⟩, false, false, 0, 0⟩,
 ⟨⟨.move, [.tmp 0], (some 41), some (35, true)⟩, false, false, 0, 0⟩,
 ⟨⟨.move, [.tmp 1], (some 42), some (35, true)⟩, false, false, 0, 0⟩,
 ⟨⟨(.indexAddrS 3), [.tmp 41, .tmp 42], (some 43), some (35, true)⟩, false, false, 0, 0⟩,
 ⟨⟨(.load true 3), [.tmp 43], (some 44), some (35, true)⟩, false, false, 0, 0⟩,
 ⟨⟨.callV, [.tmp 36, .tmp 40, .tmp 44], (some 45), some (35, true)⟩, true, false, 0, 1⟩,
 ⟨⟨(.bin .lss), [.tmp 45, .const (.int .i64 0)], (some 46), some (35, true)⟩, false, false, 1, 1⟩,
 ⟨⟨.pick, [.tmp 35, .tmp 46, .const (.bool false)], (some 47), none⟩, false, false, 1, 1⟩])
 (.cond (.tmp 47) .skip
 (.exit 0)))
 (.block 1 (.seqR [⟨.move, [.tmp 12], (some 48), none⟩,
 ⟨(.bin .add), [.tmp 48, .const (.int .i64 1)], (some 49), none⟩,
 ⟨.move, [.tmp 49], (some 12), none⟩])))))
 (.seq (.block 2 (.loop (.seq (.seq (.drawR [⟨⟨.move, [.tmp 12], (some 50), none⟩, false, false, 0, 0⟩,
 ⟨⟨.move, [.tmp 13], (some 51), none⟩, false, false, 0, 0⟩,
 ⟨⟨(.bin .leq), [.tmp 50, .tmp 51], (some 52), none⟩, false, false, 0, 0⟩,
 ⟨⟨.move, [.tmp 52], (some 53), none⟩, false, false, 0, 0⟩,
 ⟨⟨.move, [.tmp 4], (some 54), some (53, true)⟩, false, false, 0, 0⟩,
 ⟨⟨.move, [.tmp 0], (some 55), some (53, true)⟩, false, false, 0, 0⟩,
 ⟨⟨.move, [.tmp 13], (some 56), some (53, true)⟩, false, false, 0, 0⟩,
 ⟨⟨(.indexAddrS 3), [.tmp 55, .tmp 56], (some 57), some (53, true)⟩, false, false, 0, 0⟩,
 ⟨⟨(.load true 3), [.tmp 57], (some 58), some (53, true)⟩, false, false, 0, 0⟩,
 ⟨⟨.move, [.tmp 0], (some 59), some (53, true)⟩, false, false, 0, 0⟩,
 ⟨⟨.move, [.tmp 1], (some 60), some (53, true)⟩, false, false, 0, 0⟩,
 ⟨⟨(.indexAddrS 3), [.tmp 59, .tmp 60], (some 61), some (53, true)⟩, false, false, 0, 0⟩,
 ⟨⟨(.load true 3), [.tmp 61], (some 62), some (53, true)⟩, false, false, 0, 0⟩,
 ⟨⟨.callV, [.tmp 54, .tmp 58, .tmp 62], (some 63), some (53, true)⟩, true, false, 0, 1⟩,
 ⟨⟨(.bin .lss), [.tmp 63, .const (.int .i64 0)], (some 64), some (53, true)⟩, false, false, 1, 1⟩,
 ⟨⟨.not, [.tmp 64], (some 65), some (53, true)⟩, false, false, 1, 1⟩,
 ⟨⟨.pick, [.tmp 53, .tmp 65, .const (.bool false)], (some 66), none⟩, false, false, 1, 1⟩])
 (.cond (.tmp 66) .skip
 (.exit 2)))
 (.block 3 (.seqR [⟨.move, [.tmp 13], (some 67), none⟩,
 ⟨(.bin .sub), [.tmp 67, .const (.int .i64 1)], (some 68), none⟩,
 ⟨.move, [.tmp 68], (some 13), none⟩])))))
 (.seq (.seq (.seqR [⟨.move, [.tmp 12], (some 69), none⟩,
 ⟨.move, [.tmp 13], (some 70), none⟩,
 ⟨(.bin .gtr), [.tmp 69, .tmp 70], (some 71), none⟩])
 (.cond (.tmp 71) (.seq (.drawR [⟨⟨.move, [.tmp 0], (some 72), none⟩, false, false, 0, 0⟩,
 ⟨⟨.move, [.tmp 13], (some 73), none⟩, false, false, 0, 0⟩,
 ⟨⟨.move, [.tmp 0], (some 74), none⟩, false, false, 0, 1⟩,
 ⟨⟨.move, [.tmp 1], (some 75), none⟩, false, false, 0, 1⟩,
 ⟨⟨.move, [.tmp 0], (some 76), none⟩, false, false, 0, 0⟩,
 ⟨⟨.move, [.tmp 1], (some 77), none⟩, false, false, 0, 0⟩,
 ⟨⟨(.indexAddrS 3), [.tmp 76, .tmp 77], (some 78), none⟩, false, false, 0, 0⟩,
 ⟨⟨(.load true 3), [.tmp 78], (some 79), none⟩, false, false, 0, 0⟩,
 ⟨⟨.move, [.tmp 0], (some 80), none⟩, false, false, 0, 0⟩,
 ⟨⟨.move, [.tmp 13], (some 81), none⟩, false, false, 0, 0⟩,
 ⟨⟨(.indexAddrS 3), [.tmp 80, .tmp 81], (some 82), none⟩, false, false, 0, 0⟩,
 ⟨⟨(.load true 3), [.tmp 82], (some 83), none⟩, false, false, 0, 0⟩,
 ⟨⟨(.indexAddrS 3), [.tmp 72, .tmp 73], (some 84), none⟩, false, false, 0, 0⟩,
 ⟨⟨(.store 3), [.tmp 84, .tmp 79], none, none⟩, true, false, 0, 1⟩,
 ⟨⟨(.indexAddrS 3), [.tmp 74, .tmp 75], (some 85), none⟩, false, false, 1, 1⟩,
 ⟨⟨(.store 3), [.tmp 85, .tmp 83], none, none⟩, true, false, 1, 2⟩])
 (.seq (.seqR [⟨.move, [.tmp 13], (some 86), none⟩,
 ⟨.move, [.tmp 86], (some 10), none⟩,
 ⟨.move, [.const (.bool true)], (some 11), none⟩])
 .ret))
 .skip))
 (.seq (.drawR [⟨⟨.move, [.tmp 0], (some 87), none⟩, false, false, 0, 0⟩,
 ⟨⟨.move, [.tmp 12], (some 88), none⟩, false, false, 0, 0⟩,
 ⟨⟨.move, [.tmp 0], (some 89), none⟩, false, false, 0, 1⟩,
 ⟨⟨.move, [.tmp 13], (some 90), none⟩, false, false, 0, 1⟩,
 ⟨⟨.move, [.tmp 0], (some 91), none⟩, false, false, 0, 0⟩,
 ⟨⟨.move, [.tmp 13], (some 92), none⟩, false, false, 0, 0⟩,
 ⟨⟨(.indexAddrS 3), [.tmp 91, .tmp 92], (some 93), none⟩, false, false, 0, 0⟩,
 ⟨⟨(.load true 3), [.tmp 93], (some 94), none⟩, false, false, 0, 0⟩,
 ⟨⟨.move, [.tmp 0], (some 95), none⟩, false, false, 0, 0⟩,
 ⟨⟨.move, [.tmp 12], (some 96), none⟩, false, false, 0, 0⟩,
 ⟨⟨(.indexAddrS 3), [.tmp 95, .tmp 96], (some 97), none⟩, false, false, 0, 0⟩,
 ⟨⟨(.load true 3), [.tmp 97], (some 98), none⟩, false, false, 0, 0⟩,
 ⟨⟨(.indexAddrS 3), [.tmp 87, .tmp 88], (some 99), none⟩, false, false, 0, 0⟩,
 ⟨⟨(.store 3), [.tmp 99, .tmp 94], none, none⟩, true, false, 0, 1⟩,
 ⟨⟨(.indexAddrS 3), [.tmp 89, .tmp 90], (some 100), none⟩, false, false, 1, 1⟩,
 ⟨⟨(.store 3), [.tmp 100, .tmp 98], none, none⟩, true, false, 1, 2⟩])
 (.seq (.seqR [⟨.move, [.tmp 12], (some 101), none⟩,
 ⟨(.bin .add), [.tmp 101, .const (.int .i64 1)], (some 102), none⟩,
 ⟨.move, [.tmp 102], (some 12), none⟩])
 (.seq (.seqR [⟨.move, [.tmp 13], (some 103), none⟩,
 ⟨(.bin .sub), [.tmp 103, .const (.int .i64 1)], (some 104), none⟩,
 ⟨.move, [.tmp 104], (some 13), none⟩])
 (.seq (.block 4 (.loop (.block 5 (.seq (.block 6 (.loop (.seq (.seq (.drawR [⟨⟨.move, [.tmp 12], (some 105), none⟩, false, false, 0, 0⟩,
 ⟨⟨.move, [.tmp 13], (some 106), none⟩, false, false, 0, 0⟩,
 ⟨⟨(.bin .leq), [.tmp 105, .tmp 106], (some 107), none⟩, false, false, 0, 0⟩,
 ⟨⟨.move, [.tmp 107], (some 108), none⟩, false, false, 0, 0⟩,
 ⟨⟨.move, [.tmp 4], (some 109), some (108, true)⟩, false, false, 0, 0⟩,
 ⟨⟨.move, [.tmp 0], (some 110), some (108, true)⟩, false, false, 0, 0⟩,
 ⟨⟨.move, [.tmp 12], (some 111), some (108, true)⟩, false, false, 0, 0⟩,
 ⟨⟨(.indexAddrS 3), [.tmp 110, .tmp 111], (some 112), some (108, true)⟩, false, false, 0, 0⟩,
 ⟨⟨(.load true 3), [.tmp 112], (some 113), some (108, true)⟩, false, false, 0, 0⟩,
 ⟨⟨.move, [.tmp 0], (some 114), some (108, true)⟩, false, false, 0, 0⟩,
 ⟨⟨.move, [.tmp 1], (some 115), some (108, true)⟩, false, false, 0, 0⟩,
 ⟨⟨(.indexAddrS 3), [.tmp 114, .tmp 115], (some 116), some (108, true)⟩, false, false, 0, 0⟩,
 ⟨⟨(.load true 3), [.tmp 116], (some 117), some (108, true)⟩, false, false, 0, 0⟩,
 ⟨⟨.callV, [.tmp 109, .tmp 113, .tmp 117], (some 118), some (108, true)⟩, true, false, 0, 1⟩,
 ⟨⟨(.bin .lss), [.tmp 118, .const (.int .i64 0)], (some 119), some (108, true)⟩, false, false, 1, 1⟩,
 ⟨⟨.pick, [.tmp 108, .tmp 119, .const (.bool false)], (some 120), none⟩, false, false, 1, 1⟩])
 (.cond (.tmp 120) .skip
 (.exit 6)))
 (.block 7 (.seqR [⟨.move, [.tmp 12], (some 121), none⟩,
 ⟨(.bin .add), [.tmp 121, .const (.int .i64 1)], (some 122), none⟩,
 ⟨.move, [.tmp 122], (some 12), none⟩])))))
 (.seq (.block 8 (.loop (.seq (.seq (.drawR [⟨⟨.move, [.tmp 12], (some 123), none⟩, false, false, 0, 0⟩,
 ⟨⟨.move, [.tmp 13], (some 124), none⟩, false, false, 0, 0⟩,
 ⟨⟨(.bin .leq), [.tmp 123, .tmp 124], (some 125), none⟩, false, false, 0, 0⟩,
 ⟨⟨.move, [.tmp 125], (some 126), none⟩, false, false, 0, 0⟩,
 ⟨⟨.move, [.tmp 4], (some 127), some (126, true)⟩, false, false, 0, 0⟩,
 ⟨⟨.move, [.tmp 0], (some 128), some (126, true)⟩, false, false, 0, 0⟩,
 ⟨⟨.move, [.tmp 13], (some 129), some (126, true)⟩, false, false, 0, 0⟩,
 ⟨⟨(.indexAddrS 3), [.tmp 128, .tmp 129], (some 130), some (126, true)⟩, false, false, 0, 0⟩,
 ⟨⟨(.load true 3), [.tmp 130], (some 131), some (126, true)⟩, false, false, 0, 0⟩,
 ⟨⟨.move, [.tmp 0], (some 132), some (126, true)⟩, false, false, 0, 0⟩,
 ⟨⟨.move, [.tmp 1], (some 133), some (126, true)⟩, false, false, 0, 0⟩,
 ⟨⟨(.indexAddrS 3), [.tmp 132, .tmp 133], (some 134), some (126, true)⟩, false, false, 0, 0⟩,
 ⟨⟨(.load true 3), [.tmp 134], (some 135), some (126, true)⟩, false, false, 0, 0⟩,
 ⟨⟨.callV, [.tmp 127, .tmp 131, .tmp 135], (some 136), some (126, true)⟩, true, false, 0, 1⟩,
 ⟨⟨(.bin .lss), [.tmp 136, .const (.int .i64 0)], (some 137), some (126, true)⟩, false, false, 1, 1⟩,
 ⟨⟨.not, [.tmp 137], (some 138), some (126, true)⟩, false, false, 1, 1⟩,
 ⟨⟨.pick, [.tmp 126, .tmp 138, .const (.bool false)], (some 139), none⟩, false, false, 1, 1⟩])
 (.cond (.tmp 139) .skip
 (.exit 8)))
 (.block 9 (.seqR [⟨.move, [.tmp 13], (some 140), none⟩,
 ⟨(.bin .sub), [.tmp 140, .const (.int .i64 1)], (some 141), none⟩,
 ⟨.move, [.tmp 141], (some 13), none⟩])))))
 (.seq (.seq (.seqR [⟨.move, [.tmp 12], (some 142), none⟩,
 ⟨.move, [.tmp 13], (some 143), none⟩,
 ⟨(.bin .gtr), [.tmp 142, .tmp 143], (some 144), none⟩])
 (.cond (.tmp 144) (.exit 4)
 .skip))
 (.seq (.drawR [⟨⟨.move, [.tmp 0], (some 145), none⟩, false, false, 0, 0⟩,
 ⟨⟨.move, [.tmp 12], (some 146), none⟩, false, false, 0, 0⟩,
 ⟨⟨.move, [.tmp 0], (some 147), none⟩, false, false, 0, 1⟩,
 ⟨⟨.move, [.tmp 13], (some 148), none⟩, false, false, 0, 1⟩,
 ⟨⟨.move, [.tmp 0], (some 149), none⟩, false, false, 0, 0⟩,
 ⟨⟨.move, [.tmp 13], (some 150), none⟩, false, false, 0, 0⟩,
 ⟨⟨(.indexAddrS 3), [.tmp 149, .tmp 150], (some 151), none⟩, false, false, 0, 0⟩,
 ⟨⟨(.load true 3), [.tmp 151], (some 152), none⟩, false, false, 0, 0⟩,
 ⟨⟨.move, [.tmp 0], (some 153), none⟩, false, false, 0, 0⟩,
 ⟨⟨.move, [.tmp 12], (some 154), none⟩, false, false, 0, 0⟩,
 ⟨⟨(.indexAddrS 3), [.tmp 153, .tmp 154], (some 155), none⟩, false, false, 0, 0⟩,
 ⟨⟨(.load true 3), [.tmp 155], (some 156), none⟩, false, false, 0, 0⟩,
 ⟨⟨(.indexAddrS 3), [.tmp 145, .tmp 146], (some 157), none⟩, false, false, 0, 0⟩,
 ⟨⟨(.store 3), [.tmp 157, .tmp 152], none, none⟩, true, false, 0, 1⟩,
 ⟨⟨(.indexAddrS 3), [.tmp 147, .tmp 148], (some 158), none⟩, false, false, 1, 1⟩,
 ⟨⟨(.store 3), [.tmp 158, .tmp 156], none, none⟩, true, false, 1, 2⟩])
 (.seq (.seqR [⟨.move, [.tmp 12], (some 159), none⟩,
 ⟨(.bin .add), [.tmp 159, .const (.int .i64 1)], (some 160), none⟩,
 ⟨.move, [.tmp 160], (some 12), none⟩])
 (.seqR [⟨.move, [.tmp 13], (some 161), none⟩,
 ⟨(.bin .sub), [.tmp 161, .const (.int .i64 1)], (some 162), none⟩,
 ⟨.move, [.tmp 162], (some 13), none⟩])))))))))
 (.seq (.drawR [⟨⟨.move, [.tmp 0], (some 163), none⟩, false, false, 0, 0⟩,
 ⟨⟨.move, [.tmp 13], (some 164), none⟩, false, false, 0, 0⟩,
 ⟨⟨.move, [.tmp 0], (some 165), none⟩, false, false, 0, 1⟩,
 ⟨⟨.move, [.tmp 1], (some 166), none⟩, false, false, 0, 1⟩,
 ⟨⟨.move, [.tmp 0], (some 167), none⟩, false, false, 0, 0⟩,
 ⟨⟨.move, [.tmp 1], (some 168), none⟩, false, false, 0, 0⟩,
 ⟨⟨(.indexAddrS 3), [.tmp 167, .tmp 168], (some 169), none⟩, false, false, 0, 0⟩,
 ⟨⟨(.load true 3), [.tmp 169], (some 170), none⟩, false, false, 0, 0⟩,
 ⟨⟨.move, [.tmp 0], (some 171), none⟩, false, false, 0, 0⟩,
 ⟨⟨.move, [.tmp 13], (some 172), none⟩, false, false, 0, 0⟩,
 ⟨⟨(.indexAddrS 3), [.tmp 171, .tmp 172], (some 173), none⟩, false, false, 0, 0⟩,
 ⟨⟨(.load true 3), [.tmp 173], (some 174), none⟩, false, false, 0, 0⟩,
 ⟨⟨(.indexAddrS 3), [.tmp 163, .tmp 164], (some 175), none⟩, false, false, 0, 0⟩,
 ⟨⟨(.store 3), [.tmp 175, .tmp 170], none, none⟩, true, false, 0, 1⟩,
 ⟨⟨(.indexAddrS 3), [.tmp 165, .tmp 166], (some 176), none⟩, false, false, 1, 1⟩,
 ⟨⟨(.store 3), [.tmp 176, .tmp 174], none, none⟩, true, false, 1, 2⟩])
 (.seq (.seqR [⟨.move, [.tmp 13], (some 177), none⟩,
 ⟨.move, [.tmp 177], (some 10), none⟩,
 ⟨.move, [.const (.bool false)], (some 11), none⟩])
 .ret)))))))))))), [.tmp 10, .tmp 11]⟩
theorem c45_ok : compFunc Try.prog Try.f45 = some c45 := by kernel_rfl
theorem c45_body : hasBody Try.prog 45 = true := hasBody_of Try.func45 (by kernel_rfl)
/-- math/bits.Len32 -/
def c46 : PFn := ⟨19, Tr.ofList (List.replicate 19 undefA), (.seq (.seqR [⟨.move, [.const (.int .i64 0)], (some 2), none⟩])
 (.seq (.seq (.seqR [⟨.move, [.tmp 0], (some 3), none⟩,
 ⟨(.bin .geq), [.tmp 3, .const (.int .u32 65536)], (some 4), none⟩])
 (.cond (.tmp 4) (.seq (.seqR [⟨.move, [.tmp 0], (some 5), none⟩,
 ⟨(.bin .shr), [.tmp 5, .const (.int .u64 16)], (some 6), none⟩,
 ⟨.move, [.tmp 6], (some 0), none⟩])
 (.seqR [⟨.move, [.const (.int .i64 16)], (some 2), none⟩]))
 .skip))
 (.seq (.seq (.seqR [⟨.move, [.tmp 0], (some 7), none⟩,
 ⟨(.bin .geq), [.tmp 7, .const (.int .u32 256)], (some 8), none⟩])
 (.cond (.tmp 8) (.seq (.seqR [⟨.move, [.tmp 0], (some 9), none⟩,
 ⟨(.bin .shr), [.tmp 9, .const (.int .u64 8)], (some 10), none⟩,
 ⟨.move, [.tmp 10], (some 0), none⟩])
 (.seqR [⟨.move, [.tmp 2], (some 11), none⟩,
 ⟨(.bin .add), [.tmp 11, .const (.int .i64 8)], (some 12), none⟩,
 ⟨.move, [.tmp 12], (some 2), none⟩]))
 .skip))
 (.seq (.seqR [⟨.move, [.tmp 2], (some 13), none⟩,
 ⟨.move, [.tmp 0], (some 14), none⟩,
 ⟨(.conv .u8), [.tmp 14], (some 15), none⟩,
 ⟨.indexStr, [.const (.str ⟨#[0, 1, 2, 2, 3, 3, 3, 3, 4, 4, 4, 4, 4, 4, 4, 4, 5, 5, 5, 5, 5, 5, 5, 5, 5, 5, 5, 5, 5, 5, 5, 5, 6, 6, 6, 6, 6, 6, 6, 6, 6, 6, 6, 6, 6, 6, 6, 6, 6, 6, 6, 6, 6, 6, 6, 6, 6, 6, 6, 6, 6, 6, 6, 6, 7, 7, 7, 7, 7, 7, 7, 7, 7, 7, 7, 7, 7, 7, 7, 7, 7, 7, 7, 7, 7, 7, 7, 7, 7, 7, 7, 7, 7, 7, 7, 7, 7, 7, 7, 7, 7, 7, 7, 7, 7, 7, 7, 7, 7, 7, 7, 7, 7, 7, 7, 7, 7, 7, 7, 7, 7, 7, 7, 7, 7, 7, 7, 7, 8, 8, 8, 8, 8, 8, 8, 8, 8, 8, 8, 8, 8, 8, 8, 8, 8, 8, 8, 8, 8, 8, 8, 8, 8, 8, 8, 8, 8, 8, 8, 8, 8, 8, 8, 8, 8, 8, 8, 8, 8, 8, 8, 8, 8, 8, 8, 8, 8, 8, 8, 8, 8, 8, 8, 8, 8, 8, 8, 8, 8, 8, 8, 8, 8, 8, 8, 8, 8, 8, 8, 8, 8, 8, 8, 8, 8, 8, 8, 8, 8, 8, 8, 8, 8, 8, 8, 8, 8, 8, 8, 8, 8, 8, 8, 8, 8, 8, 8, 8, 8, 8, 8, 8, 8, 8, 8, 8, 8, 8, 8, 8, 8, 8, 8, 8, 8, 8, 8, 8, 8, 8, 8, 8, 8, 8, 8, 8]⟩), .tmp 15], (some 16), none⟩,
 ⟨(.conv .i64), [.tmp 16], (some 17), none⟩,
 ⟨(.bin .add), [.tmp 13, .tmp 17], (some 18), none⟩,
 ⟨.move, [.tmp 18], (some 2), none⟩])
 .ret)))), [.tmp 2]⟩
theorem c46_ok : compFunc Try.prog Try.f46 = some c46 := by kernel_rfl
theorem c46_body : hasBody Try.prog 46 = true := hasBody_of Try.func46 (by kernel_rfl)
/-- math/bits.Len64 -/
def c47 : PFn := ⟨25, Tr.ofList (List.replicate 25 undefA), (.seq (.seqR [⟨.move, [.const (.int .i64 0)], (some 2), none⟩])
 (.seq (.seq (.seqR [⟨.move, [.tmp 0], (some 3), none⟩,
 ⟨(.bin .geq), [.tmp 3, .const (.int .u64 4294967296)], (some 4), none⟩])
 (.cond (.tmp 4) (.seq (.seqR [⟨.move, [.tmp 0], (some 5), none⟩,
 ⟨(.bin .shr), [.tmp 5, .const (.int .u64 32)], (some 6), none⟩,
 ⟨.move, [.tmp 6], (some 0), none⟩])
 (.seqR [⟨.move, [.const (.int .i64 32)], (some 2), none⟩]))
 .skip))
 (.seq (.seq (.seqR [⟨.move, [.tmp 0], (some 7), none⟩,
 ⟨(.bin .geq), [.tmp 7, .const (.int .u64 65536)], (some 8), none⟩])
 (.cond (.tmp 8) (.seq (.seqR [⟨.move, [.tmp 0], (some 9), none⟩,
 ⟨(.bin .shr), [.tmp 9, .const (.int .u64 16)], (some 10), none⟩,
 ⟨.move, [.tmp 10], (some 0), none⟩])
 (.seqR [⟨.move, [.tmp 2], (some 11), none⟩,
 ⟨(.bin .add), [.tmp 11, .const (.int .i64 16)], (some 12), none⟩,
 ⟨.move, [.tmp 12], (some 2), none⟩]))
 .skip))
 (.seq (.seq (.seqR [⟨.move, [.tmp 0], (some 13), none⟩,
 ⟨(.bin .geq), [.tmp 13, .const (.int .u64 256)], (some 14), none⟩])
 (.cond (.tmp 14) (.seq (.seqR [⟨.move, [.tmp 0], (some 15), none⟩,
 ⟨(.bin .shr), [.tmp 15, .const (.int .u64 8)], (some 16), none⟩,
 ⟨.move, [.tmp 16], (some 0), none⟩])
 (.seqR [⟨.move, [.tmp 2], (some 17), none⟩,
 ⟨(.bin .add), [.tmp 17, .const (.int .i64 8)], (some 18), none⟩,
 ⟨.move, [.tmp 18], (some 2), none⟩]))
 .skip))
 (.seq (.seqR [⟨.move, [.tmp 2], (some 19), none⟩,
 ⟨.move, [.tmp 0], (some 20), none⟩,
 ⟨(.conv .u8), [.tmp 20], (some 21), none⟩,
 ⟨.indexStr, [.const (.str ⟨#[0, 1, 2, 2, 3, 3, 3, 3, 4, 4, 4, 4, 4, 4, 4, 4, 5, 5, 5, 5, 5, 5, 5, 5, 5, 5, 5, 5, 5, 5, 5, 5, 6, 6, 6, 6, 6, 6, 6, 6, 6, 6, 6, 6, 6, 6, 6, 6, 6, 6, 6, 6, 6, 6, 6, 6, 6, 6, 6, 6, 6, 6, 6, 6, 7, 7, 7, 7, 7, 7, 7, 7, 7, 7, 7, 7, 7, 7, 7, 7, 7, 7, 7, 7, 7, 7, 7, 7, 7, 7, 7, 7, 7, 7, 7, 7, 7, 7, 7, 7, 7, 7, 7, 7, 7, 7, 7, 7, 7, 7, 7, 7, 7, 7, 7, 7, 7, 7, 7, 7, 7, 7, 7, 7, 7, 7, 7, 7, 8, 8, 8, 8, 8, 8, 8, 8, 8, 8, 8, 8, 8, 8, 8, 8, 8, 8, 8, 8, 8, 8, 8, 8, 8, 8, 8, 8, 8, 8, 8, 8, 8, 8, 8, 8, 8, 8, 8, 8, 8, 8, 8, 8, 8, 8, 8, 8, 8, 8, 8, 8, 8, 8, 8, 8, 8, 8, 8, 8, 8, 8, 8, 8, 8, 8, 8, 8, 8, 8, 8, 8, 8, 8, 8, 8, 8, 8, 8, 8, 8, 8, 8, 8, 8, 8, 8, 8, 8, 8, 8, 8, 8, 8, 8, 8, 8, 8, 8, 8, 8, 8, 8, 8, 8, 8, 8, 8, 8, 8, 8, 8, 8, 8, 8, 8, 8, 8, 8, 8, 8, 8, 8, 8, 8, 8, 8, 8]⟩), .tmp 21], (some 22), none⟩,
 ⟨(.conv .i64), [.tmp 22], (some 23), none⟩,
 ⟨(.bin .add), [.tmp 19, .tmp 23], (some 24), none⟩,
 ⟨.move, [.tmp 24], (some 2), none⟩])
 .ret))))), [.tmp 2]⟩
theorem c47_ok : compFunc Try.prog Try.f47 = some c47 := by kernel_rfl
theorem c47_body : hasBody Try.prog 47 = true := hasBody_of Try.func47 (by kernel_rfl)
/-- slices.insertionSortOrdered[uint64] -/
def c48 : PFn := ⟨49, Tr.ofList (List.replicate 49 undefA), (.seq (.seqR [⟨.move, [.tmp 1], (some 8), none⟩,
 ⟨(.bin .add), [.tmp 8, .const (.int .i64 1)], (some 9), none⟩,
 ⟨.move, [.tmp 9], (some 6), none⟩])
 (.block 0 (.loop (.seq (.seq (.seqR [⟨.move, [.tmp 6], (some 10), none⟩,
 ⟨.move, [.tmp 2], (some 11), none⟩,
 ⟨(.bin .lss), [.tmp 10, .tmp 11], (some 12), none⟩])
 (.cond (.tmp 12) .skip
 (.exit 0)))
 (.seq (.block 1 (.seq (.seqR [⟨.move, [.tmp 6], (some 15), none⟩,
 ⟨.move, [.tmp 15], (some 7), none⟩])
 (.block 2 (.loop (.seq (.seq (.drawR [⟨⟨.move, [.tmp 7], (some 16), none⟩, false, false, 0, 0⟩,
 ⟨⟨.move, [.tmp 1], (some 17), none⟩, false, false, 0, 0⟩,
 ⟨⟨(.bin .gtr), [.tmp 16, .tmp 17], (some 18), none⟩, false, false, 0, 0⟩,
 ⟨⟨.move, [.tmp 18], (some 19), none⟩, false, false, 0, 0⟩,
 ⟨⟨.move, [.tmp 0], (some 20), some (19, true)⟩, false, false, 0, 0⟩,
 ⟨⟨.move, [.tmp 7], (some 21), some (19, true)⟩, false, false, 0, 0⟩,
 ⟨⟨(.indexAddrS 1), [.tmp 20, .tmp 21], (some 22), some (19, true)⟩, false, false, 0, 0⟩,
 ⟨⟨(.load false 1), [.tmp 22], (some 23), some (19, true)⟩, false, false, 0, 0⟩,
 ⟨⟨.move, [.tmp 0], (some 24), some (19, true)⟩, false, false, 0, 0⟩,
 ⟨⟨.move, [.tmp 7], (some 25), some (19, true)⟩, false, false, 0, 0⟩,
 ⟨⟨(.bin .sub), [.tmp 25, .const (.int .i64 1)], (some 26), some (19, true)⟩, false, false, 0, 0⟩,
 ⟨⟨(.indexAddrS 1), [.tmp 24, .tmp 26], (some 27), some (19, true)⟩, false, false, 0, 0⟩,
 ⟨⟨(.load false 1), [.tmp 27], (some 28), some (19, true)⟩, false, false, 0, 0⟩,
 ⟨⟨(.callF 54), [.tmp 23, .tmp 28], (some 29), some (19, true)⟩, true, false, 0, 1⟩,
 ⟨⟨.pick, [.tmp 19, .tmp 29, .const (.bool false)], (some 30), none⟩, false, false, 1, 1⟩])
 (.cond (.tmp 30) .skip
 (.exit 2)))
 (.seq (.block 3 (.drawR [⟨⟨.move, [.tmp 0], (some 33), none⟩, false, false, 0, 0⟩,
 ⟨⟨.move, [.tmp 7], (some 34), none⟩, false, false, 0, 0⟩,
 ⟨⟨.move, [.tmp 0], (some 35), none⟩, false, false, 0, 1⟩,
 ⟨⟨.move, [.tmp 7], (some 36), none⟩, false, false, 0, 1⟩,
 ⟨⟨(.bin .sub), [.tmp 36, .const (.int .i64 1)], (some 37), none⟩, false, false, 0, 1⟩,
 ⟨⟨.move, [.tmp 0], (some 38), none⟩, false, false, 0, 0⟩,
 ⟨⟨.move, [.tmp 7], (some 39), none⟩, false, false, 0, 0⟩,
 ⟨⟨(.bin .sub), [.tmp 39, .const (.int .i64 1)], (some 40), none⟩, false, false, 0, 0⟩,
 ⟨⟨(.indexAddrS 1), [.tmp 38, .tmp 40], (some 41), none⟩, false, false, 0, 0⟩,
 ⟨⟨(.load false 1), [.tmp 41], (some 42), none⟩, false, false, 0, 0⟩,
 ⟨⟨.move, [.tmp 0], (some 43), none⟩, false, false, 0, 0⟩,
 ⟨⟨.move, [.tmp 7], (some 44), none⟩, false, false, 0, 0⟩,
 ⟨⟨(.indexAddrS 1), [.tmp 43, .tmp 44], (some 45), none⟩, false, false, 0, 0⟩,
 ⟨⟨(.load false 1), [.tmp 45], (some 46), none⟩, false, false, 0, 0⟩,
 ⟨⟨(.indexAddrS 1), [.tmp 33, .tmp 34], (some 47), none⟩, false, false, 0, 0⟩,
 ⟨⟨(.store 1), [.tmp 47, .tmp 42], none, none⟩, true, false, 0, 1⟩,
 ⟨⟨(.indexAddrS 1), [.tmp 35, .tmp 37], (some 48), none⟩, false, false, 1, 1⟩,
 ⟨⟨(.store 1), [.tmp 48, .tmp 46], none, none⟩, true, false, 1, 2⟩]))
 (.seqR [⟨.move, [.tmp 7], (some 31), none⟩,
 ⟨(.bin .sub), [.tmp 31, .const (.int .i64 1)], (some 32), none⟩,
 ⟨.move, [.tmp 32], (some 7), none⟩])))))))
 (.seqR [⟨.move, [.tmp 6], (some 13), none⟩,
 ⟨(.bin .add), [.tmp 13, .const (.int .i64 1)], (some 14), none⟩,
 ⟨.move, [.tmp 14], (some 6), none⟩])))))), []⟩
theorem c48_ok : compFunc Try.prog Try.f48 = some c48 := by kernel_rfl
theorem c48_body : hasBody Try.prog 48 = true := hasBody_of Try.func48 (by kernel_rfl)
/-- slices.heapSortOrdered[uint64] -/
def c49 : PFn := ⟨56, Tr.ofList (List.replicate 56 undefA), (.seq (.seqR [⟨.move, [.tmp 1], (some 11), none⟩,
 ⟨.move, [.tmp 11], (some 6), none⟩])
 (.seq (.seqR [⟨.move, [.const (.int .i64 0)], (some 7), none⟩])
 (.seq (.seqR [⟨.move, [.tmp 2], (some 12), none⟩,
 ⟨.move, [.tmp 1], (some 13), none⟩,
 ⟨(.bin .sub), [.tmp 12, .tmp 13], (some 14), none⟩,
 ⟨.move, [.tmp 14], (some 8), none⟩])
 (.seq (.seq (.seqR [⟨.move, [.tmp 8], (some 15), none⟩,
 ⟨(.bin .sub), [.tmp 15, .const (.int .i64 1)], (some 16), none⟩,
 ⟨(.bin .quo), [.tmp 16, .const (.int .i64 2)], (some 17), none⟩,
 ⟨.move, [.tmp 17], (some 9), none⟩])
 (.block 0 (.loop (.seq (.seq (.seqR [⟨.move, [.tmp 9], (some 18), none⟩,
 ⟨(.bin .geq), [.tmp 18, .const (.int .i64 0)], (some 19), none⟩])
 (.cond (.tmp 19) .skip
 (.exit 0)))
 (.seq (.block 1 (.seqR [⟨.move, [.tmp 0], (some 22), none⟩,
 ⟨.move, [.tmp 9], (some 23), none⟩,
 ⟨.move, [.tmp 8], (some 24), none⟩,
 ⟨.move, [.tmp 6], (some 25), none⟩,
 ⟨(.callF 64), [.tmp 22, .tmp 23, .tmp 24, .tmp 25], (some 26), none⟩]))
 (.seqR [⟨.move, [.tmp 9], (some 20), none⟩,
 ⟨(.bin .sub), [.tmp 20, .const (.int .i64 1)], (some 21), none⟩,
 ⟨.move, [.tmp 21], (some 9), none⟩]))))))
 (.seq (.seqR [⟨.move, [.tmp 8], (some 27), none⟩,
 ⟨(.bin .sub), [.tmp 27, .const (.int .i64 1)], (some 28), none⟩,
 ⟨.move, [.tmp 28], (some 10), none⟩])
 (.block 2 (.loop (.seq (.seq (.seqR [⟨.move, [.tmp 10], (some 29), none⟩,
 ⟨(.bin .geq), [.tmp 29, .const (.int .i64 0)], (some 30), none⟩])
 (.cond (.tmp 30) .skip
 (.exit 2)))
 (.seq (.block 3 (.seq (.drawR [⟨⟨.move, [.tmp 0], (some 33), none⟩, false, false, 0, 0⟩,
 ⟨⟨.move, [.tmp 6], (some 34), none⟩, false, false, 0, 0⟩,
 ⟨⟨.move, [.tmp 0], (some 35), none⟩, false, false, 0, 1⟩,
 ⟨⟨.move, [.tmp 6], (some 36), none⟩, false, false, 0, 1⟩,
 ⟨⟨.move, [.tmp 10], (some 37), none⟩, false, false, 0, 1⟩,
 ⟨⟨(.bin .add), [.tmp 36, .tmp 37], (some 38), none⟩, false, false, 0, 1⟩,
 ⟨⟨.move, [.tmp 0], (some 39), none⟩, false, false, 0, 0⟩,
 ⟨⟨.move, [.tmp 6], (some 40), none⟩, false, false, 0, 0⟩,
 ⟨⟨.move, [.tmp 10], (some 41), none⟩, false, false, 0, 0⟩,
 ⟨⟨(.bin .add), [.tmp 40, .tmp 41], (some 42), none⟩, false, false, 0, 0⟩,
 ⟨⟨(.indexAddrS 1), [.tmp 39, .tmp 42], (some 43), none⟩, false, false, 0, 0⟩,
 ⟨⟨(.load false 1), [.tmp 43], (some 44), none⟩, false, false, 0, 0⟩,
 ⟨⟨.move, [.tmp 0], (some 45), none⟩, false, false, 0, 0⟩,
 ⟨⟨.move, [.tmp 6], (some 46), none⟩, false, false, 0, 0⟩,
 ⟨⟨(.indexAddrS 1), [.tmp 45, .tmp 46], (some 47), none⟩, false, false, 0, 0⟩,
 ⟨⟨(.load false 1), [.tmp 47], (some 48), none⟩, false, false, 0, 0⟩,
 ⟨⟨(.indexAddrS 1), [.tmp 33, .tmp 34], (some 49), none⟩, false, false, 0, 0⟩,
 ⟨⟨(.store 1), [.tmp 49, .tmp 44], none, none⟩, true, false, 0, 1⟩,
 ⟨⟨(.indexAddrS 1), [.tmp 35, .tmp 38], (some 50), none⟩, false, false, 1, 1⟩,
 ⟨⟨(.store 1), [.tmp 50, .tmp 48], none, none⟩, true, false, 1, 2⟩])
 (.seqR [⟨.move, [.tmp 0], (some 51), none⟩,
 ⟨.move, [.tmp 7], (some 52), none⟩,
 ⟨.move, [.tmp 10], (some 53), none⟩,
 ⟨.move, [.tmp 6], (some 54), none⟩,
 ⟨(.callF 64), [.tmp 51, .tmp 52, .tmp 53, .tmp 54], (some 55), none⟩])))
 (.seqR [⟨.move, [.tmp 10], (some 31), none⟩,
 ⟨(.bin .sub), [.tmp 31, .const (.int .i64 1)], (some 32), none⟩,
 ⟨.move, [.tmp 32], (some 10), none⟩])))))))))), []⟩
theorem c49_ok : compFunc Try.prog Try.f49 = some c49 := by kernel_rfl
theorem c49_body : hasBody Try.prog 49 = true := hasBody_of Try.func49 (by kernel_rfl)
/-- slices.breakPatternsOrdered[uint64] -/
def c50 : PFn := ⟨65, Tr.ofList (List.replicate 65 undefA), (.seq (.seqR [⟨.move, [.tmp 2], (some 11), none⟩,
 ⟨.move, [.tmp 1], (some 12), none⟩,
 ⟨(.bin .sub), [.tmp 11, .tmp 12], (some 13), none⟩,
 ⟨.move, [.tmp 13], (some 6), none⟩])
 (.seq (.seqR [⟨.move, [.tmp 6], (some 14), none⟩,
 ⟨(.bin .geq), [.tmp 14, .const (.int .i64 8)], (some 15), none⟩])
 (.cond (.tmp 15) (.seq (.seqR [⟨.move, [.tmp 6], (some 16), none⟩,
 ⟨(.conv .u64), [.tmp 16], (some 17), none⟩,
 ⟨(.new [(.int .u64 0)]), [], (some 7), none⟩,
 ⟨(.store 1), [.tmp 7, .tmp 17], none, none⟩])
 (.seq (.seqR [⟨.move, [.tmp 6], (some 18), none⟩,
 ⟨(.callF 60), [.tmp 18], (some 19), none⟩,
 ⟨.move, [.tmp 19], (some 8), none⟩])
 (.seq (.seqR [⟨.move, [.tmp 1], (some 20), none⟩,
 ⟨.move, [.tmp 6], (some 21), none⟩,
 ⟨(.bin .quo), [.tmp 21, .const (.int .i64 4)], (some 22), none⟩,
 ⟨(.bin .mul), [.tmp 22, .const (.int .i64 2)], (some 23), none⟩,
 ⟨(.bin .add), [.tmp 20, .tmp 23], (some 24), none⟩,
 ⟨(.bin .sub), [.tmp 24, .const (.int .i64 1)], (some 25), none⟩,
 ⟨.move, [.tmp 25], (some 9), none⟩])
 (.block 0 (.loop (.seq (.seq (.seqR [⟨.move, [.tmp 9], (some 26), none⟩,
 ⟨.move, [.tmp 1], (some 27), none⟩,
 ⟨.move, [.tmp 6], (some 28), none⟩,
 ⟨(.bin .quo), [.tmp 28, .const (.int .i64 4)], (some 29), none⟩,
 ⟨(.bin .mul), [.tmp 29, .const (.int .i64 2)], (some 30), none⟩,
 ⟨(.bin .add), [.tmp 27, .tmp 30], (some 31), none⟩,
 ⟨(.bin .add), [.tmp 31, .const (.int .i64 1)], (some 32), none⟩,
 ⟨(.bin .leq), [.tmp 26, .tmp 32], (some 33), none⟩])
 (.cond (.tmp 33) .skip
 (.exit 0)))
 (.seq (.block 1 (.seq (.seqR [⟨(.callF 61), [.tmp 7], (some 36), none⟩,
 ⟨.move, [.tmp 8], (some 37), none⟩,
 ⟨(.bin .sub), [.tmp 37, .const (.int .u64 1)], (some 38), none⟩,
 ⟨(.bin .and), [.tmp 36, .tmp 38], (some 39), none⟩,
 ⟨(.conv .i64), [.tmp 39], (some 40), none⟩,
 ⟨.move, [.tmp 40], (some 10), none⟩])
 (.seq (.seq (.seqR [⟨.move, [.tmp 10], (some 41), none⟩,
 ⟨.move, [.tmp 6], (some 42), none⟩,
 ⟨(.bin .geq), [.tmp 41, .tmp 42], (some 43), none⟩])
 (.cond (.tmp 43) (.seqR [⟨.move, [.tmp 10], (some 44), none⟩,
 ⟨.move, [.tmp 6], (some 45), none⟩,
 ⟨(.bin .sub), [.tmp 44, .tmp 45], (some 46), none⟩,
 ⟨.move, [.tmp 46], (some 10), none⟩])
 .skip))
 (.drawR [⟨⟨.move, [.tmp 0], (some 47), none⟩, false, false, 0, 0⟩,
 ⟨⟨.move, [.tmp 9], (some 48), none⟩, false, false, 0, 0⟩,
 ⟨⟨.move, [.tmp 0], (some 49), none⟩, false, false, 0, 1⟩,
 ⟨⟨.move, [.tmp 1], (some 50), none⟩, false, false, 0, 1⟩,
 ⟨⟨.move, [.tmp 10], (some 51), none⟩, false, false, 0, 1⟩,
 ⟨⟨(.bin .add), [.tmp 50, .tmp 51], (some 52), none⟩, false, false, 0, 1⟩,
 ⟨⟨.move, [.tmp 0], (some 53), none⟩, false, false, 0, 0⟩,
 ⟨⟨.move, [.tmp 1], (some 54), none⟩, false, false, 0, 0⟩,
 ⟨⟨.move, [.tmp 10], (some 55), none⟩, false, false, 0, 0⟩,
 ⟨⟨(.bin .add), [.tmp 54, .tmp 55], (some 56), none⟩, false, false, 0, 0⟩,
 ⟨⟨(.indexAddrS 1), [.tmp 53, .tmp 56], (some 57), none⟩, false, false, 0, 0⟩,
 ⟨⟨(.load false 1), [.tmp 57], (some 58), none⟩, false, false, 0, 0⟩,
 ⟨⟨.move, [.tmp 0], (some 59), none⟩, false, false, 0, 0⟩,
 ⟨⟨.move, [.tmp 9], (some 60), none⟩, false, false, 0, 0⟩,
 ⟨⟨(.indexAddrS 1), [.tmp 59, .tmp 60], (some 61), none⟩, false, false, 0, 0⟩,
 ⟨⟨(.load false 1), [.tmp 61], (some 62), none⟩, false, false, 0, 0⟩,
 ⟨⟨(.indexAddrS 1), [.tmp 47, .tmp 48], (some 63), none⟩, false, false, 0, 0⟩,
 ⟨⟨(.store 1), [.tmp 63, .tmp 58], none, none⟩, true, false, 0, 1⟩,
 ⟨⟨(.indexAddrS 1), [.tmp 49, .tmp 52], (some 64), none⟩, false, false, 1, 1⟩,
 ⟨⟨(.store 1), [.tmp 64, .tmp 62], none, none⟩, true, false, 1, 2⟩]))))
 (.seqR [⟨.move, [.tmp 9], (some 34), none⟩,
 ⟨(.bin .add), [.tmp 34, .const (.int .i64 1)], (some 35), none⟩,
 ⟨.move, [.tmp 35], (some 9), none⟩]))))))))
 .skip))), []⟩
theorem c50_ok : compFunc Try.prog Try.f50 = some c50 := by kernel_rfl
theorem c50_body : hasBody Try.prog 50 = true := hasBody_of Try.func50 (by kernel_rfl)
/-- slices.choosePivotOrdered[uint64] -/
def c51 : PFn := ⟨57, Tr.ofList (List.replicate 57 undefA), (.seq (.seqR [⟨.move, [.const (.int .i64 0)], (some 6), none⟩,
 ⟨.move, [.const (.int .i64 0)], (some 7), none⟩])
 (.seq (.seqR [⟨.move, [.tmp 2], (some 13), none⟩,
 ⟨.move, [.tmp 1], (some 14), none⟩,
 ⟨(.bin .sub), [.tmp 13, .tmp 14], (some 15), none⟩,
 ⟨.move, [.tmp 15], (some 8), none⟩])
 (.seq (.seqR [⟨(.new [(.int .i64 0)]), [], (some 9), none⟩])
 (.seq (.seqR [⟨.move, [.tmp 1], (some 16), none⟩,
 ⟨.move, [.tmp 8], (some 17), none⟩,
 ⟨(.bin .quo), [.tmp 17, .const (.int .i64 4)], (some 18), none⟩,
 ⟨(.bin .mul), [.tmp 18, .const (.int .i64 1)], (some 19), none⟩,
 ⟨(.bin .add), [.tmp 16, .tmp 19], (some 20), none⟩,
 ⟨.move, [.tmp 20], (some 10), none⟩])
 (.seq (.seqR [⟨.move, [.tmp 1], (some 21), none⟩,
 ⟨.move, [.tmp 8], (some 22), none⟩,
 ⟨(.bin .quo), [.tmp 22, .const (.int .i64 4)], (some 23), none⟩,
 ⟨(.bin .mul), [.tmp 23, .const (.int .i64 2)], (some 24), none⟩,
 ⟨(.bin .add), [.tmp 21, .tmp 24], (some 25), none⟩,
 ⟨.move, [.tmp 25], (some 11), none⟩])
 (.seq (.seqR [⟨.move, [.tmp 1], (some 26), none⟩,
 ⟨.move, [.tmp 8], (some 27), none⟩,
 ⟨(.bin .quo), [.tmp 27, .const (.int .i64 4)], (some 28), none⟩,
 ⟨(.bin .mul), [.tmp 28, .const (.int .i64 3)], (some 29), none⟩,
 ⟨(.bin .add), [.tmp 26, .tmp 29], (some 30), none⟩,
 ⟨.move, [.tmp 30], (some 12), none⟩])
 (.seq (.seq (.seqR [⟨.move, [.tmp 8], (some 31), none⟩,
 ⟨(.bin .geq), [.tmp 31, .const (.int .i64 8)], (some 32), none⟩])
 (.cond (.tmp 32) (.seq (.seq (.seqR [⟨.move, [.tmp 8], (some 33), none⟩,
 ⟨(.bin .geq), [.tmp 33, .const (.int .i64 50)], (some 34), none⟩])
 (.cond (.tmp 34) (.seq (.seqR [⟨.move, [.tmp 0], (some 35), none⟩,
 ⟨.move, [.tmp 10], (some 36), none⟩,
 ⟨(.callF 65), [.tmp 35, .tmp 36, .tmp 9], (some 37), none⟩,
 ⟨.move, [.tmp 37], (some 10), none⟩])
 (.seq (.seqR [⟨.move, [.tmp 0], (some 38), none⟩,
 ⟨.move, [.tmp 11], (some 39), none⟩,
 ⟨(.callF 65), [.tmp 38, .tmp 39, .tmp 9], (some 40), none⟩,
 ⟨.move, [.tmp 40], (some 11), none⟩])
 (.seqR [⟨.move, [.tmp 0], (some 41), none⟩,
 ⟨.move, [.tmp 12], (some 42), none⟩,
 ⟨(.callF 65), [.tmp 41, .tmp 42, .tmp 9], (some 43), none⟩,
 ⟨.move, [.tmp 43], (some 12), none⟩])))
 .skip))
 (.seqR [⟨.move, [.tmp 0], (some 44), none⟩,
 ⟨.move, [.tmp 10], (some 45), none⟩,
 ⟨.move, [.tmp 11], (some 46), none⟩,
 ⟨.move, [.tmp 12], (some 47), none⟩,
 ⟨(.callF 66), [.tmp 44, .tmp 45, .tmp 46, .tmp 47, .tmp 9], (some 48), none⟩,
 ⟨.move, [.tmp 48], (some 11), none⟩]))
 .skip))
 (.seq (.seqR [⟨(.load false 1), [.tmp 9], (some 49), none⟩])
 (.block 0 (.seq (.seqR [⟨(.bin .eql), [.tmp 49, .const (.int .i64 0)], (some 52), none⟩,
 ⟨.move, [.tmp 52], (some 51), none⟩])
 (.cond (.tmp 51) (.seq (.seqR [⟨.move, [.tmp 11], (some 53), none⟩,
 ⟨.move, [.tmp 53], (some 6), none⟩,
 ⟨.move, [.const (.int .i64 1)], (some 7), none⟩])
 .ret)
 (.seq (.seqR [⟨(.bin .eql), [.tmp 49, .const (.int .i64 12)], (some 55), none⟩,
 ⟨.move, [.tmp 55], (some 54), none⟩])
 (.cond (.tmp 54) (.seq (.seqR [⟨.move, [.tmp 11], (some 56), none⟩,
 ⟨.move, [.tmp 56], (some 6), none⟩,
 ⟨.move, [.const (.int .i64 2)], (some 7), none⟩])
 .ret)
 (.seq (.seqR [⟨.move, [.tmp 11], (some 50), none⟩,
 ⟨.move, [.tmp 50], (some 6), none⟩,
 ⟨.move, [.const (.int .i64 0)], (some 7), none⟩])
 .ret)))))))))))))), [.tmp 6, .tmp 7]⟩
theorem c51_ok : compFunc Try.prog Try.f51 = some c51 := by kernel_rfl
theorem c51_body : hasBody Try.prog 51 = true := hasBody_of Try.func51 (by kernel_rfl)
/-- slices.reverseRangeOrdered[uint64] -/
def c52 : PFn := ⟨32, Tr.ofList (List.replicate 32 undefA), (.seq (.seqR [⟨.move, [.tmp 1], (some 8), none⟩,
 ⟨.move, [.tmp 8], (some 6), none⟩])
 (.seq (.seqR [⟨.move, [.tmp 2], (some 9), none⟩,
 ⟨(.bin .sub), [.tmp 9, .const (.int .i64 1)], (some 10), none⟩,
 ⟨.move, [.tmp 10], (some 7), none⟩])
 (.block 0 (.loop (.seq (.seq (.seqR [⟨.move, [.tmp 6], (some 11), none⟩,
 ⟨.move, [.tmp 7], (some 12), none⟩,
 ⟨(.bin .lss), [.tmp 11, .tmp 12], (some 13), none⟩])
 (.cond (.tmp 13) .skip
 (.exit 0)))
 (.block 1 (.seq (.drawR [⟨⟨.move, [.tmp 0], (some 14), none⟩, false, false, 0, 0⟩,
 ⟨⟨.move, [.tmp 6], (some 15), none⟩, false, false, 0, 0⟩,
 ⟨⟨.move, [.tmp 0], (some 16), none⟩, false, false, 0, 1⟩,
 ⟨⟨.move, [.tmp 7], (some 17), none⟩, false, false, 0, 1⟩,
 ⟨⟨.move, [.tmp 0], (some 18), none⟩, false, false, 0, 0⟩,
 ⟨⟨.move, [.tmp 7], (some 19), none⟩, false, false, 0, 0⟩,
 ⟨⟨(.indexAddrS 1), [.tmp 18, .tmp 19], (some 20), none⟩, false, false, 0, 0⟩,
 ⟨⟨(.load false 1), [.tmp 20], (some 21), none⟩, false, false, 0, 0⟩,
 ⟨⟨.move, [.tmp 0], (some 22), none⟩, false, false, 0, 0⟩,
 ⟨⟨.move, [.tmp 6], (some 23), none⟩, false, false, 0, 0⟩,
 ⟨⟨(.indexAddrS 1), [.tmp 22, .tmp 23], (some 24), none⟩, false, false, 0, 0⟩,
 ⟨⟨(.load false 1), [.tmp 24], (some 25), none⟩, false, false, 0, 0⟩,
 ⟨⟨(.indexAddrS 1), [.tmp 14, .tmp 15], (some 26), none⟩, false, false, 0, 0⟩,
 ⟨⟨(.store 1), [.tmp 26, .tmp 21], none, none⟩, true, false, 0, 1⟩,
 ⟨⟨(.indexAddrS 1), [.tmp 16, .tmp 17], (some 27), none⟩, false, false, 1, 1⟩,
 ⟨⟨(.store 1), [.tmp 27, .tmp 25], none, none⟩, true, false, 1, 2⟩])
 (.seq (.seqR [⟨.move, [.tmp 6], (some 28), none⟩,
 ⟨(.bin .add), [.tmp 28, .const (.int .i64 1)], (some 29), none⟩,
 ⟨.move, [.tmp 29], (some 6), none⟩])
 (.seqR [⟨.move, [.tmp 7], (some 30), none⟩,
 ⟨(.bin .sub), [.tmp 30, .const (.int .i64 1)], (some 31), none⟩,
 ⟨.move, [.tmp 31], (some 7), none⟩]))))))))), []⟩
theorem c52_ok : compFunc Try.prog Try.f52 = some c52 := by kernel_rfl
theorem c52_body : hasBody Try.prog 52 = true := hasBody_of Try.func52 (by kernel_rfl)
/-- slices.partialInsertionSortOrdered[uint64] -/
def c53 : PFn := ⟨133, Tr.ofList (List.replicate 133 undefA), (.seq (.seqR [⟨.move, [.const (.bool false)], (some 6), none⟩])
 (.seq (.seqR [⟨.move, [.tmp 1], (some 11), none⟩,
 ⟨(.bin .add), [.tmp 11, .const (.int .i64 1)], (some 12), none⟩,
 ⟨.move, [.tmp 12], (some 7), none⟩])
 (.seq (.seq (.seqR [⟨.move, [.const (.int .i64 0)], (some 8), none⟩])
 (.block 0 (.loop (.seq (.seq (.seqR [⟨.move, [.tmp 8], (some 13), none⟩,
 ⟨(.bin .lss), [.tmp 13, .const (.int .i64 5)], (some 14), none⟩])
 (.cond (.tmp 14) .skip
 (.exit 0)))
 (.seq (.block 1 (.seq (.block 2 (.loop (.seq (.seq (.drawR [⟨⟨.move, [.tmp 7], (some 17), none⟩, false, false, 0, 0⟩,
 ⟨⟨.move, [.tmp 2], (some 18), none⟩, false, false, 0, 0⟩,
 ⟨⟨(.bin .lss), [.tmp 17, .tmp 18], (some 19), none⟩, false, false, 0, 0⟩,
 ⟨⟨.move, [.tmp 19], (some 20), none⟩, false, false, 0, 0⟩,
 ⟨⟨.move, [.tmp 0], (some 21), some (20, true)⟩, false, false, 0, 0⟩,
 ⟨⟨.move, [.tmp 7], (some 22), some (20, true)⟩, false, false, 0, 0⟩,
 ⟨⟨(.indexAddrS 1), [.tmp 21, .tmp 22], (some 23), some (20, true)⟩, false, false, 0, 0⟩,
 ⟨⟨(.load false 1), [.tmp 23], (some 24), some (20, true)⟩, false, false, 0, 0⟩,
 ⟨⟨.move, [.tmp 0], (some 25), some (20, true)⟩, false, false, 0, 0⟩,
 ⟨⟨.move, [.tmp 7], (some 26), some (20, true)⟩, false, false, 0, 0⟩,
 ⟨⟨(.bin .sub), [.tmp 26, .const (.int .i64 1)], (some 27), some (20, true)⟩, false, false, 0, 0⟩,
 ⟨⟨(.indexAddrS 1), [.tmp 25, .tmp 27], (some 28), some (20, true)⟩, false, false, 0, 0⟩,
 ⟨⟨(.load false 1), [.tmp 28], (some 29), some (20, true)⟩, false, false, 0, 0⟩,
 ⟨⟨(.callF 54), [.tmp 24, .tmp 29], (some 30), some (20, true)⟩, true, false, 0, 1⟩,
 ⟨⟨.not, [.tmp 30], (some 31), some (20, true)⟩, false, false, 1, 1⟩,
 ⟨⟨.pick, [.tmp 20, .tmp 31, .const (.bool false)], (some 32), none⟩, false, false, 1, 1⟩])
 (.cond (.tmp 32) .skip
 (.exit 2)))
 (.block 3 (.seqR [⟨.move, [.tmp 7], (some 33), none⟩,
 ⟨(.bin .add), [.tmp 33, .const (.int .i64 1)], (some 34), none⟩,
 ⟨.move, [.tmp 34], (some 7), none⟩])))))
 (.seq (.seq (.seqR [⟨.move, [.tmp 7], (some 35), none⟩,
 ⟨.move, [.tmp 2], (some 36), none⟩,
 ⟨(.bin .eql), [.tmp 35, .tmp 36], (some 37), none⟩])
 (.cond (.tmp 37) (.seq (.seqR [⟨.move, [.const (.bool true)], (some 6), none⟩])
 .ret)
 .skip))
 (.seq (.seq (.seqR [⟨.move, [.tmp 2], (some 38), none⟩,
 ⟨.move, [.tmp 1], (some 39), none⟩,
 ⟨(.bin .sub), [.tmp 38, .tmp 39], (some 40), none⟩,
 ⟨(.bin .lss), [.tmp 40, .const (.int .i64 50)], (some 41), none⟩])
 (.cond (.tmp 41) (.seq (.seqR [⟨.move, [.const (.bool false)], (some 6), none⟩])
 .ret)
 .skip))
 (.seq (.drawR [⟨⟨.move, [.tmp 0], (some 42), none⟩, false, false, 0, 0⟩,
 ⟨⟨.move, [.tmp 7], (some 43), none⟩, false, false, 0, 0⟩,
 ⟨⟨.move, [.tmp 0], (some 44), none⟩, false, false, 0, 1⟩,
 ⟨⟨.move, [.tmp 7], (some 45), none⟩, false, false, 0, 1⟩,
 ⟨⟨(.bin .sub), [.tmp 45, .const (.int .i64 1)], (some 46), none⟩, false, false, 0, 1⟩,
 ⟨⟨.move, [.tmp 0], (some 47), none⟩, false, false, 0, 0⟩,
 ⟨⟨.move, [.tmp 7], (some 48), none⟩, false, false, 0, 0⟩,
 ⟨⟨(.bin .sub), [.tmp 48, .const (.int .i64 1)], (some 49), none⟩, false, false, 0, 0⟩,
 ⟨⟨(.indexAddrS 1), [.tmp 47, .tmp 49], (some 50), none⟩, false, false, 0, 0⟩,
 ⟨⟨(.load false 1), [.tmp 50], (some 51), none⟩, false, false, 0, 0⟩,
 ⟨⟨.move, [.tmp 0], (some 52), none⟩, false, false, 0, 0⟩,
 ⟨⟨.move, [.tmp 7], (some 53), none⟩, false, false, 0, 0⟩,
 ⟨⟨(.indexAddrS 1), [.tmp 52, .tmp 53], (some 54), none⟩, false, false, 0, 0⟩,
 ⟨⟨(.load false 1), [.tmp 54], (some 55), none⟩, false, false, 0, 0⟩,
 ⟨⟨(.indexAddrS 1), [.tmp 42, .tmp 43], (some 56), none⟩, false, false, 0, 0⟩,
 ⟨⟨(.store 1), [.tmp 56, .tmp 51], none, none⟩, true, false, 0, 1⟩,
 ⟨⟨(.indexAddrS 1), [.tmp 44, .tmp 46], (some 57), none⟩, false, false, 1, 1⟩,
 ⟨⟨(.store 1), [.tmp 57, .tmp 55], none, none⟩, true, false, 1, 2⟩])
 (.seq (.seq (.seqR [⟨.move, [.tmp 7], (some 58), none⟩,
 ⟨.move, [.tmp 1], (some 59), none⟩,
 ⟨(.bin .sub), [.tmp 58, .tmp 59], (some 60), none⟩,
 ⟨(.bin .geq), [.tmp 60, .const (.int .i64 2)], (some 61), none⟩])
 (.cond (.tmp 61) (.seq (.seqR [⟨.move, [.tmp 7], (some 62), none⟩,
 ⟨(.bin .sub), [.tmp 62, .const (.int .i64 1)], (some 63), none⟩,
 ⟨.move, [.tmp 63], (some 9), none⟩])
 (.block 4 (.loop (.seq (.seq (.seqR [⟨.move, [.tmp 9], (some 64), none⟩,
 ⟨(.bin .geq), [.tmp 64, .const (.int .i64 1)], (some 65), none⟩])
 (.cond (.tmp 65) .skip
 (.exit 4)))
 (.seq (.block 5 (.seq (.seq (.drawR [⟨⟨.move, [.tmp 0], (some 68), none⟩, false, false, 0, 0⟩,
 ⟨⟨.move, [.tmp 9], (some 69), none⟩, false, false, 0, 0⟩,
 ⟨⟨(.indexAddrS 1), [.tmp 68, .tmp 69], (some 70), none⟩, false, false, 0, 0⟩,
 ⟨⟨(.load false 1), [.tmp 70], (some 71), none⟩, false, false, 0, 0⟩,
 ⟨⟨.move, [.tmp 0], (some 72), none⟩, false, false, 0, 0⟩,
 ⟨⟨.move, [.tmp 9], (some 73), none⟩, false, false, 0, 0⟩,
 ⟨⟨(.bin .sub), [.tmp 73, .const (.int .i64 1)], (some 74), none⟩, false, false, 0, 0⟩,
 ⟨⟨(.indexAddrS 1), [.tmp 72, .tmp 74], (some 75), none⟩, false, false, 0, 0⟩,
 ⟨⟨(.load false 1), [.tmp 75], (some 76), none⟩, false, false, 0, 0⟩,
 ⟨⟨(.callF 54), [.tmp 71, .tmp 76], (some 77), none⟩, true, false, 0, 1⟩,
 ⟨⟨.not, [.tmp 77], (some 78), none⟩, false, false, 1, 1⟩])
 (.cond (.tmp 78) (.exit 4)
 .skip))
 (.drawR [⟨⟨.move, [.tmp 0], (some 79), none⟩, false, false, 0, 0⟩,
 ⟨⟨.move, [.tmp 9], (some 80), none⟩, false, false, 0, 0⟩,
 ⟨⟨.move, [.tmp 0], (some 81), none⟩, false, false, 0, 1⟩,
 ⟨⟨.move, [.tmp 9], (some 82), none⟩, false, false, 0, 1⟩,
 ⟨⟨(.bin .sub), [.tmp 82, .const (.int .i64 1)], (some 83), none⟩, false, false, 0, 1⟩,
 ⟨⟨.move, [.tmp 0], (some 84), none⟩, false, false, 0, 0⟩,
 ⟨⟨.move, [.tmp 9], (some 85), none⟩, false, false, 0, 0⟩,
 ⟨⟨(.bin .sub), [.tmp 85, .const (.int .i64 1)], (some 86), none⟩, false, false, 0, 0⟩,
 ⟨⟨(.indexAddrS 1), [.tmp 84, .tmp 86], (some 87), none⟩, false, false, 0, 0⟩,
 ⟨⟨(.load false 1), [.tmp 87], (some 88), none⟩, false, false, 0, 0⟩,
 ⟨⟨.move, [.tmp 0], (some 89), none⟩, false, false, 0, 0⟩,
 ⟨⟨.move, [.tmp 9], (some 90), none⟩, false, false, 0, 0⟩,
 ⟨⟨(.indexAddrS 1), [.tmp 89, .tmp 90], (some 91), none⟩, false, false, 0, 0⟩,
 ⟨⟨(.load false 1), [.tmp 91], (some 92), none⟩, false, false, 0, 0⟩,
 ⟨⟨(.indexAddrS 1), [.tmp 79, .tmp 80], (some 93), none⟩, false, false, 0, 0⟩,
 ⟨⟨(.store 1), [.tmp 93, .tmp 88], none, none⟩, true, false, 0, 1⟩,
 ⟨⟨(.indexAddrS 1), [.tmp 81, .tmp 83], (some 94), none⟩, false, false, 1, 1⟩,
 ⟨⟨(.store 1), [.tmp 94, .tmp 92], none, none⟩, true, false, 1, 2⟩])))
 (.seqR [⟨.move, [.tmp 9], (some 66), none⟩,
 ⟨(.bin .sub), [.tmp 66, .const (.int .i64 1)], (some 67), none⟩,
 ⟨.move, [.tmp 67], (some 9), none⟩]))))))
 .skip))
 (.seq (.seqR [⟨.move, [.tmp 2], (some 95), none⟩,
 ⟨.move, [.tmp 7], (some 96), none⟩,
 ⟨(.bin .sub), [.tmp 95, .tmp 96], (some 97), none⟩,
 ⟨(.bin .geq), [.tmp 97, .const (.int .i64 2)], (some 98), none⟩])
 (.cond (.tmp 98) (.seq (.seqR [⟨.move, [.tmp 7], (some 99), none⟩,
 ⟨(.bin .add), [.tmp 99, .const (.int .i64 1)], (some 100), none⟩,
 ⟨.move, [.tmp 100], (some 10), none⟩])
 (.block 6 (.loop (.seq (.seq (.seqR [⟨.move, [.tmp 10], (some 101), none⟩,
 ⟨.move, [.tmp 2], (some 102), none⟩,
 ⟨(.bin .lss), [.tmp 101, .tmp 102], (some 103), none⟩])
 (.cond (.tmp 103) .skip
 (.exit 6)))
 (.seq (.block 7 (.seq (.seq (.drawR [⟨⟨.move, [.tmp 0], (some 106), none⟩, false, false, 0, 0⟩,
 ⟨⟨.move, [.tmp 10], (some 107), none⟩, false, false, 0, 0⟩,
 ⟨⟨(.indexAddrS 1), [.tmp 106, .tmp 107], (some 108), none⟩, false, false, 0, 0⟩,
 ⟨⟨(.load false 1), [.tmp 108], (some 109), none⟩, false, false, 0, 0⟩,
 ⟨⟨.move, [.tmp 0], (some 110), none⟩, false, false, 0, 0⟩,
 ⟨⟨.move, [.tmp 10], (some 111), none⟩, false, false, 0, 0⟩,
 ⟨⟨(.bin .sub), [.tmp 111, .const (.int .i64 1)], (some 112), none⟩, false, false, 0, 0⟩,
 ⟨⟨(.indexAddrS 1), [.tmp 110, .tmp 112], (some 113), none⟩, false, false, 0, 0⟩,
 ⟨⟨(.load false 1), [.tmp 113], (some 114), none⟩, false, false, 0, 0⟩,
 ⟨⟨(.callF 54), [.tmp 109, .tmp 114], (some 115), none⟩, true, false, 0, 1⟩,
 ⟨⟨.not, [.tmp 115], (some 116), none⟩, false, false, 1, 1⟩])
 (.cond (.tmp 116) (.exit 6)
 .skip))
 (.drawR [⟨⟨.move, [.tmp 0], (some 117), none⟩, false, false, 0, 0⟩,
 ⟨⟨.move, [.tmp 10], (some 118), none⟩, false, false, 0, 0⟩,
 ⟨⟨.move, [.tmp 0], (some 119), none⟩, false, false, 0, 1⟩,
 ⟨⟨.move, [.tmp 10], (some 120), none⟩, false, false, 0, 1⟩,
 ⟨⟨(.bin .sub), [.tmp 120, .const (.int .i64 1)], (some 121), none⟩, false, false, 0, 1⟩,
 ⟨⟨.move, [.tmp 0], (some 122), none⟩, false, false, 0, 0⟩,
 ⟨⟨.move, [.tmp 10], (some 123), none⟩, false, false, 0, 0⟩,
 ⟨⟨(.bin .sub), [.tmp 123, .const (.int .i64 1)], (some 124), none⟩, false, false, 0, 0⟩,
 ⟨⟨(.indexAddrS 1), [.tmp 122, .tmp 124], (some 125), none⟩, false, false, 0, 0⟩,
 ⟨⟨(.load false 1), [.tmp 125], (some 126), none⟩, false, false, 0, 0⟩,
 ⟨⟨.move, [.tmp 0], (some 127), none⟩, false, false, 0, 0⟩,
 ⟨⟨.move, [.tmp 10], (some 128), none⟩, false, false, 0, 0⟩,
 ⟨⟨(.indexAddrS 1), [.tmp 127, .tmp 128], (some 129), none⟩, false, false, 0, 0⟩,
 ⟨⟨(.load false 1), [.tmp 129], (some 130), none⟩, false, false, 0, 0⟩,
 ⟨⟨(.indexAddrS 1), [.tmp 117, .tmp 118], (some 131), none⟩, false, false, 0, 0⟩,
 ⟨⟨(.store 1), [.tmp 131, .tmp 126], none, none⟩, true, false, 0, 1⟩,
 ⟨⟨(.indexAddrS 1), [.tmp 119, .tmp 121], (some 132), none⟩, false, false, 1, 1⟩,
 ⟨⟨(.store 1), [.tmp 132, .tmp 130], none, none⟩, true, false, 1, 2⟩])))
 (.seqR [⟨.move, [.tmp 10], (some 104), none⟩,
 ⟨(.bin .add), [.tmp 104, .const (.int .i64 1)], (some 105), none⟩,
 ⟨.move, [.tmp 105], (some 10), none⟩]))))))
 .skip))))))))
 (.seqR [⟨.move, [.tmp 8], (some 15), none⟩,
 ⟨(.bin .add), [.tmp 15, .const (.int .i64 1)], (some 16), none⟩,
 ⟨.move, [.tmp 16], (some 8), none⟩]))))))
 (.seq (.seqR [⟨.move, [.const (.bool false)], (some 6), none⟩])
 .ret)))), [.tmp 6]⟩
theorem c53_ok : compFunc Try.prog Try.f53 = some c53 := by kernel_rfl
theorem c53_body : hasBody Try.prog 53 = true := hasBody_of Try.func53 (by kernel_rfl)
/-- cmp.Less[uint64] -/
def c54 : PFn := ⟨17, Tr.ofList (List.replicate 17 undefA), (.seq (.seqR [⟨.move, [.const (.bool false)], (some 4), none⟩])
 (.seq (.seqR [⟨.move, [.tmp 0], (some 5), none⟩,
 ⟨(.callF 67), [.tmp 5], (some 6), none⟩,
 ⟨.move, [.tmp 6], (some 7), none⟩,
 ⟨.move, [.tmp 1], (some 8), some (7, true)⟩,
 ⟨(.callF 67), [.tmp 8], (some 9), some (7, true)⟩,
 ⟨.not, [.tmp 9], (some 10), some (7, true)⟩,
 ⟨.pick, [.tmp 7, .tmp 10, .const (.bool false)], (some 11), none⟩,
 ⟨.move, [.tmp 11], (some 12), none⟩,
 ⟨.move, [.tmp 0], (some 13), some (12, false)⟩,
 ⟨.move, [.tmp 1], (some 14), some (12, false)⟩,
 ⟨(.bin .lss), [.tmp 13, .tmp 14], (some 15), some (12, false)⟩,
 ⟨.pick, [.tmp 12, .const (.bool true), .tmp 15], (some 16), none⟩,
 ⟨.move, [.tmp 16], (some 4), none⟩])
 .ret)), [.tmp 4]⟩
theorem c54_ok : compFunc Try.prog Try.f54 = some c54 := by kernel_rfl
theorem c54_body : hasBody Try.prog 54 = true := hasBody_of Try.func54 (by kernel_rfl)
/-- slices.partitionEqualOrdered[uint64] -/
def c55 : PFn := ⟨84, Tr.ofList (List.replicate 84 undefA), (.seq (.seqR [⟨.move, [.const (.int .i64 0)], (some 8), none⟩])
 (.seq (.drawR [⟨⟨.move, [.tmp 0], (some 11), none⟩, false, false, 0, 0⟩,
 ⟨⟨.move, [.tmp 1], (some 12), none⟩, false, false, 0, 0⟩,
 ⟨⟨.move, [.tmp 0], (some 13), none⟩, false, false, 0, 1⟩,
 ⟨⟨.move, [.tmp 3], (some 14), none⟩, false, false, 0, 1⟩,
 ⟨⟨.move, [.tmp 0], (some 15), none⟩, false, false, 0, 0⟩,
 ⟨⟨.move, [.tmp 3], (some 16), none⟩, false, false, 0, 0⟩,
 ⟨⟨(.indexAddrS 1), [.tmp 15, .tmp 16], (some 17), none⟩, false, false, 0, 0⟩,
 ⟨⟨(.load false 1), [.tmp 17], (some 18), none⟩, false, false, 0, 0⟩,
 ⟨⟨.move, [.tmp 0], (some 19), none⟩, false, false, 0, 0⟩,
 ⟨⟨.move, [.tmp 1], (some 20), none⟩, false, false, 0, 0⟩,
 ⟨⟨(.indexAddrS 1), [.tmp 19, .tmp 20], (some 21), none⟩, false, false, 0, 0⟩,
 ⟨⟨(.load false 1), [.tmp 21], (some 22), none⟩, false, false, 0, 0⟩,
 ⟨⟨(.indexAddrS 1), [.tmp 11, .tmp 12], (some 23), none⟩, false, false, 0, 0⟩,
 ⟨⟨(.store 1), [.tmp 23, .tmp 18], none, none⟩, true, false, 0, 1⟩,
 ⟨⟨(.indexAddrS 1), [.tmp 13, .tmp 14], (some 24), none⟩, false, false, 1, 1⟩,
 ⟨⟨(.store 1), [.tmp 24, .tmp 22], none, none⟩, true, false, 1, 2⟩])
 (.seq (.seqR [⟨.move, [.tmp 1], (some 25), none⟩,
 ⟨(.bin .add), [.tmp 25, .const (.int .i64 1)], (some 26), none⟩,
 ⟨.move, [.tmp 2], (some 27), none⟩,
 ⟨(.bin .sub), [.tmp 27, .const (.int .i64 1)], (some 28), none⟩,
 ⟨.move, [.tmp 26], (some 9), none⟩,
 ⟨.move, [.tmp 28], (some 10), none⟩])
 (.seq (.block 0 (.loop (.block 1 (.seq (.block 2 (.loop (.seq (.seq (.drawR [⟨⟨.move, [.tmp 9], (some 29), none⟩, false, false, 0, 0⟩,
 ⟨⟨.move, [.tmp 10], (some 30), none⟩, false, false, 0, 0⟩,
 ⟨⟨(.bin .leq), [.tmp 29, .tmp 30], (some 31), none⟩, false, false, 0, 0⟩,
 ⟨⟨.move, [.tmp 31], (some 32), none⟩, false, false, 0, 0⟩,
 ⟨⟨.move, [.tmp 0], (some 33), some (32, true)⟩, false, false, 0, 0⟩,
 ⟨⟨.move, [.tmp 1], (some 34), some (32, true)⟩, false, false, 0, 0⟩,
 ⟨⟨(.indexAddrS 1), [.tmp 33, .tmp 34], (some 35), some (32, true)⟩, false, false, 0, 0⟩,
 ⟨⟨(.load false 1), [.tmp 35], (some 36), some (32, true)⟩, false, false, 0, 0⟩,
 ⟨⟨.move, [.tmp 0], (some 37), some (32, true)⟩, false, false, 0, 0⟩,
 ⟨⟨.move, [.tmp 9], (some 38), some (32, true)⟩, false, false, 0, 0⟩,
 ⟨⟨(.indexAddrS 1), [.tmp 37, .tmp 38], (some 39), some (32, true)⟩, false, false, 0, 0⟩,
 ⟨⟨(.load false 1), [.tmp 39], (some 40), some (32, true)⟩, false, false, 0, 0⟩,
 ⟨⟨(.callF 54), [.tmp 36, .tmp 40], (some 41), some (32, true)⟩, true, false, 0, 1⟩,
 ⟨⟨.not, [.tmp 41], (some 42), some (32, true)⟩, false, false, 1, 1⟩,
 ⟨⟨.pick, [.tmp 32, .tmp 42, .const (.bool false)], (some 43), none⟩, false, false, 1, 1⟩])
 (.cond (.tmp 43) .skip
 (.exit 2)))
 (.block 3 (.seqR [⟨.move, [.tmp 9], (some 44), none⟩,
 ⟨(.bin .add), [.tmp 44, .const (.int .i64 1)], (some 45), none⟩,
 ⟨.move, [.tmp 45], (some 9), none⟩])))))
 (.seq (.block 4 (.loop (.seq (.seq (.drawR [⟨⟨.move, [.tmp 9], (some 46), none⟩, false, false, 0, 0⟩,
 ⟨⟨.move, [.tmp 10], (some 47), none⟩, false, false, 0, 0⟩,
 ⟨⟨(.bin .leq), [.tmp 46, .tmp 47], (some 48), none⟩, false, false, 0, 0⟩,
 ⟨⟨.move, [.tmp 48], (some 49), none⟩, false, false, 0, 0⟩,
 ⟨⟨.move, [.tmp 0], (some 50), some (49, true)⟩, false, false, 0, 0⟩,
 ⟨⟨.move, [.tmp 1], (some 51), some (49, true)⟩, false, false, 0, 0⟩,
 ⟨⟨(.indexAddrS 1), [.tmp 50, .tmp 51], (some 52), some (49, true)⟩, false, false, 0, 0⟩,
 ⟨⟨(.load false 1), [.tmp 52], (some 53), some (49, true)⟩, false, false, 0, 0⟩,
 ⟨⟨.move, [.tmp 0], (some 54), some (49, true)⟩, false, false, 0, 0⟩,
 ⟨⟨.move, [.tmp 10], (some 55), some (49, true)⟩, false, false, 0, 0⟩,
 ⟨⟨(.indexAddrS 1), [.tmp 54, .tmp 55], (some 56), some (49, true)⟩, false, false, 0, 0⟩,
 ⟨⟨(.load false 1), [.tmp 56], (some 57), some (49, true)⟩, false, false, 0, 0⟩,
 ⟨⟨(.callF 54), [.tmp 53, .tmp 57], (some 58), some (49, true)⟩, true, false, 0, 1⟩,
 ⟨⟨.pick, [.tmp 49, .tmp 58, .const (.bool false)], (some 59), none⟩, false, false, 1, 1⟩])
 (.cond (.tmp 59) .skip
 (.exit 4)))
 (.block 5 (.seqR [⟨.move, [.tmp 10], (some 60), none⟩,
 ⟨(.bin .sub), [.tmp 60, .const (.int .i64 1)], (some 61), none⟩,
 ⟨.move, [.tmp 61], (some 10), none⟩])))))
 (.seq (.seq (.seqR [⟨.move, [.tmp 9], (some 62), none⟩,
 ⟨.move, [.tmp 10], (some 63), none⟩,
 ⟨(.bin .gtr), [.tmp 62, .tmp 63], (some 64), none⟩])
 (.cond (.tmp 64) (.exit 0)
 .skip))
 (.seq (.drawR [⟨⟨.move, [.tmp 0], (some 65), none⟩, false, false, 0, 0⟩,
 ⟨⟨.move, [.tmp 9], (some 66), none⟩, false, false, 0, 0⟩,
 ⟨⟨.move, [.tmp 0], (some 67), none⟩, false, false, 0, 1⟩,
 ⟨⟨.move, [.tmp 10], (some 68), none⟩, false, false, 0, 1⟩,
 ⟨⟨.move, [.tmp 0], (some 69), none⟩, false, false, 0, 0⟩,
 ⟨⟨.move, [.tmp 10], (some 70), none⟩, false, false, 0, 0⟩,
 ⟨⟨(.indexAddrS 1), [.tmp 69, .tmp 70], (some 71), none⟩, false, false, 0, 0⟩,
 ⟨⟨(.load false 1), [.tmp 71], (some 72), none⟩, false, false, 0, 0⟩,
 ⟨⟨.move, [.tmp 0], (some 73), none⟩, false, false, 0, 0⟩,
 ⟨⟨.move, [.tmp 9], (some 74), none⟩, false, false, 0, 0⟩,
 ⟨⟨(.indexAddrS 1), [.tmp 73, .tmp 74], (some 75), none⟩, false, false, 0, 0⟩,
 ⟨⟨(.load false 1), [.tmp 75], (some 76), none⟩, false, false, 0, 0⟩,
 ⟨⟨(.indexAddrS 1), [.tmp 65, .tmp 66], (some 77), none⟩, false, false, 0, 0⟩,
 ⟨⟨(.store 1), [.tmp 77, .tmp 72], none, none⟩, true, false, 0, 1⟩,
 ⟨⟨(.indexAddrS 1), [.tmp 67, .tmp 68], (some 78), none⟩, false, false, 1, 1⟩,
 ⟨⟨(.store 1), [.tmp 78, .tmp 76], none, none⟩, true, false, 1, 2⟩])
 (.seq (.seqR [⟨.move, [.tmp 9], (some 79), none⟩,
 ⟨(.bin .add), [.tmp 79, .const (.int .i64 1)], (some 80), none⟩,
 ⟨.move, [.tmp 80], (some 9), none⟩])
 (.seqR [⟨.move, [.tmp 10], (some 81), none⟩,
 ⟨(.bin .sub), [.tmp 81, .const (.int .i64 1)], (some 82), none⟩,
 ⟨.move, [.tmp 82], (some 10), none⟩])))))))))
 (.seq (.seqR [⟨.move, [.tmp 9], (some 83), none⟩,
 ⟨.move, [.tmp 83], (some 8), none⟩])
 .ret))))), [.tmp 8]⟩
theorem c55_ok : compFunc Try.prog Try.f55 = some c55 := by kernel_rfl
theorem c55_body : hasBody Try.prog 55 = true := hasBody_of Try.func55 (by kernel_rfl)
end Go.Proofs.Ytpbejdlpkpehlaa
