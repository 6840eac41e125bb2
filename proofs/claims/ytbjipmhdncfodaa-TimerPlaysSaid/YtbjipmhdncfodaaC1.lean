/- The code of the small machine for some of the program's functions: printed by program; each is what the rules make of the program's own. -/
import Derived.Test.YtbjipmhdncfodaaVx16
import Derived.Test.YtbjipmhdncfodaaProg
import Derived.KernelRfl
namespace Go.Proofs.Ytbjipmhdncfodaa
open Go Go.Vx Go.Proofs
/-- slices.partialInsertionSortCmpFunc[*coachyard/timer.entry] -/
def c45 : PFn := ⟨141, Tr.ofList (List.replicate 141 undefA), (.seq (.seqR [⟨.move, [.const (.bool false)], (some 8), none⟩])
 (.seq (.seqR [⟨.move, [.tmp 1], (some 13), none⟩,
 ⟨(.bin .add), [.tmp 13, .const (.int .i64 1)], (some 14), none⟩,
 ⟨.move, [.tmp 14], (some 9), none⟩])
 (.seq (.seq (.seqR [⟨.move, [.const (.int .i64 0)], (some 10), none⟩])
 (.block 0 (.loop (.seq (.seq (.seqR [⟨.move, [.tmp 10], (some 15), none⟩,
 ⟨(.bin .lss), [.tmp 15, .const (.int .i64 5)], (some 16), none⟩])
 (.cond (.tmp 16) .skip
 (.exit 0)))
 (.seq (.block 1 (.seq (.block 2 (.loop (.seq (.seq (.drawR [⟨⟨.move, [.tmp 9], (some 19), none⟩, false, false, 0, 0⟩,
 ⟨⟨.move, [.tmp 2], (some 20), none⟩, false, false, 0, 0⟩,
 ⟨⟨(.bin .lss), [.tmp 19, .tmp 20], (some 21), none⟩, false, false, 0, 0⟩,
 ⟨⟨.move, [.tmp 21], (some 22), none⟩, false, false, 0, 0⟩,
 ⟨⟨.move, [.tmp 3], (some 23), some (22, true)⟩, false, false, 0, 0⟩,
 ⟨⟨.move, [.tmp 0], (some 24), some (22, true)⟩, false, false, 0, 0⟩,
 ⟨⟨.move, [.tmp 9], (some 25), some (22, true)⟩, false, false, 0, 0⟩,
 ⟨⟨(.indexAddrS 1), [.tmp 24, .tmp 25], (some 26), some (22, true)⟩, false, false, 0, 0⟩,
 ⟨⟨(.load false 1), [.tmp 26], (some 27), some (22, true)⟩, false, false, 0, 0⟩,
 ⟨⟨.move, [.tmp 0], (some 28), some (22, true)⟩, false, false, 0, 0⟩,
 ⟨⟨.move, [.tmp 9], (some 29), some (22, true)⟩, false, false, 0, 0⟩,
 ⟨⟨(.bin .sub), [.tmp 29, .const (.int .i64 1)], (some 30), some (22, true)⟩, false, false, 0, 0⟩,
 ⟨⟨(.indexAddrS 1), [.tmp 28, .tmp 30], (some 31), some (22, true)⟩, false, false, 0, 0⟩,
 ⟨⟨(.load false 1), [.tmp 31], (some 32), some (22, true)⟩, false, false, 0, 0⟩,
 ⟨⟨.callV, [.tmp 23, .tmp 27, .tmp 32], (some 33), some (22, true)⟩, true, false, 0, 1⟩,
 ⟨⟨(.bin .lss), [.tmp 33, .const (.int .i64 0)], (some 34), some (22, true)⟩, false, false, 1, 1⟩,
 ⟨⟨.not, [.tmp 34], (some 35), some (22, true)⟩, false, false, 1, 1⟩,
 ⟨⟨.pick, [.tmp 22, .tmp 35, .const (.bool false)], (some 36), none⟩, false, false, 1, 1⟩])
 (.cond (.tmp 36) .skip
 (.exit 2)))
 (.block 3 (.seqR [⟨.move, [.tmp 9], (some 37), none⟩,
 ⟨(.bin .add), [.tmp 37, .const (.int .i64 1)], (some 38), none⟩,
 ⟨.move, [.tmp 38], (some 9), none⟩])))))
 (.seq (.seq (.seqR [⟨.move, [.tmp 9], (some 39), none⟩,
 ⟨.move, [.tmp 2], (some 40), none⟩,
 ⟨(.bin .eql), [.tmp 39, .tmp 40], (some 41), none⟩])
 (.cond (.tmp 41) (.seq (.seqR [⟨.move, [.const (.bool true)], (some 8), none⟩])
 .ret)
 .skip))
 (.seq (.seq (.seqR [⟨.move, [.tmp 2], (some 42), none⟩,
 ⟨.move, [.tmp 1], (some 43), none⟩,
 ⟨(.bin .sub), [.tmp 42, .tmp 43], (some 44), none⟩,
 ⟨(.bin .lss), [.tmp 44, .const (.int .i64 50)], (some 45), none⟩])
 (.cond (.tmp 45) (.seq (.seqR [⟨.move, [.const (.bool false)], (some 8), none⟩])
 .ret)
 .skip))
 (.seq (.drawR [⟨⟨.move, [.tmp 0], (some 46), none⟩, false, false, 0, 0⟩,
 ⟨⟨.move, [.tmp 9], (some 47), none⟩, false, false, 0, 0⟩,
 ⟨⟨.move, [.tmp 0], (some 48), none⟩, false, false, 0, 1⟩,
 ⟨⟨.move, [.tmp 9], (some 49), none⟩, false, false, 0, 1⟩,
 ⟨⟨(.bin .sub), [.tmp 49, .const (.int .i64 1)], (some 50), none⟩, false, false, 0, 1⟩,
 ⟨⟨.move, [.tmp 0], (some 51), none⟩, false, false, 0, 0⟩,
 ⟨⟨.move, [.tmp 9], (some 52), none⟩, false, false, 0, 0⟩,
 ⟨⟨(.bin .sub), [.tmp 52, .const (.int .i64 1)], (some 53), none⟩, false, false, 0, 0⟩,
 ⟨⟨(.indexAddrS 1), [.tmp 51, .tmp 53], (some 54), none⟩, false, false, 0, 0⟩,
 ⟨⟨(.load false 1), [.tmp 54], (some 55), none⟩, false, false, 0, 0⟩,
 ⟨⟨.move, [.tmp 0], (some 56), none⟩, false, false, 0, 0⟩,
 ⟨⟨.move, [.tmp 9], (some 57), none⟩, false, false, 0, 0⟩,
 ⟨⟨(.indexAddrS 1), [.tmp 56, .tmp 57], (some 58), none⟩, false, false, 0, 0⟩,
 ⟨⟨(.load false 1), [.tmp 58], (some 59), none⟩, false, false, 0, 0⟩,
 ⟨⟨(.indexAddrS 1), [.tmp 46, .tmp 47], (some 60), none⟩, false, false, 0, 0⟩,
 ⟨⟨(.store 1), [.tmp 60, .tmp 55], none, none⟩, true, false, 0, 1⟩,
 ⟨⟨(.indexAddrS 1), [.tmp 48, .tmp 50], (some 61), none⟩, false, false, 1, 1⟩,
 ⟨⟨(.store 1), [.tmp 61, .tmp 59], none, none⟩, true, false, 1, 2⟩])
 (.seq (.seq (.seqR [⟨.move, [.tmp 9], (some 62), none⟩,
 ⟨.move, [.tmp 1], (some 63), none⟩,
 ⟨(.bin .sub), [.tmp 62, .tmp 63], (some 64), none⟩,
 ⟨(.bin .geq), [.tmp 64, .const (.int .i64 2)], (some 65), none⟩])
 (.cond (.tmp 65) (.seq (.seqR [⟨.move, [.tmp 9], (some 66), none⟩,
 ⟨(.bin .sub), [.tmp 66, .const (.int .i64 1)], (some 67), none⟩,
 ⟨.move, [.tmp 67], (some 11), none⟩])
 (.block 4 (.loop (.seq (.seq (.seqR [⟨.move, [.tmp 11], (some 68), none⟩,
 ⟨(.bin .geq), [.tmp 68, .const (.int .i64 1)], (some 69), none⟩])
 (.cond (.tmp 69) .skip
 (.exit 4)))
 (.seq (.block 5 (.seq (.seq (.drawR [⟨⟨.move, [.tmp 3], (some 72), none⟩, false, false, 0, 0⟩,
 ⟨⟨.move, [.tmp 0], (some 73), none⟩, false, false, 0, 0⟩,
 ⟨⟨.move, [.tmp 11], (some 74), none⟩, false, false, 0, 0⟩,
 ⟨⟨(.indexAddrS 1), [.tmp 73, .tmp 74], (some 75), none⟩, false, false, 0, 0⟩,
 ⟨⟨(.load false 1), [.tmp 75], (some 76), none⟩, false, false, 0, 0⟩,
 ⟨⟨.move, [.tmp 0], (some 77), none⟩, false, false, 0, 0⟩,
 ⟨⟨.move, [.tmp 11], (some 78), none⟩, false, false, 0, 0⟩,
 ⟨⟨(.bin .sub), [.tmp 78, .const (.int .i64 1)], (some 79), none⟩, false, false, 0, 0⟩,
 ⟨⟨(.indexAddrS 1), [.tmp 77, .tmp 79], (some 80), none⟩, false, false, 0, 0⟩,
 ⟨⟨(.load false 1), [.tmp 80], (some 81), none⟩, false, false, 0, 0⟩,
 ⟨⟨.callV, [.tmp 72, .tmp 76, .tmp 81], (some 82), none⟩, true, false, 0, 1⟩,
 ⟨⟨(.bin .lss), [.tmp 82, .const (.int .i64 0)], (some 83), none⟩, false, false, 1, 1⟩,
 ⟨⟨.not, [.tmp 83], (some 84), none⟩, false, false, 1, 1⟩])
 (.cond (.tmp 84) (.exit 4)
 .skip))
 (.drawR [⟨⟨.move, [.tmp 0], (some 85), none⟩, false, false, 0, 0⟩,
 ⟨⟨.move, [.tmp 11], (some 86), none⟩, false, false, 0, 0⟩,
 ⟨⟨.move, [.tmp 0], (some 87), none⟩, false, false, 0, 1⟩,
 ⟨⟨.move, [.tmp 11], (some 88), none⟩, false, false, 0, 1⟩,
 ⟨⟨(.bin .sub), [.tmp 88, .const (.int .i64 1)], (some 89), none⟩, false, false, 0, 1⟩,
 ⟨⟨.move, [.tmp 0], (some 90), none⟩, false, false, 0, 0⟩,
 ⟨⟨.move, [.tmp 11], (some 91), none⟩, false, false, 0, 0⟩,
 ⟨⟨(.bin .sub), [.tmp 91, .const (.int .i64 1)], (some 92), none⟩, false, false, 0, 0⟩,
 ⟨⟨(.indexAddrS 1), [.tmp 90, .tmp 92], (some 93), none⟩, false, false, 0, 0⟩,
 ⟨⟨(.load false 1), [.tmp 93], (some 94), none⟩, false, false, 0, 0⟩,
 ⟨⟨.move, [.tmp 0], (some 95), none⟩, false, false, 0, 0⟩,
 ⟨⟨.move, [.tmp 11], (some 96), none⟩, false, false, 0, 0⟩,
 ⟨⟨(.indexAddrS 1), [.tmp 95, .tmp 96], (some 97), none⟩, false, false, 0, 0⟩,
 ⟨⟨(.load false 1), [.tmp 97], (some 98), none⟩, false, false, 0, 0⟩,
 ⟨⟨(.indexAddrS 1), [.tmp 85, .tmp 86], (some 99), none⟩, false, false, 0, 0⟩,
 ⟨⟨(.store 1), [.tmp 99, .tmp 94], none, none⟩, true, false, 0, 1⟩,
 ⟨⟨(.indexAddrS 1), [.tmp 87, .tmp 89], (some 100), none⟩, false, false, 1, 1⟩,
 ⟨⟨(.store 1), [.tmp 100, .tmp 98], none, none⟩, true, false, 1, 2⟩])))
 (.seqR [⟨.move, [.tmp 11], (some 70), none⟩,
 ⟨(.bin .sub), [.tmp 70, .const (.int .i64 1)], (some 71), none⟩,
 ⟨.move, [.tmp 71], (some 11), none⟩]))))))
 .skip))
 (.seq (.seqR [⟨.move, [.tmp 2], (some 101), none⟩,
 ⟨.move, [.tmp 9], (some 102), none⟩,
 ⟨(.bin .sub), [.tmp 101, .tmp 102], (some 103), none⟩,
 ⟨(.bin .geq), [.tmp 103, .const (.int .i64 2)], (some 104), none⟩])
 (.cond (.tmp 104) (.seq (.seqR [⟨.move, [.tmp 9], (some 105), none⟩,
 ⟨(.bin .add), [.tmp 105, .const (.int .i64 1)], (some 106), none⟩,
 ⟨.move, [.tmp 106], (some 12), none⟩])
 (.block 6 (.loop (.seq (.seq (.seqR [⟨.move, [.tmp 12], (some 107), none⟩,
 ⟨.move, [.tmp 2], (some 108), none⟩,
 ⟨(.bin .lss), [.tmp 107, .tmp 108], (some 109), none⟩])
 (.cond (.tmp 109) .skip
 (.exit 6)))
 (.seq (.block 7 (.seq (.seq (.drawR [⟨⟨.move, [.tmp 3], (some 112), none⟩, false, false, 0, 0⟩,
 ⟨⟨.move, [.tmp 0], (some 113), none⟩, false, false, 0, 0⟩,
 ⟨⟨.move, [.tmp 12], (some 114), none⟩, false, false, 0, 0⟩,
 ⟨⟨(.indexAddrS 1), [.tmp 113, .tmp 114], (some 115), none⟩, false, false, 0, 0⟩,
 ⟨⟨(.load false 1), [.tmp 115], (some 116), none⟩, false, false, 0, 0⟩,
 ⟨⟨.move, [.tmp 0], (some 117), none⟩, false, false, 0, 0⟩,
 ⟨⟨.move, [.tmp 12], (some 118), none⟩, false, false, 0, 0⟩,
 ⟨⟨(.bin .sub), [.tmp 118, .const (.int .i64 1)], (some 119), none⟩, false, false, 0, 0⟩,
 ⟨⟨(.indexAddrS 1), [.tmp 117, .tmp 119], (some 120), none⟩, false, false, 0, 0⟩,
 ⟨⟨(.load false 1), [.tmp 120], (some 121), none⟩, false, false, 0, 0⟩,
 ⟨⟨.callV, [.tmp 112, .tmp 116, .tmp 121], (some 122), none⟩, true, false, 0, 1⟩,
 ⟨⟨(.bin .lss), [.tmp 122, .const (.int .i64 0)], (some 123), none⟩, false, false, 1, 1⟩,
 ⟨⟨.not, [.tmp 123], (some 124), none⟩, false, false, 1, 1⟩])
 (.cond (.tmp 124) (.exit 6)
 .skip))
 (.drawR [⟨⟨.move, [.tmp 0], (some 125), none⟩, false, false, 0, 0⟩,
 ⟨⟨.move, [.tmp 12], (some 126), none⟩, false, false, 0, 0⟩,
 ⟨⟨.move, [.tmp 0], (some 127), none⟩, false, false, 0, 1⟩,
 ⟨⟨.move, [.tmp 12], (some 128), none⟩, false, false, 0, 1⟩,
 ⟨⟨(.bin .sub), [.tmp 128, .const (.int .i64 1)], (some 129), none⟩, false, false, 0, 1⟩,
 ⟨⟨.move, [.tmp 0], (some 130), none⟩, false, false, 0, 0⟩,
 ⟨⟨.move, [.tmp 12], (some 131), none⟩, false, false, 0, 0⟩,
 ⟨⟨(.bin .sub), [.tmp 131, .const (.int .i64 1)], (some 132), none⟩, false, false, 0, 0⟩,
 ⟨⟨(.indexAddrS 1), [.tmp 130, .tmp 132], (some 133), none⟩, false, false, 0, 0⟩,
 ⟨⟨(.load false 1), [.tmp 133], (some 134), none⟩, false, false, 0, 0⟩,
 ⟨⟨.move, [.tmp 0], (some 135), none⟩, false, false, 0, 0⟩,
 ⟨⟨.move, [.tmp 12], (some 136), none⟩, false, false, 0, 0⟩,
 ⟨⟨(.indexAddrS 1), [.tmp 135, .tmp 136], (some 137), none⟩, false, false, 0, 0⟩,
 ⟨⟨(.load false 1), [.tmp 137], (some 138), none⟩, false, false, 0, 0⟩,
 ⟨⟨(.indexAddrS 1), [.tmp 125, .tmp 126], (some 139), none⟩, false, false, 0, 0⟩,
 ⟨⟨(.store 1), [.tmp 139, .tmp 134], none, none⟩, true, false, 0, 1⟩,
 ⟨⟨(.indexAddrS 1), [.tmp 127, .tmp 129], (some 140), none⟩, false, false, 1, 1⟩,
 ⟨⟨(.store 1), [.tmp 140, .tmp 138], none, none⟩, true, false, 1, 2⟩])))
 (.seqR [⟨.move, [.tmp 12], (some 110), none⟩,
 ⟨(.bin .add), [.tmp 110, .const (.int .i64 1)], (some 111), none⟩,
 ⟨.move, [.tmp 111], (some 12), none⟩]))))))
 .skip))))))))
 (.seqR [⟨.move, [.tmp 10], (some 17), none⟩,
 ⟨(.bin .add), [.tmp 17, .const (.int .i64 1)], (some 18), none⟩,
 ⟨.move, [.tmp 18], (some 10), none⟩]))))))
 (.seq (.seqR [⟨.move, [.const (.bool false)], (some 8), none⟩])
 .ret)))), [.tmp 8]⟩
theorem c45_ok : compFunc Try.prog Try.f45 = some c45 := by kernel_rfl
theorem c45_body : hasBody Try.prog 45 = true := hasBody_of Try.func45 (by kernel_rfl)
/-- slices.partitionEqualCmpFunc[*coachyard/timer.entry] -/
def c46 : PFn := ⟨90, Tr.ofList (List.replicate 90 undefA), (.seq (.seqR [⟨.move, [.const (.int .i64 0)], (some 10), none⟩])
 (.seq (.drawR [⟨⟨.move, [.tmp 0], (some 13), none⟩, false, false, 0, 0⟩,
 ⟨⟨.move, [.tmp 1], (some 14), none⟩, false, false, 0, 0⟩,
 ⟨⟨.move, [.tmp 0], (some 15), none⟩, false, false, 0, 1⟩,
 ⟨⟨.move, [.tmp 3], (some 16), none⟩, false, false, 0, 1⟩,
 ⟨⟨.move, [.tmp 0], (some 17), none⟩, false, false, 0, 0⟩,
 ⟨⟨.move, [.tmp 3], (some 18), none⟩, false, false, 0, 0⟩,
 ⟨⟨(.indexAddrS 1), [.tmp 17, .tmp 18], (some 19), none⟩, false, false, 0, 0⟩,
 ⟨⟨(.load false 1), [.tmp 19], (some 20), none⟩, false, false, 0, 0⟩,
 ⟨⟨.move, [.tmp 0], (some 21), none⟩, false, false, 0, 0⟩,
 ⟨⟨.move, [.tmp 1], (some 22), none⟩, false, false, 0, 0⟩,
 ⟨⟨(.indexAddrS 1), [.tmp 21, .tmp 22], (some 23), none⟩, false, false, 0, 0⟩,
 ⟨⟨(.load false 1), [.tmp 23], (some 24), none⟩, false, false, 0, 0⟩,
 ⟨⟨(.indexAddrS 1), [.tmp 13, .tmp 14], (some 25), none⟩, false, false, 0, 0⟩,
 ⟨⟨(.store 1), [.tmp 25, .tmp 20], none, none⟩, true, false, 0, 1⟩,
 ⟨⟨(.indexAddrS 1), [.tmp 15, .tmp 16], (some 26), none⟩, false, false, 1, 1⟩,
 ⟨⟨(.store 1), [.tmp 26, .tmp 24], none, none⟩, true, false, 1, 2⟩])
 (.seq (.seqR [⟨.move, [.tmp 1], (some 27), none⟩,
 ⟨(.bin .add), [.tmp 27, .const (.int .i64 1)], (some 28), none⟩,
 ⟨.move, [.tmp 2], (some 29), none⟩,
 ⟨(.bin .sub), [.tmp 29, .const (.int .i64 1)], (some 30), none⟩,
 ⟨.move, [.tmp 28], (some 11), none⟩,
 ⟨.move, [.tmp 30], (some 12), none⟩])
 (.seq (.block 0 (.loop (.block 1 (.seq (.block 2 (.loop (.seq (.seq (.drawR [⟨⟨.move, [.tmp 11], (some 31), none⟩, false, false, 0, 0⟩,
 ⟨⟨.move, [.tmp 12], (some 32), none⟩, false, false, 0, 0⟩,
 ⟨⟨(.bin .leq), [.tmp 31, .tmp 32], (some 33), none⟩, false, false, 0, 0⟩,
 ⟨⟨.move, [.tmp 33], (some 34), none⟩, false, false, 0, 0⟩,
 ⟨⟨.move, [.tmp 4], (some 35), some (34, true)⟩, false, false, 0, 0⟩,
 ⟨⟨.move, [.tmp 0], (some 36), some (34, true)⟩, false, false, 0, 0⟩,
 ⟨⟨.move, [.tmp 1], (some 37), some (34, true)⟩, false, false, 0, 0⟩,
 ⟨⟨(.indexAddrS 1), [.tmp 36, .tmp 37], (some 38), some (34, true)⟩, false, false, 0, 0⟩,
 ⟨⟨(.load false 1), [.tmp 38], (some 39), some (34, true)⟩, false, false, 0, 0⟩,
 ⟨⟨.move, [.tmp 0], (some 40), some (34, true)⟩, false, false, 0, 0⟩,
 ⟨⟨.move, [.tmp 11], (some 41), some (34, true)⟩, false, false, 0, 0⟩,
 ⟨⟨(.indexAddrS 1), [.tmp 40, .tmp 41], (some 42), some (34, true)⟩, false, false, 0, 0⟩,
 ⟨⟨(.load false 1), [.tmp 42], (some 43), some (34, true)⟩, false, false, 0, 0⟩,
 ⟨⟨.callV, [.tmp 35, .tmp 39, .tmp 43], (some 44), some (34, true)⟩, true, false, 0, 1⟩,
 ⟨⟨(.bin .lss), [.tmp 44, .const (.int .i64 0)], (some 45), some (34, true)⟩, false, false, 1, 1⟩,
 ⟨⟨.not, [.tmp 45], (some 46), some (34, true)⟩, false, false, 1, 1⟩,
 ⟨⟨.pick, [.tmp 34, .tmp 46, .const (.bool false)], (some 47), none⟩, false, false, 1, 1⟩])
 (.cond (.tmp 47) .skip
 (.exit 2)))
 (.block 3 (.seqR [⟨.move, [.tmp 11], (some 48), none⟩,
 ⟨(.bin .add), [.tmp 48, .const (.int .i64 1)], (some 49), none⟩,
 ⟨.move, [.tmp 49], (some 11), none⟩])))))
 (.seq (.block 4 (.loop (.seq (.seq (.drawR [⟨⟨.move, [.tmp 11], (some 50), none⟩, false, false, 0, 0⟩,
 ⟨⟨.move, [.tmp 12], (some 51), none⟩, false, false, 0, 0⟩,
 ⟨⟨(.bin .leq), [.tmp 50, .tmp 51], (some 52), none⟩, false, false, 0, 0⟩,
 ⟨⟨.move, [.tmp 52], (some 53), none⟩, false, false, 0, 0⟩,
 ⟨⟨.move, [.tmp 4], (some 54), some (53, true)⟩, false, false, 0, 0⟩,
 ⟨⟨.move, [.tmp 0], (some 55), some (53, true)⟩, false, false, 0, 0⟩,
 ⟨⟨.move, [.tmp 1], (some 56), some (53, true)⟩, false, false, 0, 0⟩,
 ⟨⟨(.indexAddrS 1), [.tmp 55, .tmp 56], (some 57), some (53, true)⟩, false, false, 0, 0⟩,
 ⟨⟨(.load false 1), [.tmp 57], (some 58), some (53, true)⟩, false, false, 0, 0⟩,
 ⟨⟨.move, [.tmp 0], (some 59), some (53, true)⟩, false, false, 0, 0⟩,
 ⟨⟨.move, [.tmp 12], (some 60), some (53, true)⟩, false, false, 0, 0⟩,
 ⟨⟨(.indexAddrS 1), [.tmp 59, .tmp 60], (some 61), some (53, true)⟩, false, false, 0, 0⟩,
 ⟨⟨(.load false 1), [.tmp 61], (some 62), some (53, true)⟩, false, false, 0, 0⟩,
 ⟨⟨.callV, [.tmp 54, .tmp 58, .tmp 62], (some 63), some (53, true)⟩, true, false, 0, 1⟩,
 ⟨⟨(.bin .lss), [.tmp 63, .const (.int .i64 0)], (some 64), some (53, true)⟩, false, false, 1, 1⟩,
 ⟨⟨.pick, [.tmp 53, .tmp 64, .const (.bool false)], (some 65), none⟩, false, false, 1, 1⟩])
 (.cond (.tmp 65) .skip
 (.exit 4)))
 (.block 5 (.seqR [⟨.move, [.tmp 12], (some 66), none⟩,
 ⟨(.bin .sub), [.tmp 66, .const (.int .i64 1)], (some 67), none⟩,
 ⟨.move, [.tmp 67], (some 12), none⟩])))))
 (.seq (.seq (.seqR [⟨.move, [.tmp 11], (some 68), none⟩,
 ⟨.move, [.tmp 12], (some 69), none⟩,
 ⟨(.bin .gtr), [.tmp 68, .tmp 69], (some 70), none⟩])
 (.cond (.tmp 70) (.exit 0)
 .skip))
 (.seq (.drawR [⟨⟨.move, [.tmp 0], (some 71), none⟩, false, false, 0, 0⟩,
 ⟨⟨.move, [.tmp 11], (some 72), none⟩, false, false, 0, 0⟩,
 ⟨⟨.move, [.tmp 0], (some 73), none⟩, false, false, 0, 1⟩,
 ⟨⟨.move, [.tmp 12], (some 74), none⟩, false, false, 0, 1⟩,
 ⟨⟨.move, [.tmp 0], (some 75), none⟩, false, false, 0, 0⟩,
 ⟨⟨.move, [.tmp 12], (some 76), none⟩, false, false, 0, 0⟩,
 ⟨⟨(.indexAddrS 1), [.tmp 75, .tmp 76], (some 77), none⟩, false, false, 0, 0⟩,
 ⟨⟨(.load false 1), [.tmp 77], (some 78), none⟩, false, false, 0, 0⟩,
 ⟨⟨.move, [.tmp 0], (some 79), none⟩, false, false, 0, 0⟩,
 ⟨⟨.move, [.tmp 11], (some 80), none⟩, false, false, 0, 0⟩,
 ⟨⟨(.indexAddrS 1), [.tmp 79, .tmp 80], (some 81), none⟩, false, false, 0, 0⟩,
 ⟨⟨(.load false 1), [.tmp 81], (some 82), none⟩, false, false, 0, 0⟩,
 ⟨⟨(.indexAddrS 1), [.tmp 71, .tmp 72], (some 83), none⟩, false, false, 0, 0⟩,
 ⟨⟨(.store 1), [.tmp 83, .tmp 78], none, none⟩, true, false, 0, 1⟩,
 ⟨⟨(.indexAddrS 1), [.tmp 73, .tmp 74], (some 84), none⟩, false, false, 1, 1⟩,
 ⟨⟨(.store 1), [.tmp 84, .tmp 82], none, none⟩, true, false, 1, 2⟩])
 (.seq (.seqR [⟨.move, [.tmp 11], (some 85), none⟩,
 ⟨(.bin .add), [.tmp 85, .const (.int .i64 1)], (some 86), none⟩,
 ⟨.move, [.tmp 86], (some 11), none⟩])
 (.seqR [⟨.move, [.tmp 12], (some 87), none⟩,
 ⟨(.bin .sub), [.tmp 87, .const (.int .i64 1)], (some 88), none⟩,
 ⟨.move, [.tmp 88], (some 12), none⟩])))))))))
 (.seq (.seqR [⟨.move, [.tmp 11], (some 89), none⟩,
 ⟨.move, [.tmp 89], (some 10), none⟩])
 .ret))))), [.tmp 10]⟩
theorem c46_ok : compFunc Try.prog Try.f46 = some c46 := by kernel_rfl
theorem c46_body : hasBody Try.prog 46 = true := hasBody_of Try.func46 (by kernel_rfl)
/-- slices.partitionCmpFunc[*coachyard/timer.entry] -/
def c47 : PFn := ⟨178, Tr.ofList (List.replicate 178 undefA), (.seq (.seqR [⟨.move, [.const (.int .i64 0)], (some 10), none⟩,
 ⟨.move, [.const (.bool false)], (some 11), none⟩])
 (.seq (.drawR [⟨⟨.move, [.tmp 0], (some 14), none⟩, false, false, 0, 0⟩,
 ⟨⟨.move, [.tmp 1], (some 15), none⟩, false, false, 0, 0⟩,
 ⟨⟨.move, [.tmp 0], (some 16), none⟩, false, false, 0, 1⟩,
 ⟨⟨.move, [.tmp 3], (some 17), none⟩, false, false, 0, 1⟩,
 ⟨⟨.move, [.tmp 0], (some 18), none⟩, false, false, 0, 0⟩,
 ⟨⟨.move, [.tmp 3], (some 19), none⟩, false, false, 0, 0⟩,
 ⟨⟨(.indexAddrS 1), [.tmp 18, .tmp 19], (some 20), none⟩, false, false, 0, 0⟩,
 ⟨⟨(.load false 1), [.tmp 20], (some 21), none⟩, false, false, 0, 0⟩,
 ⟨⟨.move, [.tmp 0], (some 22), none⟩, false, false, 0, 0⟩,
 ⟨⟨.move, [.tmp 1], (some 23), none⟩, false, false, 0, 0⟩,
 ⟨⟨(.indexAddrS 1), [.tmp 22, .tmp 23], (some 24), none⟩, false, false, 0, 0⟩,
 ⟨⟨(.load false 1), [.tmp 24], (some 25), none⟩, false, false, 0, 0⟩,
 ⟨⟨(.indexAddrS 1), [.tmp 14, .tmp 15], (some 26), none⟩, false, false, 0, 0⟩,
 ⟨⟨(.store 1), [.tmp 26, .tmp 21], none, none⟩, true, false, 0, 1⟩,
 ⟨⟨(.indexAddrS 1), [.tmp 16, .tmp 17], (some 27), none⟩, false, false, 1, 1⟩,
 ⟨⟨(.store 1), [.tmp 27, .tmp 25], none, none⟩, true, false, 1, 2⟩])
 (.seq (.seqR [⟨.move, [.tmp 1], (some 28), none⟩,
 ⟨(.bin .add), [.tmp 28, .const (.int .i64 1)], (some 29), none⟩,
 ⟨.move, [.tmp 2], (some 30), none⟩,
 ⟨(.bin .sub), [.tmp 30, .const (.int .i64 1)], (some 31), none⟩,
 ⟨.move, [.tmp 29], (some 12), none⟩,
 ⟨.move, [.tmp 31], (some 13), none⟩])
 (.seq (.block 0 (.loop (.seq (.seq (.drawR [⟨⟨.move, [.tmp 12], (some 32), none⟩, false, false, 0, 0⟩,
 ⟨⟨.move, [.tmp 13], (some 33), none⟩, false, false, 0, 0⟩,
 ⟨⟨(.bin .leq), [.tmp 32, .tmp 33], (some 34), none⟩, false, false, 0, 0⟩,
 ⟨⟨.move, [.tmp 34], (some 35), none⟩, false, false, 0, 0⟩,
 ⟨⟨.move, [.tmp 4], (some 36), some (35, true)⟩, false, false, 0, 0⟩,
 ⟨⟨.move, [.tmp 0], (some 37), some (35, true)⟩, false, false, 0, 0⟩,
 ⟨⟨.move, [.tmp 12], (some 38), some (35, true)⟩, false, false, 0, 0⟩,
 ⟨⟨(.indexAddrS 1), [.tmp 37, .tmp 38], (some 39), some (35, true)⟩, false, false, 0, 0⟩,
 ⟨⟨(.load false 1), [.tmp 39], (some 40), some (35, true)⟩, false, false, 0, 0⟩,
 ⟨⟨.move, [.tmp 0], (some 41), some (35, true)⟩, false, false, 0, 0⟩,
 ⟨⟨.move, [.tmp 1], (some 42), some (35, true)⟩, false, false, 0, 0⟩,
 ⟨⟨(.indexAddrS 1), [.tmp 41, .tmp 42], (some 43), some (35, true)⟩, false, false, 0, 0⟩,
 ⟨⟨(.load false 1), [.tmp 43], (some 44), some (35, true)⟩, false, false, 0, 0⟩,
 ⟨⟨.callV, [.tmp 36, .tmp 40, .tmp 44], (some 45), some (35, true)⟩, true, false, 0, 1⟩,
 ⟨⟨(.bin .lss), [.tmp 45, .const (.int .i64 0)], (some 46), some (35, true)⟩, false, false, 1, 1⟩,
 ⟨⟨.pick, [.tmp 35, .tmp 46, .const (.bool false)], (some 47), none⟩, false, false, 1, 1⟩])
 (.cond (.tmp 47) .skip
 (.exit 0)))
 (.block 1 (.seqR [⟨.move, [.tmp 12], (some 48), none⟩,
 ⟨(.bin .add), [.tmp 48, .const (.int .i64 1)], (some 49), none⟩,
 ⟨.move, [.tmp 49], (some 12), none⟩])))))
 (.seq (.block 2 (.loop (.seq (.seq (.drawR [⟨⟨.move, [.tmp 12], (some 50), none⟩, false, false, 0, 0⟩,
 ⟨⟨.move, [.tmp 13], (some 51), none⟩, false, false, 0, 0⟩,
 ⟨⟨(.bin .leq), [.tmp 50, .tmp 51], (some 52), none⟩, false, false, 0, 0⟩,
 ⟨⟨.move, [.tmp 52], (some 53), none⟩, false, false, 0, 0⟩,
 ⟨⟨.move, [.tmp 4], (some 54), some (53, true)⟩, false, false, 0, 0⟩,
 ⟨⟨.move, [.tmp 0], (some 55), some (53, true)⟩, false, false, 0, 0⟩,
 ⟨⟨.move, [.tmp 13], (some 56), some (53, true)⟩, false, false, 0, 0⟩,
 ⟨⟨(.indexAddrS 1), [.tmp 55, .tmp 56], (some 57), some (53, true)⟩, false, false, 0, 0⟩,
 ⟨⟨(.load false 1), [.tmp 57], (some 58), some (53, true)⟩, false, false, 0, 0⟩,
 ⟨⟨.move, [.tmp 0], (some 59), some (53, true)⟩, false, false, 0, 0⟩,
 ⟨⟨.move, [.tmp 1], (some 60), some (53, true)⟩, false, false, 0, 0⟩,
 ⟨⟨(.indexAddrS 1), [.tmp 59, .tmp 60], (some 61), some (53, true)⟩, false, false, 0, 0⟩,
 ⟨⟨(.load false 1), [.tmp 61], (some 62), some (53, true)⟩, false, false, 0, 0⟩,
 ⟨⟨.callV, [.tmp 54, .tmp 58, .tmp 62], (some 63), some (53, true)⟩, true, false, 0, 1⟩,
 ⟨⟨(.bin .lss), [.tmp 63, .const (.int .i64 0)], (some 64), some (53, true)⟩, false, false, 1, 1⟩,
 ⟨⟨.not, [.tmp 64], (some 65), some (53, true)⟩, false, false, 1, 1⟩,
 ⟨⟨.pick, [.tmp 53, .tmp 65, .const (.bool false)], (some 66), none⟩, false, false, 1, 1⟩])
 (.cond (.tmp 66) .skip
 (.exit 2)))
 (.block 3 (.seqR [⟨.move, [.tmp 13], (some 67), none⟩,
 ⟨(.bin .sub), [.tmp 67, .const (.int .i64 1)], (some 68), none⟩,
 ⟨.move, [.tmp 68], (some 13), none⟩])))))
 (.seq (.seq (.seqR [⟨.move, [.tmp 12], (some 69), none⟩,
 ⟨.move, [.tmp 13], (some 70), none⟩,
 ⟨(.bin .gtr), [.tmp 69, .tmp 70], (some 71), none⟩])
 (.cond (.tmp 71) (.seq (.drawR [⟨⟨.move, [.tmp 0], (some 72), none⟩, false, false, 0, 0⟩,
 ⟨⟨.move, [.tmp 13], (some 73), none⟩, false, false, 0, 0⟩,
 ⟨⟨.move, [.tmp 0], (some 74), none⟩, false, false, 0, 1⟩,
 ⟨⟨.move, [.tmp 1], (some 75), none⟩, false, false, 0, 1⟩,
 ⟨⟨.move, [.tmp 0], (some 76), none⟩, false, false, 0, 0⟩,
 ⟨⟨.move, [.tmp 1], (some 77), none⟩, false, false, 0, 0⟩,
 ⟨⟨(.indexAddrS 1), [.tmp 76, .tmp 77], (some 78), none⟩, false, false, 0, 0⟩,
 ⟨⟨(.load false 1), [.tmp 78], (some 79), none⟩, false, false, 0, 0⟩,
 ⟨⟨.move, [.tmp 0], (some 80), none⟩, false, false, 0, 0⟩,
 ⟨⟨.move, [.tmp 13], (some 81), none⟩, false, false, 0, 0⟩,
 ⟨⟨(.indexAddrS 1), [.tmp 80, .tmp 81], (some 82), none⟩, false, false, 0, 0⟩,
 ⟨⟨(.load false 1), [.tmp 82], (some 83), none⟩, false, false, 0, 0⟩,
 ⟨⟨(.indexAddrS 1), [.tmp 72, .tmp 73], (some 84), none⟩, false, false, 0, 0⟩,
 ⟨⟨(.store 1), [.tmp 84, .tmp 79], none, none⟩, true, false, 0, 1⟩,
 ⟨⟨(.indexAddrS 1), [.tmp 74, .tmp 75], (some 85), none⟩, false, false, 1, 1⟩,
 ⟨⟨(.store 1), [.tmp 85, .tmp 83], none, none⟩, true, false, 1, 2⟩])
 (.seq (.seqR [⟨.move, [.tmp 13], (some 86), none⟩,
 ⟨.move, [.tmp 86], (some 10), none⟩,
 ⟨.move, [.const (.bool true)], (some 11), none⟩])
 .ret))
 .skip))
 (.seq (.drawR [⟨⟨.move, [.tmp 0], (some 87), none⟩, false, false, 0, 0⟩,
 ⟨⟨.move, [.tmp 12], (some 88), none⟩, false, false, 0, 0⟩,
 ⟨⟨.move, [.tmp 0], (some 89), none⟩, false, false, 0, 1⟩,
 ⟨⟨.move, [.tmp 13], (some 90), none⟩, false, false, 0, 1⟩,
 ⟨⟨.move, [.tmp 0], (some 91), none⟩, false, false, 0, 0⟩,
 ⟨⟨.move, [.tmp 13], (some 92), none⟩, false, false, 0, 0⟩,
 ⟨⟨(.indexAddrS 1), [.tmp 91, .tmp 92], (some 93), none⟩, false, false, 0, 0⟩,
 ⟨⟨(.load false 1), [.tmp 93], (some 94), none⟩, false, false, 0, 0⟩,
 ⟨⟨.move, [.tmp 0], (some 95), none⟩, false, false, 0, 0⟩,
 ⟨⟨.move, [.tmp 12], (some 96), none⟩, false, false, 0, 0⟩,
 ⟨⟨(.indexAddrS 1), [.tmp 95, .tmp 96], (some 97), none⟩, false, false, 0, 0⟩,
 ⟨⟨(.load false 1), [.tmp 97], (some 98), none⟩, false, false, 0, 0⟩,
 ⟨⟨(.indexAddrS 1), [.tmp 87, .tmp 88], (some 99), none⟩, false, false, 0, 0⟩,
 ⟨⟨(.store 1), [.tmp 99, .tmp 94], none, none⟩, true, false, 0, 1⟩,
 ⟨⟨(.indexAddrS 1), [.tmp 89, .tmp 90], (some 100), none⟩, false, false, 1, 1⟩,
 ⟨⟨(.store 1), [.tmp 100, .tmp 98], none, none⟩, true, false, 1, 2⟩])
 (.seq (.seqR [⟨.move, [.tmp 12], (some 101), none⟩,
 ⟨(.bin .add), [.tmp 101, .const (.int .i64 1)], (some 102), none⟩,
 ⟨.move, [.tmp 102], (some 12), none⟩])
 (.seq (.seqR [⟨.move, [.tmp 13], (some 103), none⟩,
 ⟨(.bin .sub), [.tmp 103, .const (.int .i64 1)], (some 104), none⟩,
 ⟨.move, [.tmp 104], (some 13), none⟩])
 (.seq (.block 4 (.loop (.block 5 (.seq (.block 6 (.loop (.seq (.seq (.drawR [⟨⟨.move, [.tmp 12], (some 105), none⟩, false, false, 0, 0⟩,
 ⟨⟨.move, [.tmp 13], (some 106), none⟩, false, false, 0, 0⟩,
 ⟨⟨(.bin .leq), [.tmp 105, .tmp 106], (some 107), none⟩, false, false, 0, 0⟩,
 ⟨⟨.move, [.tmp 107], (some 108), none⟩, false, false, 0, 0⟩,
 ⟨⟨.move, [.tmp 4], (some 109), some (108, true)⟩, false, false, 0, 0⟩,
 ⟨⟨.move, [.tmp 0], (some 110), some (108, true)⟩, false, false, 0, 0⟩,
 ⟨⟨.move, [.tmp 12], (some 111), some (108, true)⟩, false, false, 0, 0⟩,
 ⟨⟨(.indexAddrS 1), [.tmp 110, .tmp 111], (some 112), some (108, true)⟩, false, false, 0, 0⟩,
 ⟨⟨(.load false 1), [.tmp 112], (some 113), some (108, true)⟩, false, false, 0, 0⟩,
 ⟨⟨.move, [.tmp 0], (some 114), some (108, true)⟩, false, false, 0, 0⟩,
 ⟨⟨.move, [.tmp 1], (some 115), some (108, true)⟩, false, false, 0, 0⟩,
 ⟨⟨(.indexAddrS 1), [.tmp 114, .tmp 115], (some 116), some (108, true)⟩, false, false, 0, 0⟩,
 ⟨⟨(.load false 1), [.tmp 116], (some 117), some (108, true)⟩, false, false, 0, 0⟩,
 ⟨⟨.callV, [.tmp 109, .tmp 113, .tmp 117], (some 118), some (108, true)⟩, true, false, 0, 1⟩,
 ⟨⟨(.bin .lss), [.tmp 118, .const (.int .i64 0)], (some 119), some (108, true)⟩, false, false, 1, 1⟩,
 ⟨⟨.pick, [.tmp 108, .tmp 119, .const (.bool false)], (some 120), none⟩, false, false, 1, 1⟩])
 (.cond (.tmp 120) .skip
 (.exit 6)))
 (.block 7 (.seqR [⟨.move, [.tmp 12], (some 121), none⟩,
 ⟨(.bin .add), [.tmp 121, .const (.int .i64 1)], (some 122), none⟩,
 ⟨.move, [.tmp 122], (some 12), none⟩])))))
 (.seq (.block 8 (.loop (.seq (.seq (.drawR [⟨⟨.move, [.tmp 12], (some 123), none⟩, false, false, 0, 0⟩,
 ⟨⟨.move, [.tmp 13], (some 124), none⟩, false, false, 0, 0⟩,
 ⟨⟨(.bin .leq), [.tmp 123, .tmp 124], (some 125), none⟩, false, false, 0, 0⟩,
 ⟨⟨.move, [.tmp 125], (some 126), none⟩, false, false, 0, 0⟩,
 ⟨⟨.move, [.tmp 4], (some 127), some (126, true)⟩, false, false, 0, 0⟩,
 ⟨⟨.move, [.tmp 0], (some 128), some (126, true)⟩, false, false, 0, 0⟩,
 ⟨⟨.move, [.tmp 13], (some 129), some (126, true)⟩, false, false, 0, 0⟩,
 ⟨⟨(.indexAddrS 1), [.tmp 128, .tmp 129], (some 130), some (126, true)⟩, false, false, 0, 0⟩,
 ⟨⟨(.load false 1), [.tmp 130], (some 131), some (126, true)⟩, false, false, 0, 0⟩,
 ⟨⟨.move, [.tmp 0], (some 132), some (126, true)⟩, false, false, 0, 0⟩,
 ⟨⟨.move, [.tmp 1], (some 133), some (126, true)⟩, false, false, 0, 0⟩,
 ⟨⟨(.indexAddrS 1), [.tmp 132, .tmp 133], (some 134), some (126, true)⟩, false, false, 0, 0⟩,
 ⟨⟨(.load false 1), [.tmp 134], (some 135), some (126, true)⟩, false, false, 0, 0⟩,
 ⟨⟨.callV, [.tmp 127, .tmp 131, .tmp 135], (some 136), some (126, true)⟩, true, false, 0, 1⟩,
 ⟨⟨(.bin .lss), [.tmp 136, .const (.int .i64 0)], (some 137), some (126, true)⟩, false, false, 1, 1⟩,
 ⟨⟨.not, [.tmp 137], (some 138), some (126, true)⟩, false, false, 1, 1⟩,
 ⟨⟨.pick, [.tmp 126, .tmp 138, .const (.bool false)], (some 139), none⟩, false, false, 1, 1⟩])
 (.cond (.tmp 139) .skip
 (.exit 8)))
 (.block 9 (.seqR [⟨.move, [.tmp 13], (some 140), none⟩,
 ⟨(.bin .sub), [.tmp 140, .const (.int .i64 1)], (some 141), none⟩,
 ⟨.move, [.tmp 141], (some 13), none⟩])))))
 (.seq (.seq (.seqR [⟨.move, [.tmp 12], (some 142), none⟩,
 ⟨.move, [.tmp 13], (some 143), none⟩,
 ⟨(.bin .gtr), [.tmp 142, .tmp 143], (some 144), none⟩])
 (.cond (.tmp 144) (.exit 4)
 .skip))
 (.seq (.drawR [⟨⟨.move, [.tmp 0], (some 145), none⟩, false, false, 0, 0⟩,
 ⟨⟨.move, [.tmp 12], (some 146), none⟩, false, false, 0, 0⟩,
 ⟨⟨.move, [.tmp 0], (some 147), none⟩, false, false, 0, 1⟩,
 ⟨⟨.move, [.tmp 13], (some 148), none⟩, false, false, 0, 1⟩,
 ⟨⟨.move, [.tmp 0], (some 149), none⟩, false, false, 0, 0⟩,
 ⟨⟨.move, [.tmp 13], (some 150), none⟩, false, false, 0, 0⟩,
 ⟨⟨(.indexAddrS 1), [.tmp 149, .tmp 150], (some 151), none⟩, false, false, 0, 0⟩,
 ⟨⟨(.load false 1), [.tmp 151], (some 152), none⟩, false, false, 0, 0⟩,
 ⟨⟨.move, [.tmp 0], (some 153), none⟩, false, false, 0, 0⟩,
 ⟨⟨.move, [.tmp 12], (some 154), none⟩, false, false, 0, 0⟩,
 ⟨⟨(.indexAddrS 1), [.tmp 153, .tmp 154], (some 155), none⟩, false, false, 0, 0⟩,
 ⟨⟨(.load false 1), [.tmp 155], (some 156), none⟩, false, false, 0, 0⟩,
 ⟨⟨(.indexAddrS 1), [.tmp 145, .tmp 146], (some 157), none⟩, false, false, 0, 0⟩,
 ⟨⟨(.store 1), [.tmp 157, .tmp 152], none, none⟩, true, false, 0, 1⟩,
 ⟨⟨(.indexAddrS 1), [.tmp 147, .tmp 148], (some 158), none⟩, false, false, 1, 1⟩,
 ⟨⟨(.store 1), [.tmp 158, .tmp 156], none, none⟩, true, false, 1, 2⟩])
 (.seq (.seqR [⟨.move, [.tmp 12], (some 159), none⟩,
 ⟨(.bin .add), [.tmp 159, .const (.int .i64 1)], (some 160), none⟩,
 ⟨.move, [.tmp 160], (some 12), none⟩])
 (.seqR [⟨.move, [.tmp 13], (some 161), none⟩,
 ⟨(.bin .sub), [.tmp 161, .const (.int .i64 1)], (some 162), none⟩,
 ⟨.move, [.tmp 162], (some 13), none⟩])))))))))
 (.seq (.drawR [⟨⟨.move, [.tmp 0], (some 163), none⟩, false, false, 0, 0⟩,
 ⟨⟨.move, [.tmp 13], (some 164), none⟩, false, false, 0, 0⟩,
 ⟨⟨.move, [.tmp 0], (some 165), none⟩, false, false, 0, 1⟩,
 ⟨⟨.move, [.tmp 1], (some 166), none⟩, false, false, 0, 1⟩,
 ⟨⟨.move, [.tmp 0], (some 167), none⟩, false, false, 0, 0⟩,
 ⟨⟨.move, [.tmp 1], (some 168), none⟩, false, false, 0, 0⟩,
 ⟨⟨(.indexAddrS 1), [.tmp 167, .tmp 168], (some 169), none⟩, false, false, 0, 0⟩,
 ⟨⟨(.load false 1), [.tmp 169], (some 170), none⟩, false, false, 0, 0⟩,
 ⟨⟨.move, [.tmp 0], (some 171), none⟩, false, false, 0, 0⟩,
 ⟨⟨.move, [.tmp 13], (some 172), none⟩, false, false, 0, 0⟩,
 ⟨⟨(.indexAddrS 1), [.tmp 171, .tmp 172], (some 173), none⟩, false, false, 0, 0⟩,
 ⟨⟨(.load false 1), [.tmp 173], (some 174), none⟩, false, false, 0, 0⟩,
 ⟨⟨(.indexAddrS 1), [.tmp 163, .tmp 164], (some 175), none⟩, false, false, 0, 0⟩,
 ⟨⟨(.store 1), [.tmp 175, .tmp 170], none, none⟩, true, false, 0, 1⟩,
 ⟨⟨(.indexAddrS 1), [.tmp 165, .tmp 166], (some 176), none⟩, false, false, 1, 1⟩,
 ⟨⟨(.store 1), [.tmp 176, .tmp 174], none, none⟩, true, false, 1, 2⟩])
 (.seq (.seqR [⟨.move, [.tmp 13], (some 177), none⟩,
 ⟨.move, [.tmp 177], (some 10), none⟩,
 ⟨.move, [.const (.bool false)], (some 11), none⟩])
 .ret)))))))))))), [.tmp 10, .tmp 11]⟩
theorem c47_ok : compFunc Try.prog Try.f47 = some c47 := by kernel_rfl
theorem c47_body : hasBody Try.prog 47 = true := hasBody_of Try.func47 (by kernel_rfl)
/-- math/bits.Len32 -/
def c48 : PFn := ⟨19, Tr.ofList (List.replicate 19 undefA), (.seq (.seqR [⟨.move, [.const (.int .i64 0)], (some 2), none⟩])
 (.seq (.seq (.seqR [⟨.move, [.tmp 0], (some 3), none⟩,
 ⟨(.bin .geq), [.tmp 3, .const (.int .u32 65536)], (some 4), none⟩])
 (.cond (.tmp 4) (.seq (.seqR [⟨.move, [.tmp 0], (some 5), none⟩,
 ⟨(.bin .shr), [.tmp 5, .const (.int .u64 16)], (some 6), none⟩,
 ⟨.move, [.tmp 6], (some 0), none⟩])
 (.seqR [⟨.move, [.const (.int .i64 16)], (some 2), none⟩]))
 .skip))
 (.seq (.seq (.seqR [⟨.move, [.tmp 0], (some 7), none⟩,
 ⟨(.bin .geq), [.tmp 7, .const (.int .u32 256)], (some 8), none⟩])
 (.cond (.tmp 8) (.seq (.seqR [⟨.move, [.tmp 0], (some 9), none⟩,
 ⟨(.bin .shr), [.tmp 9, .const (.int .u64 8)], (some 10), none⟩,
 ⟨.move, [.tmp 10], (some 0), none⟩])
 (.seqR [⟨.move, [.tmp 2], (some 11), none⟩,
 ⟨(.bin .add), [.tmp 11, .const (.int .i64 8)], (some 12), none⟩,
 ⟨.move, [.tmp 12], (some 2), none⟩]))
 .skip))
 (.seq (.seqR [⟨.move, [.tmp 2], (some 13), none⟩,
 ⟨.move, [.tmp 0], (some 14), none⟩,
 ⟨(.conv .u8), [.tmp 14], (some 15), none⟩,
 ⟨.indexStr, [.const (.str ⟨#[0, 1, 2, 2, 3, 3, 3, 3, 4, 4, 4, 4, 4, 4, 4, 4, 5, 5, 5, 5, 5, 5, 5, 5, 5, 5, 5, 5, 5, 5, 5, 5, 6, 6, 6, 6, 6, 6, 6, 6, 6, 6, 6, 6, 6, 6, 6, 6, 6, 6, 6, 6, 6, 6, 6, 6, 6, 6, 6, 6, 6, 6, 6, 6, 7, 7, 7, 7, 7, 7, 7, 7, 7, 7, 7, 7, 7, 7, 7, 7, 7, 7, 7, 7, 7, 7, 7, 7, 7, 7, 7, 7, 7, 7, 7, 7, 7, 7, 7, 7, 7, 7, 7, 7, 7, 7, 7, 7, 7, 7, 7, 7, 7, 7, 7, 7, 7, 7, 7, 7, 7, 7, 7, 7, 7, 7, 7, 7, 8, 8, 8, 8, 8, 8, 8, 8, 8, 8, 8, 8, 8, 8, 8, 8, 8, 8, 8, 8, 8, 8, 8, 8, 8, 8, 8, 8, 8, 8, 8, 8, 8, 8, 8, 8, 8, 8, 8, 8, 8, 8, 8, 8, 8, 8, 8, 8, 8, 8, 8, 8, 8, 8, 8, 8, 8, 8, 8, 8, 8, 8, 8, 8, 8, 8, 8, 8, 8, 8, 8, 8, 8, 8, 8, 8, 8, 8, 8, 8, 8, 8, 8, 8, 8, 8, 8, 8, 8, 8, 8, 8, 8, 8, 8, 8, 8, 8, 8, 8, 8, 8, 8, 8, 8, 8, 8, 8, 8, 8, 8, 8, 8, 8, 8, 8, 8, 8, 8, 8, 8, 8, 8, 8, 8, 8, 8, 8]⟩), .tmp 15], (some 16), none⟩,
 ⟨(.conv .i64), [.tmp 16], (some 17), none⟩,
 ⟨(.bin .add), [.tmp 13, .tmp 17], (some 18), none⟩,
 ⟨.move, [.tmp 18], (some 2), none⟩])
 .ret)))), [.tmp 2]⟩
theorem c48_ok : compFunc Try.prog Try.f48 = some c48 := by kernel_rfl
theorem c48_body : hasBody Try.prog 48 = true := hasBody_of Try.func48 (by kernel_rfl)
/-- math/bits.Len64 -/
def c49 : PFn := ⟨25, Tr.ofList (List.replicate 25 undefA), (.seq (.seqR [⟨.move, [.const (.int .i64 0)], (some 2), none⟩])
 (.seq (.seq (.seqR [⟨.move, [.tmp 0], (some 3), none⟩,
 ⟨(.bin .geq), [.tmp 3, .const (.int .u64 4294967296)], (some 4), none⟩])
 (.cond (.tmp 4) (.seq (.seqR [⟨.move, [.tmp 0], (some 5), none⟩,
 ⟨(.bin .shr), [.tmp 5, .const (.int .u64 32)], (some 6), none⟩,
 ⟨.move, [.tmp 6], (some 0), none⟩])
 (.seqR [⟨.move, [.const (.int .i64 32)], (some 2), none⟩]))
 .skip))
 (.seq (.seq (.seqR [⟨.move, [.tmp 0], (some 7), none⟩,
 ⟨(.bin .geq), [.tmp 7, .const (.int .u64 65536)], (some 8), none⟩])
 (.cond (.tmp 8) (.seq (.seqR [⟨.move, [.tmp 0], (some 9), none⟩,
 ⟨(.bin .shr), [.tmp 9, .const (.int .u64 16)], (some 10), none⟩,
 ⟨.move, [.tmp 10], (some 0), none⟩])
 (.seqR [⟨.move, [.tmp 2], (some 11), none⟩,
 ⟨(.bin .add), [.tmp 11, .const (.int .i64 16)], (some 12), none⟩,
 ⟨.move, [.tmp 12], (some 2), none⟩]))
 .skip))
 (.seq (.seq (.seqR [⟨.move, [.tmp 0], (some 13), none⟩,
 ⟨(.bin .geq), [.tmp 13, .const (.int .u64 256)], (some 14), none⟩])
 (.cond (.tmp 14) (.seq (.seqR [⟨.move, [.tmp 0], (some 15), none⟩,
 ⟨(.bin .shr), [.tmp 15, .const (.int .u64 8)], (some 16), none⟩,
 ⟨.move, [.tmp 16], (some 0), none⟩])
 (.seqR [⟨.move, [.tmp 2], (some 17), none⟩,
 ⟨(.bin .add), [.tmp 17, .const (.int .i64 8)], (some 18), none⟩,
 ⟨.move, [.tmp 18], (some 2), none⟩]))
 .skip))
 (.seq (.seqR [⟨.move, [.tmp 2], (some 19), none⟩,
 ⟨.move, [.tmp 0], (some 20), none⟩,
 ⟨(.conv .u8), [.tmp 20], (some 21), none⟩,
 ⟨.indexStr, [.const (.str ⟨#[0, 1, 2, 2, 3, 3, 3, 3, 4, 4, 4, 4, 4, 4, 4, 4, 5, 5, 5, 5, 5, 5, 5, 5, 5, 5, 5, 5, 5, 5, 5, 5, 6, 6, 6, 6, 6, 6, 6, 6, 6, 6, 6, 6, 6, 6, 6, 6, 6, 6, 6, 6, 6, 6, 6, 6, 6, 6, 6, 6, 6, 6, 6, 6, 7, 7, 7, 7, 7, 7, 7, 7, 7, 7, 7, 7, 7, 7, 7, 7, 7, 7, 7, 7, 7, 7, 7, 7, 7, 7, 7, 7, 7, 7, 7, 7, 7, 7, 7, 7, 7, 7, 7, 7, 7, 7, 7, 7, 7, 7, 7, 7, 7, 7, 7, 7, 7, 7, 7, 7, 7, 7, 7, 7, 7, 7, 7, 7, 8, 8, 8, 8, 8, 8, 8, 8, 8, 8, 8, 8, 8, 8, 8, 8, 8, 8, 8, 8, 8, 8, 8, 8, 8, 8, 8, 8, 8, 8, 8, 8, 8, 8, 8, 8, 8, 8, 8, 8, 8, 8, 8, 8, 8, 8, 8, 8, 8, 8, 8, 8, 8, 8, 8, 8, 8, 8, 8, 8, 8, 8, 8, 8, 8, 8, 8, 8, 8, 8, 8, 8, 8, 8, 8, 8, 8, 8, 8, 8, 8, 8, 8, 8, 8, 8, 8, 8, 8, 8, 8, 8, 8, 8, 8, 8, 8, 8, 8, 8, 8, 8, 8, 8, 8, 8, 8, 8, 8, 8, 8, 8, 8, 8, 8, 8, 8, 8, 8, 8, 8, 8, 8, 8, 8, 8, 8, 8]⟩), .tmp 21], (some 22), none⟩,
 ⟨(.conv .i64), [.tmp 22], (some 23), none⟩,
 ⟨(.bin .add), [.tmp 19, .tmp 23], (some 24), none⟩,
 ⟨.move, [.tmp 24], (some 2), none⟩])
 .ret))))), [.tmp 2]⟩
theorem c49_ok : compFunc Try.prog Try.f49 = some c49 := by kernel_rfl
theorem c49_body : hasBody Try.prog 49 = true := hasBody_of Try.func49 (by kernel_rfl)
/-- slices.siftDownCmpFunc[*coachyard/timer.entry] -/
def c50 : PFn := ⟨82, Tr.ofList (List.replicate 82 undefA), (.seq (.seqR [⟨.move, [.tmp 1], (some 12), none⟩,
 ⟨.move, [.tmp 12], (some 10), none⟩])
 (.block 0 (.loop (.block 1 (.seq (.seqR [⟨.move, [.tmp 10], (some 13), none⟩,
 ⟨(.bin .mul), [.const (.int .i64 2), .tmp 13], (some 14), none⟩,
 ⟨(.bin .add), [.tmp 14, .const (.int .i64 1)], (some 15), none⟩,
 ⟨.move, [.tmp 15], (some 11), none⟩])
 (.seq (.seq (.seqR [⟨.move, [.tmp 11], (some 16), none⟩,
 ⟨.move, [.tmp 2], (some 17), none⟩,
 ⟨(.bin .geq), [.tmp 16, .tmp 17], (some 18), none⟩])
 (.cond (.tmp 18) (.exit 0)
 .skip))
 (.seq (.seq (.drawR [⟨⟨.move, [.tmp 11], (some 19), none⟩, false, false, 0, 0⟩,
 ⟨⟨(.bin .add), [.tmp 19, .const (.int .i64 1)], (some 20), none⟩, false, false, 0, 0⟩,
 ⟨⟨.move, [.tmp 2], (some 21), none⟩, false, false, 0, 0⟩,
 ⟨⟨(.bin .lss), [.tmp 20, .tmp 21], (some 22), none⟩, false, false, 0, 0⟩,
 ⟨⟨.move, [.tmp 22], (some 23), none⟩, false, false, 0, 0⟩,
 ⟨⟨.move, [.tmp 4], (some 24), some (23, true)⟩, false, false, 0, 0⟩,
 ⟨⟨.move, [.tmp 0], (some 25), some (23, true)⟩, false, false, 0, 0⟩,
 ⟨⟨.move, [.tmp 3], (some 26), some (23, true)⟩, false, false, 0, 0⟩,
 ⟨⟨.move, [.tmp 11], (some 27), some (23, true)⟩, false, false, 0, 0⟩,
 ⟨⟨(.bin .add), [.tmp 26, .tmp 27], (some 28), some (23, true)⟩, false, false, 0, 0⟩,
 ⟨⟨(.indexAddrS 1), [.tmp 25, .tmp 28], (some 29), some (23, true)⟩, false, false, 0, 0⟩,
 ⟨⟨(.load false 1), [.tmp 29], (some 30), some (23, true)⟩, false, false, 0, 0⟩,
 ⟨⟨.move, [.tmp 0], (some 31), some (23, true)⟩, false, false, 0, 0⟩,
 ⟨⟨.move, [.tmp 3], (some 32), some (23, true)⟩, false, false, 0, 0⟩,
 ⟨⟨.move, [.tmp 11], (some 33), some (23, true)⟩, false, false, 0, 0⟩,
 ⟨⟨(.bin .add), [.tmp 32, .tmp 33], (some 34), some (23, true)⟩, false, false, 0, 0⟩,
 ⟨⟨(.bin .add), [.tmp 34, .const (.int .i64 1)], (some 35), some (23, true)⟩, false, false, 0, 0⟩,
 ⟨⟨(.indexAddrS 1), [.tmp 31, .tmp 35], (some 36), some (23, true)⟩, false, false, 0, 0⟩,
 ⟨⟨(.load false 1), [.tmp 36], (some 37), some (23, true)⟩, false, false, 0, 0⟩,
 ⟨⟨.callV, [.tmp 24, .tmp 30, .tmp 37], (some 38), some (23, true)⟩, true, false, 0, 1⟩,
 ⟨⟨(.bin .lss), [.tmp 38, .const (.int .i64 0)], (some 39), some (23, true)⟩, false, false, 1, 1⟩,
 ⟨⟨.pick, [.tmp 23, .tmp 39, .const (.bool false)], (some 40), none⟩, false, false, 1, 1⟩])
 (.cond (.tmp 40) (.seqR [⟨.move, [.tmp 11], (some 41), none⟩,
 ⟨(.bin .add), [.tmp 41, .const (.int .i64 1)], (some 42), none⟩,
 ⟨.move, [.tmp 42], (some 11), none⟩])
 .skip))
 (.seq (.seq (.drawR [⟨⟨.move, [.tmp 4], (some 43), none⟩, false, false, 0, 0⟩,
 ⟨⟨.move, [.tmp 0], (some 44), none⟩, false, false, 0, 0⟩,
 ⟨⟨.move, [.tmp 3], (some 45), none⟩, false, false, 0, 0⟩,
 ⟨⟨.move, [.tmp 10], (some 46), none⟩, false, false, 0, 0⟩,
 ⟨⟨(.bin .add), [.tmp 45, .tmp 46], (some 47), none⟩, false, false, 0, 0⟩,
 ⟨⟨(.indexAddrS 1), [.tmp 44, .tmp 47], (some 48), none⟩, false, false, 0, 0⟩,
 ⟨⟨(.load false 1), [.tmp 48], (some 49), none⟩, false, false, 0, 0⟩,
 ⟨⟨.move, [.tmp 0], (some 50), none⟩, false, false, 0, 0⟩,
 ⟨⟨.move, [.tmp 3], (some 51), none⟩, false, false, 0, 0⟩,
 ⟨⟨.move, [.tmp 11], (some 52), none⟩, false, false, 0, 0⟩,
 ⟨⟨(.bin .add), [.tmp 51, .tmp 52], (some 53), none⟩, false, false, 0, 0⟩,
 ⟨⟨(.indexAddrS 1), [.tmp 50, .tmp 53], (some 54), none⟩, false, false, 0, 0⟩,
 ⟨⟨(.load false 1), [.tmp 54], (some 55), none⟩, false, false, 0, 0⟩,
 ⟨⟨.callV, [.tmp 43, .tmp 49, .tmp 55], (some 56), none⟩, true, false, 0, 1⟩,
 ⟨⟨(.bin .lss), [.tmp 56, .const (.int .i64 0)], (some 57), none⟩, false, false, 1, 1⟩,
 ⟨⟨.not, [.tmp 57], (some 58), none⟩, false, false, 1, 1⟩])
 (.cond (.tmp 58) .ret
 .skip))
 (.seq (.drawR [⟨⟨.move, [.tmp 0], (some 59), none⟩, false, false, 0, 0⟩,
 ⟨⟨.move, [.tmp 3], (some 60), none⟩, false, false, 0, 0⟩,
 ⟨⟨.move, [.tmp 10], (some 61), none⟩, false, false, 0, 0⟩,
 ⟨⟨(.bin .add), [.tmp 60, .tmp 61], (some 62), none⟩, false, false, 0, 0⟩,
 ⟨⟨.move, [.tmp 0], (some 63), none⟩, false, false, 0, 1⟩,
 ⟨⟨.move, [.tmp 3], (some 64), none⟩, false, false, 0, 1⟩,
 ⟨⟨.move, [.tmp 11], (some 65), none⟩, false, false, 0, 1⟩,
 ⟨⟨(.bin .add), [.tmp 64, .tmp 65], (some 66), none⟩, false, false, 0, 1⟩,
 ⟨⟨.move, [.tmp 0], (some 67), none⟩, false, false, 0, 0⟩,
 ⟨⟨.move, [.tmp 3], (some 68), none⟩, false, false, 0, 0⟩,
 ⟨⟨.move, [.tmp 11], (some 69), none⟩, false, false, 0, 0⟩,
 ⟨⟨(.bin .add), [.tmp 68, .tmp 69], (some 70), none⟩, false, false, 0, 0⟩,
 ⟨⟨(.indexAddrS 1), [.tmp 67, .tmp 70], (some 71), none⟩, false, false, 0, 0⟩,
 ⟨⟨(.load false 1), [.tmp 71], (some 72), none⟩, false, false, 0, 0⟩,
 ⟨⟨.move, [.tmp 0], (some 73), none⟩, false, false, 0, 0⟩,
 ⟨⟨.move, [.tmp 3], (some 74), none⟩, false, false, 0, 0⟩,
 ⟨⟨.move, [.tmp 10], (some 75), none⟩, false, false, 0, 0⟩,
 ⟨⟨(.bin .add), [.tmp 74, .tmp 75], (some 76), none⟩, false, false, 0, 0⟩,
 ⟨⟨(.indexAddrS 1), [.tmp 73, .tmp 76], (some 77), none⟩, false, false, 0, 0⟩,
 ⟨⟨(.load false 1), [.tmp 77], (some 78), none⟩, false, false, 0, 0⟩,
 ⟨⟨(.indexAddrS 1), [.tmp 59, .tmp 62], (some 79), none⟩, false, false, 0, 0⟩,
 ⟨⟨(.store 1), [.tmp 79, .tmp 72], none, none⟩, true, false, 0, 1⟩,
 ⟨⟨(.indexAddrS 1), [.tmp 63, .tmp 66], (some 80), none⟩, false, false, 1, 1⟩,
 ⟨⟨(.store 1), [.tmp 80, .tmp 78], none, none⟩, true, false, 1, 2⟩])
 (.seqR [⟨.move, [.tmp 11], (some 81), none⟩,
 ⟨.move, [.tmp 81], (some 10), none⟩])))))))))), []⟩
theorem c50_ok : compFunc Try.prog Try.f50 = some c50 := by kernel_rfl
theorem c50_body : hasBody Try.prog 50 = true := hasBody_of Try.func50 (by kernel_rfl)
/-- slices.nextPowerOfTwo -/
def c51 : PFn := ⟨7, Tr.ofList (List.replicate 7 undefA), (.seq (.seqR [⟨.move, [.const (.int .u64 0)], (some 2), none⟩])
 (.seq (.seqR [⟨.move, [.tmp 0], (some 3), none⟩,
 ⟨(.conv .u64), [.tmp 3], (some 4), none⟩,
 ⟨(.callF 37), [.tmp 4], (some 5), none⟩,
 ⟨(.bin .shl), [.const (.int .u64 1), .tmp 5], (some 6), none⟩,
 ⟨.move, [.tmp 6], (some 2), none⟩])
 .ret)), [.tmp 2]⟩
theorem c51_ok : compFunc Try.prog Try.f51 = some c51 := by kernel_rfl
theorem c51_body : hasBody Try.prog 51 = true := hasBody_of Try.func51 (by kernel_rfl)
/-- (*slices.xorshift).Next -/
def c52 : PFn := ⟨33, Tr.ofList (List.replicate 33 undefA), (.seq (.seqR [⟨.move, [.const (.int .u64 0)], (some 2), none⟩])
 (.seq (.drawR [⟨⟨.move, [.tmp 0], (some 3), none⟩, false, false, 0, 0⟩,
 ⟨⟨.nilCheck, [.tmp 3], (some 4), none⟩, false, false, 0, 0⟩,
 ⟨⟨(.load false 1), [.tmp 4], (some 5), none⟩, false, false, 0, 0⟩,
 ⟨⟨.move, [.tmp 0], (some 6), none⟩, false, false, 0, 0⟩,
 ⟨⟨.nilCheck, [.tmp 6], (some 7), none⟩, false, false, 0, 0⟩,
 ⟨⟨(.load false 1), [.tmp 7], (some 8), none⟩, false, false, 0, 0⟩,
 ⟨⟨(.bin .shl), [.tmp 8, .const (.int .u64 13)], (some 9), none⟩, false, false, 0, 0⟩,
 ⟨⟨(.bin .xor), [.tmp 5, .tmp 9], (some 10), none⟩, false, false, 0, 0⟩,
 ⟨⟨.nilCheck, [.tmp 3], (some 11), none⟩, false, false, 0, 0⟩,
 ⟨⟨(.store 1), [.tmp 11, .tmp 10], none, none⟩, true, false, 0, 1⟩])
 (.seq (.drawR [⟨⟨.move, [.tmp 0], (some 12), none⟩, false, false, 0, 0⟩,
 ⟨⟨.nilCheck, [.tmp 12], (some 13), none⟩, false, false, 0, 0⟩,
 ⟨⟨(.load false 1), [.tmp 13], (some 14), none⟩, false, false, 0, 0⟩,
 ⟨⟨.move, [.tmp 0], (some 15), none⟩, false, false, 0, 0⟩,
 ⟨⟨.nilCheck, [.tmp 15], (some 16), none⟩, false, false, 0, 0⟩,
 ⟨⟨(.load false 1), [.tmp 16], (some 17), none⟩, false, false, 0, 0⟩,
 ⟨⟨(.bin .shr), [.tmp 17, .const (.int .u64 7)], (some 18), none⟩, false, false, 0, 0⟩,
 ⟨⟨(.bin .xor), [.tmp 14, .tmp 18], (some 19), none⟩, false, false, 0, 0⟩,
 ⟨⟨.nilCheck, [.tmp 12], (some 20), none⟩, false, false, 0, 0⟩,
 ⟨⟨(.store 1), [.tmp 20, .tmp 19], none, none⟩, true, false, 0, 1⟩])
 (.seq (.drawR [⟨⟨.move, [.tmp 0], (some 21), none⟩, false, false, 0, 0⟩,
 ⟨⟨.nilCheck, [.tmp 21], (some 22), none⟩, false, false, 0, 0⟩,
 ⟨⟨(.load false 1), [.tmp 22], (some 23), none⟩, false, false, 0, 0⟩,
 ⟨⟨.move, [.tmp 0], (some 24), none⟩, false, false, 0, 0⟩,
 ⟨⟨.nilCheck, [.tmp 24], (some 25), none⟩, false, false, 0, 0⟩,
 ⟨⟨(.load false 1), [.tmp 25], (some 26), none⟩, false, false, 0, 0⟩,
 ⟨⟨(.bin .shl), [.tmp 26, .const (.int .u64 17)], (some 27), none⟩, false, false, 0, 0⟩,
 ⟨⟨(.bin .xor), [.tmp 23, .tmp 27], (some 28), none⟩, false, false, 0, 0⟩,
 ⟨⟨.nilCheck, [.tmp 21], (some 29), none⟩, false, false, 0, 0⟩,
 ⟨⟨(.store 1), [.tmp 29, .tmp 28], none, none⟩, true, false, 0, 1⟩])
 (.seq (.seqR [⟨.move, [.tmp 0], (some 30), none⟩,
 ⟨.nilCheck, [.tmp 30], (some 31), none⟩,
 ⟨(.load false 1), [.tmp 31], (some 32), none⟩,
 ⟨.move, [.tmp 32], (some 2), none⟩])
 .ret))))), [.tmp 2]⟩
theorem c52_ok : compFunc Try.prog Try.f52 = some c52 := by kernel_rfl
theorem c52_body : hasBody Try.prog 52 = true := hasBody_of Try.func52 (by kernel_rfl)
/-- slices.medianAdjacentCmpFunc[*coachyard/timer.entry] -/
def c53 : PFn := ⟨18, Tr.ofList (List.replicate 18 undefA), (.seq (.seqR [⟨.move, [.const (.int .i64 0)], (some 8), none⟩])
 (.seq (.seqR [⟨.move, [.tmp 0], (some 9), none⟩,
 ⟨.move, [.tmp 1], (some 10), none⟩,
 ⟨(.bin .sub), [.tmp 10, .const (.int .i64 1)], (some 11), none⟩,
 ⟨.move, [.tmp 1], (some 12), none⟩,
 ⟨.move, [.tmp 1], (some 13), none⟩,
 ⟨(.bin .add), [.tmp 13, .const (.int .i64 1)], (some 14), none⟩,
 ⟨.move, [.tmp 2], (some 15), none⟩,
 ⟨.move, [.tmp 3], (some 16), none⟩,
 ⟨(.callF 54), [.tmp 9, .tmp 11, .tmp 12, .tmp 14, .tmp 15, .tmp 16], (some 17), none⟩,
 ⟨.move, [.tmp 17], (some 8), none⟩])
 .ret)), [.tmp 8]⟩
theorem c53_ok : compFunc Try.prog Try.f53 = some c53 := by kernel_rfl
theorem c53_body : hasBody Try.prog 53 = true := hasBody_of Try.func53 (by kernel_rfl)
/-- slices.medianCmpFunc[*coachyard/timer.entry] -/
def c54 : PFn := ⟨41, Tr.ofList (List.replicate 41 undefA), (.seq (.seqR [⟨.move, [.const (.int .i64 0)], (some 12), none⟩])
 (.seq (.seqR [⟨.move, [.tmp 0], (some 14), none⟩,
 ⟨.move, [.tmp 1], (some 15), none⟩,
 ⟨.move, [.tmp 2], (some 16), none⟩,
 ⟨.move, [.tmp 4], (some 17), none⟩,
 ⟨.move, [.tmp 5], (some 18), none⟩,
 ⟨(.callF 55), [.tmp 14, .tmp 15, .tmp 16, .tmp 17, .tmp 18], (some 19), none⟩,
 ⟨.move, [.tmp 19], (some 13), none⟩,
 ⟨(.extract 0), [.tmp 13], (some 20), none⟩,
 ⟨(.extract 1), [.tmp 13], (some 21), none⟩,
 ⟨.move, [.tmp 20], (some 1), none⟩,
 ⟨.move, [.tmp 21], (some 2), none⟩])
 (.seq (.seqR [⟨.move, [.tmp 0], (some 23), none⟩,
 ⟨.move, [.tmp 2], (some 24), none⟩,
 ⟨.move, [.tmp 3], (some 25), none⟩,
 ⟨.move, [.tmp 4], (some 26), none⟩,
 ⟨.move, [.tmp 5], (some 27), none⟩,
 ⟨(.callF 55), [.tmp 23, .tmp 24, .tmp 25, .tmp 26, .tmp 27], (some 28), none⟩,
 ⟨.move, [.tmp 28], (some 22), none⟩,
 ⟨(.extract 0), [.tmp 22], (some 29), none⟩,
 ⟨(.extract 1), [.tmp 22], (some 30), none⟩,
 ⟨.move, [.tmp 29], (some 2), none⟩,
 ⟨.move, [.tmp 30], (some 3), none⟩])
 (.seq (.seqR [⟨.move, [.tmp 0], (some 32), none⟩,
 ⟨.move, [.tmp 1], (some 33), none⟩,
 ⟨.move, [.tmp 2], (some 34), none⟩,
 ⟨.move, [.tmp 4], (some 35), none⟩,
 ⟨.move, [.tmp 5], (some 36), none⟩,
 ⟨(.callF 55), [.tmp 32, .tmp 33, .tmp 34, .tmp 35, .tmp 36], (some 37), none⟩,
 ⟨.move, [.tmp 37], (some 31), none⟩,
 ⟨(.extract 0), [.tmp 31], (some 38), none⟩,
 ⟨(.extract 1), [.tmp 31], (some 39), none⟩,
 ⟨.move, [.tmp 38], (some 1), none⟩,
 ⟨.move, [.tmp 39], (some 2), none⟩])
 (.seq (.seqR [⟨.move, [.tmp 2], (some 40), none⟩,
 ⟨.move, [.tmp 40], (some 12), none⟩])
 .ret))))), [.tmp 12]⟩
theorem c54_ok : compFunc Try.prog Try.f54 = some c54 := by kernel_rfl
theorem c54_body : hasBody Try.prog 54 = true := hasBody_of Try.func54 (by kernel_rfl)
/-- slices.order2CmpFunc[*coachyard/timer.entry] -/
def c55 : PFn := ⟨32, Tr.ofList (List.replicate 32 undefA), (.seq (.seqR [⟨.move, [.const (.int .i64 0)], (some 10), none⟩,
 ⟨.move, [.const (.int .i64 0)], (some 11), none⟩])
 (.seq (.seq (.drawR [⟨⟨.move, [.tmp 4], (some 12), none⟩, false, false, 0, 0⟩,
 ⟨⟨.move, [.tmp 0], (some 13), none⟩, false, false, 0, 0⟩,
 ⟨⟨.move, [.tmp 2], (some 14), none⟩, false, false, 0, 0⟩,
 ⟨⟨(.indexAddrS 1), [.tmp 13, .tmp 14], (some 15), none⟩, false, false, 0, 0⟩,
 ⟨⟨(.load false 1), [.tmp 15], (some 16), none⟩, false, false, 0, 0⟩,
 ⟨⟨.move, [.tmp 0], (some 17), none⟩, false, false, 0, 0⟩,
 ⟨⟨.move, [.tmp 1], (some 18), none⟩, false, false, 0, 0⟩,
 ⟨⟨(.indexAddrS 1), [.tmp 17, .tmp 18], (some 19), none⟩, false, false, 0, 0⟩,
 ⟨⟨(.load false 1), [.tmp 19], (some 20), none⟩, false, false, 0, 0⟩,
 ⟨⟨.callV, [.tmp 12, .tmp 16, .tmp 20], (some 21), none⟩, true, false, 0, 1⟩,
 ⟨⟨(.bin .lss), [.tmp 21, .const (.int .i64 0)], (some 22), none⟩, false, false, 1, 1⟩])
 (.cond (.tmp 22) (.seq (.seqR [⟨.move, [.tmp 3], (some 23), none⟩,
 ⟨.nilCheck, [.tmp 23], (some 24), none⟩,
 ⟨(.load false 1), [.tmp 24], (some 25), none⟩,
 ⟨(.bin .add), [.tmp 25, .const (.int .i64 1)], (some 26), none⟩,
 ⟨.nilCheck, [.tmp 23], (some 27), none⟩,
 ⟨(.store 1), [.tmp 27, .tmp 26], none, none⟩])
 (.seq (.seqR [⟨.move, [.tmp 2], (some 28), none⟩,
 ⟨.move, [.tmp 1], (some 29), none⟩,
 ⟨.move, [.tmp 28], (some 10), none⟩,
 ⟨.move, [.tmp 29], (some 11), none⟩])
 .ret))
 .skip))
 (.seq (.seqR [⟨.move, [.tmp 1], (some 30), none⟩,
 ⟨.move, [.tmp 2], (some 31), none⟩,
 ⟨.move, [.tmp 30], (some 10), none⟩,
 ⟨.move, [.tmp 31], (some 11), none⟩])
 .ret))), [.tmp 10, .tmp 11]⟩
theorem c55_ok : compFunc Try.prog Try.f55 = some c55 := by kernel_rfl
theorem c55_body : hasBody Try.prog 55 = true := hasBody_of Try.func55 (by kernel_rfl)
/-- (coachyard/timer.pile).Len -/
def c72 : PFn := ⟨5, Tr.ofList (List.replicate 5 undefA), (.seq (.seqR [⟨.move, [.const (.int .i64 0)], (some 2), none⟩])
 (.seq (.seqR [⟨.move, [.tmp 0], (some 3), none⟩,
 ⟨.lenS, [.tmp 3], (some 4), none⟩,
 ⟨.move, [.tmp 4], (some 2), none⟩])
 .ret)), [.tmp 2]⟩
theorem c72_ok : compFunc Try.prog Try.f72 = some c72 := by kernel_rfl
theorem c72_body : hasBody Try.prog 72 = true := hasBody_of Try.func72 (by kernel_rfl)
/-- (coachyard/timer.pile).Less -/
def c73 : PFn := ⟨17, Tr.ofList (List.replicate 17 undefA), (.seq (.seqR [⟨.move, [.const (.bool false)], (some 6), none⟩])
 (.seq (.drawR [⟨⟨.move, [.tmp 0], (some 7), none⟩, false, false, 0, 0⟩,
 ⟨⟨.move, [.tmp 1], (some 8), none⟩, false, false, 0, 0⟩,
 ⟨⟨(.indexAddrS 1), [.tmp 7, .tmp 8], (some 9), none⟩, false, false, 0, 0⟩,
 ⟨⟨(.load false 1), [.tmp 9], (some 10), none⟩, false, false, 0, 0⟩,
 ⟨⟨.move, [.tmp 0], (some 11), none⟩, false, false, 0, 0⟩,
 ⟨⟨.move, [.tmp 2], (some 12), none⟩, false, false, 0, 0⟩,
 ⟨⟨(.indexAddrS 1), [.tmp 11, .tmp 12], (some 13), none⟩, false, false, 0, 0⟩,
 ⟨⟨(.load false 1), [.tmp 13], (some 14), none⟩, false, false, 0, 0⟩,
 ⟨⟨(.callF 28), [.tmp 10, .tmp 14], (some 15), none⟩, true, false, 0, 1⟩,
 ⟨⟨(.bin .lss), [.tmp 15, .const (.int .i64 0)], (some 16), none⟩, false, false, 1, 1⟩,
 ⟨⟨.move, [.tmp 16], (some 6), none⟩, false, false, 1, 1⟩])
 .ret)), [.tmp 6]⟩
theorem c73_ok : compFunc Try.prog Try.f73 = some c73 := by kernel_rfl
theorem c73_body : hasBody Try.prog 73 = true := hasBody_of Try.func73 (by kernel_rfl)
/-- (coachyard/timer.pile).Swap -/
def c74 : PFn := ⟨34, Tr.ofList (List.replicate 34 undefA), (.seq (.drawR [⟨⟨.move, [.tmp 0], (some 6), none⟩, false, false, 0, 0⟩,
 ⟨⟨.move, [.tmp 1], (some 7), none⟩, false, false, 0, 0⟩,
 ⟨⟨.move, [.tmp 0], (some 8), none⟩, false, false, 0, 1⟩,
 ⟨⟨.move, [.tmp 2], (some 9), none⟩, false, false, 0, 1⟩,
 ⟨⟨.move, [.tmp 0], (some 10), none⟩, false, false, 0, 0⟩,
 ⟨⟨.move, [.tmp 2], (some 11), none⟩, false, false, 0, 0⟩,
 ⟨⟨(.indexAddrS 1), [.tmp 10, .tmp 11], (some 12), none⟩, false, false, 0, 0⟩,
 ⟨⟨(.load false 1), [.tmp 12], (some 13), none⟩, false, false, 0, 0⟩,
 ⟨⟨.move, [.tmp 0], (some 14), none⟩, false, false, 0, 0⟩,
 ⟨⟨.move, [.tmp 1], (some 15), none⟩, false, false, 0, 0⟩,
 ⟨⟨(.indexAddrS 1), [.tmp 14, .tmp 15], (some 16), none⟩, false, false, 0, 0⟩,
 ⟨⟨(.load false 1), [.tmp 16], (some 17), none⟩, false, false, 0, 0⟩,
 ⟨⟨(.indexAddrS 1), [.tmp 6, .tmp 7], (some 18), none⟩, false, false, 0, 0⟩,
 ⟨⟨(.store 1), [.tmp 18, .tmp 13], none, none⟩, true, false, 0, 1⟩,
 ⟨⟨(.indexAddrS 1), [.tmp 8, .tmp 9], (some 19), none⟩, false, false, 1, 1⟩,
 ⟨⟨(.store 1), [.tmp 19, .tmp 17], none, none⟩, true, false, 1, 2⟩])
 (.drawR [⟨⟨.move, [.tmp 0], (some 20), none⟩, false, false, 0, 0⟩,
 ⟨⟨.move, [.tmp 1], (some 21), none⟩, false, false, 0, 0⟩,
 ⟨⟨(.indexAddrS 1), [.tmp 20, .tmp 21], (some 22), none⟩, false, false, 0, 0⟩,
 ⟨⟨(.load false 1), [.tmp 22], (some 23), none⟩, false, false, 0, 0⟩,
 ⟨⟨.move, [.tmp 0], (some 24), none⟩, false, false, 0, 0⟩,
 ⟨⟨.move, [.tmp 2], (some 25), none⟩, false, false, 0, 0⟩,
 ⟨⟨(.indexAddrS 1), [.tmp 24, .tmp 25], (some 26), none⟩, false, false, 0, 0⟩,
 ⟨⟨(.load false 1), [.tmp 26], (some 27), none⟩, false, false, 0, 0⟩,
 ⟨⟨.move, [.tmp 1], (some 28), none⟩, false, false, 0, 0⟩,
 ⟨⟨.move, [.tmp 2], (some 29), none⟩, false, false, 0, 1⟩,
 ⟨⟨.nilCheck, [.tmp 23], (some 30), none⟩, false, false, 0, 0⟩,
 ⟨⟨(.fieldAddr 3), [.tmp 30], (some 31), none⟩, false, false, 0, 0⟩,
 ⟨⟨(.store 1), [.tmp 31, .tmp 28], none, none⟩, true, false, 0, 1⟩,
 ⟨⟨.nilCheck, [.tmp 27], (some 32), none⟩, false, false, 1, 1⟩,
 ⟨⟨(.fieldAddr 3), [.tmp 32], (some 33), none⟩, false, false, 1, 1⟩,
 ⟨⟨(.store 1), [.tmp 33, .tmp 29], none, none⟩, true, false, 1, 2⟩])), []⟩
theorem c74_ok : compFunc Try.prog Try.f74 = some c74 := by kernel_rfl
theorem c74_body : hasBody Try.prog 74 = true := hasBody_of Try.func74 (by kernel_rfl)
/-- (*coachyard/timer.pile).Pop -/
def c75 : PFn := ⟨27, Tr.ofList (List.replicate 27 undefA), (.seq (.seqR [⟨.move, [.const .nilIface], (some 2), none⟩])
 (.seq (.drawR [⟨⟨.move, [.tmp 0], (some 4), none⟩, false, false, 0, 0⟩,
 ⟨⟨.nilCheck, [.tmp 4], (some 5), none⟩, false, false, 0, 0⟩,
 ⟨⟨(.load false 1), [.tmp 5], (some 6), none⟩, false, false, 0, 0⟩,
 ⟨⟨.move, [.tmp 0], (some 7), none⟩, false, false, 0, 0⟩,
 ⟨⟨.nilCheck, [.tmp 7], (some 8), none⟩, false, false, 0, 0⟩,
 ⟨⟨(.load false 1), [.tmp 8], (some 9), none⟩, false, false, 0, 0⟩,
 ⟨⟨.lenS, [.tmp 9], (some 10), none⟩, false, false, 0, 0⟩,
 ⟨⟨(.bin .sub), [.tmp 10, .const (.int .i64 1)], (some 11), none⟩, false, false, 0, 0⟩,
 ⟨⟨(.indexAddrS 1), [.tmp 6, .tmp 11], (some 12), none⟩, false, false, 0, 0⟩,
 ⟨⟨(.load false 1), [.tmp 12], (some 13), none⟩, false, false, 0, 0⟩,
 ⟨⟨.move, [.tmp 13], (some 3), none⟩, false, false, 0, 0⟩])
 (.seq (.drawR [⟨⟨.move, [.tmp 0], (some 14), none⟩, false, false, 0, 0⟩,
 ⟨⟨.move, [.tmp 0], (some 15), none⟩, false, false, 0, 0⟩,
 ⟨⟨.nilCheck, [.tmp 15], (some 16), none⟩, false, false, 0, 0⟩,
 ⟨⟨(.load false 1), [.tmp 16], (some 17), none⟩, false, false, 0, 0⟩,
 ⟨⟨.move, [.tmp 0], (some 18), none⟩, false, false, 0, 0⟩,
 ⟨⟨.nilCheck, [.tmp 18], (some 19), none⟩, false, false, 0, 0⟩,
 ⟨⟨(.load false 1), [.tmp 19], (some 20), none⟩, false, false, 0, 0⟩,
 ⟨⟨.lenS, [.tmp 20], (some 21), none⟩, false, false, 0, 0⟩,
 ⟨⟨(.bin .sub), [.tmp 21, .const (.int .i64 1)], (some 22), none⟩, false, false, 0, 0⟩,
 ⟨⟨(.slice 1 false true false), [.tmp 17, .tmp 22], (some 23), none⟩, false, false, 0, 0⟩,
 ⟨⟨.nilCheck, [.tmp 14], (some 24), none⟩, false, false, 0, 0⟩,
 ⟨⟨(.store 1), [.tmp 24, .tmp 23], none, none⟩, true, false, 0, 1⟩])
 (.seq (.seqR [⟨.move, [.tmp 3], (some 25), none⟩,
 ⟨(.mkIface 60), [.tmp 25], (some 26), none⟩,
 ⟨.move, [.tmp 26], (some 2), none⟩])
 .ret)))), [.tmp 2]⟩
theorem c75_ok : compFunc Try.prog Try.f75 = some c75 := by kernel_rfl
theorem c75_body : hasBody Try.prog 75 = true := hasBody_of Try.func75 (by kernel_rfl)
/-- (*coachyard/timer.pile).Push -/
def c76 : PFn := ⟨22, Tr.ofList (List.replicate 22 undefA), (.seq (.seqR [⟨.move, [.tmp 1], (some 5), none⟩,
 ⟨(.assertC 60 false (.ptr none)), [.tmp 5], (some 6), none⟩,
 ⟨.move, [.tmp 6], (some 4), none⟩])
 (.seq (.seqR [⟨.move, [.tmp 4], (some 7), none⟩,
 ⟨.move, [.tmp 0], (some 8), none⟩,
 ⟨.nilCheck, [.tmp 8], (some 9), none⟩,
 ⟨(.load false 1), [.tmp 9], (some 10), none⟩,
 ⟨.lenS, [.tmp 10], (some 11), none⟩,
 ⟨.nilCheck, [.tmp 7], (some 12), none⟩,
 ⟨(.fieldAddr 3), [.tmp 12], (some 13), none⟩,
 ⟨(.store 1), [.tmp 13, .tmp 11], none, none⟩])
 (.seqR [⟨.move, [.tmp 0], (some 14), none⟩,
 ⟨.move, [.tmp 0], (some 15), none⟩,
 ⟨.nilCheck, [.tmp 15], (some 16), none⟩,
 ⟨(.load false 1), [.tmp 16], (some 17), none⟩,
 ⟨.move, [.tmp 4], (some 18), none⟩,
 ⟨(.sliceLit 1 [(.ptr none)] [(0, 1)]), [.tmp 18], (some 19), none⟩,
 ⟨(.append 1 8), [.tmp 17, .tmp 19], (some 20), none⟩,
 ⟨.nilCheck, [.tmp 14], (some 21), none⟩,
 ⟨(.store 1), [.tmp 21, .tmp 20], none, none⟩]))), []⟩
theorem c76_ok : compFunc Try.prog Try.f76 = some c76 := by kernel_rfl
theorem c76_body : hasBody Try.prog 76 = true := hasBody_of Try.func76 (by kernel_rfl)
end Go.Proofs.Ytbjipmhdncfodaa
