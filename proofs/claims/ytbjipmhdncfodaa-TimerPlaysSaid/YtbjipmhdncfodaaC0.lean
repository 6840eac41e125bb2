/- The code of the small machine for some of the program's functions: printed by program; each is what the rules make of the program's own. -/
import Derived.Test.YtbjipmhdncfodaaVx16
import Derived.Test.YtbjipmhdncfodaaProg
import Derived.KernelRfl
namespace Go.Proofs.Ytbjipmhdncfodaa
open Go Go.Vx Go.Proofs
/-- coachyard/coachyardlaw23.TimerPlays -/
def c4 : PFn := ⟨139, Tr.ofList (List.replicate 139 undefA), (.seq (.seqR [⟨.move, [.const (.bool false)], (some 2), none⟩])
 (.seq (.seq (.seqR [⟨(.callF 5), [], (some 19), none⟩,
 ⟨.not, [.tmp 19], (some 20), none⟩])
 (.cond (.tmp 20) (.seq (.seqR [⟨.move, [.const (.bool false)], (some 2), none⟩])
 .ret)
 .skip))
 (.seq (.seq (.seqR [⟨.move, [.tmp 0], (some 21), none⟩,
 ⟨.lenS, [.tmp 21], (some 22), none⟩,
 ⟨(.bin .gtr), [.tmp 22, .const (.int .i64 200)], (some 23), none⟩])
 (.cond (.tmp 23) (.seq (.seqR [⟨.move, [.const (.bool true)], (some 2), none⟩])
 .ret)
 .skip))
 (.seq (.seqR [⟨(.callF 6), [], (some 24), none⟩,
 ⟨.move, [.tmp 24], (some 3), none⟩])
 (.seq (.seqR [⟨(.build [(.slice none 0 0 false), (.int .i64 0), (.int .i64 0)] []), [], (some 25), none⟩,
 ⟨(.new [(.slice none 0 0 false), (.int .i64 0), (.int .i64 0)]), [], (some 4), none⟩,
 ⟨(.store 3), [.tmp 4, .tmp 25], none, none⟩])
 (.seq (.seq (.seqR [⟨.move, [.const (.int .i64 0)], (some 5), none⟩])
 (.block 0 (.loop (.seq (.seq (.seqR [⟨.move, [.tmp 5], (some 26), none⟩,
 ⟨.move, [.tmp 0], (some 27), none⟩,
 ⟨.lenS, [.tmp 27], (some 28), none⟩,
 ⟨(.bin .lss), [.tmp 26, .tmp 28], (some 29), none⟩])
 (.cond (.tmp 29) .skip
 (.exit 0)))
 (.seq (.block 1 (.seq (.seq (.seqR [⟨.move, [.tmp 0], (some 32), none⟩,
 ⟨.move, [.tmp 5], (some 33), none⟩,
 ⟨(.indexAddrS 4), [.tmp 32, .tmp 33], (some 34), none⟩,
 ⟨(.fieldAddr 0), [.tmp 34], (some 35), none⟩,
 ⟨(.load false 1), [.tmp 35], (some 36), none⟩])
 (.block 2 (.seq (.seqR [⟨(.bin .eql), [.tmp 36, .const (.int .u8 0)], (some 38), none⟩,
 ⟨.move, [.tmp 38], (some 37), none⟩])
 (.cond (.tmp 37) (.seq (.drawR [⟨⟨.move, [.tmp 3], (some 40), none⟩, false, false, 0, 0⟩,
 ⟨⟨.move, [.tmp 0], (some 41), none⟩, false, false, 0, 0⟩,
 ⟨⟨.move, [.tmp 5], (some 42), none⟩, false, false, 0, 0⟩,
 ⟨⟨(.indexAddrS 4), [.tmp 41, .tmp 42], (some 43), none⟩, false, false, 0, 0⟩,
 ⟨⟨(.fieldAddr 1), [.tmp 43], (some 44), none⟩, false, false, 0, 0⟩,
 ⟨⟨(.load false 1), [.tmp 44], (some 45), none⟩, false, false, 0, 0⟩,
 ⟨⟨.move, [.tmp 0], (some 46), none⟩, false, false, 0, 0⟩,
 ⟨⟨.move, [.tmp 5], (some 47), none⟩, false, false, 0, 0⟩,
 ⟨⟨(.indexAddrS 4), [.tmp 46, .tmp 47], (some 48), none⟩, false, false, 0, 0⟩,
 ⟨⟨(.fieldAddr 2), [.tmp 48], (some 49), none⟩, false, false, 0, 0⟩,
 ⟨⟨(.load false 1), [.tmp 49], (some 50), none⟩, false, false, 0, 0⟩,
 ⟨⟨(.callF 7), [.tmp 40, .tmp 45, .tmp 50], (some 51), none⟩, true, false, 0, 1⟩,
 ⟨⟨.move, [.tmp 51], (some 39), none⟩, false, false, 1, 1⟩,
 ⟨⟨(.extract 0), [.tmp 39], (some 52), none⟩, false, false, 1, 1⟩,
 ⟨⟨(.extract 1), [.tmp 39], (some 53), none⟩, false, false, 1, 1⟩,
 ⟨⟨.move, [.tmp 52], (some 6), none⟩, false, false, 1, 1⟩,
 ⟨⟨.move, [.tmp 53], (some 7), none⟩, false, false, 1, 1⟩])
 (.seq (.drawR [⟨⟨(.load true 3), [.tmp 4], (some 55), none⟩, false, false, 0, 0⟩,
 ⟨⟨.move, [.tmp 0], (some 56), none⟩, false, false, 0, 0⟩,
 ⟨⟨.move, [.tmp 5], (some 57), none⟩, false, false, 0, 0⟩,
 ⟨⟨(.indexAddrS 4), [.tmp 56, .tmp 57], (some 58), none⟩, false, false, 0, 0⟩,
 ⟨⟨(.fieldAddr 1), [.tmp 58], (some 59), none⟩, false, false, 0, 0⟩,
 ⟨⟨(.load false 1), [.tmp 59], (some 60), none⟩, false, false, 0, 0⟩,
 ⟨⟨.move, [.tmp 0], (some 61), none⟩, false, false, 0, 0⟩,
 ⟨⟨.move, [.tmp 5], (some 62), none⟩, false, false, 0, 0⟩,
 ⟨⟨(.indexAddrS 4), [.tmp 61, .tmp 62], (some 63), none⟩, false, false, 0, 0⟩,
 ⟨⟨(.fieldAddr 2), [.tmp 63], (some 64), none⟩, false, false, 0, 0⟩,
 ⟨⟨(.load false 1), [.tmp 64], (some 65), none⟩, false, false, 0, 0⟩,
 ⟨⟨(.callF 12), [.tmp 55, .tmp 60, .tmp 65], (some 66), none⟩, true, false, 0, 2⟩,
 ⟨⟨.move, [.tmp 66], (some 54), none⟩, false, false, 1, 2⟩,
 ⟨⟨(.extract 0), [.tmp 54], (some 67), none⟩, false, false, 1, 2⟩,
 ⟨⟨(.extract 1), [.tmp 54], (some 68), none⟩, false, false, 1, 3⟩,
 ⟨⟨(.extract 2), [.tmp 54], (some 69), none⟩, false, false, 1, 3⟩,
 ⟨⟨(.new [(.slice none 0 0 false), (.int .i64 0), (.int .i64 0)]), [], (some 8), none⟩, true, true, 0, 2⟩,
 ⟨⟨(.store 3), [.tmp 8, .tmp 67], none, none⟩, true, false, 2, 3⟩,
 ⟨⟨.move, [.tmp 68], (some 9), none⟩, false, false, 3, 3⟩,
 ⟨⟨.move, [.tmp 69], (some 10), none⟩, false, false, 3, 3⟩])
 (.seq (.seq (.seqR [⟨.move, [.tmp 6], (some 70), none⟩,
 ⟨.move, [.tmp 9], (some 71), none⟩,
 ⟨(.bin .neq), [.tmp 70, .tmp 71], (some 72), none⟩,
 ⟨.move, [.tmp 72], (some 73), none⟩,
 ⟨.move, [.tmp 7], (some 74), some (73, false)⟩,
 ⟨.move, [.tmp 10], (some 75), some (73, false)⟩,
 ⟨(.bin .neq), [.tmp 74, .tmp 75], (some 76), some (73, false)⟩,
 ⟨.pick, [.tmp 73, .const (.bool true), .tmp 76], (some 77), none⟩])
 (.cond (.tmp 77) (.seq (.seqR [⟨.move, [.const (.bool false)], (some 2), none⟩])
 .ret)
 .skip))
 (.seqR [⟨(.load true 3), [.tmp 8], (some 78), none⟩,
 ⟨(.store 3), [.tmp 4, .tmp 78], none, none⟩]))))
 (.seq (.seqR [⟨(.bin .eql), [.tmp 36, .const (.int .u8 1)], (some 80), none⟩,
 ⟨.move, [.tmp 80], (some 79), none⟩])
 (.cond (.tmp 79) (.seq (.seqR [⟨.move, [.tmp 3], (some 81), none⟩,
 ⟨.move, [.tmp 0], (some 82), none⟩,
 ⟨.move, [.tmp 5], (some 83), none⟩,
 ⟨(.indexAddrS 4), [.tmp 82, .tmp 83], (some 84), none⟩,
 ⟨(.fieldAddr 3), [.tmp 84], (some 85), none⟩,
 ⟨(.load false 1), [.tmp 85], (some 86), none⟩,
 ⟨(.callF 8), [.tmp 81, .tmp 86], (some 87), none⟩,
 ⟨.move, [.tmp 87], (some 11), none⟩])
 (.seq (.drawR [⟨⟨(.load true 3), [.tmp 4], (some 89), none⟩, false, false, 0, 0⟩,
 ⟨⟨.move, [.tmp 0], (some 90), none⟩, false, false, 0, 0⟩,
 ⟨⟨.move, [.tmp 5], (some 91), none⟩, false, false, 0, 0⟩,
 ⟨⟨(.indexAddrS 4), [.tmp 90, .tmp 91], (some 92), none⟩, false, false, 0, 0⟩,
 ⟨⟨(.fieldAddr 3), [.tmp 92], (some 93), none⟩, false, false, 0, 0⟩,
 ⟨⟨(.load false 1), [.tmp 93], (some 94), none⟩, false, false, 0, 0⟩,
 ⟨⟨(.callF 13), [.tmp 89, .tmp 94], (some 95), none⟩, true, false, 0, 2⟩,
 ⟨⟨.move, [.tmp 95], (some 88), none⟩, false, false, 1, 2⟩,
 ⟨⟨(.extract 0), [.tmp 88], (some 96), none⟩, false, false, 1, 2⟩,
 ⟨⟨(.extract 1), [.tmp 88], (some 97), none⟩, false, false, 1, 3⟩,
 ⟨⟨(.new [(.slice none 0 0 false), (.int .i64 0), (.int .i64 0)]), [], (some 12), none⟩, true, true, 0, 2⟩,
 ⟨⟨(.store 3), [.tmp 12, .tmp 96], none, none⟩, true, false, 2, 3⟩,
 ⟨⟨.move, [.tmp 97], (some 13), none⟩, false, false, 3, 3⟩])
 (.seq (.seq (.seqR [⟨.move, [.tmp 11], (some 98), none⟩,
 ⟨.move, [.tmp 13], (some 99), none⟩,
 ⟨(.bin .neq), [.tmp 98, .tmp 99], (some 100), none⟩])
 (.cond (.tmp 100) (.seq (.seqR [⟨.move, [.const (.bool false)], (some 2), none⟩])
 .ret)
 .skip))
 (.seqR [⟨(.load true 3), [.tmp 12], (some 101), none⟩,
 ⟨(.store 3), [.tmp 4, .tmp 101], none, none⟩]))))
 (.seq (.seqR [⟨(.bin .eql), [.tmp 36, .const (.int .u8 2)], (some 103), none⟩,
 ⟨.move, [.tmp 103], (some 102), none⟩])
 (.cond (.tmp 102) (.seq (.seqR [⟨.move, [.tmp 3], (some 105), none⟩,
 ⟨.move, [.tmp 0], (some 106), none⟩,
 ⟨.move, [.tmp 5], (some 107), none⟩,
 ⟨(.indexAddrS 4), [.tmp 106, .tmp 107], (some 108), none⟩,
 ⟨(.fieldAddr 1), [.tmp 108], (some 109), none⟩,
 ⟨(.load false 1), [.tmp 109], (some 110), none⟩,
 ⟨(.callF 10), [.tmp 105, .tmp 110], (some 111), none⟩,
 ⟨.move, [.tmp 111], (some 104), none⟩,
 ⟨(.extract 0), [.tmp 104], (some 112), none⟩,
 ⟨(.extract 1), [.tmp 104], (some 113), none⟩,
 ⟨.move, [.tmp 112], (some 14), none⟩,
 ⟨.move, [.tmp 113], (some 15), none⟩])
 (.seq (.drawR [⟨⟨(.load true 3), [.tmp 4], (some 115), none⟩, false, false, 0, 0⟩,
 ⟨⟨.move, [.tmp 0], (some 116), none⟩, false, false, 0, 0⟩,
 ⟨⟨.move, [.tmp 5], (some 117), none⟩, false, false, 0, 0⟩,
 ⟨⟨(.indexAddrS 4), [.tmp 116, .tmp 117], (some 118), none⟩, false, false, 0, 0⟩,
 ⟨⟨(.fieldAddr 1), [.tmp 118], (some 119), none⟩, false, false, 0, 0⟩,
 ⟨⟨(.load false 1), [.tmp 119], (some 120), none⟩, false, false, 0, 0⟩,
 ⟨⟨(.callF 14), [.tmp 115, .tmp 120], (some 121), none⟩, true, false, 0, 2⟩,
 ⟨⟨.move, [.tmp 121], (some 114), none⟩, false, false, 1, 2⟩,
 ⟨⟨(.extract 0), [.tmp 114], (some 122), none⟩, false, false, 1, 2⟩,
 ⟨⟨(.extract 1), [.tmp 114], (some 123), none⟩, false, false, 1, 3⟩,
 ⟨⟨(.extract 2), [.tmp 114], (some 124), none⟩, false, false, 1, 3⟩,
 ⟨⟨(.new [(.slice none 0 0 false), (.int .i64 0), (.int .i64 0)]), [], (some 16), none⟩, true, true, 0, 2⟩,
 ⟨⟨(.store 3), [.tmp 16, .tmp 122], none, none⟩, true, false, 2, 3⟩,
 ⟨⟨.move, [.tmp 123], (some 17), none⟩, false, false, 3, 3⟩,
 ⟨⟨.move, [.tmp 124], (some 18), none⟩, false, false, 3, 3⟩])
 (.seq (.seq (.seqR [⟨.move, [.tmp 14], (some 125), none⟩,
 ⟨.move, [.tmp 17], (some 126), none⟩,
 ⟨(.callF 15), [.tmp 125, .tmp 126], (some 127), none⟩,
 ⟨.not, [.tmp 127], (some 128), none⟩,
 ⟨.move, [.tmp 128], (some 129), none⟩,
 ⟨.move, [.tmp 15], (some 130), some (129, false)⟩,
 ⟨.move, [.tmp 18], (some 131), some (129, false)⟩,
 ⟨(.bin .neq), [.tmp 130, .tmp 131], (some 132), some (129, false)⟩,
 ⟨.pick, [.tmp 129, .const (.bool true), .tmp 132], (some 133), none⟩])
 (.cond (.tmp 133) (.seq (.seqR [⟨.move, [.const (.bool false)], (some 2), none⟩])
 .ret)
 .skip))
 (.seqR [⟨(.load true 3), [.tmp 16], (some 134), none⟩,
 ⟨(.store 3), [.tmp 4, .tmp 134], none, none⟩]))))
 .skip))))))))
 (.seq (.seqR [⟨.move, [.tmp 3], (some 135), none⟩,
 ⟨(.load true 3), [.tmp 4], (some 136), none⟩,
 ⟨(.callF 16), [.tmp 135, .tmp 136], (some 137), none⟩,
 ⟨.not, [.tmp 137], (some 138), none⟩])
 (.cond (.tmp 138) (.seq (.seqR [⟨.move, [.const (.bool false)], (some 2), none⟩])
 .ret)
 .skip))))
 (.seqR [⟨.move, [.tmp 5], (some 30), none⟩,
 ⟨(.bin .add), [.tmp 30, .const (.int .i64 1)], (some 31), none⟩,
 ⟨.move, [.tmp 31], (some 5), none⟩]))))))
 (.seq (.seqR [⟨.move, [.const (.bool true)], (some 2), none⟩])
 .ret))))))), [.tmp 2]⟩
theorem c4_ok : compFunc Try.prog Try.f4 = some c4 := by kernel_rfl
theorem c4_body : hasBody Try.prog 4 = true := hasBody_of Try.func4 (by kernel_rfl)
/-- coachyard/coachyardlaw23.awake -/
def c5 : PFn := ⟨39, Tr.ofList (List.replicate 39 undefA), (.seq (.seqR [⟨.move, [.const (.bool false)], (some 0), none⟩])
 (.seq (.seqR [⟨(.callF 6), [], (some 6), none⟩,
 ⟨.move, [.tmp 6], (some 1), none⟩])
 (.seq (.seqR [⟨.move, [.tmp 1], (some 7), none⟩,
 ⟨(.callF 7), [.tmp 7, .const (.int .i64 5), .const (.int .u64 1)], (some 8), none⟩])
 (.seq (.seqR [⟨.move, [.tmp 1], (some 9), none⟩,
 ⟨(.callF 7), [.tmp 9, .const (.int .i64 3), .const (.int .u64 2)], (some 10), none⟩])
 (.seq (.seqR [⟨.move, [.tmp 1], (some 11), none⟩,
 ⟨(.callF 7), [.tmp 11, .const (.int .i64 5), .const (.int .u64 3)], (some 12), none⟩])
 (.seq (.seqR [⟨.move, [.tmp 1], (some 14), none⟩,
 ⟨(.callF 10), [.tmp 14, .const (.int .i64 4)], (some 15), none⟩,
 ⟨.move, [.tmp 15], (some 13), none⟩,
 ⟨(.extract 0), [.tmp 13], (some 16), none⟩,
 ⟨(.extract 1), [.tmp 13], (some 17), none⟩,
 ⟨.move, [.tmp 16], (some 2), none⟩,
 ⟨.move, [.tmp 17], (some 3), none⟩])
 (.seq (.seqR [⟨.move, [.tmp 1], (some 19), none⟩,
 ⟨(.callF 10), [.tmp 19, .const (.int .i64 9)], (some 20), none⟩,
 ⟨.move, [.tmp 20], (some 18), none⟩,
 ⟨(.extract 0), [.tmp 18], (some 21), none⟩,
 ⟨(.extract 1), [.tmp 18], (some 22), none⟩,
 ⟨.move, [.tmp 21], (some 4), none⟩,
 ⟨.move, [.tmp 22], (some 5), none⟩])
 (.seq (.seqR [⟨.move, [.tmp 3], (some 23), none⟩,
 ⟨(.bin .eql), [.tmp 23, .const (.int .i64 0)], (some 24), none⟩,
 ⟨.move, [.tmp 24], (some 25), none⟩,
 ⟨.move, [.tmp 5], (some 26), some (25, true)⟩,
 ⟨(.bin .eql), [.tmp 26, .const (.int .i64 0)], (some 27), some (25, true)⟩,
 ⟨.pick, [.tmp 25, .tmp 27, .const (.bool false)], (some 28), none⟩,
 ⟨.move, [.tmp 28], (some 29), none⟩,
 ⟨.move, [.tmp 2], (some 30), some (29, true)⟩,
 ⟨(.sliceLit 1 [(.int .u64 0)] [(0, 1)]), [.const (.int .u64 2)], (some 31), some (29, true)⟩,
 ⟨(.callF 15), [.tmp 30, .tmp 31], (some 32), some (29, true)⟩,
 ⟨.pick, [.tmp 29, .tmp 32, .const (.bool false)], (some 33), none⟩,
 ⟨.move, [.tmp 33], (some 34), none⟩,
 ⟨.move, [.tmp 4], (some 35), some (34, true)⟩,
 ⟨(.sliceLit 2 [(.int .u64 0), (.int .u64 0)] [(0, 1), (1, 1)]), [.const (.int .u64 1), .const (.int .u64 3)], (some 36), some (34, true)⟩,
 ⟨(.callF 15), [.tmp 35, .tmp 36], (some 37), some (34, true)⟩,
 ⟨.pick, [.tmp 34, .tmp 37, .const (.bool false)], (some 38), none⟩,
 ⟨.move, [.tmp 38], (some 0), none⟩])
 .ret)))))))), [.tmp 0]⟩
theorem c5_ok : compFunc Try.prog Try.f5 = some c5 := by kernel_rfl
theorem c5_body : hasBody Try.prog 5 = true := hasBody_of Try.func5 (by kernel_rfl)
/-- coachyard/timer.New -/
def c6 : PFn := ⟨4, Tr.ofList (List.replicate 4 undefA), (.seq (.seqR [⟨.move, [.const (.ptr none)], (some 0), none⟩])
 (.seq (.seqR [⟨.makeMap, [], (some 1), none⟩,
 ⟨(.build [(.slice none 0 0 false), (.map none), (.int .i64 0), (.int .i64 0)] [(1, 1)]), [.tmp 1], (some 2), none⟩,
 ⟨.box, [.tmp 2], (some 3), none⟩,
 ⟨.move, [.tmp 3], (some 0), none⟩])
 .ret)), [.tmp 0]⟩
theorem c6_ok : compFunc Try.prog Try.f6 = some c6 := by kernel_rfl
theorem c6_body : hasBody Try.prog 6 = true := hasBody_of Try.func6 (by kernel_rfl)
/-- (*coachyard/timer.Timer).Add -/
def c7 : PFn := ⟨52, Tr.ofList (List.replicate 52 undefA), (.seq (.seqR [⟨.move, [.const (.int .i64 0)], (some 6), none⟩,
 ⟨.move, [.const (.int .i64 0)], (some 7), none⟩])
 (.seq (.seq (.seqR [⟨.move, [.tmp 0], (some 10), none⟩,
 ⟨.move, [.tmp 1], (some 11), none⟩,
 ⟨(.callF 17), [.tmp 10, .tmp 11], (some 12), none⟩,
 ⟨.move, [.tmp 12], (some 8), none⟩])
 (.seq (.seqR [⟨.move, [.tmp 8], (some 13), none⟩,
 ⟨(.bin .neq), [.tmp 13, .const (.int .i64 0)], (some 14), none⟩])
 (.cond (.tmp 14) (.seq (.seqR [⟨.move, [.tmp 8], (some 15), none⟩,
 ⟨.move, [.const (.int .i64 0)], (some 6), none⟩,
 ⟨.move, [.tmp 15], (some 7), none⟩])
 .ret)
 .skip)))
 (.seq (.seqR [⟨.move, [.tmp 1], (some 16), none⟩,
 ⟨.move, [.tmp 2], (some 17), none⟩,
 ⟨(.build [(.int .i64 0), (.int .u64 0)] [(0, 1), (1, 1)]), [.tmp 16, .tmp 17], (some 18), none⟩,
 ⟨.move, [.tmp 0], (some 19), none⟩,
 ⟨.nilCheck, [.tmp 19], (some 20), none⟩,
 ⟨(.fieldAddr 2), [.tmp 20], (some 21), none⟩,
 ⟨(.load false 1), [.tmp 21], (some 22), none⟩,
 ⟨(.build [(.int .i64 0), (.int .u64 0), (.int .i64 0), (.int .i64 0)] [(0, 2), (2, 1)]), [.tmp 18, .tmp 22], (some 23), none⟩,
 ⟨.box, [.tmp 23], (some 24), none⟩,
 ⟨.move, [.tmp 24], (some 9), none⟩])
 (.seq (.seqR [⟨.move, [.tmp 0], (some 25), none⟩,
 ⟨.nilCheck, [.tmp 25], (some 26), none⟩,
 ⟨(.fieldAddr 0), [.tmp 26], (some 27), none⟩,
 ⟨(.mkIface 66), [.tmp 27], (some 28), none⟩,
 ⟨.move, [.tmp 9], (some 29), none⟩,
 ⟨(.mkIface 60), [.tmp 29], (some 30), none⟩,
 ⟨(.callF 18), [.tmp 28, .tmp 30], (some 31), none⟩])
 (.seq (.drawR [⟨⟨.move, [.tmp 0], (some 32), none⟩, false, false, 0, 0⟩,
 ⟨⟨.nilCheck, [.tmp 32], (some 33), none⟩, false, false, 0, 0⟩,
 ⟨⟨(.fieldAddr 1), [.tmp 33], (some 34), none⟩, false, false, 0, 0⟩,
 ⟨⟨(.load false 1), [.tmp 34], (some 35), none⟩, false, false, 0, 0⟩,
 ⟨⟨.move, [.tmp 9], (some 36), none⟩, false, false, 0, 0⟩,
 ⟨⟨.nilCheck, [.tmp 36], (some 37), none⟩, false, false, 0, 0⟩,
 ⟨⟨(.fieldAddr 2), [.tmp 37], (some 38), none⟩, false, false, 0, 0⟩,
 ⟨⟨(.load false 1), [.tmp 38], (some 39), none⟩, false, false, 0, 0⟩,
 ⟨⟨.move, [.tmp 9], (some 40), none⟩, false, false, 0, 0⟩,
 ⟨⟨(.mapUpdate 0), [.tmp 35, .tmp 39, .tmp 40], none, none⟩, true, false, 0, 1⟩])
 (.seq (.seqR [⟨.move, [.tmp 0], (some 41), none⟩,
 ⟨.nilCheck, [.tmp 41], (some 42), none⟩,
 ⟨(.fieldAddr 2), [.tmp 42], (some 43), none⟩,
 ⟨(.load false 1), [.tmp 43], (some 44), none⟩,
 ⟨(.bin .add), [.tmp 44, .const (.int .i64 1)], (some 45), none⟩,
 ⟨.nilCheck, [.tmp 41], (some 46), none⟩,
 ⟨(.fieldAddr 2), [.tmp 46], (some 47), none⟩,
 ⟨(.store 1), [.tmp 47, .tmp 45], none, none⟩])
 (.seq (.seqR [⟨.move, [.tmp 9], (some 48), none⟩,
 ⟨.nilCheck, [.tmp 48], (some 49), none⟩,
 ⟨(.fieldAddr 2), [.tmp 49], (some 50), none⟩,
 ⟨(.load false 1), [.tmp 50], (some 51), none⟩,
 ⟨.move, [.tmp 51], (some 6), none⟩,
 ⟨.move, [.const (.int .i64 0)], (some 7), none⟩])
 .ret))))))), [.tmp 6, .tmp 7]⟩
theorem c7_ok : compFunc Try.prog Try.f7 = some c7 := by kernel_rfl
theorem c7_body : hasBody Try.prog 7 = true := hasBody_of Try.func7 (by kernel_rfl)
/-- (*coachyard/timer.Timer).Drop -/
def c8 : PFn := ⟨34, Tr.ofList (List.replicate 34 undefA), (.seq (.seqR [⟨.move, [.const (.int .i64 0)], (some 4), none⟩])
 (.seq (.seq (.seqR [⟨.move, [.tmp 0], (some 7), none⟩,
 ⟨(.eqPtr false), [.tmp 7, .const (.ptr none)], (some 8), none⟩])
 (.cond (.tmp 8) (.seq (.seqR [⟨.move, [.const (.int .i64 1)], (some 4), none⟩])
 .ret)
 .skip))
 (.seq (.seqR [⟨.move, [.tmp 0], (some 10), none⟩,
 ⟨.nilCheck, [.tmp 10], (some 11), none⟩,
 ⟨(.fieldAddr 1), [.tmp 11], (some 12), none⟩,
 ⟨(.load false 1), [.tmp 12], (some 13), none⟩,
 ⟨.move, [.tmp 1], (some 14), none⟩,
 ⟨(.lookup 0 true (.ptr none)), [.tmp 13, .tmp 14], (some 15), none⟩,
 ⟨.move, [.tmp 15], (some 9), none⟩,
 ⟨(.extract 0), [.tmp 9], (some 16), none⟩,
 ⟨(.extract 1), [.tmp 9], (some 17), none⟩,
 ⟨.move, [.tmp 16], (some 5), none⟩,
 ⟨.move, [.tmp 17], (some 6), none⟩])
 (.seq (.seq (.seqR [⟨.move, [.tmp 6], (some 18), none⟩,
 ⟨.not, [.tmp 18], (some 19), none⟩])
 (.cond (.tmp 19) (.seq (.seqR [⟨.move, [.const (.int .i64 15)], (some 4), none⟩])
 .ret)
 .skip))
 (.seq (.drawR [⟨⟨.move, [.tmp 0], (some 20), none⟩, false, false, 0, 0⟩,
 ⟨⟨.nilCheck, [.tmp 20], (some 21), none⟩, false, false, 0, 0⟩,
 ⟨⟨(.fieldAddr 0), [.tmp 21], (some 22), none⟩, false, false, 0, 0⟩,
 ⟨⟨(.mkIface 66), [.tmp 22], (some 23), none⟩, false, false, 0, 0⟩,
 ⟨⟨.move, [.tmp 5], (some 24), none⟩, false, false, 0, 0⟩,
 ⟨⟨.nilCheck, [.tmp 24], (some 25), none⟩, false, false, 0, 0⟩,
 ⟨⟨(.fieldAddr 3), [.tmp 25], (some 26), none⟩, false, false, 0, 0⟩,
 ⟨⟨(.load false 1), [.tmp 26], (some 27), none⟩, false, false, 0, 0⟩,
 ⟨⟨(.callF 19), [.tmp 23, .tmp 27], (some 28), none⟩, true, false, 0, 1⟩])
 (.seq (.seqR [⟨.move, [.tmp 0], (some 29), none⟩,
 ⟨.nilCheck, [.tmp 29], (some 30), none⟩,
 ⟨(.fieldAddr 1), [.tmp 30], (some 31), none⟩,
 ⟨(.load false 1), [.tmp 31], (some 32), none⟩,
 ⟨.move, [.tmp 1], (some 33), none⟩,
 ⟨(.delete 0), [.tmp 32, .tmp 33], none, none⟩])
 (.seq (.seqR [⟨.move, [.const (.int .i64 0)], (some 4), none⟩])
 .ret))))))), [.tmp 4]⟩
theorem c8_ok : compFunc Try.prog Try.f8 = some c8 := by kernel_rfl
theorem c8_body : hasBody Try.prog 8 = true := hasBody_of Try.func8 (by kernel_rfl)
/-- (*coachyard/timer.Timer).Now -/
def c9 : PFn := ⟨9, Tr.ofList (List.replicate 9 undefA), (.seq (.seqR [⟨.move, [.const (.int .i64 0)], (some 2), none⟩])
 (.seq (.seq (.seqR [⟨.move, [.tmp 0], (some 3), none⟩,
 ⟨(.eqPtr false), [.tmp 3, .const (.ptr none)], (some 4), none⟩])
 (.cond (.tmp 4) (.seq (.seqR [⟨.move, [.const (.int .i64 0)], (some 2), none⟩])
 .ret)
 .skip))
 (.seq (.seqR [⟨.move, [.tmp 0], (some 5), none⟩,
 ⟨.nilCheck, [.tmp 5], (some 6), none⟩,
 ⟨(.fieldAddr 3), [.tmp 6], (some 7), none⟩,
 ⟨(.load false 1), [.tmp 7], (some 8), none⟩,
 ⟨.move, [.tmp 8], (some 2), none⟩])
 .ret))), [.tmp 2]⟩
theorem c9_ok : compFunc Try.prog Try.f9 = some c9 := by kernel_rfl
theorem c9_body : hasBody Try.prog 9 = true := hasBody_of Try.func9 (by kernel_rfl)
/-- (*coachyard/timer.Timer).Due -/
def c10 : PFn := ⟨62, Tr.ofList (List.replicate 62 undefA), (.seq (.seqR [⟨.move, [.const (.slice none 0 0 false)], (some 4), none⟩,
 ⟨.move, [.const (.int .i64 0)], (some 5), none⟩])
 (.seq (.seq (.seqR [⟨.move, [.tmp 0], (some 9), none⟩,
 ⟨.move, [.tmp 1], (some 10), none⟩,
 ⟨(.callF 17), [.tmp 9, .tmp 10], (some 11), none⟩,
 ⟨.move, [.tmp 11], (some 6), none⟩])
 (.seq (.seqR [⟨.move, [.tmp 6], (some 12), none⟩,
 ⟨(.bin .neq), [.tmp 12, .const (.int .i64 0)], (some 13), none⟩])
 (.cond (.tmp 13) (.seq (.seqR [⟨.move, [.tmp 6], (some 14), none⟩,
 ⟨.move, [.const (.slice none 0 0 false)], (some 4), none⟩,
 ⟨.move, [.tmp 14], (some 5), none⟩])
 .ret)
 .skip)))
 (.seq (.seqR [⟨.move, [.tmp 0], (some 15), none⟩,
 ⟨.move, [.tmp 1], (some 16), none⟩,
 ⟨.nilCheck, [.tmp 15], (some 17), none⟩,
 ⟨(.fieldAddr 3), [.tmp 17], (some 18), none⟩,
 ⟨(.store 1), [.tmp 18, .tmp 16], none, none⟩])
 (.seq (.seqR [⟨.move, [.const (.slice none 0 0 false)], (some 7), none⟩])
 (.seq (.block 0 (.loop (.seq (.seq (.seqR [⟨.move, [.tmp 0], (some 19), none⟩,
 ⟨.nilCheck, [.tmp 19], (some 20), none⟩,
 ⟨(.fieldAddr 0), [.tmp 20], (some 21), none⟩,
 ⟨(.load false 1), [.tmp 21], (some 22), none⟩,
 ⟨.lenS, [.tmp 22], (some 23), none⟩,
 ⟨(.bin .gtr), [.tmp 23, .const (.int .i64 0)], (some 24), none⟩,
 ⟨.move, [.tmp 24], (some 25), none⟩,
 ⟨.move, [.tmp 0], (some 26), some (25, true)⟩,
 ⟨.nilCheck, [.tmp 26], (some 27), some (25, true)⟩,
 ⟨(.fieldAddr 0), [.tmp 27], (some 28), some (25, true)⟩,
 ⟨(.load false 1), [.tmp 28], (some 29), some (25, true)⟩,
 ⟨(.indexAddrS 1), [.tmp 29, .const (.int .i64 0)], (some 30), some (25, true)⟩,
 ⟨(.load false 1), [.tmp 30], (some 31), some (25, true)⟩,
 ⟨.nilCheck, [.tmp 31], (some 32), some (25, true)⟩,
 ⟨(.fieldAddr 0), [.tmp 32], (some 33), some (25, true)⟩,
 ⟨(.fieldAddr 0), [.tmp 33], (some 34), some (25, true)⟩,
 ⟨(.load false 1), [.tmp 34], (some 35), some (25, true)⟩,
 ⟨.move, [.tmp 1], (some 36), some (25, true)⟩,
 ⟨(.bin .leq), [.tmp 35, .tmp 36], (some 37), some (25, true)⟩,
 ⟨.pick, [.tmp 25, .tmp 37, .const (.bool false)], (some 38), none⟩])
 (.cond (.tmp 38) .skip
 (.exit 0)))
 (.block 1 (.seq (.seqR [⟨.move, [.tmp 0], (some 39), none⟩,
 ⟨.nilCheck, [.tmp 39], (some 40), none⟩,
 ⟨(.fieldAddr 0), [.tmp 40], (some 41), none⟩,
 ⟨(.mkIface 66), [.tmp 41], (some 42), none⟩,
 ⟨(.callF 20), [.tmp 42], (some 43), none⟩,
 ⟨(.assertC 60 false (.ptr none)), [.tmp 43], (some 44), none⟩,
 ⟨.move, [.tmp 44], (some 8), none⟩])
 (.seq (.drawR [⟨⟨.move, [.tmp 0], (some 45), none⟩, false, false, 0, 0⟩,
 ⟨⟨.nilCheck, [.tmp 45], (some 46), none⟩, false, false, 0, 0⟩,
 ⟨⟨(.fieldAddr 1), [.tmp 46], (some 47), none⟩, false, false, 0, 0⟩,
 ⟨⟨(.load false 1), [.tmp 47], (some 48), none⟩, false, false, 0, 0⟩,
 ⟨⟨.move, [.tmp 8], (some 49), none⟩, false, false, 0, 0⟩,
 ⟨⟨.nilCheck, [.tmp 49], (some 50), none⟩, false, false, 0, 0⟩,
 ⟨⟨(.fieldAddr 2), [.tmp 50], (some 51), none⟩, false, false, 0, 0⟩,
 ⟨⟨(.load false 1), [.tmp 51], (some 52), none⟩, false, false, 0, 0⟩,
 ⟨⟨(.delete 0), [.tmp 48, .tmp 52], none, none⟩, true, false, 0, 1⟩])
 (.seqR [⟨.move, [.tmp 7], (some 53), none⟩,
 ⟨.move, [.tmp 8], (some 54), none⟩,
 ⟨.nilCheck, [.tmp 54], (some 55), none⟩,
 ⟨(.fieldAddr 0), [.tmp 55], (some 56), none⟩,
 ⟨(.fieldAddr 1), [.tmp 56], (some 57), none⟩,
 ⟨(.load false 1), [.tmp 57], (some 58), none⟩,
 ⟨(.sliceLit 1 [(.int .u64 0)] [(0, 1)]), [.tmp 58], (some 59), none⟩,
 ⟨(.append 1 8), [.tmp 53, .tmp 59], (some 60), none⟩,
 ⟨.move, [.tmp 60], (some 7), none⟩])))))))
 (.seq (.seqR [⟨.move, [.tmp 7], (some 61), none⟩,
 ⟨.move, [.tmp 61], (some 4), none⟩,
 ⟨.move, [.const (.int .i64 0)], (some 5), none⟩])
 .ret)))))), [.tmp 4, .tmp 5]⟩
theorem c10_ok : compFunc Try.prog Try.f10 = some c10 := by kernel_rfl
theorem c10_body : hasBody Try.prog 10 = true := hasBody_of Try.func10 (by kernel_rfl)
/-- (*coachyard/timer.Timer).Len -/
def c11 : PFn := ⟨10, Tr.ofList (List.replicate 10 undefA), (.seq (.seqR [⟨.move, [.const (.int .i64 0)], (some 2), none⟩])
 (.seq (.seq (.seqR [⟨.move, [.tmp 0], (some 3), none⟩,
 ⟨(.eqPtr false), [.tmp 3, .const (.ptr none)], (some 4), none⟩])
 (.cond (.tmp 4) (.seq (.seqR [⟨.move, [.const (.int .i64 0)], (some 2), none⟩])
 .ret)
 .skip))
 (.seq (.seqR [⟨.move, [.tmp 0], (some 5), none⟩,
 ⟨.nilCheck, [.tmp 5], (some 6), none⟩,
 ⟨(.fieldAddr 0), [.tmp 6], (some 7), none⟩,
 ⟨(.load false 1), [.tmp 7], (some 8), none⟩,
 ⟨.lenS, [.tmp 8], (some 9), none⟩,
 ⟨.move, [.tmp 9], (some 2), none⟩])
 .ret))), [.tmp 2]⟩
theorem c11_ok : compFunc Try.prog Try.f11 = some c11 := by kernel_rfl
theorem c11_body : hasBody Try.prog 11 = true := hasBody_of Try.func11 (by kernel_rfl)
/-- (coachyard/coachyardref23.Timer).Add -/
def c12 : PFn := ⟨67, Tr.ofList (List.replicate 67 undefA), (.seq (.seqR [⟨.box, [.tmp 0], (some 3), none⟩,
 ⟨(.new [(.slice none 0 0 false), (.int .i64 0), (.int .i64 0)]), [], (some 6), none⟩,
 ⟨.move, [.const (.int .i64 0)], (some 7), none⟩,
 ⟨.move, [.const (.int .i64 0)], (some 8), none⟩])
 (.seq (.seq (.seqR [⟨(.load true 3), [.tmp 3], (some 12), none⟩,
 ⟨.move, [.tmp 1], (some 13), none⟩,
 ⟨(.callF 21), [.tmp 12, .tmp 13], (some 14), none⟩,
 ⟨.move, [.tmp 14], (some 9), none⟩])
 (.seq (.seqR [⟨.move, [.tmp 9], (some 15), none⟩,
 ⟨(.bin .neq), [.tmp 15, .const (.int .i64 0)], (some 16), none⟩])
 (.cond (.tmp 16) (.seq (.seqR [⟨(.load true 3), [.tmp 3], (some 17), none⟩,
 ⟨.move, [.tmp 9], (some 18), none⟩,
 ⟨(.store 3), [.tmp 6, .tmp 17], none, none⟩,
 ⟨.move, [.const (.int .i64 0)], (some 7), none⟩,
 ⟨.move, [.tmp 18], (some 8), none⟩])
 .ret)
 .skip)))
 (.seq (.seqR [⟨.move, [.const (.int .i64 0)], (some 10), none⟩])
 (.seq (.block 0 (.loop (.seq (.seq (.seqR [⟨.move, [.tmp 10], (some 19), none⟩,
 ⟨(.fieldAddr 0), [.tmp 3], (some 20), none⟩,
 ⟨(.load false 1), [.tmp 20], (some 21), none⟩,
 ⟨.lenS, [.tmp 21], (some 22), none⟩,
 ⟨(.bin .lss), [.tmp 19, .tmp 22], (some 23), none⟩,
 ⟨.move, [.tmp 23], (some 24), none⟩,
 ⟨(.fieldAddr 0), [.tmp 3], (some 25), some (24, true)⟩,
 ⟨(.load false 1), [.tmp 25], (some 26), some (24, true)⟩,
 ⟨.move, [.tmp 10], (some 27), some (24, true)⟩,
 ⟨(.indexAddrS 3), [.tmp 26, .tmp 27], (some 28), some (24, true)⟩,
 ⟨(.fieldAddr 0), [.tmp 28], (some 29), some (24, true)⟩,
 ⟨(.fieldAddr 0), [.tmp 29], (some 30), some (24, true)⟩,
 ⟨(.load false 1), [.tmp 30], (some 31), some (24, true)⟩,
 ⟨.move, [.tmp 1], (some 32), some (24, true)⟩,
 ⟨(.bin .leq), [.tmp 31, .tmp 32], (some 33), some (24, true)⟩,
 ⟨.pick, [.tmp 24, .tmp 33, .const (.bool false)], (some 34), none⟩])
 (.cond (.tmp 34) .skip
 (.exit 0)))
 (.block 1 (.seqR [⟨.move, [.tmp 10], (some 35), none⟩,
 ⟨(.bin .add), [.tmp 35, .const (.int .i64 1)], (some 36), none⟩,
 ⟨.move, [.tmp 36], (some 10), none⟩])))))
 (.seq (.seqR [⟨(.sliceLit 0 [] []), [], (some 37), none⟩,
 ⟨(.fieldAddr 0), [.tmp 3], (some 38), none⟩,
 ⟨(.load false 1), [.tmp 38], (some 39), none⟩,
 ⟨.move, [.tmp 10], (some 40), none⟩,
 ⟨(.slice 3 false true false), [.tmp 39, .tmp 40], (some 41), none⟩,
 ⟨(.append 3 24), [.tmp 37, .tmp 41], (some 42), none⟩,
 ⟨.move, [.tmp 42], (some 11), none⟩])
 (.seq (.seqR [⟨.move, [.tmp 11], (some 43), none⟩,
 ⟨.move, [.tmp 1], (some 44), none⟩,
 ⟨.move, [.tmp 2], (some 45), none⟩,
 ⟨(.build [(.int .i64 0), (.int .u64 0)] [(0, 1), (1, 1)]), [.tmp 44, .tmp 45], (some 46), none⟩,
 ⟨(.fieldAddr 1), [.tmp 3], (some 47), none⟩,
 ⟨(.load false 1), [.tmp 47], (some 48), none⟩,
 ⟨(.build [(.int .i64 0), (.int .u64 0), (.int .i64 0)] [(0, 2), (2, 1)]), [.tmp 46, .tmp 48], (some 49), none⟩,
 ⟨(.sliceLit 1 [(.int .i64 0), (.int .u64 0), (.int .i64 0)] [(0, 3)]), [.tmp 49], (some 50), none⟩,
 ⟨(.append 3 24), [.tmp 43, .tmp 50], (some 51), none⟩,
 ⟨.move, [.tmp 51], (some 11), none⟩])
 (.seq (.seqR [⟨.move, [.tmp 11], (some 52), none⟩,
 ⟨(.fieldAddr 0), [.tmp 3], (some 53), none⟩,
 ⟨(.load false 1), [.tmp 53], (some 54), none⟩,
 ⟨.move, [.tmp 10], (some 55), none⟩,
 ⟨(.slice 3 true false false), [.tmp 54, .tmp 55], (some 56), none⟩,
 ⟨(.append 3 24), [.tmp 52, .tmp 56], (some 57), none⟩,
 ⟨.move, [.tmp 57], (some 11), none⟩])
 (.seq (.drawR [⟨⟨.move, [.tmp 11], (some 58), none⟩, false, false, 0, 0⟩,
 ⟨⟨(.fieldAddr 1), [.tmp 3], (some 59), none⟩, false, false, 0, 0⟩,
 ⟨⟨(.load false 1), [.tmp 59], (some 60), none⟩, false, false, 0, 0⟩,
 ⟨⟨(.bin .add), [.tmp 60, .const (.int .i64 1)], (some 61), none⟩, false, false, 0, 0⟩,
 ⟨⟨(.fieldAddr 2), [.tmp 3], (some 62), none⟩, false, false, 0, 0⟩,
 ⟨⟨(.load false 1), [.tmp 62], (some 63), none⟩, false, false, 0, 0⟩,
 ⟨⟨(.build [(.slice none 0 0 false), (.int .i64 0), (.int .i64 0)] [(0, 1), (1, 1), (2, 1)]), [.tmp 58, .tmp 61, .tmp 63], (some 64), none⟩, false, false, 0, 0⟩,
 ⟨⟨(.fieldAddr 1), [.tmp 3], (some 65), none⟩, false, false, 0, 1⟩,
 ⟨⟨(.load false 1), [.tmp 65], (some 66), none⟩, false, false, 0, 1⟩,
 ⟨⟨(.store 3), [.tmp 6, .tmp 64], none, none⟩, true, false, 0, 1⟩,
 ⟨⟨.move, [.tmp 66], (some 7), none⟩, false, false, 1, 1⟩,
 ⟨⟨.move, [.const (.int .i64 0)], (some 8), none⟩, false, false, 1, 1⟩])
 .ret)))))))), [.cell 6 true 3, .tmp 7, .tmp 8]⟩
theorem c12_ok : compFunc Try.prog Try.f12 = some c12 := by kernel_rfl
theorem c12_body : hasBody Try.prog 12 = true := hasBody_of Try.func12 (by kernel_rfl)
/-- (coachyard/coachyardref23.Timer).Drop -/
def c13 : PFn := ⟨42, Tr.ofList (List.replicate 42 undefA), (.seq (.seqR [⟨.box, [.tmp 0], (some 2), none⟩,
 ⟨(.new [(.slice none 0 0 false), (.int .i64 0), (.int .i64 0)]), [], (some 4), none⟩,
 ⟨.move, [.const (.int .i64 0)], (some 5), none⟩])
 (.seq (.seq (.seqR [⟨.move, [.const (.int .i64 0)], (some 6), none⟩])
 (.block 0 (.loop (.seq (.seq (.seqR [⟨.move, [.tmp 6], (some 8), none⟩,
 ⟨(.fieldAddr 0), [.tmp 2], (some 9), none⟩,
 ⟨(.load false 1), [.tmp 9], (some 10), none⟩,
 ⟨.lenS, [.tmp 10], (some 11), none⟩,
 ⟨(.bin .lss), [.tmp 8, .tmp 11], (some 12), none⟩])
 (.cond (.tmp 12) .skip
 (.exit 0)))
 (.seq (.block 1 (.seq (.seqR [⟨(.fieldAddr 0), [.tmp 2], (some 15), none⟩,
 ⟨(.load false 1), [.tmp 15], (some 16), none⟩,
 ⟨.move, [.tmp 6], (some 17), none⟩,
 ⟨(.indexAddrS 3), [.tmp 16, .tmp 17], (some 18), none⟩,
 ⟨(.fieldAddr 2), [.tmp 18], (some 19), none⟩,
 ⟨(.load false 1), [.tmp 19], (some 20), none⟩,
 ⟨.move, [.tmp 1], (some 21), none⟩,
 ⟨(.bin .eql), [.tmp 20, .tmp 21], (some 22), none⟩])
 (.cond (.tmp 22) (.seq (.seqR [⟨(.sliceLit 0 [] []), [], (some 23), none⟩,
 ⟨(.fieldAddr 0), [.tmp 2], (some 24), none⟩,
 ⟨(.load false 1), [.tmp 24], (some 25), none⟩,
 ⟨.move, [.tmp 6], (some 26), none⟩,
 ⟨(.slice 3 false true false), [.tmp 25, .tmp 26], (some 27), none⟩,
 ⟨(.append 3 24), [.tmp 23, .tmp 27], (some 28), none⟩,
 ⟨.move, [.tmp 28], (some 7), none⟩])
 (.seq (.drawR [⟨⟨.move, [.tmp 7], (some 29), none⟩, false, false, 0, 0⟩,
 ⟨⟨(.fieldAddr 0), [.tmp 2], (some 30), none⟩, false, false, 0, 0⟩,
 ⟨⟨(.load false 1), [.tmp 30], (some 31), none⟩, false, false, 0, 0⟩,
 ⟨⟨.move, [.tmp 6], (some 32), none⟩, false, false, 0, 0⟩,
 ⟨⟨(.bin .add), [.tmp 32, .const (.int .i64 1)], (some 33), none⟩, false, false, 0, 0⟩,
 ⟨⟨(.slice 3 true false false), [.tmp 31, .tmp 33], (some 34), none⟩, false, false, 0, 0⟩,
 ⟨⟨(.append 3 24), [.tmp 29, .tmp 34], (some 35), none⟩, true, false, 0, 1⟩,
 ⟨⟨(.fieldAddr 1), [.tmp 2], (some 36), none⟩, false, false, 0, 1⟩,
 ⟨⟨(.load false 1), [.tmp 36], (some 37), none⟩, false, false, 0, 1⟩,
 ⟨⟨(.fieldAddr 2), [.tmp 2], (some 38), none⟩, false, false, 0, 1⟩,
 ⟨⟨(.load false 1), [.tmp 38], (some 39), none⟩, false, false, 0, 1⟩,
 ⟨⟨(.build [(.slice none 0 0 false), (.int .i64 0), (.int .i64 0)] [(0, 1), (1, 1), (2, 1)]), [.tmp 35, .tmp 37, .tmp 39], (some 40), none⟩, false, false, 1, 1⟩,
 ⟨⟨(.store 3), [.tmp 4, .tmp 40], none, none⟩, true, false, 1, 2⟩,
 ⟨⟨.move, [.const (.int .i64 0)], (some 5), none⟩, false, false, 2, 2⟩])
 .ret))
 .skip)))
 (.seqR [⟨.move, [.tmp 6], (some 13), none⟩,
 ⟨(.bin .add), [.tmp 13, .const (.int .i64 1)], (some 14), none⟩,
 ⟨.move, [.tmp 14], (some 6), none⟩]))))))
 (.seq (.seqR [⟨(.load true 3), [.tmp 2], (some 41), none⟩,
 ⟨(.store 3), [.tmp 4, .tmp 41], none, none⟩,
 ⟨.move, [.const (.int .i64 15)], (some 5), none⟩])
 .ret))), [.cell 4 true 3, .tmp 5]⟩
theorem c13_ok : compFunc Try.prog Try.f13 = some c13 := by kernel_rfl
theorem c13_body : hasBody Try.prog 13 = true := hasBody_of Try.func13 (by kernel_rfl)
/-- (coachyard/coachyardref23.Timer).Due -/
def c14 : PFn := ⟨55, Tr.ofList (List.replicate 55 undefA), (.seq (.seqR [⟨.box, [.tmp 0], (some 2), none⟩,
 ⟨(.new [(.slice none 0 0 false), (.int .i64 0), (.int .i64 0)]), [], (some 4), none⟩,
 ⟨.move, [.const (.slice none 0 0 false)], (some 5), none⟩,
 ⟨.move, [.const (.int .i64 0)], (some 6), none⟩])
 (.seq (.seq (.seqR [⟨(.load true 3), [.tmp 2], (some 10), none⟩,
 ⟨.move, [.tmp 1], (some 11), none⟩,
 ⟨(.callF 21), [.tmp 10, .tmp 11], (some 12), none⟩,
 ⟨.move, [.tmp 12], (some 7), none⟩])
 (.seq (.seqR [⟨.move, [.tmp 7], (some 13), none⟩,
 ⟨(.bin .neq), [.tmp 13, .const (.int .i64 0)], (some 14), none⟩])
 (.cond (.tmp 14) (.seq (.seqR [⟨(.load true 3), [.tmp 2], (some 15), none⟩,
 ⟨.move, [.tmp 7], (some 16), none⟩,
 ⟨(.store 3), [.tmp 4, .tmp 15], none, none⟩,
 ⟨.move, [.const (.slice none 0 0 false)], (some 5), none⟩,
 ⟨.move, [.tmp 16], (some 6), none⟩])
 .ret)
 .skip)))
 (.seq (.seqR [⟨(.sliceLit 0 [] []), [], (some 17), none⟩,
 ⟨.move, [.tmp 17], (some 8), none⟩])
 (.seq (.seqR [⟨.move, [.const (.int .i64 0)], (some 9), none⟩])
 (.seq (.block 0 (.loop (.seq (.seq (.seqR [⟨.move, [.tmp 9], (some 18), none⟩,
 ⟨(.fieldAddr 0), [.tmp 2], (some 19), none⟩,
 ⟨(.load false 1), [.tmp 19], (some 20), none⟩,
 ⟨.lenS, [.tmp 20], (some 21), none⟩,
 ⟨(.bin .lss), [.tmp 18, .tmp 21], (some 22), none⟩,
 ⟨.move, [.tmp 22], (some 23), none⟩,
 ⟨(.fieldAddr 0), [.tmp 2], (some 24), some (23, true)⟩,
 ⟨(.load false 1), [.tmp 24], (some 25), some (23, true)⟩,
 ⟨.move, [.tmp 9], (some 26), some (23, true)⟩,
 ⟨(.indexAddrS 3), [.tmp 25, .tmp 26], (some 27), some (23, true)⟩,
 ⟨(.fieldAddr 0), [.tmp 27], (some 28), some (23, true)⟩,
 ⟨(.fieldAddr 0), [.tmp 28], (some 29), some (23, true)⟩,
 ⟨(.load false 1), [.tmp 29], (some 30), some (23, true)⟩,
 ⟨.move, [.tmp 1], (some 31), some (23, true)⟩,
 ⟨(.bin .leq), [.tmp 30, .tmp 31], (some 32), some (23, true)⟩,
 ⟨.pick, [.tmp 23, .tmp 32, .const (.bool false)], (some 33), none⟩])
 (.cond (.tmp 33) .skip
 (.exit 0)))
 (.block 1 (.seq (.seqR [⟨.move, [.tmp 8], (some 34), none⟩,
 ⟨(.fieldAddr 0), [.tmp 2], (some 35), none⟩,
 ⟨(.load false 1), [.tmp 35], (some 36), none⟩,
 ⟨.move, [.tmp 9], (some 37), none⟩,
 ⟨(.indexAddrS 3), [.tmp 36, .tmp 37], (some 38), none⟩,
 ⟨(.fieldAddr 0), [.tmp 38], (some 39), none⟩,
 ⟨(.fieldAddr 1), [.tmp 39], (some 40), none⟩,
 ⟨(.load false 1), [.tmp 40], (some 41), none⟩,
 ⟨(.sliceLit 1 [(.int .u64 0)] [(0, 1)]), [.tmp 41], (some 42), none⟩,
 ⟨(.append 1 8), [.tmp 34, .tmp 42], (some 43), none⟩,
 ⟨.move, [.tmp 43], (some 8), none⟩])
 (.seqR [⟨.move, [.tmp 9], (some 44), none⟩,
 ⟨(.bin .add), [.tmp 44, .const (.int .i64 1)], (some 45), none⟩,
 ⟨.move, [.tmp 45], (some 9), none⟩]))))))
 (.seq (.drawR [⟨⟨(.fieldAddr 0), [.tmp 2], (some 46), none⟩, false, false, 0, 0⟩,
 ⟨⟨(.load false 1), [.tmp 46], (some 47), none⟩, false, false, 0, 0⟩,
 ⟨⟨.move, [.tmp 9], (some 48), none⟩, false, false, 0, 0⟩,
 ⟨⟨(.slice 3 true false false), [.tmp 47, .tmp 48], (some 49), none⟩, false, false, 0, 0⟩,
 ⟨⟨(.fieldAddr 1), [.tmp 2], (some 50), none⟩, false, false, 0, 0⟩,
 ⟨⟨(.load false 1), [.tmp 50], (some 51), none⟩, false, false, 0, 0⟩,
 ⟨⟨.move, [.tmp 1], (some 52), none⟩, false, false, 0, 0⟩,
 ⟨⟨(.build [(.slice none 0 0 false), (.int .i64 0), (.int .i64 0)] [(0, 1), (1, 1), (2, 1)]), [.tmp 49, .tmp 51, .tmp 52], (some 53), none⟩, false, false, 0, 0⟩,
 ⟨⟨.move, [.tmp 8], (some 54), none⟩, false, false, 0, 1⟩,
 ⟨⟨(.store 3), [.tmp 4, .tmp 53], none, none⟩, true, false, 0, 1⟩,
 ⟨⟨.move, [.tmp 54], (some 5), none⟩, false, false, 1, 1⟩,
 ⟨⟨.move, [.const (.int .i64 0)], (some 6), none⟩, false, false, 1, 1⟩])
 .ret)))))), [.cell 4 true 3, .tmp 5, .tmp 6]⟩
theorem c14_ok : compFunc Try.prog Try.f14 = some c14 := by kernel_rfl
theorem c14_body : hasBody Try.prog 14 = true := hasBody_of Try.func14 (by kernel_rfl)
/-- coachyard/coachyardref01.Same -/
def c15 : PFn := ⟨26, Tr.ofList (List.replicate 26 undefA), (.seq (.seqR [⟨.move, [.const (.bool false)], (some 4), none⟩])
 (.seq (.seq (.seqR [⟨.move, [.tmp 0], (some 6), none⟩,
 ⟨.lenS, [.tmp 6], (some 7), none⟩,
 ⟨.move, [.tmp 1], (some 8), none⟩,
 ⟨.lenS, [.tmp 8], (some 9), none⟩,
 ⟨(.bin .neq), [.tmp 7, .tmp 9], (some 10), none⟩])
 (.cond (.tmp 10) (.seq (.seqR [⟨.move, [.const (.bool false)], (some 4), none⟩])
 .ret)
 .skip))
 (.seq (.seq (.seqR [⟨.move, [.const (.int .i64 0)], (some 5), none⟩])
 (.block 0 (.loop (.seq (.seq (.seqR [⟨.move, [.tmp 5], (some 11), none⟩,
 ⟨.move, [.tmp 0], (some 12), none⟩,
 ⟨.lenS, [.tmp 12], (some 13), none⟩,
 ⟨(.bin .lss), [.tmp 11, .tmp 13], (some 14), none⟩])
 (.cond (.tmp 14) .skip
 (.exit 0)))
 (.seq (.block 1 (.seq (.drawR [⟨⟨.move, [.tmp 0], (some 17), none⟩, false, false, 0, 0⟩,
 ⟨⟨.move, [.tmp 5], (some 18), none⟩, false, false, 0, 0⟩,
 ⟨⟨(.indexAddrS 1), [.tmp 17, .tmp 18], (some 19), none⟩, false, false, 0, 0⟩,
 ⟨⟨(.load false 1), [.tmp 19], (some 20), none⟩, false, false, 0, 0⟩,
 ⟨⟨.move, [.tmp 1], (some 21), none⟩, false, false, 0, 0⟩,
 ⟨⟨.move, [.tmp 5], (some 22), none⟩, false, false, 0, 0⟩,
 ⟨⟨(.indexAddrS 1), [.tmp 21, .tmp 22], (some 23), none⟩, false, false, 0, 0⟩,
 ⟨⟨(.load false 1), [.tmp 23], (some 24), none⟩, false, false, 0, 0⟩,
 ⟨⟨(.bin .neq), [.tmp 20, .tmp 24], (some 25), none⟩, false, false, 0, 0⟩])
 (.cond (.tmp 25) (.seq (.seqR [⟨.move, [.const (.bool false)], (some 4), none⟩])
 .ret)
 .skip)))
 (.seqR [⟨.move, [.tmp 5], (some 15), none⟩,
 ⟨(.bin .add), [.tmp 15, .const (.int .i64 1)], (some 16), none⟩,
 ⟨.move, [.tmp 16], (some 5), none⟩]))))))
 (.seq (.seqR [⟨.move, [.const (.bool true)], (some 4), none⟩])
 .ret)))), [.tmp 4]⟩
theorem c15_ok : compFunc Try.prog Try.f15 = some c15 := by kernel_rfl
theorem c15_body : hasBody Try.prog 15 = true := hasBody_of Try.func15 (by kernel_rfl)
/-- coachyard/coachyardlaw23.even -/
def c16 : PFn := ⟨82, Tr.ofList (List.replicate 82 undefA), (.seq (.seqR [⟨.box, [.tmp 1], (some 3), none⟩,
 ⟨.move, [.const (.bool false)], (some 4), none⟩])
 (.seq (.seqR [⟨.move, [.tmp 0], (some 10), none⟩,
 ⟨(.callF 22), [.tmp 10], (some 11), none⟩,
 ⟨.move, [.tmp 11], (some 9), none⟩,
 ⟨(.extract 0), [.tmp 9], (some 12), none⟩,
 ⟨(.extract 1), [.tmp 9], (some 13), none⟩,
 ⟨.move, [.tmp 12], (some 5), none⟩,
 ⟨.move, [.tmp 13], (some 6), none⟩])
 (.seq (.seqR [⟨.move, [.tmp 0], (some 14), none⟩,
 ⟨(.callF 23), [.tmp 14], (some 15), none⟩,
 ⟨.move, [.tmp 15], (some 7), none⟩])
 (.seq (.seq (.drawR [⟨⟨.move, [.tmp 0], (some 16), none⟩, false, false, 0, 0⟩,
 ⟨⟨(.callF 11), [.tmp 16], (some 17), none⟩, true, false, 0, 1⟩,
 ⟨⟨(.fieldAddr 0), [.tmp 3], (some 18), none⟩, false, false, 0, 1⟩,
 ⟨⟨(.load false 1), [.tmp 18], (some 19), none⟩, false, false, 0, 1⟩,
 ⟨⟨.lenS, [.tmp 19], (some 20), none⟩, false, false, 0, 1⟩,
 ⟨⟨(.bin .neq), [.tmp 17, .tmp 20], (some 21), none⟩, false, false, 1, 1⟩,
 ⟨⟨.move, [.tmp 21], (some 22), none⟩, false, false, 1, 1⟩,
 ⟨⟨.move, [.tmp 0], (some 23), some (22, false)⟩, false, false, 1, 1⟩,
 ⟨⟨(.callF 9), [.tmp 23], (some 24), some (22, false)⟩, true, false, 1, 2⟩,
 ⟨⟨(.fieldAddr 2), [.tmp 3], (some 25), some (22, false)⟩, false, false, 1, 2⟩,
 ⟨⟨(.load false 1), [.tmp 25], (some 26), some (22, false)⟩, false, false, 1, 2⟩,
 ⟨⟨(.bin .neq), [.tmp 24, .tmp 26], (some 27), some (22, false)⟩, false, false, 2, 2⟩,
 ⟨⟨.pick, [.tmp 22, .const (.bool true), .tmp 27], (some 28), none⟩, false, false, 2, 2⟩,
 ⟨⟨.move, [.tmp 28], (some 29), none⟩, false, false, 2, 2⟩,
 ⟨⟨.move, [.tmp 7], (some 30), some (29, false)⟩, false, false, 2, 2⟩,
 ⟨⟨.lenS, [.tmp 30], (some 31), some (29, false)⟩, false, false, 2, 2⟩,
 ⟨⟨(.fieldAddr 0), [.tmp 3], (some 32), some (29, false)⟩, false, false, 2, 2⟩,
 ⟨⟨(.load false 1), [.tmp 32], (some 33), some (29, false)⟩, false, false, 2, 2⟩,
 ⟨⟨.lenS, [.tmp 33], (some 34), some (29, false)⟩, false, false, 2, 2⟩,
 ⟨⟨(.bin .neq), [.tmp 31, .tmp 34], (some 35), some (29, false)⟩, false, false, 2, 2⟩,
 ⟨⟨.pick, [.tmp 29, .const (.bool true), .tmp 35], (some 36), none⟩, false, false, 2, 2⟩,
 ⟨⟨.move, [.tmp 36], (some 37), none⟩, false, false, 2, 2⟩,
 ⟨⟨.move, [.tmp 6], (some 38), some (37, false)⟩, false, false, 2, 2⟩,
 ⟨⟨(.fieldAddr 0), [.tmp 3], (some 39), some (37, false)⟩, false, false, 2, 2⟩,
 ⟨⟨(.load false 1), [.tmp 39], (some 40), some (37, false)⟩, false, false, 2, 2⟩,
 ⟨⟨.lenS, [.tmp 40], (some 41), some (37, false)⟩, false, false, 2, 2⟩,
 ⟨⟨(.bin .gtr), [.tmp 41, .const (.int .i64 0)], (some 42), some (37, false)⟩, false, false, 2, 2⟩,
 ⟨⟨(.eqBool true), [.tmp 38, .tmp 42], (some 43), some (37, false)⟩, false, false, 2, 2⟩,
 ⟨⟨.pick, [.tmp 37, .const (.bool true), .tmp 43], (some 44), none⟩, false, false, 2, 2⟩,
 ⟨⟨.move, [.tmp 44], (some 45), none⟩, false, false, 2, 2⟩,
 ⟨⟨.move, [.tmp 6], (some 46), some (45, false)⟩, false, false, 2, 2⟩,
 ⟨⟨.not, [.tmp 46], (some 47), some (45, false)⟩, false, false, 2, 2⟩,
 ⟨⟨.move, [.tmp 47], (some 48), some (45, false)⟩, false, false, 2, 2⟩,
 ⟨⟨.move, [.tmp 5], (some 49), some (48, true)⟩, false, false, 2, 2⟩,
 ⟨⟨(.bin .neq), [.tmp 49, .const (.int .i64 0)], (some 50), some (48, true)⟩, false, false, 2, 2⟩,
 ⟨⟨.pick, [.tmp 48, .tmp 50, .const (.bool false)], (some 51), some (45, false)⟩, false, false, 2, 2⟩,
 ⟨⟨.pick, [.tmp 45, .const (.bool true), .tmp 51], (some 52), none⟩, false, false, 2, 2⟩])
 (.cond (.tmp 52) (.seq (.seqR [⟨.move, [.const (.bool false)], (some 4), none⟩])
 .ret)
 .skip))
 (.seq (.seq (.seqR [⟨.move, [.const (.int .i64 0)], (some 8), none⟩])
 (.block 0 (.loop (.seq (.seq (.seqR [⟨.move, [.tmp 8], (some 53), none⟩,
 ⟨.move, [.tmp 7], (some 54), none⟩,
 ⟨.lenS, [.tmp 54], (some 55), none⟩,
 ⟨(.bin .lss), [.tmp 53, .tmp 55], (some 56), none⟩])
 (.cond (.tmp 56) .skip
 (.exit 0)))
 (.seq (.block 1 (.seq (.drawR [⟨⟨.move, [.tmp 7], (some 59), none⟩, false, false, 0, 0⟩,
 ⟨⟨.move, [.tmp 8], (some 60), none⟩, false, false, 0, 0⟩,
 ⟨⟨(.indexAddrS 2), [.tmp 59, .tmp 60], (some 61), none⟩, false, false, 0, 0⟩,
 ⟨⟨(.load true 2), [.tmp 61], (some 62), none⟩, false, false, 0, 0⟩,
 ⟨⟨(.fieldAddr 0), [.tmp 3], (some 63), none⟩, false, false, 0, 0⟩,
 ⟨⟨(.load false 1), [.tmp 63], (some 64), none⟩, false, false, 0, 0⟩,
 ⟨⟨.move, [.tmp 8], (some 65), none⟩, false, false, 0, 0⟩,
 ⟨⟨(.indexAddrS 3), [.tmp 64, .tmp 65], (some 66), none⟩, false, false, 0, 0⟩,
 ⟨⟨(.fieldAddr 0), [.tmp 66], (some 67), none⟩, false, false, 0, 0⟩,
 ⟨⟨(.load true 2), [.tmp 67], (some 68), none⟩, false, false, 0, 0⟩,
 ⟨⟨(.eqStruct [(0, 0), (1, 0)] true), [.tmp 62, .tmp 68], (some 69), none⟩, false, false, 0, 0⟩])
 (.cond (.tmp 69) (.seq (.seqR [⟨.move, [.const (.bool false)], (some 4), none⟩])
 .ret)
 .skip)))
 (.seqR [⟨.move, [.tmp 8], (some 57), none⟩,
 ⟨(.bin .add), [.tmp 57, .const (.int .i64 1)], (some 58), none⟩,
 ⟨.move, [.tmp 58], (some 8), none⟩]))))))
 (.seq (.seqR [⟨.move, [.tmp 6], (some 70), none⟩,
 ⟨.not, [.tmp 70], (some 71), none⟩,
 ⟨.move, [.tmp 71], (some 72), none⟩,
 ⟨.move, [.tmp 5], (some 73), some (72, false)⟩,
 ⟨(.fieldAddr 0), [.tmp 3], (some 74), some (72, false)⟩,
 ⟨(.load false 1), [.tmp 74], (some 75), some (72, false)⟩,
 ⟨(.indexAddrS 3), [.tmp 75, .const (.int .i64 0)], (some 76), some (72, false)⟩,
 ⟨(.fieldAddr 0), [.tmp 76], (some 77), some (72, false)⟩,
 ⟨(.fieldAddr 0), [.tmp 77], (some 78), some (72, false)⟩,
 ⟨(.load false 1), [.tmp 78], (some 79), some (72, false)⟩,
 ⟨(.bin .eql), [.tmp 73, .tmp 79], (some 80), some (72, false)⟩,
 ⟨.pick, [.tmp 72, .const (.bool true), .tmp 80], (some 81), none⟩,
 ⟨.move, [.tmp 81], (some 4), none⟩])
 .ret)))))), [.tmp 4]⟩
theorem c16_ok : compFunc Try.prog Try.f16 = some c16 := by kernel_rfl
theorem c16_body : hasBody Try.prog 16 = true := hasBody_of Try.func16 (by kernel_rfl)
/-- (*coachyard/timer.Timer).check -/
def c17 : PFn := ⟨22, Tr.ofList (List.replicate 22 undefA), (.seq (.seqR [⟨.move, [.const (.int .i64 0)], (some 4), none⟩])
 (.seq (.block 0 (.seq (.seqR [⟨.move, [.tmp 0], (some 6), none⟩,
 ⟨(.eqPtr false), [.tmp 6, .const (.ptr none)], (some 7), none⟩,
 ⟨.move, [.tmp 7], (some 5), none⟩])
 (.cond (.tmp 5) (.seq (.seqR [⟨.move, [.const (.int .i64 1)], (some 4), none⟩])
 .ret)
 (.seq (.seqR [⟨.move, [.tmp 1], (some 9), none⟩,
 ⟨(.bin .lss), [.tmp 9, .const (.int .i64 0)], (some 10), none⟩,
 ⟨.move, [.tmp 10], (some 11), none⟩,
 ⟨.move, [.tmp 1], (some 12), some (11, false)⟩,
 ⟨(.bin .gtr), [.tmp 12, .const (.int .i64 1099511627776)], (some 13), some (11, false)⟩,
 ⟨.pick, [.tmp 11, .const (.bool true), .tmp 13], (some 14), none⟩,
 ⟨.move, [.tmp 14], (some 8), none⟩])
 (.cond (.tmp 8) (.seq (.seqR [⟨.move, [.const (.int .i64 2)], (some 4), none⟩])
 .ret)
 (.seq (.seqR [⟨.move, [.tmp 1], (some 16), none⟩,
 ⟨.move, [.tmp 0], (some 17), none⟩,
 ⟨.nilCheck, [.tmp 17], (some 18), none⟩,
 ⟨(.fieldAddr 3), [.tmp 18], (some 19), none⟩,
 ⟨(.load false 1), [.tmp 19], (some 20), none⟩,
 ⟨(.bin .lss), [.tmp 16, .tmp 20], (some 21), none⟩,
 ⟨.move, [.tmp 21], (some 15), none⟩])
 (.cond (.tmp 15) (.seq (.seqR [⟨.move, [.const (.int .i64 15)], (some 4), none⟩])
 .ret)
 .skip)))))))
 (.seq (.seqR [⟨.move, [.const (.int .i64 0)], (some 4), none⟩])
 .ret))), [.tmp 4]⟩
theorem c17_ok : compFunc Try.prog Try.f17 = some c17 := by kernel_rfl
theorem c17_body : hasBody Try.prog 17 = true := hasBody_of Try.func17 (by kernel_rfl)
/-- container/heap.Push -/
def c18 : PFn := ⟨12, Tr.ofList (List.replicate 12 undefA), (.seq (.seqR [⟨.move, [.tmp 0], (some 4), none⟩,
 ⟨.move, [.tmp 1], (some 5), none⟩,
 ⟨(.invoke [(66, 76)] []), [.tmp 4, .tmp 5], (some 6), none⟩])
 (.seqR [⟨.move, [.tmp 0], (some 7), none⟩,
 ⟨.move, [.tmp 0], (some 8), none⟩,
 ⟨(.invoke [(25, 11), (56, 72)] [(66, 72, false, 1)]), [.tmp 8], (some 9), none⟩,
 ⟨(.bin .sub), [.tmp 9, .const (.int .i64 1)], (some 10), none⟩,
 ⟨(.callF 24), [.tmp 7, .tmp 10], (some 11), none⟩])), []⟩
theorem c18_ok : compFunc Try.prog Try.f18 = some c18 := by kernel_rfl
theorem c18_body : hasBody Try.prog 18 = true := hasBody_of Try.func18 (by kernel_rfl)
/-- container/heap.Remove -/
def c19 : PFn := ⟨26, Tr.ofList (List.replicate 26 undefA), (.seq (.seqR [⟨.move, [.const .nilIface], (some 4), none⟩])
 (.seq (.seqR [⟨.move, [.tmp 0], (some 6), none⟩,
 ⟨(.invoke [(25, 11), (56, 72)] [(66, 72, false, 1)]), [.tmp 6], (some 7), none⟩,
 ⟨(.bin .sub), [.tmp 7, .const (.int .i64 1)], (some 8), none⟩,
 ⟨.move, [.tmp 8], (some 5), none⟩])
 (.seq (.seq (.seqR [⟨.move, [.tmp 5], (some 9), none⟩,
 ⟨.move, [.tmp 1], (some 10), none⟩,
 ⟨(.bin .neq), [.tmp 9, .tmp 10], (some 11), none⟩])
 (.cond (.tmp 11) (.seq (.seqR [⟨.move, [.tmp 0], (some 12), none⟩,
 ⟨.move, [.tmp 1], (some 13), none⟩,
 ⟨.move, [.tmp 5], (some 14), none⟩,
 ⟨(.invoke [(56, 74)] [(66, 74, false, 1)]), [.tmp 12, .tmp 13, .tmp 14], (some 15), none⟩])
 (.seq (.seqR [⟨.move, [.tmp 0], (some 16), none⟩,
 ⟨.move, [.tmp 1], (some 17), none⟩,
 ⟨.move, [.tmp 5], (some 18), none⟩,
 ⟨(.callF 25), [.tmp 16, .tmp 17, .tmp 18], (some 19), none⟩,
 ⟨.not, [.tmp 19], (some 20), none⟩])
 (.cond (.tmp 20) (.seqR [⟨.move, [.tmp 0], (some 21), none⟩,
 ⟨.move, [.tmp 1], (some 22), none⟩,
 ⟨(.callF 24), [.tmp 21, .tmp 22], (some 23), none⟩])
 .skip)))
 .skip))
 (.seq (.seqR [⟨.move, [.tmp 0], (some 24), none⟩,
 ⟨(.invoke [(66, 75)] []), [.tmp 24], (some 25), none⟩,
 ⟨.move, [.tmp 25], (some 4), none⟩])
 .ret)))), [.tmp 4]⟩
theorem c19_ok : compFunc Try.prog Try.f19 = some c19 := by kernel_rfl
theorem c19_body : hasBody Try.prog 19 = true := hasBody_of Try.func19 (by kernel_rfl)
/-- container/heap.Pop -/
def c20 : PFn := ⟨15, Tr.ofList (List.replicate 15 undefA), (.seq (.seqR [⟨.move, [.const .nilIface], (some 2), none⟩])
 (.seq (.seqR [⟨.move, [.tmp 0], (some 4), none⟩,
 ⟨(.invoke [(25, 11), (56, 72)] [(66, 72, false, 1)]), [.tmp 4], (some 5), none⟩,
 ⟨(.bin .sub), [.tmp 5, .const (.int .i64 1)], (some 6), none⟩,
 ⟨.move, [.tmp 6], (some 3), none⟩])
 (.seq (.seqR [⟨.move, [.tmp 0], (some 7), none⟩,
 ⟨.move, [.tmp 3], (some 8), none⟩,
 ⟨(.invoke [(56, 74)] [(66, 74, false, 1)]), [.tmp 7, .const (.int .i64 0), .tmp 8], (some 9), none⟩])
 (.seq (.seqR [⟨.move, [.tmp 0], (some 10), none⟩,
 ⟨.move, [.tmp 3], (some 11), none⟩,
 ⟨(.callF 25), [.tmp 10, .const (.int .i64 0), .tmp 11], (some 12), none⟩])
 (.seq (.seqR [⟨.move, [.tmp 0], (some 13), none⟩,
 ⟨(.invoke [(66, 75)] []), [.tmp 13], (some 14), none⟩,
 ⟨.move, [.tmp 14], (some 2), none⟩])
 .ret))))), [.tmp 2]⟩
theorem c20_ok : compFunc Try.prog Try.f20 = some c20 := by kernel_rfl
theorem c20_body : hasBody Try.prog 20 = true := hasBody_of Try.func20 (by kernel_rfl)
/-- (coachyard/coachyardref23.Timer).May -/
def c21 : PFn := ⟨15, Tr.ofList (List.replicate 15 undefA), (.seq (.seqR [⟨.box, [.tmp 0], (some 2), none⟩,
 ⟨.move, [.const (.int .i64 0)], (some 4), none⟩])
 (.seq (.seq (.seqR [⟨.move, [.tmp 1], (some 5), none⟩,
 ⟨(.bin .lss), [.tmp 5, .const (.int .i64 0)], (some 6), none⟩,
 ⟨.move, [.tmp 6], (some 7), none⟩,
 ⟨.move, [.tmp 1], (some 8), some (7, false)⟩,
 ⟨(.bin .gtr), [.tmp 8, .const (.int .i64 1099511627776)], (some 9), some (7, false)⟩,
 ⟨.pick, [.tmp 7, .const (.bool true), .tmp 9], (some 10), none⟩])
 (.cond (.tmp 10) (.seq (.seqR [⟨.move, [.const (.int .i64 2)], (some 4), none⟩])
 .ret)
 .skip))
 (.seq (.seq (.seqR [⟨.move, [.tmp 1], (some 11), none⟩,
 ⟨(.fieldAddr 2), [.tmp 2], (some 12), none⟩,
 ⟨(.load false 1), [.tmp 12], (some 13), none⟩,
 ⟨(.bin .lss), [.tmp 11, .tmp 13], (some 14), none⟩])
 (.cond (.tmp 14) (.seq (.seqR [⟨.move, [.const (.int .i64 15)], (some 4), none⟩])
 .ret)
 .skip))
 (.seq (.seqR [⟨.move, [.const (.int .i64 0)], (some 4), none⟩])
 .ret)))), [.tmp 4]⟩
theorem c21_ok : compFunc Try.prog Try.f21 = some c21 := by kernel_rfl
theorem c21_body : hasBody Try.prog 21 = true := hasBody_of Try.func21 (by kernel_rfl)
/-- (*coachyard/timer.Timer).First -/
def c22 : PFn := ⟨17, Tr.ofList (List.replicate 17 undefA), (.seq (.seqR [⟨.move, [.const (.int .i64 0)], (some 2), none⟩,
 ⟨.move, [.const (.bool false)], (some 3), none⟩])
 (.seq (.seq (.seqR [⟨.move, [.tmp 0], (some 4), none⟩,
 ⟨(.callF 11), [.tmp 4], (some 5), none⟩,
 ⟨(.bin .eql), [.tmp 5, .const (.int .i64 0)], (some 6), none⟩])
 (.cond (.tmp 6) (.seq (.seqR [⟨.move, [.const (.int .i64 0)], (some 2), none⟩,
 ⟨.move, [.const (.bool false)], (some 3), none⟩])
 .ret)
 .skip))
 (.seq (.seqR [⟨.move, [.tmp 0], (some 7), none⟩,
 ⟨.nilCheck, [.tmp 7], (some 8), none⟩,
 ⟨(.fieldAddr 0), [.tmp 8], (some 9), none⟩,
 ⟨(.load false 1), [.tmp 9], (some 10), none⟩,
 ⟨(.indexAddrS 1), [.tmp 10, .const (.int .i64 0)], (some 11), none⟩,
 ⟨(.load false 1), [.tmp 11], (some 12), none⟩,
 ⟨.nilCheck, [.tmp 12], (some 13), none⟩,
 ⟨(.fieldAddr 0), [.tmp 13], (some 14), none⟩,
 ⟨(.fieldAddr 0), [.tmp 14], (some 15), none⟩,
 ⟨(.load false 1), [.tmp 15], (some 16), none⟩,
 ⟨.move, [.tmp 16], (some 2), none⟩,
 ⟨.move, [.const (.bool true)], (some 3), none⟩])
 .ret))), [.tmp 2, .tmp 3]⟩
theorem c22_ok : compFunc Try.prog Try.f22 = some c22 := by kernel_rfl
theorem c22_body : hasBody Try.prog 22 = true := hasBody_of Try.func22 (by kernel_rfl)
/-- (*coachyard/timer.Timer).All -/
def c23 : PFn := ⟨28, Tr.ofList (List.replicate 28 undefA), (.seq (.seqR [⟨.move, [.const (.slice none 0 0 false)], (some 2), none⟩])
 (.seq (.seq (.seqR [⟨.move, [.tmp 0], (some 6), none⟩,
 ⟨(.eqPtr false), [.tmp 6, .const (.ptr none)], (some 7), none⟩])
 (.cond (.tmp 7) (.seq (.seqR [⟨.move, [.const (.slice none 0 0 false)], (some 2), none⟩])
 .ret)
 .skip))
 (.seq (.seqR [⟨.move, [.const (.slice none 0 0 false)], (some 3), none⟩])
 (.seq (.seq (.seqR [⟨.move, [.tmp 0], (some 8), none⟩,
 ⟨.nilCheck, [.tmp 8], (some 9), none⟩,
 ⟨(.fieldAddr 0), [.tmp 9], (some 10), none⟩,
 ⟨(.load false 1), [.tmp 10], (some 11), none⟩,
 ⟨(.callF 27), [.tmp 11], (some 12), none⟩,
 ⟨(.callF 26), [.tmp 12, .const (.func (.func 28) [] [])], (some 13), none⟩,
 ⟨.lenS, [.tmp 13], (some 14), none⟩,
 ⟨.move, [.const (.int .i64 0)], (some 15), none⟩])
 (.block 0 (.loop (.seq (.seqR [⟨(.bin .lss), [.tmp 15, .tmp 14], (some 16), none⟩])
 (.seq (.cond (.tmp 16) .skip
 (.exit 0))
 (.seq (.block 1 (.seq (.seqR [⟨(.indexAddrS 1), [.tmp 13, .tmp 15], (some 17), none⟩,
 ⟨(.load false 1), [.tmp 17], (some 18), none⟩,
 ⟨.move, [.tmp 18], (some 5), none⟩])
 (.seqR [⟨.move, [.tmp 3], (some 19), none⟩,
 ⟨.move, [.tmp 5], (some 20), none⟩,
 ⟨.nilCheck, [.tmp 20], (some 21), none⟩,
 ⟨(.fieldAddr 0), [.tmp 21], (some 22), none⟩,
 ⟨(.load true 2), [.tmp 22], (some 23), none⟩,
 ⟨(.sliceLit 1 [(.int .i64 0), (.int .u64 0)] [(0, 2)]), [.tmp 23], (some 24), none⟩,
 ⟨(.append 2 16), [.tmp 19, .tmp 24], (some 25), none⟩,
 ⟨.move, [.tmp 25], (some 3), none⟩])))
 (.seqR [⟨(.bin .add), [.tmp 15, .const (.int .i64 1)], (some 26), none⟩,
 ⟨.move, [.tmp 26], (some 15), none⟩])))))))
 (.seq (.seqR [⟨.move, [.tmp 3], (some 27), none⟩,
 ⟨.move, [.tmp 27], (some 2), none⟩])
 .ret))))), [.tmp 2]⟩
theorem c23_ok : compFunc Try.prog Try.f23 = some c23 := by kernel_rfl
theorem c23_body : hasBody Try.prog 23 = true := hasBody_of Try.func23 (by kernel_rfl)
/-- container/heap.up -/
def c24 : PFn := ⟨23, Tr.ofList (List.replicate 23 undefA), (.block 0 (.loop (.block 1 (.seq (.seqR [⟨.move, [.tmp 1], (some 5), none⟩,
 ⟨(.bin .sub), [.tmp 5, .const (.int .i64 1)], (some 6), none⟩,
 ⟨(.bin .quo), [.tmp 6, .const (.int .i64 2)], (some 7), none⟩,
 ⟨.move, [.tmp 7], (some 4), none⟩])
 (.seq (.seq (.seqR [⟨.move, [.tmp 4], (some 8), none⟩,
 ⟨.move, [.tmp 1], (some 9), none⟩,
 ⟨(.bin .eql), [.tmp 8, .tmp 9], (some 10), none⟩,
 ⟨.move, [.tmp 10], (some 11), none⟩,
 ⟨.move, [.tmp 0], (some 12), some (11, false)⟩,
 ⟨.move, [.tmp 1], (some 13), some (11, false)⟩,
 ⟨.move, [.tmp 4], (some 14), some (11, false)⟩,
 ⟨(.invoke [(56, 73)] [(66, 73, false, 1)]), [.tmp 12, .tmp 13, .tmp 14], (some 15), some (11, false)⟩,
 ⟨.not, [.tmp 15], (some 16), some (11, false)⟩,
 ⟨.pick, [.tmp 11, .const (.bool true), .tmp 16], (some 17), none⟩])
 (.cond (.tmp 17) (.exit 0)
 .skip))
 (.seq (.seqR [⟨.move, [.tmp 0], (some 18), none⟩,
 ⟨.move, [.tmp 4], (some 19), none⟩,
 ⟨.move, [.tmp 1], (some 20), none⟩,
 ⟨(.invoke [(56, 74)] [(66, 74, false, 1)]), [.tmp 18, .tmp 19, .tmp 20], (some 21), none⟩])
 (.seqR [⟨.move, [.tmp 4], (some 22), none⟩,
 ⟨.move, [.tmp 22], (some 1), none⟩]))))))), []⟩
theorem c24_ok : compFunc Try.prog Try.f24 = some c24 := by kernel_rfl
theorem c24_body : hasBody Try.prog 24 = true := hasBody_of Try.func24 (by kernel_rfl)
/-- container/heap.down -/
def c25 : PFn := ⟨48, Tr.ofList (List.replicate 48 undefA), (.seq (.seqR [⟨.move, [.const (.bool false)], (some 6), none⟩])
 (.seq (.seqR [⟨.move, [.tmp 1], (some 11), none⟩,
 ⟨.move, [.tmp 11], (some 7), none⟩])
 (.seq (.block 0 (.loop (.block 1 (.seq (.seqR [⟨.move, [.tmp 7], (some 12), none⟩,
 ⟨(.bin .mul), [.const (.int .i64 2), .tmp 12], (some 13), none⟩,
 ⟨(.bin .add), [.tmp 13, .const (.int .i64 1)], (some 14), none⟩,
 ⟨.move, [.tmp 14], (some 8), none⟩])
 (.seq (.seq (.seqR [⟨.move, [.tmp 8], (some 15), none⟩,
 ⟨.move, [.tmp 2], (some 16), none⟩,
 ⟨(.bin .geq), [.tmp 15, .tmp 16], (some 17), none⟩,
 ⟨.move, [.tmp 17], (some 18), none⟩,
 ⟨.move, [.tmp 8], (some 19), some (18, false)⟩,
 ⟨(.bin .lss), [.tmp 19, .const (.int .i64 0)], (some 20), some (18, false)⟩,
 ⟨.pick, [.tmp 18, .const (.bool true), .tmp 20], (some 21), none⟩])
 (.cond (.tmp 21) (.exit 0)
 .skip))
 (.seq (.seqR [⟨.move, [.tmp 8], (some 22), none⟩,
 ⟨.move, [.tmp 22], (some 9), none⟩])
 (.seq (.seq (.seqR [⟨.move, [.tmp 8], (some 23), none⟩,
 ⟨(.bin .add), [.tmp 23, .const (.int .i64 1)], (some 24), none⟩,
 ⟨.move, [.tmp 24], (some 10), none⟩])
 (.seq (.seqR [⟨.move, [.tmp 10], (some 25), none⟩,
 ⟨.move, [.tmp 2], (some 26), none⟩,
 ⟨(.bin .lss), [.tmp 25, .tmp 26], (some 27), none⟩,
 ⟨.move, [.tmp 27], (some 28), none⟩,
 ⟨.move, [.tmp 0], (some 29), some (28, true)⟩,
 ⟨.move, [.tmp 10], (some 30), some (28, true)⟩,
 ⟨.move, [.tmp 8], (some 31), some (28, true)⟩,
 ⟨(.invoke [(56, 73)] [(66, 73, false, 1)]), [.tmp 29, .tmp 30, .tmp 31], (some 32), some (28, true)⟩,
 ⟨.pick, [.tmp 28, .tmp 32, .const (.bool false)], (some 33), none⟩])
 (.cond (.tmp 33) (.seqR [⟨.move, [.tmp 10], (some 34), none⟩,
 ⟨.move, [.tmp 34], (some 9), none⟩])
 .skip)))
 (.seq (.seq (.seqR [⟨.move, [.tmp 0], (some 35), none⟩,
 ⟨.move, [.tmp 9], (some 36), none⟩,
 ⟨.move, [.tmp 7], (some 37), none⟩,
 ⟨(.invoke [(56, 73)] [(66, 73, false, 1)]), [.tmp 35, .tmp 36, .tmp 37], (some 38), none⟩,
 ⟨.not, [.tmp 38], (some 39), none⟩])
 (.cond (.tmp 39) (.exit 0)
 .skip))
 (.seq (.seqR [⟨.move, [.tmp 0], (some 40), none⟩,
 ⟨.move, [.tmp 7], (some 41), none⟩,
 ⟨.move, [.tmp 9], (some 42), none⟩,
 ⟨(.invoke [(56, 74)] [(66, 74, false, 1)]), [.tmp 40, .tmp 41, .tmp 42], (some 43), none⟩])
 (.seqR [⟨.move, [.tmp 9], (some 44), none⟩,
 ⟨.move, [.tmp 44], (some 7), none⟩]))))))))))
 (.seq (.seqR [⟨.move, [.tmp 7], (some 45), none⟩,
 ⟨.move, [.tmp 1], (some 46), none⟩,
 ⟨(.bin .gtr), [.tmp 45, .tmp 46], (some 47), none⟩,
 ⟨.move, [.tmp 47], (some 6), none⟩])
 .ret)))), [.tmp 6]⟩
theorem c25_ok : compFunc Try.prog Try.f25 = some c25 := by kernel_rfl
theorem c25_body : hasBody Try.prog 25 = true := hasBody_of Try.func25 (by kernel_rfl)
/-- slices.SortedFunc[*coachyard/timer.entry] -/
def c26 : PFn := ⟨12, Tr.ofList (List.replicate 12 undefA), (.seq (.seqR [⟨.move, [.const (.slice none 0 0 false)], (some 4), none⟩])
 (.seq (.seqR [⟨.move, [.tmp 0], (some 6), none⟩,
 ⟨(.callF 29), [.tmp 6], (some 7), none⟩,
 ⟨.move, [.tmp 7], (some 5), none⟩])
 (.seq (.seqR [⟨.move, [.tmp 5], (some 8), none⟩,
 ⟨.move, [.tmp 1], (some 9), none⟩,
 ⟨(.callF 30), [.tmp 8, .tmp 9], (some 10), none⟩])
 (.seq (.seqR [⟨.move, [.tmp 5], (some 11), none⟩,
 ⟨.move, [.tmp 11], (some 4), none⟩])
 .ret)))), [.tmp 4]⟩
theorem c26_ok : compFunc Try.prog Try.f26 = some c26 := by kernel_rfl
theorem c26_body : hasBody Try.prog 26 = true := hasBody_of Try.func26 (by kernel_rfl)
/-- slices.Values[coachyard/timer.pile,*coachyard/timer.entry] -/
def c27 : PFn := ⟨4, Tr.ofList (List.replicate 4 undefA), (.seq (.seqR [⟨.box, [.tmp 0], (some 1), none⟩,
 ⟨.move, [.const .nilFunc], (some 2), none⟩])
 (.seq (.seqR [⟨(.mkFunc (.func 31) 0), [.tmp 1], (some 3), none⟩,
 ⟨.move, [.tmp 3], (some 2), none⟩])
 .ret)), [.tmp 2]⟩
theorem c27_ok : compFunc Try.prog Try.f27 = some c27 := by kernel_rfl
theorem c27_body : hasBody Try.prog 27 = true := hasBody_of Try.func27 (by kernel_rfl)
/-- coachyard/timer.compare -/
def c28 : PFn := ⟨27, Tr.ofList (List.replicate 27 undefA), (.seq (.seqR [⟨.move, [.const (.int .i64 0)], (some 4), none⟩])
 (.seq (.drawR [⟨⟨.move, [.tmp 0], (some 5), none⟩, false, false, 0, 0⟩,
 ⟨⟨.nilCheck, [.tmp 5], (some 6), none⟩, false, false, 0, 0⟩,
 ⟨⟨(.fieldAddr 0), [.tmp 6], (some 7), none⟩, false, false, 0, 0⟩,
 ⟨⟨(.fieldAddr 0), [.tmp 7], (some 8), none⟩, false, false, 0, 0⟩,
 ⟨⟨(.load false 1), [.tmp 8], (some 9), none⟩, false, false, 0, 0⟩,
 ⟨⟨.move, [.tmp 1], (some 10), none⟩, false, false, 0, 0⟩,
 ⟨⟨.nilCheck, [.tmp 10], (some 11), none⟩, false, false, 0, 0⟩,
 ⟨⟨(.fieldAddr 0), [.tmp 11], (some 12), none⟩, false, false, 0, 0⟩,
 ⟨⟨(.fieldAddr 0), [.tmp 12], (some 13), none⟩, false, false, 0, 0⟩,
 ⟨⟨(.load false 1), [.tmp 13], (some 14), none⟩, false, false, 0, 0⟩,
 ⟨⟨(.callF 33), [.tmp 9, .tmp 14], (some 15), none⟩, true, false, 0, 1⟩,
 ⟨⟨.move, [.tmp 0], (some 16), none⟩, false, false, 0, 1⟩,
 ⟨⟨.nilCheck, [.tmp 16], (some 17), none⟩, false, false, 0, 1⟩,
 ⟨⟨(.fieldAddr 2), [.tmp 17], (some 18), none⟩, false, false, 0, 1⟩,
 ⟨⟨(.load false 1), [.tmp 18], (some 19), none⟩, false, false, 0, 1⟩,
 ⟨⟨.move, [.tmp 1], (some 20), none⟩, false, false, 0, 1⟩,
 ⟨⟨.nilCheck, [.tmp 20], (some 21), none⟩, false, false, 0, 1⟩,
 ⟨⟨(.fieldAddr 2), [.tmp 21], (some 22), none⟩, false, false, 0, 1⟩,
 ⟨⟨(.load false 1), [.tmp 22], (some 23), none⟩, false, false, 0, 1⟩,
 ⟨⟨(.callF 34), [.tmp 19, .tmp 23], (some 24), none⟩, true, false, 1, 2⟩,
 ⟨⟨(.sliceLit 2 [(.int .i64 0), (.int .i64 0)] [(0, 1), (1, 1)]), [.tmp 15, .tmp 24], (some 25), none⟩, true, false, 2, 3⟩,
 ⟨⟨(.callF 32), [.tmp 25], (some 26), none⟩, true, false, 3, 4⟩,
 ⟨⟨.move, [.tmp 26], (some 4), none⟩, false, false, 4, 4⟩])
 .ret)), [.tmp 4]⟩
theorem c28_ok : compFunc Try.prog Try.f28 = some c28 := by kernel_rfl
theorem c28_body : hasBody Try.prog 28 = true := hasBody_of Try.func28 (by kernel_rfl)
/-- slices.Collect[*coachyard/timer.entry] -/
def c29 : PFn := ⟨5, Tr.ofList (List.replicate 5 undefA), (.seq (.seqR [⟨.move, [.const (.slice none 0 0 false)], (some 2), none⟩])
 (.seq (.seqR [⟨.move, [.tmp 0], (some 3), none⟩,
 ⟨(.callF 35), [.const (.slice none 0 0 false), .tmp 3], (some 4), none⟩,
 ⟨.move, [.tmp 4], (some 2), none⟩])
 .ret)), [.tmp 2]⟩
theorem c29_ok : compFunc Try.prog Try.f29 = some c29 := by kernel_rfl
theorem c29_body : hasBody Try.prog 29 = true := hasBody_of Try.func29 (by kernel_rfl)
/-- slices.SortFunc[[]*coachyard/timer.entry,*coachyard/timer.entry] -/
def c30 : PFn := ⟨14, Tr.ofList (List.replicate 14 undefA), (.seq (.seqR [⟨.move, [.tmp 0], (some 5), none⟩,
 ⟨.lenS, [.tmp 5], (some 6), none⟩,
 ⟨.move, [.tmp 6], (some 4), none⟩])
 (.seqR [⟨.move, [.tmp 0], (some 7), none⟩,
 ⟨.move, [.tmp 4], (some 8), none⟩,
 ⟨.move, [.tmp 4], (some 9), none⟩,
 ⟨(.conv .u64), [.tmp 9], (some 10), none⟩,
 ⟨(.callF 37), [.tmp 10], (some 11), none⟩,
 ⟨.move, [.tmp 1], (some 12), none⟩,
 ⟨(.callF 36), [.tmp 7, .const (.int .i64 0), .tmp 8, .tmp 11, .tmp 12], (some 13), none⟩])), []⟩
theorem c30_ok : compFunc Try.prog Try.f30 = some c30 := by kernel_rfl
theorem c30_body : hasBody Try.prog 30 = true := hasBody_of Try.func30 (by kernel_rfl)
/-- slices.Values[coachyard/timer.pile,*coachyard/timer.entry]$1 -/
def c31 : PFn := ⟨16, Tr.ofList (List.replicate 16 undefA), (.seq (.seqR [⟨(.load false 1), [.tmp 1], (some 5), none⟩,
 ⟨.lenS, [.tmp 5], (some 6), none⟩,
 ⟨.move, [.const (.int .i64 0)], (some 7), none⟩])
 (.block 0 (.loop (.seq (.seqR [⟨(.bin .lss), [.tmp 7, .tmp 6], (some 8), none⟩])
 (.seq (.cond (.tmp 8) .skip
 (.exit 0))
 (.seq (.block 1 (.seq (.seqR [⟨(.indexAddrS 1), [.tmp 5, .tmp 7], (some 9), none⟩,
 ⟨(.load false 1), [.tmp 9], (some 10), none⟩,
 ⟨.move, [.tmp 10], (some 4), none⟩])
 (.seq (.seqR [⟨.move, [.tmp 0], (some 11), none⟩,
 ⟨.move, [.tmp 4], (some 12), none⟩,
 ⟨.callV, [.tmp 11, .tmp 12], (some 13), none⟩,
 ⟨.not, [.tmp 13], (some 14), none⟩])
 (.cond (.tmp 14) .ret
 .skip))))
 (.seqR [⟨(.bin .add), [.tmp 7, .const (.int .i64 1)], (some 15), none⟩,
 ⟨.move, [.tmp 15], (some 7), none⟩]))))))), []⟩
theorem c31_ok : compFunc Try.prog Try.f31 = some c31 := by kernel_rfl
theorem c31_body : hasBody Try.prog 31 = true := hasBody_of Try.func31 (by kernel_rfl)
/-- cmp.Or[int] -/
def c32 : PFn := ⟨18, Tr.ofList (List.replicate 18 undefA), (.seq (.seqR [⟨.move, [.const (.int .i64 0)], (some 2), none⟩])
 (.seq (.seqR [⟨.move, [.const (.int .i64 0)], (some 3), none⟩])
 (.seq (.seq (.seqR [⟨.move, [.tmp 0], (some 6), none⟩,
 ⟨.lenS, [.tmp 6], (some 7), none⟩,
 ⟨.move, [.const (.int .i64 0)], (some 8), none⟩])
 (.block 0 (.loop (.seq (.seqR [⟨(.bin .lss), [.tmp 8, .tmp 7], (some 9), none⟩])
 (.seq (.cond (.tmp 9) .skip
 (.exit 0))
 (.seq (.block 1 (.seq (.seqR [⟨(.indexAddrS 1), [.tmp 6, .tmp 8], (some 10), none⟩,
 ⟨(.load false 1), [.tmp 10], (some 11), none⟩,
 ⟨.move, [.tmp 11], (some 5), none⟩])
 (.seq (.seqR [⟨.move, [.tmp 5], (some 12), none⟩,
 ⟨.move, [.tmp 3], (some 13), none⟩,
 ⟨(.bin .neq), [.tmp 12, .tmp 13], (some 14), none⟩])
 (.cond (.tmp 14) (.seq (.seqR [⟨.move, [.tmp 5], (some 15), none⟩,
 ⟨.move, [.tmp 15], (some 2), none⟩])
 .ret)
 .skip))))
 (.seqR [⟨(.bin .add), [.tmp 8, .const (.int .i64 1)], (some 16), none⟩,
 ⟨.move, [.tmp 16], (some 8), none⟩])))))))
 (.seq (.seqR [⟨.move, [.tmp 3], (some 17), none⟩,
 ⟨.move, [.tmp 17], (some 2), none⟩])
 .ret)))), [.tmp 2]⟩
theorem c32_ok : compFunc Try.prog Try.f32 = some c32 := by kernel_rfl
theorem c32_body : hasBody Try.prog 32 = true := hasBody_of Try.func32 (by kernel_rfl)
/-- cmp.Compare[int64] -/
def c33 : PFn := ⟨20, Tr.ofList (List.replicate 20 undefA), (.seq (.seqR [⟨.move, [.const (.int .i64 0)], (some 4), none⟩])
 (.seq (.seqR [⟨.move, [.tmp 0], (some 7), none⟩,
 ⟨(.callF 38), [.tmp 7], (some 8), none⟩,
 ⟨.move, [.tmp 8], (some 5), none⟩])
 (.seq (.seqR [⟨.move, [.tmp 1], (some 9), none⟩,
 ⟨(.callF 38), [.tmp 9], (some 10), none⟩,
 ⟨.move, [.tmp 10], (some 6), none⟩])
 (.seq (.seq (.seqR [⟨.move, [.tmp 5], (some 11), none⟩])
 (.cond (.tmp 11) (.seq (.seq (.seqR [⟨.move, [.tmp 6], (some 12), none⟩])
 (.cond (.tmp 12) (.seq (.seqR [⟨.move, [.const (.int .i64 0)], (some 4), none⟩])
 .ret)
 .skip))
 (.seq (.seqR [⟨.move, [.const (.int .i64 (-1))], (some 4), none⟩])
 .ret))
 .skip))
 (.seq (.seq (.seqR [⟨.move, [.tmp 6], (some 13), none⟩])
 (.cond (.tmp 13) (.seq (.seqR [⟨.move, [.const (.int .i64 1)], (some 4), none⟩])
 .ret)
 .skip))
 (.seq (.seq (.seqR [⟨.move, [.tmp 0], (some 14), none⟩,
 ⟨.move, [.tmp 1], (some 15), none⟩,
 ⟨(.bin .lss), [.tmp 14, .tmp 15], (some 16), none⟩])
 (.cond (.tmp 16) (.seq (.seqR [⟨.move, [.const (.int .i64 (-1))], (some 4), none⟩])
 .ret)
 .skip))
 (.seq (.seq (.seqR [⟨.move, [.tmp 0], (some 17), none⟩,
 ⟨.move, [.tmp 1], (some 18), none⟩,
 ⟨(.bin .gtr), [.tmp 17, .tmp 18], (some 19), none⟩])
 (.cond (.tmp 19) (.seq (.seqR [⟨.move, [.const (.int .i64 1)], (some 4), none⟩])
 .ret)
 .skip))
 (.seq (.seqR [⟨.move, [.const (.int .i64 0)], (some 4), none⟩])
 .ret)))))))), [.tmp 4]⟩
theorem c33_ok : compFunc Try.prog Try.f33 = some c33 := by kernel_rfl
theorem c33_body : hasBody Try.prog 33 = true := hasBody_of Try.func33 (by kernel_rfl)
/-- cmp.Compare[int] -/
def c34 : PFn := ⟨20, Tr.ofList (List.replicate 20 undefA), (.seq (.seqR [⟨.move, [.const (.int .i64 0)], (some 4), none⟩])
 (.seq (.seqR [⟨.move, [.tmp 0], (some 7), none⟩,
 ⟨(.callF 39), [.tmp 7], (some 8), none⟩,
 ⟨.move, [.tmp 8], (some 5), none⟩])
 (.seq (.seqR [⟨.move, [.tmp 1], (some 9), none⟩,
 ⟨(.callF 39), [.tmp 9], (some 10), none⟩,
 ⟨.move, [.tmp 10], (some 6), none⟩])
 (.seq (.seq (.seqR [⟨.move, [.tmp 5], (some 11), none⟩])
 (.cond (.tmp 11) (.seq (.seq (.seqR [⟨.move, [.tmp 6], (some 12), none⟩])
 (.cond (.tmp 12) (.seq (.seqR [⟨.move, [.const (.int .i64 0)], (some 4), none⟩])
 .ret)
 .skip))
 (.seq (.seqR [⟨.move, [.const (.int .i64 (-1))], (some 4), none⟩])
 .ret))
 .skip))
 (.seq (.seq (.seqR [⟨.move, [.tmp 6], (some 13), none⟩])
 (.cond (.tmp 13) (.seq (.seqR [⟨.move, [.const (.int .i64 1)], (some 4), none⟩])
 .ret)
 .skip))
 (.seq (.seq (.seqR [⟨.move, [.tmp 0], (some 14), none⟩,
 ⟨.move, [.tmp 1], (some 15), none⟩,
 ⟨(.bin .lss), [.tmp 14, .tmp 15], (some 16), none⟩])
 (.cond (.tmp 16) (.seq (.seqR [⟨.move, [.const (.int .i64 (-1))], (some 4), none⟩])
 .ret)
 .skip))
 (.seq (.seq (.seqR [⟨.move, [.tmp 0], (some 17), none⟩,
 ⟨.move, [.tmp 1], (some 18), none⟩,
 ⟨(.bin .gtr), [.tmp 17, .tmp 18], (some 19), none⟩])
 (.cond (.tmp 19) (.seq (.seqR [⟨.move, [.const (.int .i64 1)], (some 4), none⟩])
 .ret)
 .skip))
 (.seq (.seqR [⟨.move, [.const (.int .i64 0)], (some 4), none⟩])
 .ret)))))))), [.tmp 4]⟩
theorem c34_ok : compFunc Try.prog Try.f34 = some c34 := by kernel_rfl
theorem c34_body : hasBody Try.prog 34 = true := hasBody_of Try.func34 (by kernel_rfl)
/-- slices.AppendSeq[[]*coachyard/timer.entry,*coachyard/timer.entry] -/
def c35 : PFn := ⟨13, Tr.ofList (List.replicate 13 undefA), (.seq (.seqR [⟨.box, [.tmp 0], (some 2), none⟩,
 ⟨.move, [.const (.slice none 0 0 false)], (some 4), none⟩])
 (.seq (.seq (.seqR [⟨.move, [.tmp 1], (some 6), none⟩])
 (.block 0 .fail))
 (.seq (.seqR [⟨(.load false 1), [.tmp 2], (some 12), none⟩,
 ⟨.move, [.tmp 12], (some 4), none⟩])
 .ret))), [.tmp 4]⟩
theorem c35_ok : compFunc Try.prog Try.f35 = some c35 := by kernel_rfl
theorem c35_body : hasBody Try.prog 35 = true := hasBody_of Try.func35 (by kernel_rfl)
/-- slices.pdqsortCmpFunc[*coachyard/timer.entry] -/
def c36 : PFn := ⟨148, Tr.ofList (List.replicate 148 undefA), (.seq (.seqR [⟨.move, [.const (.bool true)], (some 10), none⟩])
 (.seq (.seqR [⟨.move, [.const (.bool true)], (some 11), none⟩])
 (.block 0 (.loop (.block 1 (.seq (.seqR [⟨.move, [.tmp 2], (some 21), none⟩,
 ⟨.move, [.tmp 1], (some 22), none⟩,
 ⟨(.bin .sub), [.tmp 21, .tmp 22], (some 23), none⟩,
 ⟨.move, [.tmp 23], (some 12), none⟩])
 (.seq (.seq (.seqR [⟨.move, [.tmp 12], (some 24), none⟩,
 ⟨(.bin .leq), [.tmp 24, .const (.int .i64 12)], (some 25), none⟩])
 (.cond (.tmp 25) (.seq (.seqR [⟨.move, [.tmp 0], (some 26), none⟩,
 ⟨.move, [.tmp 1], (some 27), none⟩,
 ⟨.move, [.tmp 2], (some 28), none⟩,
 ⟨.move, [.tmp 4], (some 29), none⟩,
 ⟨(.callF 40), [.tmp 26, .tmp 27, .tmp 28, .tmp 29], (some 30), none⟩])
 .ret)
 .skip))
 (.seq (.seq (.seqR [⟨.move, [.tmp 3], (some 31), none⟩,
 ⟨(.bin .eql), [.tmp 31, .const (.int .i64 0)], (some 32), none⟩])
 (.cond (.tmp 32) (.seq (.seqR [⟨.move, [.tmp 0], (some 33), none⟩,
 ⟨.move, [.tmp 1], (some 34), none⟩,
 ⟨.move, [.tmp 2], (some 35), none⟩,
 ⟨.move, [.tmp 4], (some 36), none⟩,
 ⟨(.callF 41), [.tmp 33, .tmp 34, .tmp 35, .tmp 36], (some 37), none⟩])
 .ret)
 .skip))
 (.seq (.seq (.seqR [⟨.move, [.tmp 10], (some 38), none⟩,
 ⟨.not, [.tmp 38], (some 39), none⟩])
 (.cond (.tmp 39) (.seq (.seqR [⟨.move, [.tmp 0], (some 40), none⟩,
 ⟨.move, [.tmp 1], (some 41), none⟩,
 ⟨.move, [.tmp 2], (some 42), none⟩,
 ⟨.move, [.tmp 4], (some 43), none⟩,
 ⟨(.callF 42), [.tmp 40, .tmp 41, .tmp 42, .tmp 43], (some 44), none⟩])
 (.seqR [⟨.move, [.tmp 3], (some 45), none⟩,
 ⟨(.bin .sub), [.tmp 45, .const (.int .i64 1)], (some 46), none⟩,
 ⟨.move, [.tmp 46], (some 3), none⟩]))
 .skip))
 (.seq (.seqR [⟨.move, [.tmp 0], (some 48), none⟩,
 ⟨.move, [.tmp 1], (some 49), none⟩,
 ⟨.move, [.tmp 2], (some 50), none⟩,
 ⟨.move, [.tmp 4], (some 51), none⟩,
 ⟨(.callF 43), [.tmp 48, .tmp 49, .tmp 50, .tmp 51], (some 52), none⟩,
 ⟨.move, [.tmp 52], (some 47), none⟩,
 ⟨(.extract 0), [.tmp 47], (some 53), none⟩,
 ⟨(.extract 1), [.tmp 47], (some 54), none⟩,
 ⟨.move, [.tmp 53], (some 13), none⟩,
 ⟨.move, [.tmp 54], (some 14), none⟩])
 (.seq (.seq (.seqR [⟨.move, [.tmp 14], (some 55), none⟩,
 ⟨(.bin .eql), [.tmp 55, .const (.int .i64 2)], (some 56), none⟩])
 (.cond (.tmp 56) (.seq (.seqR [⟨.move, [.tmp 0], (some 57), none⟩,
 ⟨.move, [.tmp 1], (some 58), none⟩,
 ⟨.move, [.tmp 2], (some 59), none⟩,
 ⟨.move, [.tmp 4], (some 60), none⟩,
 ⟨(.callF 44), [.tmp 57, .tmp 58, .tmp 59, .tmp 60], (some 61), none⟩])
 (.seq (.seqR [⟨.move, [.tmp 2], (some 62), none⟩,
 ⟨(.bin .sub), [.tmp 62, .const (.int .i64 1)], (some 63), none⟩,
 ⟨.move, [.tmp 13], (some 64), none⟩,
 ⟨.move, [.tmp 1], (some 65), none⟩,
 ⟨(.bin .sub), [.tmp 64, .tmp 65], (some 66), none⟩,
 ⟨(.bin .sub), [.tmp 63, .tmp 66], (some 67), none⟩,
 ⟨.move, [.tmp 67], (some 13), none⟩])
 (.seqR [⟨.move, [.const (.int .i64 1)], (some 14), none⟩])))
 .skip))
 (.seq (.seq (.seqR [⟨.move, [.tmp 10], (some 68), none⟩,
 ⟨.move, [.tmp 68], (some 69), none⟩,
 ⟨.move, [.tmp 11], (some 70), some (69, true)⟩,
 ⟨.pick, [.tmp 69, .tmp 70, .const (.bool false)], (some 71), none⟩,
 ⟨.move, [.tmp 71], (some 72), none⟩,
 ⟨.move, [.tmp 14], (some 73), some (72, true)⟩,
 ⟨(.bin .eql), [.tmp 73, .const (.int .i64 1)], (some 74), some (72, true)⟩,
 ⟨.pick, [.tmp 72, .tmp 74, .const (.bool false)], (some 75), none⟩])
 (.cond (.tmp 75) (.seq (.seqR [⟨.move, [.tmp 0], (some 76), none⟩,
 ⟨.move, [.tmp 1], (some 77), none⟩,
 ⟨.move, [.tmp 2], (some 78), none⟩,
 ⟨.move, [.tmp 4], (some 79), none⟩,
 ⟨(.callF 45), [.tmp 76, .tmp 77, .tmp 78, .tmp 79], (some 80), none⟩])
 (.cond (.tmp 80) .ret
 .skip))
 .skip))
 (.seq (.seq (.drawR [⟨⟨.move, [.tmp 1], (some 81), none⟩, false, false, 0, 0⟩,
 ⟨⟨(.bin .gtr), [.tmp 81, .const (.int .i64 0)], (some 82), none⟩, false, false, 0, 0⟩,
 ⟨⟨.move, [.tmp 82], (some 83), none⟩, false, false, 0, 0⟩,
 ⟨⟨.move, [.tmp 4], (some 84), some (83, true)⟩, false, false, 0, 0⟩,
 ⟨⟨.move, [.tmp 0], (some 85), some (83, true)⟩, false, false, 0, 0⟩,
 ⟨⟨.move, [.tmp 1], (some 86), some (83, true)⟩, false, false, 0, 0⟩,
 ⟨⟨(.bin .sub), [.tmp 86, .const (.int .i64 1)], (some 87), some (83, true)⟩, false, false, 0, 0⟩,
 ⟨⟨(.indexAddrS 1), [.tmp 85, .tmp 87], (some 88), some (83, true)⟩, false, false, 0, 0⟩,
 ⟨⟨(.load false 1), [.tmp 88], (some 89), some (83, true)⟩, false, false, 0, 0⟩,
 ⟨⟨.move, [.tmp 0], (some 90), some (83, true)⟩, false, false, 0, 0⟩,
 ⟨⟨.move, [.tmp 13], (some 91), some (83, true)⟩, false, false, 0, 0⟩,
 ⟨⟨(.indexAddrS 1), [.tmp 90, .tmp 91], (some 92), some (83, true)⟩, false, false, 0, 0⟩,
 ⟨⟨(.load false 1), [.tmp 92], (some 93), some (83, true)⟩, false, false, 0, 0⟩,
 ⟨⟨.callV, [.tmp 84, .tmp 89, .tmp 93], (some 94), some (83, true)⟩, true, false, 0, 1⟩,
 ⟨⟨(.bin .lss), [.tmp 94, .const (.int .i64 0)], (some 95), some (83, true)⟩, false, false, 1, 1⟩,
 ⟨⟨.not, [.tmp 95], (some 96), some (83, true)⟩, false, false, 1, 1⟩,
 ⟨⟨.pick, [.tmp 83, .tmp 96, .const (.bool false)], (some 97), none⟩, false, false, 1, 1⟩])
 (.cond (.tmp 97) (.seq (.seqR [⟨.move, [.tmp 0], (some 98), none⟩,
 ⟨.move, [.tmp 1], (some 99), none⟩,
 ⟨.move, [.tmp 2], (some 100), none⟩,
 ⟨.move, [.tmp 13], (some 101), none⟩,
 ⟨.move, [.tmp 4], (some 102), none⟩,
 ⟨(.callF 46), [.tmp 98, .tmp 99, .tmp 100, .tmp 101, .tmp 102], (some 103), none⟩,
 ⟨.move, [.tmp 103], (some 15), none⟩])
 (.seq (.seqR [⟨.move, [.tmp 15], (some 104), none⟩,
 ⟨.move, [.tmp 104], (some 1), none⟩])
 (.exit 1)))
 .skip))
 (.seq (.seqR [⟨.move, [.tmp 0], (some 106), none⟩,
 ⟨.move, [.tmp 1], (some 107), none⟩,
 ⟨.move, [.tmp 2], (some 108), none⟩,
 ⟨.move, [.tmp 13], (some 109), none⟩,
 ⟨.move, [.tmp 4], (some 110), none⟩,
 ⟨(.callF 47), [.tmp 106, .tmp 107, .tmp 108, .tmp 109, .tmp 110], (some 111), none⟩,
 ⟨.move, [.tmp 111], (some 105), none⟩,
 ⟨(.extract 0), [.tmp 105], (some 112), none⟩,
 ⟨(.extract 1), [.tmp 105], (some 113), none⟩,
 ⟨.move, [.tmp 112], (some 16), none⟩,
 ⟨.move, [.tmp 113], (some 17), none⟩])
 (.seq (.seqR [⟨.move, [.tmp 17], (some 114), none⟩,
 ⟨.move, [.tmp 114], (some 11), none⟩])
 (.seq (.seqR [⟨.move, [.tmp 16], (some 115), none⟩,
 ⟨.move, [.tmp 1], (some 116), none⟩,
 ⟨(.bin .sub), [.tmp 115, .tmp 116], (some 117), none⟩,
 ⟨.move, [.tmp 2], (some 118), none⟩,
 ⟨.move, [.tmp 16], (some 119), none⟩,
 ⟨(.bin .sub), [.tmp 118, .tmp 119], (some 120), none⟩,
 ⟨.move, [.tmp 117], (some 18), none⟩,
 ⟨.move, [.tmp 120], (some 19), none⟩])
 (.seq (.seqR [⟨.move, [.tmp 12], (some 121), none⟩,
 ⟨(.bin .quo), [.tmp 121, .const (.int .i64 8)], (some 122), none⟩,
 ⟨.move, [.tmp 122], (some 20), none⟩])
 (.seq (.seqR [⟨.move, [.tmp 18], (some 123), none⟩,
 ⟨.move, [.tmp 19], (some 124), none⟩,
 ⟨(.bin .lss), [.tmp 123, .tmp 124], (some 125), none⟩])
 (.cond (.tmp 125) (.seq (.seqR [⟨.move, [.tmp 18], (some 126), none⟩,
 ⟨.move, [.tmp 20], (some 127), none⟩,
 ⟨(.bin .geq), [.tmp 126, .tmp 127], (some 128), none⟩,
 ⟨.move, [.tmp 128], (some 10), none⟩])
 (.seq (.seqR [⟨.move, [.tmp 0], (some 129), none⟩,
 ⟨.move, [.tmp 1], (some 130), none⟩,
 ⟨.move, [.tmp 16], (some 131), none⟩,
 ⟨.move, [.tmp 3], (some 132), none⟩,
 ⟨.move, [.tmp 4], (some 133), none⟩,
 ⟨(.callF 36), [.tmp 129, .tmp 130, .tmp 131, .tmp 132, .tmp 133], (some 134), none⟩])
 (.seqR [⟨.move, [.tmp 16], (some 135), none⟩,
 ⟨(.bin .add), [.tmp 135, .const (.int .i64 1)], (some 136), none⟩,
 ⟨.move, [.tmp 136], (some 1), none⟩])))
 (.seq (.seqR [⟨.move, [.tmp 19], (some 137), none⟩,
 ⟨.move, [.tmp 20], (some 138), none⟩,
 ⟨(.bin .geq), [.tmp 137, .tmp 138], (some 139), none⟩,
 ⟨.move, [.tmp 139], (some 10), none⟩])
 (.seq (.seqR [⟨.move, [.tmp 0], (some 140), none⟩,
 ⟨.move, [.tmp 16], (some 141), none⟩,
 ⟨(.bin .add), [.tmp 141, .const (.int .i64 1)], (some 142), none⟩,
 ⟨.move, [.tmp 2], (some 143), none⟩,
 ⟨.move, [.tmp 3], (some 144), none⟩,
 ⟨.move, [.tmp 4], (some 145), none⟩,
 ⟨(.callF 36), [.tmp 140, .tmp 142, .tmp 143, .tmp 144, .tmp 145], (some 146), none⟩])
 (.seqR [⟨.move, [.tmp 16], (some 147), none⟩,
 ⟨.move, [.tmp 147], (some 2), none⟩])))))))))))))))))))))), []⟩
theorem c36_ok : compFunc Try.prog Try.f36 = some c36 := by kernel_rfl
theorem c36_body : hasBody Try.prog 36 = true := hasBody_of Try.func36 (by kernel_rfl)
/-- math/bits.Len -/
def c37 : PFn := ⟨8, Tr.ofList (List.replicate 8 undefA), (.seq (.seqR [⟨.move, [.const (.int .i64 0)], (some 2), none⟩])
 (.seq (.cond (.const (.bool false)) (.seq (.seqR [⟨.move, [.tmp 0], (some 3), none⟩,
 ⟨(.conv .u32), [.tmp 3], (some 4), none⟩,
 ⟨(.callF 48), [.tmp 4], (some 5), none⟩,
 ⟨.move, [.tmp 5], (some 2), none⟩])
 .ret)
 .skip)
 (.seq (.seqR [⟨.move, [.tmp 0], (some 6), none⟩,
 ⟨(.callF 49), [.tmp 6], (some 7), none⟩,
 ⟨.move, [.tmp 7], (some 2), none⟩])
 .ret))), [.tmp 2]⟩
theorem c37_ok : compFunc Try.prog Try.f37 = some c37 := by kernel_rfl
theorem c37_body : hasBody Try.prog 37 = true := hasBody_of Try.func37 (by kernel_rfl)
/-- cmp.isNaN[int64] -/
def c38 : PFn := ⟨6, Tr.ofList (List.replicate 6 undefA), (.seq (.seqR [⟨.move, [.const (.bool false)], (some 2), none⟩])
 (.seq (.seqR [⟨.move, [.tmp 0], (some 3), none⟩,
 ⟨.move, [.tmp 0], (some 4), none⟩,
 ⟨(.bin .neq), [.tmp 3, .tmp 4], (some 5), none⟩,
 ⟨.move, [.tmp 5], (some 2), none⟩])
 .ret)), [.tmp 2]⟩
theorem c38_ok : compFunc Try.prog Try.f38 = some c38 := by kernel_rfl
theorem c38_body : hasBody Try.prog 38 = true := hasBody_of Try.func38 (by kernel_rfl)
/-- cmp.isNaN[int] -/
def c39 : PFn := ⟨6, Tr.ofList (List.replicate 6 undefA), (.seq (.seqR [⟨.move, [.const (.bool false)], (some 2), none⟩])
 (.seq (.seqR [⟨.move, [.tmp 0], (some 3), none⟩,
 ⟨.move, [.tmp 0], (some 4), none⟩,
 ⟨(.bin .neq), [.tmp 3, .tmp 4], (some 5), none⟩,
 ⟨.move, [.tmp 5], (some 2), none⟩])
 .ret)), [.tmp 2]⟩
theorem c39_ok : compFunc Try.prog Try.f39 = some c39 := by kernel_rfl
theorem c39_body : hasBody Try.prog 39 = true := hasBody_of Try.func39 (by kernel_rfl)
/-- slices.insertionSortCmpFunc[*coachyard/timer.entry] -/
def c40 : PFn := ⟨53, Tr.ofList (List.replicate 53 undefA), (.seq (.seqR [⟨.move, [.tmp 1], (some 10), none⟩,
 ⟨(.bin .add), [.tmp 10, .const (.int .i64 1)], (some 11), none⟩,
 ⟨.move, [.tmp 11], (some 8), none⟩])
 (.block 0 (.loop (.seq (.seq (.seqR [⟨.move, [.tmp 8], (some 12), none⟩,
 ⟨.move, [.tmp 2], (some 13), none⟩,
 ⟨(.bin .lss), [.tmp 12, .tmp 13], (some 14), none⟩])
 (.cond (.tmp 14) .skip
 (.exit 0)))
 (.seq (.block 1 (.seq (.seqR [⟨.move, [.tmp 8], (some 17), none⟩,
 ⟨.move, [.tmp 17], (some 9), none⟩])
 (.block 2 (.loop (.seq (.seq (.drawR [⟨⟨.move, [.tmp 9], (some 18), none⟩, false, false, 0, 0⟩,
 ⟨⟨.move, [.tmp 1], (some 19), none⟩, false, false, 0, 0⟩,
 ⟨⟨(.bin .gtr), [.tmp 18, .tmp 19], (some 20), none⟩, false, false, 0, 0⟩,
 ⟨⟨.move, [.tmp 20], (some 21), none⟩, false, false, 0, 0⟩,
 ⟨⟨.move, [.tmp 3], (some 22), some (21, true)⟩, false, false, 0, 0⟩,
 ⟨⟨.move, [.tmp 0], (some 23), some (21, true)⟩, false, false, 0, 0⟩,
 ⟨⟨.move, [.tmp 9], (some 24), some (21, true)⟩, false, false, 0, 0⟩,
 ⟨⟨(.indexAddrS 1), [.tmp 23, .tmp 24], (some 25), some (21, true)⟩, false, false, 0, 0⟩,
 ⟨⟨(.load false 1), [.tmp 25], (some 26), some (21, true)⟩, false, false, 0, 0⟩,
 ⟨⟨.move, [.tmp 0], (some 27), some (21, true)⟩, false, false, 0, 0⟩,
 ⟨⟨.move, [.tmp 9], (some 28), some (21, true)⟩, false, false, 0, 0⟩,
 ⟨⟨(.bin .sub), [.tmp 28, .const (.int .i64 1)], (some 29), some (21, true)⟩, false, false, 0, 0⟩,
 ⟨⟨(.indexAddrS 1), [.tmp 27, .tmp 29], (some 30), some (21, true)⟩, false, false, 0, 0⟩,
 ⟨⟨(.load false 1), [.tmp 30], (some 31), some (21, true)⟩, false, false, 0, 0⟩,
 ⟨⟨.callV, [.tmp 22, .tmp 26, .tmp 31], (some 32), some (21, true)⟩, true, false, 0, 1⟩,
 ⟨⟨(.bin .lss), [.tmp 32, .const (.int .i64 0)], (some 33), some (21, true)⟩, false, false, 1, 1⟩,
 ⟨⟨.pick, [.tmp 21, .tmp 33, .const (.bool false)], (some 34), none⟩, false, false, 1, 1⟩])
 (.cond (.tmp 34) .skip
 (.exit 2)))
 (.seq (.block 3 (.drawR [⟨⟨.move, [.tmp 0], (some 37), none⟩, false, false, 0, 0⟩,
 ⟨⟨.move, [.tmp 9], (some 38), none⟩, false, false, 0, 0⟩,
 ⟨⟨.move, [.tmp 0], (some 39), none⟩, false, false, 0, 1⟩,
 ⟨⟨.move, [.tmp 9], (some 40), none⟩, false, false, 0, 1⟩,
 ⟨⟨(.bin .sub), [.tmp 40, .const (.int .i64 1)], (some 41), none⟩, false, false, 0, 1⟩,
 ⟨⟨.move, [.tmp 0], (some 42), none⟩, false, false, 0, 0⟩,
 ⟨⟨.move, [.tmp 9], (some 43), none⟩, false, false, 0, 0⟩,
 ⟨⟨(.bin .sub), [.tmp 43, .const (.int .i64 1)], (some 44), none⟩, false, false, 0, 0⟩,
 ⟨⟨(.indexAddrS 1), [.tmp 42, .tmp 44], (some 45), none⟩, false, false, 0, 0⟩,
 ⟨⟨(.load false 1), [.tmp 45], (some 46), none⟩, false, false, 0, 0⟩,
 ⟨⟨.move, [.tmp 0], (some 47), none⟩, false, false, 0, 0⟩,
 ⟨⟨.move, [.tmp 9], (some 48), none⟩, false, false, 0, 0⟩,
 ⟨⟨(.indexAddrS 1), [.tmp 47, .tmp 48], (some 49), none⟩, false, false, 0, 0⟩,
 ⟨⟨(.load false 1), [.tmp 49], (some 50), none⟩, false, false, 0, 0⟩,
 ⟨⟨(.indexAddrS 1), [.tmp 37, .tmp 38], (some 51), none⟩, false, false, 0, 0⟩,
 ⟨⟨(.store 1), [.tmp 51, .tmp 46], none, none⟩, true, false, 0, 1⟩,
 ⟨⟨(.indexAddrS 1), [.tmp 39, .tmp 41], (some 52), none⟩, false, false, 1, 1⟩,
 ⟨⟨(.store 1), [.tmp 52, .tmp 50], none, none⟩, true, false, 1, 2⟩]))
 (.seqR [⟨.move, [.tmp 9], (some 35), none⟩,
 ⟨(.bin .sub), [.tmp 35, .const (.int .i64 1)], (some 36), none⟩,
 ⟨.move, [.tmp 36], (some 9), none⟩])))))))
 (.seqR [⟨.move, [.tmp 8], (some 15), none⟩,
 ⟨(.bin .add), [.tmp 15, .const (.int .i64 1)], (some 16), none⟩,
 ⟨.move, [.tmp 16], (some 8), none⟩])))))), []⟩
theorem c40_ok : compFunc Try.prog Try.f40 = some c40 := by kernel_rfl
theorem c40_body : hasBody Try.prog 40 = true := hasBody_of Try.func40 (by kernel_rfl)
/-- slices.heapSortCmpFunc[*coachyard/timer.entry] -/
def c41 : PFn := ⟨60, Tr.ofList (List.replicate 60 undefA), (.seq (.seqR [⟨.move, [.tmp 1], (some 13), none⟩,
 ⟨.move, [.tmp 13], (some 8), none⟩])
 (.seq (.seqR [⟨.move, [.const (.int .i64 0)], (some 9), none⟩])
 (.seq (.seqR [⟨.move, [.tmp 2], (some 14), none⟩,
 ⟨.move, [.tmp 1], (some 15), none⟩,
 ⟨(.bin .sub), [.tmp 14, .tmp 15], (some 16), none⟩,
 ⟨.move, [.tmp 16], (some 10), none⟩])
 (.seq (.seq (.seqR [⟨.move, [.tmp 10], (some 17), none⟩,
 ⟨(.bin .sub), [.tmp 17, .const (.int .i64 1)], (some 18), none⟩,
 ⟨(.bin .quo), [.tmp 18, .const (.int .i64 2)], (some 19), none⟩,
 ⟨.move, [.tmp 19], (some 11), none⟩])
 (.block 0 (.loop (.seq (.seq (.seqR [⟨.move, [.tmp 11], (some 20), none⟩,
 ⟨(.bin .geq), [.tmp 20, .const (.int .i64 0)], (some 21), none⟩])
 (.cond (.tmp 21) .skip
 (.exit 0)))
 (.seq (.block 1 (.seqR [⟨.move, [.tmp 0], (some 24), none⟩,
 ⟨.move, [.tmp 11], (some 25), none⟩,
 ⟨.move, [.tmp 10], (some 26), none⟩,
 ⟨.move, [.tmp 8], (some 27), none⟩,
 ⟨.move, [.tmp 3], (some 28), none⟩,
 ⟨(.callF 50), [.tmp 24, .tmp 25, .tmp 26, .tmp 27, .tmp 28], (some 29), none⟩]))
 (.seqR [⟨.move, [.tmp 11], (some 22), none⟩,
 ⟨(.bin .sub), [.tmp 22, .const (.int .i64 1)], (some 23), none⟩,
 ⟨.move, [.tmp 23], (some 11), none⟩]))))))
 (.seq (.seqR [⟨.move, [.tmp 10], (some 30), none⟩,
 ⟨(.bin .sub), [.tmp 30, .const (.int .i64 1)], (some 31), none⟩,
 ⟨.move, [.tmp 31], (some 12), none⟩])
 (.block 2 (.loop (.seq (.seq (.seqR [⟨.move, [.tmp 12], (some 32), none⟩,
 ⟨(.bin .geq), [.tmp 32, .const (.int .i64 0)], (some 33), none⟩])
 (.cond (.tmp 33) .skip
 (.exit 2)))
 (.seq (.block 3 (.seq (.drawR [⟨⟨.move, [.tmp 0], (some 36), none⟩, false, false, 0, 0⟩,
 ⟨⟨.move, [.tmp 8], (some 37), none⟩, false, false, 0, 0⟩,
 ⟨⟨.move, [.tmp 0], (some 38), none⟩, false, false, 0, 1⟩,
 ⟨⟨.move, [.tmp 8], (some 39), none⟩, false, false, 0, 1⟩,
 ⟨⟨.move, [.tmp 12], (some 40), none⟩, false, false, 0, 1⟩,
 ⟨⟨(.bin .add), [.tmp 39, .tmp 40], (some 41), none⟩, false, false, 0, 1⟩,
 ⟨⟨.move, [.tmp 0], (some 42), none⟩, false, false, 0, 0⟩,
 ⟨⟨.move, [.tmp 8], (some 43), none⟩, false, false, 0, 0⟩,
 ⟨⟨.move, [.tmp 12], (some 44), none⟩, false, false, 0, 0⟩,
 ⟨⟨(.bin .add), [.tmp 43, .tmp 44], (some 45), none⟩, false, false, 0, 0⟩,
 ⟨⟨(.indexAddrS 1), [.tmp 42, .tmp 45], (some 46), none⟩, false, false, 0, 0⟩,
 ⟨⟨(.load false 1), [.tmp 46], (some 47), none⟩, false, false, 0, 0⟩,
 ⟨⟨.move, [.tmp 0], (some 48), none⟩, false, false, 0, 0⟩,
 ⟨⟨.move, [.tmp 8], (some 49), none⟩, false, false, 0, 0⟩,
 ⟨⟨(.indexAddrS 1), [.tmp 48, .tmp 49], (some 50), none⟩, false, false, 0, 0⟩,
 ⟨⟨(.load false 1), [.tmp 50], (some 51), none⟩, false, false, 0, 0⟩,
 ⟨⟨(.indexAddrS 1), [.tmp 36, .tmp 37], (some 52), none⟩, false, false, 0, 0⟩,
 ⟨⟨(.store 1), [.tmp 52, .tmp 47], none, none⟩, true, false, 0, 1⟩,
 ⟨⟨(.indexAddrS 1), [.tmp 38, .tmp 41], (some 53), none⟩, false, false, 1, 1⟩,
 ⟨⟨(.store 1), [.tmp 53, .tmp 51], none, none⟩, true, false, 1, 2⟩])
 (.seqR [⟨.move, [.tmp 0], (some 54), none⟩,
 ⟨.move, [.tmp 9], (some 55), none⟩,
 ⟨.move, [.tmp 12], (some 56), none⟩,
 ⟨.move, [.tmp 8], (some 57), none⟩,
 ⟨.move, [.tmp 3], (some 58), none⟩,
 ⟨(.callF 50), [.tmp 54, .tmp 55, .tmp 56, .tmp 57, .tmp 58], (some 59), none⟩])))
 (.seqR [⟨.move, [.tmp 12], (some 34), none⟩,
 ⟨(.bin .sub), [.tmp 34, .const (.int .i64 1)], (some 35), none⟩,
 ⟨.move, [.tmp 35], (some 12), none⟩])))))))))), []⟩
theorem c41_ok : compFunc Try.prog Try.f41 = some c41 := by kernel_rfl
theorem c41_body : hasBody Try.prog 41 = true := hasBody_of Try.func41 (by kernel_rfl)
/-- slices.breakPatternsCmpFunc[*coachyard/timer.entry] -/
def c42 : PFn := ⟨67, Tr.ofList (List.replicate 67 undefA), (.seq (.seqR [⟨.move, [.tmp 2], (some 13), none⟩,
 ⟨.move, [.tmp 1], (some 14), none⟩,
 ⟨(.bin .sub), [.tmp 13, .tmp 14], (some 15), none⟩,
 ⟨.move, [.tmp 15], (some 8), none⟩])
 (.seq (.seqR [⟨.move, [.tmp 8], (some 16), none⟩,
 ⟨(.bin .geq), [.tmp 16, .const (.int .i64 8)], (some 17), none⟩])
 (.cond (.tmp 17) (.seq (.seqR [⟨.move, [.tmp 8], (some 18), none⟩,
 ⟨(.conv .u64), [.tmp 18], (some 19), none⟩,
 ⟨(.new [(.int .u64 0)]), [], (some 9), none⟩,
 ⟨(.store 1), [.tmp 9, .tmp 19], none, none⟩])
 (.seq (.seqR [⟨.move, [.tmp 8], (some 20), none⟩,
 ⟨(.callF 51), [.tmp 20], (some 21), none⟩,
 ⟨.move, [.tmp 21], (some 10), none⟩])
 (.seq (.seqR [⟨.move, [.tmp 1], (some 22), none⟩,
 ⟨.move, [.tmp 8], (some 23), none⟩,
 ⟨(.bin .quo), [.tmp 23, .const (.int .i64 4)], (some 24), none⟩,
 ⟨(.bin .mul), [.tmp 24, .const (.int .i64 2)], (some 25), none⟩,
 ⟨(.bin .add), [.tmp 22, .tmp 25], (some 26), none⟩,
 ⟨(.bin .sub), [.tmp 26, .const (.int .i64 1)], (some 27), none⟩,
 ⟨.move, [.tmp 27], (some 11), none⟩])
 (.block 0 (.loop (.seq (.seq (.seqR [⟨.move, [.tmp 11], (some 28), none⟩,
 ⟨.move, [.tmp 1], (some 29), none⟩,
 ⟨.move, [.tmp 8], (some 30), none⟩,
 ⟨(.bin .quo), [.tmp 30, .const (.int .i64 4)], (some 31), none⟩,
 ⟨(.bin .mul), [.tmp 31, .const (.int .i64 2)], (some 32), none⟩,
 ⟨(.bin .add), [.tmp 29, .tmp 32], (some 33), none⟩,
 ⟨(.bin .add), [.tmp 33, .const (.int .i64 1)], (some 34), none⟩,
 ⟨(.bin .leq), [.tmp 28, .tmp 34], (some 35), none⟩])
 (.cond (.tmp 35) .skip
 (.exit 0)))
 (.seq (.block 1 (.seq (.seqR [⟨(.callF 52), [.tmp 9], (some 38), none⟩,
 ⟨.move, [.tmp 10], (some 39), none⟩,
 ⟨(.bin .sub), [.tmp 39, .const (.int .u64 1)], (some 40), none⟩,
 ⟨(.bin .and), [.tmp 38, .tmp 40], (some 41), none⟩,
 ⟨(.conv .i64), [.tmp 41], (some 42), none⟩,
 ⟨.move, [.tmp 42], (some 12), none⟩])
 (.seq (.seq (.seqR [⟨.move, [.tmp 12], (some 43), none⟩,
 ⟨.move, [.tmp 8], (some 44), none⟩,
 ⟨(.bin .geq), [.tmp 43, .tmp 44], (some 45), none⟩])
 (.cond (.tmp 45) (.seqR [⟨.move, [.tmp 12], (some 46), none⟩,
 ⟨.move, [.tmp 8], (some 47), none⟩,
 ⟨(.bin .sub), [.tmp 46, .tmp 47], (some 48), none⟩,
 ⟨.move, [.tmp 48], (some 12), none⟩])
 .skip))
 (.drawR [⟨⟨.move, [.tmp 0], (some 49), none⟩, false, false, 0, 0⟩,
 ⟨⟨.move, [.tmp 11], (some 50), none⟩, false, false, 0, 0⟩,
 ⟨⟨.move, [.tmp 0], (some 51), none⟩, false, false, 0, 1⟩,
 ⟨⟨.move, [.tmp 1], (some 52), none⟩, false, false, 0, 1⟩,
 ⟨⟨.move, [.tmp 12], (some 53), none⟩, false, false, 0, 1⟩,
 ⟨⟨(.bin .add), [.tmp 52, .tmp 53], (some 54), none⟩, false, false, 0, 1⟩,
 ⟨⟨.move, [.tmp 0], (some 55), none⟩, false, false, 0, 0⟩,
 ⟨⟨.move, [.tmp 1], (some 56), none⟩, false, false, 0, 0⟩,
 ⟨⟨.move, [.tmp 12], (some 57), none⟩, false, false, 0, 0⟩,
 ⟨⟨(.bin .add), [.tmp 56, .tmp 57], (some 58), none⟩, false, false, 0, 0⟩,
 ⟨⟨(.indexAddrS 1), [.tmp 55, .tmp 58], (some 59), none⟩, false, false, 0, 0⟩,
 ⟨⟨(.load false 1), [.tmp 59], (some 60), none⟩, false, false, 0, 0⟩,
 ⟨⟨.move, [.tmp 0], (some 61), none⟩, false, false, 0, 0⟩,
 ⟨⟨.move, [.tmp 11], (some 62), none⟩, false, false, 0, 0⟩,
 ⟨⟨(.indexAddrS 1), [.tmp 61, .tmp 62], (some 63), none⟩, false, false, 0, 0⟩,
 ⟨⟨(.load false 1), [.tmp 63], (some 64), none⟩, false, false, 0, 0⟩,
 ⟨⟨(.indexAddrS 1), [.tmp 49, .tmp 50], (some 65), none⟩, false, false, 0, 0⟩,
 ⟨⟨(.store 1), [.tmp 65, .tmp 60], none, none⟩, true, false, 0, 1⟩,
 ⟨⟨(.indexAddrS 1), [.tmp 51, .tmp 54], (some 66), none⟩, false, false, 1, 1⟩,
 ⟨⟨(.store 1), [.tmp 66, .tmp 64], none, none⟩, true, false, 1, 2⟩]))))
 (.seqR [⟨.move, [.tmp 11], (some 36), none⟩,
 ⟨(.bin .add), [.tmp 36, .const (.int .i64 1)], (some 37), none⟩,
 ⟨.move, [.tmp 37], (some 11), none⟩]))))))))
 .skip))), []⟩
theorem c42_ok : compFunc Try.prog Try.f42 = some c42 := by kernel_rfl
theorem c42_body : hasBody Try.prog 42 = true := hasBody_of Try.func42 (by kernel_rfl)
/-- slices.choosePivotCmpFunc[*coachyard/timer.entry] -/
def c43 : PFn := ⟨63, Tr.ofList (List.replicate 63 undefA), (.seq (.seqR [⟨.move, [.const (.int .i64 0)], (some 8), none⟩,
 ⟨.move, [.const (.int .i64 0)], (some 9), none⟩])
 (.seq (.seqR [⟨.move, [.tmp 2], (some 15), none⟩,
 ⟨.move, [.tmp 1], (some 16), none⟩,
 ⟨(.bin .sub), [.tmp 15, .tmp 16], (some 17), none⟩,
 ⟨.move, [.tmp 17], (some 10), none⟩])
 (.seq (.seqR [⟨(.new [(.int .i64 0)]), [], (some 11), none⟩])
 (.seq (.seqR [⟨.move, [.tmp 1], (some 18), none⟩,
 ⟨.move, [.tmp 10], (some 19), none⟩,
 ⟨(.bin .quo), [.tmp 19, .const (.int .i64 4)], (some 20), none⟩,
 ⟨(.bin .mul), [.tmp 20, .const (.int .i64 1)], (some 21), none⟩,
 ⟨(.bin .add), [.tmp 18, .tmp 21], (some 22), none⟩,
 ⟨.move, [.tmp 22], (some 12), none⟩])
 (.seq (.seqR [⟨.move, [.tmp 1], (some 23), none⟩,
 ⟨.move, [.tmp 10], (some 24), none⟩,
 ⟨(.bin .quo), [.tmp 24, .const (.int .i64 4)], (some 25), none⟩,
 ⟨(.bin .mul), [.tmp 25, .const (.int .i64 2)], (some 26), none⟩,
 ⟨(.bin .add), [.tmp 23, .tmp 26], (some 27), none⟩,
 ⟨.move, [.tmp 27], (some 13), none⟩])
 (.seq (.seqR [⟨.move, [.tmp 1], (some 28), none⟩,
 ⟨.move, [.tmp 10], (some 29), none⟩,
 ⟨(.bin .quo), [.tmp 29, .const (.int .i64 4)], (some 30), none⟩,
 ⟨(.bin .mul), [.tmp 30, .const (.int .i64 3)], (some 31), none⟩,
 ⟨(.bin .add), [.tmp 28, .tmp 31], (some 32), none⟩,
 ⟨.move, [.tmp 32], (some 14), none⟩])
 (.seq (.seq (.seqR [⟨.move, [.tmp 10], (some 33), none⟩,
 ⟨(.bin .geq), [.tmp 33, .const (.int .i64 8)], (some 34), none⟩])
 (.cond (.tmp 34) (.seq (.seq (.seqR [⟨.move, [.tmp 10], (some 35), none⟩,
 ⟨(.bin .geq), [.tmp 35, .const (.int .i64 50)], (some 36), none⟩])
 (.cond (.tmp 36) (.seq (.seqR [⟨.move, [.tmp 0], (some 37), none⟩,
 ⟨.move, [.tmp 12], (some 38), none⟩,
 ⟨.move, [.tmp 3], (some 39), none⟩,
 ⟨(.callF 53), [.tmp 37, .tmp 38, .tmp 11, .tmp 39], (some 40), none⟩,
 ⟨.move, [.tmp 40], (some 12), none⟩])
 (.seq (.seqR [⟨.move, [.tmp 0], (some 41), none⟩,
 ⟨.move, [.tmp 13], (some 42), none⟩,
 ⟨.move, [.tmp 3], (some 43), none⟩,
 ⟨(.callF 53), [.tmp 41, .tmp 42, .tmp 11, .tmp 43], (some 44), none⟩,
 ⟨.move, [.tmp 44], (some 13), none⟩])
 (.seqR [⟨.move, [.tmp 0], (some 45), none⟩,
 ⟨.move, [.tmp 14], (some 46), none⟩,
 ⟨.move, [.tmp 3], (some 47), none⟩,
 ⟨(.callF 53), [.tmp 45, .tmp 46, .tmp 11, .tmp 47], (some 48), none⟩,
 ⟨.move, [.tmp 48], (some 14), none⟩])))
 .skip))
 (.seqR [⟨.move, [.tmp 0], (some 49), none⟩,
 ⟨.move, [.tmp 12], (some 50), none⟩,
 ⟨.move, [.tmp 13], (some 51), none⟩,
 ⟨.move, [.tmp 14], (some 52), none⟩,
 ⟨.move, [.tmp 3], (some 53), none⟩,
 ⟨(.callF 54), [.tmp 49, .tmp 50, .tmp 51, .tmp 52, .tmp 11, .tmp 53], (some 54), none⟩,
 ⟨.move, [.tmp 54], (some 13), none⟩]))
 .skip))
 (.seq (.seqR [⟨(.load false 1), [.tmp 11], (some 55), none⟩])
 (.block 0 (.seq (.seqR [⟨(.bin .eql), [.tmp 55, .const (.int .i64 0)], (some 58), none⟩,
 ⟨.move, [.tmp 58], (some 57), none⟩])
 (.cond (.tmp 57) (.seq (.seqR [⟨.move, [.tmp 13], (some 59), none⟩,
 ⟨.move, [.tmp 59], (some 8), none⟩,
 ⟨.move, [.const (.int .i64 1)], (some 9), none⟩])
 .ret)
 (.seq (.seqR [⟨(.bin .eql), [.tmp 55, .const (.int .i64 12)], (some 61), none⟩,
 ⟨.move, [.tmp 61], (some 60), none⟩])
 (.cond (.tmp 60) (.seq (.seqR [⟨.move, [.tmp 13], (some 62), none⟩,
 ⟨.move, [.tmp 62], (some 8), none⟩,
 ⟨.move, [.const (.int .i64 2)], (some 9), none⟩])
 .ret)
 (.seq (.seqR [⟨.move, [.tmp 13], (some 56), none⟩,
 ⟨.move, [.tmp 56], (some 8), none⟩,
 ⟨.move, [.const (.int .i64 0)], (some 9), none⟩])
 .ret)))))))))))))), [.tmp 8, .tmp 9]⟩
theorem c43_ok : compFunc Try.prog Try.f43 = some c43 := by kernel_rfl
theorem c43_body : hasBody Try.prog 43 = true := hasBody_of Try.func43 (by kernel_rfl)
/-- slices.reverseRangeCmpFunc[*coachyard/timer.entry] -/
def c44 : PFn := ⟨34, Tr.ofList (List.replicate 34 undefA), (.seq (.seqR [⟨.move, [.tmp 1], (some 10), none⟩,
 ⟨.move, [.tmp 10], (some 8), none⟩])
 (.seq (.seqR [⟨.move, [.tmp 2], (some 11), none⟩,
 ⟨(.bin .sub), [.tmp 11, .const (.int .i64 1)], (some 12), none⟩,
 ⟨.move, [.tmp 12], (some 9), none⟩])
 (.block 0 (.loop (.seq (.seq (.seqR [⟨.move, [.tmp 8], (some 13), none⟩,
 ⟨.move, [.tmp 9], (some 14), none⟩,
 ⟨(.bin .lss), [.tmp 13, .tmp 14], (some 15), none⟩])
 (.cond (.tmp 15) .skip
 (.exit 0)))
 (.block 1 (.seq (.drawR [⟨⟨.move, [.tmp 0], (some 16), none⟩, false, false, 0, 0⟩,
 ⟨⟨.move, [.tmp 8], (some 17), none⟩, false, false, 0, 0⟩,
 ⟨⟨.move, [.tmp 0], (some 18), none⟩, false, false, 0, 1⟩,
 ⟨⟨.move, [.tmp 9], (some 19), none⟩, false, false, 0, 1⟩,
 ⟨⟨.move, [.tmp 0], (some 20), none⟩, false, false, 0, 0⟩,
 ⟨⟨.move, [.tmp 9], (some 21), none⟩, false, false, 0, 0⟩,
 ⟨⟨(.indexAddrS 1), [.tmp 20, .tmp 21], (some 22), none⟩, false, false, 0, 0⟩,
 ⟨⟨(.load false 1), [.tmp 22], (some 23), none⟩, false, false, 0, 0⟩,
 ⟨⟨.move, [.tmp 0], (some 24), none⟩, false, false, 0, 0⟩,
 ⟨⟨.move, [.tmp 8], (some 25), none⟩, false, false, 0, 0⟩,
 ⟨⟨(.indexAddrS 1), [.tmp 24, .tmp 25], (some 26), none⟩, false, false, 0, 0⟩,
 ⟨⟨(.load false 1), [.tmp 26], (some 27), none⟩, false, false, 0, 0⟩,
 ⟨⟨(.indexAddrS 1), [.tmp 16, .tmp 17], (some 28), none⟩, false, false, 0, 0⟩,
 ⟨⟨(.store 1), [.tmp 28, .tmp 23], none, none⟩, true, false, 0, 1⟩,
 ⟨⟨(.indexAddrS 1), [.tmp 18, .tmp 19], (some 29), none⟩, false, false, 1, 1⟩,
 ⟨⟨(.store 1), [.tmp 29, .tmp 27], none, none⟩, true, false, 1, 2⟩])
 (.seq (.seqR [⟨.move, [.tmp 8], (some 30), none⟩,
 ⟨(.bin .add), [.tmp 30, .const (.int .i64 1)], (some 31), none⟩,
 ⟨.move, [.tmp 31], (some 8), none⟩])
 (.seqR [⟨.move, [.tmp 9], (some 32), none⟩,
 ⟨(.bin .sub), [.tmp 32, .const (.int .i64 1)], (some 33), none⟩,
 ⟨.move, [.tmp 33], (some 9), none⟩]))))))))), []⟩
theorem c44_ok : compFunc Try.prog Try.f44 = some c44 := by kernel_rfl
theorem c44_body : hasBody Try.prog 44 = true := hasBody_of Try.func44 (by kernel_rfl)
end Go.Proofs.Ytbjipmhdncfodaa
