/- The code of the small machine for some of the program's functions: printed by program; each is what the rules make of the program's own. -/
import Derived.Test.YtgjamfkmaccgaaaVx16
import Derived.Test.YtgjamfkmaccgaaaProg
import Derived.KernelRfl
namespace Go.Proofs.Ytgjamfkmaccgaaa
open Go Go.Vx Go.Proofs
/-- coachyard/coachyardlaw15.DiaryTells -/
def c3 : PFn := ⟨95, Tr.ofList (List.replicate 95 undefA), (.seq (.seqR [⟨.move, [.const (.bool false)], (some 4), none⟩])
 (.seq (.seq (.seqR [⟨(.callF 4), [], (some 9), none⟩,
 ⟨.not, [.tmp 9], (some 10), none⟩])
 (.cond (.tmp 10) (.seq (.seqR [⟨.move, [.const (.bool false)], (some 4), none⟩])
 .ret)
 .skip))
 (.seq (.seq (.seqR [⟨.move, [.tmp 0], (some 11), none⟩,
 ⟨(.callF 5), [.tmp 11, .const (.int .i64 100)], (some 12), none⟩])
 (.cond (.tmp 12) (.seq (.seqR [⟨.move, [.const (.bool true)], (some 4), none⟩])
 .ret)
 .skip))
 (.seq (.seqR [⟨.move, [.const (.int .i64 0)], (some 5), none⟩])
 (.seq (.seqR [⟨(.sliceLit 0 [] []), [], (some 13), none⟩,
 ⟨.move, [.tmp 13], (some 6), none⟩])
 (.seq (.seq (.seqR [⟨.move, [.const (.int .i64 0)], (some 7), none⟩])
 (.block 0 (.loop (.seq (.seq (.seqR [⟨.move, [.tmp 7], (some 14), none⟩,
 ⟨.move, [.tmp 0], (some 15), none⟩,
 ⟨.lenS, [.tmp 15], (some 16), none⟩,
 ⟨(.bin .lss), [.tmp 14, .tmp 16], (some 17), none⟩])
 (.cond (.tmp 17) .skip
 (.exit 0)))
 (.seq (.block 1 (.seq (.seq (.seqR [⟨.move, [.tmp 0], (some 20), none⟩,
 ⟨.move, [.tmp 7], (some 21), none⟩,
 ⟨(.indexAddrS 10), [.tmp 20, .tmp 21], (some 22), none⟩,
 ⟨(.fieldAddr 3), [.tmp 22], (some 23), none⟩,
 ⟨(.load false 1), [.tmp 23], (some 24), none⟩,
 ⟨(.bin .lss), [.tmp 24, .const (.int .i64 0)], (some 25), none⟩])
 (.cond (.tmp 25) (.seqR [⟨.move, [.tmp 5], (some 26), none⟩,
 ⟨(.bin .add), [.tmp 26, .const (.int .i64 1)], (some 27), none⟩,
 ⟨.move, [.tmp 27], (some 5), none⟩])
 .skip))
 (.seq (.seq (.seqR [⟨.move, [.tmp 0], (some 28), none⟩,
 ⟨.move, [.tmp 7], (some 29), none⟩,
 ⟨(.indexAddrS 10), [.tmp 28, .tmp 29], (some 30), none⟩,
 ⟨(.fieldAddr 0), [.tmp 30], (some 31), none⟩,
 ⟨(.load false 1), [.tmp 31], (some 32), none⟩,
 ⟨.move, [.tmp 1], (some 33), none⟩,
 ⟨(.bin .eql), [.tmp 32, .tmp 33], (some 34), none⟩])
 (.cond (.tmp 34) (.seqR [⟨.move, [.tmp 6], (some 35), none⟩,
 ⟨.move, [.tmp 0], (some 36), none⟩,
 ⟨.move, [.tmp 7], (some 37), none⟩,
 ⟨(.indexAddrS 10), [.tmp 36, .tmp 37], (some 38), none⟩,
 ⟨(.load true 10), [.tmp 38], (some 39), none⟩,
 ⟨(.sliceLit 1 [(.int .i64 0), (.int .i64 0), (.int .i64 0), (.int .i64 0), (.int .i64 0), (.int .u64 0), (.slice none 0 0 false), (.int .i64 0), (.int .u64 0), (.slice none 0 0 false)] [(0, 10)]), [.tmp 39], (some 40), none⟩,
 ⟨(.append 10 112), [.tmp 35, .tmp 40], (some 41), none⟩,
 ⟨.move, [.tmp 41], (some 6), none⟩])
 .skip))
 (.seq (.seqR [⟨.move, [.const (.int .i64 0)], (some 8), none⟩])
 (.block 2 (.loop (.seq (.seq (.seqR [⟨.move, [.tmp 8], (some 42), none⟩,
 ⟨.move, [.tmp 0], (some 43), none⟩,
 ⟨.lenS, [.tmp 43], (some 44), none⟩,
 ⟨(.bin .lss), [.tmp 42, .tmp 44], (some 45), none⟩])
 (.cond (.tmp 45) .skip
 (.exit 2)))
 (.seq (.block 3 (.seq (.drawR [⟨⟨.move, [.tmp 0], (some 48), none⟩, false, false, 0, 0⟩,
 ⟨⟨.move, [.tmp 7], (some 49), none⟩, false, false, 0, 0⟩,
 ⟨⟨(.indexAddrS 10), [.tmp 48, .tmp 49], (some 50), none⟩, false, false, 0, 0⟩,
 ⟨⟨(.load true 10), [.tmp 50], (some 51), none⟩, false, false, 0, 0⟩,
 ⟨⟨.move, [.tmp 0], (some 52), none⟩, false, false, 0, 0⟩,
 ⟨⟨.move, [.tmp 8], (some 53), none⟩, false, false, 0, 0⟩,
 ⟨⟨(.indexAddrS 10), [.tmp 52, .tmp 53], (some 54), none⟩, false, false, 0, 0⟩,
 ⟨⟨(.load true 10), [.tmp 54], (some 55), none⟩, false, false, 0, 0⟩,
 ⟨⟨(.callF 6), [.tmp 51, .tmp 55], (some 56), none⟩, true, false, 0, 1⟩,
 ⟨⟨.move, [.tmp 0], (some 57), none⟩, false, false, 0, 1⟩,
 ⟨⟨.move, [.tmp 7], (some 58), none⟩, false, false, 0, 1⟩,
 ⟨⟨(.indexAddrS 10), [.tmp 57, .tmp 58], (some 59), none⟩, false, false, 0, 1⟩,
 ⟨⟨(.fieldAddr 3), [.tmp 59], (some 60), none⟩, false, false, 0, 1⟩,
 ⟨⟨(.load false 1), [.tmp 60], (some 61), none⟩, false, false, 0, 1⟩,
 ⟨⟨(.bin .geq), [.tmp 61, .const (.int .i64 0)], (some 62), none⟩, false, false, 0, 1⟩,
 ⟨⟨.move, [.tmp 62], (some 63), none⟩, false, false, 1, 1⟩,
 ⟨⟨.move, [.tmp 0], (some 64), some (63, true)⟩, false, false, 1, 1⟩,
 ⟨⟨.move, [.tmp 7], (some 65), some (63, true)⟩, false, false, 1, 1⟩,
 ⟨⟨(.indexAddrS 10), [.tmp 64, .tmp 65], (some 66), some (63, true)⟩, false, false, 1, 1⟩,
 ⟨⟨(.fieldAddr 3), [.tmp 66], (some 67), some (63, true)⟩, false, false, 1, 1⟩,
 ⟨⟨(.load false 1), [.tmp 67], (some 68), some (63, true)⟩, false, false, 1, 1⟩,
 ⟨⟨.move, [.tmp 0], (some 69), some (63, true)⟩, false, false, 1, 1⟩,
 ⟨⟨.move, [.tmp 8], (some 70), some (63, true)⟩, false, false, 1, 1⟩,
 ⟨⟨(.indexAddrS 10), [.tmp 69, .tmp 70], (some 71), some (63, true)⟩, false, false, 1, 1⟩,
 ⟨⟨(.fieldAddr 2), [.tmp 71], (some 72), some (63, true)⟩, false, false, 1, 1⟩,
 ⟨⟨(.load false 1), [.tmp 72], (some 73), some (63, true)⟩, false, false, 1, 1⟩,
 ⟨⟨(.bin .lss), [.tmp 68, .tmp 73], (some 74), some (63, true)⟩, false, false, 1, 1⟩,
 ⟨⟨.pick, [.tmp 63, .tmp 74, .const (.bool false)], (some 75), none⟩, false, false, 1, 1⟩,
 ⟨⟨(.eqBool true), [.tmp 56, .tmp 75], (some 76), none⟩, false, false, 1, 1⟩])
 (.cond (.tmp 76) (.seq (.seqR [⟨.move, [.const (.bool false)], (some 4), none⟩])
 .ret)
 .skip)))
 (.seqR [⟨.move, [.tmp 8], (some 46), none⟩,
 ⟨(.bin .add), [.tmp 46, .const (.int .i64 1)], (some 47), none⟩,
 ⟨.move, [.tmp 47], (some 8), none⟩])))))))))
 (.seqR [⟨.move, [.tmp 7], (some 18), none⟩,
 ⟨(.bin .add), [.tmp 18, .const (.int .i64 1)], (some 19), none⟩,
 ⟨.move, [.tmp 19], (some 7), none⟩]))))))
 (.seq (.seqR [⟨.move, [.tmp 0], (some 77), none⟩,
 ⟨(.callF 7), [.tmp 77], (some 78), none⟩,
 ⟨.move, [.tmp 5], (some 79), none⟩,
 ⟨(.bin .eql), [.tmp 78, .tmp 79], (some 80), none⟩,
 ⟨.move, [.tmp 80], (some 81), none⟩,
 ⟨.move, [.tmp 0], (some 82), some (81, true)⟩,
 ⟨(.callF 8), [.tmp 82], (some 83), some (81, true)⟩,
 ⟨.move, [.tmp 0], (some 84), some (81, true)⟩,
 ⟨(.callF 9), [.tmp 84], (some 85), some (81, true)⟩,
 ⟨(.bin .eql), [.tmp 83, .tmp 85], (some 86), some (81, true)⟩,
 ⟨.pick, [.tmp 81, .tmp 86, .const (.bool false)], (some 87), none⟩,
 ⟨.move, [.tmp 87], (some 88), none⟩,
 ⟨.move, [.tmp 0], (some 89), some (88, true)⟩,
 ⟨.move, [.tmp 1], (some 90), some (88, true)⟩,
 ⟨(.callF 11), [.tmp 89, .tmp 90], (some 91), some (88, true)⟩,
 ⟨.move, [.tmp 6], (some 92), some (88, true)⟩,
 ⟨(.callF 10), [.tmp 91, .tmp 92], (some 93), some (88, true)⟩,
 ⟨.pick, [.tmp 88, .tmp 93, .const (.bool false)], (some 94), none⟩,
 ⟨.move, [.tmp 94], (some 4), none⟩])
 .ret))))))), [.tmp 4]⟩
theorem c3_ok : compFunc Try.prog Try.f3 = some c3 := by kernel_rfl
theorem c3_body : hasBody Try.prog 3 = true := hasBody_of Try.func3 (by kernel_rfl)
/-- coachyard/coachyardlaw15.awake -/
def c4 : PFn := ⟨44, Tr.ofList (List.replicate 44 undefA), (.seq (.seqR [⟨.move, [.const (.bool false)], (some 0), none⟩])
 (.seq (.seqR [⟨(.build [(.int .i64 0), (.int .i64 0), (.int .i64 0), (.bool false), (.int .i64 0), (.int .u64 0), (.slice none 0 0 false), (.int .i64 0), (.int .u64 0), (.slice none 0 0 false)] [(1, 1)]), [.const (.int .i64 0)], (some 4), none⟩,
 ⟨(.build [(.int .i64 0), (.int .i64 0), (.int .i64 0), (.bool false), (.int .i64 0), (.int .u64 0), (.slice none 0 0 false), (.int .i64 0), (.int .u64 0), (.slice none 0 0 false)] [(1, 1)]), [.const (.int .i64 1)], (some 5), none⟩,
 ⟨(.build [(.int .i64 0), (.int .i64 0), (.int .i64 0), (.bool false), (.int .i64 0), (.int .u64 0), (.slice none 0 0 false), (.int .i64 0), (.int .u64 0), (.slice none 0 0 false)] [(1, 1), (3, 1)]), [.const (.int .i64 0), .const (.bool true)], (some 6), none⟩,
 ⟨(.sliceLit 3 [(.int .i64 0), (.int .i64 0), (.int .i64 0), (.bool false), (.int .i64 0), (.int .u64 0), (.slice none 0 0 false), (.int .i64 0), (.int .u64 0), (.slice none 0 0 false), (.int .i64 0), (.int .i64 0), (.int .i64 0), (.bool false), (.int .i64 0), (.int .u64 0), (.slice none 0 0 false), (.int .i64 0), (.int .u64 0), (.slice none 0 0 false), (.int .i64 0), (.int .i64 0), (.int .i64 0), (.bool false), (.int .i64 0), (.int .u64 0), (.slice none 0 0 false), (.int .i64 0), (.int .u64 0), (.slice none 0 0 false)] [(0, 10), (10, 10), (20, 10)]), [.tmp 4, .tmp 5, .tmp 6], (some 7), none⟩,
 ⟨(.callF 12), [.tmp 7], (some 8), none⟩,
 ⟨.move, [.tmp 8], (some 3), none⟩,
 ⟨(.extract 0), [.tmp 3], (some 9), none⟩,
 ⟨(.extract 1), [.tmp 3], (some 10), none⟩,
 ⟨.move, [.tmp 9], (some 1), none⟩,
 ⟨.move, [.tmp 10], (some 2), none⟩])
 (.seq (.seqR [⟨.move, [.tmp 2], (some 11), none⟩,
 ⟨(.bin .eql), [.tmp 11, .const (.int .i64 0)], (some 12), none⟩,
 ⟨.move, [.tmp 12], (some 13), none⟩,
 ⟨.move, [.tmp 1], (some 14), some (13, true)⟩,
 ⟨.lenS, [.tmp 14], (some 15), some (13, true)⟩,
 ⟨(.bin .eql), [.tmp 15, .const (.int .i64 2)], (some 16), some (13, true)⟩,
 ⟨.pick, [.tmp 13, .tmp 16, .const (.bool false)], (some 17), none⟩,
 ⟨.move, [.tmp 17], (some 18), none⟩,
 ⟨.move, [.tmp 1], (some 19), some (18, true)⟩,
 ⟨(.indexAddrS 10), [.tmp 19, .const (.int .i64 0)], (some 20), some (18, true)⟩,
 ⟨(.fieldAddr 3), [.tmp 20], (some 21), some (18, true)⟩,
 ⟨(.load false 1), [.tmp 21], (some 22), some (18, true)⟩,
 ⟨(.bin .eql), [.tmp 22, .const (.int .i64 2)], (some 23), some (18, true)⟩,
 ⟨.pick, [.tmp 18, .tmp 23, .const (.bool false)], (some 24), none⟩,
 ⟨.move, [.tmp 24], (some 25), none⟩,
 ⟨.move, [.tmp 1], (some 26), some (25, true)⟩,
 ⟨(.indexAddrS 10), [.tmp 26, .const (.int .i64 1)], (some 27), some (25, true)⟩,
 ⟨(.fieldAddr 2), [.tmp 27], (some 28), some (25, true)⟩,
 ⟨(.load false 1), [.tmp 28], (some 29), some (25, true)⟩,
 ⟨(.bin .eql), [.tmp 29, .const (.int .i64 1)], (some 30), some (25, true)⟩,
 ⟨.pick, [.tmp 25, .tmp 30, .const (.bool false)], (some 31), none⟩,
 ⟨.move, [.tmp 31], (some 32), none⟩,
 ⟨.move, [.tmp 1], (some 33), some (32, true)⟩,
 ⟨(.indexAddrS 10), [.tmp 33, .const (.int .i64 1)], (some 34), some (32, true)⟩,
 ⟨(.fieldAddr 3), [.tmp 34], (some 35), some (32, true)⟩,
 ⟨(.load false 1), [.tmp 35], (some 36), some (32, true)⟩,
 ⟨(.bin .eql), [.tmp 36, .const (.int .i64 (-1))], (some 37), some (32, true)⟩,
 ⟨.pick, [.tmp 32, .tmp 37, .const (.bool false)], (some 38), none⟩,
 ⟨.move, [.tmp 38], (some 39), none⟩,
 ⟨.move, [.tmp 1], (some 40), some (39, true)⟩,
 ⟨(.callF 8), [.tmp 40], (some 41), some (39, true)⟩,
 ⟨(.bin .eql), [.tmp 41, .const (.int .i64 2)], (some 42), some (39, true)⟩,
 ⟨.pick, [.tmp 39, .tmp 42, .const (.bool false)], (some 43), none⟩,
 ⟨.move, [.tmp 43], (some 0), none⟩])
 .ret))), [.tmp 0]⟩
theorem c4_ok : compFunc Try.prog Try.f4 = some c4 := by kernel_rfl
theorem c4_body : hasBody Try.prog 4 = true := hasBody_of Try.func4 (by kernel_rfl)
/-- coachyard/coachyardref15.Big -/
def c5 : PFn := ⟨34, Tr.ofList (List.replicate 34 undefA), (.seq (.seqR [⟨.move, [.const (.bool false)], (some 4), none⟩])
 (.seq (.seq (.seqR [⟨.move, [.tmp 0], (some 6), none⟩,
 ⟨.lenS, [.tmp 6], (some 7), none⟩,
 ⟨.move, [.tmp 1], (some 8), none⟩,
 ⟨(.bin .gtr), [.tmp 7, .tmp 8], (some 9), none⟩])
 (.cond (.tmp 9) (.seq (.seqR [⟨.move, [.const (.bool true)], (some 4), none⟩])
 .ret)
 .skip))
 (.seq (.seq (.seqR [⟨.move, [.const (.int .i64 0)], (some 5), none⟩])
 (.block 0 (.loop (.seq (.seq (.seqR [⟨.move, [.tmp 5], (some 10), none⟩,
 ⟨.move, [.tmp 0], (some 11), none⟩,
 ⟨.lenS, [.tmp 11], (some 12), none⟩,
 ⟨(.bin .lss), [.tmp 10, .tmp 12], (some 13), none⟩])
 (.cond (.tmp 13) .skip
 (.exit 0)))
 (.seq (.block 1 (.seq (.seqR [⟨.move, [.tmp 0], (some 16), none⟩,
 ⟨.move, [.tmp 5], (some 17), none⟩,
 ⟨(.indexAddrS 10), [.tmp 16, .tmp 17], (some 18), none⟩,
 ⟨(.fieldAddr 4), [.tmp 18], (some 19), none⟩,
 ⟨(.fieldAddr 2), [.tmp 19], (some 20), none⟩,
 ⟨(.load false 1), [.tmp 20], (some 21), none⟩,
 ⟨.lenS, [.tmp 21], (some 22), none⟩,
 ⟨(.bin .gtr), [.tmp 22, .const (.int .i64 100)], (some 23), none⟩,
 ⟨.move, [.tmp 23], (some 24), none⟩,
 ⟨.move, [.tmp 0], (some 25), some (24, false)⟩,
 ⟨.move, [.tmp 5], (some 26), some (24, false)⟩,
 ⟨(.indexAddrS 10), [.tmp 25, .tmp 26], (some 27), some (24, false)⟩,
 ⟨(.fieldAddr 7), [.tmp 27], (some 28), some (24, false)⟩,
 ⟨(.fieldAddr 2), [.tmp 28], (some 29), some (24, false)⟩,
 ⟨(.load false 1), [.tmp 29], (some 30), some (24, false)⟩,
 ⟨.lenS, [.tmp 30], (some 31), some (24, false)⟩,
 ⟨(.bin .gtr), [.tmp 31, .const (.int .i64 100)], (some 32), some (24, false)⟩,
 ⟨.pick, [.tmp 24, .const (.bool true), .tmp 32], (some 33), none⟩])
 (.cond (.tmp 33) (.seq (.seqR [⟨.move, [.const (.bool true)], (some 4), none⟩])
 .ret)
 .skip)))
 (.seqR [⟨.move, [.tmp 5], (some 14), none⟩,
 ⟨(.bin .add), [.tmp 14, .const (.int .i64 1)], (some 15), none⟩,
 ⟨.move, [.tmp 15], (some 5), none⟩]))))))
 (.seq (.seqR [⟨.move, [.const (.bool false)], (some 4), none⟩])
 .ret)))), [.tmp 4]⟩
theorem c5_ok : compFunc Try.prog Try.f5 = some c5 := by kernel_rfl
theorem c5_body : hasBody Try.prog 5 = true := hasBody_of Try.func5 (by kernel_rfl)
/-- coachyard/diary.Ahead -/
def c6 : PFn := ⟨15, Tr.ofList (List.replicate 15 undefA), (.seq (.seqR [⟨.box, [.tmp 0], (some 2), none⟩,
 ⟨.box, [.tmp 1], (some 3), none⟩,
 ⟨.move, [.const (.bool false)], (some 4), none⟩])
 (.seq (.seqR [⟨(.fieldAddr 3), [.tmp 2], (some 5), none⟩,
 ⟨(.load false 1), [.tmp 5], (some 6), none⟩,
 ⟨(.bin .geq), [.tmp 6, .const (.int .i64 0)], (some 7), none⟩,
 ⟨.move, [.tmp 7], (some 8), none⟩,
 ⟨(.fieldAddr 3), [.tmp 2], (some 9), some (8, true)⟩,
 ⟨(.load false 1), [.tmp 9], (some 10), some (8, true)⟩,
 ⟨(.fieldAddr 2), [.tmp 3], (some 11), some (8, true)⟩,
 ⟨(.load false 1), [.tmp 11], (some 12), some (8, true)⟩,
 ⟨(.bin .lss), [.tmp 10, .tmp 12], (some 13), some (8, true)⟩,
 ⟨.pick, [.tmp 8, .tmp 13, .const (.bool false)], (some 14), none⟩,
 ⟨.move, [.tmp 14], (some 4), none⟩])
 .ret)), [.tmp 4]⟩
theorem c6_ok : compFunc Try.prog Try.f6 = some c6 := by kernel_rfl
theorem c6_body : hasBody Try.prog 6 = true := hasBody_of Try.func6 (by kernel_rfl)
/-- coachyard/diary.Open -/
def c7 : PFn := ⟨19, Tr.ofList (List.replicate 19 undefA), (.seq (.seqR [⟨.move, [.const (.int .i64 0)], (some 2), none⟩])
 (.seq (.seqR [⟨.move, [.const (.int .i64 0)], (some 3), none⟩])
 (.seq (.seq (.seqR [⟨.move, [.tmp 0], (some 6), none⟩,
 ⟨.lenS, [.tmp 6], (some 7), none⟩,
 ⟨.move, [.const (.int .i64 0)], (some 8), none⟩])
 (.block 0 (.loop (.seq (.seqR [⟨(.bin .lss), [.tmp 8, .tmp 7], (some 9), none⟩])
 (.seq (.cond (.tmp 9) .skip
 (.exit 0))
 (.seq (.block 1 (.seq (.seqR [⟨(.indexAddrS 10), [.tmp 6, .tmp 8], (some 10), none⟩,
 ⟨(.load true 10), [.tmp 10], (some 11), none⟩,
 ⟨(.new [(.int .i64 0), (.int .i64 0), (.int .i64 0), (.int .i64 0), (.int .i64 0), (.int .u64 0), (.slice none 0 0 false), (.int .i64 0), (.int .u64 0), (.slice none 0 0 false)]), [], (some 5), none⟩,
 ⟨(.store 10), [.tmp 5, .tmp 11], none, none⟩])
 (.seq (.seqR [⟨(.fieldAddr 3), [.tmp 5], (some 12), none⟩,
 ⟨(.load false 1), [.tmp 12], (some 13), none⟩,
 ⟨(.bin .lss), [.tmp 13, .const (.int .i64 0)], (some 14), none⟩])
 (.cond (.tmp 14) (.seqR [⟨.move, [.tmp 3], (some 15), none⟩,
 ⟨(.bin .add), [.tmp 15, .const (.int .i64 1)], (some 16), none⟩,
 ⟨.move, [.tmp 16], (some 3), none⟩])
 .skip))))
 (.seqR [⟨(.bin .add), [.tmp 8, .const (.int .i64 1)], (some 17), none⟩,
 ⟨.move, [.tmp 17], (some 8), none⟩])))))))
 (.seq (.seqR [⟨.move, [.tmp 3], (some 18), none⟩,
 ⟨.move, [.tmp 18], (some 2), none⟩])
 .ret)))), [.tmp 2]⟩
theorem c7_ok : compFunc Try.prog Try.f7 = some c7 := by kernel_rfl
theorem c7_body : hasBody Try.prog 7 = true := hasBody_of Try.func7 (by kernel_rfl)
/-- coachyard/diary.Most -/
def c8 : PFn := ⟨66, Tr.ofList (List.replicate 66 undefA), (.seq (.seqR [⟨.move, [.const (.int .i64 0)], (some 2), none⟩])
 (.seq (.seqR [⟨.move, [.const (.slice none 0 0 false)], (some 3), none⟩])
 (.seq (.seq (.seqR [⟨.move, [.tmp 0], (some 10), none⟩,
 ⟨.lenS, [.tmp 10], (some 11), none⟩,
 ⟨.move, [.const (.int .i64 0)], (some 12), none⟩])
 (.block 0 (.loop (.seq (.seqR [⟨(.bin .lss), [.tmp 12, .tmp 11], (some 13), none⟩])
 (.seq (.cond (.tmp 13) .skip
 (.exit 0))
 (.seq (.block 1 (.seq (.seqR [⟨(.indexAddrS 10), [.tmp 10, .tmp 12], (some 14), none⟩,
 ⟨(.load true 10), [.tmp 14], (some 15), none⟩,
 ⟨(.new [(.int .i64 0), (.int .i64 0), (.int .i64 0), (.int .i64 0), (.int .i64 0), (.int .u64 0), (.slice none 0 0 false), (.int .i64 0), (.int .u64 0), (.slice none 0 0 false)]), [], (some 5), none⟩,
 ⟨(.store 10), [.tmp 5, .tmp 15], none, none⟩])
 (.seq (.seq (.seqR [⟨(.fieldAddr 2), [.tmp 5], (some 16), none⟩,
 ⟨(.load false 1), [.tmp 16], (some 17), none⟩,
 ⟨(.bin .lss), [.tmp 17, .const (.int .i64 0)], (some 18), none⟩,
 ⟨.move, [.tmp 18], (some 19), none⟩,
 ⟨(.fieldAddr 3), [.tmp 5], (some 20), some (19, false)⟩,
 ⟨(.load false 1), [.tmp 20], (some 21), some (19, false)⟩,
 ⟨(.bin .geq), [.tmp 21, .const (.int .i64 0)], (some 22), some (19, false)⟩,
 ⟨.move, [.tmp 22], (some 23), some (19, false)⟩,
 ⟨(.fieldAddr 3), [.tmp 5], (some 24), some (23, true)⟩,
 ⟨(.load false 1), [.tmp 24], (some 25), some (23, true)⟩,
 ⟨(.fieldAddr 2), [.tmp 5], (some 26), some (23, true)⟩,
 ⟨(.load false 1), [.tmp 26], (some 27), some (23, true)⟩,
 ⟨(.bin .lss), [.tmp 25, .tmp 27], (some 28), some (23, true)⟩,
 ⟨.pick, [.tmp 23, .tmp 28, .const (.bool false)], (some 29), some (19, false)⟩,
 ⟨.pick, [.tmp 19, .const (.bool true), .tmp 29], (some 30), none⟩])
 (.cond (.tmp 30) (.exit 1)
 .skip))
 (.seq (.seqR [⟨.move, [.tmp 3], (some 31), none⟩,
 ⟨(.fieldAddr 2), [.tmp 5], (some 32), none⟩,
 ⟨(.load false 1), [.tmp 32], (some 33), none⟩,
 ⟨(.build [(.int .i64 0), (.bool false)] [(0, 1), (1, 1)]), [.tmp 33, .const (.bool false)], (some 34), none⟩,
 ⟨(.sliceLit 1 [(.int .i64 0), (.bool false)] [(0, 2)]), [.tmp 34], (some 35), none⟩,
 ⟨(.append 2 16), [.tmp 31, .tmp 35], (some 36), none⟩,
 ⟨.move, [.tmp 36], (some 3), none⟩])
 (.seq (.seqR [⟨(.fieldAddr 3), [.tmp 5], (some 37), none⟩,
 ⟨(.load false 1), [.tmp 37], (some 38), none⟩,
 ⟨(.bin .geq), [.tmp 38, .const (.int .i64 0)], (some 39), none⟩])
 (.cond (.tmp 39) (.seqR [⟨.move, [.tmp 3], (some 40), none⟩,
 ⟨(.fieldAddr 3), [.tmp 5], (some 41), none⟩,
 ⟨(.load false 1), [.tmp 41], (some 42), none⟩,
 ⟨(.build [(.int .i64 0), (.bool false)] [(0, 1), (1, 1)]), [.tmp 42, .const (.bool true)], (some 43), none⟩,
 ⟨(.sliceLit 1 [(.int .i64 0), (.bool false)] [(0, 2)]), [.tmp 43], (some 44), none⟩,
 ⟨(.append 2 16), [.tmp 40, .tmp 44], (some 45), none⟩,
 ⟨.move, [.tmp 45], (some 3), none⟩])
 .skip))))))
 (.seqR [⟨(.bin .add), [.tmp 12, .const (.int .i64 1)], (some 46), none⟩,
 ⟨.move, [.tmp 46], (some 12), none⟩])))))))
 (.seq (.seqR [⟨.move, [.tmp 3], (some 47), none⟩,
 ⟨(.callF 13), [.tmp 47, .const (.func (.func 14) [] [])], (some 48), none⟩])
 (.seq (.seqR [⟨.move, [.const (.int .i64 0)], (some 6), none⟩,
 ⟨.move, [.const (.int .i64 0)], (some 7), none⟩])
 (.seq (.seq (.seqR [⟨.move, [.tmp 3], (some 49), none⟩,
 ⟨.lenS, [.tmp 49], (some 50), none⟩,
 ⟨.move, [.const (.int .i64 0)], (some 51), none⟩])
 (.block 2 (.loop (.seq (.seqR [⟨(.bin .lss), [.tmp 51, .tmp 50], (some 52), none⟩])
 (.seq (.cond (.tmp 52) .skip
 (.exit 2))
 (.seq (.block 3 (.seq (.seqR [⟨(.indexAddrS 2), [.tmp 49, .tmp 51], (some 53), none⟩,
 ⟨(.load true 2), [.tmp 53], (some 54), none⟩,
 ⟨(.new [(.int .i64 0), (.bool false)]), [], (some 9), none⟩,
 ⟨(.store 2), [.tmp 9, .tmp 54], none, none⟩])
 (.seq (.seq (.seqR [⟨(.fieldAddr 1), [.tmp 9], (some 55), none⟩,
 ⟨(.load false 1), [.tmp 55], (some 56), none⟩])
 (.cond (.tmp 56) (.seq (.seqR [⟨.move, [.tmp 6], (some 57), none⟩,
 ⟨(.bin .sub), [.tmp 57, .const (.int .i64 1)], (some 58), none⟩,
 ⟨.move, [.tmp 58], (some 6), none⟩])
 (.exit 3))
 .skip))
 (.seq (.seqR [⟨.move, [.tmp 6], (some 59), none⟩,
 ⟨(.bin .add), [.tmp 59, .const (.int .i64 1)], (some 60), none⟩,
 ⟨.move, [.tmp 60], (some 6), none⟩])
 (.seqR [⟨.move, [.tmp 7], (some 61), none⟩,
 ⟨.move, [.tmp 6], (some 62), none⟩,
 ⟨(.minmax true), [.tmp 61, .tmp 62], (some 63), none⟩,
 ⟨.move, [.tmp 63], (some 7), none⟩])))))
 (.seqR [⟨(.bin .add), [.tmp 51, .const (.int .i64 1)], (some 64), none⟩,
 ⟨.move, [.tmp 64], (some 51), none⟩])))))))
 (.seq (.seqR [⟨.move, [.tmp 7], (some 65), none⟩,
 ⟨.move, [.tmp 65], (some 2), none⟩])
 .ret))))))), [.tmp 2]⟩
theorem c8_ok : compFunc Try.prog Try.f8 = some c8 := by kernel_rfl
theorem c8_body : hasBody Try.prog 8 = true := hasBody_of Try.func8 (by kernel_rfl)
/-- coachyard/coachyardref15.Most -/
def c9 : PFn := ⟨48, Tr.ofList (List.replicate 48 undefA), (.seq (.seqR [⟨.move, [.const (.int .i64 0)], (some 2), none⟩])
 (.seq (.seqR [⟨.move, [.const (.int .i64 0)], (some 3), none⟩])
 (.seq (.seq (.seqR [⟨.move, [.const (.int .i64 0)], (some 4), none⟩])
 (.block 0 (.loop (.seq (.seq (.seqR [⟨.move, [.tmp 4], (some 7), none⟩,
 ⟨.move, [.tmp 0], (some 8), none⟩,
 ⟨.lenS, [.tmp 8], (some 9), none⟩,
 ⟨(.bin .lss), [.tmp 7, .tmp 9], (some 10), none⟩])
 (.cond (.tmp 10) .skip
 (.exit 0)))
 (.seq (.block 1 (.seq (.seqR [⟨.move, [.const (.int .i64 0)], (some 5), none⟩])
 (.seq (.seq (.seqR [⟨.move, [.const (.int .i64 0)], (some 6), none⟩])
 (.block 2 (.loop (.seq (.seq (.drawR [⟨⟨.move, [.tmp 6], (some 13), none⟩, false, false, 0, 0⟩,
 ⟨⟨.move, [.tmp 0], (some 14), none⟩, false, false, 0, 0⟩,
 ⟨⟨.lenS, [.tmp 14], (some 15), none⟩, false, false, 0, 0⟩,
 ⟨⟨(.bin .lss), [.tmp 13, .tmp 15], (some 16), none⟩, false, false, 0, 0⟩,
 ⟨⟨.move, [.tmp 16], (some 17), none⟩, false, false, 0, 0⟩,
 ⟨⟨.move, [.tmp 0], (some 18), some (17, true)⟩, false, false, 0, 0⟩,
 ⟨⟨.move, [.tmp 4], (some 19), some (17, true)⟩, false, false, 0, 0⟩,
 ⟨⟨(.indexAddrS 10), [.tmp 18, .tmp 19], (some 20), some (17, true)⟩, false, false, 0, 0⟩,
 ⟨⟨(.load true 10), [.tmp 20], (some 21), some (17, true)⟩, false, false, 0, 0⟩,
 ⟨⟨.move, [.tmp 0], (some 22), some (17, true)⟩, false, false, 0, 0⟩,
 ⟨⟨.move, [.tmp 4], (some 23), some (17, true)⟩, false, false, 0, 0⟩,
 ⟨⟨(.indexAddrS 10), [.tmp 22, .tmp 23], (some 24), some (17, true)⟩, false, false, 0, 0⟩,
 ⟨⟨(.fieldAddr 2), [.tmp 24], (some 25), some (17, true)⟩, false, false, 0, 0⟩,
 ⟨⟨(.load false 1), [.tmp 25], (some 26), some (17, true)⟩, false, false, 0, 0⟩,
 ⟨⟨(.callF 16), [.tmp 21, .tmp 26], (some 27), some (17, true)⟩, true, false, 0, 1⟩,
 ⟨⟨.pick, [.tmp 17, .tmp 27, .const (.bool false)], (some 28), none⟩, false, false, 1, 1⟩])
 (.cond (.tmp 28) .skip
 (.exit 2)))
 (.seq (.block 3 (.seq (.drawR [⟨⟨.move, [.tmp 0], (some 31), none⟩, false, false, 0, 0⟩,
 ⟨⟨.move, [.tmp 6], (some 32), none⟩, false, false, 0, 0⟩,
 ⟨⟨(.indexAddrS 10), [.tmp 31, .tmp 32], (some 33), none⟩, false, false, 0, 0⟩,
 ⟨⟨(.load true 10), [.tmp 33], (some 34), none⟩, false, false, 0, 0⟩,
 ⟨⟨.move, [.tmp 0], (some 35), none⟩, false, false, 0, 0⟩,
 ⟨⟨.move, [.tmp 4], (some 36), none⟩, false, false, 0, 0⟩,
 ⟨⟨(.indexAddrS 10), [.tmp 35, .tmp 36], (some 37), none⟩, false, false, 0, 0⟩,
 ⟨⟨(.fieldAddr 2), [.tmp 37], (some 38), none⟩, false, false, 0, 0⟩,
 ⟨⟨(.load false 1), [.tmp 38], (some 39), none⟩, false, false, 0, 0⟩,
 ⟨⟨(.callF 16), [.tmp 34, .tmp 39], (some 40), none⟩, true, false, 0, 1⟩])
 (.cond (.tmp 40) (.seqR [⟨.move, [.tmp 5], (some 41), none⟩,
 ⟨(.bin .add), [.tmp 41, .const (.int .i64 1)], (some 42), none⟩,
 ⟨.move, [.tmp 42], (some 5), none⟩])
 .skip)))
 (.seqR [⟨.move, [.tmp 6], (some 29), none⟩,
 ⟨(.bin .add), [.tmp 29, .const (.int .i64 1)], (some 30), none⟩,
 ⟨.move, [.tmp 30], (some 6), none⟩]))))))
 (.seq (.seqR [⟨.move, [.tmp 5], (some 43), none⟩,
 ⟨.move, [.tmp 3], (some 44), none⟩,
 ⟨(.bin .gtr), [.tmp 43, .tmp 44], (some 45), none⟩])
 (.cond (.tmp 45) (.seqR [⟨.move, [.tmp 5], (some 46), none⟩,
 ⟨.move, [.tmp 46], (some 3), none⟩])
 .skip)))))
 (.seqR [⟨.move, [.tmp 4], (some 11), none⟩,
 ⟨(.bin .add), [.tmp 11, .const (.int .i64 1)], (some 12), none⟩,
 ⟨.move, [.tmp 12], (some 4), none⟩]))))))
 (.seq (.seqR [⟨.move, [.tmp 3], (some 47), none⟩,
 ⟨.move, [.tmp 47], (some 2), none⟩])
 .ret)))), [.tmp 2]⟩
theorem c9_ok : compFunc Try.prog Try.f9 = some c9 := by kernel_rfl
theorem c9_body : hasBody Try.prog 9 = true := hasBody_of Try.func9 (by kernel_rfl)
/-- coachyard/coachyardref15.SameSpans -/
def c10 : PFn := ⟨95, Tr.ofList (List.replicate 95 undefA), (.seq (.seqR [⟨.move, [.const (.bool false)], (some 4), none⟩])
 (.seq (.seq (.seqR [⟨.move, [.tmp 0], (some 6), none⟩,
 ⟨.lenS, [.tmp 6], (some 7), none⟩,
 ⟨.move, [.tmp 1], (some 8), none⟩,
 ⟨.lenS, [.tmp 8], (some 9), none⟩,
 ⟨(.bin .neq), [.tmp 7, .tmp 9], (some 10), none⟩])
 (.cond (.tmp 10) (.seq (.seqR [⟨.move, [.const (.bool false)], (some 4), none⟩])
 .ret)
 .skip))
 (.seq (.seq (.seqR [⟨.move, [.const (.int .i64 0)], (some 5), none⟩])
 (.block 0 (.loop (.seq (.seq (.seqR [⟨.move, [.tmp 5], (some 11), none⟩,
 ⟨.move, [.tmp 0], (some 12), none⟩,
 ⟨.lenS, [.tmp 12], (some 13), none⟩,
 ⟨(.bin .lss), [.tmp 11, .tmp 13], (some 14), none⟩])
 (.cond (.tmp 14) .skip
 (.exit 0)))
 (.seq (.block 1 (.seq (.drawR [⟨⟨.move, [.tmp 0], (some 17), none⟩, false, false, 0, 0⟩,
 ⟨⟨.move, [.tmp 5], (some 18), none⟩, false, false, 0, 0⟩,
 ⟨⟨(.indexAddrS 10), [.tmp 17, .tmp 18], (some 19), none⟩, false, false, 0, 0⟩,
 ⟨⟨(.fieldAddr 0), [.tmp 19], (some 20), none⟩, false, false, 0, 0⟩,
 ⟨⟨(.load false 1), [.tmp 20], (some 21), none⟩, false, false, 0, 0⟩,
 ⟨⟨.move, [.tmp 1], (some 22), none⟩, false, false, 0, 0⟩,
 ⟨⟨.move, [.tmp 5], (some 23), none⟩, false, false, 0, 0⟩,
 ⟨⟨(.indexAddrS 10), [.tmp 22, .tmp 23], (some 24), none⟩, false, false, 0, 0⟩,
 ⟨⟨(.fieldAddr 0), [.tmp 24], (some 25), none⟩, false, false, 0, 0⟩,
 ⟨⟨(.load false 1), [.tmp 25], (some 26), none⟩, false, false, 0, 0⟩,
 ⟨⟨(.bin .neq), [.tmp 21, .tmp 26], (some 27), none⟩, false, false, 0, 0⟩,
 ⟨⟨.move, [.tmp 27], (some 28), none⟩, false, false, 0, 0⟩,
 ⟨⟨.move, [.tmp 0], (some 29), some (28, false)⟩, false, false, 0, 0⟩,
 ⟨⟨.move, [.tmp 5], (some 30), some (28, false)⟩, false, false, 0, 0⟩,
 ⟨⟨(.indexAddrS 10), [.tmp 29, .tmp 30], (some 31), some (28, false)⟩, false, false, 0, 0⟩,
 ⟨⟨(.fieldAddr 1), [.tmp 31], (some 32), some (28, false)⟩, false, false, 0, 0⟩,
 ⟨⟨(.load false 1), [.tmp 32], (some 33), some (28, false)⟩, false, false, 0, 0⟩,
 ⟨⟨.move, [.tmp 1], (some 34), some (28, false)⟩, false, false, 0, 0⟩,
 ⟨⟨.move, [.tmp 5], (some 35), some (28, false)⟩, false, false, 0, 0⟩,
 ⟨⟨(.indexAddrS 10), [.tmp 34, .tmp 35], (some 36), some (28, false)⟩, false, false, 0, 0⟩,
 ⟨⟨(.fieldAddr 1), [.tmp 36], (some 37), some (28, false)⟩, false, false, 0, 0⟩,
 ⟨⟨(.load false 1), [.tmp 37], (some 38), some (28, false)⟩, false, false, 0, 0⟩,
 ⟨⟨(.bin .neq), [.tmp 33, .tmp 38], (some 39), some (28, false)⟩, false, false, 0, 0⟩,
 ⟨⟨.pick, [.tmp 28, .const (.bool true), .tmp 39], (some 40), none⟩, false, false, 0, 0⟩,
 ⟨⟨.move, [.tmp 40], (some 41), none⟩, false, false, 0, 0⟩,
 ⟨⟨.move, [.tmp 0], (some 42), some (41, false)⟩, false, false, 0, 0⟩,
 ⟨⟨.move, [.tmp 5], (some 43), some (41, false)⟩, false, false, 0, 0⟩,
 ⟨⟨(.indexAddrS 10), [.tmp 42, .tmp 43], (some 44), some (41, false)⟩, false, false, 0, 0⟩,
 ⟨⟨(.fieldAddr 2), [.tmp 44], (some 45), some (41, false)⟩, false, false, 0, 0⟩,
 ⟨⟨(.load false 1), [.tmp 45], (some 46), some (41, false)⟩, false, false, 0, 0⟩,
 ⟨⟨.move, [.tmp 1], (some 47), some (41, false)⟩, false, false, 0, 0⟩,
 ⟨⟨.move, [.tmp 5], (some 48), some (41, false)⟩, false, false, 0, 0⟩,
 ⟨⟨(.indexAddrS 10), [.tmp 47, .tmp 48], (some 49), some (41, false)⟩, false, false, 0, 0⟩,
 ⟨⟨(.fieldAddr 2), [.tmp 49], (some 50), some (41, false)⟩, false, false, 0, 0⟩,
 ⟨⟨(.load false 1), [.tmp 50], (some 51), some (41, false)⟩, false, false, 0, 0⟩,
 ⟨⟨(.bin .neq), [.tmp 46, .tmp 51], (some 52), some (41, false)⟩, false, false, 0, 0⟩,
 ⟨⟨.pick, [.tmp 41, .const (.bool true), .tmp 52], (some 53), none⟩, false, false, 0, 0⟩,
 ⟨⟨.move, [.tmp 53], (some 54), none⟩, false, false, 0, 0⟩,
 ⟨⟨.move, [.tmp 0], (some 55), some (54, false)⟩, false, false, 0, 0⟩,
 ⟨⟨.move, [.tmp 5], (some 56), some (54, false)⟩, false, false, 0, 0⟩,
 ⟨⟨(.indexAddrS 10), [.tmp 55, .tmp 56], (some 57), some (54, false)⟩, false, false, 0, 0⟩,
 ⟨⟨(.fieldAddr 3), [.tmp 57], (some 58), some (54, false)⟩, false, false, 0, 0⟩,
 ⟨⟨(.load false 1), [.tmp 58], (some 59), some (54, false)⟩, false, false, 0, 0⟩,
 ⟨⟨.move, [.tmp 1], (some 60), some (54, false)⟩, false, false, 0, 0⟩,
 ⟨⟨.move, [.tmp 5], (some 61), some (54, false)⟩, false, false, 0, 0⟩,
 ⟨⟨(.indexAddrS 10), [.tmp 60, .tmp 61], (some 62), some (54, false)⟩, false, false, 0, 0⟩,
 ⟨⟨(.fieldAddr 3), [.tmp 62], (some 63), some (54, false)⟩, false, false, 0, 0⟩,
 ⟨⟨(.load false 1), [.tmp 63], (some 64), some (54, false)⟩, false, false, 0, 0⟩,
 ⟨⟨(.bin .neq), [.tmp 59, .tmp 64], (some 65), some (54, false)⟩, false, false, 0, 0⟩,
 ⟨⟨.pick, [.tmp 54, .const (.bool true), .tmp 65], (some 66), none⟩, false, false, 0, 0⟩,
 ⟨⟨.move, [.tmp 66], (some 67), none⟩, false, false, 0, 0⟩,
 ⟨⟨.move, [.tmp 0], (some 68), some (67, false)⟩, false, false, 0, 0⟩,
 ⟨⟨.move, [.tmp 5], (some 69), some (67, false)⟩, false, false, 0, 0⟩,
 ⟨⟨(.indexAddrS 10), [.tmp 68, .tmp 69], (some 70), some (67, false)⟩, false, false, 0, 0⟩,
 ⟨⟨(.fieldAddr 4), [.tmp 70], (some 71), some (67, false)⟩, false, false, 0, 0⟩,
 ⟨⟨(.load true 3), [.tmp 71], (some 72), some (67, false)⟩, false, false, 0, 0⟩,
 ⟨⟨.move, [.tmp 1], (some 73), some (67, false)⟩, false, false, 0, 0⟩,
 ⟨⟨.move, [.tmp 5], (some 74), some (67, false)⟩, false, false, 0, 0⟩,
 ⟨⟨(.indexAddrS 10), [.tmp 73, .tmp 74], (some 75), some (67, false)⟩, false, false, 0, 0⟩,
 ⟨⟨(.fieldAddr 4), [.tmp 75], (some 76), some (67, false)⟩, false, false, 0, 0⟩,
 ⟨⟨(.load true 3), [.tmp 76], (some 77), some (67, false)⟩, false, false, 0, 0⟩,
 ⟨⟨(.callF 17), [.tmp 72, .tmp 77], (some 78), some (67, false)⟩, true, false, 0, 1⟩,
 ⟨⟨.not, [.tmp 78], (some 79), some (67, false)⟩, false, false, 1, 1⟩,
 ⟨⟨.pick, [.tmp 67, .const (.bool true), .tmp 79], (some 80), none⟩, false, false, 1, 1⟩,
 ⟨⟨.move, [.tmp 80], (some 81), none⟩, false, false, 1, 1⟩,
 ⟨⟨.move, [.tmp 0], (some 82), some (81, false)⟩, false, false, 1, 1⟩,
 ⟨⟨.move, [.tmp 5], (some 83), some (81, false)⟩, false, false, 1, 1⟩,
 ⟨⟨(.indexAddrS 10), [.tmp 82, .tmp 83], (some 84), some (81, false)⟩, false, false, 1, 1⟩,
 ⟨⟨(.fieldAddr 7), [.tmp 84], (some 85), some (81, false)⟩, false, false, 1, 1⟩,
 ⟨⟨(.load true 3), [.tmp 85], (some 86), some (81, false)⟩, false, false, 1, 1⟩,
 ⟨⟨.move, [.tmp 1], (some 87), some (81, false)⟩, false, false, 1, 1⟩,
 ⟨⟨.move, [.tmp 5], (some 88), some (81, false)⟩, false, false, 1, 1⟩,
 ⟨⟨(.indexAddrS 10), [.tmp 87, .tmp 88], (some 89), some (81, false)⟩, false, false, 1, 1⟩,
 ⟨⟨(.fieldAddr 7), [.tmp 89], (some 90), some (81, false)⟩, false, false, 1, 1⟩,
 ⟨⟨(.load true 3), [.tmp 90], (some 91), some (81, false)⟩, false, false, 1, 1⟩,
 ⟨⟨(.callF 18), [.tmp 86, .tmp 91], (some 92), some (81, false)⟩, true, false, 1, 2⟩,
 ⟨⟨.not, [.tmp 92], (some 93), some (81, false)⟩, false, false, 2, 2⟩,
 ⟨⟨.pick, [.tmp 81, .const (.bool true), .tmp 93], (some 94), none⟩, false, false, 2, 2⟩])
 (.cond (.tmp 94) (.seq (.seqR [⟨.move, [.const (.bool false)], (some 4), none⟩])
 .ret)
 .skip)))
 (.seqR [⟨.move, [.tmp 5], (some 15), none⟩,
 ⟨(.bin .add), [.tmp 15, .const (.int .i64 1)], (some 16), none⟩,
 ⟨.move, [.tmp 16], (some 5), none⟩]))))))
 (.seq (.seqR [⟨.move, [.const (.bool true)], (some 4), none⟩])
 .ret)))), [.tmp 4]⟩
theorem c10_ok : compFunc Try.prog Try.f10 = some c10 := by kernel_rfl
theorem c10_body : hasBody Try.prog 10 = true := hasBody_of Try.func10 (by kernel_rfl)
/-- coachyard/diary.Of -/
def c11 : PFn := ⟨25, Tr.ofList (List.replicate 25 undefA), (.seq (.seqR [⟨.move, [.const (.slice none 0 0 false)], (some 4), none⟩])
 (.seq (.seqR [⟨.move, [.const (.slice none 0 0 false)], (some 5), none⟩])
 (.seq (.seq (.seqR [⟨.move, [.tmp 0], (some 8), none⟩,
 ⟨.lenS, [.tmp 8], (some 9), none⟩,
 ⟨.move, [.const (.int .i64 0)], (some 10), none⟩])
 (.block 0 (.loop (.seq (.seqR [⟨(.bin .lss), [.tmp 10, .tmp 9], (some 11), none⟩])
 (.seq (.cond (.tmp 11) .skip
 (.exit 0))
 (.seq (.block 1 (.seq (.seqR [⟨(.indexAddrS 10), [.tmp 8, .tmp 10], (some 12), none⟩,
 ⟨(.load true 10), [.tmp 12], (some 13), none⟩,
 ⟨(.new [(.int .i64 0), (.int .i64 0), (.int .i64 0), (.int .i64 0), (.int .i64 0), (.int .u64 0), (.slice none 0 0 false), (.int .i64 0), (.int .u64 0), (.slice none 0 0 false)]), [], (some 7), none⟩,
 ⟨(.store 10), [.tmp 7, .tmp 13], none, none⟩])
 (.seq (.seqR [⟨(.fieldAddr 0), [.tmp 7], (some 14), none⟩,
 ⟨(.load false 1), [.tmp 14], (some 15), none⟩,
 ⟨.move, [.tmp 1], (some 16), none⟩,
 ⟨(.bin .eql), [.tmp 15, .tmp 16], (some 17), none⟩])
 (.cond (.tmp 17) (.seqR [⟨.move, [.tmp 5], (some 18), none⟩,
 ⟨(.load true 10), [.tmp 7], (some 19), none⟩,
 ⟨(.callF 19), [.tmp 19], (some 20), none⟩,
 ⟨(.sliceLit 1 [(.int .i64 0), (.int .i64 0), (.int .i64 0), (.int .i64 0), (.int .i64 0), (.int .u64 0), (.slice none 0 0 false), (.int .i64 0), (.int .u64 0), (.slice none 0 0 false)] [(0, 10)]), [.tmp 20], (some 21), none⟩,
 ⟨(.append 10 112), [.tmp 18, .tmp 21], (some 22), none⟩,
 ⟨.move, [.tmp 22], (some 5), none⟩])
 .skip))))
 (.seqR [⟨(.bin .add), [.tmp 10, .const (.int .i64 1)], (some 23), none⟩,
 ⟨.move, [.tmp 23], (some 10), none⟩])))))))
 (.seq (.seqR [⟨.move, [.tmp 5], (some 24), none⟩,
 ⟨.move, [.tmp 24], (some 4), none⟩])
 .ret)))), [.tmp 4]⟩
theorem c11_ok : compFunc Try.prog Try.f11 = some c11 := by kernel_rfl
theorem c11_body : hasBody Try.prog 11 = true := hasBody_of Try.func11 (by kernel_rfl)
/-- coachyard/diary.Spans -/
def c12 : PFn := ⟨36, Tr.ofList (List.replicate 36 undefA), (.seq (.seqR [⟨.move, [.const (.slice none 0 0 false)], (some 2), none⟩,
 ⟨.move, [.const (.int .i64 0)], (some 3), none⟩])
 (.seq (.seqR [⟨(.build [(.int .i64 0), (.int .i64 0), (.int .i64 0), (.int .i64 0), (.int .i64 0), (.int .i64 0), (.int .i64 0), (.int .i64 0), (.int .i64 0), (.int .i64 0), (.int .i64 0), (.int .i64 0), (.int .i64 0), (.int .i64 0), (.int .i64 0), (.int .i64 0), (.int .i64 0), (.int .i64 0), (.int .i64 0), (.int .i64 0), (.int .i64 0), (.int .i64 0), (.int .i64 0), (.int .i64 0), (.int .i64 0), (.int .i64 0), (.int .i64 0), (.int .i64 0), (.int .i64 0), (.int .i64 0), (.int .i64 0), (.int .i64 0), (.int .i64 0), (.slice none 0 0 false)] []), [], (some 8), none⟩,
 ⟨.box, [.tmp 8], (some 9), none⟩,
 ⟨.move, [.tmp 9], (some 4), none⟩])
 (.seq (.seq (.seqR [⟨.move, [.const (.int .i64 0)], (some 10), none⟩])
 (.block 0 (.loop (.seq (.seqR [⟨(.bin .lss), [.tmp 10, .const (.int .i64 16)], (some 11), none⟩])
 (.seq (.cond (.tmp 11) .skip
 (.exit 0))
 (.seq (.block 1 (.seq (.seqR [⟨.move, [.tmp 10], (some 12), none⟩,
 ⟨.move, [.tmp 12], (some 5), none⟩])
 (.seqR [⟨.move, [.tmp 4], (some 13), none⟩,
 ⟨.move, [.tmp 5], (some 14), none⟩,
 ⟨.nilCheck, [.tmp 13], (some 15), none⟩,
 ⟨(.fieldAddr 17), [.tmp 15], (some 16), none⟩,
 ⟨(.indexAddrA 16 1), [.tmp 16, .tmp 14], (some 17), none⟩,
 ⟨(.store 1), [.tmp 17, .const (.int .i64 (-1))], none, none⟩])))
 (.seqR [⟨(.bin .add), [.tmp 10, .const (.int .i64 1)], (some 18), none⟩,
 ⟨.move, [.tmp 18], (some 10), none⟩])))))))
 (.seq (.seq (.seqR [⟨.move, [.tmp 0], (some 19), none⟩,
 ⟨.lenS, [.tmp 19], (some 20), none⟩,
 ⟨.move, [.const (.int .i64 0)], (some 21), none⟩])
 (.block 2 (.loop (.seq (.seqR [⟨(.bin .lss), [.tmp 21, .tmp 20], (some 22), none⟩])
 (.seq (.cond (.tmp 22) .skip
 (.exit 2))
 (.seq (.block 3 (.seq (.seqR [⟨.move, [.tmp 21], (some 23), none⟩,
 ⟨(.indexAddrS 10), [.tmp 19, .tmp 21], (some 24), none⟩,
 ⟨(.load true 10), [.tmp 24], (some 25), none⟩,
 ⟨(.new [(.int .i64 0), (.int .i64 0), (.int .i64 0), (.bool false), (.int .i64 0), (.int .u64 0), (.slice none 0 0 false), (.int .i64 0), (.int .u64 0), (.slice none 0 0 false)]), [], (some 7), none⟩,
 ⟨.move, [.tmp 23], (some 6), none⟩,
 ⟨(.store 10), [.tmp 7, .tmp 25], none, none⟩])
 (.seq (.seqR [⟨.move, [.tmp 4], (some 26), none⟩,
 ⟨.move, [.tmp 6], (some 27), none⟩,
 ⟨(.load true 10), [.tmp 7], (some 28), none⟩,
 ⟨(.callF 20), [.tmp 26, .tmp 27, .tmp 28], (some 29), none⟩,
 ⟨.not, [.tmp 29], (some 30), none⟩])
 (.cond (.tmp 30) (.seq (.seqR [⟨.move, [.const (.slice none 0 0 false)], (some 2), none⟩,
 ⟨.move, [.const (.int .i64 13)], (some 3), none⟩])
 .ret)
 .skip))))
 (.seqR [⟨(.bin .add), [.tmp 21, .const (.int .i64 1)], (some 31), none⟩,
 ⟨.move, [.tmp 31], (some 21), none⟩])))))))
 (.seq (.seqR [⟨.move, [.tmp 4], (some 32), none⟩,
 ⟨.nilCheck, [.tmp 32], (some 33), none⟩,
 ⟨(.fieldAddr 33), [.tmp 33], (some 34), none⟩,
 ⟨(.load false 1), [.tmp 34], (some 35), none⟩,
 ⟨.move, [.tmp 35], (some 2), none⟩,
 ⟨.move, [.const (.int .i64 0)], (some 3), none⟩])
 .ret))))), [.tmp 2, .tmp 3]⟩
theorem c12_ok : compFunc Try.prog Try.f12 = some c12 := by kernel_rfl
theorem c12_body : hasBody Try.prog 12 = true := hasBody_of Try.func12 (by kernel_rfl)
/-- slices.SortFunc[[]coachyard/diary.edge,coachyard/diary.edge] -/
def c13 : PFn := ⟨14, Tr.ofList (List.replicate 14 undefA), (.seq (.seqR [⟨.move, [.tmp 0], (some 5), none⟩,
 ⟨.lenS, [.tmp 5], (some 6), none⟩,
 ⟨.move, [.tmp 6], (some 4), none⟩])
 (.seqR [⟨.move, [.tmp 0], (some 7), none⟩,
 ⟨.move, [.tmp 4], (some 8), none⟩,
 ⟨.move, [.tmp 4], (some 9), none⟩,
 ⟨(.conv .u64), [.tmp 9], (some 10), none⟩,
 ⟨(.callF 22), [.tmp 10], (some 11), none⟩,
 ⟨.move, [.tmp 1], (some 12), none⟩,
 ⟨(.callF 21), [.tmp 7, .const (.int .i64 0), .tmp 8, .tmp 11, .tmp 12], (some 13), none⟩])), []⟩
theorem c13_ok : compFunc Try.prog Try.f13 = some c13 := by kernel_rfl
theorem c13_body : hasBody Try.prog 13 = true := hasBody_of Try.func13 (by kernel_rfl)
/-- coachyard/diary.Most$1 -/
def c14 : PFn := ⟨24, Tr.ofList (List.replicate 24 undefA), (.seq (.seqR [⟨.box, [.tmp 0], (some 2), none⟩,
 ⟨.box, [.tmp 1], (some 3), none⟩,
 ⟨.move, [.const (.int .i64 0)], (some 4), none⟩])
 (.seq (.seq (.seqR [⟨(.fieldAddr 0), [.tmp 2], (some 5), none⟩,
 ⟨(.load false 1), [.tmp 5], (some 6), none⟩,
 ⟨(.fieldAddr 0), [.tmp 3], (some 7), none⟩,
 ⟨(.load false 1), [.tmp 7], (some 8), none⟩,
 ⟨(.bin .neq), [.tmp 6, .tmp 8], (some 9), none⟩])
 (.cond (.tmp 9) (.seq (.seqR [⟨(.fieldAddr 0), [.tmp 2], (some 10), none⟩,
 ⟨(.load false 1), [.tmp 10], (some 11), none⟩,
 ⟨(.fieldAddr 0), [.tmp 3], (some 12), none⟩,
 ⟨(.load false 1), [.tmp 12], (some 13), none⟩,
 ⟨(.callF 15), [.tmp 11, .tmp 13], (some 14), none⟩,
 ⟨.move, [.tmp 14], (some 4), none⟩])
 .ret)
 .skip))
 (.seq (.block 0 (.seq (.seqR [⟨(.fieldAddr 1), [.tmp 2], (some 16), none⟩,
 ⟨(.load false 1), [.tmp 16], (some 17), none⟩,
 ⟨(.fieldAddr 1), [.tmp 3], (some 18), none⟩,
 ⟨(.load false 1), [.tmp 18], (some 19), none⟩,
 ⟨(.eqBool false), [.tmp 17, .tmp 19], (some 20), none⟩,
 ⟨.move, [.tmp 20], (some 15), none⟩])
 (.cond (.tmp 15) (.seq (.seqR [⟨.move, [.const (.int .i64 0)], (some 4), none⟩])
 .ret)
 (.seq (.seqR [⟨(.fieldAddr 1), [.tmp 2], (some 22), none⟩,
 ⟨(.load false 1), [.tmp 22], (some 23), none⟩,
 ⟨.move, [.tmp 23], (some 21), none⟩])
 (.cond (.tmp 21) (.seq (.seqR [⟨.move, [.const (.int .i64 1)], (some 4), none⟩])
 .ret)
 .skip)))))
 (.seq (.seqR [⟨.move, [.const (.int .i64 (-1))], (some 4), none⟩])
 .ret)))), [.tmp 4]⟩
theorem c14_ok : compFunc Try.prog Try.f14 = some c14 := by kernel_rfl
theorem c14_body : hasBody Try.prog 14 = true := hasBody_of Try.func14 (by kernel_rfl)
/-- cmp.Compare[int] -/
def c15 : PFn := ⟨20, Tr.ofList (List.replicate 20 undefA), (.seq (.seqR [⟨.move, [.const (.int .i64 0)], (some 4), none⟩])
 (.seq (.seqR [⟨.move, [.tmp 0], (some 7), none⟩,
 ⟨(.callF 23), [.tmp 7], (some 8), none⟩,
 ⟨.move, [.tmp 8], (some 5), none⟩])
 (.seq (.seqR [⟨.move, [.tmp 1], (some 9), none⟩,
 ⟨(.callF 23), [.tmp 9], (some 10), none⟩,
 ⟨.move, [.tmp 10], (some 6), none⟩])
 (.seq (.seq (.seqR [⟨.move, [.tmp 5], (some 11), none⟩])
 (.cond (.tmp 11) (.seq (.seq (.seqR [⟨.move, [.tmp 6], (some 12), none⟩])
 (.cond (.tmp 12) (.seq (.seqR [⟨.move, [.const (.int .i64 0)], (some 4), none⟩])
 .ret)
 .skip))
 (.seq (.seqR [⟨.move, [.const (.int .i64 (-1))], (some 4), none⟩])
 .ret))
 .skip))
 (.seq (.seq (.seqR [⟨.move, [.tmp 6], (some 13), none⟩])
 (.cond (.tmp 13) (.seq (.seqR [⟨.move, [.const (.int .i64 1)], (some 4), none⟩])
 .ret)
 .skip))
 (.seq (.seq (.seqR [⟨.move, [.tmp 0], (some 14), none⟩,
 ⟨.move, [.tmp 1], (some 15), none⟩,
 ⟨(.bin .lss), [.tmp 14, .tmp 15], (some 16), none⟩])
 (.cond (.tmp 16) (.seq (.seqR [⟨.move, [.const (.int .i64 (-1))], (some 4), none⟩])
 .ret)
 .skip))
 (.seq (.seq (.seqR [⟨.move, [.tmp 0], (some 17), none⟩,
 ⟨.move, [.tmp 1], (some 18), none⟩,
 ⟨(.bin .gtr), [.tmp 17, .tmp 18], (some 19), none⟩])
 (.cond (.tmp 19) (.seq (.seqR [⟨.move, [.const (.int .i64 1)], (some 4), none⟩])
 .ret)
 .skip))
 (.seq (.seqR [⟨.move, [.const (.int .i64 0)], (some 4), none⟩])
 .ret)))))))), [.tmp 4]⟩
theorem c15_ok : compFunc Try.prog Try.f15 = some c15 := by kernel_rfl
theorem c15_body : hasBody Try.prog 15 = true := hasBody_of Try.func15 (by kernel_rfl)
/-- coachyard/coachyardref15.has -/
def c16 : PFn := ⟨25, Tr.ofList (List.replicate 25 undefA), (.seq (.seqR [⟨.box, [.tmp 0], (some 2), none⟩,
 ⟨.move, [.const (.bool false)], (some 4), none⟩])
 (.seq (.seqR [⟨(.fieldAddr 2), [.tmp 2], (some 5), none⟩,
 ⟨(.load false 1), [.tmp 5], (some 6), none⟩,
 ⟨(.bin .geq), [.tmp 6, .const (.int .i64 0)], (some 7), none⟩,
 ⟨.move, [.tmp 7], (some 8), none⟩,
 ⟨(.fieldAddr 2), [.tmp 2], (some 9), some (8, true)⟩,
 ⟨(.load false 1), [.tmp 9], (some 10), some (8, true)⟩,
 ⟨.move, [.tmp 1], (some 11), some (8, true)⟩,
 ⟨(.bin .leq), [.tmp 10, .tmp 11], (some 12), some (8, true)⟩,
 ⟨.pick, [.tmp 8, .tmp 12, .const (.bool false)], (some 13), none⟩,
 ⟨.move, [.tmp 13], (some 14), none⟩,
 ⟨(.fieldAddr 3), [.tmp 2], (some 15), some (14, true)⟩,
 ⟨(.load false 1), [.tmp 15], (some 16), some (14, true)⟩,
 ⟨(.bin .lss), [.tmp 16, .const (.int .i64 0)], (some 17), some (14, true)⟩,
 ⟨.move, [.tmp 17], (some 18), some (14, true)⟩,
 ⟨.move, [.tmp 1], (some 19), some (18, false)⟩,
 ⟨(.fieldAddr 3), [.tmp 2], (some 20), some (18, false)⟩,
 ⟨(.load false 1), [.tmp 20], (some 21), some (18, false)⟩,
 ⟨(.bin .leq), [.tmp 19, .tmp 21], (some 22), some (18, false)⟩,
 ⟨.pick, [.tmp 18, .const (.bool true), .tmp 22], (some 23), some (14, true)⟩,
 ⟨.pick, [.tmp 14, .tmp 23, .const (.bool false)], (some 24), none⟩,
 ⟨.move, [.tmp 24], (some 4), none⟩])
 .ret)), [.tmp 4]⟩
theorem c16_ok : compFunc Try.prog Try.f16 = some c16 := by kernel_rfl
theorem c16_body : hasBody Try.prog 16 = true := hasBody_of Try.func16 (by kernel_rfl)
/-- coachyard/coachyardref15.SameCall -/
def c17 : PFn := ⟨24, Tr.ofList (List.replicate 24 undefA), (.seq (.seqR [⟨.box, [.tmp 0], (some 2), none⟩,
 ⟨.box, [.tmp 1], (some 3), none⟩,
 ⟨.move, [.const (.bool false)], (some 4), none⟩])
 (.seq (.seqR [⟨(.fieldAddr 0), [.tmp 2], (some 5), none⟩,
 ⟨(.load false 1), [.tmp 5], (some 6), none⟩,
 ⟨(.fieldAddr 0), [.tmp 3], (some 7), none⟩,
 ⟨(.load false 1), [.tmp 7], (some 8), none⟩,
 ⟨(.bin .eql), [.tmp 6, .tmp 8], (some 9), none⟩,
 ⟨.move, [.tmp 9], (some 10), none⟩,
 ⟨(.fieldAddr 1), [.tmp 2], (some 11), some (10, true)⟩,
 ⟨(.load false 1), [.tmp 11], (some 12), some (10, true)⟩,
 ⟨(.fieldAddr 1), [.tmp 3], (some 13), some (10, true)⟩,
 ⟨(.load false 1), [.tmp 13], (some 14), some (10, true)⟩,
 ⟨(.bin .eql), [.tmp 12, .tmp 14], (some 15), some (10, true)⟩,
 ⟨.pick, [.tmp 10, .tmp 15, .const (.bool false)], (some 16), none⟩,
 ⟨.move, [.tmp 16], (some 17), none⟩,
 ⟨(.fieldAddr 2), [.tmp 2], (some 18), some (17, true)⟩,
 ⟨(.load false 1), [.tmp 18], (some 19), some (17, true)⟩,
 ⟨(.fieldAddr 2), [.tmp 3], (some 20), some (17, true)⟩,
 ⟨(.load false 1), [.tmp 20], (some 21), some (17, true)⟩,
 ⟨(.callF 24), [.tmp 19, .tmp 21], (some 22), some (17, true)⟩,
 ⟨.pick, [.tmp 17, .tmp 22, .const (.bool false)], (some 23), none⟩,
 ⟨.move, [.tmp 23], (some 4), none⟩])
 .ret)), [.tmp 4]⟩
theorem c17_ok : compFunc Try.prog Try.f17 = some c17 := by kernel_rfl
theorem c17_body : hasBody Try.prog 17 = true := hasBody_of Try.func17 (by kernel_rfl)
/-- coachyard/coachyardref15.SameResult -/
def c18 : PFn := ⟨24, Tr.ofList (List.replicate 24 undefA), (.seq (.seqR [⟨.box, [.tmp 0], (some 2), none⟩,
 ⟨.box, [.tmp 1], (some 3), none⟩,
 ⟨.move, [.const (.bool false)], (some 4), none⟩])
 (.seq (.seqR [⟨(.fieldAddr 0), [.tmp 2], (some 5), none⟩,
 ⟨(.load false 1), [.tmp 5], (some 6), none⟩,
 ⟨(.fieldAddr 0), [.tmp 3], (some 7), none⟩,
 ⟨(.load false 1), [.tmp 7], (some 8), none⟩,
 ⟨(.bin .eql), [.tmp 6, .tmp 8], (some 9), none⟩,
 ⟨.move, [.tmp 9], (some 10), none⟩,
 ⟨(.fieldAddr 1), [.tmp 2], (some 11), some (10, true)⟩,
 ⟨(.load false 1), [.tmp 11], (some 12), some (10, true)⟩,
 ⟨(.fieldAddr 1), [.tmp 3], (some 13), some (10, true)⟩,
 ⟨(.load false 1), [.tmp 13], (some 14), some (10, true)⟩,
 ⟨(.bin .eql), [.tmp 12, .tmp 14], (some 15), some (10, true)⟩,
 ⟨.pick, [.tmp 10, .tmp 15, .const (.bool false)], (some 16), none⟩,
 ⟨.move, [.tmp 16], (some 17), none⟩,
 ⟨(.fieldAddr 2), [.tmp 2], (some 18), some (17, true)⟩,
 ⟨(.load false 1), [.tmp 18], (some 19), some (17, true)⟩,
 ⟨(.fieldAddr 2), [.tmp 3], (some 20), some (17, true)⟩,
 ⟨(.load false 1), [.tmp 20], (some 21), some (17, true)⟩,
 ⟨(.callF 25), [.tmp 19, .tmp 21], (some 22), some (17, true)⟩,
 ⟨.pick, [.tmp 17, .tmp 22, .const (.bool false)], (some 23), none⟩,
 ⟨.move, [.tmp 23], (some 4), none⟩])
 .ret)), [.tmp 4]⟩
theorem c18_ok : compFunc Try.prog Try.f18 = some c18 := by kernel_rfl
theorem c18_body : hasBody Try.prog 18 = true := hasBody_of Try.func18 (by kernel_rfl)
/-- coachyard/diary.own -/
def c19 : PFn := ⟨16, Tr.ofList (List.replicate 16 undefA), (.seq (.seqR [⟨.box, [.tmp 0], (some 1), none⟩,
 ⟨(.new [(.int .i64 0), (.int .i64 0), (.int .i64 0), (.int .i64 0), (.int .i64 0), (.int .u64 0), (.slice none 0 0 false), (.int .i64 0), (.int .u64 0), (.slice none 0 0 false)]), [], (some 2), none⟩])
 (.seq (.seqR [⟨(.fieldAddr 4), [.tmp 1], (some 3), none⟩,
 ⟨(.fieldAddr 2), [.tmp 3], (some 4), none⟩,
 ⟨(.load false 1), [.tmp 4], (some 5), none⟩,
 ⟨(.callF 26), [.tmp 5], (some 6), none⟩,
 ⟨(.fieldAddr 4), [.tmp 1], (some 7), none⟩,
 ⟨(.fieldAddr 2), [.tmp 7], (some 8), none⟩,
 ⟨(.store 1), [.tmp 8, .tmp 6], none, none⟩])
 (.seq (.seqR [⟨(.fieldAddr 7), [.tmp 1], (some 9), none⟩,
 ⟨(.fieldAddr 2), [.tmp 9], (some 10), none⟩,
 ⟨(.load false 1), [.tmp 10], (some 11), none⟩,
 ⟨(.callF 27), [.tmp 11], (some 12), none⟩,
 ⟨(.fieldAddr 7), [.tmp 1], (some 13), none⟩,
 ⟨(.fieldAddr 2), [.tmp 13], (some 14), none⟩,
 ⟨(.store 1), [.tmp 14, .tmp 12], none, none⟩])
 (.seq (.seqR [⟨(.load true 10), [.tmp 1], (some 15), none⟩,
 ⟨(.store 10), [.tmp 2, .tmp 15], none, none⟩])
 .ret)))), [.cell 2 true 10]⟩
theorem c19_ok : compFunc Try.prog Try.f19 = some c19 := by kernel_rfl
theorem c19_body : hasBody Try.prog 19 = true := hasBody_of Try.func19 (by kernel_rfl)
/-- (*coachyard/diary.reader).take -/
def c20 : PFn := ⟨150, Tr.ofList (List.replicate 150 undefA), (.seq (.seqR [⟨.box, [.tmp 2], (some 5), none⟩,
 ⟨.move, [.const (.bool false)], (some 6), none⟩])
 (.seq (.seq (.drawR [⟨⟨(.fieldAddr 0), [.tmp 5], (some 8), none⟩, false, false, 0, 0⟩,
 ⟨⟨(.load false 1), [.tmp 8], (some 9), none⟩, false, false, 0, 0⟩,
 ⟨⟨.move, [.tmp 0], (some 10), none⟩, false, false, 0, 0⟩,
 ⟨⟨.nilCheck, [.tmp 10], (some 11), none⟩, false, false, 0, 0⟩,
 ⟨⟨(.fieldAddr 0), [.tmp 11], (some 12), none⟩, false, false, 0, 0⟩,
 ⟨⟨(.load false 1), [.tmp 12], (some 13), none⟩, false, false, 0, 0⟩,
 ⟨⟨(.bin .lss), [.tmp 9, .tmp 13], (some 14), none⟩, false, false, 0, 0⟩,
 ⟨⟨.move, [.tmp 14], (some 15), none⟩, false, false, 0, 0⟩,
 ⟨⟨(.fieldAddr 1), [.tmp 5], (some 16), some (15, false)⟩, false, false, 0, 0⟩,
 ⟨⟨(.load false 1), [.tmp 16], (some 17), some (15, false)⟩, false, false, 0, 0⟩,
 ⟨⟨(.bin .lss), [.tmp 17, .const (.int .i64 0)], (some 18), some (15, false)⟩, false, false, 0, 0⟩,
 ⟨⟨.pick, [.tmp 15, .const (.bool true), .tmp 18], (some 19), none⟩, false, false, 0, 0⟩,
 ⟨⟨.move, [.tmp 19], (some 20), none⟩, false, false, 0, 0⟩,
 ⟨⟨(.fieldAddr 1), [.tmp 5], (some 21), some (20, false)⟩, false, false, 0, 0⟩,
 ⟨⟨(.load false 1), [.tmp 21], (some 22), some (20, false)⟩, false, false, 0, 0⟩,
 ⟨⟨(.bin .geq), [.tmp 22, .const (.int .i64 16)], (some 23), some (20, false)⟩, false, false, 0, 0⟩,
 ⟨⟨.pick, [.tmp 20, .const (.bool true), .tmp 23], (some 24), none⟩, false, false, 0, 0⟩,
 ⟨⟨.move, [.tmp 24], (some 25), none⟩, false, false, 0, 0⟩,
 ⟨⟨(.fieldAddr 2), [.tmp 5], (some 26), some (25, false)⟩, false, false, 0, 0⟩,
 ⟨⟨(.load false 1), [.tmp 26], (some 27), some (25, false)⟩, false, false, 0, 0⟩,
 ⟨⟨.move, [.tmp 0], (some 28), some (25, false)⟩, false, false, 0, 0⟩,
 ⟨⟨(.fieldAddr 1), [.tmp 5], (some 29), some (25, false)⟩, false, false, 0, 0⟩,
 ⟨⟨(.load false 1), [.tmp 29], (some 30), some (25, false)⟩, false, false, 0, 0⟩,
 ⟨⟨.nilCheck, [.tmp 28], (some 31), some (25, false)⟩, false, false, 0, 0⟩,
 ⟨⟨(.fieldAddr 1), [.tmp 31], (some 32), some (25, false)⟩, false, false, 0, 0⟩,
 ⟨⟨(.indexAddrA 16 1), [.tmp 32, .tmp 30], (some 33), some (25, false)⟩, false, false, 0, 0⟩,
 ⟨⟨(.load false 1), [.tmp 33], (some 34), some (25, false)⟩, false, false, 0, 0⟩,
 ⟨⟨(.bin .neq), [.tmp 27, .tmp 34], (some 35), some (25, false)⟩, false, false, 0, 0⟩,
 ⟨⟨.pick, [.tmp 25, .const (.bool true), .tmp 35], (some 36), none⟩, false, false, 0, 0⟩])
 (.cond (.tmp 36) (.seq (.seqR [⟨.move, [.const (.bool false)], (some 6), none⟩])
 .ret)
 .skip))
 (.seq (.seqR [⟨.move, [.tmp 0], (some 37), none⟩,
 ⟨(.fieldAddr 0), [.tmp 5], (some 38), none⟩,
 ⟨(.load false 1), [.tmp 38], (some 39), none⟩,
 ⟨.nilCheck, [.tmp 37], (some 40), none⟩,
 ⟨(.fieldAddr 0), [.tmp 40], (some 41), none⟩,
 ⟨(.store 1), [.tmp 41, .tmp 39], none, none⟩])
 (.seq (.drawR [⟨⟨.move, [.tmp 0], (some 42), none⟩, false, false, 0, 0⟩,
 ⟨⟨(.fieldAddr 1), [.tmp 5], (some 43), none⟩, false, false, 0, 0⟩,
 ⟨⟨(.load false 1), [.tmp 43], (some 44), none⟩, false, false, 0, 0⟩,
 ⟨⟨.nilCheck, [.tmp 42], (some 45), none⟩, false, false, 0, 0⟩,
 ⟨⟨(.fieldAddr 17), [.tmp 45], (some 46), none⟩, false, false, 0, 0⟩,
 ⟨⟨(.indexAddrA 16 1), [.tmp 46, .tmp 44], (some 47), none⟩, false, false, 0, 0⟩,
 ⟨⟨(.load false 1), [.tmp 47], (some 48), none⟩, false, false, 0, 0⟩,
 ⟨⟨.move, [.tmp 48], (some 7), none⟩, false, false, 0, 0⟩])
 (.seq (.block 0 (.seq (.seqR [⟨(.fieldAddr 3), [.tmp 5], (some 50), none⟩,
 ⟨(.load false 1), [.tmp 50], (some 51), none⟩,
 ⟨.not, [.tmp 51], (some 52), none⟩,
 ⟨.move, [.tmp 52], (some 53), none⟩,
 ⟨.move, [.tmp 7], (some 54), some (53, true)⟩,
 ⟨(.bin .geq), [.tmp 54, .const (.int .i64 0)], (some 55), some (53, true)⟩,
 ⟨.move, [.tmp 55], (some 56), some (53, true)⟩,
 ⟨(.fieldAddr 7), [.tmp 5], (some 57), some (56, false)⟩,
 ⟨(.load true 3), [.tmp 57], (some 58), some (56, false)⟩,
 ⟨(.callF 28), [.tmp 58], (some 59), some (56, false)⟩,
 ⟨.not, [.tmp 59], (some 60), some (56, false)⟩,
 ⟨.pick, [.tmp 56, .const (.bool true), .tmp 60], (some 61), some (53, true)⟩,
 ⟨.pick, [.tmp 53, .tmp 61, .const (.bool false)], (some 62), none⟩,
 ⟨.move, [.tmp 62], (some 49), none⟩])
 (.cond (.tmp 49) (.seq (.seqR [⟨.move, [.const (.bool false)], (some 6), none⟩])
 .ret)
 (.seq (.seqR [⟨(.fieldAddr 3), [.tmp 5], (some 64), none⟩,
 ⟨(.load false 1), [.tmp 64], (some 65), none⟩,
 ⟨.not, [.tmp 65], (some 66), none⟩,
 ⟨.move, [.tmp 66], (some 63), none⟩])
 (.cond (.tmp 63) (.seq (.drawR [⟨⟨.move, [.tmp 0], (some 67), none⟩, false, false, 0, 0⟩,
 ⟨⟨(.fieldAddr 1), [.tmp 5], (some 68), none⟩, false, false, 0, 0⟩,
 ⟨⟨(.load false 1), [.tmp 68], (some 69), none⟩, false, false, 0, 0⟩,
 ⟨⟨.move, [.tmp 0], (some 70), none⟩, false, false, 0, 0⟩,
 ⟨⟨.nilCheck, [.tmp 70], (some 71), none⟩, false, false, 0, 0⟩,
 ⟨⟨(.fieldAddr 33), [.tmp 71], (some 72), none⟩, false, false, 0, 0⟩,
 ⟨⟨(.load false 1), [.tmp 72], (some 73), none⟩, false, false, 0, 0⟩,
 ⟨⟨.lenS, [.tmp 73], (some 74), none⟩, false, false, 0, 0⟩,
 ⟨⟨.nilCheck, [.tmp 67], (some 75), none⟩, false, false, 0, 0⟩,
 ⟨⟨(.fieldAddr 17), [.tmp 75], (some 76), none⟩, false, false, 0, 0⟩,
 ⟨⟨(.indexAddrA 16 1), [.tmp 76, .tmp 69], (some 77), none⟩, false, false, 0, 0⟩,
 ⟨⟨(.store 1), [.tmp 77, .tmp 74], none, none⟩, true, false, 0, 1⟩])
 (.seq (.drawR [⟨⟨.move, [.tmp 0], (some 78), none⟩, false, false, 0, 3⟩,
 ⟨⟨.move, [.tmp 0], (some 79), none⟩, false, false, 0, 2⟩,
 ⟨⟨.nilCheck, [.tmp 79], (some 80), none⟩, false, false, 0, 2⟩,
 ⟨⟨(.fieldAddr 33), [.tmp 80], (some 81), none⟩, false, false, 0, 2⟩,
 ⟨⟨(.load false 1), [.tmp 81], (some 82), none⟩, false, false, 0, 2⟩,
 ⟨⟨(.fieldAddr 1), [.tmp 5], (some 83), none⟩, false, false, 0, 0⟩,
 ⟨⟨(.load false 1), [.tmp 83], (some 84), none⟩, false, false, 0, 0⟩,
 ⟨⟨(.fieldAddr 2), [.tmp 5], (some 85), none⟩, false, false, 0, 0⟩,
 ⟨⟨(.load false 1), [.tmp 85], (some 86), none⟩, false, false, 0, 0⟩,
 ⟨⟨.move, [.tmp 1], (some 87), none⟩, false, false, 0, 0⟩,
 ⟨⟨(.fieldAddr 4), [.tmp 5], (some 88), none⟩, false, false, 0, 0⟩,
 ⟨⟨(.load true 3), [.tmp 88], (some 89), none⟩, false, false, 0, 0⟩,
 ⟨⟨(.build [(.int .i64 0), (.int .i64 0), (.int .i64 0), (.int .i64 0), (.int .i64 0), (.int .u64 0), (.slice none 0 0 false), (.int .i64 0), (.int .u64 0), (.slice none 0 0 false)] [(0, 1), (1, 1), (2, 1), (3, 1), (4, 3)]), [.tmp 84, .tmp 86, .tmp 87, .const (.int .i64 (-1)), .tmp 89], (some 90), none⟩, false, false, 0, 0⟩,
 ⟨⟨(.callF 19), [.tmp 90], (some 91), none⟩, true, false, 0, 1⟩,
 ⟨⟨(.sliceLit 1 [(.int .i64 0), (.int .i64 0), (.int .i64 0), (.int .i64 0), (.int .i64 0), (.int .u64 0), (.slice none 0 0 false), (.int .i64 0), (.int .u64 0), (.slice none 0 0 false)] [(0, 10)]), [.tmp 91], (some 92), none⟩, true, false, 1, 2⟩,
 ⟨⟨(.append 10 112), [.tmp 82, .tmp 92], (some 93), none⟩, true, false, 2, 3⟩,
 ⟨⟨.nilCheck, [.tmp 78], (some 94), none⟩, false, false, 3, 3⟩,
 ⟨⟨(.fieldAddr 33), [.tmp 94], (some 95), none⟩, false, false, 3, 3⟩,
 ⟨⟨(.store 1), [.tmp 95, .tmp 93], none, none⟩, true, false, 3, 4⟩])
 (.seq (.seqR [⟨.move, [.const (.bool true)], (some 6), none⟩])
 .ret)))
 (.seq (.drawR [⟨⟨.move, [.tmp 7], (some 97), none⟩, false, false, 0, 0⟩,
 ⟨⟨(.bin .lss), [.tmp 97, .const (.int .i64 0)], (some 98), none⟩, false, false, 0, 0⟩,
 ⟨⟨.move, [.tmp 98], (some 99), none⟩, false, false, 0, 0⟩,
 ⟨⟨.move, [.tmp 0], (some 100), some (99, false)⟩, false, false, 0, 0⟩,
 ⟨⟨.nilCheck, [.tmp 100], (some 101), some (99, false)⟩, false, false, 0, 0⟩,
 ⟨⟨(.fieldAddr 33), [.tmp 101], (some 102), some (99, false)⟩, false, false, 0, 0⟩,
 ⟨⟨(.load false 1), [.tmp 102], (some 103), some (99, false)⟩, false, false, 0, 0⟩,
 ⟨⟨.move, [.tmp 7], (some 104), some (99, false)⟩, false, false, 0, 0⟩,
 ⟨⟨(.indexAddrS 10), [.tmp 103, .tmp 104], (some 105), some (99, false)⟩, false, false, 0, 0⟩,
 ⟨⟨(.fieldAddr 4), [.tmp 105], (some 106), some (99, false)⟩, false, false, 0, 0⟩,
 ⟨⟨(.load true 3), [.tmp 106], (some 107), some (99, false)⟩, false, false, 0, 0⟩,
 ⟨⟨(.fieldAddr 4), [.tmp 5], (some 108), some (99, false)⟩, false, false, 0, 0⟩,
 ⟨⟨(.load true 3), [.tmp 108], (some 109), some (99, false)⟩, false, false, 0, 0⟩,
 ⟨⟨(.callF 29), [.tmp 107, .tmp 109], (some 110), some (99, false)⟩, true, false, 0, 1⟩,
 ⟨⟨.not, [.tmp 110], (some 111), some (99, false)⟩, false, false, 1, 1⟩,
 ⟨⟨.pick, [.tmp 99, .const (.bool true), .tmp 111], (some 112), none⟩, false, false, 1, 1⟩,
 ⟨⟨.move, [.tmp 112], (some 96), none⟩, false, false, 1, 1⟩])
 (.cond (.tmp 96) (.seq (.seqR [⟨.move, [.const (.bool false)], (some 6), none⟩])
 .ret)
 .skip)))))))
 (.seq (.seqR [⟨.move, [.tmp 0], (some 113), none⟩,
 ⟨.nilCheck, [.tmp 113], (some 114), none⟩,
 ⟨(.fieldAddr 33), [.tmp 114], (some 115), none⟩,
 ⟨(.load false 1), [.tmp 115], (some 116), none⟩,
 ⟨.move, [.tmp 7], (some 117), none⟩,
 ⟨.move, [.tmp 1], (some 118), none⟩,
 ⟨(.indexAddrS 10), [.tmp 116, .tmp 117], (some 119), none⟩,
 ⟨(.fieldAddr 3), [.tmp 119], (some 120), none⟩,
 ⟨(.store 1), [.tmp 120, .tmp 118], none, none⟩])
 (.seq (.drawR [⟨⟨.move, [.tmp 0], (some 121), none⟩, false, false, 0, 1⟩,
 ⟨⟨.nilCheck, [.tmp 121], (some 122), none⟩, false, false, 0, 1⟩,
 ⟨⟨(.fieldAddr 33), [.tmp 122], (some 123), none⟩, false, false, 0, 1⟩,
 ⟨⟨(.load false 1), [.tmp 123], (some 124), none⟩, false, false, 0, 1⟩,
 ⟨⟨.move, [.tmp 7], (some 125), none⟩, false, false, 0, 1⟩,
 ⟨⟨(.fieldAddr 7), [.tmp 5], (some 126), none⟩, false, false, 0, 0⟩,
 ⟨⟨(.load true 3), [.tmp 126], (some 127), none⟩, false, false, 0, 0⟩,
 ⟨⟨(.build [(.int .i64 0), (.int .i64 0), (.int .i64 0), (.int .i64 0), (.int .i64 0), (.int .u64 0), (.slice none 0 0 false), (.int .i64 0), (.int .u64 0), (.slice none 0 0 false)] [(7, 3)]), [.tmp 127], (some 128), none⟩, false, false, 0, 0⟩,
 ⟨⟨(.callF 19), [.tmp 128], (some 129), none⟩, true, false, 0, 1⟩,
 ⟨⟨(.field 7 3 true), [.tmp 129], (some 130), none⟩, false, false, 1, 1⟩,
 ⟨⟨(.indexAddrS 10), [.tmp 124, .tmp 125], (some 131), none⟩, false, false, 1, 1⟩,
 ⟨⟨(.fieldAddr 7), [.tmp 131], (some 132), none⟩, false, false, 1, 1⟩,
 ⟨⟨(.store 3), [.tmp 132, .tmp 130], none, none⟩, true, false, 1, 2⟩])
 (.seq (.drawR [⟨⟨.move, [.tmp 0], (some 133), none⟩, false, false, 0, 0⟩,
 ⟨⟨(.fieldAddr 1), [.tmp 5], (some 134), none⟩, false, false, 0, 0⟩,
 ⟨⟨(.load false 1), [.tmp 134], (some 135), none⟩, false, false, 0, 0⟩,
 ⟨⟨.nilCheck, [.tmp 133], (some 136), none⟩, false, false, 0, 0⟩,
 ⟨⟨(.fieldAddr 17), [.tmp 136], (some 137), none⟩, false, false, 0, 0⟩,
 ⟨⟨(.indexAddrA 16 1), [.tmp 137, .tmp 135], (some 138), none⟩, false, false, 0, 0⟩,
 ⟨⟨(.store 1), [.tmp 138, .const (.int .i64 (-1))], none, none⟩, true, false, 0, 1⟩])
 (.seq (.drawR [⟨⟨.move, [.tmp 0], (some 139), none⟩, false, false, 0, 0⟩,
 ⟨⟨(.fieldAddr 1), [.tmp 5], (some 140), none⟩, false, false, 0, 0⟩,
 ⟨⟨(.load false 1), [.tmp 140], (some 141), none⟩, false, false, 0, 0⟩,
 ⟨⟨.nilCheck, [.tmp 139], (some 142), none⟩, false, false, 0, 0⟩,
 ⟨⟨(.fieldAddr 1), [.tmp 142], (some 143), none⟩, false, false, 0, 0⟩,
 ⟨⟨(.indexAddrA 16 1), [.tmp 143, .tmp 141], (some 144), none⟩, false, false, 0, 0⟩,
 ⟨⟨(.load false 1), [.tmp 144], (some 145), none⟩, false, false, 0, 0⟩,
 ⟨⟨(.bin .add), [.tmp 145, .const (.int .i64 1)], (some 146), none⟩, false, false, 0, 0⟩,
 ⟨⟨.nilCheck, [.tmp 139], (some 147), none⟩, false, false, 0, 0⟩,
 ⟨⟨(.fieldAddr 1), [.tmp 147], (some 148), none⟩, false, false, 0, 0⟩,
 ⟨⟨(.indexAddrA 16 1), [.tmp 148, .tmp 141], (some 149), none⟩, false, false, 0, 0⟩,
 ⟨⟨(.store 1), [.tmp 149, .tmp 146], none, none⟩, true, false, 0, 1⟩])
 (.seq (.seqR [⟨.move, [.const (.bool true)], (some 6), none⟩])
 .ret)))))))))), [.tmp 6]⟩
theorem c20_ok : compFunc Try.prog Try.f20 = some c20 := by kernel_rfl
theorem c20_body : hasBody Try.prog 20 = true := hasBody_of Try.func20 (by kernel_rfl)
/-- slices.pdqsortCmpFunc[coachyard/diary.edge] -/
def c21 : PFn := ⟨148, Tr.ofList (List.replicate 148 undefA), (.seq (.seqR [⟨.move, [.const (.bool true)], (some 10), none⟩])
 (.seq (.seqR [⟨.move, [.const (.bool true)], (some 11), none⟩])
 (.block 0 (.loop (.block 1 (.seq (.seqR [⟨.move, [.tmp 2], (some 21), none⟩,
 ⟨.move, [.tmp 1], (some 22), none⟩,
 ⟨(.bin .sub), [.tmp 21, .tmp 22], (some 23), none⟩,
 ⟨.move, [.tmp 23], (some 12), none⟩])
 (.seq (.seq (.seqR [⟨.move, [.tmp 12], (some 24), none⟩,
 ⟨(.bin .leq), [.tmp 24, .const (.int .i64 12)], (some 25), none⟩])
 (.cond (.tmp 25) (.seq (.seqR [⟨.move, [.tmp 0], (some 26), none⟩,
 ⟨.move, [.tmp 1], (some 27), none⟩,
 ⟨.move, [.tmp 2], (some 28), none⟩,
 ⟨.move, [.tmp 4], (some 29), none⟩,
 ⟨(.callF 30), [.tmp 26, .tmp 27, .tmp 28, .tmp 29], (some 30), none⟩])
 .ret)
 .skip))
 (.seq (.seq (.seqR [⟨.move, [.tmp 3], (some 31), none⟩,
 ⟨(.bin .eql), [.tmp 31, .const (.int .i64 0)], (some 32), none⟩])
 (.cond (.tmp 32) (.seq (.seqR [⟨.move, [.tmp 0], (some 33), none⟩,
 ⟨.move, [.tmp 1], (some 34), none⟩,
 ⟨.move, [.tmp 2], (some 35), none⟩,
 ⟨.move, [.tmp 4], (some 36), none⟩,
 ⟨(.callF 31), [.tmp 33, .tmp 34, .tmp 35, .tmp 36], (some 37), none⟩])
 .ret)
 .skip))
 (.seq (.seq (.seqR [⟨.move, [.tmp 10], (some 38), none⟩,
 ⟨.not, [.tmp 38], (some 39), none⟩])
 (.cond (.tmp 39) (.seq (.seqR [⟨.move, [.tmp 0], (some 40), none⟩,
 ⟨.move, [.tmp 1], (some 41), none⟩,
 ⟨.move, [.tmp 2], (some 42), none⟩,
 ⟨.move, [.tmp 4], (some 43), none⟩,
 ⟨(.callF 32), [.tmp 40, .tmp 41, .tmp 42, .tmp 43], (some 44), none⟩])
 (.seqR [⟨.move, [.tmp 3], (some 45), none⟩,
 ⟨(.bin .sub), [.tmp 45, .const (.int .i64 1)], (some 46), none⟩,
 ⟨.move, [.tmp 46], (some 3), none⟩]))
 .skip))
 (.seq (.seqR [⟨.move, [.tmp 0], (some 48), none⟩,
 ⟨.move, [.tmp 1], (some 49), none⟩,
 ⟨.move, [.tmp 2], (some 50), none⟩,
 ⟨.move, [.tmp 4], (some 51), none⟩,
 ⟨(.callF 33), [.tmp 48, .tmp 49, .tmp 50, .tmp 51], (some 52), none⟩,
 ⟨.move, [.tmp 52], (some 47), none⟩,
 ⟨(.extract 0), [.tmp 47], (some 53), none⟩,
 ⟨(.extract 1), [.tmp 47], (some 54), none⟩,
 ⟨.move, [.tmp 53], (some 13), none⟩,
 ⟨.move, [.tmp 54], (some 14), none⟩])
 (.seq (.seq (.seqR [⟨.move, [.tmp 14], (some 55), none⟩,
 ⟨(.bin .eql), [.tmp 55, .const (.int .i64 2)], (some 56), none⟩])
 (.cond (.tmp 56) (.seq (.seqR [⟨.move, [.tmp 0], (some 57), none⟩,
 ⟨.move, [.tmp 1], (some 58), none⟩,
 ⟨.move, [.tmp 2], (some 59), none⟩,
 ⟨.move, [.tmp 4], (some 60), none⟩,
 ⟨(.callF 34), [.tmp 57, .tmp 58, .tmp 59, .tmp 60], (some 61), none⟩])
 (.seq (.seqR [⟨.move, [.tmp 2], (some 62), none⟩,
 ⟨(.bin .sub), [.tmp 62, .const (.int .i64 1)], (some 63), none⟩,
 ⟨.move, [.tmp 13], (some 64), none⟩,
 ⟨.move, [.tmp 1], (some 65), none⟩,
 ⟨(.bin .sub), [.tmp 64, .tmp 65], (some 66), none⟩,
 ⟨(.bin .sub), [.tmp 63, .tmp 66], (some 67), none⟩,
 ⟨.move, [.tmp 67], (some 13), none⟩])
 (.seqR [⟨.move, [.const (.int .i64 1)], (some 14), none⟩])))
 .skip))
 (.seq (.seq (.seqR [⟨.move, [.tmp 10], (some 68), none⟩,
 ⟨.move, [.tmp 68], (some 69), none⟩,
 ⟨.move, [.tmp 11], (some 70), some (69, true)⟩,
 ⟨.pick, [.tmp 69, .tmp 70, .const (.bool false)], (some 71), none⟩,
 ⟨.move, [.tmp 71], (some 72), none⟩,
 ⟨.move, [.tmp 14], (some 73), some (72, true)⟩,
 ⟨(.bin .eql), [.tmp 73, .const (.int .i64 1)], (some 74), some (72, true)⟩,
 ⟨.pick, [.tmp 72, .tmp 74, .const (.bool false)], (some 75), none⟩])
 (.cond (.tmp 75) (.seq (.seqR [⟨.move, [.tmp 0], (some 76), none⟩,
 ⟨.move, [.tmp 1], (some 77), none⟩,
 ⟨.move, [.tmp 2], (some 78), none⟩,
 ⟨.move, [.tmp 4], (some 79), none⟩,
 ⟨(.callF 35), [.tmp 76, .tmp 77, .tmp 78, .tmp 79], (some 80), none⟩])
 (.cond (.tmp 80) .ret
 .skip))
 .skip))
 (.seq (.seq (.drawR [⟨⟨.move, [.tmp 1], (some 81), none⟩, false, false, 0, 0⟩,
 ⟨⟨(.bin .gtr), [.tmp 81, .const (.int .i64 0)], (some 82), none⟩, false, false, 0, 0⟩,
 ⟨⟨.move, [.tmp 82], (some 83), none⟩, false, false, 0, 0⟩,
 ⟨⟨.move, [.tmp 4], (some 84), some (83, true)⟩, false, false, 0, 0⟩,
 ⟨⟨.move, [.tmp 0], (some 85), some (83, true)⟩, false, false, 0, 0⟩,
 ⟨⟨.move, [.tmp 1], (some 86), some (83, true)⟩, false, false, 0, 0⟩,
 ⟨⟨(.bin .sub), [.tmp 86, .const (.int .i64 1)], (some 87), some (83, true)⟩, false, false, 0, 0⟩,
 ⟨⟨(.indexAddrS 2), [.tmp 85, .tmp 87], (some 88), some (83, true)⟩, false, false, 0, 0⟩,
 ⟨⟨(.load true 2), [.tmp 88], (some 89), some (83, true)⟩, false, false, 0, 0⟩,
 ⟨⟨.move, [.tmp 0], (some 90), some (83, true)⟩, false, false, 0, 0⟩,
 ⟨⟨.move, [.tmp 13], (some 91), some (83, true)⟩, false, false, 0, 0⟩,
 ⟨⟨(.indexAddrS 2), [.tmp 90, .tmp 91], (some 92), some (83, true)⟩, false, false, 0, 0⟩,
 ⟨⟨(.load true 2), [.tmp 92], (some 93), some (83, true)⟩, false, false, 0, 0⟩,
 ⟨⟨.callV, [.tmp 84, .tmp 89, .tmp 93], (some 94), some (83, true)⟩, true, false, 0, 1⟩,
 ⟨⟨(.bin .lss), [.tmp 94, .const (.int .i64 0)], (some 95), some (83, true)⟩, false, false, 1, 1⟩,
 ⟨⟨.not, [.tmp 95], (some 96), some (83, true)⟩, false, false, 1, 1⟩,
 ⟨⟨.pick, [.tmp 83, .tmp 96, .const (.bool false)], (some 97), none⟩, false, false, 1, 1⟩])
 (.cond (.tmp 97) (.seq (.seqR [⟨.move, [.tmp 0], (some 98), none⟩,
 ⟨.move, [.tmp 1], (some 99), none⟩,
 ⟨.move, [.tmp 2], (some 100), none⟩,
 ⟨.move, [.tmp 13], (some 101), none⟩,
 ⟨.move, [.tmp 4], (some 102), none⟩,
 ⟨(.callF 36), [.tmp 98, .tmp 99, .tmp 100, .tmp 101, .tmp 102], (some 103), none⟩,
 ⟨.move, [.tmp 103], (some 15), none⟩])
 (.seq (.seqR [⟨.move, [.tmp 15], (some 104), none⟩,
 ⟨.move, [.tmp 104], (some 1), none⟩])
 (.exit 1)))
 .skip))
 (.seq (.seqR [⟨.move, [.tmp 0], (some 106), none⟩,
 ⟨.move, [.tmp 1], (some 107), none⟩,
 ⟨.move, [.tmp 2], (some 108), none⟩,
 ⟨.move, [.tmp 13], (some 109), none⟩,
 ⟨.move, [.tmp 4], (some 110), none⟩,
 ⟨(.callF 37), [.tmp 106, .tmp 107, .tmp 108, .tmp 109, .tmp 110], (some 111), none⟩,
 ⟨.move, [.tmp 111], (some 105), none⟩,
 ⟨(.extract 0), [.tmp 105], (some 112), none⟩,
 ⟨(.extract 1), [.tmp 105], (some 113), none⟩,
 ⟨.move, [.tmp 112], (some 16), none⟩,
 ⟨.move, [.tmp 113], (some 17), none⟩])
 (.seq (.seqR [⟨.move, [.tmp 17], (some 114), none⟩,
 ⟨.move, [.tmp 114], (some 11), none⟩])
 (.seq (.seqR [⟨.move, [.tmp 16], (some 115), none⟩,
 ⟨.move, [.tmp 1], (some 116), none⟩,
 ⟨(.bin .sub), [.tmp 115, .tmp 116], (some 117), none⟩,
 ⟨.move, [.tmp 2], (some 118), none⟩,
 ⟨.move, [.tmp 16], (some 119), none⟩,
 ⟨(.bin .sub), [.tmp 118, .tmp 119], (some 120), none⟩,
 ⟨.move, [.tmp 117], (some 18), none⟩,
 ⟨.move, [.tmp 120], (some 19), none⟩])
 (.seq (.seqR [⟨.move, [.tmp 12], (some 121), none⟩,
 ⟨(.bin .quo), [.tmp 121, .const (.int .i64 8)], (some 122), none⟩,
 ⟨.move, [.tmp 122], (some 20), none⟩])
 (.seq (.seqR [⟨.move, [.tmp 18], (some 123), none⟩,
 ⟨.move, [.tmp 19], (some 124), none⟩,
 ⟨(.bin .lss), [.tmp 123, .tmp 124], (some 125), none⟩])
 (.cond (.tmp 125) (.seq (.seqR [⟨.move, [.tmp 18], (some 126), none⟩,
 ⟨.move, [.tmp 20], (some 127), none⟩,
 ⟨(.bin .geq), [.tmp 126, .tmp 127], (some 128), none⟩,
 ⟨.move, [.tmp 128], (some 10), none⟩])
 (.seq (.seqR [⟨.move, [.tmp 0], (some 129), none⟩,
 ⟨.move, [.tmp 1], (some 130), none⟩,
 ⟨.move, [.tmp 16], (some 131), none⟩,
 ⟨.move, [.tmp 3], (some 132), none⟩,
 ⟨.move, [.tmp 4], (some 133), none⟩,
 ⟨(.callF 21), [.tmp 129, .tmp 130, .tmp 131, .tmp 132, .tmp 133], (some 134), none⟩])
 (.seqR [⟨.move, [.tmp 16], (some 135), none⟩,
 ⟨(.bin .add), [.tmp 135, .const (.int .i64 1)], (some 136), none⟩,
 ⟨.move, [.tmp 136], (some 1), none⟩])))
 (.seq (.seqR [⟨.move, [.tmp 19], (some 137), none⟩,
 ⟨.move, [.tmp 20], (some 138), none⟩,
 ⟨(.bin .geq), [.tmp 137, .tmp 138], (some 139), none⟩,
 ⟨.move, [.tmp 139], (some 10), none⟩])
 (.seq (.seqR [⟨.move, [.tmp 0], (some 140), none⟩,
 ⟨.move, [.tmp 16], (some 141), none⟩,
 ⟨(.bin .add), [.tmp 141, .const (.int .i64 1)], (some 142), none⟩,
 ⟨.move, [.tmp 2], (some 143), none⟩,
 ⟨.move, [.tmp 3], (some 144), none⟩,
 ⟨.move, [.tmp 4], (some 145), none⟩,
 ⟨(.callF 21), [.tmp 140, .tmp 142, .tmp 143, .tmp 144, .tmp 145], (some 146), none⟩])
 (.seqR [⟨.move, [.tmp 16], (some 147), none⟩,
 ⟨.move, [.tmp 147], (some 2), none⟩])))))))))))))))))))))), []⟩
theorem c21_ok : compFunc Try.prog Try.f21 = some c21 := by kernel_rfl
theorem c21_body : hasBody Try.prog 21 = true := hasBody_of Try.func21 (by kernel_rfl)
/-- math/bits.Len -/
def c22 : PFn := ⟨8, Tr.ofList (List.replicate 8 undefA), (.seq (.seqR [⟨.move, [.const (.int .i64 0)], (some 2), none⟩])
 (.seq (.cond (.const (.bool false)) (.seq (.seqR [⟨.move, [.tmp 0], (some 3), none⟩,
 ⟨(.conv .u32), [.tmp 3], (some 4), none⟩,
 ⟨(.callF 38), [.tmp 4], (some 5), none⟩,
 ⟨.move, [.tmp 5], (some 2), none⟩])
 .ret)
 .skip)
 (.seq (.seqR [⟨.move, [.tmp 0], (some 6), none⟩,
 ⟨(.callF 39), [.tmp 6], (some 7), none⟩,
 ⟨.move, [.tmp 7], (some 2), none⟩])
 .ret))), [.tmp 2]⟩
theorem c22_ok : compFunc Try.prog Try.f22 = some c22 := by kernel_rfl
theorem c22_body : hasBody Try.prog 22 = true := hasBody_of Try.func22 (by kernel_rfl)
/-- cmp.isNaN[int] -/
def c23 : PFn := ⟨6, Tr.ofList (List.replicate 6 undefA), (.seq (.seqR [⟨.move, [.const (.bool false)], (some 2), none⟩])
 (.seq (.seqR [⟨.move, [.tmp 0], (some 3), none⟩,
 ⟨.move, [.tmp 0], (some 4), none⟩,
 ⟨(.bin .neq), [.tmp 3, .tmp 4], (some 5), none⟩,
 ⟨.move, [.tmp 5], (some 2), none⟩])
 .ret)), [.tmp 2]⟩
theorem c23_ok : compFunc Try.prog Try.f23 = some c23 := by kernel_rfl
theorem c23_body : hasBody Try.prog 23 = true := hasBody_of Try.func23 (by kernel_rfl)
/-- coachyard/coachyardref01.SameInts -/
def c24 : PFn := ⟨26, Tr.ofList (List.replicate 26 undefA), (.seq (.seqR [⟨.move, [.const (.bool false)], (some 4), none⟩])
 (.seq (.seq (.seqR [⟨.move, [.tmp 0], (some 6), none⟩,
 ⟨.lenS, [.tmp 6], (some 7), none⟩,
 ⟨.move, [.tmp 1], (some 8), none⟩,
 ⟨.lenS, [.tmp 8], (some 9), none⟩,
 ⟨(.bin .neq), [.tmp 7, .tmp 9], (some 10), none⟩])
 (.cond (.tmp 10) (.seq (.seqR [⟨.move, [.const (.bool false)], (some 4), none⟩])
 .ret)
 .skip))
 (.seq (.seq (.seqR [⟨.move, [.const (.int .i64 0)], (some 5), none⟩])
 (.block 0 (.loop (.seq (.seq (.seqR [⟨.move, [.tmp 5], (some 11), none⟩,
 ⟨.move, [.tmp 0], (some 12), none⟩,
 ⟨.lenS, [.tmp 12], (some 13), none⟩,
 ⟨(.bin .lss), [.tmp 11, .tmp 13], (some 14), none⟩])
 (.cond (.tmp 14) .skip
 (.exit 0)))
 (.seq (.block 1 (.seq (.drawR [⟨⟨.move, [.tmp 0], (some 17), none⟩, false, false, 0, 0⟩,
 ⟨⟨.move, [.tmp 5], (some 18), none⟩, false, false, 0, 0⟩,
 ⟨⟨(.indexAddrS 1), [.tmp 17, .tmp 18], (some 19), none⟩, false, false, 0, 0⟩,
 ⟨⟨(.load false 1), [.tmp 19], (some 20), none⟩, false, false, 0, 0⟩,
 ⟨⟨.move, [.tmp 1], (some 21), none⟩, false, false, 0, 0⟩,
 ⟨⟨.move, [.tmp 5], (some 22), none⟩, false, false, 0, 0⟩,
 ⟨⟨(.indexAddrS 1), [.tmp 21, .tmp 22], (some 23), none⟩, false, false, 0, 0⟩,
 ⟨⟨(.load false 1), [.tmp 23], (some 24), none⟩, false, false, 0, 0⟩,
 ⟨⟨(.bin .neq), [.tmp 20, .tmp 24], (some 25), none⟩, false, false, 0, 0⟩])
 (.cond (.tmp 25) (.seq (.seqR [⟨.move, [.const (.bool false)], (some 4), none⟩])
 .ret)
 .skip)))
 (.seqR [⟨.move, [.tmp 5], (some 15), none⟩,
 ⟨(.bin .add), [.tmp 15, .const (.int .i64 1)], (some 16), none⟩,
 ⟨.move, [.tmp 16], (some 5), none⟩]))))))
 (.seq (.seqR [⟨.move, [.const (.bool true)], (some 4), none⟩])
 .ret)))), [.tmp 4]⟩
theorem c24_ok : compFunc Try.prog Try.f24 = some c24 := by kernel_rfl
theorem c24_body : hasBody Try.prog 24 = true := hasBody_of Try.func24 (by kernel_rfl)
/-- coachyard/coachyardref01.Same -/
def c25 : PFn := ⟨26, Tr.ofList (List.replicate 26 undefA), (.seq (.seqR [⟨.move, [.const (.bool false)], (some 4), none⟩])
 (.seq (.seq (.seqR [⟨.move, [.tmp 0], (some 6), none⟩,
 ⟨.lenS, [.tmp 6], (some 7), none⟩,
 ⟨.move, [.tmp 1], (some 8), none⟩,
 ⟨.lenS, [.tmp 8], (some 9), none⟩,
 ⟨(.bin .neq), [.tmp 7, .tmp 9], (some 10), none⟩])
 (.cond (.tmp 10) (.seq (.seqR [⟨.move, [.const (.bool false)], (some 4), none⟩])
 .ret)
 .skip))
 (.seq (.seq (.seqR [⟨.move, [.const (.int .i64 0)], (some 5), none⟩])
 (.block 0 (.loop (.seq (.seq (.seqR [⟨.move, [.tmp 5], (some 11), none⟩,
 ⟨.move, [.tmp 0], (some 12), none⟩,
 ⟨.lenS, [.tmp 12], (some 13), none⟩,
 ⟨(.bin .lss), [.tmp 11, .tmp 13], (some 14), none⟩])
 (.cond (.tmp 14) .skip
 (.exit 0)))
 (.seq (.block 1 (.seq (.drawR [⟨⟨.move, [.tmp 0], (some 17), none⟩, false, false, 0, 0⟩,
 ⟨⟨.move, [.tmp 5], (some 18), none⟩, false, false, 0, 0⟩,
 ⟨⟨(.indexAddrS 1), [.tmp 17, .tmp 18], (some 19), none⟩, false, false, 0, 0⟩,
 ⟨⟨(.load false 1), [.tmp 19], (some 20), none⟩, false, false, 0, 0⟩,
 ⟨⟨.move, [.tmp 1], (some 21), none⟩, false, false, 0, 0⟩,
 ⟨⟨.move, [.tmp 5], (some 22), none⟩, false, false, 0, 0⟩,
 ⟨⟨(.indexAddrS 1), [.tmp 21, .tmp 22], (some 23), none⟩, false, false, 0, 0⟩,
 ⟨⟨(.load false 1), [.tmp 23], (some 24), none⟩, false, false, 0, 0⟩,
 ⟨⟨(.bin .neq), [.tmp 20, .tmp 24], (some 25), none⟩, false, false, 0, 0⟩])
 (.cond (.tmp 25) (.seq (.seqR [⟨.move, [.const (.bool false)], (some 4), none⟩])
 .ret)
 .skip)))
 (.seqR [⟨.move, [.tmp 5], (some 15), none⟩,
 ⟨(.bin .add), [.tmp 15, .const (.int .i64 1)], (some 16), none⟩,
 ⟨.move, [.tmp 16], (some 5), none⟩]))))))
 (.seq (.seqR [⟨.move, [.const (.bool true)], (some 4), none⟩])
 .ret)))), [.tmp 4]⟩
theorem c25_ok : compFunc Try.prog Try.f25 = some c25 := by kernel_rfl
theorem c25_body : hasBody Try.prog 25 = true := hasBody_of Try.func25 (by kernel_rfl)
/-- slices.Clone[[]int,int] -/
def c26 : PFn := ⟨8, Tr.ofList (List.replicate 8 undefA), (.seq (.seqR [⟨.move, [.const (.slice none 0 0 false)], (some 2), none⟩])
 (.seq (.seq (.seqR [⟨.move, [.tmp 0], (some 3), none⟩,
 ⟨(.eqNil 0 false), [.tmp 3, .const (.slice none 0 0 false)], (some 4), none⟩])
 (.cond (.tmp 4) (.seq (.seqR [⟨.move, [.const (.slice none 0 0 false)], (some 2), none⟩])
 .ret)
 .skip))
 (.seq (.seqR [⟨(.sliceLit 0 [] []), [], (some 5), none⟩,
 ⟨.move, [.tmp 0], (some 6), none⟩,
 ⟨(.append 1 8), [.tmp 5, .tmp 6], (some 7), none⟩,
 ⟨.move, [.tmp 7], (some 2), none⟩])
 .ret))), [.tmp 2]⟩
theorem c26_ok : compFunc Try.prog Try.f26 = some c26 := by kernel_rfl
theorem c26_body : hasBody Try.prog 26 = true := hasBody_of Try.func26 (by kernel_rfl)
/-- slices.Clone[[]uint64,uint64] -/
def c27 : PFn := ⟨8, Tr.ofList (List.replicate 8 undefA), (.seq (.seqR [⟨.move, [.const (.slice none 0 0 false)], (some 2), none⟩])
 (.seq (.seq (.seqR [⟨.move, [.tmp 0], (some 3), none⟩,
 ⟨(.eqNil 0 false), [.tmp 3, .const (.slice none 0 0 false)], (some 4), none⟩])
 (.cond (.tmp 4) (.seq (.seqR [⟨.move, [.const (.slice none 0 0 false)], (some 2), none⟩])
 .ret)
 .skip))
 (.seq (.seqR [⟨(.sliceLit 0 [] []), [], (some 5), none⟩,
 ⟨.move, [.tmp 0], (some 6), none⟩,
 ⟨(.append 1 8), [.tmp 5, .tmp 6], (some 7), none⟩,
 ⟨.move, [.tmp 7], (some 2), none⟩])
 .ret))), [.tmp 2]⟩
theorem c27_ok : compFunc Try.prog Try.f27 = some c27 := by kernel_rfl
theorem c27_body : hasBody Try.prog 27 = true := hasBody_of Try.func27 (by kernel_rfl)
/-- coachyard/diary.none -/
def c28 : PFn := ⟨17, Tr.ofList (List.replicate 17 undefA), (.seq (.seqR [⟨.box, [.tmp 0], (some 1), none⟩,
 ⟨.move, [.const (.bool false)], (some 2), none⟩])
 (.seq (.seqR [⟨(.fieldAddr 0), [.tmp 1], (some 3), none⟩,
 ⟨(.load false 1), [.tmp 3], (some 4), none⟩,
 ⟨(.bin .eql), [.tmp 4, .const (.int .i64 0)], (some 5), none⟩,
 ⟨.move, [.tmp 5], (some 6), none⟩,
 ⟨(.fieldAddr 1), [.tmp 1], (some 7), some (6, true)⟩,
 ⟨(.load false 1), [.tmp 7], (some 8), some (6, true)⟩,
 ⟨(.bin .eql), [.tmp 8, .const (.int .u64 0)], (some 9), some (6, true)⟩,
 ⟨.pick, [.tmp 6, .tmp 9, .const (.bool false)], (some 10), none⟩,
 ⟨.move, [.tmp 10], (some 11), none⟩,
 ⟨(.fieldAddr 2), [.tmp 1], (some 12), some (11, true)⟩,
 ⟨(.load false 1), [.tmp 12], (some 13), some (11, true)⟩,
 ⟨.lenS, [.tmp 13], (some 14), some (11, true)⟩,
 ⟨(.bin .eql), [.tmp 14, .const (.int .i64 0)], (some 15), some (11, true)⟩,
 ⟨.pick, [.tmp 11, .tmp 15, .const (.bool false)], (some 16), none⟩,
 ⟨.move, [.tmp 16], (some 2), none⟩])
 .ret)), [.tmp 2]⟩
theorem c28_ok : compFunc Try.prog Try.f28 = some c28 := by kernel_rfl
theorem c28_body : hasBody Try.prog 28 = true := hasBody_of Try.func28 (by kernel_rfl)
/-- coachyard/diary.same -/
def c29 : PFn := ⟨24, Tr.ofList (List.replicate 24 undefA), (.seq (.seqR [⟨.box, [.tmp 0], (some 2), none⟩,
 ⟨.box, [.tmp 1], (some 3), none⟩,
 ⟨.move, [.const (.bool false)], (some 4), none⟩])
 (.seq (.seqR [⟨(.fieldAddr 0), [.tmp 2], (some 5), none⟩,
 ⟨(.load false 1), [.tmp 5], (some 6), none⟩,
 ⟨(.fieldAddr 0), [.tmp 3], (some 7), none⟩,
 ⟨(.load false 1), [.tmp 7], (some 8), none⟩,
 ⟨(.bin .eql), [.tmp 6, .tmp 8], (some 9), none⟩,
 ⟨.move, [.tmp 9], (some 10), none⟩,
 ⟨(.fieldAddr 1), [.tmp 2], (some 11), some (10, true)⟩,
 ⟨(.load false 1), [.tmp 11], (some 12), some (10, true)⟩,
 ⟨(.fieldAddr 1), [.tmp 3], (some 13), some (10, true)⟩,
 ⟨(.load false 1), [.tmp 13], (some 14), some (10, true)⟩,
 ⟨(.bin .eql), [.tmp 12, .tmp 14], (some 15), some (10, true)⟩,
 ⟨.pick, [.tmp 10, .tmp 15, .const (.bool false)], (some 16), none⟩,
 ⟨.move, [.tmp 16], (some 17), none⟩,
 ⟨(.fieldAddr 2), [.tmp 2], (some 18), some (17, true)⟩,
 ⟨(.load false 1), [.tmp 18], (some 19), some (17, true)⟩,
 ⟨(.fieldAddr 2), [.tmp 3], (some 20), some (17, true)⟩,
 ⟨(.load false 1), [.tmp 20], (some 21), some (17, true)⟩,
 ⟨(.callF 40), [.tmp 19, .tmp 21], (some 22), some (17, true)⟩,
 ⟨.pick, [.tmp 17, .tmp 22, .const (.bool false)], (some 23), none⟩,
 ⟨.move, [.tmp 23], (some 4), none⟩])
 .ret)), [.tmp 4]⟩
theorem c29_ok : compFunc Try.prog Try.f29 = some c29 := by kernel_rfl
theorem c29_body : hasBody Try.prog 29 = true := hasBody_of Try.func29 (by kernel_rfl)
/-- slices.insertionSortCmpFunc[coachyard/diary.edge] -/
def c30 : PFn := ⟨53, Tr.ofList (List.replicate 53 undefA), (.seq (.seqR [⟨.move, [.tmp 1], (some 10), none⟩,
 ⟨(.bin .add), [.tmp 10, .const (.int .i64 1)], (some 11), none⟩,
 ⟨.move, [.tmp 11], (some 8), none⟩])
 (.block 0 (.loop (.seq (.seq (.seqR [⟨.move, [.tmp 8], (some 12), none⟩,
 ⟨.move, [.tmp 2], (some 13), none⟩,
 ⟨(.bin .lss), [.tmp 12, .tmp 13], (some 14), none⟩])
 (.cond (.tmp 14) .skip
 (.exit 0)))
 (.seq (.block 1 (.seq (.seqR [⟨.move, [.tmp 8], (some 17), none⟩,
 ⟨.move, [.tmp 17], (some 9), none⟩])
 (.block 2 (.loop (.seq (.seq (.drawR [⟨⟨.move, [.tmp 9], (some 18), none⟩, false, false, 0, 0⟩,
 ⟨⟨.move, [.tmp 1], (some 19), none⟩, false, false, 0, 0⟩,
 ⟨⟨(.bin .gtr), [.tmp 18, .tmp 19], (some 20), none⟩, false, false, 0, 0⟩,
 ⟨⟨.move, [.tmp 20], (some 21), none⟩, false, false, 0, 0⟩,
 ⟨⟨.move, [.tmp 3], (some 22), some (21, true)⟩, false, false, 0, 0⟩,
 ⟨⟨.move, [.tmp 0], (some 23), some (21, true)⟩, false, false, 0, 0⟩,
 ⟨⟨.move, [.tmp 9], (some 24), some (21, true)⟩, false, false, 0, 0⟩,
 ⟨⟨(.indexAddrS 2), [.tmp 23, .tmp 24], (some 25), some (21, true)⟩, false, false, 0, 0⟩,
 ⟨⟨(.load true 2), [.tmp 25], (some 26), some (21, true)⟩, false, false, 0, 0⟩,
 ⟨⟨.move, [.tmp 0], (some 27), some (21, true)⟩, false, false, 0, 0⟩,
 ⟨⟨.move, [.tmp 9], (some 28), some (21, true)⟩, false, false, 0, 0⟩,
 ⟨⟨(.bin .sub), [.tmp 28, .const (.int .i64 1)], (some 29), some (21, true)⟩, false, false, 0, 0⟩,
 ⟨⟨(.indexAddrS 2), [.tmp 27, .tmp 29], (some 30), some (21, true)⟩, false, false, 0, 0⟩,
 ⟨⟨(.load true 2), [.tmp 30], (some 31), some (21, true)⟩, false, false, 0, 0⟩,
 ⟨⟨.callV, [.tmp 22, .tmp 26, .tmp 31], (some 32), some (21, true)⟩, true, false, 0, 1⟩,
 ⟨⟨(.bin .lss), [.tmp 32, .const (.int .i64 0)], (some 33), some (21, true)⟩, false, false, 1, 1⟩,
 ⟨⟨.pick, [.tmp 21, .tmp 33, .const (.bool false)], (some 34), none⟩, false, false, 1, 1⟩])
 (.cond (.tmp 34) .skip
 (.exit 2)))
 (.seq (.block 3 (.drawR [⟨⟨.move, [.tmp 0], (some 37), none⟩, false, false, 0, 0⟩,
 ⟨⟨.move, [.tmp 9], (some 38), none⟩, false, false, 0, 0⟩,
 ⟨⟨.move, [.tmp 0], (some 39), none⟩, false, false, 0, 1⟩,
 ⟨⟨.move, [.tmp 9], (some 40), none⟩, false, false, 0, 1⟩,
 ⟨⟨(.bin .sub), [.tmp 40, .const (.int .i64 1)], (some 41), none⟩, false, false, 0, 1⟩,
 ⟨⟨.move, [.tmp 0], (some 42), none⟩, false, false, 0, 0⟩,
 ⟨⟨.move, [.tmp 9], (some 43), none⟩, false, false, 0, 0⟩,
 ⟨⟨(.bin .sub), [.tmp 43, .const (.int .i64 1)], (some 44), none⟩, false, false, 0, 0⟩,
 ⟨⟨(.indexAddrS 2), [.tmp 42, .tmp 44], (some 45), none⟩, false, false, 0, 0⟩,
 ⟨⟨(.load true 2), [.tmp 45], (some 46), none⟩, false, false, 0, 0⟩,
 ⟨⟨.move, [.tmp 0], (some 47), none⟩, false, false, 0, 0⟩,
 ⟨⟨.move, [.tmp 9], (some 48), none⟩, false, false, 0, 0⟩,
 ⟨⟨(.indexAddrS 2), [.tmp 47, .tmp 48], (some 49), none⟩, false, false, 0, 0⟩,
 ⟨⟨(.load true 2), [.tmp 49], (some 50), none⟩, false, false, 0, 0⟩,
 ⟨⟨(.indexAddrS 2), [.tmp 37, .tmp 38], (some 51), none⟩, false, false, 0, 0⟩,
 ⟨⟨(.store 2), [.tmp 51, .tmp 46], none, none⟩, true, false, 0, 1⟩,
 ⟨⟨(.indexAddrS 2), [.tmp 39, .tmp 41], (some 52), none⟩, false, false, 1, 1⟩,
 ⟨⟨(.store 2), [.tmp 52, .tmp 50], none, none⟩, true, false, 1, 2⟩]))
 (.seqR [⟨.move, [.tmp 9], (some 35), none⟩,
 ⟨(.bin .sub), [.tmp 35, .const (.int .i64 1)], (some 36), none⟩,
 ⟨.move, [.tmp 36], (some 9), none⟩])))))))
 (.seqR [⟨.move, [.tmp 8], (some 15), none⟩,
 ⟨(.bin .add), [.tmp 15, .const (.int .i64 1)], (some 16), none⟩,
 ⟨.move, [.tmp 16], (some 8), none⟩])))))), []⟩
theorem c30_ok : compFunc Try.prog Try.f30 = some c30 := by kernel_rfl
theorem c30_body : hasBody Try.prog 30 = true := hasBody_of Try.func30 (by kernel_rfl)
/-- slices.heapSortCmpFunc[coachyard/diary.edge] -/
def c31 : PFn := ⟨60, Tr.ofList (List.replicate 60 undefA), (.seq (.seqR [⟨.move, [.tmp 1], (some 13), none⟩,
 ⟨.move, [.tmp 13], (some 8), none⟩])
 (.seq (.seqR [⟨.move, [.const (.int .i64 0)], (some 9), none⟩])
 (.seq (.seqR [⟨.move, [.tmp 2], (some 14), none⟩,
 ⟨.move, [.tmp 1], (some 15), none⟩,
 ⟨(.bin .sub), [.tmp 14, .tmp 15], (some 16), none⟩,
 ⟨.move, [.tmp 16], (some 10), none⟩])
 (.seq (.seq (.seqR [⟨.move, [.tmp 10], (some 17), none⟩,
 ⟨(.bin .sub), [.tmp 17, .const (.int .i64 1)], (some 18), none⟩,
 ⟨(.bin .quo), [.tmp 18, .const (.int .i64 2)], (some 19), none⟩,
 ⟨.move, [.tmp 19], (some 11), none⟩])
 (.block 0 (.loop (.seq (.seq (.seqR [⟨.move, [.tmp 11], (some 20), none⟩,
 ⟨(.bin .geq), [.tmp 20, .const (.int .i64 0)], (some 21), none⟩])
 (.cond (.tmp 21) .skip
 (.exit 0)))
 (.seq (.block 1 (.seqR [⟨.move, [.tmp 0], (some 24), none⟩,
 ⟨.move, [.tmp 11], (some 25), none⟩,
 ⟨.move, [.tmp 10], (some 26), none⟩,
 ⟨.move, [.tmp 8], (some 27), none⟩,
 ⟨.move, [.tmp 3], (some 28), none⟩,
 ⟨(.callF 41), [.tmp 24, .tmp 25, .tmp 26, .tmp 27, .tmp 28], (some 29), none⟩]))
 (.seqR [⟨.move, [.tmp 11], (some 22), none⟩,
 ⟨(.bin .sub), [.tmp 22, .const (.int .i64 1)], (some 23), none⟩,
 ⟨.move, [.tmp 23], (some 11), none⟩]))))))
 (.seq (.seqR [⟨.move, [.tmp 10], (some 30), none⟩,
 ⟨(.bin .sub), [.tmp 30, .const (.int .i64 1)], (some 31), none⟩,
 ⟨.move, [.tmp 31], (some 12), none⟩])
 (.block 2 (.loop (.seq (.seq (.seqR [⟨.move, [.tmp 12], (some 32), none⟩,
 ⟨(.bin .geq), [.tmp 32, .const (.int .i64 0)], (some 33), none⟩])
 (.cond (.tmp 33) .skip
 (.exit 2)))
 (.seq (.block 3 (.seq (.drawR [⟨⟨.move, [.tmp 0], (some 36), none⟩, false, false, 0, 0⟩,
 ⟨⟨.move, [.tmp 8], (some 37), none⟩, false, false, 0, 0⟩,
 ⟨⟨.move, [.tmp 0], (some 38), none⟩, false, false, 0, 1⟩,
 ⟨⟨.move, [.tmp 8], (some 39), none⟩, false, false, 0, 1⟩,
 ⟨⟨.move, [.tmp 12], (some 40), none⟩, false, false, 0, 1⟩,
 ⟨⟨(.bin .add), [.tmp 39, .tmp 40], (some 41), none⟩, false, false, 0, 1⟩,
 ⟨⟨.move, [.tmp 0], (some 42), none⟩, false, false, 0, 0⟩,
 ⟨⟨.move, [.tmp 8], (some 43), none⟩, false, false, 0, 0⟩,
 ⟨⟨.move, [.tmp 12], (some 44), none⟩, false, false, 0, 0⟩,
 ⟨⟨(.bin .add), [.tmp 43, .tmp 44], (some 45), none⟩, false, false, 0, 0⟩,
 ⟨⟨(.indexAddrS 2), [.tmp 42, .tmp 45], (some 46), none⟩, false, false, 0, 0⟩,
 ⟨⟨(.load true 2), [.tmp 46], (some 47), none⟩, false, false, 0, 0⟩,
 ⟨⟨.move, [.tmp 0], (some 48), none⟩, false, false, 0, 0⟩,
 ⟨⟨.move, [.tmp 8], (some 49), none⟩, false, false, 0, 0⟩,
 ⟨⟨(.indexAddrS 2), [.tmp 48, .tmp 49], (some 50), none⟩, false, false, 0, 0⟩,
 ⟨⟨(.load true 2), [.tmp 50], (some 51), none⟩, false, false, 0, 0⟩,
 ⟨⟨(.indexAddrS 2), [.tmp 36, .tmp 37], (some 52), none⟩, false, false, 0, 0⟩,
 ⟨⟨(.store 2), [.tmp 52, .tmp 47], none, none⟩, true, false, 0, 1⟩,
 ⟨⟨(.indexAddrS 2), [.tmp 38, .tmp 41], (some 53), none⟩, false, false, 1, 1⟩,
 ⟨⟨(.store 2), [.tmp 53, .tmp 51], none, none⟩, true, false, 1, 2⟩])
 (.seqR [⟨.move, [.tmp 0], (some 54), none⟩,
 ⟨.move, [.tmp 9], (some 55), none⟩,
 ⟨.move, [.tmp 12], (some 56), none⟩,
 ⟨.move, [.tmp 8], (some 57), none⟩,
 ⟨.move, [.tmp 3], (some 58), none⟩,
 ⟨(.callF 41), [.tmp 54, .tmp 55, .tmp 56, .tmp 57, .tmp 58], (some 59), none⟩])))
 (.seqR [⟨.move, [.tmp 12], (some 34), none⟩,
 ⟨(.bin .sub), [.tmp 34, .const (.int .i64 1)], (some 35), none⟩,
 ⟨.move, [.tmp 35], (some 12), none⟩])))))))))), []⟩
theorem c31_ok : compFunc Try.prog Try.f31 = some c31 := by kernel_rfl
theorem c31_body : hasBody Try.prog 31 = true := hasBody_of Try.func31 (by kernel_rfl)
/-- slices.breakPatternsCmpFunc[coachyard/diary.edge] -/
def c32 : PFn := ⟨67, Tr.ofList (List.replicate 67 undefA), (.seq (.seqR [⟨.move, [.tmp 2], (some 13), none⟩,
 ⟨.move, [.tmp 1], (some 14), none⟩,
 ⟨(.bin .sub), [.tmp 13, .tmp 14], (some 15), none⟩,
 ⟨.move, [.tmp 15], (some 8), none⟩])
 (.seq (.seqR [⟨.move, [.tmp 8], (some 16), none⟩,
 ⟨(.bin .geq), [.tmp 16, .const (.int .i64 8)], (some 17), none⟩])
 (.cond (.tmp 17) (.seq (.seqR [⟨.move, [.tmp 8], (some 18), none⟩,
 ⟨(.conv .u64), [.tmp 18], (some 19), none⟩,
 ⟨(.new [(.int .u64 0)]), [], (some 9), none⟩,
 ⟨(.store 1), [.tmp 9, .tmp 19], none, none⟩])
 (.seq (.seqR [⟨.move, [.tmp 8], (some 20), none⟩,
 ⟨(.callF 42), [.tmp 20], (some 21), none⟩,
 ⟨.move, [.tmp 21], (some 10), none⟩])
 (.seq (.seqR [⟨.move, [.tmp 1], (some 22), none⟩,
 ⟨.move, [.tmp 8], (some 23), none⟩,
 ⟨(.bin .quo), [.tmp 23, .const (.int .i64 4)], (some 24), none⟩,
 ⟨(.bin .mul), [.tmp 24, .const (.int .i64 2)], (some 25), none⟩,
 ⟨(.bin .add), [.tmp 22, .tmp 25], (some 26), none⟩,
 ⟨(.bin .sub), [.tmp 26, .const (.int .i64 1)], (some 27), none⟩,
 ⟨.move, [.tmp 27], (some 11), none⟩])
 (.block 0 (.loop (.seq (.seq (.seqR [⟨.move, [.tmp 11], (some 28), none⟩,
 ⟨.move, [.tmp 1], (some 29), none⟩,
 ⟨.move, [.tmp 8], (some 30), none⟩,
 ⟨(.bin .quo), [.tmp 30, .const (.int .i64 4)], (some 31), none⟩,
 ⟨(.bin .mul), [.tmp 31, .const (.int .i64 2)], (some 32), none⟩,
 ⟨(.bin .add), [.tmp 29, .tmp 32], (some 33), none⟩,
 ⟨(.bin .add), [.tmp 33, .const (.int .i64 1)], (some 34), none⟩,
 ⟨(.bin .leq), [.tmp 28, .tmp 34], (some 35), none⟩])
 (.cond (.tmp 35) .skip
 (.exit 0)))
 (.seq (.block 1 (.seq (.seqR [⟨(.callF 43), [.tmp 9], (some 38), none⟩,
 ⟨.move, [.tmp 10], (some 39), none⟩,
 ⟨(.bin .sub), [.tmp 39, .const (.int .u64 1)], (some 40), none⟩,
 ⟨(.bin .and), [.tmp 38, .tmp 40], (some 41), none⟩,
 ⟨(.conv .i64), [.tmp 41], (some 42), none⟩,
 ⟨.move, [.tmp 42], (some 12), none⟩])
 (.seq (.seq (.seqR [⟨.move, [.tmp 12], (some 43), none⟩,
 ⟨.move, [.tmp 8], (some 44), none⟩,
 ⟨(.bin .geq), [.tmp 43, .tmp 44], (some 45), none⟩])
 (.cond (.tmp 45) (.seqR [⟨.move, [.tmp 12], (some 46), none⟩,
 ⟨.move, [.tmp 8], (some 47), none⟩,
 ⟨(.bin .sub), [.tmp 46, .tmp 47], (some 48), none⟩,
 ⟨.move, [.tmp 48], (some 12), none⟩])
 .skip))
 (.drawR [⟨⟨.move, [.tmp 0], (some 49), none⟩, false, false, 0, 0⟩,
 ⟨⟨.move, [.tmp 11], (some 50), none⟩, false, false, 0, 0⟩,
 ⟨⟨.move, [.tmp 0], (some 51), none⟩, false, false, 0, 1⟩,
 ⟨⟨.move, [.tmp 1], (some 52), none⟩, false, false, 0, 1⟩,
 ⟨⟨.move, [.tmp 12], (some 53), none⟩, false, false, 0, 1⟩,
 ⟨⟨(.bin .add), [.tmp 52, .tmp 53], (some 54), none⟩, false, false, 0, 1⟩,
 ⟨⟨.move, [.tmp 0], (some 55), none⟩, false, false, 0, 0⟩,
 ⟨⟨.move, [.tmp 1], (some 56), none⟩, false, false, 0, 0⟩,
 ⟨⟨.move, [.tmp 12], (some 57), none⟩, false, false, 0, 0⟩,
 ⟨⟨(.bin .add), [.tmp 56, .tmp 57], (some 58), none⟩, false, false, 0, 0⟩,
 ⟨⟨(.indexAddrS 2), [.tmp 55, .tmp 58], (some 59), none⟩, false, false, 0, 0⟩,
 ⟨⟨(.load true 2), [.tmp 59], (some 60), none⟩, false, false, 0, 0⟩,
 ⟨⟨.move, [.tmp 0], (some 61), none⟩, false, false, 0, 0⟩,
 ⟨⟨.move, [.tmp 11], (some 62), none⟩, false, false, 0, 0⟩,
 ⟨⟨(.indexAddrS 2), [.tmp 61, .tmp 62], (some 63), none⟩, false, false, 0, 0⟩,
 ⟨⟨(.load true 2), [.tmp 63], (some 64), none⟩, false, false, 0, 0⟩,
 ⟨⟨(.indexAddrS 2), [.tmp 49, .tmp 50], (some 65), none⟩, false, false, 0, 0⟩,
 ⟨⟨(.store 2), [.tmp 65, .tmp 60], none, none⟩, true, false, 0, 1⟩,
 ⟨⟨(.indexAddrS 2), [.tmp 51, .tmp 54], (some 66), none⟩, false, false, 1, 1⟩,
 ⟨⟨(.store 2), [.tmp 66, .tmp 64], none, none⟩, true, false, 1, 2⟩]))))
 (.seqR [⟨.move, [.tmp 11], (some 36), none⟩,
 ⟨(.bin .add), [.tmp 36, .const (.int .i64 1)], (some 37), none⟩,
 ⟨.move, [.tmp 37], (some 11), none⟩]))))))))
 .skip))), []⟩
theorem c32_ok : compFunc Try.prog Try.f32 = some c32 := by kernel_rfl
theorem c32_body : hasBody Try.prog 32 = true := hasBody_of Try.func32 (by kernel_rfl)
/-- slices.choosePivotCmpFunc[coachyard/diary.edge] -/
def c33 : PFn := ⟨63, Tr.ofList (List.replicate 63 undefA), (.seq (.seqR [⟨.move, [.const (.int .i64 0)], (some 8), none⟩,
 ⟨.move, [.const (.int .i64 0)], (some 9), none⟩])
 (.seq (.seqR [⟨.move, [.tmp 2], (some 15), none⟩,
 ⟨.move, [.tmp 1], (some 16), none⟩,
 ⟨(.bin .sub), [.tmp 15, .tmp 16], (some 17), none⟩,
 ⟨.move, [.tmp 17], (some 10), none⟩])
 (.seq (.seqR [⟨(.new [(.int .i64 0)]), [], (some 11), none⟩])
 (.seq (.seqR [⟨.move, [.tmp 1], (some 18), none⟩,
 ⟨.move, [.tmp 10], (some 19), none⟩,
 ⟨(.bin .quo), [.tmp 19, .const (.int .i64 4)], (some 20), none⟩,
 ⟨(.bin .mul), [.tmp 20, .const (.int .i64 1)], (some 21), none⟩,
 ⟨(.bin .add), [.tmp 18, .tmp 21], (some 22), none⟩,
 ⟨.move, [.tmp 22], (some 12), none⟩])
 (.seq (.seqR [⟨.move, [.tmp 1], (some 23), none⟩,
 ⟨.move, [.tmp 10], (some 24), none⟩,
 ⟨(.bin .quo), [.tmp 24, .const (.int .i64 4)], (some 25), none⟩,
 ⟨(.bin .mul), [.tmp 25, .const (.int .i64 2)], (some 26), none⟩,
 ⟨(.bin .add), [.tmp 23, .tmp 26], (some 27), none⟩,
 ⟨.move, [.tmp 27], (some 13), none⟩])
 (.seq (.seqR [⟨.move, [.tmp 1], (some 28), none⟩,
 ⟨.move, [.tmp 10], (some 29), none⟩,
 ⟨(.bin .quo), [.tmp 29, .const (.int .i64 4)], (some 30), none⟩,
 ⟨(.bin .mul), [.tmp 30, .const (.int .i64 3)], (some 31), none⟩,
 ⟨(.bin .add), [.tmp 28, .tmp 31], (some 32), none⟩,
 ⟨.move, [.tmp 32], (some 14), none⟩])
 (.seq (.seq (.seqR [⟨.move, [.tmp 10], (some 33), none⟩,
 ⟨(.bin .geq), [.tmp 33, .const (.int .i64 8)], (some 34), none⟩])
 (.cond (.tmp 34) (.seq (.seq (.seqR [⟨.move, [.tmp 10], (some 35), none⟩,
 ⟨(.bin .geq), [.tmp 35, .const (.int .i64 50)], (some 36), none⟩])
 (.cond (.tmp 36) (.seq (.seqR [⟨.move, [.tmp 0], (some 37), none⟩,
 ⟨.move, [.tmp 12], (some 38), none⟩,
 ⟨.move, [.tmp 3], (some 39), none⟩,
 ⟨(.callF 44), [.tmp 37, .tmp 38, .tmp 11, .tmp 39], (some 40), none⟩,
 ⟨.move, [.tmp 40], (some 12), none⟩])
 (.seq (.seqR [⟨.move, [.tmp 0], (some 41), none⟩,
 ⟨.move, [.tmp 13], (some 42), none⟩,
 ⟨.move, [.tmp 3], (some 43), none⟩,
 ⟨(.callF 44), [.tmp 41, .tmp 42, .tmp 11, .tmp 43], (some 44), none⟩,
 ⟨.move, [.tmp 44], (some 13), none⟩])
 (.seqR [⟨.move, [.tmp 0], (some 45), none⟩,
 ⟨.move, [.tmp 14], (some 46), none⟩,
 ⟨.move, [.tmp 3], (some 47), none⟩,
 ⟨(.callF 44), [.tmp 45, .tmp 46, .tmp 11, .tmp 47], (some 48), none⟩,
 ⟨.move, [.tmp 48], (some 14), none⟩])))
 .skip))
 (.seqR [⟨.move, [.tmp 0], (some 49), none⟩,
 ⟨.move, [.tmp 12], (some 50), none⟩,
 ⟨.move, [.tmp 13], (some 51), none⟩,
 ⟨.move, [.tmp 14], (some 52), none⟩,
 ⟨.move, [.tmp 3], (some 53), none⟩,
 ⟨(.callF 45), [.tmp 49, .tmp 50, .tmp 51, .tmp 52, .tmp 11, .tmp 53], (some 54), none⟩,
 ⟨.move, [.tmp 54], (some 13), none⟩]))
 .skip))
 (.seq (.seqR [⟨(.load false 1), [.tmp 11], (some 55), none⟩])
 (.block 0 (.seq (.seqR [⟨(.bin .eql), [.tmp 55, .const (.int .i64 0)], (some 58), none⟩,
 ⟨.move, [.tmp 58], (some 57), none⟩])
 (.cond (.tmp 57) (.seq (.seqR [⟨.move, [.tmp 13], (some 59), none⟩,
 ⟨.move, [.tmp 59], (some 8), none⟩,
 ⟨.move, [.const (.int .i64 1)], (some 9), none⟩])
 .ret)
 (.seq (.seqR [⟨(.bin .eql), [.tmp 55, .const (.int .i64 12)], (some 61), none⟩,
 ⟨.move, [.tmp 61], (some 60), none⟩])
 (.cond (.tmp 60) (.seq (.seqR [⟨.move, [.tmp 13], (some 62), none⟩,
 ⟨.move, [.tmp 62], (some 8), none⟩,
 ⟨.move, [.const (.int .i64 2)], (some 9), none⟩])
 .ret)
 (.seq (.seqR [⟨.move, [.tmp 13], (some 56), none⟩,
 ⟨.move, [.tmp 56], (some 8), none⟩,
 ⟨.move, [.const (.int .i64 0)], (some 9), none⟩])
 .ret)))))))))))))), [.tmp 8, .tmp 9]⟩
theorem c33_ok : compFunc Try.prog Try.f33 = some c33 := by kernel_rfl
theorem c33_body : hasBody Try.prog 33 = true := hasBody_of Try.func33 (by kernel_rfl)
/-- slices.reverseRangeCmpFunc[coachyard/diary.edge] -/
def c34 : PFn := ⟨34, Tr.ofList (List.replicate 34 undefA), (.seq (.seqR [⟨.move, [.tmp 1], (some 10), none⟩,
 ⟨.move, [.tmp 10], (some 8), none⟩])
 (.seq (.seqR [⟨.move, [.tmp 2], (some 11), none⟩,
 ⟨(.bin .sub), [.tmp 11, .const (.int .i64 1)], (some 12), none⟩,
 ⟨.move, [.tmp 12], (some 9), none⟩])
 (.block 0 (.loop (.seq (.seq (.seqR [⟨.move, [.tmp 8], (some 13), none⟩,
 ⟨.move, [.tmp 9], (some 14), none⟩,
 ⟨(.bin .lss), [.tmp 13, .tmp 14], (some 15), none⟩])
 (.cond (.tmp 15) .skip
 (.exit 0)))
 (.block 1 (.seq (.drawR [⟨⟨.move, [.tmp 0], (some 16), none⟩, false, false, 0, 0⟩,
 ⟨⟨.move, [.tmp 8], (some 17), none⟩, false, false, 0, 0⟩,
 ⟨⟨.move, [.tmp 0], (some 18), none⟩, false, false, 0, 1⟩,
 ⟨⟨.move, [.tmp 9], (some 19), none⟩, false, false, 0, 1⟩,
 ⟨⟨.move, [.tmp 0], (some 20), none⟩, false, false, 0, 0⟩,
 ⟨⟨.move, [.tmp 9], (some 21), none⟩, false, false, 0, 0⟩,
 ⟨⟨(.indexAddrS 2), [.tmp 20, .tmp 21], (some 22), none⟩, false, false, 0, 0⟩,
 ⟨⟨(.load true 2), [.tmp 22], (some 23), none⟩, false, false, 0, 0⟩,
 ⟨⟨.move, [.tmp 0], (some 24), none⟩, false, false, 0, 0⟩,
 ⟨⟨.move, [.tmp 8], (some 25), none⟩, false, false, 0, 0⟩,
 ⟨⟨(.indexAddrS 2), [.tmp 24, .tmp 25], (some 26), none⟩, false, false, 0, 0⟩,
 ⟨⟨(.load true 2), [.tmp 26], (some 27), none⟩, false, false, 0, 0⟩,
 ⟨⟨(.indexAddrS 2), [.tmp 16, .tmp 17], (some 28), none⟩, false, false, 0, 0⟩,
 ⟨⟨(.store 2), [.tmp 28, .tmp 23], none, none⟩, true, false, 0, 1⟩,
 ⟨⟨(.indexAddrS 2), [.tmp 18, .tmp 19], (some 29), none⟩, false, false, 1, 1⟩,
 ⟨⟨(.store 2), [.tmp 29, .tmp 27], none, none⟩, true, false, 1, 2⟩])
 (.seq (.seqR [⟨.move, [.tmp 8], (some 30), none⟩,
 ⟨(.bin .add), [.tmp 30, .const (.int .i64 1)], (some 31), none⟩,
 ⟨.move, [.tmp 31], (some 8), none⟩])
 (.seqR [⟨.move, [.tmp 9], (some 32), none⟩,
 ⟨(.bin .sub), [.tmp 32, .const (.int .i64 1)], (some 33), none⟩,
 ⟨.move, [.tmp 33], (some 9), none⟩]))))))))), []⟩
theorem c34_ok : compFunc Try.prog Try.f34 = some c34 := by kernel_rfl
theorem c34_body : hasBody Try.prog 34 = true := hasBody_of Try.func34 (by kernel_rfl)
/-- slices.partialInsertionSortCmpFunc[coachyard/diary.edge] -/
def c35 : PFn := ⟨141, Tr.ofList (List.replicate 141 undefA), (.seq (.seqR [⟨.move, [.const (.bool false)], (some 8), none⟩])
 (.seq (.seqR [⟨.move, [.tmp 1], (some 13), none⟩,
 ⟨(.bin .add), [.tmp 13, .const (.int .i64 1)], (some 14), none⟩,
 ⟨.move, [.tmp 14], (some 9), none⟩])
 (.seq (.seq (.seqR [⟨.move, [.const (.int .i64 0)], (some 10), none⟩])
 (.block 0 (.loop (.seq (.seq (.seqR [⟨.move, [.tmp 10], (some 15), none⟩,
 ⟨(.bin .lss), [.tmp 15, .const (.int .i64 5)], (some 16), none⟩])
 (.cond (.tmp 16) .skip
 (.exit 0)))
 (.seq (.block 1 (.seq (.block 2 (.loop (.seq (.seq (.drawR [⟨⟨.move, [.tmp 9], (some 19), none⟩, false, false, 0, 0⟩,
 ⟨⟨.move, [.tmp 2], (some 20), none⟩, false, false, 0, 0⟩,
 ⟨⟨(.bin .lss), [.tmp 19, .tmp 20], (some 21), none⟩, false, false, 0, 0⟩,
 ⟨⟨.move, [.tmp 21], (some 22), none⟩, false, false, 0, 0⟩,
 ⟨⟨.move, [.tmp 3], (some 23), some (22, true)⟩, false, false, 0, 0⟩,
 ⟨⟨.move, [.tmp 0], (some 24), some (22, true)⟩, false, false, 0, 0⟩,
 ⟨⟨.move, [.tmp 9], (some 25), some (22, true)⟩, false, false, 0, 0⟩,
 ⟨⟨(.indexAddrS 2), [.tmp 24, .tmp 25], (some 26), some (22, true)⟩, false, false, 0, 0⟩,
 ⟨⟨(.load true 2), [.tmp 26], (some 27), some (22, true)⟩, false, false, 0, 0⟩,
 ⟨⟨.move, [.tmp 0], (some 28), some (22, true)⟩, false, false, 0, 0⟩,
 ⟨⟨.move, [.tmp 9], (some 29), some (22, true)⟩, false, false, 0, 0⟩,
 ⟨⟨(.bin .sub), [.tmp 29, .const (.int .i64 1)], (some 30), some (22, true)⟩, false, false, 0, 0⟩,
 ⟨⟨(.indexAddrS 2), [.tmp 28, .tmp 30], (some 31), some (22, true)⟩, false, false, 0, 0⟩,
 ⟨⟨(.load true 2), [.tmp 31], (some 32), some (22, true)⟩, false, false, 0, 0⟩,
 ⟨⟨.callV, [.tmp 23, .tmp 27, .tmp 32], (some 33), some (22, true)⟩, true, false, 0, 1⟩,
 ⟨⟨(.bin .lss), [.tmp 33, .const (.int .i64 0)], (some 34), some (22, true)⟩, false, false, 1, 1⟩,
 ⟨⟨.not, [.tmp 34], (some 35), some (22, true)⟩, false, false, 1, 1⟩,
 ⟨⟨.pick, [.tmp 22, .tmp 35, .const (.bool false)], (some 36), none⟩, false, false, 1, 1⟩])
 (.cond (.tmp 36) .skip
 (.exit 2)))
 (.block 3 (.seqR [⟨.move, [.tmp 9], (some 37), none⟩,
 ⟨(.bin .add), [.tmp 37, .const (.int .i64 1)], (some 38), none⟩,
 ⟨.move, [.tmp 38], (some 9), none⟩])))))
 (.seq (.seq (.seqR [⟨.move, [.tmp 9], (some 39), none⟩,
 ⟨.move, [.tmp 2], (some 40), none⟩,
 ⟨(.bin .eql), [.tmp 39, .tmp 40], (some 41), none⟩])
 (.cond (.tmp 41) (.seq (.seqR [⟨.move, [.const (.bool true)], (some 8), none⟩])
 .ret)
 .skip))
 (.seq (.seq (.seqR [⟨.move, [.tmp 2], (some 42), none⟩,
 ⟨.move, [.tmp 1], (some 43), none⟩,
 ⟨(.bin .sub), [.tmp 42, .tmp 43], (some 44), none⟩,
 ⟨(.bin .lss), [.tmp 44, .const (.int .i64 50)], (some 45), none⟩])
 (.cond (.tmp 45) (.seq (.seqR [⟨.move, [.const (.bool false)], (some 8), none⟩])
 .ret)
 .skip))
 (.seq (.drawR [⟨⟨.move, [.tmp 0], (some 46), none⟩, false, false, 0, 0⟩,
 ⟨⟨.move, [.tmp 9], (some 47), none⟩, false, false, 0, 0⟩,
 ⟨⟨.move, [.tmp 0], (some 48), none⟩, false, false, 0, 1⟩,
 ⟨⟨.move, [.tmp 9], (some 49), none⟩, false, false, 0, 1⟩,
 ⟨⟨(.bin .sub), [.tmp 49, .const (.int .i64 1)], (some 50), none⟩, false, false, 0, 1⟩,
 ⟨⟨.move, [.tmp 0], (some 51), none⟩, false, false, 0, 0⟩,
 ⟨⟨.move, [.tmp 9], (some 52), none⟩, false, false, 0, 0⟩,
 ⟨⟨(.bin .sub), [.tmp 52, .const (.int .i64 1)], (some 53), none⟩, false, false, 0, 0⟩,
 ⟨⟨(.indexAddrS 2), [.tmp 51, .tmp 53], (some 54), none⟩, false, false, 0, 0⟩,
 ⟨⟨(.load true 2), [.tmp 54], (some 55), none⟩, false, false, 0, 0⟩,
 ⟨⟨.move, [.tmp 0], (some 56), none⟩, false, false, 0, 0⟩,
 ⟨⟨.move, [.tmp 9], (some 57), none⟩, false, false, 0, 0⟩,
 ⟨⟨(.indexAddrS 2), [.tmp 56, .tmp 57], (some 58), none⟩, false, false, 0, 0⟩,
 ⟨⟨(.load true 2), [.tmp 58], (some 59), none⟩, false, false, 0, 0⟩,
 ⟨⟨(.indexAddrS 2), [.tmp 46, .tmp 47], (some 60), none⟩, false, false, 0, 0⟩,
 ⟨⟨(.store 2), [.tmp 60, .tmp 55], none, none⟩, true, false, 0, 1⟩,
 ⟨⟨(.indexAddrS 2), [.tmp 48, .tmp 50], (some 61), none⟩, false, false, 1, 1⟩,
 ⟨⟨(.store 2), [.tmp 61, .tmp 59], none, none⟩, true, false, 1, 2⟩])
 (.seq (.seq (.seqR [⟨.move, [.tmp 9], (some 62), none⟩,
 ⟨.move, [.tmp 1], (some 63), none⟩,
 ⟨(.bin .sub), [.tmp 62, .tmp 63], (some 64), none⟩,
 ⟨(.bin .geq), [.tmp 64, .const (.int .i64 2)], (some 65), none⟩])
 (.cond (.tmp 65) (.seq (.seqR [⟨.move, [.tmp 9], (some 66), none⟩,
 ⟨(.bin .sub), [.tmp 66, .const (.int .i64 1)], (some 67), none⟩,
 ⟨.move, [.tmp 67], (some 11), none⟩])
 (.block 4 (.loop (.seq (.seq (.seqR [⟨.move, [.tmp 11], (some 68), none⟩,
 ⟨(.bin .geq), [.tmp 68, .const (.int .i64 1)], (some 69), none⟩])
 (.cond (.tmp 69) .skip
 (.exit 4)))
 (.seq (.block 5 (.seq (.seq (.drawR [⟨⟨.move, [.tmp 3], (some 72), none⟩, false, false, 0, 0⟩,
 ⟨⟨.move, [.tmp 0], (some 73), none⟩, false, false, 0, 0⟩,
 ⟨⟨.move, [.tmp 11], (some 74), none⟩, false, false, 0, 0⟩,
 ⟨⟨(.indexAddrS 2), [.tmp 73, .tmp 74], (some 75), none⟩, false, false, 0, 0⟩,
 ⟨⟨(.load true 2), [.tmp 75], (some 76), none⟩, false, false, 0, 0⟩,
 ⟨⟨.move, [.tmp 0], (some 77), none⟩, false, false, 0, 0⟩,
 ⟨⟨.move, [.tmp 11], (some 78), none⟩, false, false, 0, 0⟩,
 ⟨⟨(.bin .sub), [.tmp 78, .const (.int .i64 1)], (some 79), none⟩, false, false, 0, 0⟩,
 ⟨⟨(.indexAddrS 2), [.tmp 77, .tmp 79], (some 80), none⟩, false, false, 0, 0⟩,
 ⟨⟨(.load true 2), [.tmp 80], (some 81), none⟩, false, false, 0, 0⟩,
 ⟨⟨.callV, [.tmp 72, .tmp 76, .tmp 81], (some 82), none⟩, true, false, 0, 1⟩,
 ⟨⟨(.bin .lss), [.tmp 82, .const (.int .i64 0)], (some 83), none⟩, false, false, 1, 1⟩,
 ⟨⟨.not, [.tmp 83], (some 84), none⟩, false, false, 1, 1⟩])
 (.cond (.tmp 84) (.exit 4)
 .skip))
 (.drawR [⟨⟨.move, [.tmp 0], (some 85), none⟩, false, false, 0, 0⟩,
 ⟨⟨.move, [.tmp 11], (some 86), none⟩, false, false, 0, 0⟩,
 ⟨⟨.move, [.tmp 0], (some 87), none⟩, false, false, 0, 1⟩,
 ⟨⟨.move, [.tmp 11], (some 88), none⟩, false, false, 0, 1⟩,
 ⟨⟨(.bin .sub), [.tmp 88, .const (.int .i64 1)], (some 89), none⟩, false, false, 0, 1⟩,
 ⟨⟨.move, [.tmp 0], (some 90), none⟩, false, false, 0, 0⟩,
 ⟨⟨.move, [.tmp 11], (some 91), none⟩, false, false, 0, 0⟩,
 ⟨⟨(.bin .sub), [.tmp 91, .const (.int .i64 1)], (some 92), none⟩, false, false, 0, 0⟩,
 ⟨⟨(.indexAddrS 2), [.tmp 90, .tmp 92], (some 93), none⟩, false, false, 0, 0⟩,
 ⟨⟨(.load true 2), [.tmp 93], (some 94), none⟩, false, false, 0, 0⟩,
 ⟨⟨.move, [.tmp 0], (some 95), none⟩, false, false, 0, 0⟩,
 ⟨⟨.move, [.tmp 11], (some 96), none⟩, false, false, 0, 0⟩,
 ⟨⟨(.indexAddrS 2), [.tmp 95, .tmp 96], (some 97), none⟩, false, false, 0, 0⟩,
 ⟨⟨(.load true 2), [.tmp 97], (some 98), none⟩, false, false, 0, 0⟩,
 ⟨⟨(.indexAddrS 2), [.tmp 85, .tmp 86], (some 99), none⟩, false, false, 0, 0⟩,
 ⟨⟨(.store 2), [.tmp 99, .tmp 94], none, none⟩, true, false, 0, 1⟩,
 ⟨⟨(.indexAddrS 2), [.tmp 87, .tmp 89], (some 100), none⟩, false, false, 1, 1⟩,
 ⟨⟨(.store 2), [.tmp 100, .tmp 98], none, none⟩, true, false, 1, 2⟩])))
 (.seqR [⟨.move, [.tmp 11], (some 70), none⟩,
 ⟨(.bin .sub), [.tmp 70, .const (.int .i64 1)], (some 71), none⟩,
 ⟨.move, [.tmp 71], (some 11), none⟩]))))))
 .skip))
 (.seq (.seqR [⟨.move, [.tmp 2], (some 101), none⟩,
 ⟨.move, [.tmp 9], (some 102), none⟩,
 ⟨(.bin .sub), [.tmp 101, .tmp 102], (some 103), none⟩,
 ⟨(.bin .geq), [.tmp 103, .const (.int .i64 2)], (some 104), none⟩])
 (.cond (.tmp 104) (.seq (.seqR [⟨.move, [.tmp 9], (some 105), none⟩,
 ⟨(.bin .add), [.tmp 105, .const (.int .i64 1)], (some 106), none⟩,
 ⟨.move, [.tmp 106], (some 12), none⟩])
 (.block 6 (.loop (.seq (.seq (.seqR [⟨.move, [.tmp 12], (some 107), none⟩,
 ⟨.move, [.tmp 2], (some 108), none⟩,
 ⟨(.bin .lss), [.tmp 107, .tmp 108], (some 109), none⟩])
 (.cond (.tmp 109) .skip
 (.exit 6)))
 (.seq (.block 7 (.seq (.seq (.drawR [⟨⟨.move, [.tmp 3], (some 112), none⟩, false, false, 0, 0⟩,
 ⟨⟨.move, [.tmp 0], (some 113), none⟩, false, false, 0, 0⟩,
 ⟨⟨.move, [.tmp 12], (some 114), none⟩, false, false, 0, 0⟩,
 ⟨⟨(.indexAddrS 2), [.tmp 113, .tmp 114], (some 115), none⟩, false, false, 0, 0⟩,
 ⟨⟨(.load true 2), [.tmp 115], (some 116), none⟩, false, false, 0, 0⟩,
 ⟨⟨.move, [.tmp 0], (some 117), none⟩, false, false, 0, 0⟩,
 ⟨⟨.move, [.tmp 12], (some 118), none⟩, false, false, 0, 0⟩,
 ⟨⟨(.bin .sub), [.tmp 118, .const (.int .i64 1)], (some 119), none⟩, false, false, 0, 0⟩,
 ⟨⟨(.indexAddrS 2), [.tmp 117, .tmp 119], (some 120), none⟩, false, false, 0, 0⟩,
 ⟨⟨(.load true 2), [.tmp 120], (some 121), none⟩, false, false, 0, 0⟩,
 ⟨⟨.callV, [.tmp 112, .tmp 116, .tmp 121], (some 122), none⟩, true, false, 0, 1⟩,
 ⟨⟨(.bin .lss), [.tmp 122, .const (.int .i64 0)], (some 123), none⟩, false, false, 1, 1⟩,
 ⟨⟨.not, [.tmp 123], (some 124), none⟩, false, false, 1, 1⟩])
 (.cond (.tmp 124) (.exit 6)
 .skip))
 (.drawR [⟨⟨.move, [.tmp 0], (some 125), none⟩, false, false, 0, 0⟩,
 ⟨⟨.move, [.tmp 12], (some 126), none⟩, false, false, 0, 0⟩,
 ⟨⟨.move, [.tmp 0], (some 127), none⟩, false, false, 0, 1⟩,
 ⟨⟨.move, [.tmp 12], (some 128), none⟩, false, false, 0, 1⟩,
 ⟨⟨(.bin .sub), [.tmp 128, .const (.int .i64 1)], (some 129), none⟩, false, false, 0, 1⟩,
 ⟨⟨.move, [.tmp 0], (some 130), none⟩, false, false, 0, 0⟩,
 ⟨⟨.move, [.tmp 12], (some 131), none⟩, false, false, 0, 0⟩,
 ⟨⟨(.bin .sub), [.tmp 131, .const (.int .i64 1)], (some 132), none⟩, false, false, 0, 0⟩,
 ⟨⟨(.indexAddrS 2), [.tmp 130, .tmp 132], (some 133), none⟩, false, false, 0, 0⟩,
 ⟨⟨(.load true 2), [.tmp 133], (some 134), none⟩, false, false, 0, 0⟩,
 ⟨⟨.move, [.tmp 0], (some 135), none⟩, false, false, 0, 0⟩,
 ⟨⟨.move, [.tmp 12], (some 136), none⟩, false, false, 0, 0⟩,
 ⟨⟨(.indexAddrS 2), [.tmp 135, .tmp 136], (some 137), none⟩, false, false, 0, 0⟩,
 ⟨⟨(.load true 2), [.tmp 137], (some 138), none⟩, false, false, 0, 0⟩,
 ⟨⟨(.indexAddrS 2), [.tmp 125, .tmp 126], (some 139), none⟩, false, false, 0, 0⟩,
 ⟨⟨(.store 2), [.tmp 139, .tmp 134], none, none⟩, true, false, 0, 1⟩,
 ⟨⟨(.indexAddrS 2), [.tmp 127, .tmp 129], (some 140), none⟩, false, false, 1, 1⟩,
 ⟨⟨(.store 2), [.tmp 140, .tmp 138], none, none⟩, true, false, 1, 2⟩])))
 (.seqR [⟨.move, [.tmp 12], (some 110), none⟩,
 ⟨(.bin .add), [.tmp 110, .const (.int .i64 1)], (some 111), none⟩,
 ⟨.move, [.tmp 111], (some 12), none⟩]))))))
 .skip))))))))
 (.seqR [⟨.move, [.tmp 10], (some 17), none⟩,
 ⟨(.bin .add), [.tmp 17, .const (.int .i64 1)], (some 18), none⟩,
 ⟨.move, [.tmp 18], (some 10), none⟩]))))))
 (.seq (.seqR [⟨.move, [.const (.bool false)], (some 8), none⟩])
 .ret)))), [.tmp 8]⟩
theorem c35_ok : compFunc Try.prog Try.f35 = some c35 := by kernel_rfl
theorem c35_body : hasBody Try.prog 35 = true := hasBody_of Try.func35 (by kernel_rfl)
end Go.Proofs.Ytgjamfkmaccgaaa
