/- The code of the small machine for some of the program's functions: printed by program; each is what the rules make of the program's own. -/
import Derived.Test.YtbgjoakkoajmoabVx16
import Derived.Test.YtbgjoakkoajmoabProg
import Derived.KernelRfl
namespace Go.Proofs.Ytbgjoakkoajmoab
open Go Go.Vx Go.Proofs
/-- coachyard/coachyardlaw20.AuditNil -/
def c7 : PFn := ⟨137, Tr.ofList (List.replicate 137 undefA), (.seq (.seqR [⟨.box, [.tmp 0], (some 1), none⟩,
 ⟨.move, [.const (.bool false)], (some 2), none⟩])
 (.seq (.seq (.seqR [⟨(.callF 28), [], (some 22), none⟩,
 ⟨.not, [.tmp 22], (some 23), none⟩])
 (.cond (.tmp 23) (.seq (.seqR [⟨.move, [.const (.bool false)], (some 2), none⟩])
 .ret)
 .skip))
 (.seq (.seqR [⟨(.callF 29), [.const (.int .i64 1)], (some 25), none⟩,
 ⟨.move, [.tmp 25], (some 24), none⟩,
 ⟨(.extract 0), [.tmp 24], (some 26), none⟩,
 ⟨(.extract 1), [.tmp 24], (some 27), none⟩,
 ⟨.move, [.tmp 26], (some 3), none⟩,
 ⟨.move, [.tmp 27], (some 4), none⟩])
 (.seq (.seqR [⟨(.load true 4), [.tmp 1], (some 29), none⟩,
 ⟨(.callF 30), [.tmp 29], (some 30), none⟩,
 ⟨.move, [.tmp 30], (some 28), none⟩,
 ⟨(.extract 0), [.tmp 28], (some 31), none⟩,
 ⟨(.extract 1), [.tmp 28], (some 32), none⟩,
 ⟨(.new [(.int .i64 0), (.int .i64 0), (.int .i64 0), (.int .i64 0)]), [], (some 5), none⟩,
 ⟨(.store 4), [.tmp 5, .tmp 31], none, none⟩,
 ⟨.move, [.tmp 32], (some 6), none⟩])
 (.seq (.seqR [⟨(.load true 4), [.tmp 5], (some 34), none⟩,
 ⟨(.callF 31), [.tmp 34, .const (.ptr none)], (some 35), none⟩,
 ⟨.move, [.tmp 35], (some 33), none⟩,
 ⟨(.extract 0), [.tmp 33], (some 36), none⟩,
 ⟨(.extract 1), [.tmp 33], (some 37), none⟩,
 ⟨.move, [.tmp 36], (some 7), none⟩,
 ⟨.move, [.tmp 37], (some 8), none⟩])
 (.seq (.seqR [⟨(.load true 4), [.tmp 5], (some 39), none⟩,
 ⟨(.callF 32), [.tmp 39, .const (.ptr none)], (some 40), none⟩,
 ⟨.move, [.tmp 40], (some 38), none⟩,
 ⟨(.extract 0), [.tmp 38], (some 41), none⟩,
 ⟨(.extract 1), [.tmp 38], (some 42), none⟩,
 ⟨(.extract 2), [.tmp 38], (some 43), none⟩,
 ⟨.move, [.tmp 41], (some 9), none⟩,
 ⟨.move, [.tmp 42], (some 10), none⟩,
 ⟨.move, [.tmp 43], (some 11), none⟩])
 (.seq (.seqR [⟨(.build [(.int .i64 0), (.int .i64 0), (.int .i64 0), (.int .i64 0)] []), [], (some 45), none⟩,
 ⟨.move, [.tmp 3], (some 46), none⟩,
 ⟨(.callF 31), [.tmp 45, .tmp 46], (some 47), none⟩,
 ⟨.move, [.tmp 47], (some 44), none⟩,
 ⟨(.extract 0), [.tmp 44], (some 48), none⟩,
 ⟨(.extract 1), [.tmp 44], (some 49), none⟩,
 ⟨.move, [.tmp 48], (some 12), none⟩,
 ⟨.move, [.tmp 49], (some 13), none⟩])
 (.seq (.seqR [⟨(.build [(.int .i64 0), (.int .i64 0), (.int .i64 0), (.int .i64 0)] []), [], (some 51), none⟩,
 ⟨.move, [.tmp 3], (some 52), none⟩,
 ⟨(.callF 32), [.tmp 51, .tmp 52], (some 53), none⟩,
 ⟨.move, [.tmp 53], (some 50), none⟩,
 ⟨(.extract 0), [.tmp 50], (some 54), none⟩,
 ⟨(.extract 1), [.tmp 50], (some 55), none⟩,
 ⟨(.extract 2), [.tmp 50], (some 56), none⟩,
 ⟨.move, [.tmp 54], (some 14), none⟩,
 ⟨.move, [.tmp 55], (some 15), none⟩,
 ⟨.move, [.tmp 56], (some 16), none⟩])
 (.seq (.seq (.seqR [⟨.move, [.tmp 7], (some 57), none⟩,
 ⟨.lenS, [.tmp 57], (some 58), none⟩,
 ⟨(.bin .neq), [.tmp 58, .const (.int .i64 0)], (some 59), none⟩,
 ⟨.move, [.tmp 59], (some 60), none⟩,
 ⟨.move, [.tmp 8], (some 61), some (60, false)⟩,
 ⟨(.bin .neq), [.tmp 61, .const (.int .i64 1)], (some 62), some (60, false)⟩,
 ⟨.pick, [.tmp 60, .const (.bool true), .tmp 62], (some 63), none⟩,
 ⟨.move, [.tmp 63], (some 64), none⟩,
 ⟨.move, [.tmp 9], (some 65), some (64, false)⟩,
 ⟨.lenS, [.tmp 65], (some 66), some (64, false)⟩,
 ⟨(.bin .neq), [.tmp 66, .const (.int .i64 0)], (some 67), some (64, false)⟩,
 ⟨.pick, [.tmp 64, .const (.bool true), .tmp 67], (some 68), none⟩,
 ⟨.move, [.tmp 68], (some 69), none⟩,
 ⟨.move, [.tmp 10], (some 70), some (69, false)⟩,
 ⟨.lenS, [.tmp 70], (some 71), some (69, false)⟩,
 ⟨(.bin .neq), [.tmp 71, .const (.int .i64 0)], (some 72), some (69, false)⟩,
 ⟨.pick, [.tmp 69, .const (.bool true), .tmp 72], (some 73), none⟩,
 ⟨.move, [.tmp 73], (some 74), none⟩,
 ⟨.move, [.tmp 11], (some 75), some (74, false)⟩,
 ⟨(.bin .neq), [.tmp 75, .const (.int .i64 1)], (some 76), some (74, false)⟩,
 ⟨.pick, [.tmp 74, .const (.bool true), .tmp 76], (some 77), none⟩,
 ⟨.move, [.tmp 77], (some 78), none⟩,
 ⟨.move, [.tmp 12], (some 79), some (78, false)⟩,
 ⟨.lenS, [.tmp 79], (some 80), some (78, false)⟩,
 ⟨(.bin .neq), [.tmp 80, .const (.int .i64 0)], (some 81), some (78, false)⟩,
 ⟨.pick, [.tmp 78, .const (.bool true), .tmp 81], (some 82), none⟩,
 ⟨.move, [.tmp 82], (some 83), none⟩,
 ⟨.move, [.tmp 13], (some 84), some (83, false)⟩,
 ⟨(.bin .neq), [.tmp 84, .const (.int .i64 2)], (some 85), some (83, false)⟩,
 ⟨.pick, [.tmp 83, .const (.bool true), .tmp 85], (some 86), none⟩,
 ⟨.move, [.tmp 86], (some 87), none⟩,
 ⟨.move, [.tmp 14], (some 88), some (87, false)⟩,
 ⟨.lenS, [.tmp 88], (some 89), some (87, false)⟩,
 ⟨(.bin .neq), [.tmp 89, .const (.int .i64 0)], (some 90), some (87, false)⟩,
 ⟨.pick, [.tmp 87, .const (.bool true), .tmp 90], (some 91), none⟩,
 ⟨.move, [.tmp 91], (some 92), none⟩,
 ⟨.move, [.tmp 15], (some 93), some (92, false)⟩,
 ⟨.lenS, [.tmp 93], (some 94), some (92, false)⟩,
 ⟨(.bin .neq), [.tmp 94, .const (.int .i64 0)], (some 95), some (92, false)⟩,
 ⟨.pick, [.tmp 92, .const (.bool true), .tmp 95], (some 96), none⟩,
 ⟨.move, [.tmp 96], (some 97), none⟩,
 ⟨.move, [.tmp 16], (some 98), some (97, false)⟩,
 ⟨(.bin .neq), [.tmp 98, .const (.int .i64 2)], (some 99), some (97, false)⟩,
 ⟨.pick, [.tmp 97, .const (.bool true), .tmp 99], (some 100), none⟩])
 (.cond (.tmp 100) (.seq (.seqR [⟨.move, [.const (.bool false)], (some 2), none⟩])
 .ret)
 .skip))
 (.seq (.seq (.seqR [⟨.move, [.tmp 6], (some 101), none⟩,
 ⟨(.bin .neq), [.tmp 101, .const (.int .i64 0)], (some 102), none⟩])
 (.cond (.tmp 102) (.seq (.seqR [⟨.move, [.const (.bool true)], (some 2), none⟩])
 .ret)
 .skip))
 (.seq (.seqR [⟨(.load true 4), [.tmp 5], (some 104), none⟩,
 ⟨.move, [.tmp 3], (some 105), none⟩,
 ⟨(.callF 31), [.tmp 104, .tmp 105], (some 106), none⟩,
 ⟨.move, [.tmp 106], (some 103), none⟩,
 ⟨(.extract 0), [.tmp 103], (some 107), none⟩,
 ⟨(.extract 1), [.tmp 103], (some 108), none⟩,
 ⟨.move, [.tmp 107], (some 17), none⟩,
 ⟨.move, [.tmp 108], (some 18), none⟩])
 (.seq (.seqR [⟨(.load true 4), [.tmp 5], (some 110), none⟩,
 ⟨.move, [.tmp 3], (some 111), none⟩,
 ⟨(.callF 32), [.tmp 110, .tmp 111], (some 112), none⟩,
 ⟨.move, [.tmp 112], (some 109), none⟩,
 ⟨(.extract 0), [.tmp 109], (some 113), none⟩,
 ⟨(.extract 1), [.tmp 109], (some 114), none⟩,
 ⟨(.extract 2), [.tmp 109], (some 115), none⟩,
 ⟨.move, [.tmp 113], (some 19), none⟩,
 ⟨.move, [.tmp 114], (some 20), none⟩,
 ⟨.move, [.tmp 115], (some 21), none⟩])
 (.seq (.seqR [⟨.move, [.tmp 17], (some 116), none⟩,
 ⟨.lenS, [.tmp 116], (some 117), none⟩,
 ⟨(.bin .eql), [.tmp 117, .const (.int .i64 0)], (some 118), none⟩,
 ⟨.move, [.tmp 118], (some 119), none⟩,
 ⟨.move, [.tmp 18], (some 120), some (119, true)⟩,
 ⟨(.bin .eql), [.tmp 120, .const (.int .i64 3)], (some 121), some (119, true)⟩,
 ⟨.pick, [.tmp 119, .tmp 121, .const (.bool false)], (some 122), none⟩,
 ⟨.move, [.tmp 122], (some 123), none⟩,
 ⟨.move, [.tmp 19], (some 124), some (123, true)⟩,
 ⟨.lenS, [.tmp 124], (some 125), some (123, true)⟩,
 ⟨(.bin .eql), [.tmp 125, .const (.int .i64 0)], (some 126), some (123, true)⟩,
 ⟨.pick, [.tmp 123, .tmp 126, .const (.bool false)], (some 127), none⟩,
 ⟨.move, [.tmp 127], (some 128), none⟩,
 ⟨.move, [.tmp 20], (some 129), some (128, true)⟩,
 ⟨.lenS, [.tmp 129], (some 130), some (128, true)⟩,
 ⟨(.bin .eql), [.tmp 130, .const (.int .i64 0)], (some 131), some (128, true)⟩,
 ⟨.pick, [.tmp 128, .tmp 131, .const (.bool false)], (some 132), none⟩,
 ⟨.move, [.tmp 132], (some 133), none⟩,
 ⟨.move, [.tmp 21], (some 134), some (133, true)⟩,
 ⟨(.bin .eql), [.tmp 134, .const (.int .i64 3)], (some 135), some (133, true)⟩,
 ⟨.pick, [.tmp 133, .tmp 135, .const (.bool false)], (some 136), none⟩,
 ⟨.move, [.tmp 136], (some 2), none⟩])
 .ret))))))))))))), [.tmp 2]⟩
theorem c7_ok : compFunc Try.prog Try.f7 = some c7 := by kernel_rfl
theorem c7_body : hasBody Try.prog 7 = true := hasBody_of Try.func7 (by kernel_rfl)
/-- coachyard/coachyardlaw20.awake -/
def c28 : PFn := ⟨57, Tr.ofList (List.replicate 57 undefA), (.seq (.seqR [⟨.move, [.const (.bool false)], (some 0), none⟩])
 (.seq (.seqR [⟨(.build [(.int .i64 0), (.int .i64 0), (.int .i64 0), (.int .i64 0)] [(0, 1), (2, 1), (3, 1)]), [.const (.int .i64 2), .const (.int .i64 2), .const (.int .i64 2)], (some 10), none⟩,
 ⟨(.callF 30), [.tmp 10], (some 11), none⟩,
 ⟨.move, [.tmp 11], (some 9), none⟩,
 ⟨(.extract 0), [.tmp 9], (some 12), none⟩,
 ⟨(.extract 1), [.tmp 9], (some 13), none⟩,
 ⟨(.new [(.int .i64 0), (.int .i64 0), (.int .i64 0), (.int .i64 0)]), [], (some 1), none⟩,
 ⟨(.store 4), [.tmp 1, .tmp 12], none, none⟩,
 ⟨.move, [.tmp 13], (some 2), none⟩])
 (.seq (.seqR [⟨(.load true 4), [.tmp 1], (some 15), none⟩,
 ⟨(.callF 54), [.tmp 15], (some 16), none⟩,
 ⟨.move, [.tmp 16], (some 14), none⟩,
 ⟨(.extract 0), [.tmp 14], (some 17), none⟩,
 ⟨(.extract 1), [.tmp 14], (some 18), none⟩,
 ⟨.move, [.tmp 17], (some 3), none⟩,
 ⟨.move, [.tmp 18], (some 4), none⟩])
 (.seq (.seqR [⟨(.load true 4), [.tmp 1], (some 20), none⟩,
 ⟨.move, [.tmp 3], (some 21), none⟩,
 ⟨(.callF 31), [.tmp 20, .tmp 21], (some 22), none⟩,
 ⟨.move, [.tmp 22], (some 19), none⟩,
 ⟨(.extract 0), [.tmp 19], (some 23), none⟩,
 ⟨(.extract 1), [.tmp 19], (some 24), none⟩,
 ⟨.move, [.tmp 23], (some 5), none⟩,
 ⟨.move, [.tmp 24], (some 6), none⟩])
 (.seq (.seqR [⟨.move, [.tmp 3], (some 25), none⟩,
 ⟨(.build [(.int .i64 0), (.int .i64 0), (.int .u64 0), (.int .u64 0)] [(0, 1), (1, 1), (2, 1)]), [.const (.int .i64 2), .const (.int .i64 1), .const (.int .u64 6)], (some 26), none⟩,
 ⟨(.callF 55), [.tmp 25, .tmp 26], (some 27), none⟩])
 (.seq (.seqR [⟨(.load true 4), [.tmp 1], (some 29), none⟩,
 ⟨.move, [.tmp 3], (some 30), none⟩,
 ⟨(.callF 31), [.tmp 29, .tmp 30], (some 31), none⟩,
 ⟨.move, [.tmp 31], (some 28), none⟩,
 ⟨(.extract 0), [.tmp 28], (some 32), none⟩,
 ⟨(.extract 1), [.tmp 28], (some 33), none⟩,
 ⟨.move, [.tmp 32], (some 7), none⟩,
 ⟨.move, [.tmp 33], (some 8), none⟩])
 (.seq (.seqR [⟨.move, [.tmp 6], (some 34), none⟩,
 ⟨(.bin .eql), [.tmp 34, .const (.int .i64 0)], (some 35), none⟩,
 ⟨.move, [.tmp 35], (some 36), none⟩,
 ⟨.move, [.tmp 8], (some 37), some (36, true)⟩,
 ⟨(.bin .eql), [.tmp 37, .const (.int .i64 0)], (some 38), some (36, true)⟩,
 ⟨.pick, [.tmp 36, .tmp 38, .const (.bool false)], (some 39), none⟩,
 ⟨.move, [.tmp 39], (some 40), none⟩,
 ⟨.move, [.tmp 5], (some 41), some (40, true)⟩,
 ⟨.lenS, [.tmp 41], (some 42), some (40, true)⟩,
 ⟨(.bin .eql), [.tmp 42, .const (.int .i64 0)], (some 43), some (40, true)⟩,
 ⟨.pick, [.tmp 40, .tmp 43, .const (.bool false)], (some 44), none⟩,
 ⟨.move, [.tmp 44], (some 45), none⟩,
 ⟨.move, [.tmp 7], (some 46), some (45, true)⟩,
 ⟨.lenS, [.tmp 46], (some 47), some (45, true)⟩,
 ⟨(.bin .eql), [.tmp 47, .const (.int .i64 1)], (some 48), some (45, true)⟩,
 ⟨.pick, [.tmp 45, .tmp 48, .const (.bool false)], (some 49), none⟩,
 ⟨.move, [.tmp 49], (some 50), none⟩,
 ⟨.move, [.tmp 7], (some 51), some (50, true)⟩,
 ⟨(.indexAddrS 3), [.tmp 51, .const (.int .i64 0)], (some 52), some (50, true)⟩,
 ⟨(.load true 3), [.tmp 52], (some 53), some (50, true)⟩,
 ⟨(.build [(.int .i64 0), (.int .i64 0), (.int .u64 0)] [(0, 1), (1, 1), (2, 1)]), [.const (.int .i64 2), .const (.int .i64 1), .const (.int .u64 6)], (some 54), some (50, true)⟩,
 ⟨(.eqStruct [(0, 0), (1, 0), (2, 0)] false), [.tmp 53, .tmp 54], (some 55), some (50, true)⟩,
 ⟨.pick, [.tmp 50, .tmp 55, .const (.bool false)], (some 56), none⟩,
 ⟨.move, [.tmp 56], (some 0), none⟩])
 .ret))))))), [.tmp 0]⟩
theorem c28_ok : compFunc Try.prog Try.f28 = some c28 := by kernel_rfl
theorem c28_body : hasBody Try.prog 28 = true := hasBody_of Try.func28 (by kernel_rfl)
/-- coachyard/cells.New -/
def c29 : PFn := ⟨14, Tr.ofList (List.replicate 14 undefA), (.seq (.seqR [⟨.move, [.const (.ptr none)], (some 2), none⟩,
 ⟨.move, [.const (.int .i64 0)], (some 3), none⟩])
 (.seq (.seq (.seqR [⟨.move, [.tmp 0], (some 4), none⟩,
 ⟨(.bin .lss), [.tmp 4, .const (.int .i64 1)], (some 5), none⟩,
 ⟨.move, [.tmp 5], (some 6), none⟩,
 ⟨.move, [.tmp 0], (some 7), some (6, false)⟩,
 ⟨(.bin .gtr), [.tmp 7, .const (.int .i64 65536)], (some 8), some (6, false)⟩,
 ⟨.pick, [.tmp 6, .const (.bool true), .tmp 8], (some 9), none⟩])
 (.cond (.tmp 9) (.seq (.seqR [⟨.move, [.const (.ptr none)], (some 2), none⟩,
 ⟨.move, [.const (.int .i64 2)], (some 3), none⟩])
 .ret)
 .skip))
 (.seq (.seqR [⟨.move, [.tmp 0], (some 10), none⟩,
 ⟨(.makeSlice 1 8 [(.int .u64 0)]), [.tmp 10, .tmp 10], (some 11), none⟩,
 ⟨(.build [(.slice none 0 0 false)] [(0, 1)]), [.tmp 11], (some 12), none⟩,
 ⟨.box, [.tmp 12], (some 13), none⟩,
 ⟨.move, [.tmp 13], (some 2), none⟩,
 ⟨.move, [.const (.int .i64 0)], (some 3), none⟩])
 .ret))), [.tmp 2, .tmp 3]⟩
theorem c29_ok : compFunc Try.prog Try.f29 = some c29 := by kernel_rfl
theorem c29_body : hasBody Try.prog 29 = true := hasBody_of Try.func29 (by kernel_rfl)
/-- coachyard/plan.New -/
def c30 : PFn := ⟨10, Tr.ofList (List.replicate 10 undefA), (.seq (.seqR [⟨.box, [.tmp 0], (some 1), none⟩,
 ⟨(.new [(.int .i64 0), (.int .i64 0), (.int .i64 0), (.int .i64 0)]), [], (some 2), none⟩,
 ⟨.move, [.const (.int .i64 0)], (some 3), none⟩])
 (.seq (.seq (.seqR [⟨(.load true 4), [.tmp 1], (some 4), none⟩,
 ⟨(.callF 56), [.tmp 4], (some 5), none⟩,
 ⟨.not, [.tmp 5], (some 6), none⟩])
 (.cond (.tmp 6) (.seq (.seqR [⟨(.build [(.int .i64 0), (.int .i64 0), (.int .i64 0), (.int .i64 0)] []), [], (some 7), none⟩,
 ⟨(.store 4), [.tmp 2, .tmp 7], none, none⟩,
 ⟨.move, [.const (.int .i64 2)], (some 3), none⟩])
 .ret)
 .skip))
 (.seq (.seqR [⟨(.load true 4), [.tmp 1], (some 8), none⟩,
 ⟨(.build [(.int .i64 0), (.int .i64 0), (.int .i64 0), (.int .i64 0)] [(0, 4)]), [.tmp 8], (some 9), none⟩,
 ⟨(.store 4), [.tmp 2, .tmp 9], none, none⟩,
 ⟨.move, [.const (.int .i64 0)], (some 3), none⟩])
 .ret))), [.cell 2 true 4, .tmp 3]⟩
theorem c30_ok : compFunc Try.prog Try.f30 = some c30 := by kernel_rfl
theorem c30_body : hasBody Try.prog 30 = true := hasBody_of Try.func30 (by kernel_rfl)
/-- coachyard/audit.Check -/
def c31 : PFn := ⟨31, Tr.ofList (List.replicate 31 undefA), (.seq (.seqR [⟨.box, [.tmp 0], (some 2), none⟩,
 ⟨.move, [.const (.slice none 0 0 false)], (some 4), none⟩,
 ⟨.move, [.const (.int .i64 0)], (some 5), none⟩])
 (.seq (.seqR [⟨(.load true 4), [.tmp 2], (some 12), none⟩,
 ⟨.move, [.tmp 1], (some 13), none⟩,
 ⟨(.callF 57), [.tmp 12, .tmp 13], (some 14), none⟩,
 ⟨.move, [.tmp 14], (some 11), none⟩,
 ⟨(.extract 0), [.tmp 11], (some 15), none⟩,
 ⟨(.extract 1), [.tmp 11], (some 16), none⟩,
 ⟨(.new [(.int .i64 0), (.int .i64 0), (.int .i64 0), (.int .i64 0), (.ptr none), (.slice none 0 0 false)]), [], (some 6), none⟩,
 ⟨(.store 6), [.tmp 6, .tmp 15], none, none⟩,
 ⟨.move, [.tmp 16], (some 7), none⟩])
 (.seq (.seq (.seqR [⟨.move, [.tmp 7], (some 17), none⟩,
 ⟨(.bin .neq), [.tmp 17, .const (.int .i64 0)], (some 18), none⟩])
 (.cond (.tmp 18) (.seq (.seqR [⟨.move, [.tmp 7], (some 19), none⟩,
 ⟨.move, [.const (.slice none 0 0 false)], (some 4), none⟩,
 ⟨.move, [.tmp 19], (some 5), none⟩])
 .ret)
 .skip))
 (.seq (.seqR [⟨.move, [.const (.slice none 0 0 false)], (some 8), none⟩])
 (.seq (.seq (.seqR [⟨(.build [.nilFunc, .nilFunc, .nilFunc, .nilFunc] [(0, 1), (1, 1), (2, 1), (3, 1)]), [.const (.func (.func 58) [] []), .const (.func (.func 59) [] []), .const (.func (.func 60) [] []), .const (.func (.func 61) [] [])], (some 20), none⟩,
 ⟨.move, [.const (.int .i64 0)], (some 21), none⟩])
 (.block 0 (.loop (.seq (.seqR [⟨(.bin .lss), [.tmp 21, .const (.int .i64 4)], (some 22), none⟩])
 (.seq (.cond (.tmp 22) .skip
 (.exit 0))
 (.seq (.block 1 (.seq (.seqR [⟨(.indexArr 4 1 false), [.tmp 20, .tmp 21], (some 23), none⟩,
 ⟨.move, [.tmp 23], (some 10), none⟩])
 (.seqR [⟨.move, [.tmp 8], (some 24), none⟩,
 ⟨.move, [.tmp 10], (some 25), none⟩,
 ⟨(.load true 6), [.tmp 6], (some 26), none⟩,
 ⟨.callV, [.tmp 25, .tmp 26], (some 27), none⟩,
 ⟨(.append 3 24), [.tmp 24, .tmp 27], (some 28), none⟩,
 ⟨.move, [.tmp 28], (some 8), none⟩])))
 (.seqR [⟨(.bin .add), [.tmp 21, .const (.int .i64 1)], (some 29), none⟩,
 ⟨.move, [.tmp 29], (some 21), none⟩])))))))
 (.seq (.seqR [⟨.move, [.tmp 8], (some 30), none⟩,
 ⟨.move, [.tmp 30], (some 4), none⟩,
 ⟨.move, [.const (.int .i64 0)], (some 5), none⟩])
 .ret)))))), [.tmp 4, .tmp 5]⟩
theorem c31_ok : compFunc Try.prog Try.f31 = some c31 := by kernel_rfl
theorem c31_body : hasBody Try.prog 31 = true := hasBody_of Try.func31 (by kernel_rfl)
/-- coachyard/audit.Nodes -/
def c32 : PFn := ⟨23, Tr.ofList (List.replicate 23 undefA), (.seq (.seqR [⟨.box, [.tmp 0], (some 2), none⟩,
 ⟨.move, [.const (.slice none 0 0 false)], (some 4), none⟩,
 ⟨.move, [.const (.slice none 0 0 false)], (some 5), none⟩,
 ⟨.move, [.const (.int .i64 0)], (some 6), none⟩])
 (.seq (.seqR [⟨(.load true 4), [.tmp 2], (some 10), none⟩,
 ⟨.move, [.tmp 1], (some 11), none⟩,
 ⟨(.callF 57), [.tmp 10, .tmp 11], (some 12), none⟩,
 ⟨.move, [.tmp 12], (some 9), none⟩,
 ⟨(.extract 0), [.tmp 9], (some 13), none⟩,
 ⟨(.extract 1), [.tmp 9], (some 14), none⟩,
 ⟨(.new [(.int .i64 0), (.int .i64 0), (.int .i64 0), (.int .i64 0), (.ptr none), (.slice none 0 0 false)]), [], (some 7), none⟩,
 ⟨(.store 6), [.tmp 7, .tmp 13], none, none⟩,
 ⟨.move, [.tmp 14], (some 8), none⟩])
 (.seq (.seq (.seqR [⟨.move, [.tmp 8], (some 15), none⟩,
 ⟨(.bin .neq), [.tmp 15, .const (.int .i64 0)], (some 16), none⟩])
 (.cond (.tmp 16) (.seq (.seqR [⟨.move, [.tmp 8], (some 17), none⟩,
 ⟨.move, [.const (.slice none 0 0 false)], (some 4), none⟩,
 ⟨.move, [.const (.slice none 0 0 false)], (some 5), none⟩,
 ⟨.move, [.tmp 17], (some 6), none⟩])
 .ret)
 .skip))
 (.seq (.seqR [⟨(.load true 6), [.tmp 7], (some 18), none⟩,
 ⟨(.callF 62), [.tmp 18], (some 19), none⟩,
 ⟨(.extract 0), [.tmp 19], (some 20), none⟩,
 ⟨(.extract 1), [.tmp 19], (some 21), none⟩,
 ⟨(.extract 2), [.tmp 19], (some 22), none⟩,
 ⟨.move, [.tmp 20], (some 4), none⟩,
 ⟨.move, [.tmp 21], (some 5), none⟩,
 ⟨.move, [.tmp 22], (some 6), none⟩])
 .ret)))), [.tmp 4, .tmp 5, .tmp 6]⟩
theorem c32_ok : compFunc Try.prog Try.f32 = some c32 := by kernel_rfl
theorem c32_body : hasBody Try.prog 32 = true := hasBody_of Try.func32 (by kernel_rfl)
/-- cmp.Compare[int] -/
def c46 : PFn := ⟨20, Tr.ofList (List.replicate 20 undefA), (.seq (.seqR [⟨.move, [.const (.int .i64 0)], (some 4), none⟩])
 (.seq (.seqR [⟨.move, [.tmp 0], (some 7), none⟩,
 ⟨(.callF 76), [.tmp 7], (some 8), none⟩,
 ⟨.move, [.tmp 8], (some 5), none⟩])
 (.seq (.seqR [⟨.move, [.tmp 1], (some 9), none⟩,
 ⟨(.callF 76), [.tmp 9], (some 10), none⟩,
 ⟨.move, [.tmp 10], (some 6), none⟩])
 (.seq (.seq (.seqR [⟨.move, [.tmp 5], (some 11), none⟩])
 (.cond (.tmp 11) (.seq (.seq (.seqR [⟨.move, [.tmp 6], (some 12), none⟩])
 (.cond (.tmp 12) (.seq (.seqR [⟨.move, [.const (.int .i64 0)], (some 4), none⟩])
 .ret)
 .skip))
 (.seq (.seqR [⟨.move, [.const (.int .i64 (-1))], (some 4), none⟩])
 .ret))
 .skip))
 (.seq (.seq (.seqR [⟨.move, [.tmp 6], (some 13), none⟩])
 (.cond (.tmp 13) (.seq (.seqR [⟨.move, [.const (.int .i64 1)], (some 4), none⟩])
 .ret)
 .skip))
 (.seq (.seq (.seqR [⟨.move, [.tmp 0], (some 14), none⟩,
 ⟨.move, [.tmp 1], (some 15), none⟩,
 ⟨(.bin .lss), [.tmp 14, .tmp 15], (some 16), none⟩])
 (.cond (.tmp 16) (.seq (.seqR [⟨.move, [.const (.int .i64 (-1))], (some 4), none⟩])
 .ret)
 .skip))
 (.seq (.seq (.seqR [⟨.move, [.tmp 0], (some 17), none⟩,
 ⟨.move, [.tmp 1], (some 18), none⟩,
 ⟨(.bin .gtr), [.tmp 17, .tmp 18], (some 19), none⟩])
 (.cond (.tmp 19) (.seq (.seqR [⟨.move, [.const (.int .i64 1)], (some 4), none⟩])
 .ret)
 .skip))
 (.seq (.seqR [⟨.move, [.const (.int .i64 0)], (some 4), none⟩])
 .ret)))))))), [.tmp 4]⟩
theorem c46_ok : compFunc Try.prog Try.f46 = some c46 := by kernel_rfl
theorem c46_body : hasBody Try.prog 46 = true := hasBody_of Try.func46 (by kernel_rfl)
/-- (coachyard/plan.Plan).Init -/
def c54 : PFn := ⟨20, Tr.ofList (List.replicate 20 undefA), (.seq (.seqR [⟨.box, [.tmp 0], (some 1), none⟩,
 ⟨.move, [.const (.ptr none)], (some 2), none⟩,
 ⟨.move, [.const (.int .i64 0)], (some 3), none⟩])
 (.seq (.seqR [⟨(.load true 4), [.tmp 1], (some 7), none⟩,
 ⟨(.callF 81), [.tmp 7], (some 8), none⟩,
 ⟨(.callF 29), [.tmp 8], (some 9), none⟩,
 ⟨.move, [.tmp 9], (some 6), none⟩,
 ⟨(.extract 0), [.tmp 6], (some 10), none⟩,
 ⟨(.extract 1), [.tmp 6], (some 11), none⟩,
 ⟨.move, [.tmp 10], (some 4), none⟩,
 ⟨.move, [.tmp 11], (some 5), none⟩])
 (.seq (.seq (.seqR [⟨.move, [.tmp 5], (some 12), none⟩,
 ⟨(.bin .eql), [.tmp 12, .const (.int .i64 0)], (some 13), none⟩])
 (.cond (.tmp 13) (.seqR [⟨(.load true 4), [.tmp 1], (some 14), none⟩,
 ⟨(.callF 82), [.tmp 14], (some 15), none⟩,
 ⟨.move, [.tmp 4], (some 16), none⟩,
 ⟨(.callF 83), [.tmp 15, .tmp 16], (some 17), none⟩,
 ⟨.move, [.tmp 17], (some 5), none⟩])
 .skip))
 (.seq (.seqR [⟨.move, [.tmp 4], (some 18), none⟩,
 ⟨.move, [.tmp 5], (some 19), none⟩,
 ⟨.move, [.tmp 18], (some 2), none⟩,
 ⟨.move, [.tmp 19], (some 3), none⟩])
 .ret)))), [.tmp 2, .tmp 3]⟩
theorem c54_ok : compFunc Try.prog Try.f54 = some c54 := by kernel_rfl
theorem c54_body : hasBody Try.prog 54 = true := hasBody_of Try.func54 (by kernel_rfl)
/-- (*coachyard/cells.Mem).Do -/
def c55 : PFn := ⟨58, Tr.ofList (List.replicate 58 undefA), (.seq (.seqR [⟨.box, [.tmp 1], (some 3), none⟩,
 ⟨.move, [.const (.int .u64 0)], (some 4), none⟩,
 ⟨.move, [.const (.bool false)], (some 5), none⟩,
 ⟨.move, [.const (.int .i64 0)], (some 6), none⟩])
 (.seq (.seq (.seqR [⟨.move, [.tmp 0], (some 11), none⟩,
 ⟨(.eqPtr false), [.tmp 11, .const (.ptr none)], (some 12), none⟩])
 (.cond (.tmp 12) (.seq (.seqR [⟨.move, [.const (.int .u64 0)], (some 4), none⟩,
 ⟨.move, [.const (.bool false)], (some 5), none⟩,
 ⟨.move, [.const (.int .i64 1)], (some 6), none⟩])
 .ret)
 .skip))
 (.seq (.seqR [⟨(.fieldAddr 0), [.tmp 3], (some 13), none⟩,
 ⟨(.load false 1), [.tmp 13], (some 14), none⟩,
 ⟨(.callF 84), [.tmp 14], (some 15), none⟩,
 ⟨.move, [.tmp 15], (some 7), none⟩])
 (.seq (.block 0 (.seq (.seqR [⟨.move, [.tmp 7], (some 17), none⟩,
 ⟨(.eqNil 2 false), [.tmp 17, .const .nilFunc], (some 18), none⟩,
 ⟨.move, [.tmp 18], (some 16), none⟩])
 (.cond (.tmp 16) (.seq (.seqR [⟨.move, [.const (.int .u64 0)], (some 4), none⟩,
 ⟨.move, [.const (.bool false)], (some 5), none⟩,
 ⟨.move, [.const (.int .i64 2)], (some 6), none⟩])
 .ret)
 (.seq (.drawR [⟨⟨(.fieldAddr 1), [.tmp 3], (some 20), none⟩, false, false, 0, 0⟩,
 ⟨⟨(.load false 1), [.tmp 20], (some 21), none⟩, false, false, 0, 0⟩,
 ⟨⟨(.bin .lss), [.tmp 21, .const (.int .i64 0)], (some 22), none⟩, false, false, 0, 0⟩,
 ⟨⟨.move, [.tmp 22], (some 23), none⟩, false, false, 0, 0⟩,
 ⟨⟨(.fieldAddr 1), [.tmp 3], (some 24), some (23, false)⟩, false, false, 0, 0⟩,
 ⟨⟨(.load false 1), [.tmp 24], (some 25), some (23, false)⟩, false, false, 0, 0⟩,
 ⟨⟨.move, [.tmp 0], (some 26), some (23, false)⟩, false, false, 0, 0⟩,
 ⟨⟨.nilCheck, [.tmp 26], (some 27), some (23, false)⟩, false, false, 0, 0⟩,
 ⟨⟨(.fieldAddr 0), [.tmp 27], (some 28), some (23, false)⟩, false, false, 0, 0⟩,
 ⟨⟨(.load false 1), [.tmp 28], (some 29), some (23, false)⟩, false, false, 0, 0⟩,
 ⟨⟨.lenS, [.tmp 29], (some 30), some (23, false)⟩, false, false, 0, 0⟩,
 ⟨⟨(.bin .geq), [.tmp 25, .tmp 30], (some 31), some (23, false)⟩, false, false, 0, 0⟩,
 ⟨⟨.pick, [.tmp 23, .const (.bool true), .tmp 31], (some 32), none⟩, false, false, 0, 0⟩,
 ⟨⟨.move, [.tmp 32], (some 19), none⟩, false, false, 0, 0⟩])
 (.cond (.tmp 19) (.seq (.seqR [⟨.move, [.const (.int .u64 0)], (some 4), none⟩,
 ⟨.move, [.const (.bool false)], (some 5), none⟩,
 ⟨.move, [.const (.int .i64 3)], (some 6), none⟩])
 .ret)
 .skip)))))
 (.seq (.drawR [⟨⟨.move, [.tmp 0], (some 33), none⟩, false, false, 0, 0⟩,
 ⟨⟨.nilCheck, [.tmp 33], (some 34), none⟩, false, false, 0, 0⟩,
 ⟨⟨(.fieldAddr 0), [.tmp 34], (some 35), none⟩, false, false, 0, 0⟩,
 ⟨⟨(.load false 1), [.tmp 35], (some 36), none⟩, false, false, 0, 0⟩,
 ⟨⟨(.fieldAddr 1), [.tmp 3], (some 37), none⟩, false, false, 0, 0⟩,
 ⟨⟨(.load false 1), [.tmp 37], (some 38), none⟩, false, false, 0, 0⟩,
 ⟨⟨(.indexAddrS 1), [.tmp 36, .tmp 38], (some 39), none⟩, false, false, 0, 0⟩,
 ⟨⟨(.load false 1), [.tmp 39], (some 40), none⟩, false, false, 0, 0⟩,
 ⟨⟨.move, [.tmp 40], (some 8), none⟩, false, false, 0, 0⟩])
 (.seq (.seqR [⟨.move, [.tmp 7], (some 42), none⟩,
 ⟨.move, [.tmp 8], (some 43), none⟩,
 ⟨(.load true 4), [.tmp 3], (some 44), none⟩,
 ⟨.callV, [.tmp 42, .tmp 43, .tmp 44], (some 45), none⟩,
 ⟨.move, [.tmp 45], (some 41), none⟩,
 ⟨(.extract 0), [.tmp 41], (some 46), none⟩,
 ⟨(.extract 1), [.tmp 41], (some 47), none⟩,
 ⟨.move, [.tmp 46], (some 9), none⟩,
 ⟨.move, [.tmp 47], (some 10), none⟩])
 (.seq (.drawR [⟨⟨.move, [.tmp 0], (some 48), none⟩, false, false, 0, 0⟩,
 ⟨⟨.nilCheck, [.tmp 48], (some 49), none⟩, false, false, 0, 0⟩,
 ⟨⟨(.fieldAddr 0), [.tmp 49], (some 50), none⟩, false, false, 0, 0⟩,
 ⟨⟨(.load false 1), [.tmp 50], (some 51), none⟩, false, false, 0, 0⟩,
 ⟨⟨(.fieldAddr 1), [.tmp 3], (some 52), none⟩, false, false, 0, 0⟩,
 ⟨⟨(.load false 1), [.tmp 52], (some 53), none⟩, false, false, 0, 0⟩,
 ⟨⟨.move, [.tmp 9], (some 54), none⟩, false, false, 0, 0⟩,
 ⟨⟨(.indexAddrS 1), [.tmp 51, .tmp 53], (some 55), none⟩, false, false, 0, 0⟩,
 ⟨⟨(.store 1), [.tmp 55, .tmp 54], none, none⟩, true, false, 0, 1⟩])
 (.seq (.seqR [⟨.move, [.tmp 8], (some 56), none⟩,
 ⟨.move, [.tmp 10], (some 57), none⟩,
 ⟨.move, [.tmp 56], (some 4), none⟩,
 ⟨.move, [.tmp 57], (some 5), none⟩,
 ⟨.move, [.const (.int .i64 0)], (some 6), none⟩])
 .ret)))))))), [.tmp 4, .tmp 5, .tmp 6]⟩
theorem c55_ok : compFunc Try.prog Try.f55 = some c55 := by kernel_rfl
theorem c55_body : hasBody Try.prog 55 = true := hasBody_of Try.func55 (by kernel_rfl)
/-- coachyard/plan.right -/
def c56 : PFn := ⟨47, Tr.ofList (List.replicate 47 undefA), (.seq (.seqR [⟨.box, [.tmp 0], (some 1), none⟩,
 ⟨.move, [.const (.bool false)], (some 2), none⟩])
 (.seq (.block 0 (.seq (.seqR [⟨(.fieldAddr 0), [.tmp 1], (some 4), none⟩,
 ⟨(.load false 1), [.tmp 4], (some 5), none⟩,
 ⟨(.bin .lss), [.tmp 5, .const (.int .i64 1)], (some 6), none⟩,
 ⟨.move, [.tmp 6], (some 7), none⟩,
 ⟨(.fieldAddr 0), [.tmp 1], (some 8), some (7, false)⟩,
 ⟨(.load false 1), [.tmp 8], (some 9), some (7, false)⟩,
 ⟨(.bin .gtr), [.tmp 9, .const (.int .i64 16)], (some 10), some (7, false)⟩,
 ⟨.pick, [.tmp 7, .const (.bool true), .tmp 10], (some 11), none⟩,
 ⟨.move, [.tmp 11], (some 3), none⟩])
 (.cond (.tmp 3) (.seq (.seqR [⟨.move, [.const (.bool false)], (some 2), none⟩])
 .ret)
 (.seq (.seqR [⟨(.fieldAddr 1), [.tmp 1], (some 13), none⟩,
 ⟨(.load false 1), [.tmp 13], (some 14), none⟩,
 ⟨(.bin .neq), [.tmp 14, .const (.int .i64 0)], (some 15), none⟩,
 ⟨.move, [.tmp 15], (some 16), none⟩,
 ⟨(.fieldAddr 1), [.tmp 1], (some 17), some (16, true)⟩,
 ⟨(.load false 1), [.tmp 17], (some 18), some (16, true)⟩,
 ⟨(.bin .neq), [.tmp 18, .const (.int .i64 1)], (some 19), some (16, true)⟩,
 ⟨.pick, [.tmp 16, .tmp 19, .const (.bool false)], (some 20), none⟩,
 ⟨.move, [.tmp 20], (some 12), none⟩])
 (.cond (.tmp 12) (.seq (.seqR [⟨.move, [.const (.bool false)], (some 2), none⟩])
 .ret)
 (.seq (.seqR [⟨(.fieldAddr 2), [.tmp 1], (some 22), none⟩,
 ⟨(.load false 1), [.tmp 22], (some 23), none⟩,
 ⟨(.bin .lss), [.tmp 23, .const (.int .i64 2)], (some 24), none⟩,
 ⟨.move, [.tmp 24], (some 25), none⟩,
 ⟨(.fieldAddr 2), [.tmp 1], (some 26), some (25, false)⟩,
 ⟨(.load false 1), [.tmp 26], (some 27), some (25, false)⟩,
 ⟨(.bin .gtr), [.tmp 27, .const (.int .i64 256)], (some 28), some (25, false)⟩,
 ⟨.pick, [.tmp 25, .const (.bool true), .tmp 28], (some 29), none⟩,
 ⟨.move, [.tmp 29], (some 30), none⟩,
 ⟨(.fieldAddr 2), [.tmp 1], (some 31), some (30, false)⟩,
 ⟨(.load false 1), [.tmp 31], (some 32), some (30, false)⟩,
 ⟨(.fieldAddr 2), [.tmp 1], (some 33), some (30, false)⟩,
 ⟨(.load false 1), [.tmp 33], (some 34), some (30, false)⟩,
 ⟨(.bin .sub), [.tmp 34, .const (.int .i64 1)], (some 35), some (30, false)⟩,
 ⟨(.bin .and), [.tmp 32, .tmp 35], (some 36), some (30, false)⟩,
 ⟨(.bin .neq), [.tmp 36, .const (.int .i64 0)], (some 37), some (30, false)⟩,
 ⟨.pick, [.tmp 30, .const (.bool true), .tmp 37], (some 38), none⟩,
 ⟨.move, [.tmp 38], (some 21), none⟩])
 (.cond (.tmp 21) (.seq (.seqR [⟨.move, [.const (.bool false)], (some 2), none⟩])
 .ret)
 .skip)))))))
 (.seq (.seqR [⟨(.fieldAddr 3), [.tmp 1], (some 39), none⟩,
 ⟨(.load false 1), [.tmp 39], (some 40), none⟩,
 ⟨(.bin .geq), [.tmp 40, .const (.int .i64 2)], (some 41), none⟩,
 ⟨.move, [.tmp 41], (some 42), none⟩,
 ⟨(.fieldAddr 3), [.tmp 1], (some 43), some (42, true)⟩,
 ⟨(.load false 1), [.tmp 43], (some 44), some (42, true)⟩,
 ⟨(.bin .leq), [.tmp 44, .const (.int .i64 4096)], (some 45), some (42, true)⟩,
 ⟨.pick, [.tmp 42, .tmp 45, .const (.bool false)], (some 46), none⟩,
 ⟨.move, [.tmp 46], (some 2), none⟩])
 .ret))), [.tmp 2]⟩
theorem c56_ok : compFunc Try.prog Try.f56 = some c56 := by kernel_rfl
theorem c56_body : hasBody Try.prog 56 = true := hasBody_of Try.func56 (by kernel_rfl)
/-- coachyard/audit.open -/
def c57 : PFn := ⟨27, Tr.ofList (List.replicate 27 undefA), (.seq (.seqR [⟨.box, [.tmp 0], (some 2), none⟩,
 ⟨(.new [(.int .i64 0), (.int .i64 0), (.int .i64 0), (.int .i64 0), (.ptr none), (.slice none 0 0 false)]), [], (some 4), none⟩,
 ⟨.move, [.const (.int .i64 0)], (some 5), none⟩])
 (.seq (.block 0 (.seq (.seqR [⟨.move, [.tmp 1], (some 7), none⟩,
 ⟨(.eqPtr false), [.tmp 7, .const (.ptr none)], (some 8), none⟩,
 ⟨.move, [.tmp 8], (some 6), none⟩])
 (.cond (.tmp 6) (.seq (.seqR [⟨(.build [(.int .i64 0), (.int .i64 0), (.int .i64 0), (.int .i64 0), (.ptr none), (.slice none 0 0 false)] []), [], (some 9), none⟩,
 ⟨(.store 6), [.tmp 4, .tmp 9], none, none⟩,
 ⟨.move, [.const (.int .i64 1)], (some 5), none⟩])
 .ret)
 (.seq (.seqR [⟨(.load true 4), [.tmp 2], (some 11), none⟩,
 ⟨(.callF 81), [.tmp 11], (some 12), none⟩,
 ⟨(.bin .eql), [.tmp 12, .const (.int .i64 0)], (some 13), none⟩,
 ⟨.move, [.tmp 13], (some 10), none⟩])
 (.cond (.tmp 10) (.seq (.seqR [⟨(.build [(.int .i64 0), (.int .i64 0), (.int .i64 0), (.int .i64 0), (.ptr none), (.slice none 0 0 false)] []), [], (some 14), none⟩,
 ⟨(.store 6), [.tmp 4, .tmp 14], none, none⟩,
 ⟨.move, [.const (.int .i64 2)], (some 5), none⟩])
 .ret)
 (.seq (.drawR [⟨⟨.move, [.tmp 1], (some 16), none⟩, false, false, 0, 0⟩,
 ⟨⟨(.callF 85), [.tmp 16], (some 17), none⟩, true, false, 0, 1⟩,
 ⟨⟨(.load true 4), [.tmp 2], (some 18), none⟩, false, false, 0, 1⟩,
 ⟨⟨(.callF 81), [.tmp 18], (some 19), none⟩, true, false, 1, 2⟩,
 ⟨⟨(.bin .lss), [.tmp 17, .tmp 19], (some 20), none⟩, false, false, 2, 2⟩,
 ⟨⟨.move, [.tmp 20], (some 15), none⟩, false, false, 2, 2⟩])
 (.cond (.tmp 15) (.seq (.seqR [⟨(.build [(.int .i64 0), (.int .i64 0), (.int .i64 0), (.int .i64 0), (.ptr none), (.slice none 0 0 false)] []), [], (some 21), none⟩,
 ⟨(.store 6), [.tmp 4, .tmp 21], none, none⟩,
 ⟨.move, [.const (.int .i64 3)], (some 5), none⟩])
 .ret)
 .skip)))))))
 (.seq (.drawR [⟨⟨(.load true 4), [.tmp 2], (some 22), none⟩, false, false, 0, 1⟩,
 ⟨⟨.move, [.tmp 1], (some 23), none⟩, false, false, 0, 1⟩,
 ⟨⟨.move, [.tmp 1], (some 24), none⟩, false, false, 0, 0⟩,
 ⟨⟨(.callF 86), [.tmp 24], (some 25), none⟩, true, false, 0, 1⟩,
 ⟨⟨(.build [(.int .i64 0), (.int .i64 0), (.int .i64 0), (.int .i64 0), (.ptr none), (.slice none 0 0 false)] [(0, 4), (4, 1), (5, 1)]), [.tmp 22, .tmp 23, .tmp 25], (some 26), none⟩, false, false, 1, 1⟩,
 ⟨⟨(.store 6), [.tmp 4, .tmp 26], none, none⟩, true, false, 1, 2⟩,
 ⟨⟨.move, [.const (.int .i64 0)], (some 5), none⟩, false, false, 2, 2⟩])
 .ret))), [.cell 4 true 6, .tmp 5]⟩
theorem c57_ok : compFunc Try.prog Try.f57 = some c57 := by kernel_rfl
theorem c57_body : hasBody Try.prog 57 = true := hasBody_of Try.func57 (by kernel_rfl)
/-- (coachyard/audit.look).yards -/
def c58 : PFn := ⟨31, Tr.ofList (List.replicate 31 undefA), (.seq (.seqR [⟨.box, [.tmp 0], (some 1), none⟩,
 ⟨.move, [.const (.slice none 0 0 false)], (some 2), none⟩])
 (.seq (.seqR [⟨(.fieldAddr 5), [.tmp 1], (some 7), none⟩,
 ⟨(.load false 1), [.tmp 7], (some 8), none⟩,
 ⟨(.indexAddrS 1), [.tmp 8, .const (.int .i64 0)], (some 9), none⟩,
 ⟨(.load false 1), [.tmp 9], (some 10), none⟩,
 ⟨(.callF 87), [.tmp 10], (some 11), none⟩,
 ⟨.move, [.tmp 11], (some 6), none⟩,
 ⟨(.extract 0), [.tmp 6], (some 12), none⟩,
 ⟨(.extract 1), [.tmp 6], (some 13), none⟩,
 ⟨.move, [.tmp 12], (some 3), none⟩,
 ⟨.move, [.tmp 13], (some 4), none⟩])
 (.seq (.seqR [⟨(.fieldAddr 0), [.tmp 1], (some 14), none⟩,
 ⟨(.load true 4), [.tmp 14], (some 15), none⟩,
 ⟨(.callF 88), [.tmp 15], (some 16), none⟩,
 ⟨(.field 0 1 false), [.tmp 16], (some 17), none⟩,
 ⟨.move, [.tmp 17], (some 5), none⟩])
 (.seq (.seq (.seqR [⟨.move, [.tmp 4], (some 18), none⟩,
 ⟨.move, [.tmp 5], (some 19), none⟩,
 ⟨(.bin .shr), [.tmp 18, .tmp 19], (some 20), none⟩,
 ⟨(.bin .eql), [.tmp 20, .const (.int .u32 0)], (some 21), none⟩,
 ⟨.move, [.tmp 21], (some 22), none⟩,
 ⟨.move, [.tmp 3], (some 23), some (22, true)⟩,
 ⟨(.conv .i64), [.tmp 23], (some 24), some (22, true)⟩,
 ⟨.move, [.tmp 5], (some 25), some (22, true)⟩,
 ⟨(.bin .leq), [.tmp 24, .tmp 25], (some 26), some (22, true)⟩,
 ⟨.pick, [.tmp 22, .tmp 26, .const (.bool false)], (some 27), none⟩])
 (.cond (.tmp 27) (.seq (.seqR [⟨.move, [.const (.slice none 0 0 false)], (some 2), none⟩])
 .ret)
 .skip))
 (.seq (.seqR [⟨(.load true 6), [.tmp 1], (some 28), none⟩,
 ⟨(.callF 89), [.tmp 28, .const (.int .i64 1), .const (.int .i64 0)], (some 29), none⟩,
 ⟨(.sliceLit 1 [(.int .i64 0), (.int .i64 0), (.int .u64 0)] [(0, 3)]), [.tmp 29], (some 30), none⟩,
 ⟨.move, [.tmp 30], (some 2), none⟩])
 .ret))))), [.tmp 2]⟩
theorem c58_ok : compFunc Try.prog Try.f58 = some c58 := by kernel_rfl
theorem c58_body : hasBody Try.prog 58 = true := hasBody_of Try.func58 (by kernel_rfl)
/-- (coachyard/audit.look).parkers -/
def c59 : PFn := ⟨39, Tr.ofList (List.replicate 39 undefA), (.seq (.seqR [⟨.box, [.tmp 0], (some 1), none⟩,
 ⟨.move, [.const (.slice none 0 0 false)], (some 2), none⟩])
 (.seq (.seqR [⟨.move, [.const (.slice none 0 0 false)], (some 3), none⟩])
 (.seq (.seq (.seqR [⟨(.fieldAddr 0), [.tmp 1], (some 8), none⟩,
 ⟨(.load true 4), [.tmp 8], (some 9), none⟩,
 ⟨(.callF 88), [.tmp 9], (some 10), none⟩,
 ⟨(.field 0 1 false), [.tmp 10], (some 11), none⟩,
 ⟨.move, [.const (.int .i64 0)], (some 12), none⟩])
 (.block 0 (.loop (.seq (.seqR [⟨(.bin .lss), [.tmp 12, .tmp 11], (some 13), none⟩])
 (.seq (.cond (.tmp 13) .skip
 (.exit 0))
 (.seq (.block 1 (.seq (.seqR [⟨.move, [.tmp 12], (some 14), none⟩,
 ⟨.move, [.tmp 14], (some 4), none⟩])
 (.seq (.seqR [⟨(.fieldAddr 0), [.tmp 1], (some 15), none⟩,
 ⟨(.load true 4), [.tmp 15], (some 16), none⟩,
 ⟨.move, [.tmp 4], (some 17), none⟩,
 ⟨(.callF 90), [.tmp 16, .tmp 17], (some 18), none⟩,
 ⟨(.field 0 1 false), [.tmp 18], (some 19), none⟩,
 ⟨.move, [.tmp 19], (some 5), none⟩])
 (.seq (.seqR [⟨(.fieldAddr 5), [.tmp 1], (some 21), none⟩,
 ⟨(.load false 1), [.tmp 21], (some 22), none⟩,
 ⟨.move, [.tmp 5], (some 23), none⟩,
 ⟨(.indexAddrS 1), [.tmp 22, .tmp 23], (some 24), none⟩,
 ⟨(.load false 1), [.tmp 24], (some 25), none⟩,
 ⟨(.callF 87), [.tmp 25], (some 26), none⟩,
 ⟨.move, [.tmp 26], (some 20), none⟩,
 ⟨(.extract 0), [.tmp 20], (some 27), none⟩,
 ⟨(.extract 1), [.tmp 20], (some 28), none⟩,
 ⟨.move, [.tmp 27], (some 6), none⟩,
 ⟨.move, [.tmp 28], (some 7), none⟩])
 (.seq (.seqR [⟨.move, [.tmp 7], (some 29), none⟩,
 ⟨(.bin .gtr), [.tmp 29, .const (.int .u32 1)], (some 30), none⟩])
 (.cond (.tmp 30) (.seqR [⟨.move, [.tmp 3], (some 31), none⟩,
 ⟨(.load true 6), [.tmp 1], (some 32), none⟩,
 ⟨.move, [.tmp 5], (some 33), none⟩,
 ⟨(.callF 89), [.tmp 32, .const (.int .i64 2), .tmp 33], (some 34), none⟩,
 ⟨(.sliceLit 1 [(.int .i64 0), (.int .i64 0), (.int .u64 0)] [(0, 3)]), [.tmp 34], (some 35), none⟩,
 ⟨(.append 3 24), [.tmp 31, .tmp 35], (some 36), none⟩,
 ⟨.move, [.tmp 36], (some 3), none⟩])
 .skip))))))
 (.seqR [⟨(.bin .add), [.tmp 12, .const (.int .i64 1)], (some 37), none⟩,
 ⟨.move, [.tmp 37], (some 12), none⟩])))))))
 (.seq (.seqR [⟨.move, [.tmp 3], (some 38), none⟩,
 ⟨.move, [.tmp 38], (some 2), none⟩])
 .ret)))), [.tmp 2]⟩
theorem c59_ok : compFunc Try.prog Try.f59 = some c59 := by kernel_rfl
theorem c59_body : hasBody Try.prog 59 = true := hasBody_of Try.func59 (by kernel_rfl)
/-- (coachyard/audit.look).lines -/
def c60 : PFn := ⟨73, Tr.ofList (List.replicate 73 undefA), (.seq (.seqR [⟨.box, [.tmp 0], (some 1), none⟩,
 ⟨.move, [.const (.slice none 0 0 false)], (some 2), none⟩])
 (.seq (.seqR [⟨(.fieldAddr 0), [.tmp 1], (some 12), none⟩,
 ⟨(.load true 4), [.tmp 12], (some 13), none⟩,
 ⟨(.callF 82), [.tmp 13], (some 14), none⟩,
 ⟨(.new [(.int .i64 0), (.int .i64 0)]), [], (some 3), none⟩,
 ⟨(.store 2), [.tmp 3, .tmp 14], none, none⟩])
 (.seq (.seqR [⟨(.load true 6), [.tmp 1], (some 16), none⟩,
 ⟨(.callF 62), [.tmp 16], (some 17), none⟩,
 ⟨.move, [.tmp 17], (some 15), none⟩,
 ⟨(.extract 0), [.tmp 15], (some 18), none⟩,
 ⟨(.extract 1), [.tmp 15], (some 19), none⟩,
 ⟨(.extract 2), [.tmp 15], (some 20), none⟩,
 ⟨.move, [.tmp 18], (some 4), none⟩,
 ⟨.move, [.tmp 19], (some 5), none⟩,
 ⟨.move, [.tmp 20], (some 6), none⟩])
 (.seq (.seq (.seqR [⟨.move, [.tmp 6], (some 21), none⟩,
 ⟨(.bin .neq), [.tmp 21, .const (.int .i64 0)], (some 22), none⟩])
 (.cond (.tmp 22) (.seq (.seqR [⟨(.load true 6), [.tmp 1], (some 23), none⟩,
 ⟨(.fieldAddr 0), [.tmp 3], (some 24), none⟩,
 ⟨(.load false 1), [.tmp 24], (some 25), none⟩,
 ⟨(.callF 89), [.tmp 23, .const (.int .i64 3), .tmp 25], (some 26), none⟩,
 ⟨(.sliceLit 1 [(.int .i64 0), (.int .i64 0), (.int .u64 0)] [(0, 3)]), [.tmp 26], (some 27), none⟩,
 ⟨.move, [.tmp 27], (some 2), none⟩])
 .ret)
 .skip))
 (.seq (.seqR [⟨(.fieldAddr 1), [.tmp 3], (some 28), none⟩,
 ⟨(.load false 1), [.tmp 28], (some 29), none⟩,
 ⟨(.bin .add), [.tmp 29, .const (.int .i64 1)], (some 30), none⟩,
 ⟨(.makeSlice 1 8 [(.int .i64 0)]), [.tmp 30, .tmp 30], (some 31), none⟩,
 ⟨.move, [.tmp 31], (some 7), none⟩])
 (.seq (.seq (.seqR [⟨.move, [.tmp 4], (some 32), none⟩,
 ⟨.move, [.tmp 5], (some 33), none⟩,
 ⟨(.append 1 8), [.tmp 32, .tmp 33], (some 34), none⟩,
 ⟨.lenS, [.tmp 34], (some 35), none⟩,
 ⟨.move, [.const (.int .i64 0)], (some 36), none⟩])
 (.block 0 (.loop (.seq (.seqR [⟨(.bin .lss), [.tmp 36, .tmp 35], (some 37), none⟩])
 (.seq (.cond (.tmp 37) .skip
 (.exit 0))
 (.seq (.block 1 (.seq (.seqR [⟨(.indexAddrS 1), [.tmp 34, .tmp 36], (some 38), none⟩,
 ⟨(.load false 1), [.tmp 38], (some 39), none⟩,
 ⟨.move, [.tmp 39], (some 9), none⟩])
 (.seqR [⟨.move, [.tmp 7], (some 40), none⟩,
 ⟨.move, [.tmp 9], (some 41), none⟩,
 ⟨(.indexAddrS 1), [.tmp 40, .tmp 41], (some 42), none⟩,
 ⟨(.load false 1), [.tmp 42], (some 43), none⟩,
 ⟨(.bin .add), [.tmp 43, .const (.int .i64 1)], (some 44), none⟩,
 ⟨(.indexAddrS 1), [.tmp 40, .tmp 41], (some 45), none⟩,
 ⟨(.store 1), [.tmp 45, .tmp 44], none, none⟩])))
 (.seqR [⟨(.bin .add), [.tmp 36, .const (.int .i64 1)], (some 46), none⟩,
 ⟨.move, [.tmp 46], (some 36), none⟩])))))))
 (.seq (.seqR [⟨.move, [.const (.slice none 0 0 false)], (some 10), none⟩])
 (.seq (.seq (.seqR [⟨.move, [.const (.int .i64 1)], (some 11), none⟩])
 (.block 2 (.loop (.seq (.seq (.seqR [⟨.move, [.tmp 11], (some 47), none⟩,
 ⟨(.fieldAddr 1), [.tmp 3], (some 48), none⟩,
 ⟨(.load false 1), [.tmp 48], (some 49), none⟩,
 ⟨(.bin .leq), [.tmp 47, .tmp 49], (some 50), none⟩])
 (.cond (.tmp 50) .skip
 (.exit 2)))
 (.seq (.block 3 (.seq (.seqR [⟨.move, [.tmp 7], (some 53), none⟩,
 ⟨.move, [.tmp 11], (some 54), none⟩,
 ⟨(.indexAddrS 1), [.tmp 53, .tmp 54], (some 55), none⟩,
 ⟨(.load false 1), [.tmp 55], (some 56), none⟩,
 ⟨(.bin .neq), [.tmp 56, .const (.int .i64 1)], (some 57), none⟩])
 (.cond (.tmp 57) (.seqR [⟨.move, [.tmp 10], (some 58), none⟩,
 ⟨(.fieldAddr 0), [.tmp 3], (some 59), none⟩,
 ⟨(.load false 1), [.tmp 59], (some 60), none⟩,
 ⟨(.bin .add), [.tmp 60, .const (.int .i64 2)], (some 61), none⟩,
 ⟨(.fieldAddr 1), [.tmp 3], (some 62), none⟩,
 ⟨(.load false 1), [.tmp 62], (some 63), none⟩,
 ⟨(.bin .add), [.tmp 61, .tmp 63], (some 64), none⟩,
 ⟨.move, [.tmp 11], (some 65), none⟩,
 ⟨(.bin .add), [.tmp 64, .tmp 65], (some 66), none⟩,
 ⟨.move, [.tmp 11], (some 67), none⟩,
 ⟨(.conv .u64), [.tmp 67], (some 68), none⟩,
 ⟨(.build [(.int .i64 0), (.int .i64 0), (.int .u64 0)] [(0, 1), (1, 1), (2, 1)]), [.const (.int .i64 4), .tmp 66, .tmp 68], (some 69), none⟩,
 ⟨(.sliceLit 1 [(.int .i64 0), (.int .i64 0), (.int .u64 0)] [(0, 3)]), [.tmp 69], (some 70), none⟩,
 ⟨(.append 3 24), [.tmp 58, .tmp 70], (some 71), none⟩,
 ⟨.move, [.tmp 71], (some 10), none⟩])
 .skip)))
 (.seqR [⟨.move, [.tmp 11], (some 51), none⟩,
 ⟨(.bin .add), [.tmp 51, .const (.int .i64 1)], (some 52), none⟩,
 ⟨.move, [.tmp 52], (some 11), none⟩]))))))
 (.seq (.seqR [⟨.move, [.tmp 10], (some 72), none⟩,
 ⟨.move, [.tmp 72], (some 2), none⟩])
 .ret))))))))), [.tmp 2]⟩
theorem c60_ok : compFunc Try.prog Try.f60 = some c60 := by kernel_rfl
theorem c60_body : hasBody Try.prog 60 = true := hasBody_of Try.func60 (by kernel_rfl)
/-- (coachyard/audit.look).rows -/
def c61 : PFn := ⟨44, Tr.ofList (List.replicate 44 undefA), (.seq (.seqR [⟨.box, [.tmp 0], (some 1), none⟩,
 ⟨.move, [.const (.slice none 0 0 false)], (some 2), none⟩])
 (.seq (.seqR [⟨.move, [.const (.slice none 0 0 false)], (some 3), none⟩])
 (.seq (.seqR [⟨(.fieldAddr 0), [.tmp 1], (some 9), none⟩,
 ⟨(.load true 4), [.tmp 9], (some 10), none⟩,
 ⟨(.callF 88), [.tmp 10], (some 11), none⟩,
 ⟨(.new [(.int .i64 0), (.int .i64 0), (.int .i64 0), (.int .i64 0)]), [], (some 4), none⟩,
 ⟨(.store 4), [.tmp 4, .tmp 11], none, none⟩])
 (.seq (.seq (.seqR [⟨(.fieldAddr 0), [.tmp 4], (some 12), none⟩,
 ⟨(.load false 1), [.tmp 12], (some 13), none⟩,
 ⟨.move, [.const (.int .i64 0)], (some 14), none⟩])
 (.block 0 (.loop (.seq (.seqR [⟨(.bin .lss), [.tmp 14, .tmp 13], (some 15), none⟩])
 (.seq (.cond (.tmp 15) .skip
 (.exit 0))
 (.seq (.block 1 (.seq (.seqR [⟨.move, [.tmp 14], (some 16), none⟩,
 ⟨.move, [.tmp 16], (some 5), none⟩])
 (.seq (.drawR [⟨⟨(.fieldAddr 1), [.tmp 4], (some 17), none⟩, false, false, 0, 2⟩,
 ⟨⟨(.load false 1), [.tmp 17], (some 18), none⟩, false, false, 0, 2⟩,
 ⟨⟨(.fieldAddr 0), [.tmp 1], (some 19), none⟩, false, false, 0, 0⟩,
 ⟨⟨(.load true 4), [.tmp 19], (some 20), none⟩, false, false, 0, 0⟩,
 ⟨⟨.move, [.tmp 5], (some 21), none⟩, false, false, 0, 0⟩,
 ⟨⟨(.callF 91), [.tmp 20, .tmp 21], (some 22), none⟩, true, false, 0, 2⟩,
 ⟨⟨(.fieldAddr 2), [.tmp 4], (some 23), none⟩, false, false, 0, 2⟩,
 ⟨⟨(.load false 1), [.tmp 23], (some 24), none⟩, false, false, 0, 2⟩,
 ⟨⟨(.build [(.int .i64 0), (.int .i64 0), (.int .i64 0)] [(0, 1), (1, 1), (2, 1)]), [.tmp 18, .tmp 22, .tmp 24], (some 25), none⟩, false, false, 1, 2⟩,
 ⟨⟨(.new [(.int .i64 0), (.int .i64 0), (.int .i64 0)]), [], (some 6), none⟩, true, true, 0, 2⟩,
 ⟨⟨(.store 3), [.tmp 6, .tmp 25], none, none⟩, true, false, 2, 3⟩])
 (.seq (.seqR [⟨(.load true 3), [.tmp 6], (some 27), none⟩,
 ⟨(.fieldAddr 4), [.tmp 1], (some 28), none⟩,
 ⟨(.load false 1), [.tmp 28], (some 29), none⟩,
 ⟨(.callF 92), [.tmp 27, .tmp 29], (some 30), none⟩,
 ⟨.move, [.tmp 30], (some 26), none⟩,
 ⟨(.extract 0), [.tmp 26], (some 31), none⟩,
 ⟨(.extract 1), [.tmp 26], (some 32), none⟩,
 ⟨.move, [.tmp 31], (some 7), none⟩,
 ⟨.move, [.tmp 32], (some 8), none⟩])
 (.seq (.seqR [⟨.move, [.tmp 8], (some 33), none⟩,
 ⟨(.bin .neq), [.tmp 33, .const (.int .i64 0)], (some 34), none⟩])
 (.cond (.tmp 34) (.seqR [⟨.move, [.tmp 3], (some 35), none⟩,
 ⟨(.load true 6), [.tmp 1], (some 36), none⟩,
 ⟨(.fieldAddr 1), [.tmp 6], (some 37), none⟩,
 ⟨(.load false 1), [.tmp 37], (some 38), none⟩,
 ⟨(.callF 89), [.tmp 36, .const (.int .i64 5), .tmp 38], (some 39), none⟩,
 ⟨(.sliceLit 1 [(.int .i64 0), (.int .i64 0), (.int .u64 0)] [(0, 3)]), [.tmp 39], (some 40), none⟩,
 ⟨(.append 3 24), [.tmp 35, .tmp 40], (some 41), none⟩,
 ⟨.move, [.tmp 41], (some 3), none⟩])
 .skip))))))
 (.seqR [⟨(.bin .add), [.tmp 14, .const (.int .i64 1)], (some 42), none⟩,
 ⟨.move, [.tmp 42], (some 14), none⟩])))))))
 (.seq (.seqR [⟨.move, [.tmp 3], (some 43), none⟩,
 ⟨.move, [.tmp 43], (some 2), none⟩])
 .ret))))), [.tmp 2]⟩
theorem c61_ok : compFunc Try.prog Try.f61 = some c61 := by kernel_rfl
theorem c61_body : hasBody Try.prog 61 = true := hasBody_of Try.func61 (by kernel_rfl)
/-- (coachyard/audit.look).nodes -/
def c62 : PFn := ⟨79, Tr.ofList (List.replicate 79 undefA), (.seq (.seqR [⟨.box, [.tmp 0], (some 1), none⟩,
 ⟨.move, [.const (.slice none 0 0 false)], (some 2), none⟩,
 ⟨.move, [.const (.slice none 0 0 false)], (some 3), none⟩,
 ⟨.move, [.const (.int .i64 0)], (some 4), none⟩])
 (.seq (.seqR [⟨(.fieldAddr 0), [.tmp 1], (some 12), none⟩,
 ⟨(.load true 4), [.tmp 12], (some 13), none⟩,
 ⟨(.callF 82), [.tmp 13], (some 14), none⟩,
 ⟨(.new [(.int .i64 0), (.int .i64 0)]), [], (some 5), none⟩,
 ⟨(.store 2), [.tmp 5, .tmp 14], none, none⟩])
 (.seq (.seqR [⟨(.load true 2), [.tmp 5], (some 16), none⟩,
 ⟨(.fieldAddr 4), [.tmp 1], (some 17), none⟩,
 ⟨(.load false 1), [.tmp 17], (some 18), none⟩,
 ⟨(.callF 93), [.tmp 16, .tmp 18], (some 19), none⟩,
 ⟨.move, [.tmp 19], (some 15), none⟩,
 ⟨(.extract 0), [.tmp 15], (some 20), none⟩,
 ⟨(.extract 1), [.tmp 15], (some 21), none⟩,
 ⟨.move, [.tmp 20], (some 6), none⟩,
 ⟨.move, [.tmp 21], (some 7), none⟩])
 (.seq (.seq (.seqR [⟨.move, [.tmp 7], (some 22), none⟩,
 ⟨(.bin .neq), [.tmp 22, .const (.int .i64 0)], (some 23), none⟩])
 (.cond (.tmp 23) (.seq (.seqR [⟨.move, [.tmp 7], (some 24), none⟩,
 ⟨.move, [.const (.slice none 0 0 false)], (some 2), none⟩,
 ⟨.move, [.const (.slice none 0 0 false)], (some 3), none⟩,
 ⟨.move, [.tmp 24], (some 4), none⟩])
 .ret)
 .skip))
 (.seq (.drawR [⟨⟨(.load true 2), [.tmp 5], (some 26), none⟩, false, false, 0, 0⟩,
 ⟨⟨(.callF 94), [.tmp 26], (some 27), none⟩, true, false, 0, 1⟩,
 ⟨⟨(.fieldAddr 4), [.tmp 1], (some 28), none⟩, false, false, 0, 1⟩,
 ⟨⟨(.load false 1), [.tmp 28], (some 29), none⟩, false, false, 0, 1⟩,
 ⟨⟨(.callF 95), [.tmp 27, .tmp 29], (some 30), none⟩, true, false, 1, 2⟩,
 ⟨⟨.move, [.tmp 30], (some 25), none⟩, false, false, 2, 2⟩,
 ⟨⟨(.extract 0), [.tmp 25], (some 31), none⟩, false, false, 2, 2⟩,
 ⟨⟨(.extract 1), [.tmp 25], (some 32), none⟩, false, false, 2, 2⟩,
 ⟨⟨.move, [.tmp 31], (some 8), none⟩, false, false, 2, 2⟩,
 ⟨⟨.move, [.tmp 32], (some 7), none⟩, false, false, 2, 2⟩])
 (.seq (.seq (.seqR [⟨.move, [.tmp 7], (some 33), none⟩,
 ⟨(.bin .neq), [.tmp 33, .const (.int .i64 0)], (some 34), none⟩])
 (.cond (.tmp 34) (.seq (.seqR [⟨.move, [.tmp 7], (some 35), none⟩,
 ⟨.move, [.const (.slice none 0 0 false)], (some 2), none⟩,
 ⟨.move, [.const (.slice none 0 0 false)], (some 3), none⟩,
 ⟨.move, [.tmp 35], (some 4), none⟩])
 .ret)
 .skip))
 (.seq (.seqR [⟨(.fieldAddr 5), [.tmp 1], (some 37), none⟩,
 ⟨(.load false 1), [.tmp 37], (some 38), none⟩,
 ⟨(.fieldAddr 0), [.tmp 5], (some 39), none⟩,
 ⟨(.load false 1), [.tmp 39], (some 40), none⟩,
 ⟨(.indexAddrS 1), [.tmp 38, .tmp 40], (some 41), none⟩,
 ⟨(.load false 1), [.tmp 41], (some 42), none⟩,
 ⟨(.callF 87), [.tmp 42], (some 43), none⟩,
 ⟨.move, [.tmp 43], (some 36), none⟩,
 ⟨(.extract 0), [.tmp 36], (some 44), none⟩,
 ⟨(.extract 1), [.tmp 36], (some 45), none⟩,
 ⟨.move, [.tmp 44], (some 9), none⟩,
 ⟨.move, [.tmp 45], (some 10), none⟩])
 (.seq (.seqR [⟨.move, [.tmp 10], (some 46), none⟩,
 ⟨(.conv .i64), [.tmp 46], (some 47), none⟩,
 ⟨(.sliceLit 1 [(.int .i64 0)] [(0, 1)]), [.tmp 47], (some 48), none⟩,
 ⟨.move, [.tmp 48], (some 11), none⟩])
 (.seq (.seq (.seqR [⟨.move, [.tmp 6], (some 49), none⟩,
 ⟨.lenS, [.tmp 49], (some 50), none⟩,
 ⟨.move, [.const (.int .i64 0)], (some 51), none⟩])
 (.block 0 (.loop (.seq (.seqR [⟨(.bin .lss), [.tmp 51, .tmp 50], (some 52), none⟩])
 (.seq (.cond (.tmp 52) .skip
 (.exit 0))
 (.seq (.block 1 (.seq (.seqR [⟨(.fieldAddr 5), [.tmp 1], (some 54), none⟩,
 ⟨(.load false 1), [.tmp 54], (some 55), none⟩,
 ⟨(.fieldAddr 0), [.tmp 5], (some 56), none⟩,
 ⟨(.load false 1), [.tmp 56], (some 57), none⟩,
 ⟨(.bin .add), [.tmp 57, .const (.int .i64 2)], (some 58), none⟩,
 ⟨(.fieldAddr 1), [.tmp 5], (some 59), none⟩,
 ⟨(.load false 1), [.tmp 59], (some 60), none⟩,
 ⟨(.bin .mul), [.const (.int .i64 2), .tmp 60], (some 61), none⟩,
 ⟨(.bin .add), [.tmp 58, .tmp 61], (some 62), none⟩,
 ⟨.move, [.tmp 10], (some 63), none⟩,
 ⟨(.conv .i64), [.tmp 63], (some 64), none⟩,
 ⟨(.bin .add), [.tmp 62, .tmp 64], (some 65), none⟩,
 ⟨(.indexAddrS 1), [.tmp 55, .tmp 65], (some 66), none⟩,
 ⟨(.load false 1), [.tmp 66], (some 67), none⟩,
 ⟨(.callF 87), [.tmp 67], (some 68), none⟩,
 ⟨.move, [.tmp 68], (some 53), none⟩,
 ⟨(.extract 0), [.tmp 53], (some 69), none⟩,
 ⟨(.extract 1), [.tmp 53], (some 70), none⟩,
 ⟨.move, [.tmp 70], (some 10), none⟩])
 (.seqR [⟨.move, [.tmp 11], (some 71), none⟩,
 ⟨.move, [.tmp 10], (some 72), none⟩,
 ⟨(.conv .i64), [.tmp 72], (some 73), none⟩,
 ⟨(.sliceLit 1 [(.int .i64 0)] [(0, 1)]), [.tmp 73], (some 74), none⟩,
 ⟨(.append 1 8), [.tmp 71, .tmp 74], (some 75), none⟩,
 ⟨.move, [.tmp 75], (some 11), none⟩])))
 (.seqR [⟨(.bin .add), [.tmp 51, .const (.int .i64 1)], (some 76), none⟩,
 ⟨.move, [.tmp 76], (some 51), none⟩])))))))
 (.seq (.seqR [⟨.move, [.tmp 11], (some 77), none⟩,
 ⟨.move, [.tmp 8], (some 78), none⟩,
 ⟨.move, [.tmp 77], (some 2), none⟩,
 ⟨.move, [.tmp 78], (some 3), none⟩,
 ⟨.move, [.const (.int .i64 0)], (some 4), none⟩])
 .ret)))))))))), [.tmp 2, .tmp 3, .tmp 4]⟩
theorem c62_ok : compFunc Try.prog Try.f62 = some c62 := by kernel_rfl
theorem c62_body : hasBody Try.prog 62 = true := hasBody_of Try.func62 (by kernel_rfl)
/-- math/bits.Len -/
def c75 : PFn := ⟨8, Tr.ofList (List.replicate 8 undefA), (.seq (.seqR [⟨.move, [.const (.int .i64 0)], (some 2), none⟩])
 (.seq (.cond (.const (.bool false)) (.seq (.seqR [⟨.move, [.tmp 0], (some 3), none⟩,
 ⟨(.conv .u32), [.tmp 3], (some 4), none⟩,
 ⟨(.callF 109), [.tmp 4], (some 5), none⟩,
 ⟨.move, [.tmp 5], (some 2), none⟩])
 .ret)
 .skip)
 (.seq (.seqR [⟨.move, [.tmp 0], (some 6), none⟩,
 ⟨(.callF 110), [.tmp 6], (some 7), none⟩,
 ⟨.move, [.tmp 7], (some 2), none⟩])
 .ret))), [.tmp 2]⟩
theorem c75_ok : compFunc Try.prog Try.f75 = some c75 := by kernel_rfl
theorem c75_body : hasBody Try.prog 75 = true := hasBody_of Try.func75 (by kernel_rfl)
/-- cmp.isNaN[int] -/
def c76 : PFn := ⟨6, Tr.ofList (List.replicate 6 undefA), (.seq (.seqR [⟨.move, [.const (.bool false)], (some 2), none⟩])
 (.seq (.seqR [⟨.move, [.tmp 0], (some 3), none⟩,
 ⟨.move, [.tmp 0], (some 4), none⟩,
 ⟨(.bin .neq), [.tmp 3, .tmp 4], (some 5), none⟩,
 ⟨.move, [.tmp 5], (some 2), none⟩])
 .ret)), [.tmp 2]⟩
theorem c76_ok : compFunc Try.prog Try.f76 = some c76 := by kernel_rfl
theorem c76_body : hasBody Try.prog 76 = true := hasBody_of Try.func76 (by kernel_rfl)
/-- slices.Clone[[]uint64,uint64] -/
def c78 : PFn := ⟨8, Tr.ofList (List.replicate 8 undefA), (.seq (.seqR [⟨.move, [.const (.slice none 0 0 false)], (some 2), none⟩])
 (.seq (.seq (.seqR [⟨.move, [.tmp 0], (some 3), none⟩,
 ⟨(.eqNil 0 false), [.tmp 3, .const (.slice none 0 0 false)], (some 4), none⟩])
 (.cond (.tmp 4) (.seq (.seqR [⟨.move, [.const (.slice none 0 0 false)], (some 2), none⟩])
 .ret)
 .skip))
 (.seq (.seqR [⟨(.sliceLit 0 [] []), [], (some 5), none⟩,
 ⟨.move, [.tmp 0], (some 6), none⟩,
 ⟨(.append 1 8), [.tmp 5, .tmp 6], (some 7), none⟩,
 ⟨.move, [.tmp 7], (some 2), none⟩])
 .ret))), [.tmp 2]⟩
theorem c78_ok : compFunc Try.prog Try.f78 = some c78 := by kernel_rfl
theorem c78_body : hasBody Try.prog 78 = true := hasBody_of Try.func78 (by kernel_rfl)
/-- (coachyard/plan.Plan).Cells -/
def c81 : PFn := ⟨19, Tr.ofList (List.replicate 19 undefA), (.seq (.seqR [⟨.box, [.tmp 0], (some 1), none⟩,
 ⟨.move, [.const (.int .i64 0)], (some 2), none⟩])
 (.seq (.seq (.seqR [⟨(.fieldAddr 0), [.tmp 1], (some 3), none⟩,
 ⟨(.fieldAddr 0), [.tmp 3], (some 4), none⟩,
 ⟨(.load false 1), [.tmp 4], (some 5), none⟩,
 ⟨(.bin .eql), [.tmp 5, .const (.int .i64 0)], (some 6), none⟩])
 (.cond (.tmp 6) (.seq (.seqR [⟨.move, [.const (.int .i64 0)], (some 2), none⟩])
 .ret)
 .skip))
 (.seq (.drawR [⟨⟨(.fieldAddr 0), [.tmp 1], (some 7), none⟩, false, false, 0, 0⟩,
 ⟨⟨(.load true 4), [.tmp 7], (some 8), none⟩, false, false, 0, 0⟩,
 ⟨⟨(.callF 111), [.tmp 8], (some 9), none⟩, true, false, 0, 1⟩,
 ⟨⟨(.fieldAddr 0), [.tmp 1], (some 10), none⟩, false, false, 0, 1⟩,
 ⟨⟨(.fieldAddr 0), [.tmp 10], (some 11), none⟩, false, false, 0, 1⟩,
 ⟨⟨(.load false 1), [.tmp 11], (some 12), none⟩, false, false, 0, 1⟩,
 ⟨⟨(.fieldAddr 0), [.tmp 1], (some 13), none⟩, false, false, 0, 1⟩,
 ⟨⟨(.fieldAddr 2), [.tmp 13], (some 14), none⟩, false, false, 0, 1⟩,
 ⟨⟨(.load false 1), [.tmp 14], (some 15), none⟩, false, false, 0, 1⟩,
 ⟨⟨(.bin .add), [.tmp 15, .const (.int .i64 2)], (some 16), none⟩, false, false, 0, 1⟩,
 ⟨⟨(.bin .mul), [.tmp 12, .tmp 16], (some 17), none⟩, false, false, 0, 1⟩,
 ⟨⟨(.bin .add), [.tmp 9, .tmp 17], (some 18), none⟩, false, false, 1, 1⟩,
 ⟨⟨.move, [.tmp 18], (some 2), none⟩, false, false, 1, 1⟩])
 .ret))), [.tmp 2]⟩
theorem c81_ok : compFunc Try.prog Try.f81 = some c81 := by kernel_rfl
theorem c81_body : hasBody Try.prog 81 = true := hasBody_of Try.func81 (by kernel_rfl)
/-- (coachyard/plan.Plan).Line -/
def c82 : PFn := ⟨16, Tr.ofList (List.replicate 16 undefA), (.seq (.seqR [⟨.box, [.tmp 0], (some 1), none⟩,
 ⟨(.new [(.int .i64 0), (.int .i64 0)]), [], (some 2), none⟩])
 (.seq (.seq (.seqR [⟨(.fieldAddr 0), [.tmp 1], (some 3), none⟩,
 ⟨(.fieldAddr 0), [.tmp 3], (some 4), none⟩,
 ⟨(.load false 1), [.tmp 4], (some 5), none⟩,
 ⟨(.bin .eql), [.tmp 5, .const (.int .i64 0)], (some 6), none⟩])
 (.cond (.tmp 6) (.seq (.seqR [⟨(.build [(.int .i64 0), (.int .i64 0)] []), [], (some 7), none⟩,
 ⟨(.store 2), [.tmp 2, .tmp 7], none, none⟩])
 .ret)
 .skip))
 (.seq (.seqR [⟨(.fieldAddr 0), [.tmp 1], (some 8), none⟩,
 ⟨(.fieldAddr 0), [.tmp 8], (some 9), none⟩,
 ⟨(.load false 1), [.tmp 9], (some 10), none⟩,
 ⟨(.bin .add), [.const (.int .i64 1), .tmp 10], (some 11), none⟩,
 ⟨(.fieldAddr 0), [.tmp 1], (some 12), none⟩,
 ⟨(.fieldAddr 3), [.tmp 12], (some 13), none⟩,
 ⟨(.load false 1), [.tmp 13], (some 14), none⟩,
 ⟨(.build [(.int .i64 0), (.int .i64 0)] [(0, 1), (1, 1)]), [.tmp 11, .tmp 14], (some 15), none⟩,
 ⟨(.store 2), [.tmp 2, .tmp 15], none, none⟩])
 .ret))), [.cell 2 true 2]⟩
theorem c82_ok : compFunc Try.prog Try.f82 = some c82 := by kernel_rfl
theorem c82_body : hasBody Try.prog 82 = true := hasBody_of Try.func82 (by kernel_rfl)
/-- (coachyard/queue.Line).Init -/
def c83 : PFn := ⟨42, Tr.ofList (List.replicate 42 undefA), (.seq (.seqR [⟨.box, [.tmp 0], (some 2), none⟩,
 ⟨.move, [.const (.int .i64 0)], (some 4), none⟩])
 (.seq (.seq (.seqR [⟨(.load true 2), [.tmp 2], (some 8), none⟩,
 ⟨.move, [.tmp 1], (some 9), none⟩,
 ⟨(.callF 112), [.tmp 8, .tmp 9], (some 10), none⟩,
 ⟨.move, [.tmp 10], (some 5), none⟩])
 (.seq (.seqR [⟨.move, [.tmp 5], (some 11), none⟩,
 ⟨(.bin .neq), [.tmp 11, .const (.int .i64 0)], (some 12), none⟩])
 (.cond (.tmp 12) (.seq (.seqR [⟨.move, [.tmp 5], (some 13), none⟩,
 ⟨.move, [.tmp 13], (some 4), none⟩])
 .ret)
 .skip)))
 (.seq (.seq (.seqR [⟨(.load true 2), [.tmp 2], (some 14), none⟩,
 ⟨(.callF 113), [.tmp 14], (some 15), none⟩,
 ⟨.move, [.const (.int .i64 0)], (some 16), none⟩])
 (.block 0 (.loop (.seq (.seqR [⟨(.bin .lss), [.tmp 16, .tmp 15], (some 17), none⟩])
 (.seq (.cond (.tmp 17) .skip
 (.exit 0))
 (.seq (.block 1 (.seq (.seqR [⟨.move, [.tmp 16], (some 18), none⟩,
 ⟨.move, [.tmp 18], (some 6), none⟩])
 (.seqR [⟨.move, [.tmp 1], (some 19), none⟩,
 ⟨(.fieldAddr 0), [.tmp 2], (some 20), none⟩,
 ⟨(.load false 1), [.tmp 20], (some 21), none⟩,
 ⟨.move, [.tmp 6], (some 22), none⟩,
 ⟨(.bin .add), [.tmp 21, .tmp 22], (some 23), none⟩,
 ⟨(.build [(.int .i64 0), (.int .i64 0), (.int .u64 0), (.int .u64 0)] [(0, 1), (1, 1)]), [.const (.int .i64 2), .tmp 23], (some 24), none⟩,
 ⟨(.callF 55), [.tmp 19, .tmp 24], (some 25), none⟩])))
 (.seqR [⟨(.bin .add), [.tmp 16, .const (.int .i64 1)], (some 26), none⟩,
 ⟨.move, [.tmp 26], (some 16), none⟩])))))))
 (.seq (.seqR [⟨(.load true 2), [.tmp 2], (some 27), none⟩,
 ⟨(.callF 94), [.tmp 27], (some 28), none⟩,
 ⟨.move, [.tmp 1], (some 29), none⟩,
 ⟨(.callF 114), [.tmp 28, .tmp 29, .const (.int .i64 2)], (some 30), none⟩])
 (.seq (.seq (.seqR [⟨.move, [.const (.int .i64 0)], (some 31), none⟩])
 (.block 2 (.loop (.seq (.seqR [⟨(.bin .lss), [.tmp 31, .const (.int .i64 2)], (some 32), none⟩])
 (.seq (.cond (.tmp 32) .skip
 (.exit 2))
 (.seq (.block 3 (.seq (.seqR [⟨.move, [.tmp 31], (some 33), none⟩,
 ⟨.move, [.tmp 33], (some 7), none⟩])
 (.seqR [⟨.move, [.tmp 1], (some 34), none⟩,
 ⟨(.fieldAddr 0), [.tmp 2], (some 35), none⟩,
 ⟨(.load false 1), [.tmp 35], (some 36), none⟩,
 ⟨.move, [.tmp 7], (some 37), none⟩,
 ⟨(.bin .add), [.tmp 36, .tmp 37], (some 38), none⟩,
 ⟨(.build [(.int .i64 0), (.int .i64 0), (.int .u64 0), (.int .u64 0)] [(0, 1), (1, 1), (2, 1)]), [.const (.int .i64 2), .tmp 38, .const (.int .u64 1)], (some 39), none⟩,
 ⟨(.callF 55), [.tmp 34, .tmp 39], (some 40), none⟩])))
 (.seqR [⟨(.bin .add), [.tmp 31, .const (.int .i64 1)], (some 41), none⟩,
 ⟨.move, [.tmp 41], (some 31), none⟩])))))))
 (.seq (.seqR [⟨.move, [.const (.int .i64 0)], (some 4), none⟩])
 .ret)))))), [.tmp 4]⟩
theorem c83_ok : compFunc Try.prog Try.f83 = some c83 := by kernel_rfl
theorem c83_body : hasBody Try.prog 83 = true := hasBody_of Try.func83 (by kernel_rfl)
/-- coachyard/cells.of -/
def c84 : PFn := ⟨14, Tr.ofList (List.replicate 14 undefA), (.seq (.seqR [⟨.move, [.const .nilFunc], (some 2), none⟩])
 (.seq (.seqR [⟨(.build [.nilFunc, .nilFunc, .nilFunc, .nilFunc, .nilFunc, .nilFunc, .nilFunc, .nilFunc] [(0, 1), (1, 1), (2, 1), (3, 1), (4, 1), (5, 1), (6, 1), (7, 1)]), [.const .nilFunc, .const (.func (.func 115) [] []), .const (.func (.func 116) [] []), .const (.func (.func 117) [] []), .const (.func (.func 118) [] []), .const (.func (.func 119) [] []), .const (.func (.func 120) [] []), .const (.func (.func 121) [] [])], (some 4), none⟩,
 ⟨(.new [.nilFunc, .nilFunc, .nilFunc, .nilFunc, .nilFunc, .nilFunc, .nilFunc, .nilFunc]), [], (some 3), none⟩,
 ⟨(.store 8), [.tmp 3, .tmp 4], none, none⟩])
 (.seq (.seq (.seqR [⟨.move, [.tmp 0], (some 5), none⟩,
 ⟨(.bin .lss), [.tmp 5, .const (.int .i64 0)], (some 6), none⟩,
 ⟨.move, [.tmp 6], (some 7), none⟩,
 ⟨.move, [.tmp 0], (some 8), some (7, false)⟩,
 ⟨(.bin .geq), [.tmp 8, .const (.int .i64 8)], (some 9), some (7, false)⟩,
 ⟨.pick, [.tmp 7, .const (.bool true), .tmp 9], (some 10), none⟩])
 (.cond (.tmp 10) (.seq (.seqR [⟨.move, [.const .nilFunc], (some 2), none⟩])
 .ret)
 .skip))
 (.seq (.seqR [⟨.move, [.tmp 0], (some 11), none⟩,
 ⟨(.indexAddrA 8 1), [.tmp 3, .tmp 11], (some 12), none⟩,
 ⟨(.load false 1), [.tmp 12], (some 13), none⟩,
 ⟨.move, [.tmp 13], (some 2), none⟩])
 .ret)))), [.tmp 2]⟩
theorem c84_ok : compFunc Try.prog Try.f84 = some c84 := by kernel_rfl
theorem c84_body : hasBody Try.prog 84 = true := hasBody_of Try.func84 (by kernel_rfl)
/-- (*coachyard/cells.Mem).Len -/
def c85 : PFn := ⟨10, Tr.ofList (List.replicate 10 undefA), (.seq (.seqR [⟨.move, [.const (.int .i64 0)], (some 2), none⟩])
 (.seq (.seq (.seqR [⟨.move, [.tmp 0], (some 3), none⟩,
 ⟨(.eqPtr false), [.tmp 3, .const (.ptr none)], (some 4), none⟩])
 (.cond (.tmp 4) (.seq (.seqR [⟨.move, [.const (.int .i64 0)], (some 2), none⟩])
 .ret)
 .skip))
 (.seq (.seqR [⟨.move, [.tmp 0], (some 5), none⟩,
 ⟨.nilCheck, [.tmp 5], (some 6), none⟩,
 ⟨(.fieldAddr 0), [.tmp 6], (some 7), none⟩,
 ⟨(.load false 1), [.tmp 7], (some 8), none⟩,
 ⟨.lenS, [.tmp 8], (some 9), none⟩,
 ⟨.move, [.tmp 9], (some 2), none⟩])
 .ret))), [.tmp 2]⟩
theorem c85_ok : compFunc Try.prog Try.f85 = some c85 := by kernel_rfl
theorem c85_body : hasBody Try.prog 85 = true := hasBody_of Try.func85 (by kernel_rfl)
/-- (*coachyard/cells.Mem).All -/
def c86 : PFn := ⟨10, Tr.ofList (List.replicate 10 undefA), (.seq (.seqR [⟨.move, [.const (.slice none 0 0 false)], (some 2), none⟩])
 (.seq (.seq (.seqR [⟨.move, [.tmp 0], (some 3), none⟩,
 ⟨(.eqPtr false), [.tmp 3, .const (.ptr none)], (some 4), none⟩])
 (.cond (.tmp 4) (.seq (.seqR [⟨.move, [.const (.slice none 0 0 false)], (some 2), none⟩])
 .ret)
 .skip))
 (.seq (.seqR [⟨.move, [.tmp 0], (some 5), none⟩,
 ⟨.nilCheck, [.tmp 5], (some 6), none⟩,
 ⟨(.fieldAddr 0), [.tmp 6], (some 7), none⟩,
 ⟨(.load false 1), [.tmp 7], (some 8), none⟩,
 ⟨(.callF 78), [.tmp 8], (some 9), none⟩,
 ⟨.move, [.tmp 9], (some 2), none⟩])
 .ret))), [.tmp 2]⟩
theorem c86_ok : compFunc Try.prog Try.f86 = some c86 := by kernel_rfl
theorem c86_body : hasBody Try.prog 86 = true := hasBody_of Try.func86 (by kernel_rfl)
/-- coachyard/word.Split -/
def c87 : PFn := ⟨9, Tr.ofList (List.replicate 9 undefA), (.seq (.seqR [⟨.move, [.const (.int .u32 0)], (some 2), none⟩,
 ⟨.move, [.const (.int .u32 0)], (some 3), none⟩])
 (.seq (.seqR [⟨.move, [.tmp 0], (some 4), none⟩,
 ⟨(.bin .shr), [.tmp 4, .const (.int .u64 32)], (some 5), none⟩,
 ⟨(.conv .u32), [.tmp 5], (some 6), none⟩,
 ⟨.move, [.tmp 0], (some 7), none⟩,
 ⟨(.conv .u32), [.tmp 7], (some 8), none⟩,
 ⟨.move, [.tmp 6], (some 2), none⟩,
 ⟨.move, [.tmp 8], (some 3), none⟩])
 .ret)), [.tmp 2, .tmp 3]⟩
theorem c87_ok : compFunc Try.prog Try.f87 = some c87 := by kernel_rfl
theorem c87_body : hasBody Try.prog 87 = true := hasBody_of Try.func87 (by kernel_rfl)
/-- (coachyard/plan.Plan).Config -/
def c88 : PFn := ⟨5, Tr.ofList (List.replicate 5 undefA), (.seq (.seqR [⟨.box, [.tmp 0], (some 1), none⟩,
 ⟨(.new [(.int .i64 0), (.int .i64 0), (.int .i64 0), (.int .i64 0)]), [], (some 2), none⟩])
 (.seq (.seqR [⟨(.fieldAddr 0), [.tmp 1], (some 3), none⟩,
 ⟨(.load true 4), [.tmp 3], (some 4), none⟩,
 ⟨(.store 4), [.tmp 2, .tmp 4], none, none⟩])
 .ret)), [.cell 2 true 4]⟩
theorem c88_ok : compFunc Try.prog Try.f88 = some c88 := by kernel_rfl
theorem c88_body : hasBody Try.prog 88 = true := hasBody_of Try.func88 (by kernel_rfl)
/-- (coachyard/audit.look).at -/
def c89 : PFn := ⟨15, Tr.ofList (List.replicate 15 undefA), (.seq (.seqR [⟨.box, [.tmp 0], (some 3), none⟩,
 ⟨(.new [(.int .i64 0), (.int .i64 0), (.int .u64 0)]), [], (some 6), none⟩])
 (.seq (.seqR [⟨.move, [.tmp 1], (some 7), none⟩,
 ⟨.move, [.tmp 2], (some 8), none⟩,
 ⟨(.fieldAddr 5), [.tmp 3], (some 9), none⟩,
 ⟨(.load false 1), [.tmp 9], (some 10), none⟩,
 ⟨.move, [.tmp 2], (some 11), none⟩,
 ⟨(.indexAddrS 1), [.tmp 10, .tmp 11], (some 12), none⟩,
 ⟨(.load false 1), [.tmp 12], (some 13), none⟩,
 ⟨(.build [(.int .i64 0), (.int .i64 0), (.int .u64 0)] [(0, 1), (1, 1), (2, 1)]), [.tmp 7, .tmp 8, .tmp 13], (some 14), none⟩,
 ⟨(.store 3), [.tmp 6, .tmp 14], none, none⟩])
 .ret)), [.cell 6 true 3]⟩
theorem c89_ok : compFunc Try.prog Try.f89 = some c89 := by kernel_rfl
theorem c89_body : hasBody Try.prog 89 = true := hasBody_of Try.func89 (by kernel_rfl)
/-- (coachyard/plan.Plan).Spot -/
def c90 : PFn := ⟨13, Tr.ofList (List.replicate 13 undefA), (.seq (.seqR [⟨.box, [.tmp 0], (some 2), none⟩,
 ⟨(.new [(.int .i64 0)]), [], (some 4), none⟩])
 (.seq (.seq (.seqR [⟨(.load true 4), [.tmp 2], (some 5), none⟩,
 ⟨.move, [.tmp 1], (some 6), none⟩,
 ⟨(.callF 122), [.tmp 5, .tmp 6], (some 7), none⟩,
 ⟨.not, [.tmp 7], (some 8), none⟩])
 (.cond (.tmp 8) (.seq (.seqR [⟨(.build [(.int .i64 0)] [(0, 1)]), [.const (.int .i64 (-1))], (some 9), none⟩,
 ⟨(.store 1), [.tmp 4, .tmp 9], none, none⟩])
 .ret)
 .skip))
 (.seq (.seqR [⟨.move, [.tmp 1], (some 10), none⟩,
 ⟨(.bin .add), [.const (.int .i64 1), .tmp 10], (some 11), none⟩,
 ⟨(.build [(.int .i64 0)] [(0, 1)]), [.tmp 11], (some 12), none⟩,
 ⟨(.store 1), [.tmp 4, .tmp 12], none, none⟩])
 .ret))), [.cell 4 true 1]⟩
theorem c90_ok : compFunc Try.prog Try.f90 = some c90 := by kernel_rfl
theorem c90_body : hasBody Try.prog 90 = true := hasBody_of Try.func90 (by kernel_rfl)
/-- (coachyard/plan.Plan).Local -/
def c91 : PFn := ⟨19, Tr.ofList (List.replicate 19 undefA), (.seq (.seqR [⟨.box, [.tmp 0], (some 2), none⟩,
 ⟨.move, [.const (.int .i64 0)], (some 4), none⟩])
 (.seq (.seq (.seqR [⟨(.load true 4), [.tmp 2], (some 5), none⟩,
 ⟨.move, [.tmp 1], (some 6), none⟩,
 ⟨(.callF 122), [.tmp 5, .tmp 6], (some 7), none⟩,
 ⟨.not, [.tmp 7], (some 8), none⟩])
 (.cond (.tmp 8) (.seq (.seqR [⟨.move, [.const (.int .i64 (-1))], (some 4), none⟩])
 .ret)
 .skip))
 (.seq (.drawR [⟨⟨(.fieldAddr 0), [.tmp 2], (some 9), none⟩, false, false, 0, 0⟩,
 ⟨⟨(.load true 4), [.tmp 9], (some 10), none⟩, false, false, 0, 0⟩,
 ⟨⟨(.callF 111), [.tmp 10], (some 11), none⟩, true, false, 0, 1⟩,
 ⟨⟨.move, [.tmp 1], (some 12), none⟩, false, false, 0, 1⟩,
 ⟨⟨(.fieldAddr 0), [.tmp 2], (some 13), none⟩, false, false, 0, 1⟩,
 ⟨⟨(.fieldAddr 2), [.tmp 13], (some 14), none⟩, false, false, 0, 1⟩,
 ⟨⟨(.load false 1), [.tmp 14], (some 15), none⟩, false, false, 0, 1⟩,
 ⟨⟨(.bin .add), [.tmp 15, .const (.int .i64 2)], (some 16), none⟩, false, false, 0, 1⟩,
 ⟨⟨(.bin .mul), [.tmp 12, .tmp 16], (some 17), none⟩, false, false, 0, 1⟩,
 ⟨⟨(.bin .add), [.tmp 11, .tmp 17], (some 18), none⟩, false, false, 1, 1⟩,
 ⟨⟨.move, [.tmp 18], (some 4), none⟩, false, false, 1, 1⟩])
 .ret))), [.tmp 4]⟩
theorem c91_ok : compFunc Try.prog Try.f91 = some c91 := by kernel_rfl
theorem c91_body : hasBody Try.prog 91 = true := hasBody_of Try.func91 (by kernel_rfl)
/-- (coachyard/local.Row).All -/
def c92 : PFn := ⟨12, Tr.ofList (List.replicate 12 undefA), (.seq (.seqR [⟨.box, [.tmp 0], (some 2), none⟩,
 ⟨.move, [.const (.slice none 0 0 false)], (some 4), none⟩,
 ⟨.move, [.const (.int .i64 0)], (some 5), none⟩])
 (.seq (.seqR [⟨(.load true 3), [.tmp 2], (some 6), none⟩,
 ⟨(.callF 123), [.tmp 6], (some 7), none⟩,
 ⟨.move, [.tmp 1], (some 8), none⟩,
 ⟨(.invoke [(48, 156), (61, 86), (158, 93), (175, 92), (210, 189), (211, 218), (213, 247)]), [.tmp 7, .tmp 8], (some 9), none⟩,
 ⟨(.extract 0), [.tmp 9], (some 10), none⟩,
 ⟨(.extract 1), [.tmp 9], (some 11), none⟩,
 ⟨.move, [.tmp 10], (some 4), none⟩,
 ⟨.move, [.tmp 11], (some 5), none⟩])
 .ret)), [.tmp 4, .tmp 5]⟩
theorem c92_ok : compFunc Try.prog Try.f92 = some c92 := by kernel_rfl
theorem c92_body : hasBody Try.prog 92 = true := hasBody_of Try.func92 (by kernel_rfl)
/-- (coachyard/queue.Line).All -/
def c93 : PFn := ⟨73, Tr.ofList (List.replicate 73 undefA), (.seq (.seqR [⟨.box, [.tmp 0], (some 2), none⟩,
 ⟨.move, [.const (.slice none 0 0 false)], (some 4), none⟩,
 ⟨.move, [.const (.int .i64 0)], (some 5), none⟩])
 (.seq (.seq (.seqR [⟨(.load true 2), [.tmp 2], (some 13), none⟩,
 ⟨.move, [.tmp 1], (some 14), none⟩,
 ⟨(.callF 112), [.tmp 13, .tmp 14], (some 15), none⟩,
 ⟨.move, [.tmp 15], (some 6), none⟩])
 (.seq (.seqR [⟨.move, [.tmp 6], (some 16), none⟩,
 ⟨(.bin .neq), [.tmp 16, .const (.int .i64 0)], (some 17), none⟩])
 (.cond (.tmp 17) (.seq (.seqR [⟨.move, [.tmp 6], (some 18), none⟩,
 ⟨.move, [.const (.slice none 0 0 false)], (some 4), none⟩,
 ⟨.move, [.tmp 18], (some 5), none⟩])
 .ret)
 .skip)))
 (.seq (.seqR [⟨.move, [.tmp 1], (some 19), none⟩,
 ⟨(.callF 86), [.tmp 19], (some 20), none⟩,
 ⟨.move, [.tmp 20], (some 7), none⟩])
 (.seq (.seqR [⟨(.fieldAddr 1), [.tmp 2], (some 21), none⟩,
 ⟨(.load false 1), [.tmp 21], (some 22), none⟩,
 ⟨(.bin .add), [.tmp 22, .const (.int .i64 1)], (some 23), none⟩,
 ⟨(.makeSlice 1 1 [(.bool false)]), [.tmp 23, .tmp 23], (some 24), none⟩,
 ⟨.move, [.tmp 24], (some 8), none⟩])
 (.seq (.seqR [⟨.move, [.const (.slice none 0 0 false)], (some 9), none⟩])
 (.seq (.seqR [⟨.move, [.tmp 7], (some 25), none⟩,
 ⟨(.fieldAddr 0), [.tmp 2], (some 26), none⟩,
 ⟨(.load false 1), [.tmp 26], (some 27), none⟩,
 ⟨(.indexAddrS 1), [.tmp 25, .tmp 27], (some 28), none⟩,
 ⟨(.load false 1), [.tmp 28], (some 29), none⟩,
 ⟨.move, [.tmp 29], (some 10), none⟩])
 (.block 0 (.loop (.block 1 (.seq (.seqR [⟨(.load true 2), [.tmp 2], (some 31), none⟩,
 ⟨.move, [.tmp 10], (some 32), none⟩,
 ⟨(.callF 124), [.tmp 31, .tmp 32], (some 33), none⟩,
 ⟨.move, [.tmp 33], (some 30), none⟩,
 ⟨(.extract 0), [.tmp 30], (some 34), none⟩,
 ⟨(.extract 1), [.tmp 30], (some 35), none⟩,
 ⟨.move, [.tmp 34], (some 11), none⟩,
 ⟨.move, [.tmp 35], (some 12), none⟩])
 (.seq (.block 2 (.seq (.seqR [⟨.move, [.tmp 11], (some 37), none⟩,
 ⟨(.bin .eql), [.tmp 37, .const (.int .u32 0)], (some 38), none⟩,
 ⟨.move, [.tmp 38], (some 39), none⟩,
 ⟨.move, [.tmp 9], (some 40), some (39, true)⟩,
 ⟨.lenS, [.tmp 40], (some 41), some (39, true)⟩,
 ⟨(.bin .gtr), [.tmp 41, .const (.int .i64 0)], (some 42), some (39, true)⟩,
 ⟨.pick, [.tmp 39, .tmp 42, .const (.bool false)], (some 43), none⟩,
 ⟨.move, [.tmp 43], (some 36), none⟩])
 (.cond (.tmp 36) (.seq (.seqR [⟨.move, [.tmp 9], (some 44), none⟩,
 ⟨(.slice 1 true false false), [.tmp 44, .const (.int .i64 1)], (some 45), none⟩,
 ⟨.move, [.tmp 45], (some 4), none⟩,
 ⟨.move, [.const (.int .i64 0)], (some 5), none⟩])
 .ret)
 (.seq (.seqR [⟨.move, [.tmp 12], (some 47), none⟩,
 ⟨.not, [.tmp 47], (some 48), none⟩,
 ⟨.move, [.tmp 48], (some 49), none⟩,
 ⟨.move, [.tmp 8], (some 50), some (49, false)⟩,
 ⟨.move, [.tmp 11], (some 51), some (49, false)⟩,
 ⟨(.indexAddrS 1), [.tmp 50, .tmp 51], (some 52), some (49, false)⟩,
 ⟨(.load false 1), [.tmp 52], (some 53), some (49, false)⟩,
 ⟨.pick, [.tmp 49, .const (.bool true), .tmp 53], (some 54), none⟩,
 ⟨.move, [.tmp 54], (some 46), none⟩])
 (.cond (.tmp 46) (.seq (.seqR [⟨.move, [.const (.slice none 0 0 false)], (some 4), none⟩,
 ⟨.move, [.const (.int .i64 9)], (some 5), none⟩])
 .ret)
 .skip)))))
 (.seq (.seqR [⟨.move, [.tmp 8], (some 55), none⟩,
 ⟨.move, [.tmp 11], (some 56), none⟩,
 ⟨(.indexAddrS 1), [.tmp 55, .tmp 56], (some 57), none⟩,
 ⟨(.store 1), [.tmp 57, .const (.bool true)], none, none⟩])
 (.seq (.seqR [⟨.move, [.tmp 9], (some 58), none⟩,
 ⟨.move, [.tmp 7], (some 59), none⟩,
 ⟨(.load true 2), [.tmp 2], (some 60), none⟩,
 ⟨.move, [.tmp 11], (some 61), none⟩,
 ⟨(.callF 125), [.tmp 60, .tmp 61], (some 62), none⟩,
 ⟨(.indexAddrS 1), [.tmp 59, .tmp 62], (some 63), none⟩,
 ⟨(.load false 1), [.tmp 63], (some 64), none⟩,
 ⟨(.sliceLit 1 [(.int .u64 0)] [(0, 1)]), [.tmp 64], (some 65), none⟩,
 ⟨(.append 1 8), [.tmp 58, .tmp 65], (some 66), none⟩,
 ⟨.move, [.tmp 66], (some 9), none⟩])
 (.seqR [⟨.move, [.tmp 7], (some 67), none⟩,
 ⟨(.load true 2), [.tmp 2], (some 68), none⟩,
 ⟨.move, [.tmp 11], (some 69), none⟩,
 ⟨(.callF 126), [.tmp 68, .tmp 69], (some 70), none⟩,
 ⟨(.indexAddrS 1), [.tmp 67, .tmp 70], (some 71), none⟩,
 ⟨(.load false 1), [.tmp 71], (some 72), none⟩,
 ⟨.move, [.tmp 72], (some 10), none⟩])))))))))))))), [.tmp 4, .tmp 5]⟩
theorem c93_ok : compFunc Try.prog Try.f93 = some c93 := by kernel_rfl
theorem c93_body : hasBody Try.prog 93 = true := hasBody_of Try.func93 (by kernel_rfl)
/-- (coachyard/queue.Line).Arena -/
def c94 : PFn := ⟨9, Tr.ofList (List.replicate 9 undefA), (.seq (.seqR [⟨.box, [.tmp 0], (some 1), none⟩,
 ⟨(.new [(.int .i64 0), (.int .i64 0)]), [], (some 2), none⟩])
 (.seq (.seqR [⟨(.fieldAddr 0), [.tmp 1], (some 3), none⟩,
 ⟨(.load false 1), [.tmp 3], (some 4), none⟩,
 ⟨(.bin .add), [.tmp 4, .const (.int .i64 2)], (some 5), none⟩,
 ⟨(.fieldAddr 1), [.tmp 1], (some 6), none⟩,
 ⟨(.load false 1), [.tmp 6], (some 7), none⟩,
 ⟨(.build [(.int .i64 0), (.int .i64 0)] [(0, 1), (1, 1)]), [.tmp 5, .tmp 7], (some 8), none⟩,
 ⟨(.store 2), [.tmp 2, .tmp 8], none, none⟩])
 .ret)), [.cell 2 true 2]⟩
theorem c94_ok : compFunc Try.prog Try.f94 = some c94 := by kernel_rfl
theorem c94_body : hasBody Try.prog 94 = true := hasBody_of Try.func94 (by kernel_rfl)
/-- (coachyard/arena.Arena).Free -/
def c95 : PFn := ⟨63, Tr.ofList (List.replicate 63 undefA), (.seq (.seqR [⟨.box, [.tmp 0], (some 2), none⟩,
 ⟨.move, [.const (.slice none 0 0 false)], (some 4), none⟩,
 ⟨.move, [.const (.int .i64 0)], (some 5), none⟩])
 (.seq (.seq (.seqR [⟨(.load true 2), [.tmp 2], (some 11), none⟩,
 ⟨.move, [.tmp 1], (some 12), none⟩,
 ⟨(.callF 127), [.tmp 11, .tmp 12], (some 13), none⟩,
 ⟨.move, [.tmp 13], (some 6), none⟩])
 (.seq (.seqR [⟨.move, [.tmp 6], (some 14), none⟩,
 ⟨(.bin .neq), [.tmp 14, .const (.int .i64 0)], (some 15), none⟩])
 (.cond (.tmp 15) (.seq (.seqR [⟨.move, [.tmp 6], (some 16), none⟩,
 ⟨.move, [.const (.slice none 0 0 false)], (some 4), none⟩,
 ⟨.move, [.tmp 16], (some 5), none⟩])
 .ret)
 .skip)))
 (.seq (.drawR [⟨⟨.move, [.tmp 1], (some 17), none⟩, false, false, 0, 0⟩,
 ⟨⟨(.callF 86), [.tmp 17], (some 18), none⟩, true, false, 0, 1⟩,
 ⟨⟨(.fieldAddr 0), [.tmp 2], (some 19), none⟩, false, false, 0, 1⟩,
 ⟨⟨(.load false 1), [.tmp 19], (some 20), none⟩, false, false, 0, 1⟩,
 ⟨⟨(.fieldAddr 0), [.tmp 2], (some 21), none⟩, false, false, 0, 1⟩,
 ⟨⟨(.load false 1), [.tmp 21], (some 22), none⟩, false, false, 0, 1⟩,
 ⟨⟨(.fieldAddr 1), [.tmp 2], (some 23), none⟩, false, false, 0, 1⟩,
 ⟨⟨(.load false 1), [.tmp 23], (some 24), none⟩, false, false, 0, 1⟩,
 ⟨⟨(.bin .add), [.tmp 22, .tmp 24], (some 25), none⟩, false, false, 0, 1⟩,
 ⟨⟨(.bin .add), [.tmp 25, .const (.int .i64 1)], (some 26), none⟩, false, false, 0, 1⟩,
 ⟨⟨(.slice 1 true true false), [.tmp 18, .tmp 20, .tmp 26], (some 27), none⟩, false, false, 1, 1⟩,
 ⟨⟨.move, [.tmp 27], (some 7), none⟩, false, false, 1, 1⟩])
 (.seq (.seqR [⟨.move, [.const (.slice none 0 0 false)], (some 8), none⟩])
 (.seq (.seqR [⟨(.fieldAddr 1), [.tmp 2], (some 28), none⟩,
 ⟨(.load false 1), [.tmp 28], (some 29), none⟩,
 ⟨(.bin .add), [.tmp 29, .const (.int .i64 1)], (some 30), none⟩,
 ⟨(.makeSlice 1 1 [(.bool false)]), [.tmp 30, .tmp 30], (some 31), none⟩,
 ⟨.move, [.tmp 31], (some 9), none⟩])
 (.seq (.seq (.seqR [⟨.move, [.tmp 7], (some 32), none⟩,
 ⟨(.indexAddrS 1), [.tmp 32, .const (.int .i64 0)], (some 33), none⟩,
 ⟨(.load false 1), [.tmp 33], (some 34), none⟩,
 ⟨(.callF 128), [.tmp 34], (some 35), none⟩,
 ⟨.move, [.tmp 35], (some 10), none⟩])
 (.block 0 (.loop (.seq (.seq (.seqR [⟨.move, [.tmp 10], (some 36), none⟩,
 ⟨(.bin .neq), [.tmp 36, .const (.int .u32 0)], (some 37), none⟩])
 (.cond (.tmp 37) .skip
 (.exit 0)))
 (.seq (.block 1 (.seq (.seq (.seqR [⟨.move, [.tmp 10], (some 43), none⟩,
 ⟨(.conv .i64), [.tmp 43], (some 44), none⟩,
 ⟨(.fieldAddr 1), [.tmp 2], (some 45), none⟩,
 ⟨(.load false 1), [.tmp 45], (some 46), none⟩,
 ⟨(.bin .gtr), [.tmp 44, .tmp 46], (some 47), none⟩,
 ⟨.move, [.tmp 47], (some 48), none⟩,
 ⟨.move, [.tmp 9], (some 49), some (48, false)⟩,
 ⟨.move, [.tmp 10], (some 50), some (48, false)⟩,
 ⟨(.indexAddrS 1), [.tmp 49, .tmp 50], (some 51), some (48, false)⟩,
 ⟨(.load false 1), [.tmp 51], (some 52), some (48, false)⟩,
 ⟨.pick, [.tmp 48, .const (.bool true), .tmp 52], (some 53), none⟩])
 (.cond (.tmp 53) (.seq (.seqR [⟨.move, [.const (.slice none 0 0 false)], (some 4), none⟩,
 ⟨.move, [.const (.int .i64 9)], (some 5), none⟩])
 .ret)
 .skip))
 (.seq (.seqR [⟨.move, [.tmp 9], (some 54), none⟩,
 ⟨.move, [.tmp 10], (some 55), none⟩,
 ⟨(.indexAddrS 1), [.tmp 54, .tmp 55], (some 56), none⟩,
 ⟨(.store 1), [.tmp 56, .const (.bool true)], none, none⟩])
 (.seqR [⟨.move, [.tmp 8], (some 57), none⟩,
 ⟨.move, [.tmp 10], (some 58), none⟩,
 ⟨(.conv .i64), [.tmp 58], (some 59), none⟩,
 ⟨(.sliceLit 1 [(.int .i64 0)] [(0, 1)]), [.tmp 59], (some 60), none⟩,
 ⟨(.append 1 8), [.tmp 57, .tmp 60], (some 61), none⟩,
 ⟨.move, [.tmp 61], (some 8), none⟩]))))
 (.seqR [⟨.move, [.tmp 7], (some 38), none⟩,
 ⟨.move, [.tmp 10], (some 39), none⟩,
 ⟨(.indexAddrS 1), [.tmp 38, .tmp 39], (some 40), none⟩,
 ⟨(.load false 1), [.tmp 40], (some 41), none⟩,
 ⟨(.callF 128), [.tmp 41], (some 42), none⟩,
 ⟨.move, [.tmp 42], (some 10), none⟩]))))))
 (.seq (.seqR [⟨.move, [.tmp 8], (some 62), none⟩,
 ⟨.move, [.tmp 62], (some 4), none⟩,
 ⟨.move, [.const (.int .i64 0)], (some 5), none⟩])
 .ret))))))), [.tmp 4, .tmp 5]⟩
theorem c95_ok : compFunc Try.prog Try.f95 = some c95 := by kernel_rfl
theorem c95_body : hasBody Try.prog 95 = true := hasBody_of Try.func95 (by kernel_rfl)
/-- math/bits.Len32 -/
def c109 : PFn := ⟨19, Tr.ofList (List.replicate 19 undefA), (.seq (.seqR [⟨.move, [.const (.int .i64 0)], (some 2), none⟩])
 (.seq (.seq (.seqR [⟨.move, [.tmp 0], (some 3), none⟩,
 ⟨(.bin .geq), [.tmp 3, .const (.int .u32 65536)], (some 4), none⟩])
 (.cond (.tmp 4) (.seq (.seqR [⟨.move, [.tmp 0], (some 5), none⟩,
 ⟨(.bin .shr), [.tmp 5, .const (.int .u64 16)], (some 6), none⟩,
 ⟨.move, [.tmp 6], (some 0), none⟩])
 (.seqR [⟨.move, [.const (.int .i64 16)], (some 2), none⟩]))
 .skip))
 (.seq (.seq (.seqR [⟨.move, [.tmp 0], (some 7), none⟩,
 ⟨(.bin .geq), [.tmp 7, .const (.int .u32 256)], (some 8), none⟩])
 (.cond (.tmp 8) (.seq (.seqR [⟨.move, [.tmp 0], (some 9), none⟩,
 ⟨(.bin .shr), [.tmp 9, .const (.int .u64 8)], (some 10), none⟩,
 ⟨.move, [.tmp 10], (some 0), none⟩])
 (.seqR [⟨.move, [.tmp 2], (some 11), none⟩,
 ⟨(.bin .add), [.tmp 11, .const (.int .i64 8)], (some 12), none⟩,
 ⟨.move, [.tmp 12], (some 2), none⟩]))
 .skip))
 (.seq (.seqR [⟨.move, [.tmp 2], (some 13), none⟩,
 ⟨.move, [.tmp 0], (some 14), none⟩,
 ⟨(.conv .u8), [.tmp 14], (some 15), none⟩,
 ⟨.indexStr, [.const (.str ⟨#[0, 1, 2, 2, 3, 3, 3, 3, 4, 4, 4, 4, 4, 4, 4, 4, 5, 5, 5, 5, 5, 5, 5, 5, 5, 5, 5, 5, 5, 5, 5, 5, 6, 6, 6, 6, 6, 6, 6, 6, 6, 6, 6, 6, 6, 6, 6, 6, 6, 6, 6, 6, 6, 6, 6, 6, 6, 6, 6, 6, 6, 6, 6, 6, 7, 7, 7, 7, 7, 7, 7, 7, 7, 7, 7, 7, 7, 7, 7, 7, 7, 7, 7, 7, 7, 7, 7, 7, 7, 7, 7, 7, 7, 7, 7, 7, 7, 7, 7, 7, 7, 7, 7, 7, 7, 7, 7, 7, 7, 7, 7, 7, 7, 7, 7, 7, 7, 7, 7, 7, 7, 7, 7, 7, 7, 7, 7, 7, 8, 8, 8, 8, 8, 8, 8, 8, 8, 8, 8, 8, 8, 8, 8, 8, 8, 8, 8, 8, 8, 8, 8, 8, 8, 8, 8, 8, 8, 8, 8, 8, 8, 8, 8, 8, 8, 8, 8, 8, 8, 8, 8, 8, 8, 8, 8, 8, 8, 8, 8, 8, 8, 8, 8, 8, 8, 8, 8, 8, 8, 8, 8, 8, 8, 8, 8, 8, 8, 8, 8, 8, 8, 8, 8, 8, 8, 8, 8, 8, 8, 8, 8, 8, 8, 8, 8, 8, 8, 8, 8, 8, 8, 8, 8, 8, 8, 8, 8, 8, 8, 8, 8, 8, 8, 8, 8, 8, 8, 8, 8, 8, 8, 8, 8, 8, 8, 8, 8, 8, 8, 8, 8, 8, 8, 8, 8, 8]⟩), .tmp 15], (some 16), none⟩,
 ⟨(.conv .i64), [.tmp 16], (some 17), none⟩,
 ⟨(.bin .add), [.tmp 13, .tmp 17], (some 18), none⟩,
 ⟨.move, [.tmp 18], (some 2), none⟩])
 .ret)))), [.tmp 2]⟩
theorem c109_ok : compFunc Try.prog Try.f109 = some c109 := by kernel_rfl
theorem c109_body : hasBody Try.prog 109 = true := hasBody_of Try.func109 (by kernel_rfl)
/-- math/bits.Len64 -/
def c110 : PFn := ⟨25, Tr.ofList (List.replicate 25 undefA), (.seq (.seqR [⟨.move, [.const (.int .i64 0)], (some 2), none⟩])
 (.seq (.seq (.seqR [⟨.move, [.tmp 0], (some 3), none⟩,
 ⟨(.bin .geq), [.tmp 3, .const (.int .u64 4294967296)], (some 4), none⟩])
 (.cond (.tmp 4) (.seq (.seqR [⟨.move, [.tmp 0], (some 5), none⟩,
 ⟨(.bin .shr), [.tmp 5, .const (.int .u64 32)], (some 6), none⟩,
 ⟨.move, [.tmp 6], (some 0), none⟩])
 (.seqR [⟨.move, [.const (.int .i64 32)], (some 2), none⟩]))
 .skip))
 (.seq (.seq (.seqR [⟨.move, [.tmp 0], (some 7), none⟩,
 ⟨(.bin .geq), [.tmp 7, .const (.int .u64 65536)], (some 8), none⟩])
 (.cond (.tmp 8) (.seq (.seqR [⟨.move, [.tmp 0], (some 9), none⟩,
 ⟨(.bin .shr), [.tmp 9, .const (.int .u64 16)], (some 10), none⟩,
 ⟨.move, [.tmp 10], (some 0), none⟩])
 (.seqR [⟨.move, [.tmp 2], (some 11), none⟩,
 ⟨(.bin .add), [.tmp 11, .const (.int .i64 16)], (some 12), none⟩,
 ⟨.move, [.tmp 12], (some 2), none⟩]))
 .skip))
 (.seq (.seq (.seqR [⟨.move, [.tmp 0], (some 13), none⟩,
 ⟨(.bin .geq), [.tmp 13, .const (.int .u64 256)], (some 14), none⟩])
 (.cond (.tmp 14) (.seq (.seqR [⟨.move, [.tmp 0], (some 15), none⟩,
 ⟨(.bin .shr), [.tmp 15, .const (.int .u64 8)], (some 16), none⟩,
 ⟨.move, [.tmp 16], (some 0), none⟩])
 (.seqR [⟨.move, [.tmp 2], (some 17), none⟩,
 ⟨(.bin .add), [.tmp 17, .const (.int .i64 8)], (some 18), none⟩,
 ⟨.move, [.tmp 18], (some 2), none⟩]))
 .skip))
 (.seq (.seqR [⟨.move, [.tmp 2], (some 19), none⟩,
 ⟨.move, [.tmp 0], (some 20), none⟩,
 ⟨(.conv .u8), [.tmp 20], (some 21), none⟩,
 ⟨.indexStr, [.const (.str ⟨#[0, 1, 2, 2, 3, 3, 3, 3, 4, 4, 4, 4, 4, 4, 4, 4, 5, 5, 5, 5, 5, 5, 5, 5, 5, 5, 5, 5, 5, 5, 5, 5, 6, 6, 6, 6, 6, 6, 6, 6, 6, 6, 6, 6, 6, 6, 6, 6, 6, 6, 6, 6, 6, 6, 6, 6, 6, 6, 6, 6, 6, 6, 6, 6, 7, 7, 7, 7, 7, 7, 7, 7, 7, 7, 7, 7, 7, 7, 7, 7, 7, 7, 7, 7, 7, 7, 7, 7, 7, 7, 7, 7, 7, 7, 7, 7, 7, 7, 7, 7, 7, 7, 7, 7, 7, 7, 7, 7, 7, 7, 7, 7, 7, 7, 7, 7, 7, 7, 7, 7, 7, 7, 7, 7, 7, 7, 7, 7, 8, 8, 8, 8, 8, 8, 8, 8, 8, 8, 8, 8, 8, 8, 8, 8, 8, 8, 8, 8, 8, 8, 8, 8, 8, 8, 8, 8, 8, 8, 8, 8, 8, 8, 8, 8, 8, 8, 8, 8, 8, 8, 8, 8, 8, 8, 8, 8, 8, 8, 8, 8, 8, 8, 8, 8, 8, 8, 8, 8, 8, 8, 8, 8, 8, 8, 8, 8, 8, 8, 8, 8, 8, 8, 8, 8, 8, 8, 8, 8, 8, 8, 8, 8, 8, 8, 8, 8, 8, 8, 8, 8, 8, 8, 8, 8, 8, 8, 8, 8, 8, 8, 8, 8, 8, 8, 8, 8, 8, 8, 8, 8, 8, 8, 8, 8, 8, 8, 8, 8, 8, 8, 8, 8, 8, 8, 8, 8]⟩), .tmp 21], (some 22), none⟩,
 ⟨(.conv .i64), [.tmp 22], (some 23), none⟩,
 ⟨(.bin .add), [.tmp 19, .tmp 23], (some 24), none⟩,
 ⟨.move, [.tmp 24], (some 2), none⟩])
 .ret))))), [.tmp 2]⟩
theorem c110_ok : compFunc Try.prog Try.f110 = some c110 := by kernel_rfl
theorem c110_body : hasBody Try.prog 110 = true := hasBody_of Try.func110 (by kernel_rfl)
/-- coachyard/plan.size -/
def c111 : PFn := ⟨11, Tr.ofList (List.replicate 11 undefA), (.seq (.seqR [⟨.box, [.tmp 0], (some 1), none⟩,
 ⟨.move, [.const (.int .i64 0)], (some 2), none⟩])
 (.seq (.seqR [⟨(.fieldAddr 0), [.tmp 1], (some 3), none⟩,
 ⟨(.load false 1), [.tmp 3], (some 4), none⟩,
 ⟨(.bin .add), [.const (.int .i64 1), .tmp 4], (some 5), none⟩,
 ⟨(.fieldAddr 3), [.tmp 1], (some 6), none⟩,
 ⟨(.load false 1), [.tmp 6], (some 7), none⟩,
 ⟨(.bin .mul), [.const (.int .i64 3), .tmp 7], (some 8), none⟩,
 ⟨(.bin .add), [.tmp 5, .tmp 8], (some 9), none⟩,
 ⟨(.bin .add), [.tmp 9, .const (.int .i64 3)], (some 10), none⟩,
 ⟨.move, [.tmp 10], (some 2), none⟩])
 .ret)), [.tmp 2]⟩
theorem c111_ok : compFunc Try.prog Try.f111 = some c111 := by kernel_rfl
theorem c111_body : hasBody Try.prog 111 = true := hasBody_of Try.func111 (by kernel_rfl)
/-- (coachyard/queue.Line).check -/
def c112 : PFn := ⟨23, Tr.ofList (List.replicate 23 undefA), (.seq (.seqR [⟨.box, [.tmp 0], (some 2), none⟩,
 ⟨.move, [.const (.int .i64 0)], (some 4), none⟩])
 (.seq (.block 0 (.seq (.seqR [⟨.move, [.tmp 1], (some 6), none⟩,
 ⟨(.eqPtr false), [.tmp 6, .const (.ptr none)], (some 7), none⟩,
 ⟨.move, [.tmp 7], (some 5), none⟩])
 (.cond (.tmp 5) (.seq (.seqR [⟨.move, [.const (.int .i64 1)], (some 4), none⟩])
 .ret)
 (.seq (.seqR [⟨(.load true 2), [.tmp 2], (some 9), none⟩,
 ⟨(.callF 137), [.tmp 9], (some 10), none⟩,
 ⟨.not, [.tmp 10], (some 11), none⟩,
 ⟨.move, [.tmp 11], (some 8), none⟩])
 (.cond (.tmp 8) (.seq (.seqR [⟨.move, [.const (.int .i64 2)], (some 4), none⟩])
 .ret)
 (.seq (.drawR [⟨⟨.move, [.tmp 1], (some 13), none⟩, false, false, 0, 0⟩,
 ⟨⟨(.callF 85), [.tmp 13], (some 14), none⟩, true, false, 0, 1⟩,
 ⟨⟨(.fieldAddr 0), [.tmp 2], (some 15), none⟩, false, false, 0, 1⟩,
 ⟨⟨(.load false 1), [.tmp 15], (some 16), none⟩, false, false, 0, 1⟩,
 ⟨⟨(.fieldAddr 1), [.tmp 2], (some 17), none⟩, false, false, 0, 1⟩,
 ⟨⟨(.load false 1), [.tmp 17], (some 18), none⟩, false, false, 0, 1⟩,
 ⟨⟨(.bin .mul), [.const (.int .i64 3), .tmp 18], (some 19), none⟩, false, false, 0, 1⟩,
 ⟨⟨(.bin .add), [.tmp 16, .tmp 19], (some 20), none⟩, false, false, 0, 1⟩,
 ⟨⟨(.bin .add), [.tmp 20, .const (.int .i64 2)], (some 21), none⟩, false, false, 0, 1⟩,
 ⟨⟨(.bin .leq), [.tmp 14, .tmp 21], (some 22), none⟩, false, false, 1, 1⟩,
 ⟨⟨.move, [.tmp 22], (some 12), none⟩, false, false, 1, 1⟩])
 (.cond (.tmp 12) (.seq (.seqR [⟨.move, [.const (.int .i64 3)], (some 4), none⟩])
 .ret)
 .skip)))))))
 (.seq (.seqR [⟨.move, [.const (.int .i64 0)], (some 4), none⟩])
 .ret))), [.tmp 4]⟩
theorem c112_ok : compFunc Try.prog Try.f112 = some c112 := by kernel_rfl
theorem c112_body : hasBody Try.prog 112 = true := hasBody_of Try.func112 (by kernel_rfl)
/-- (coachyard/queue.Line).Cells -/
def c113 : PFn := ⟨10, Tr.ofList (List.replicate 10 undefA), (.seq (.seqR [⟨.box, [.tmp 0], (some 1), none⟩,
 ⟨.move, [.const (.int .i64 0)], (some 2), none⟩])
 (.seq (.seq (.seqR [⟨(.load true 2), [.tmp 1], (some 3), none⟩,
 ⟨(.callF 137), [.tmp 3], (some 4), none⟩,
 ⟨.not, [.tmp 4], (some 5), none⟩])
 (.cond (.tmp 5) (.seq (.seqR [⟨.move, [.const (.int .i64 0)], (some 2), none⟩])
 .ret)
 .skip))
 (.seq (.seqR [⟨(.fieldAddr 1), [.tmp 1], (some 6), none⟩,
 ⟨(.load false 1), [.tmp 6], (some 7), none⟩,
 ⟨(.bin .mul), [.const (.int .i64 3), .tmp 7], (some 8), none⟩,
 ⟨(.bin .add), [.tmp 8, .const (.int .i64 3)], (some 9), none⟩,
 ⟨.move, [.tmp 9], (some 2), none⟩])
 .ret))), [.tmp 2]⟩
theorem c113_ok : compFunc Try.prog Try.f113 = some c113 := by kernel_rfl
theorem c113_body : hasBody Try.prog 113 = true := hasBody_of Try.func113 (by kernel_rfl)
/-- (coachyard/arena.Arena).Init -/
def c114 : PFn := ⟨72, Tr.ofList (List.replicate 72 undefA), (.seq (.seqR [⟨.box, [.tmp 0], (some 3), none⟩,
 ⟨.move, [.const (.int .i64 0)], (some 6), none⟩])
 (.seq (.seqR [⟨(.load true 2), [.tmp 3], (some 11), none⟩,
 ⟨.move, [.tmp 1], (some 12), none⟩,
 ⟨(.callF 127), [.tmp 11, .tmp 12], (some 13), none⟩,
 ⟨.move, [.tmp 13], (some 7), none⟩])
 (.seq (.seq (.seqR [⟨.move, [.tmp 7], (some 14), none⟩,
 ⟨(.bin .eql), [.tmp 14, .const (.int .i64 1)], (some 15), none⟩])
 (.cond (.tmp 15) (.seq (.seqR [⟨.move, [.tmp 7], (some 16), none⟩,
 ⟨.move, [.tmp 16], (some 6), none⟩])
 .ret)
 .skip))
 (.seq (.seq (.seqR [⟨(.load true 2), [.tmp 3], (some 17), none⟩,
 ⟨(.callF 138), [.tmp 17], (some 18), none⟩,
 ⟨.not, [.tmp 18], (some 19), none⟩,
 ⟨.move, [.tmp 19], (some 20), none⟩,
 ⟨.move, [.tmp 2], (some 21), some (20, false)⟩,
 ⟨(.bin .lss), [.tmp 21, .const (.int .i64 1)], (some 22), some (20, false)⟩,
 ⟨.pick, [.tmp 20, .const (.bool true), .tmp 22], (some 23), none⟩,
 ⟨.move, [.tmp 23], (some 24), none⟩,
 ⟨.move, [.tmp 2], (some 25), some (24, false)⟩,
 ⟨(.fieldAddr 1), [.tmp 3], (some 26), some (24, false)⟩,
 ⟨(.load false 1), [.tmp 26], (some 27), some (24, false)⟩,
 ⟨(.bin .add), [.tmp 27, .const (.int .i64 1)], (some 28), some (24, false)⟩,
 ⟨(.bin .gtr), [.tmp 25, .tmp 28], (some 29), some (24, false)⟩,
 ⟨.pick, [.tmp 24, .const (.bool true), .tmp 29], (some 30), none⟩])
 (.cond (.tmp 30) (.seq (.seqR [⟨.move, [.const (.int .i64 2)], (some 6), none⟩])
 .ret)
 .skip))
 (.seq (.seq (.seqR [⟨.move, [.tmp 7], (some 31), none⟩,
 ⟨(.bin .neq), [.tmp 31, .const (.int .i64 0)], (some 32), none⟩])
 (.cond (.tmp 32) (.seq (.seqR [⟨.move, [.tmp 7], (some 33), none⟩,
 ⟨.move, [.tmp 33], (some 6), none⟩])
 .ret)
 .skip))
 (.seq (.seqR [⟨.move, [.const (.int .u64 0)], (some 8), none⟩])
 (.seq (.seq (.seqR [⟨.move, [.tmp 2], (some 34), none⟩,
 ⟨(.fieldAddr 1), [.tmp 3], (some 35), none⟩,
 ⟨(.load false 1), [.tmp 35], (some 36), none⟩,
 ⟨(.bin .leq), [.tmp 34, .tmp 36], (some 37), none⟩])
 (.cond (.tmp 37) (.seqR [⟨.move, [.tmp 2], (some 38), none⟩,
 ⟨(.conv .u64), [.tmp 38], (some 39), none⟩,
 ⟨.move, [.tmp 39], (some 8), none⟩])
 .skip))
 (.seq (.seqR [⟨.move, [.tmp 1], (some 40), none⟩,
 ⟨(.fieldAddr 0), [.tmp 3], (some 41), none⟩,
 ⟨(.load false 1), [.tmp 41], (some 42), none⟩,
 ⟨.move, [.tmp 8], (some 43), none⟩,
 ⟨(.build [(.int .i64 0), (.int .i64 0), (.int .u64 0), (.int .u64 0)] [(0, 1), (1, 1), (2, 1)]), [.const (.int .i64 2), .tmp 42, .tmp 43], (some 44), none⟩,
 ⟨(.callF 55), [.tmp 40, .tmp 44], (some 45), none⟩])
 (.seq (.seq (.seqR [⟨.move, [.const (.int .i64 1)], (some 9), none⟩])
 (.block 0 (.loop (.seq (.seq (.seqR [⟨.move, [.tmp 9], (some 46), none⟩,
 ⟨(.fieldAddr 1), [.tmp 3], (some 47), none⟩,
 ⟨(.load false 1), [.tmp 47], (some 48), none⟩,
 ⟨(.bin .leq), [.tmp 46, .tmp 48], (some 49), none⟩])
 (.cond (.tmp 49) .skip
 (.exit 0)))
 (.seq (.block 1 (.seq (.seqR [⟨.move, [.const (.int .u64 0)], (some 10), none⟩])
 (.seq (.seq (.seqR [⟨.move, [.tmp 9], (some 52), none⟩,
 ⟨.move, [.tmp 2], (some 53), none⟩,
 ⟨(.bin .geq), [.tmp 52, .tmp 53], (some 54), none⟩,
 ⟨.move, [.tmp 54], (some 55), none⟩,
 ⟨.move, [.tmp 9], (some 56), some (55, true)⟩,
 ⟨(.fieldAddr 1), [.tmp 3], (some 57), some (55, true)⟩,
 ⟨(.load false 1), [.tmp 57], (some 58), some (55, true)⟩,
 ⟨(.bin .lss), [.tmp 56, .tmp 58], (some 59), some (55, true)⟩,
 ⟨.pick, [.tmp 55, .tmp 59, .const (.bool false)], (some 60), none⟩])
 (.cond (.tmp 60) (.seqR [⟨.move, [.tmp 9], (some 61), none⟩,
 ⟨(.conv .u64), [.tmp 61], (some 62), none⟩,
 ⟨(.bin .add), [.tmp 62, .const (.int .u64 1)], (some 63), none⟩,
 ⟨.move, [.tmp 63], (some 10), none⟩])
 .skip))
 (.seqR [⟨.move, [.tmp 1], (some 64), none⟩,
 ⟨(.fieldAddr 0), [.tmp 3], (some 65), none⟩,
 ⟨(.load false 1), [.tmp 65], (some 66), none⟩,
 ⟨.move, [.tmp 9], (some 67), none⟩,
 ⟨(.bin .add), [.tmp 66, .tmp 67], (some 68), none⟩,
 ⟨.move, [.tmp 10], (some 69), none⟩,
 ⟨(.build [(.int .i64 0), (.int .i64 0), (.int .u64 0), (.int .u64 0)] [(0, 1), (1, 1), (2, 1)]), [.const (.int .i64 2), .tmp 68, .tmp 69], (some 70), none⟩,
 ⟨(.callF 55), [.tmp 64, .tmp 70], (some 71), none⟩]))))
 (.seqR [⟨.move, [.tmp 9], (some 50), none⟩,
 ⟨(.bin .add), [.tmp 50, .const (.int .i64 1)], (some 51), none⟩,
 ⟨.move, [.tmp 51], (some 9), none⟩]))))))
 (.seq (.seqR [⟨.move, [.const (.int .i64 0)], (some 6), none⟩])
 .ret)))))))))), [.tmp 6]⟩
theorem c114_ok : compFunc Try.prog Try.f114 = some c114 := by kernel_rfl
theorem c114_body : hasBody Try.prog 114 = true := hasBody_of Try.func114 (by kernel_rfl)
/-- coachyard/cells.load -/
def c115 : PFn := ⟨7, Tr.ofList (List.replicate 7 undefA), (.seq (.seqR [⟨.box, [.tmp 1], (some 3), none⟩,
 ⟨.move, [.const (.int .u64 0)], (some 4), none⟩,
 ⟨.move, [.const (.bool false)], (some 5), none⟩])
 (.seq (.seqR [⟨.move, [.tmp 0], (some 6), none⟩,
 ⟨.move, [.tmp 6], (some 4), none⟩,
 ⟨.move, [.const (.bool true)], (some 5), none⟩])
 .ret)), [.tmp 4, .tmp 5]⟩
theorem c115_ok : compFunc Try.prog Try.f115 = some c115 := by kernel_rfl
theorem c115_body : hasBody Try.prog 115 = true := hasBody_of Try.func115 (by kernel_rfl)
/-- coachyard/cells.store -/
def c116 : PFn := ⟨8, Tr.ofList (List.replicate 8 undefA), (.seq (.seqR [⟨.box, [.tmp 1], (some 3), none⟩,
 ⟨.move, [.const (.int .u64 0)], (some 4), none⟩,
 ⟨.move, [.const (.bool false)], (some 5), none⟩])
 (.seq (.seqR [⟨(.fieldAddr 2), [.tmp 3], (some 6), none⟩,
 ⟨(.load false 1), [.tmp 6], (some 7), none⟩,
 ⟨.move, [.tmp 7], (some 4), none⟩,
 ⟨.move, [.const (.bool true)], (some 5), none⟩])
 .ret)), [.tmp 4, .tmp 5]⟩
theorem c116_ok : compFunc Try.prog Try.f116 = some c116 := by kernel_rfl
theorem c116_body : hasBody Try.prog 116 = true := hasBody_of Try.func116 (by kernel_rfl)
/-- coachyard/cells.cas -/
def c117 : PFn := ⟨13, Tr.ofList (List.replicate 13 undefA), (.seq (.seqR [⟨.box, [.tmp 1], (some 3), none⟩,
 ⟨.move, [.const (.int .u64 0)], (some 4), none⟩,
 ⟨.move, [.const (.bool false)], (some 5), none⟩])
 (.seq (.seq (.seqR [⟨.move, [.tmp 0], (some 6), none⟩,
 ⟨(.fieldAddr 2), [.tmp 3], (some 7), none⟩,
 ⟨(.load false 1), [.tmp 7], (some 8), none⟩,
 ⟨(.bin .neq), [.tmp 6, .tmp 8], (some 9), none⟩])
 (.cond (.tmp 9) (.seq (.seqR [⟨.move, [.tmp 0], (some 10), none⟩,
 ⟨.move, [.tmp 10], (some 4), none⟩,
 ⟨.move, [.const (.bool false)], (some 5), none⟩])
 .ret)
 .skip))
 (.seq (.seqR [⟨(.fieldAddr 3), [.tmp 3], (some 11), none⟩,
 ⟨(.load false 1), [.tmp 11], (some 12), none⟩,
 ⟨.move, [.tmp 12], (some 4), none⟩,
 ⟨.move, [.const (.bool true)], (some 5), none⟩])
 .ret))), [.tmp 4, .tmp 5]⟩
theorem c117_ok : compFunc Try.prog Try.f117 = some c117 := by kernel_rfl
theorem c117_body : hasBody Try.prog 117 = true := hasBody_of Try.func117 (by kernel_rfl)
/-- coachyard/cells.add -/
def c118 : PFn := ⟨10, Tr.ofList (List.replicate 10 undefA), (.seq (.seqR [⟨.box, [.tmp 1], (some 3), none⟩,
 ⟨.move, [.const (.int .u64 0)], (some 4), none⟩,
 ⟨.move, [.const (.bool false)], (some 5), none⟩])
 (.seq (.seqR [⟨.move, [.tmp 0], (some 6), none⟩,
 ⟨(.fieldAddr 2), [.tmp 3], (some 7), none⟩,
 ⟨(.load false 1), [.tmp 7], (some 8), none⟩,
 ⟨(.bin .add), [.tmp 6, .tmp 8], (some 9), none⟩,
 ⟨.move, [.tmp 9], (some 4), none⟩,
 ⟨.move, [.const (.bool true)], (some 5), none⟩])
 .ret)), [.tmp 4, .tmp 5]⟩
theorem c118_ok : compFunc Try.prog Try.f118 = some c118 := by kernel_rfl
theorem c118_body : hasBody Try.prog 118 = true := hasBody_of Try.func118 (by kernel_rfl)
/-- coachyard/cells.or -/
def c119 : PFn := ⟨10, Tr.ofList (List.replicate 10 undefA), (.seq (.seqR [⟨.box, [.tmp 1], (some 3), none⟩,
 ⟨.move, [.const (.int .u64 0)], (some 4), none⟩,
 ⟨.move, [.const (.bool false)], (some 5), none⟩])
 (.seq (.seqR [⟨.move, [.tmp 0], (some 6), none⟩,
 ⟨(.fieldAddr 2), [.tmp 3], (some 7), none⟩,
 ⟨(.load false 1), [.tmp 7], (some 8), none⟩,
 ⟨(.bin .or), [.tmp 6, .tmp 8], (some 9), none⟩,
 ⟨.move, [.tmp 9], (some 4), none⟩,
 ⟨.move, [.const (.bool true)], (some 5), none⟩])
 .ret)), [.tmp 4, .tmp 5]⟩
theorem c119_ok : compFunc Try.prog Try.f119 = some c119 := by kernel_rfl
theorem c119_body : hasBody Try.prog 119 = true := hasBody_of Try.func119 (by kernel_rfl)
/-- coachyard/cells.and -/
def c120 : PFn := ⟨10, Tr.ofList (List.replicate 10 undefA), (.seq (.seqR [⟨.box, [.tmp 1], (some 3), none⟩,
 ⟨.move, [.const (.int .u64 0)], (some 4), none⟩,
 ⟨.move, [.const (.bool false)], (some 5), none⟩])
 (.seq (.seqR [⟨.move, [.tmp 0], (some 6), none⟩,
 ⟨(.fieldAddr 2), [.tmp 3], (some 7), none⟩,
 ⟨(.load false 1), [.tmp 7], (some 8), none⟩,
 ⟨(.bin .and), [.tmp 6, .tmp 8], (some 9), none⟩,
 ⟨.move, [.tmp 9], (some 4), none⟩,
 ⟨.move, [.const (.bool true)], (some 5), none⟩])
 .ret)), [.tmp 4, .tmp 5]⟩
theorem c120_ok : compFunc Try.prog Try.f120 = some c120 := by kernel_rfl
theorem c120_body : hasBody Try.prog 120 = true := hasBody_of Try.func120 (by kernel_rfl)
/-- coachyard/cells.wait -/
def c121 : PFn := ⟨11, Tr.ofList (List.replicate 11 undefA), (.seq (.seqR [⟨.box, [.tmp 1], (some 3), none⟩,
 ⟨.move, [.const (.int .u64 0)], (some 4), none⟩,
 ⟨.move, [.const (.bool false)], (some 5), none⟩])
 (.seq (.drawR [⟨⟨.move, [.tmp 0], (some 6), none⟩, false, false, 0, 0⟩,
 ⟨⟨.move, [.tmp 0], (some 7), none⟩, false, false, 0, 0⟩,
 ⟨⟨(.fieldAddr 2), [.tmp 3], (some 8), none⟩, false, false, 0, 0⟩,
 ⟨⟨(.load false 1), [.tmp 8], (some 9), none⟩, false, false, 0, 0⟩,
 ⟨⟨(.bin .neq), [.tmp 7, .tmp 9], (some 10), none⟩, false, false, 0, 0⟩,
 ⟨⟨.move, [.tmp 6], (some 4), none⟩, false, false, 0, 0⟩,
 ⟨⟨.move, [.tmp 10], (some 5), none⟩, false, false, 0, 0⟩])
 .ret)), [.tmp 4, .tmp 5]⟩
theorem c121_ok : compFunc Try.prog Try.f121 = some c121 := by kernel_rfl
theorem c121_body : hasBody Try.prog 121 = true := hasBody_of Try.func121 (by kernel_rfl)
/-- (coachyard/plan.Plan).there -/
def c122 : PFn := ⟨14, Tr.ofList (List.replicate 14 undefA), (.seq (.seqR [⟨.box, [.tmp 0], (some 2), none⟩,
 ⟨.move, [.const (.bool false)], (some 4), none⟩])
 (.seq (.seqR [⟨.move, [.tmp 1], (some 5), none⟩,
 ⟨(.bin .geq), [.tmp 5, .const (.int .i64 0)], (some 6), none⟩,
 ⟨.move, [.tmp 6], (some 7), none⟩,
 ⟨.move, [.tmp 1], (some 8), some (7, true)⟩,
 ⟨(.fieldAddr 0), [.tmp 2], (some 9), some (7, true)⟩,
 ⟨(.fieldAddr 0), [.tmp 9], (some 10), some (7, true)⟩,
 ⟨(.load false 1), [.tmp 10], (some 11), some (7, true)⟩,
 ⟨(.bin .lss), [.tmp 8, .tmp 11], (some 12), some (7, true)⟩,
 ⟨.pick, [.tmp 7, .tmp 12, .const (.bool false)], (some 13), none⟩,
 ⟨.move, [.tmp 13], (some 4), none⟩])
 .ret)), [.tmp 4]⟩
theorem c122_ok : compFunc Try.prog Try.f122 = some c122 := by kernel_rfl
theorem c122_body : hasBody Try.prog 122 = true := hasBody_of Try.func122 (by kernel_rfl)
/-- (coachyard/local.Row).of -/
def c123 : PFn := ⟨23, Tr.ofList (List.replicate 23 undefA), (.seq (.seqR [⟨.box, [.tmp 0], (some 1), none⟩,
 ⟨.move, [.const .nilIface], (some 2), none⟩])
 (.seq (.seq (.seqR [⟨(.fieldAddr 0), [.tmp 1], (some 3), none⟩,
 ⟨(.load false 1), [.tmp 3], (some 4), none⟩])
 (.block 0 (.seq (.seqR [⟨(.bin .eql), [.tmp 4, .const (.int .i64 0)], (some 6), none⟩,
 ⟨.move, [.tmp 6], (some 5), none⟩])
 (.cond (.tmp 5) (.seq (.seqR [⟨(.fieldAddr 1), [.tmp 1], (some 7), none⟩,
 ⟨(.load false 1), [.tmp 7], (some 8), none⟩,
 ⟨(.fieldAddr 2), [.tmp 1], (some 9), none⟩,
 ⟨(.load false 1), [.tmp 9], (some 10), none⟩,
 ⟨(.build [(.int .i64 0), (.int .i64 0)] [(0, 1), (1, 1)]), [.tmp 8, .tmp 10], (some 11), none⟩,
 ⟨(.mkIface 210), [.tmp 11], (some 12), none⟩,
 ⟨.move, [.tmp 12], (some 2), none⟩])
 .ret)
 (.seq (.seqR [⟨(.bin .eql), [.tmp 4, .const (.int .i64 1)], (some 14), none⟩,
 ⟨.move, [.tmp 14], (some 13), none⟩])
 (.cond (.tmp 13) (.seq (.seqR [⟨(.fieldAddr 1), [.tmp 1], (some 15), none⟩,
 ⟨(.load false 1), [.tmp 15], (some 16), none⟩,
 ⟨(.fieldAddr 2), [.tmp 1], (some 17), none⟩,
 ⟨(.load false 1), [.tmp 17], (some 18), none⟩,
 ⟨(.build [(.int .i64 0), (.int .i64 0)] [(0, 1), (1, 1)]), [.tmp 16, .tmp 18], (some 19), none⟩,
 ⟨(.mkIface 211), [.tmp 19], (some 20), none⟩,
 ⟨.move, [.tmp 20], (some 2), none⟩])
 .ret)
 .skip))))))
 (.seq (.seqR [⟨(.build [] []), [], (some 21), none⟩,
 ⟨(.mkIface 213), [.tmp 21], (some 22), none⟩,
 ⟨.move, [.tmp 22], (some 2), none⟩])
 .ret))), [.tmp 2]⟩
theorem c123_ok : compFunc Try.prog Try.f123 = some c123 := by kernel_rfl
theorem c123_body : hasBody Try.prog 123 = true := hasBody_of Try.func123 (by kernel_rfl)
/-- (coachyard/queue.Line).node -/
def c124 : PFn := ⟨23, Tr.ofList (List.replicate 23 undefA), (.seq (.seqR [⟨.box, [.tmp 0], (some 2), none⟩,
 ⟨.move, [.const (.int .u32 0)], (some 4), none⟩,
 ⟨.move, [.const (.bool false)], (some 5), none⟩])
 (.seq (.seqR [⟨.move, [.tmp 1], (some 9), none⟩,
 ⟨(.callF 87), [.tmp 9], (some 10), none⟩,
 ⟨.move, [.tmp 10], (some 8), none⟩,
 ⟨(.extract 0), [.tmp 8], (some 11), none⟩,
 ⟨(.extract 1), [.tmp 8], (some 12), none⟩,
 ⟨.move, [.tmp 11], (some 6), none⟩,
 ⟨.move, [.tmp 12], (some 7), none⟩])
 (.seq (.drawR [⟨⟨.move, [.tmp 7], (some 13), none⟩, false, false, 0, 0⟩,
 ⟨⟨.move, [.tmp 7], (some 14), none⟩, false, false, 0, 0⟩,
 ⟨⟨(.bin .geq), [.tmp 14, .const (.int .u32 1)], (some 15), none⟩, false, false, 0, 0⟩,
 ⟨⟨.move, [.tmp 15], (some 16), none⟩, false, false, 0, 0⟩,
 ⟨⟨.move, [.tmp 7], (some 17), some (16, true)⟩, false, false, 0, 0⟩,
 ⟨⟨(.conv .i64), [.tmp 17], (some 18), some (16, true)⟩, false, false, 0, 0⟩,
 ⟨⟨(.fieldAddr 1), [.tmp 2], (some 19), some (16, true)⟩, false, false, 0, 0⟩,
 ⟨⟨(.load false 1), [.tmp 19], (some 20), some (16, true)⟩, false, false, 0, 0⟩,
 ⟨⟨(.bin .leq), [.tmp 18, .tmp 20], (some 21), some (16, true)⟩, false, false, 0, 0⟩,
 ⟨⟨.pick, [.tmp 16, .tmp 21, .const (.bool false)], (some 22), none⟩, false, false, 0, 0⟩,
 ⟨⟨.move, [.tmp 13], (some 4), none⟩, false, false, 0, 0⟩,
 ⟨⟨.move, [.tmp 22], (some 5), none⟩, false, false, 0, 0⟩])
 .ret))), [.tmp 4, .tmp 5]⟩
theorem c124_ok : compFunc Try.prog Try.f124 = some c124 := by kernel_rfl
theorem c124_body : hasBody Try.prog 124 = true := hasBody_of Try.func124 (by kernel_rfl)
/-- (coachyard/queue.Line).task -/
def c125 : PFn := ⟨14, Tr.ofList (List.replicate 14 undefA), (.seq (.seqR [⟨.box, [.tmp 0], (some 2), none⟩,
 ⟨.move, [.const (.int .i64 0)], (some 4), none⟩])
 (.seq (.seqR [⟨(.fieldAddr 0), [.tmp 2], (some 5), none⟩,
 ⟨(.load false 1), [.tmp 5], (some 6), none⟩,
 ⟨(.bin .add), [.tmp 6, .const (.int .i64 2)], (some 7), none⟩,
 ⟨(.fieldAddr 1), [.tmp 2], (some 8), none⟩,
 ⟨(.load false 1), [.tmp 8], (some 9), none⟩,
 ⟨(.bin .add), [.tmp 7, .tmp 9], (some 10), none⟩,
 ⟨.move, [.tmp 1], (some 11), none⟩,
 ⟨(.conv .i64), [.tmp 11], (some 12), none⟩,
 ⟨(.bin .add), [.tmp 10, .tmp 12], (some 13), none⟩,
 ⟨.move, [.tmp 13], (some 4), none⟩])
 .ret)), [.tmp 4]⟩
theorem c125_ok : compFunc Try.prog Try.f125 = some c125 := by kernel_rfl
theorem c125_body : hasBody Try.prog 125 = true := hasBody_of Try.func125 (by kernel_rfl)
/-- (coachyard/queue.Line).next -/
def c126 : PFn := ⟨15, Tr.ofList (List.replicate 15 undefA), (.seq (.seqR [⟨.box, [.tmp 0], (some 2), none⟩,
 ⟨.move, [.const (.int .i64 0)], (some 4), none⟩])
 (.seq (.seqR [⟨(.fieldAddr 0), [.tmp 2], (some 5), none⟩,
 ⟨(.load false 1), [.tmp 5], (some 6), none⟩,
 ⟨(.bin .add), [.tmp 6, .const (.int .i64 2)], (some 7), none⟩,
 ⟨(.fieldAddr 1), [.tmp 2], (some 8), none⟩,
 ⟨(.load false 1), [.tmp 8], (some 9), none⟩,
 ⟨(.bin .mul), [.const (.int .i64 2), .tmp 9], (some 10), none⟩,
 ⟨(.bin .add), [.tmp 7, .tmp 10], (some 11), none⟩,
 ⟨.move, [.tmp 1], (some 12), none⟩,
 ⟨(.conv .i64), [.tmp 12], (some 13), none⟩,
 ⟨(.bin .add), [.tmp 11, .tmp 13], (some 14), none⟩,
 ⟨.move, [.tmp 14], (some 4), none⟩])
 .ret)), [.tmp 4]⟩
theorem c126_ok : compFunc Try.prog Try.f126 = some c126 := by kernel_rfl
theorem c126_body : hasBody Try.prog 126 = true := hasBody_of Try.func126 (by kernel_rfl)
/-- (coachyard/arena.Arena).check -/
def c127 : PFn := ⟨21, Tr.ofList (List.replicate 21 undefA), (.seq (.seqR [⟨.box, [.tmp 0], (some 2), none⟩,
 ⟨.move, [.const (.int .i64 0)], (some 4), none⟩])
 (.seq (.block 0 (.seq (.seqR [⟨.move, [.tmp 1], (some 6), none⟩,
 ⟨(.eqPtr false), [.tmp 6, .const (.ptr none)], (some 7), none⟩,
 ⟨.move, [.tmp 7], (some 5), none⟩])
 (.cond (.tmp 5) (.seq (.seqR [⟨.move, [.const (.int .i64 1)], (some 4), none⟩])
 .ret)
 (.seq (.seqR [⟨(.load true 2), [.tmp 2], (some 9), none⟩,
 ⟨(.callF 138), [.tmp 9], (some 10), none⟩,
 ⟨.not, [.tmp 10], (some 11), none⟩,
 ⟨.move, [.tmp 11], (some 8), none⟩])
 (.cond (.tmp 8) (.seq (.seqR [⟨.move, [.const (.int .i64 2)], (some 4), none⟩])
 .ret)
 (.seq (.drawR [⟨⟨.move, [.tmp 1], (some 13), none⟩, false, false, 0, 0⟩,
 ⟨⟨(.callF 85), [.tmp 13], (some 14), none⟩, true, false, 0, 1⟩,
 ⟨⟨(.fieldAddr 0), [.tmp 2], (some 15), none⟩, false, false, 0, 1⟩,
 ⟨⟨(.load false 1), [.tmp 15], (some 16), none⟩, false, false, 0, 1⟩,
 ⟨⟨(.fieldAddr 1), [.tmp 2], (some 17), none⟩, false, false, 0, 1⟩,
 ⟨⟨(.load false 1), [.tmp 17], (some 18), none⟩, false, false, 0, 1⟩,
 ⟨⟨(.bin .add), [.tmp 16, .tmp 18], (some 19), none⟩, false, false, 0, 1⟩,
 ⟨⟨(.bin .leq), [.tmp 14, .tmp 19], (some 20), none⟩, false, false, 1, 1⟩,
 ⟨⟨.move, [.tmp 20], (some 12), none⟩, false, false, 1, 1⟩])
 (.cond (.tmp 12) (.seq (.seqR [⟨.move, [.const (.int .i64 3)], (some 4), none⟩])
 .ret)
 .skip)))))))
 (.seq (.seqR [⟨.move, [.const (.int .i64 0)], (some 4), none⟩])
 .ret))), [.tmp 4]⟩
theorem c127_ok : compFunc Try.prog Try.f127 = some c127 := by kernel_rfl
theorem c127_body : hasBody Try.prog 127 = true := hasBody_of Try.func127 (by kernel_rfl)
/-- coachyard/arena.low -/
def c128 : PFn := ⟨11, Tr.ofList (List.replicate 11 undefA), (.seq (.seqR [⟨.move, [.const (.int .u32 0)], (some 2), none⟩])
 (.seq (.seqR [⟨.move, [.tmp 0], (some 6), none⟩,
 ⟨(.callF 87), [.tmp 6], (some 7), none⟩,
 ⟨.move, [.tmp 7], (some 5), none⟩,
 ⟨(.extract 0), [.tmp 5], (some 8), none⟩,
 ⟨(.extract 1), [.tmp 5], (some 9), none⟩,
 ⟨.move, [.tmp 8], (some 3), none⟩,
 ⟨.move, [.tmp 9], (some 4), none⟩])
 (.seq (.seqR [⟨.move, [.tmp 4], (some 10), none⟩,
 ⟨.move, [.tmp 10], (some 2), none⟩])
 .ret))), [.tmp 2]⟩
theorem c128_ok : compFunc Try.prog Try.f128 = some c128 := by kernel_rfl
theorem c128_body : hasBody Try.prog 128 = true := hasBody_of Try.func128 (by kernel_rfl)
/-- slices.nextPowerOfTwo -/
def c133 : PFn := ⟨7, Tr.ofList (List.replicate 7 undefA), (.seq (.seqR [⟨.move, [.const (.int .u64 0)], (some 2), none⟩])
 (.seq (.seqR [⟨.move, [.tmp 0], (some 3), none⟩,
 ⟨(.conv .u64), [.tmp 3], (some 4), none⟩,
 ⟨(.callF 75), [.tmp 4], (some 5), none⟩,
 ⟨(.bin .shl), [.const (.int .u64 1), .tmp 5], (some 6), none⟩,
 ⟨.move, [.tmp 6], (some 2), none⟩])
 .ret)), [.tmp 2]⟩
theorem c133_ok : compFunc Try.prog Try.f133 = some c133 := by kernel_rfl
theorem c133_body : hasBody Try.prog 133 = true := hasBody_of Try.func133 (by kernel_rfl)
/-- (*slices.xorshift).Next -/
def c134 : PFn := ⟨33, Tr.ofList (List.replicate 33 undefA), (.seq (.seqR [⟨.move, [.const (.int .u64 0)], (some 2), none⟩])
 (.seq (.drawR [⟨⟨.move, [.tmp 0], (some 3), none⟩, false, false, 0, 0⟩,
 ⟨⟨.nilCheck, [.tmp 3], (some 4), none⟩, false, false, 0, 0⟩,
 ⟨⟨(.load false 1), [.tmp 4], (some 5), none⟩, false, false, 0, 0⟩,
 ⟨⟨.move, [.tmp 0], (some 6), none⟩, false, false, 0, 0⟩,
 ⟨⟨.nilCheck, [.tmp 6], (some 7), none⟩, false, false, 0, 0⟩,
 ⟨⟨(.load false 1), [.tmp 7], (some 8), none⟩, false, false, 0, 0⟩,
 ⟨⟨(.bin .shl), [.tmp 8, .const (.int .u64 13)], (some 9), none⟩, false, false, 0, 0⟩,
 ⟨⟨(.bin .xor), [.tmp 5, .tmp 9], (some 10), none⟩, false, false, 0, 0⟩,
 ⟨⟨.nilCheck, [.tmp 3], (some 11), none⟩, false, false, 0, 0⟩,
 ⟨⟨(.store 1), [.tmp 11, .tmp 10], none, none⟩, true, false, 0, 1⟩])
 (.seq (.drawR [⟨⟨.move, [.tmp 0], (some 12), none⟩, false, false, 0, 0⟩,
 ⟨⟨.nilCheck, [.tmp 12], (some 13), none⟩, false, false, 0, 0⟩,
 ⟨⟨(.load false 1), [.tmp 13], (some 14), none⟩, false, false, 0, 0⟩,
 ⟨⟨.move, [.tmp 0], (some 15), none⟩, false, false, 0, 0⟩,
 ⟨⟨.nilCheck, [.tmp 15], (some 16), none⟩, false, false, 0, 0⟩,
 ⟨⟨(.load false 1), [.tmp 16], (some 17), none⟩, false, false, 0, 0⟩,
 ⟨⟨(.bin .shr), [.tmp 17, .const (.int .u64 7)], (some 18), none⟩, false, false, 0, 0⟩,
 ⟨⟨(.bin .xor), [.tmp 14, .tmp 18], (some 19), none⟩, false, false, 0, 0⟩,
 ⟨⟨.nilCheck, [.tmp 12], (some 20), none⟩, false, false, 0, 0⟩,
 ⟨⟨(.store 1), [.tmp 20, .tmp 19], none, none⟩, true, false, 0, 1⟩])
 (.seq (.drawR [⟨⟨.move, [.tmp 0], (some 21), none⟩, false, false, 0, 0⟩,
 ⟨⟨.nilCheck, [.tmp 21], (some 22), none⟩, false, false, 0, 0⟩,
 ⟨⟨(.load false 1), [.tmp 22], (some 23), none⟩, false, false, 0, 0⟩,
 ⟨⟨.move, [.tmp 0], (some 24), none⟩, false, false, 0, 0⟩,
 ⟨⟨.nilCheck, [.tmp 24], (some 25), none⟩, false, false, 0, 0⟩,
 ⟨⟨(.load false 1), [.tmp 25], (some 26), none⟩, false, false, 0, 0⟩,
 ⟨⟨(.bin .shl), [.tmp 26, .const (.int .u64 17)], (some 27), none⟩, false, false, 0, 0⟩,
 ⟨⟨(.bin .xor), [.tmp 23, .tmp 27], (some 28), none⟩, false, false, 0, 0⟩,
 ⟨⟨.nilCheck, [.tmp 21], (some 29), none⟩, false, false, 0, 0⟩,
 ⟨⟨(.store 1), [.tmp 29, .tmp 28], none, none⟩, true, false, 0, 1⟩])
 (.seq (.seqR [⟨.move, [.tmp 0], (some 30), none⟩,
 ⟨.nilCheck, [.tmp 30], (some 31), none⟩,
 ⟨(.load false 1), [.tmp 31], (some 32), none⟩,
 ⟨.move, [.tmp 32], (some 2), none⟩])
 .ret))))), [.tmp 2]⟩
theorem c134_ok : compFunc Try.prog Try.f134 = some c134 := by kernel_rfl
theorem c134_body : hasBody Try.prog 134 = true := hasBody_of Try.func134 (by kernel_rfl)
/-- (coachyard/queue.Line).Right -/
def c137 : PFn := ⟨26, Tr.ofList (List.replicate 26 undefA), (.seq (.seqR [⟨.box, [.tmp 0], (some 1), none⟩,
 ⟨.move, [.const (.bool false)], (some 2), none⟩])
 (.seq (.seqR [⟨(.fieldAddr 1), [.tmp 1], (some 3), none⟩,
 ⟨(.load false 1), [.tmp 3], (some 4), none⟩,
 ⟨(.bin .geq), [.tmp 4, .const (.int .i64 2)], (some 5), none⟩,
 ⟨.move, [.tmp 5], (some 6), none⟩,
 ⟨(.fieldAddr 1), [.tmp 1], (some 7), some (6, true)⟩,
 ⟨(.load false 1), [.tmp 7], (some 8), some (6, true)⟩,
 ⟨(.bin .leq), [.tmp 8, .const (.int .i64 4096)], (some 9), some (6, true)⟩,
 ⟨.pick, [.tmp 6, .tmp 9, .const (.bool false)], (some 10), none⟩,
 ⟨.move, [.tmp 10], (some 11), none⟩,
 ⟨(.fieldAddr 0), [.tmp 1], (some 12), some (11, true)⟩,
 ⟨(.load false 1), [.tmp 12], (some 13), some (11, true)⟩,
 ⟨(.bin .geq), [.tmp 13, .const (.int .i64 0)], (some 14), some (11, true)⟩,
 ⟨.pick, [.tmp 11, .tmp 14, .const (.bool false)], (some 15), none⟩,
 ⟨.move, [.tmp 15], (some 16), none⟩,
 ⟨(.fieldAddr 0), [.tmp 1], (some 17), some (16, true)⟩,
 ⟨(.load false 1), [.tmp 17], (some 18), some (16, true)⟩,
 ⟨(.fieldAddr 1), [.tmp 1], (some 19), some (16, true)⟩,
 ⟨(.load false 1), [.tmp 19], (some 20), some (16, true)⟩,
 ⟨(.bin .mul), [.const (.int .i64 3), .tmp 20], (some 21), some (16, true)⟩,
 ⟨(.bin .sub), [.const (.int .i64 65536), .tmp 21], (some 22), some (16, true)⟩,
 ⟨(.bin .sub), [.tmp 22, .const (.int .i64 2)], (some 23), some (16, true)⟩,
 ⟨(.bin .lss), [.tmp 18, .tmp 23], (some 24), some (16, true)⟩,
 ⟨.pick, [.tmp 16, .tmp 24, .const (.bool false)], (some 25), none⟩,
 ⟨.move, [.tmp 25], (some 2), none⟩])
 .ret)), [.tmp 2]⟩
theorem c137_ok : compFunc Try.prog Try.f137 = some c137 := by kernel_rfl
theorem c137_body : hasBody Try.prog 137 = true := hasBody_of Try.func137 (by kernel_rfl)
/-- (coachyard/arena.Arena).Right -/
def c138 : PFn := ⟨24, Tr.ofList (List.replicate 24 undefA), (.seq (.seqR [⟨.box, [.tmp 0], (some 1), none⟩,
 ⟨.move, [.const (.bool false)], (some 2), none⟩])
 (.seq (.seqR [⟨(.fieldAddr 1), [.tmp 1], (some 3), none⟩,
 ⟨(.load false 1), [.tmp 3], (some 4), none⟩,
 ⟨(.bin .geq), [.tmp 4, .const (.int .i64 1)], (some 5), none⟩,
 ⟨.move, [.tmp 5], (some 6), none⟩,
 ⟨(.fieldAddr 1), [.tmp 1], (some 7), some (6, true)⟩,
 ⟨(.load false 1), [.tmp 7], (some 8), some (6, true)⟩,
 ⟨(.bin .leq), [.tmp 8, .const (.int .i64 4096)], (some 9), some (6, true)⟩,
 ⟨.pick, [.tmp 6, .tmp 9, .const (.bool false)], (some 10), none⟩,
 ⟨.move, [.tmp 10], (some 11), none⟩,
 ⟨(.fieldAddr 0), [.tmp 1], (some 12), some (11, true)⟩,
 ⟨(.load false 1), [.tmp 12], (some 13), some (11, true)⟩,
 ⟨(.bin .geq), [.tmp 13, .const (.int .i64 0)], (some 14), some (11, true)⟩,
 ⟨.pick, [.tmp 11, .tmp 14, .const (.bool false)], (some 15), none⟩,
 ⟨.move, [.tmp 15], (some 16), none⟩,
 ⟨(.fieldAddr 0), [.tmp 1], (some 17), some (16, true)⟩,
 ⟨(.load false 1), [.tmp 17], (some 18), some (16, true)⟩,
 ⟨(.fieldAddr 1), [.tmp 1], (some 19), some (16, true)⟩,
 ⟨(.load false 1), [.tmp 19], (some 20), some (16, true)⟩,
 ⟨(.bin .sub), [.const (.int .i64 65536), .tmp 20], (some 21), some (16, true)⟩,
 ⟨(.bin .lss), [.tmp 18, .tmp 21], (some 22), some (16, true)⟩,
 ⟨.pick, [.tmp 16, .tmp 22, .const (.bool false)], (some 23), none⟩,
 ⟨.move, [.tmp 23], (some 2), none⟩])
 .ret)), [.tmp 2]⟩
theorem c138_ok : compFunc Try.prog Try.f138 = some c138 := by kernel_rfl
theorem c138_body : hasBody Try.prog 138 = true := hasBody_of Try.func138 (by kernel_rfl)
/-- (*coachyard/timer.Timer).All -/
def c156 : PFn := ⟨28, Tr.ofList (List.replicate 28 undefA), (.seq (.seqR [⟨.move, [.const (.slice none 0 0 false)], (some 2), none⟩])
 (.seq (.seq (.seqR [⟨.move, [.tmp 0], (some 6), none⟩,
 ⟨(.eqPtr false), [.tmp 6, .const (.ptr none)], (some 7), none⟩])
 (.cond (.tmp 7) (.seq (.seqR [⟨.move, [.const (.slice none 0 0 false)], (some 2), none⟩])
 .ret)
 .skip))
 (.seq (.seqR [⟨.move, [.const (.slice none 0 0 false)], (some 3), none⟩])
 (.seq (.seq (.seqR [⟨.move, [.tmp 0], (some 8), none⟩,
 ⟨.nilCheck, [.tmp 8], (some 9), none⟩,
 ⟨(.fieldAddr 0), [.tmp 9], (some 10), none⟩,
 ⟨(.load false 1), [.tmp 10], (some 11), none⟩,
 ⟨(.callF 158), [.tmp 11], (some 12), none⟩,
 ⟨(.callF 157), [.tmp 12, .const (.func (.func 159) [] [])], (some 13), none⟩,
 ⟨.lenS, [.tmp 13], (some 14), none⟩,
 ⟨.move, [.const (.int .i64 0)], (some 15), none⟩])
 (.block 0 (.loop (.seq (.seqR [⟨(.bin .lss), [.tmp 15, .tmp 14], (some 16), none⟩])
 (.seq (.cond (.tmp 16) .skip
 (.exit 0))
 (.seq (.block 1 (.seq (.seqR [⟨(.indexAddrS 1), [.tmp 13, .tmp 15], (some 17), none⟩,
 ⟨(.load false 1), [.tmp 17], (some 18), none⟩,
 ⟨.move, [.tmp 18], (some 5), none⟩])
 (.seqR [⟨.move, [.tmp 3], (some 19), none⟩,
 ⟨.move, [.tmp 5], (some 20), none⟩,
 ⟨.nilCheck, [.tmp 20], (some 21), none⟩,
 ⟨(.fieldAddr 0), [.tmp 21], (some 22), none⟩,
 ⟨(.load true 2), [.tmp 22], (some 23), none⟩,
 ⟨(.sliceLit 1 [(.int .i64 0), (.int .u64 0)] [(0, 2)]), [.tmp 23], (some 24), none⟩,
 ⟨(.append 2 16), [.tmp 19, .tmp 24], (some 25), none⟩,
 ⟨.move, [.tmp 25], (some 3), none⟩])))
 (.seqR [⟨(.bin .add), [.tmp 15, .const (.int .i64 1)], (some 26), none⟩,
 ⟨.move, [.tmp 26], (some 15), none⟩])))))))
 (.seq (.seqR [⟨.move, [.tmp 3], (some 27), none⟩,
 ⟨.move, [.tmp 27], (some 2), none⟩])
 .ret))))), [.tmp 2]⟩
theorem c156_ok : compFunc Try.prog Try.f156 = some c156 := by kernel_rfl
theorem c156_body : hasBody Try.prog 156 = true := hasBody_of Try.func156 (by kernel_rfl)
/-- slices.SortedFunc[*coachyard/timer.entry] -/
def c157 : PFn := ⟨12, Tr.ofList (List.replicate 12 undefA), (.seq (.seqR [⟨.move, [.const (.slice none 0 0 false)], (some 4), none⟩])
 (.seq (.seqR [⟨.move, [.tmp 0], (some 6), none⟩,
 ⟨(.callF 160), [.tmp 6], (some 7), none⟩,
 ⟨.move, [.tmp 7], (some 5), none⟩])
 (.seq (.seqR [⟨.move, [.tmp 5], (some 8), none⟩,
 ⟨.move, [.tmp 1], (some 9), none⟩,
 ⟨(.callF 161), [.tmp 8, .tmp 9], (some 10), none⟩])
 (.seq (.seqR [⟨.move, [.tmp 5], (some 11), none⟩,
 ⟨.move, [.tmp 11], (some 4), none⟩])
 .ret)))), [.tmp 4]⟩
theorem c157_ok : compFunc Try.prog Try.f157 = some c157 := by kernel_rfl
theorem c157_body : hasBody Try.prog 157 = true := hasBody_of Try.func157 (by kernel_rfl)
/-- slices.Values[coachyard/timer.pile,*coachyard/timer.entry] -/
def c158 : PFn := ⟨4, Tr.ofList (List.replicate 4 undefA), (.seq (.seqR [⟨.box, [.tmp 0], (some 1), none⟩,
 ⟨.move, [.const .nilFunc], (some 2), none⟩])
 (.seq (.seqR [⟨(.mkFunc (.func 162) 0), [.tmp 1], (some 3), none⟩,
 ⟨.move, [.tmp 3], (some 2), none⟩])
 .ret)), [.tmp 2]⟩
theorem c158_ok : compFunc Try.prog Try.f158 = some c158 := by kernel_rfl
theorem c158_body : hasBody Try.prog 158 = true := hasBody_of Try.func158 (by kernel_rfl)
/-- coachyard/timer.compare -/
def c159 : PFn := ⟨27, Tr.ofList (List.replicate 27 undefA), (.seq (.seqR [⟨.move, [.const (.int .i64 0)], (some 4), none⟩])
 (.seq (.drawR [⟨⟨.move, [.tmp 0], (some 5), none⟩, false, false, 0, 0⟩,
 ⟨⟨.nilCheck, [.tmp 5], (some 6), none⟩, false, false, 0, 0⟩,
 ⟨⟨(.fieldAddr 0), [.tmp 6], (some 7), none⟩, false, false, 0, 0⟩,
 ⟨⟨(.fieldAddr 0), [.tmp 7], (some 8), none⟩, false, false, 0, 0⟩,
 ⟨⟨(.load false 1), [.tmp 8], (some 9), none⟩, false, false, 0, 0⟩,
 ⟨⟨.move, [.tmp 1], (some 10), none⟩, false, false, 0, 0⟩,
 ⟨⟨.nilCheck, [.tmp 10], (some 11), none⟩, false, false, 0, 0⟩,
 ⟨⟨(.fieldAddr 0), [.tmp 11], (some 12), none⟩, false, false, 0, 0⟩,
 ⟨⟨(.fieldAddr 0), [.tmp 12], (some 13), none⟩, false, false, 0, 0⟩,
 ⟨⟨(.load false 1), [.tmp 13], (some 14), none⟩, false, false, 0, 0⟩,
 ⟨⟨(.callF 164), [.tmp 9, .tmp 14], (some 15), none⟩, true, false, 0, 1⟩,
 ⟨⟨.move, [.tmp 0], (some 16), none⟩, false, false, 0, 1⟩,
 ⟨⟨.nilCheck, [.tmp 16], (some 17), none⟩, false, false, 0, 1⟩,
 ⟨⟨(.fieldAddr 2), [.tmp 17], (some 18), none⟩, false, false, 0, 1⟩,
 ⟨⟨(.load false 1), [.tmp 18], (some 19), none⟩, false, false, 0, 1⟩,
 ⟨⟨.move, [.tmp 1], (some 20), none⟩, false, false, 0, 1⟩,
 ⟨⟨.nilCheck, [.tmp 20], (some 21), none⟩, false, false, 0, 1⟩,
 ⟨⟨(.fieldAddr 2), [.tmp 21], (some 22), none⟩, false, false, 0, 1⟩,
 ⟨⟨(.load false 1), [.tmp 22], (some 23), none⟩, false, false, 0, 1⟩,
 ⟨⟨(.callF 46), [.tmp 19, .tmp 23], (some 24), none⟩, true, false, 1, 2⟩,
 ⟨⟨(.sliceLit 2 [(.int .i64 0), (.int .i64 0)] [(0, 1), (1, 1)]), [.tmp 15, .tmp 24], (some 25), none⟩, true, false, 2, 3⟩,
 ⟨⟨(.callF 163), [.tmp 25], (some 26), none⟩, true, false, 3, 4⟩,
 ⟨⟨.move, [.tmp 26], (some 4), none⟩, false, false, 4, 4⟩])
 .ret)), [.tmp 4]⟩
theorem c159_ok : compFunc Try.prog Try.f159 = some c159 := by kernel_rfl
theorem c159_body : hasBody Try.prog 159 = true := hasBody_of Try.func159 (by kernel_rfl)
/-- slices.Collect[*coachyard/timer.entry] -/
def c160 : PFn := ⟨5, Tr.ofList (List.replicate 5 undefA), (.seq (.seqR [⟨.move, [.const (.slice none 0 0 false)], (some 2), none⟩])
 (.seq (.seqR [⟨.move, [.tmp 0], (some 3), none⟩,
 ⟨(.callF 165), [.const (.slice none 0 0 false), .tmp 3], (some 4), none⟩,
 ⟨.move, [.tmp 4], (some 2), none⟩])
 .ret)), [.tmp 2]⟩
theorem c160_ok : compFunc Try.prog Try.f160 = some c160 := by kernel_rfl
theorem c160_body : hasBody Try.prog 160 = true := hasBody_of Try.func160 (by kernel_rfl)
/-- slices.SortFunc[[]*coachyard/timer.entry,*coachyard/timer.entry] -/
def c161 : PFn := ⟨14, Tr.ofList (List.replicate 14 undefA), (.seq (.seqR [⟨.move, [.tmp 0], (some 5), none⟩,
 ⟨.lenS, [.tmp 5], (some 6), none⟩,
 ⟨.move, [.tmp 6], (some 4), none⟩])
 (.seqR [⟨.move, [.tmp 0], (some 7), none⟩,
 ⟨.move, [.tmp 4], (some 8), none⟩,
 ⟨.move, [.tmp 4], (some 9), none⟩,
 ⟨(.conv .u64), [.tmp 9], (some 10), none⟩,
 ⟨(.callF 75), [.tmp 10], (some 11), none⟩,
 ⟨.move, [.tmp 1], (some 12), none⟩,
 ⟨(.callF 166), [.tmp 7, .const (.int .i64 0), .tmp 8, .tmp 11, .tmp 12], (some 13), none⟩])), []⟩
theorem c161_ok : compFunc Try.prog Try.f161 = some c161 := by kernel_rfl
theorem c161_body : hasBody Try.prog 161 = true := hasBody_of Try.func161 (by kernel_rfl)
/-- slices.Values[coachyard/timer.pile,*coachyard/timer.entry]$1 -/
def c162 : PFn := ⟨16, Tr.ofList (List.replicate 16 undefA), (.seq (.seqR [⟨(.load false 1), [.tmp 1], (some 5), none⟩,
 ⟨.lenS, [.tmp 5], (some 6), none⟩,
 ⟨.move, [.const (.int .i64 0)], (some 7), none⟩])
 (.block 0 (.loop (.seq (.seqR [⟨(.bin .lss), [.tmp 7, .tmp 6], (some 8), none⟩])
 (.seq (.cond (.tmp 8) .skip
 (.exit 0))
 (.seq (.block 1 (.seq (.seqR [⟨(.indexAddrS 1), [.tmp 5, .tmp 7], (some 9), none⟩,
 ⟨(.load false 1), [.tmp 9], (some 10), none⟩,
 ⟨.move, [.tmp 10], (some 4), none⟩])
 (.seq (.seqR [⟨.move, [.tmp 0], (some 11), none⟩,
 ⟨.move, [.tmp 4], (some 12), none⟩,
 ⟨.callV, [.tmp 11, .tmp 12], (some 13), none⟩,
 ⟨.not, [.tmp 13], (some 14), none⟩])
 (.cond (.tmp 14) .ret
 .skip))))
 (.seqR [⟨(.bin .add), [.tmp 7, .const (.int .i64 1)], (some 15), none⟩,
 ⟨.move, [.tmp 15], (some 7), none⟩]))))))), []⟩
theorem c162_ok : compFunc Try.prog Try.f162 = some c162 := by kernel_rfl
theorem c162_body : hasBody Try.prog 162 = true := hasBody_of Try.func162 (by kernel_rfl)
/-- cmp.Or[int] -/
def c163 : PFn := ⟨18, Tr.ofList (List.replicate 18 undefA), (.seq (.seqR [⟨.move, [.const (.int .i64 0)], (some 2), none⟩])
 (.seq (.seqR [⟨.move, [.const (.int .i64 0)], (some 3), none⟩])
 (.seq (.seq (.seqR [⟨.move, [.tmp 0], (some 6), none⟩,
 ⟨.lenS, [.tmp 6], (some 7), none⟩,
 ⟨.move, [.const (.int .i64 0)], (some 8), none⟩])
 (.block 0 (.loop (.seq (.seqR [⟨(.bin .lss), [.tmp 8, .tmp 7], (some 9), none⟩])
 (.seq (.cond (.tmp 9) .skip
 (.exit 0))
 (.seq (.block 1 (.seq (.seqR [⟨(.indexAddrS 1), [.tmp 6, .tmp 8], (some 10), none⟩,
 ⟨(.load false 1), [.tmp 10], (some 11), none⟩,
 ⟨.move, [.tmp 11], (some 5), none⟩])
 (.seq (.seqR [⟨.move, [.tmp 5], (some 12), none⟩,
 ⟨.move, [.tmp 3], (some 13), none⟩,
 ⟨(.bin .neq), [.tmp 12, .tmp 13], (some 14), none⟩])
 (.cond (.tmp 14) (.seq (.seqR [⟨.move, [.tmp 5], (some 15), none⟩,
 ⟨.move, [.tmp 15], (some 2), none⟩])
 .ret)
 .skip))))
 (.seqR [⟨(.bin .add), [.tmp 8, .const (.int .i64 1)], (some 16), none⟩,
 ⟨.move, [.tmp 16], (some 8), none⟩])))))))
 (.seq (.seqR [⟨.move, [.tmp 3], (some 17), none⟩,
 ⟨.move, [.tmp 17], (some 2), none⟩])
 .ret)))), [.tmp 2]⟩
theorem c163_ok : compFunc Try.prog Try.f163 = some c163 := by kernel_rfl
theorem c163_body : hasBody Try.prog 163 = true := hasBody_of Try.func163 (by kernel_rfl)
/-- cmp.Compare[int64] -/
def c164 : PFn := ⟨20, Tr.ofList (List.replicate 20 undefA), (.seq (.seqR [⟨.move, [.const (.int .i64 0)], (some 4), none⟩])
 (.seq (.seqR [⟨.move, [.tmp 0], (some 7), none⟩,
 ⟨(.callF 167), [.tmp 7], (some 8), none⟩,
 ⟨.move, [.tmp 8], (some 5), none⟩])
 (.seq (.seqR [⟨.move, [.tmp 1], (some 9), none⟩,
 ⟨(.callF 167), [.tmp 9], (some 10), none⟩,
 ⟨.move, [.tmp 10], (some 6), none⟩])
 (.seq (.seq (.seqR [⟨.move, [.tmp 5], (some 11), none⟩])
 (.cond (.tmp 11) (.seq (.seq (.seqR [⟨.move, [.tmp 6], (some 12), none⟩])
 (.cond (.tmp 12) (.seq (.seqR [⟨.move, [.const (.int .i64 0)], (some 4), none⟩])
 .ret)
 .skip))
 (.seq (.seqR [⟨.move, [.const (.int .i64 (-1))], (some 4), none⟩])
 .ret))
 .skip))
 (.seq (.seq (.seqR [⟨.move, [.tmp 6], (some 13), none⟩])
 (.cond (.tmp 13) (.seq (.seqR [⟨.move, [.const (.int .i64 1)], (some 4), none⟩])
 .ret)
 .skip))
 (.seq (.seq (.seqR [⟨.move, [.tmp 0], (some 14), none⟩,
 ⟨.move, [.tmp 1], (some 15), none⟩,
 ⟨(.bin .lss), [.tmp 14, .tmp 15], (some 16), none⟩])
 (.cond (.tmp 16) (.seq (.seqR [⟨.move, [.const (.int .i64 (-1))], (some 4), none⟩])
 .ret)
 .skip))
 (.seq (.seq (.seqR [⟨.move, [.tmp 0], (some 17), none⟩,
 ⟨.move, [.tmp 1], (some 18), none⟩,
 ⟨(.bin .gtr), [.tmp 17, .tmp 18], (some 19), none⟩])
 (.cond (.tmp 19) (.seq (.seqR [⟨.move, [.const (.int .i64 1)], (some 4), none⟩])
 .ret)
 .skip))
 (.seq (.seqR [⟨.move, [.const (.int .i64 0)], (some 4), none⟩])
 .ret)))))))), [.tmp 4]⟩
theorem c164_ok : compFunc Try.prog Try.f164 = some c164 := by kernel_rfl
theorem c164_body : hasBody Try.prog 164 = true := hasBody_of Try.func164 (by kernel_rfl)
/-- slices.pdqsortCmpFunc[*coachyard/timer.entry] -/
def c166 : PFn := ⟨148, Tr.ofList (List.replicate 148 undefA), (.seq (.seqR [⟨.move, [.const (.bool true)], (some 10), none⟩])
 (.seq (.seqR [⟨.move, [.const (.bool true)], (some 11), none⟩])
 (.block 0 (.loop (.block 1 (.seq (.seqR [⟨.move, [.tmp 2], (some 21), none⟩,
 ⟨.move, [.tmp 1], (some 22), none⟩,
 ⟨(.bin .sub), [.tmp 21, .tmp 22], (some 23), none⟩,
 ⟨.move, [.tmp 23], (some 12), none⟩])
 (.seq (.seq (.seqR [⟨.move, [.tmp 12], (some 24), none⟩,
 ⟨(.bin .leq), [.tmp 24, .const (.int .i64 12)], (some 25), none⟩])
 (.cond (.tmp 25) (.seq (.seqR [⟨.move, [.tmp 0], (some 26), none⟩,
 ⟨.move, [.tmp 1], (some 27), none⟩,
 ⟨.move, [.tmp 2], (some 28), none⟩,
 ⟨.move, [.tmp 4], (some 29), none⟩,
 ⟨(.callF 168), [.tmp 26, .tmp 27, .tmp 28, .tmp 29], (some 30), none⟩])
 .ret)
 .skip))
 (.seq (.seq (.seqR [⟨.move, [.tmp 3], (some 31), none⟩,
 ⟨(.bin .eql), [.tmp 31, .const (.int .i64 0)], (some 32), none⟩])
 (.cond (.tmp 32) (.seq (.seqR [⟨.move, [.tmp 0], (some 33), none⟩,
 ⟨.move, [.tmp 1], (some 34), none⟩,
 ⟨.move, [.tmp 2], (some 35), none⟩,
 ⟨.move, [.tmp 4], (some 36), none⟩,
 ⟨(.callF 169), [.tmp 33, .tmp 34, .tmp 35, .tmp 36], (some 37), none⟩])
 .ret)
 .skip))
 (.seq (.seq (.seqR [⟨.move, [.tmp 10], (some 38), none⟩,
 ⟨.not, [.tmp 38], (some 39), none⟩])
 (.cond (.tmp 39) (.seq (.seqR [⟨.move, [.tmp 0], (some 40), none⟩,
 ⟨.move, [.tmp 1], (some 41), none⟩,
 ⟨.move, [.tmp 2], (some 42), none⟩,
 ⟨.move, [.tmp 4], (some 43), none⟩,
 ⟨(.callF 170), [.tmp 40, .tmp 41, .tmp 42, .tmp 43], (some 44), none⟩])
 (.seqR [⟨.move, [.tmp 3], (some 45), none⟩,
 ⟨(.bin .sub), [.tmp 45, .const (.int .i64 1)], (some 46), none⟩,
 ⟨.move, [.tmp 46], (some 3), none⟩]))
 .skip))
 (.seq (.seqR [⟨.move, [.tmp 0], (some 48), none⟩,
 ⟨.move, [.tmp 1], (some 49), none⟩,
 ⟨.move, [.tmp 2], (some 50), none⟩,
 ⟨.move, [.tmp 4], (some 51), none⟩,
 ⟨(.callF 171), [.tmp 48, .tmp 49, .tmp 50, .tmp 51], (some 52), none⟩,
 ⟨.move, [.tmp 52], (some 47), none⟩,
 ⟨(.extract 0), [.tmp 47], (some 53), none⟩,
 ⟨(.extract 1), [.tmp 47], (some 54), none⟩,
 ⟨.move, [.tmp 53], (some 13), none⟩,
 ⟨.move, [.tmp 54], (some 14), none⟩])
 (.seq (.seq (.seqR [⟨.move, [.tmp 14], (some 55), none⟩,
 ⟨(.bin .eql), [.tmp 55, .const (.int .i64 2)], (some 56), none⟩])
 (.cond (.tmp 56) (.seq (.seqR [⟨.move, [.tmp 0], (some 57), none⟩,
 ⟨.move, [.tmp 1], (some 58), none⟩,
 ⟨.move, [.tmp 2], (some 59), none⟩,
 ⟨.move, [.tmp 4], (some 60), none⟩,
 ⟨(.callF 172), [.tmp 57, .tmp 58, .tmp 59, .tmp 60], (some 61), none⟩])
 (.seq (.seqR [⟨.move, [.tmp 2], (some 62), none⟩,
 ⟨(.bin .sub), [.tmp 62, .const (.int .i64 1)], (some 63), none⟩,
 ⟨.move, [.tmp 13], (some 64), none⟩,
 ⟨.move, [.tmp 1], (some 65), none⟩,
 ⟨(.bin .sub), [.tmp 64, .tmp 65], (some 66), none⟩,
 ⟨(.bin .sub), [.tmp 63, .tmp 66], (some 67), none⟩,
 ⟨.move, [.tmp 67], (some 13), none⟩])
 (.seqR [⟨.move, [.const (.int .i64 1)], (some 14), none⟩])))
 .skip))
 (.seq (.seq (.seqR [⟨.move, [.tmp 10], (some 68), none⟩,
 ⟨.move, [.tmp 68], (some 69), none⟩,
 ⟨.move, [.tmp 11], (some 70), some (69, true)⟩,
 ⟨.pick, [.tmp 69, .tmp 70, .const (.bool false)], (some 71), none⟩,
 ⟨.move, [.tmp 71], (some 72), none⟩,
 ⟨.move, [.tmp 14], (some 73), some (72, true)⟩,
 ⟨(.bin .eql), [.tmp 73, .const (.int .i64 1)], (some 74), some (72, true)⟩,
 ⟨.pick, [.tmp 72, .tmp 74, .const (.bool false)], (some 75), none⟩])
 (.cond (.tmp 75) (.seq (.seqR [⟨.move, [.tmp 0], (some 76), none⟩,
 ⟨.move, [.tmp 1], (some 77), none⟩,
 ⟨.move, [.tmp 2], (some 78), none⟩,
 ⟨.move, [.tmp 4], (some 79), none⟩,
 ⟨(.callF 173), [.tmp 76, .tmp 77, .tmp 78, .tmp 79], (some 80), none⟩])
 (.cond (.tmp 80) .ret
 .skip))
 .skip))
 (.seq (.seq (.drawR [⟨⟨.move, [.tmp 1], (some 81), none⟩, false, false, 0, 0⟩,
 ⟨⟨(.bin .gtr), [.tmp 81, .const (.int .i64 0)], (some 82), none⟩, false, false, 0, 0⟩,
 ⟨⟨.move, [.tmp 82], (some 83), none⟩, false, false, 0, 0⟩,
 ⟨⟨.move, [.tmp 4], (some 84), some (83, true)⟩, false, false, 0, 0⟩,
 ⟨⟨.move, [.tmp 0], (some 85), some (83, true)⟩, false, false, 0, 0⟩,
 ⟨⟨.move, [.tmp 1], (some 86), some (83, true)⟩, false, false, 0, 0⟩,
 ⟨⟨(.bin .sub), [.tmp 86, .const (.int .i64 1)], (some 87), some (83, true)⟩, false, false, 0, 0⟩,
 ⟨⟨(.indexAddrS 1), [.tmp 85, .tmp 87], (some 88), some (83, true)⟩, false, false, 0, 0⟩,
 ⟨⟨(.load false 1), [.tmp 88], (some 89), some (83, true)⟩, false, false, 0, 0⟩,
 ⟨⟨.move, [.tmp 0], (some 90), some (83, true)⟩, false, false, 0, 0⟩,
 ⟨⟨.move, [.tmp 13], (some 91), some (83, true)⟩, false, false, 0, 0⟩,
 ⟨⟨(.indexAddrS 1), [.tmp 90, .tmp 91], (some 92), some (83, true)⟩, false, false, 0, 0⟩,
 ⟨⟨(.load false 1), [.tmp 92], (some 93), some (83, true)⟩, false, false, 0, 0⟩,
 ⟨⟨.callV, [.tmp 84, .tmp 89, .tmp 93], (some 94), some (83, true)⟩, true, false, 0, 1⟩,
 ⟨⟨(.bin .lss), [.tmp 94, .const (.int .i64 0)], (some 95), some (83, true)⟩, false, false, 1, 1⟩,
 ⟨⟨.not, [.tmp 95], (some 96), some (83, true)⟩, false, false, 1, 1⟩,
 ⟨⟨.pick, [.tmp 83, .tmp 96, .const (.bool false)], (some 97), none⟩, false, false, 1, 1⟩])
 (.cond (.tmp 97) (.seq (.seqR [⟨.move, [.tmp 0], (some 98), none⟩,
 ⟨.move, [.tmp 1], (some 99), none⟩,
 ⟨.move, [.tmp 2], (some 100), none⟩,
 ⟨.move, [.tmp 13], (some 101), none⟩,
 ⟨.move, [.tmp 4], (some 102), none⟩,
 ⟨(.callF 174), [.tmp 98, .tmp 99, .tmp 100, .tmp 101, .tmp 102], (some 103), none⟩,
 ⟨.move, [.tmp 103], (some 15), none⟩])
 (.seq (.seqR [⟨.move, [.tmp 15], (some 104), none⟩,
 ⟨.move, [.tmp 104], (some 1), none⟩])
 (.exit 1)))
 .skip))
 (.seq (.seqR [⟨.move, [.tmp 0], (some 106), none⟩,
 ⟨.move, [.tmp 1], (some 107), none⟩,
 ⟨.move, [.tmp 2], (some 108), none⟩,
 ⟨.move, [.tmp 13], (some 109), none⟩,
 ⟨.move, [.tmp 4], (some 110), none⟩,
 ⟨(.callF 175), [.tmp 106, .tmp 107, .tmp 108, .tmp 109, .tmp 110], (some 111), none⟩,
 ⟨.move, [.tmp 111], (some 105), none⟩,
 ⟨(.extract 0), [.tmp 105], (some 112), none⟩,
 ⟨(.extract 1), [.tmp 105], (some 113), none⟩,
 ⟨.move, [.tmp 112], (some 16), none⟩,
 ⟨.move, [.tmp 113], (some 17), none⟩])
 (.seq (.seqR [⟨.move, [.tmp 17], (some 114), none⟩,
 ⟨.move, [.tmp 114], (some 11), none⟩])
 (.seq (.seqR [⟨.move, [.tmp 16], (some 115), none⟩,
 ⟨.move, [.tmp 1], (some 116), none⟩,
 ⟨(.bin .sub), [.tmp 115, .tmp 116], (some 117), none⟩,
 ⟨.move, [.tmp 2], (some 118), none⟩,
 ⟨.move, [.tmp 16], (some 119), none⟩,
 ⟨(.bin .sub), [.tmp 118, .tmp 119], (some 120), none⟩,
 ⟨.move, [.tmp 117], (some 18), none⟩,
 ⟨.move, [.tmp 120], (some 19), none⟩])
 (.seq (.seqR [⟨.move, [.tmp 12], (some 121), none⟩,
 ⟨(.bin .quo), [.tmp 121, .const (.int .i64 8)], (some 122), none⟩,
 ⟨.move, [.tmp 122], (some 20), none⟩])
 (.seq (.seqR [⟨.move, [.tmp 18], (some 123), none⟩,
 ⟨.move, [.tmp 19], (some 124), none⟩,
 ⟨(.bin .lss), [.tmp 123, .tmp 124], (some 125), none⟩])
 (.cond (.tmp 125) (.seq (.seqR [⟨.move, [.tmp 18], (some 126), none⟩,
 ⟨.move, [.tmp 20], (some 127), none⟩,
 ⟨(.bin .geq), [.tmp 126, .tmp 127], (some 128), none⟩,
 ⟨.move, [.tmp 128], (some 10), none⟩])
 (.seq (.seqR [⟨.move, [.tmp 0], (some 129), none⟩,
 ⟨.move, [.tmp 1], (some 130), none⟩,
 ⟨.move, [.tmp 16], (some 131), none⟩,
 ⟨.move, [.tmp 3], (some 132), none⟩,
 ⟨.move, [.tmp 4], (some 133), none⟩,
 ⟨(.callF 166), [.tmp 129, .tmp 130, .tmp 131, .tmp 132, .tmp 133], (some 134), none⟩])
 (.seqR [⟨.move, [.tmp 16], (some 135), none⟩,
 ⟨(.bin .add), [.tmp 135, .const (.int .i64 1)], (some 136), none⟩,
 ⟨.move, [.tmp 136], (some 1), none⟩])))
 (.seq (.seqR [⟨.move, [.tmp 19], (some 137), none⟩,
 ⟨.move, [.tmp 20], (some 138), none⟩,
 ⟨(.bin .geq), [.tmp 137, .tmp 138], (some 139), none⟩,
 ⟨.move, [.tmp 139], (some 10), none⟩])
 (.seq (.seqR [⟨.move, [.tmp 0], (some 140), none⟩,
 ⟨.move, [.tmp 16], (some 141), none⟩,
 ⟨(.bin .add), [.tmp 141, .const (.int .i64 1)], (some 142), none⟩,
 ⟨.move, [.tmp 2], (some 143), none⟩,
 ⟨.move, [.tmp 3], (some 144), none⟩,
 ⟨.move, [.tmp 4], (some 145), none⟩,
 ⟨(.callF 166), [.tmp 140, .tmp 142, .tmp 143, .tmp 144, .tmp 145], (some 146), none⟩])
 (.seqR [⟨.move, [.tmp 16], (some 147), none⟩,
 ⟨.move, [.tmp 147], (some 2), none⟩])))))))))))))))))))))), []⟩
theorem c166_ok : compFunc Try.prog Try.f166 = some c166 := by kernel_rfl
theorem c166_body : hasBody Try.prog 166 = true := hasBody_of Try.func166 (by kernel_rfl)
/-- cmp.isNaN[int64] -/
def c167 : PFn := ⟨6, Tr.ofList (List.replicate 6 undefA), (.seq (.seqR [⟨.move, [.const (.bool false)], (some 2), none⟩])
 (.seq (.seqR [⟨.move, [.tmp 0], (some 3), none⟩,
 ⟨.move, [.tmp 0], (some 4), none⟩,
 ⟨(.bin .neq), [.tmp 3, .tmp 4], (some 5), none⟩,
 ⟨.move, [.tmp 5], (some 2), none⟩])
 .ret)), [.tmp 2]⟩
theorem c167_ok : compFunc Try.prog Try.f167 = some c167 := by kernel_rfl
theorem c167_body : hasBody Try.prog 167 = true := hasBody_of Try.func167 (by kernel_rfl)
/-- slices.insertionSortCmpFunc[*coachyard/timer.entry] -/
def c168 : PFn := ⟨53, Tr.ofList (List.replicate 53 undefA), (.seq (.seqR [⟨.move, [.tmp 1], (some 10), none⟩,
 ⟨(.bin .add), [.tmp 10, .const (.int .i64 1)], (some 11), none⟩,
 ⟨.move, [.tmp 11], (some 8), none⟩])
 (.block 0 (.loop (.seq (.seq (.seqR [⟨.move, [.tmp 8], (some 12), none⟩,
 ⟨.move, [.tmp 2], (some 13), none⟩,
 ⟨(.bin .lss), [.tmp 12, .tmp 13], (some 14), none⟩])
 (.cond (.tmp 14) .skip
 (.exit 0)))
 (.seq (.block 1 (.seq (.seqR [⟨.move, [.tmp 8], (some 17), none⟩,
 ⟨.move, [.tmp 17], (some 9), none⟩])
 (.block 2 (.loop (.seq (.seq (.drawR [⟨⟨.move, [.tmp 9], (some 18), none⟩, false, false, 0, 0⟩,
 ⟨⟨.move, [.tmp 1], (some 19), none⟩, false, false, 0, 0⟩,
 ⟨⟨(.bin .gtr), [.tmp 18, .tmp 19], (some 20), none⟩, false, false, 0, 0⟩,
 ⟨⟨.move, [.tmp 20], (some 21), none⟩, false, false, 0, 0⟩,
 ⟨⟨.move, [.tmp 3], (some 22), some (21, true)⟩, false, false, 0, 0⟩,
 ⟨⟨.move, [.tmp 0], (some 23), some (21, true)⟩, false, false, 0, 0⟩,
 ⟨⟨.move, [.tmp 9], (some 24), some (21, true)⟩, false, false, 0, 0⟩,
 ⟨⟨(.indexAddrS 1), [.tmp 23, .tmp 24], (some 25), some (21, true)⟩, false, false, 0, 0⟩,
 ⟨⟨(.load false 1), [.tmp 25], (some 26), some (21, true)⟩, false, false, 0, 0⟩,
 ⟨⟨.move, [.tmp 0], (some 27), some (21, true)⟩, false, false, 0, 0⟩,
 ⟨⟨.move, [.tmp 9], (some 28), some (21, true)⟩, false, false, 0, 0⟩,
 ⟨⟨(.bin .sub), [.tmp 28, .const (.int .i64 1)], (some 29), some (21, true)⟩, false, false, 0, 0⟩,
 ⟨⟨(.indexAddrS 1), [.tmp 27, .tmp 29], (some 30), some (21, true)⟩, false, false, 0, 0⟩,
 ⟨⟨(.load false 1), [.tmp 30], (some 31), some (21, true)⟩, false, false, 0, 0⟩,
 ⟨⟨.callV, [.tmp 22, .tmp 26, .tmp 31], (some 32), some (21, true)⟩, true, false, 0, 1⟩,
 ⟨⟨(.bin .lss), [.tmp 32, .const (.int .i64 0)], (some 33), some (21, true)⟩, false, false, 1, 1⟩,
 ⟨⟨.pick, [.tmp 21, .tmp 33, .const (.bool false)], (some 34), none⟩, false, false, 1, 1⟩])
 (.cond (.tmp 34) .skip
 (.exit 2)))
 (.seq (.block 3 (.drawR [⟨⟨.move, [.tmp 0], (some 37), none⟩, false, false, 0, 0⟩,
 ⟨⟨.move, [.tmp 9], (some 38), none⟩, false, false, 0, 0⟩,
 ⟨⟨.move, [.tmp 0], (some 39), none⟩, false, false, 0, 1⟩,
 ⟨⟨.move, [.tmp 9], (some 40), none⟩, false, false, 0, 1⟩,
 ⟨⟨(.bin .sub), [.tmp 40, .const (.int .i64 1)], (some 41), none⟩, false, false, 0, 1⟩,
 ⟨⟨.move, [.tmp 0], (some 42), none⟩, false, false, 0, 0⟩,
 ⟨⟨.move, [.tmp 9], (some 43), none⟩, false, false, 0, 0⟩,
 ⟨⟨(.bin .sub), [.tmp 43, .const (.int .i64 1)], (some 44), none⟩, false, false, 0, 0⟩,
 ⟨⟨(.indexAddrS 1), [.tmp 42, .tmp 44], (some 45), none⟩, false, false, 0, 0⟩,
 ⟨⟨(.load false 1), [.tmp 45], (some 46), none⟩, false, false, 0, 0⟩,
 ⟨⟨.move, [.tmp 0], (some 47), none⟩, false, false, 0, 0⟩,
 ⟨⟨.move, [.tmp 9], (some 48), none⟩, false, false, 0, 0⟩,
 ⟨⟨(.indexAddrS 1), [.tmp 47, .tmp 48], (some 49), none⟩, false, false, 0, 0⟩,
 ⟨⟨(.load false 1), [.tmp 49], (some 50), none⟩, false, false, 0, 0⟩,
 ⟨⟨(.indexAddrS 1), [.tmp 37, .tmp 38], (some 51), none⟩, false, false, 0, 0⟩,
 ⟨⟨(.store 1), [.tmp 51, .tmp 46], none, none⟩, true, false, 0, 1⟩,
 ⟨⟨(.indexAddrS 1), [.tmp 39, .tmp 41], (some 52), none⟩, false, false, 1, 1⟩,
 ⟨⟨(.store 1), [.tmp 52, .tmp 50], none, none⟩, true, false, 1, 2⟩]))
 (.seqR [⟨.move, [.tmp 9], (some 35), none⟩,
 ⟨(.bin .sub), [.tmp 35, .const (.int .i64 1)], (some 36), none⟩,
 ⟨.move, [.tmp 36], (some 9), none⟩])))))))
 (.seqR [⟨.move, [.tmp 8], (some 15), none⟩,
 ⟨(.bin .add), [.tmp 15, .const (.int .i64 1)], (some 16), none⟩,
 ⟨.move, [.tmp 16], (some 8), none⟩])))))), []⟩
theorem c168_ok : compFunc Try.prog Try.f168 = some c168 := by kernel_rfl
theorem c168_body : hasBody Try.prog 168 = true := hasBody_of Try.func168 (by kernel_rfl)
/-- slices.heapSortCmpFunc[*coachyard/timer.entry] -/
def c169 : PFn := ⟨60, Tr.ofList (List.replicate 60 undefA), (.seq (.seqR [⟨.move, [.tmp 1], (some 13), none⟩,
 ⟨.move, [.tmp 13], (some 8), none⟩])
 (.seq (.seqR [⟨.move, [.const (.int .i64 0)], (some 9), none⟩])
 (.seq (.seqR [⟨.move, [.tmp 2], (some 14), none⟩,
 ⟨.move, [.tmp 1], (some 15), none⟩,
 ⟨(.bin .sub), [.tmp 14, .tmp 15], (some 16), none⟩,
 ⟨.move, [.tmp 16], (some 10), none⟩])
 (.seq (.seq (.seqR [⟨.move, [.tmp 10], (some 17), none⟩,
 ⟨(.bin .sub), [.tmp 17, .const (.int .i64 1)], (some 18), none⟩,
 ⟨(.bin .quo), [.tmp 18, .const (.int .i64 2)], (some 19), none⟩,
 ⟨.move, [.tmp 19], (some 11), none⟩])
 (.block 0 (.loop (.seq (.seq (.seqR [⟨.move, [.tmp 11], (some 20), none⟩,
 ⟨(.bin .geq), [.tmp 20, .const (.int .i64 0)], (some 21), none⟩])
 (.cond (.tmp 21) .skip
 (.exit 0)))
 (.seq (.block 1 (.seqR [⟨.move, [.tmp 0], (some 24), none⟩,
 ⟨.move, [.tmp 11], (some 25), none⟩,
 ⟨.move, [.tmp 10], (some 26), none⟩,
 ⟨.move, [.tmp 8], (some 27), none⟩,
 ⟨.move, [.tmp 3], (some 28), none⟩,
 ⟨(.callF 176), [.tmp 24, .tmp 25, .tmp 26, .tmp 27, .tmp 28], (some 29), none⟩]))
 (.seqR [⟨.move, [.tmp 11], (some 22), none⟩,
 ⟨(.bin .sub), [.tmp 22, .const (.int .i64 1)], (some 23), none⟩,
 ⟨.move, [.tmp 23], (some 11), none⟩]))))))
 (.seq (.seqR [⟨.move, [.tmp 10], (some 30), none⟩,
 ⟨(.bin .sub), [.tmp 30, .const (.int .i64 1)], (some 31), none⟩,
 ⟨.move, [.tmp 31], (some 12), none⟩])
 (.block 2 (.loop (.seq (.seq (.seqR [⟨.move, [.tmp 12], (some 32), none⟩,
 ⟨(.bin .geq), [.tmp 32, .const (.int .i64 0)], (some 33), none⟩])
 (.cond (.tmp 33) .skip
 (.exit 2)))
 (.seq (.block 3 (.seq (.drawR [⟨⟨.move, [.tmp 0], (some 36), none⟩, false, false, 0, 0⟩,
 ⟨⟨.move, [.tmp 8], (some 37), none⟩, false, false, 0, 0⟩,
 ⟨⟨.move, [.tmp 0], (some 38), none⟩, false, false, 0, 1⟩,
 ⟨⟨.move, [.tmp 8], (some 39), none⟩, false, false, 0, 1⟩,
 ⟨⟨.move, [.tmp 12], (some 40), none⟩, false, false, 0, 1⟩,
 ⟨⟨(.bin .add), [.tmp 39, .tmp 40], (some 41), none⟩, false, false, 0, 1⟩,
 ⟨⟨.move, [.tmp 0], (some 42), none⟩, false, false, 0, 0⟩,
 ⟨⟨.move, [.tmp 8], (some 43), none⟩, false, false, 0, 0⟩,
 ⟨⟨.move, [.tmp 12], (some 44), none⟩, false, false, 0, 0⟩,
 ⟨⟨(.bin .add), [.tmp 43, .tmp 44], (some 45), none⟩, false, false, 0, 0⟩,
 ⟨⟨(.indexAddrS 1), [.tmp 42, .tmp 45], (some 46), none⟩, false, false, 0, 0⟩,
 ⟨⟨(.load false 1), [.tmp 46], (some 47), none⟩, false, false, 0, 0⟩,
 ⟨⟨.move, [.tmp 0], (some 48), none⟩, false, false, 0, 0⟩,
 ⟨⟨.move, [.tmp 8], (some 49), none⟩, false, false, 0, 0⟩,
 ⟨⟨(.indexAddrS 1), [.tmp 48, .tmp 49], (some 50), none⟩, false, false, 0, 0⟩,
 ⟨⟨(.load false 1), [.tmp 50], (some 51), none⟩, false, false, 0, 0⟩,
 ⟨⟨(.indexAddrS 1), [.tmp 36, .tmp 37], (some 52), none⟩, false, false, 0, 0⟩,
 ⟨⟨(.store 1), [.tmp 52, .tmp 47], none, none⟩, true, false, 0, 1⟩,
 ⟨⟨(.indexAddrS 1), [.tmp 38, .tmp 41], (some 53), none⟩, false, false, 1, 1⟩,
 ⟨⟨(.store 1), [.tmp 53, .tmp 51], none, none⟩, true, false, 1, 2⟩])
 (.seqR [⟨.move, [.tmp 0], (some 54), none⟩,
 ⟨.move, [.tmp 9], (some 55), none⟩,
 ⟨.move, [.tmp 12], (some 56), none⟩,
 ⟨.move, [.tmp 8], (some 57), none⟩,
 ⟨.move, [.tmp 3], (some 58), none⟩,
 ⟨(.callF 176), [.tmp 54, .tmp 55, .tmp 56, .tmp 57, .tmp 58], (some 59), none⟩])))
 (.seqR [⟨.move, [.tmp 12], (some 34), none⟩,
 ⟨(.bin .sub), [.tmp 34, .const (.int .i64 1)], (some 35), none⟩,
 ⟨.move, [.tmp 35], (some 12), none⟩])))))))))), []⟩
theorem c169_ok : compFunc Try.prog Try.f169 = some c169 := by kernel_rfl
theorem c169_body : hasBody Try.prog 169 = true := hasBody_of Try.func169 (by kernel_rfl)
/-- slices.breakPatternsCmpFunc[*coachyard/timer.entry] -/
def c170 : PFn := ⟨67, Tr.ofList (List.replicate 67 undefA), (.seq (.seqR [⟨.move, [.tmp 2], (some 13), none⟩,
 ⟨.move, [.tmp 1], (some 14), none⟩,
 ⟨(.bin .sub), [.tmp 13, .tmp 14], (some 15), none⟩,
 ⟨.move, [.tmp 15], (some 8), none⟩])
 (.seq (.seqR [⟨.move, [.tmp 8], (some 16), none⟩,
 ⟨(.bin .geq), [.tmp 16, .const (.int .i64 8)], (some 17), none⟩])
 (.cond (.tmp 17) (.seq (.seqR [⟨.move, [.tmp 8], (some 18), none⟩,
 ⟨(.conv .u64), [.tmp 18], (some 19), none⟩,
 ⟨(.new [(.int .u64 0)]), [], (some 9), none⟩,
 ⟨(.store 1), [.tmp 9, .tmp 19], none, none⟩])
 (.seq (.seqR [⟨.move, [.tmp 8], (some 20), none⟩,
 ⟨(.callF 133), [.tmp 20], (some 21), none⟩,
 ⟨.move, [.tmp 21], (some 10), none⟩])
 (.seq (.seqR [⟨.move, [.tmp 1], (some 22), none⟩,
 ⟨.move, [.tmp 8], (some 23), none⟩,
 ⟨(.bin .quo), [.tmp 23, .const (.int .i64 4)], (some 24), none⟩,
 ⟨(.bin .mul), [.tmp 24, .const (.int .i64 2)], (some 25), none⟩,
 ⟨(.bin .add), [.tmp 22, .tmp 25], (some 26), none⟩,
 ⟨(.bin .sub), [.tmp 26, .const (.int .i64 1)], (some 27), none⟩,
 ⟨.move, [.tmp 27], (some 11), none⟩])
 (.block 0 (.loop (.seq (.seq (.seqR [⟨.move, [.tmp 11], (some 28), none⟩,
 ⟨.move, [.tmp 1], (some 29), none⟩,
 ⟨.move, [.tmp 8], (some 30), none⟩,
 ⟨(.bin .quo), [.tmp 30, .const (.int .i64 4)], (some 31), none⟩,
 ⟨(.bin .mul), [.tmp 31, .const (.int .i64 2)], (some 32), none⟩,
 ⟨(.bin .add), [.tmp 29, .tmp 32], (some 33), none⟩,
 ⟨(.bin .add), [.tmp 33, .const (.int .i64 1)], (some 34), none⟩,
 ⟨(.bin .leq), [.tmp 28, .tmp 34], (some 35), none⟩])
 (.cond (.tmp 35) .skip
 (.exit 0)))
 (.seq (.block 1 (.seq (.seqR [⟨(.callF 134), [.tmp 9], (some 38), none⟩,
 ⟨.move, [.tmp 10], (some 39), none⟩,
 ⟨(.bin .sub), [.tmp 39, .const (.int .u64 1)], (some 40), none⟩,
 ⟨(.bin .and), [.tmp 38, .tmp 40], (some 41), none⟩,
 ⟨(.conv .i64), [.tmp 41], (some 42), none⟩,
 ⟨.move, [.tmp 42], (some 12), none⟩])
 (.seq (.seq (.seqR [⟨.move, [.tmp 12], (some 43), none⟩,
 ⟨.move, [.tmp 8], (some 44), none⟩,
 ⟨(.bin .geq), [.tmp 43, .tmp 44], (some 45), none⟩])
 (.cond (.tmp 45) (.seqR [⟨.move, [.tmp 12], (some 46), none⟩,
 ⟨.move, [.tmp 8], (some 47), none⟩,
 ⟨(.bin .sub), [.tmp 46, .tmp 47], (some 48), none⟩,
 ⟨.move, [.tmp 48], (some 12), none⟩])
 .skip))
 (.drawR [⟨⟨.move, [.tmp 0], (some 49), none⟩, false, false, 0, 0⟩,
 ⟨⟨.move, [.tmp 11], (some 50), none⟩, false, false, 0, 0⟩,
 ⟨⟨.move, [.tmp 0], (some 51), none⟩, false, false, 0, 1⟩,
 ⟨⟨.move, [.tmp 1], (some 52), none⟩, false, false, 0, 1⟩,
 ⟨⟨.move, [.tmp 12], (some 53), none⟩, false, false, 0, 1⟩,
 ⟨⟨(.bin .add), [.tmp 52, .tmp 53], (some 54), none⟩, false, false, 0, 1⟩,
 ⟨⟨.move, [.tmp 0], (some 55), none⟩, false, false, 0, 0⟩,
 ⟨⟨.move, [.tmp 1], (some 56), none⟩, false, false, 0, 0⟩,
 ⟨⟨.move, [.tmp 12], (some 57), none⟩, false, false, 0, 0⟩,
 ⟨⟨(.bin .add), [.tmp 56, .tmp 57], (some 58), none⟩, false, false, 0, 0⟩,
 ⟨⟨(.indexAddrS 1), [.tmp 55, .tmp 58], (some 59), none⟩, false, false, 0, 0⟩,
 ⟨⟨(.load false 1), [.tmp 59], (some 60), none⟩, false, false, 0, 0⟩,
 ⟨⟨.move, [.tmp 0], (some 61), none⟩, false, false, 0, 0⟩,
 ⟨⟨.move, [.tmp 11], (some 62), none⟩, false, false, 0, 0⟩,
 ⟨⟨(.indexAddrS 1), [.tmp 61, .tmp 62], (some 63), none⟩, false, false, 0, 0⟩,
 ⟨⟨(.load false 1), [.tmp 63], (some 64), none⟩, false, false, 0, 0⟩,
 ⟨⟨(.indexAddrS 1), [.tmp 49, .tmp 50], (some 65), none⟩, false, false, 0, 0⟩,
 ⟨⟨(.store 1), [.tmp 65, .tmp 60], none, none⟩, true, false, 0, 1⟩,
 ⟨⟨(.indexAddrS 1), [.tmp 51, .tmp 54], (some 66), none⟩, false, false, 1, 1⟩,
 ⟨⟨(.store 1), [.tmp 66, .tmp 64], none, none⟩, true, false, 1, 2⟩]))))
 (.seqR [⟨.move, [.tmp 11], (some 36), none⟩,
 ⟨(.bin .add), [.tmp 36, .const (.int .i64 1)], (some 37), none⟩,
 ⟨.move, [.tmp 37], (some 11), none⟩]))))))))
 .skip))), []⟩
theorem c170_ok : compFunc Try.prog Try.f170 = some c170 := by kernel_rfl
theorem c170_body : hasBody Try.prog 170 = true := hasBody_of Try.func170 (by kernel_rfl)
/-- slices.choosePivotCmpFunc[*coachyard/timer.entry] -/
def c171 : PFn := ⟨63, Tr.ofList (List.replicate 63 undefA), (.seq (.seqR [⟨.move, [.const (.int .i64 0)], (some 8), none⟩,
 ⟨.move, [.const (.int .i64 0)], (some 9), none⟩])
 (.seq (.seqR [⟨.move, [.tmp 2], (some 15), none⟩,
 ⟨.move, [.tmp 1], (some 16), none⟩,
 ⟨(.bin .sub), [.tmp 15, .tmp 16], (some 17), none⟩,
 ⟨.move, [.tmp 17], (some 10), none⟩])
 (.seq (.seqR [⟨(.new [(.int .i64 0)]), [], (some 11), none⟩])
 (.seq (.seqR [⟨.move, [.tmp 1], (some 18), none⟩,
 ⟨.move, [.tmp 10], (some 19), none⟩,
 ⟨(.bin .quo), [.tmp 19, .const (.int .i64 4)], (some 20), none⟩,
 ⟨(.bin .mul), [.tmp 20, .const (.int .i64 1)], (some 21), none⟩,
 ⟨(.bin .add), [.tmp 18, .tmp 21], (some 22), none⟩,
 ⟨.move, [.tmp 22], (some 12), none⟩])
 (.seq (.seqR [⟨.move, [.tmp 1], (some 23), none⟩,
 ⟨.move, [.tmp 10], (some 24), none⟩,
 ⟨(.bin .quo), [.tmp 24, .const (.int .i64 4)], (some 25), none⟩,
 ⟨(.bin .mul), [.tmp 25, .const (.int .i64 2)], (some 26), none⟩,
 ⟨(.bin .add), [.tmp 23, .tmp 26], (some 27), none⟩,
 ⟨.move, [.tmp 27], (some 13), none⟩])
 (.seq (.seqR [⟨.move, [.tmp 1], (some 28), none⟩,
 ⟨.move, [.tmp 10], (some 29), none⟩,
 ⟨(.bin .quo), [.tmp 29, .const (.int .i64 4)], (some 30), none⟩,
 ⟨(.bin .mul), [.tmp 30, .const (.int .i64 3)], (some 31), none⟩,
 ⟨(.bin .add), [.tmp 28, .tmp 31], (some 32), none⟩,
 ⟨.move, [.tmp 32], (some 14), none⟩])
 (.seq (.seq (.seqR [⟨.move, [.tmp 10], (some 33), none⟩,
 ⟨(.bin .geq), [.tmp 33, .const (.int .i64 8)], (some 34), none⟩])
 (.cond (.tmp 34) (.seq (.seq (.seqR [⟨.move, [.tmp 10], (some 35), none⟩,
 ⟨(.bin .geq), [.tmp 35, .const (.int .i64 50)], (some 36), none⟩])
 (.cond (.tmp 36) (.seq (.seqR [⟨.move, [.tmp 0], (some 37), none⟩,
 ⟨.move, [.tmp 12], (some 38), none⟩,
 ⟨.move, [.tmp 3], (some 39), none⟩,
 ⟨(.callF 177), [.tmp 37, .tmp 38, .tmp 11, .tmp 39], (some 40), none⟩,
 ⟨.move, [.tmp 40], (some 12), none⟩])
 (.seq (.seqR [⟨.move, [.tmp 0], (some 41), none⟩,
 ⟨.move, [.tmp 13], (some 42), none⟩,
 ⟨.move, [.tmp 3], (some 43), none⟩,
 ⟨(.callF 177), [.tmp 41, .tmp 42, .tmp 11, .tmp 43], (some 44), none⟩,
 ⟨.move, [.tmp 44], (some 13), none⟩])
 (.seqR [⟨.move, [.tmp 0], (some 45), none⟩,
 ⟨.move, [.tmp 14], (some 46), none⟩,
 ⟨.move, [.tmp 3], (some 47), none⟩,
 ⟨(.callF 177), [.tmp 45, .tmp 46, .tmp 11, .tmp 47], (some 48), none⟩,
 ⟨.move, [.tmp 48], (some 14), none⟩])))
 .skip))
 (.seqR [⟨.move, [.tmp 0], (some 49), none⟩,
 ⟨.move, [.tmp 12], (some 50), none⟩,
 ⟨.move, [.tmp 13], (some 51), none⟩,
 ⟨.move, [.tmp 14], (some 52), none⟩,
 ⟨.move, [.tmp 3], (some 53), none⟩,
 ⟨(.callF 178), [.tmp 49, .tmp 50, .tmp 51, .tmp 52, .tmp 11, .tmp 53], (some 54), none⟩,
 ⟨.move, [.tmp 54], (some 13), none⟩]))
 .skip))
 (.seq (.seqR [⟨(.load false 1), [.tmp 11], (some 55), none⟩])
 (.block 0 (.seq (.seqR [⟨(.bin .eql), [.tmp 55, .const (.int .i64 0)], (some 58), none⟩,
 ⟨.move, [.tmp 58], (some 57), none⟩])
 (.cond (.tmp 57) (.seq (.seqR [⟨.move, [.tmp 13], (some 59), none⟩,
 ⟨.move, [.tmp 59], (some 8), none⟩,
 ⟨.move, [.const (.int .i64 1)], (some 9), none⟩])
 .ret)
 (.seq (.seqR [⟨(.bin .eql), [.tmp 55, .const (.int .i64 12)], (some 61), none⟩,
 ⟨.move, [.tmp 61], (some 60), none⟩])
 (.cond (.tmp 60) (.seq (.seqR [⟨.move, [.tmp 13], (some 62), none⟩,
 ⟨.move, [.tmp 62], (some 8), none⟩,
 ⟨.move, [.const (.int .i64 2)], (some 9), none⟩])
 .ret)
 (.seq (.seqR [⟨.move, [.tmp 13], (some 56), none⟩,
 ⟨.move, [.tmp 56], (some 8), none⟩,
 ⟨.move, [.const (.int .i64 0)], (some 9), none⟩])
 .ret)))))))))))))), [.tmp 8, .tmp 9]⟩
theorem c171_ok : compFunc Try.prog Try.f171 = some c171 := by kernel_rfl
theorem c171_body : hasBody Try.prog 171 = true := hasBody_of Try.func171 (by kernel_rfl)
/-- slices.reverseRangeCmpFunc[*coachyard/timer.entry] -/
def c172 : PFn := ⟨34, Tr.ofList (List.replicate 34 undefA), (.seq (.seqR [⟨.move, [.tmp 1], (some 10), none⟩,
 ⟨.move, [.tmp 10], (some 8), none⟩])
 (.seq (.seqR [⟨.move, [.tmp 2], (some 11), none⟩,
 ⟨(.bin .sub), [.tmp 11, .const (.int .i64 1)], (some 12), none⟩,
 ⟨.move, [.tmp 12], (some 9), none⟩])
 (.block 0 (.loop (.seq (.seq (.seqR [⟨.move, [.tmp 8], (some 13), none⟩,
 ⟨.move, [.tmp 9], (some 14), none⟩,
 ⟨(.bin .lss), [.tmp 13, .tmp 14], (some 15), none⟩])
 (.cond (.tmp 15) .skip
 (.exit 0)))
 (.block 1 (.seq (.drawR [⟨⟨.move, [.tmp 0], (some 16), none⟩, false, false, 0, 0⟩,
 ⟨⟨.move, [.tmp 8], (some 17), none⟩, false, false, 0, 0⟩,
 ⟨⟨.move, [.tmp 0], (some 18), none⟩, false, false, 0, 1⟩,
 ⟨⟨.move, [.tmp 9], (some 19), none⟩, false, false, 0, 1⟩,
 ⟨⟨.move, [.tmp 0], (some 20), none⟩, false, false, 0, 0⟩,
 ⟨⟨.move, [.tmp 9], (some 21), none⟩, false, false, 0, 0⟩,
 ⟨⟨(.indexAddrS 1), [.tmp 20, .tmp 21], (some 22), none⟩, false, false, 0, 0⟩,
 ⟨⟨(.load false 1), [.tmp 22], (some 23), none⟩, false, false, 0, 0⟩,
 ⟨⟨.move, [.tmp 0], (some 24), none⟩, false, false, 0, 0⟩,
 ⟨⟨.move, [.tmp 8], (some 25), none⟩, false, false, 0, 0⟩,
 ⟨⟨(.indexAddrS 1), [.tmp 24, .tmp 25], (some 26), none⟩, false, false, 0, 0⟩,
 ⟨⟨(.load false 1), [.tmp 26], (some 27), none⟩, false, false, 0, 0⟩,
 ⟨⟨(.indexAddrS 1), [.tmp 16, .tmp 17], (some 28), none⟩, false, false, 0, 0⟩,
 ⟨⟨(.store 1), [.tmp 28, .tmp 23], none, none⟩, true, false, 0, 1⟩,
 ⟨⟨(.indexAddrS 1), [.tmp 18, .tmp 19], (some 29), none⟩, false, false, 1, 1⟩,
 ⟨⟨(.store 1), [.tmp 29, .tmp 27], none, none⟩, true, false, 1, 2⟩])
 (.seq (.seqR [⟨.move, [.tmp 8], (some 30), none⟩,
 ⟨(.bin .add), [.tmp 30, .const (.int .i64 1)], (some 31), none⟩,
 ⟨.move, [.tmp 31], (some 8), none⟩])
 (.seqR [⟨.move, [.tmp 9], (some 32), none⟩,
 ⟨(.bin .sub), [.tmp 32, .const (.int .i64 1)], (some 33), none⟩,
 ⟨.move, [.tmp 33], (some 9), none⟩]))))))))), []⟩
theorem c172_ok : compFunc Try.prog Try.f172 = some c172 := by kernel_rfl
theorem c172_body : hasBody Try.prog 172 = true := hasBody_of Try.func172 (by kernel_rfl)
/-- slices.partialInsertionSortCmpFunc[*coachyard/timer.entry] -/
def c173 : PFn := ⟨141, Tr.ofList (List.replicate 141 undefA), (.seq (.seqR [⟨.move, [.const (.bool false)], (some 8), none⟩])
 (.seq (.seqR [⟨.move, [.tmp 1], (some 13), none⟩,
 ⟨(.bin .add), [.tmp 13, .const (.int .i64 1)], (some 14), none⟩,
 ⟨.move, [.tmp 14], (some 9), none⟩])
 (.seq (.seq (.seqR [⟨.move, [.const (.int .i64 0)], (some 10), none⟩])
 (.block 0 (.loop (.seq (.seq (.seqR [⟨.move, [.tmp 10], (some 15), none⟩,
 ⟨(.bin .lss), [.tmp 15, .const (.int .i64 5)], (some 16), none⟩])
 (.cond (.tmp 16) .skip
 (.exit 0)))
 (.seq (.block 1 (.seq (.block 2 (.loop (.seq (.seq (.drawR [⟨⟨.move, [.tmp 9], (some 19), none⟩, false, false, 0, 0⟩,
 ⟨⟨.move, [.tmp 2], (some 20), none⟩, false, false, 0, 0⟩,
 ⟨⟨(.bin .lss), [.tmp 19, .tmp 20], (some 21), none⟩, false, false, 0, 0⟩,
 ⟨⟨.move, [.tmp 21], (some 22), none⟩, false, false, 0, 0⟩,
 ⟨⟨.move, [.tmp 3], (some 23), some (22, true)⟩, false, false, 0, 0⟩,
 ⟨⟨.move, [.tmp 0], (some 24), some (22, true)⟩, false, false, 0, 0⟩,
 ⟨⟨.move, [.tmp 9], (some 25), some (22, true)⟩, false, false, 0, 0⟩,
 ⟨⟨(.indexAddrS 1), [.tmp 24, .tmp 25], (some 26), some (22, true)⟩, false, false, 0, 0⟩,
 ⟨⟨(.load false 1), [.tmp 26], (some 27), some (22, true)⟩, false, false, 0, 0⟩,
 ⟨⟨.move, [.tmp 0], (some 28), some (22, true)⟩, false, false, 0, 0⟩,
 ⟨⟨.move, [.tmp 9], (some 29), some (22, true)⟩, false, false, 0, 0⟩,
 ⟨⟨(.bin .sub), [.tmp 29, .const (.int .i64 1)], (some 30), some (22, true)⟩, false, false, 0, 0⟩,
 ⟨⟨(.indexAddrS 1), [.tmp 28, .tmp 30], (some 31), some (22, true)⟩, false, false, 0, 0⟩,
 ⟨⟨(.load false 1), [.tmp 31], (some 32), some (22, true)⟩, false, false, 0, 0⟩,
 ⟨⟨.callV, [.tmp 23, .tmp 27, .tmp 32], (some 33), some (22, true)⟩, true, false, 0, 1⟩,
 ⟨⟨(.bin .lss), [.tmp 33, .const (.int .i64 0)], (some 34), some (22, true)⟩, false, false, 1, 1⟩,
 ⟨⟨.not, [.tmp 34], (some 35), some (22, true)⟩, false, false, 1, 1⟩,
 ⟨⟨.pick, [.tmp 22, .tmp 35, .const (.bool false)], (some 36), none⟩, false, false, 1, 1⟩])
 (.cond (.tmp 36) .skip
 (.exit 2)))
 (.block 3 (.seqR [⟨.move, [.tmp 9], (some 37), none⟩,
 ⟨(.bin .add), [.tmp 37, .const (.int .i64 1)], (some 38), none⟩,
 ⟨.move, [.tmp 38], (some 9), none⟩])))))
 (.seq (.seq (.seqR [⟨.move, [.tmp 9], (some 39), none⟩,
 ⟨.move, [.tmp 2], (some 40), none⟩,
 ⟨(.bin .eql), [.tmp 39, .tmp 40], (some 41), none⟩])
 (.cond (.tmp 41) (.seq (.seqR [⟨.move, [.const (.bool true)], (some 8), none⟩])
 .ret)
 .skip))
 (.seq (.seq (.seqR [⟨.move, [.tmp 2], (some 42), none⟩,
 ⟨.move, [.tmp 1], (some 43), none⟩,
 ⟨(.bin .sub), [.tmp 42, .tmp 43], (some 44), none⟩,
 ⟨(.bin .lss), [.tmp 44, .const (.int .i64 50)], (some 45), none⟩])
 (.cond (.tmp 45) (.seq (.seqR [⟨.move, [.const (.bool false)], (some 8), none⟩])
 .ret)
 .skip))
 (.seq (.drawR [⟨⟨.move, [.tmp 0], (some 46), none⟩, false, false, 0, 0⟩,
 ⟨⟨.move, [.tmp 9], (some 47), none⟩, false, false, 0, 0⟩,
 ⟨⟨.move, [.tmp 0], (some 48), none⟩, false, false, 0, 1⟩,
 ⟨⟨.move, [.tmp 9], (some 49), none⟩, false, false, 0, 1⟩,
 ⟨⟨(.bin .sub), [.tmp 49, .const (.int .i64 1)], (some 50), none⟩, false, false, 0, 1⟩,
 ⟨⟨.move, [.tmp 0], (some 51), none⟩, false, false, 0, 0⟩,
 ⟨⟨.move, [.tmp 9], (some 52), none⟩, false, false, 0, 0⟩,
 ⟨⟨(.bin .sub), [.tmp 52, .const (.int .i64 1)], (some 53), none⟩, false, false, 0, 0⟩,
 ⟨⟨(.indexAddrS 1), [.tmp 51, .tmp 53], (some 54), none⟩, false, false, 0, 0⟩,
 ⟨⟨(.load false 1), [.tmp 54], (some 55), none⟩, false, false, 0, 0⟩,
 ⟨⟨.move, [.tmp 0], (some 56), none⟩, false, false, 0, 0⟩,
 ⟨⟨.move, [.tmp 9], (some 57), none⟩, false, false, 0, 0⟩,
 ⟨⟨(.indexAddrS 1), [.tmp 56, .tmp 57], (some 58), none⟩, false, false, 0, 0⟩,
 ⟨⟨(.load false 1), [.tmp 58], (some 59), none⟩, false, false, 0, 0⟩,
 ⟨⟨(.indexAddrS 1), [.tmp 46, .tmp 47], (some 60), none⟩, false, false, 0, 0⟩,
 ⟨⟨(.store 1), [.tmp 60, .tmp 55], none, none⟩, true, false, 0, 1⟩,
 ⟨⟨(.indexAddrS 1), [.tmp 48, .tmp 50], (some 61), none⟩, false, false, 1, 1⟩,
 ⟨⟨(.store 1), [.tmp 61, .tmp 59], none, none⟩, true, false, 1, 2⟩])
 (.seq (.seq (.seqR [⟨.move, [.tmp 9], (some 62), none⟩,
 ⟨.move, [.tmp 1], (some 63), none⟩,
 ⟨(.bin .sub), [.tmp 62, .tmp 63], (some 64), none⟩,
 ⟨(.bin .geq), [.tmp 64, .const (.int .i64 2)], (some 65), none⟩])
 (.cond (.tmp 65) (.seq (.seqR [⟨.move, [.tmp 9], (some 66), none⟩,
 ⟨(.bin .sub), [.tmp 66, .const (.int .i64 1)], (some 67), none⟩,
 ⟨.move, [.tmp 67], (some 11), none⟩])
 (.block 4 (.loop (.seq (.seq (.seqR [⟨.move, [.tmp 11], (some 68), none⟩,
 ⟨(.bin .geq), [.tmp 68, .const (.int .i64 1)], (some 69), none⟩])
 (.cond (.tmp 69) .skip
 (.exit 4)))
 (.seq (.block 5 (.seq (.seq (.drawR [⟨⟨.move, [.tmp 3], (some 72), none⟩, false, false, 0, 0⟩,
 ⟨⟨.move, [.tmp 0], (some 73), none⟩, false, false, 0, 0⟩,
 ⟨⟨.move, [.tmp 11], (some 74), none⟩, false, false, 0, 0⟩,
 ⟨⟨(.indexAddrS 1), [.tmp 73, .tmp 74], (some 75), none⟩, false, false, 0, 0⟩,
 ⟨⟨(.load false 1), [.tmp 75], (some 76), none⟩, false, false, 0, 0⟩,
 ⟨⟨.move, [.tmp 0], (some 77), none⟩, false, false, 0, 0⟩,
 ⟨⟨.move, [.tmp 11], (some 78), none⟩, false, false, 0, 0⟩,
 ⟨⟨(.bin .sub), [.tmp 78, .const (.int .i64 1)], (some 79), none⟩, false, false, 0, 0⟩,
 ⟨⟨(.indexAddrS 1), [.tmp 77, .tmp 79], (some 80), none⟩, false, false, 0, 0⟩,
 ⟨⟨(.load false 1), [.tmp 80], (some 81), none⟩, false, false, 0, 0⟩,
 ⟨⟨.callV, [.tmp 72, .tmp 76, .tmp 81], (some 82), none⟩, true, false, 0, 1⟩,
 ⟨⟨(.bin .lss), [.tmp 82, .const (.int .i64 0)], (some 83), none⟩, false, false, 1, 1⟩,
 ⟨⟨.not, [.tmp 83], (some 84), none⟩, false, false, 1, 1⟩])
 (.cond (.tmp 84) (.exit 4)
 .skip))
 (.drawR [⟨⟨.move, [.tmp 0], (some 85), none⟩, false, false, 0, 0⟩,
 ⟨⟨.move, [.tmp 11], (some 86), none⟩, false, false, 0, 0⟩,
 ⟨⟨.move, [.tmp 0], (some 87), none⟩, false, false, 0, 1⟩,
 ⟨⟨.move, [.tmp 11], (some 88), none⟩, false, false, 0, 1⟩,
 ⟨⟨(.bin .sub), [.tmp 88, .const (.int .i64 1)], (some 89), none⟩, false, false, 0, 1⟩,
 ⟨⟨.move, [.tmp 0], (some 90), none⟩, false, false, 0, 0⟩,
 ⟨⟨.move, [.tmp 11], (some 91), none⟩, false, false, 0, 0⟩,
 ⟨⟨(.bin .sub), [.tmp 91, .const (.int .i64 1)], (some 92), none⟩, false, false, 0, 0⟩,
 ⟨⟨(.indexAddrS 1), [.tmp 90, .tmp 92], (some 93), none⟩, false, false, 0, 0⟩,
 ⟨⟨(.load false 1), [.tmp 93], (some 94), none⟩, false, false, 0, 0⟩,
 ⟨⟨.move, [.tmp 0], (some 95), none⟩, false, false, 0, 0⟩,
 ⟨⟨.move, [.tmp 11], (some 96), none⟩, false, false, 0, 0⟩,
 ⟨⟨(.indexAddrS 1), [.tmp 95, .tmp 96], (some 97), none⟩, false, false, 0, 0⟩,
 ⟨⟨(.load false 1), [.tmp 97], (some 98), none⟩, false, false, 0, 0⟩,
 ⟨⟨(.indexAddrS 1), [.tmp 85, .tmp 86], (some 99), none⟩, false, false, 0, 0⟩,
 ⟨⟨(.store 1), [.tmp 99, .tmp 94], none, none⟩, true, false, 0, 1⟩,
 ⟨⟨(.indexAddrS 1), [.tmp 87, .tmp 89], (some 100), none⟩, false, false, 1, 1⟩,
 ⟨⟨(.store 1), [.tmp 100, .tmp 98], none, none⟩, true, false, 1, 2⟩])))
 (.seqR [⟨.move, [.tmp 11], (some 70), none⟩,
 ⟨(.bin .sub), [.tmp 70, .const (.int .i64 1)], (some 71), none⟩,
 ⟨.move, [.tmp 71], (some 11), none⟩]))))))
 .skip))
 (.seq (.seqR [⟨.move, [.tmp 2], (some 101), none⟩,
 ⟨.move, [.tmp 9], (some 102), none⟩,
 ⟨(.bin .sub), [.tmp 101, .tmp 102], (some 103), none⟩,
 ⟨(.bin .geq), [.tmp 103, .const (.int .i64 2)], (some 104), none⟩])
 (.cond (.tmp 104) (.seq (.seqR [⟨.move, [.tmp 9], (some 105), none⟩,
 ⟨(.bin .add), [.tmp 105, .const (.int .i64 1)], (some 106), none⟩,
 ⟨.move, [.tmp 106], (some 12), none⟩])
 (.block 6 (.loop (.seq (.seq (.seqR [⟨.move, [.tmp 12], (some 107), none⟩,
 ⟨.move, [.tmp 2], (some 108), none⟩,
 ⟨(.bin .lss), [.tmp 107, .tmp 108], (some 109), none⟩])
 (.cond (.tmp 109) .skip
 (.exit 6)))
 (.seq (.block 7 (.seq (.seq (.drawR [⟨⟨.move, [.tmp 3], (some 112), none⟩, false, false, 0, 0⟩,
 ⟨⟨.move, [.tmp 0], (some 113), none⟩, false, false, 0, 0⟩,
 ⟨⟨.move, [.tmp 12], (some 114), none⟩, false, false, 0, 0⟩,
 ⟨⟨(.indexAddrS 1), [.tmp 113, .tmp 114], (some 115), none⟩, false, false, 0, 0⟩,
 ⟨⟨(.load false 1), [.tmp 115], (some 116), none⟩, false, false, 0, 0⟩,
 ⟨⟨.move, [.tmp 0], (some 117), none⟩, false, false, 0, 0⟩,
 ⟨⟨.move, [.tmp 12], (some 118), none⟩, false, false, 0, 0⟩,
 ⟨⟨(.bin .sub), [.tmp 118, .const (.int .i64 1)], (some 119), none⟩, false, false, 0, 0⟩,
 ⟨⟨(.indexAddrS 1), [.tmp 117, .tmp 119], (some 120), none⟩, false, false, 0, 0⟩,
 ⟨⟨(.load false 1), [.tmp 120], (some 121), none⟩, false, false, 0, 0⟩,
 ⟨⟨.callV, [.tmp 112, .tmp 116, .tmp 121], (some 122), none⟩, true, false, 0, 1⟩,
 ⟨⟨(.bin .lss), [.tmp 122, .const (.int .i64 0)], (some 123), none⟩, false, false, 1, 1⟩,
 ⟨⟨.not, [.tmp 123], (some 124), none⟩, false, false, 1, 1⟩])
 (.cond (.tmp 124) (.exit 6)
 .skip))
 (.drawR [⟨⟨.move, [.tmp 0], (some 125), none⟩, false, false, 0, 0⟩,
 ⟨⟨.move, [.tmp 12], (some 126), none⟩, false, false, 0, 0⟩,
 ⟨⟨.move, [.tmp 0], (some 127), none⟩, false, false, 0, 1⟩,
 ⟨⟨.move, [.tmp 12], (some 128), none⟩, false, false, 0, 1⟩,
 ⟨⟨(.bin .sub), [.tmp 128, .const (.int .i64 1)], (some 129), none⟩, false, false, 0, 1⟩,
 ⟨⟨.move, [.tmp 0], (some 130), none⟩, false, false, 0, 0⟩,
 ⟨⟨.move, [.tmp 12], (some 131), none⟩, false, false, 0, 0⟩,
 ⟨⟨(.bin .sub), [.tmp 131, .const (.int .i64 1)], (some 132), none⟩, false, false, 0, 0⟩,
 ⟨⟨(.indexAddrS 1), [.tmp 130, .tmp 132], (some 133), none⟩, false, false, 0, 0⟩,
 ⟨⟨(.load false 1), [.tmp 133], (some 134), none⟩, false, false, 0, 0⟩,
 ⟨⟨.move, [.tmp 0], (some 135), none⟩, false, false, 0, 0⟩,
 ⟨⟨.move, [.tmp 12], (some 136), none⟩, false, false, 0, 0⟩,
 ⟨⟨(.indexAddrS 1), [.tmp 135, .tmp 136], (some 137), none⟩, false, false, 0, 0⟩,
 ⟨⟨(.load false 1), [.tmp 137], (some 138), none⟩, false, false, 0, 0⟩,
 ⟨⟨(.indexAddrS 1), [.tmp 125, .tmp 126], (some 139), none⟩, false, false, 0, 0⟩,
 ⟨⟨(.store 1), [.tmp 139, .tmp 134], none, none⟩, true, false, 0, 1⟩,
 ⟨⟨(.indexAddrS 1), [.tmp 127, .tmp 129], (some 140), none⟩, false, false, 1, 1⟩,
 ⟨⟨(.store 1), [.tmp 140, .tmp 138], none, none⟩, true, false, 1, 2⟩])))
 (.seqR [⟨.move, [.tmp 12], (some 110), none⟩,
 ⟨(.bin .add), [.tmp 110, .const (.int .i64 1)], (some 111), none⟩,
 ⟨.move, [.tmp 111], (some 12), none⟩]))))))
 .skip))))))))
 (.seqR [⟨.move, [.tmp 10], (some 17), none⟩,
 ⟨(.bin .add), [.tmp 17, .const (.int .i64 1)], (some 18), none⟩,
 ⟨.move, [.tmp 18], (some 10), none⟩]))))))
 (.seq (.seqR [⟨.move, [.const (.bool false)], (some 8), none⟩])
 .ret)))), [.tmp 8]⟩
theorem c173_ok : compFunc Try.prog Try.f173 = some c173 := by kernel_rfl
theorem c173_body : hasBody Try.prog 173 = true := hasBody_of Try.func173 (by kernel_rfl)
/-- slices.partitionEqualCmpFunc[*coachyard/timer.entry] -/
def c174 : PFn := ⟨90, Tr.ofList (List.replicate 90 undefA), (.seq (.seqR [⟨.move, [.const (.int .i64 0)], (some 10), none⟩])
 (.seq (.drawR [⟨⟨.move, [.tmp 0], (some 13), none⟩, false, false, 0, 0⟩,
 ⟨⟨.move, [.tmp 1], (some 14), none⟩, false, false, 0, 0⟩,
 ⟨⟨.move, [.tmp 0], (some 15), none⟩, false, false, 0, 1⟩,
 ⟨⟨.move, [.tmp 3], (some 16), none⟩, false, false, 0, 1⟩,
 ⟨⟨.move, [.tmp 0], (some 17), none⟩, false, false, 0, 0⟩,
 ⟨⟨.move, [.tmp 3], (some 18), none⟩, false, false, 0, 0⟩,
 ⟨⟨(.indexAddrS 1), [.tmp 17, .tmp 18], (some 19), none⟩, false, false, 0, 0⟩,
 ⟨⟨(.load false 1), [.tmp 19], (some 20), none⟩, false, false, 0, 0⟩,
 ⟨⟨.move, [.tmp 0], (some 21), none⟩, false, false, 0, 0⟩,
 ⟨⟨.move, [.tmp 1], (some 22), none⟩, false, false, 0, 0⟩,
 ⟨⟨(.indexAddrS 1), [.tmp 21, .tmp 22], (some 23), none⟩, false, false, 0, 0⟩,
 ⟨⟨(.load false 1), [.tmp 23], (some 24), none⟩, false, false, 0, 0⟩,
 ⟨⟨(.indexAddrS 1), [.tmp 13, .tmp 14], (some 25), none⟩, false, false, 0, 0⟩,
 ⟨⟨(.store 1), [.tmp 25, .tmp 20], none, none⟩, true, false, 0, 1⟩,
 ⟨⟨(.indexAddrS 1), [.tmp 15, .tmp 16], (some 26), none⟩, false, false, 1, 1⟩,
 ⟨⟨(.store 1), [.tmp 26, .tmp 24], none, none⟩, true, false, 1, 2⟩])
 (.seq (.seqR [⟨.move, [.tmp 1], (some 27), none⟩,
 ⟨(.bin .add), [.tmp 27, .const (.int .i64 1)], (some 28), none⟩,
 ⟨.move, [.tmp 2], (some 29), none⟩,
 ⟨(.bin .sub), [.tmp 29, .const (.int .i64 1)], (some 30), none⟩,
 ⟨.move, [.tmp 28], (some 11), none⟩,
 ⟨.move, [.tmp 30], (some 12), none⟩])
 (.seq (.block 0 (.loop (.block 1 (.seq (.block 2 (.loop (.seq (.seq (.drawR [⟨⟨.move, [.tmp 11], (some 31), none⟩, false, false, 0, 0⟩,
 ⟨⟨.move, [.tmp 12], (some 32), none⟩, false, false, 0, 0⟩,
 ⟨⟨(.bin .leq), [.tmp 31, .tmp 32], (some 33), none⟩, false, false, 0, 0⟩,
 ⟨⟨.move, [.tmp 33], (some 34), none⟩, false, false, 0, 0⟩,
 ⟨⟨.move, [.tmp 4], (some 35), some (34, true)⟩, false, false, 0, 0⟩,
 ⟨⟨.move, [.tmp 0], (some 36), some (34, true)⟩, false, false, 0, 0⟩,
 ⟨⟨.move, [.tmp 1], (some 37), some (34, true)⟩, false, false, 0, 0⟩,
 ⟨⟨(.indexAddrS 1), [.tmp 36, .tmp 37], (some 38), some (34, true)⟩, false, false, 0, 0⟩,
 ⟨⟨(.load false 1), [.tmp 38], (some 39), some (34, true)⟩, false, false, 0, 0⟩,
 ⟨⟨.move, [.tmp 0], (some 40), some (34, true)⟩, false, false, 0, 0⟩,
 ⟨⟨.move, [.tmp 11], (some 41), some (34, true)⟩, false, false, 0, 0⟩,
 ⟨⟨(.indexAddrS 1), [.tmp 40, .tmp 41], (some 42), some (34, true)⟩, false, false, 0, 0⟩,
 ⟨⟨(.load false 1), [.tmp 42], (some 43), some (34, true)⟩, false, false, 0, 0⟩,
 ⟨⟨.callV, [.tmp 35, .tmp 39, .tmp 43], (some 44), some (34, true)⟩, true, false, 0, 1⟩,
 ⟨⟨(.bin .lss), [.tmp 44, .const (.int .i64 0)], (some 45), some (34, true)⟩, false, false, 1, 1⟩,
 ⟨⟨.not, [.tmp 45], (some 46), some (34, true)⟩, false, false, 1, 1⟩,
 ⟨⟨.pick, [.tmp 34, .tmp 46, .const (.bool false)], (some 47), none⟩, false, false, 1, 1⟩])
 (.cond (.tmp 47) .skip
 (.exit 2)))
 (.block 3 (.seqR [⟨.move, [.tmp 11], (some 48), none⟩,
 ⟨(.bin .add), [.tmp 48, .const (.int .i64 1)], (some 49), none⟩,
 ⟨.move, [.tmp 49], (some 11), none⟩])))))
 (.seq (.block 4 (.loop (.seq (.seq (.drawR [⟨⟨.move, [.tmp 11], (some 50), none⟩, false, false, 0, 0⟩,
 ⟨⟨.move, [.tmp 12], (some 51), none⟩, false, false, 0, 0⟩,
 ⟨⟨(.bin .leq), [.tmp 50, .tmp 51], (some 52), none⟩, false, false, 0, 0⟩,
 ⟨⟨.move, [.tmp 52], (some 53), none⟩, false, false, 0, 0⟩,
 ⟨⟨.move, [.tmp 4], (some 54), some (53, true)⟩, false, false, 0, 0⟩,
 ⟨⟨.move, [.tmp 0], (some 55), some (53, true)⟩, false, false, 0, 0⟩,
 ⟨⟨.move, [.tmp 1], (some 56), some (53, true)⟩, false, false, 0, 0⟩,
 ⟨⟨(.indexAddrS 1), [.tmp 55, .tmp 56], (some 57), some (53, true)⟩, false, false, 0, 0⟩,
 ⟨⟨(.load false 1), [.tmp 57], (some 58), some (53, true)⟩, false, false, 0, 0⟩,
 ⟨⟨.move, [.tmp 0], (some 59), some (53, true)⟩, false, false, 0, 0⟩,
 ⟨⟨.move, [.tmp 12], (some 60), some (53, true)⟩, false, false, 0, 0⟩,
 ⟨⟨(.indexAddrS 1), [.tmp 59, .tmp 60], (some 61), some (53, true)⟩, false, false, 0, 0⟩,
 ⟨⟨(.load false 1), [.tmp 61], (some 62), some (53, true)⟩, false, false, 0, 0⟩,
 ⟨⟨.callV, [.tmp 54, .tmp 58, .tmp 62], (some 63), some (53, true)⟩, true, false, 0, 1⟩,
 ⟨⟨(.bin .lss), [.tmp 63, .const (.int .i64 0)], (some 64), some (53, true)⟩, false, false, 1, 1⟩,
 ⟨⟨.pick, [.tmp 53, .tmp 64, .const (.bool false)], (some 65), none⟩, false, false, 1, 1⟩])
 (.cond (.tmp 65) .skip
 (.exit 4)))
 (.block 5 (.seqR [⟨.move, [.tmp 12], (some 66), none⟩,
 ⟨(.bin .sub), [.tmp 66, .const (.int .i64 1)], (some 67), none⟩,
 ⟨.move, [.tmp 67], (some 12), none⟩])))))
 (.seq (.seq (.seqR [⟨.move, [.tmp 11], (some 68), none⟩,
 ⟨.move, [.tmp 12], (some 69), none⟩,
 ⟨(.bin .gtr), [.tmp 68, .tmp 69], (some 70), none⟩])
 (.cond (.tmp 70) (.exit 0)
 .skip))
 (.seq (.drawR [⟨⟨.move, [.tmp 0], (some 71), none⟩, false, false, 0, 0⟩,
 ⟨⟨.move, [.tmp 11], (some 72), none⟩, false, false, 0, 0⟩,
 ⟨⟨.move, [.tmp 0], (some 73), none⟩, false, false, 0, 1⟩,
 ⟨⟨.move, [.tmp 12], (some 74), none⟩, false, false, 0, 1⟩,
 ⟨⟨.move, [.tmp 0], (some 75), none⟩, false, false, 0, 0⟩,
 ⟨⟨.move, [.tmp 12], (some 76), none⟩, false, false, 0, 0⟩,
 ⟨⟨(.indexAddrS 1), [.tmp 75, .tmp 76], (some 77), none⟩, false, false, 0, 0⟩,
 ⟨⟨(.load false 1), [.tmp 77], (some 78), none⟩, false, false, 0, 0⟩,
 ⟨⟨.move, [.tmp 0], (some 79), none⟩, false, false, 0, 0⟩,
 ⟨⟨.move, [.tmp 11], (some 80), none⟩, false, false, 0, 0⟩,
 ⟨⟨(.indexAddrS 1), [.tmp 79, .tmp 80], (some 81), none⟩, false, false, 0, 0⟩,
 ⟨⟨(.load false 1), [.tmp 81], (some 82), none⟩, false, false, 0, 0⟩,
 ⟨⟨(.indexAddrS 1), [.tmp 71, .tmp 72], (some 83), none⟩, false, false, 0, 0⟩,
 ⟨⟨(.store 1), [.tmp 83, .tmp 78], none, none⟩, true, false, 0, 1⟩,
 ⟨⟨(.indexAddrS 1), [.tmp 73, .tmp 74], (some 84), none⟩, false, false, 1, 1⟩,
 ⟨⟨(.store 1), [.tmp 84, .tmp 82], none, none⟩, true, false, 1, 2⟩])
 (.seq (.seqR [⟨.move, [.tmp 11], (some 85), none⟩,
 ⟨(.bin .add), [.tmp 85, .const (.int .i64 1)], (some 86), none⟩,
 ⟨.move, [.tmp 86], (some 11), none⟩])
 (.seqR [⟨.move, [.tmp 12], (some 87), none⟩,
 ⟨(.bin .sub), [.tmp 87, .const (.int .i64 1)], (some 88), none⟩,
 ⟨.move, [.tmp 88], (some 12), none⟩])))))))))
 (.seq (.seqR [⟨.move, [.tmp 11], (some 89), none⟩,
 ⟨.move, [.tmp 89], (some 10), none⟩])
 .ret))))), [.tmp 10]⟩
theorem c174_ok : compFunc Try.prog Try.f174 = some c174 := by kernel_rfl
theorem c174_body : hasBody Try.prog 174 = true := hasBody_of Try.func174 (by kernel_rfl)
/-- slices.partitionCmpFunc[*coachyard/timer.entry] -/
def c175 : PFn := ⟨178, Tr.ofList (List.replicate 178 undefA), (.seq (.seqR [⟨.move, [.const (.int .i64 0)], (some 10), none⟩,
 ⟨.move, [.const (.bool false)], (some 11), none⟩])
 (.seq (.drawR [⟨⟨.move, [.tmp 0], (some 14), none⟩, false, false, 0, 0⟩,
 ⟨⟨.move, [.tmp 1], (some 15), none⟩, false, false, 0, 0⟩,
 ⟨⟨.move, [.tmp 0], (some 16), none⟩, false, false, 0, 1⟩,
 ⟨⟨.move, [.tmp 3], (some 17), none⟩, false, false, 0, 1⟩,
 ⟨⟨.move, [.tmp 0], (some 18), none⟩, false, false, 0, 0⟩,
 ⟨⟨.move, [.tmp 3], (some 19), none⟩, false, false, 0, 0⟩,
 ⟨⟨(.indexAddrS 1), [.tmp 18, .tmp 19], (some 20), none⟩, false, false, 0, 0⟩,
 ⟨⟨(.load false 1), [.tmp 20], (some 21), none⟩, false, false, 0, 0⟩,
 ⟨⟨.move, [.tmp 0], (some 22), none⟩, false, false, 0, 0⟩,
 ⟨⟨.move, [.tmp 1], (some 23), none⟩, false, false, 0, 0⟩,
 ⟨⟨(.indexAddrS 1), [.tmp 22, .tmp 23], (some 24), none⟩, false, false, 0, 0⟩,
 ⟨⟨(.load false 1), [.tmp 24], (some 25), none⟩, false, false, 0, 0⟩,
 ⟨⟨(.indexAddrS 1), [.tmp 14, .tmp 15], (some 26), none⟩, false, false, 0, 0⟩,
 ⟨⟨(.store 1), [.tmp 26, .tmp 21], none, none⟩, true, false, 0, 1⟩,
 ⟨⟨(.indexAddrS 1), [.tmp 16, .tmp 17], (some 27), none⟩, false, false, 1, 1⟩,
 ⟨⟨(.store 1), [.tmp 27, .tmp 25], none, none⟩, true, false, 1, 2⟩])
 (.seq (.seqR [⟨.move, [.tmp 1], (some 28), none⟩,
 ⟨(.bin .add), [.tmp 28, .const (.int .i64 1)], (some 29), none⟩,
 ⟨.move, [.tmp 2], (some 30), none⟩,
 ⟨(.bin .sub), [.tmp 30, .const (.int .i64 1)], (some 31), none⟩,
 ⟨.move, [.tmp 29], (some 12), none⟩,
 ⟨.move, [.tmp 31], (some 13), none⟩])
 (.seq (.block 0 (.loop (.seq (.seq (.drawR [⟨⟨.move, [.tmp 12], (some 32), none⟩, false, false, 0, 0⟩,
 ⟨⟨.move, [.tmp 13], (some 33), none⟩, false, false, 0, 0⟩,
 ⟨⟨(.bin .leq), [.tmp 32, .tmp 33], (some 34), none⟩, false, false, 0, 0⟩,
 ⟨⟨.move, [.tmp 34], (some 35), none⟩, false, false, 0, 0⟩,
 ⟨⟨.move, [.tmp 4], (some 36), some (35, true)⟩, false, false, 0, 0⟩,
 ⟨⟨.move, [.tmp 0], (some 37), some (35, true)⟩, false, false, 0, 0⟩,
 ⟨⟨.move, [.tmp 12], (some 38), some (35, true)⟩, false, false, 0, 0⟩,
 ⟨⟨(.indexAddrS 1), [.tmp 37, .tmp 38], (some 39), some (35, true)⟩, false, false, 0, 0⟩,
 ⟨⟨(.load false 1), [.tmp 39], (some 40), some (35, true)⟩, false, false, 0, 0⟩,
 ⟨⟨.move, [.tmp 0], (some 41), some (35, true)⟩, false, false, 0, 0⟩,
 ⟨⟨.move, [.tmp 1], (some 42), some (35, true)⟩, false, false, 0, 0⟩,
 ⟨⟨(.indexAddrS 1), [.tmp 41, .tmp 42], (some 43), some (35, true)⟩, false, false, 0, 0⟩,
 ⟨⟨(.load false 1), [.tmp 43], (some 44), some (35, true)⟩, false, false, 0, 0⟩,
 ⟨⟨.callV, [.tmp 36, .tmp 40, .tmp 44], (some 45), some (35, true)⟩, true, false, 0, 1⟩,
 ⟨⟨(.bin .lss), [.tmp 45, .const (.int .i64 0)], (some 46), some (35, true)⟩, false, false, 1, 1⟩,
 ⟨⟨.pick, [.tmp 35, .tmp 46, .const (.bool false)], (some 47), none⟩, false, false, 1, 1⟩])
 (.cond (.tmp 47) .skip
 (.exit 0)))
 (.block 1 (.seqR [⟨.move, [.tmp 12], (some 48), none⟩,
 ⟨(.bin .add), [.tmp 48, .const (.int .i64 1)], (some 49), none⟩,
 ⟨.move, [.tmp 49], (some 12), none⟩])))))
 (.seq (.block 2 (.loop (.seq (.seq (.drawR [⟨⟨.move, [.tmp 12], (some 50), none⟩, false, false, 0, 0⟩,
 ⟨⟨.move, [.tmp 13], (some 51), none⟩, false, false, 0, 0⟩,
 ⟨⟨(.bin .leq), [.tmp 50, .tmp 51], (some 52), none⟩, false, false, 0, 0⟩,
 ⟨⟨.move, [.tmp 52], (some 53), none⟩, false, false, 0, 0⟩,
 ⟨⟨.move, [.tmp 4], (some 54), some (53, true)⟩, false, false, 0, 0⟩,
 ⟨⟨.move, [.tmp 0], (some 55), some (53, true)⟩, false, false, 0, 0⟩,
 ⟨⟨.move, [.tmp 13], (some 56), some (53, true)⟩, false, false, 0, 0⟩,
 ⟨⟨(.indexAddrS 1), [.tmp 55, .tmp 56], (some 57), some (53, true)⟩, false, false, 0, 0⟩,
 ⟨⟨(.load false 1), [.tmp 57], (some 58), some (53, true)⟩, false, false, 0, 0⟩,
 ⟨⟨.move, [.tmp 0], (some 59), some (53, true)⟩, false, false, 0, 0⟩,
 ⟨⟨.move, [.tmp 1], (some 60), some (53, true)⟩, false, false, 0, 0⟩,
 ⟨⟨(.indexAddrS 1), [.tmp 59, .tmp 60], (some 61), some (53, true)⟩, false, false, 0, 0⟩,
 ⟨⟨(.load false 1), [.tmp 61], (some 62), some (53, true)⟩, false, false, 0, 0⟩,
 ⟨⟨.callV, [.tmp 54, .tmp 58, .tmp 62], (some 63), some (53, true)⟩, true, false, 0, 1⟩,
 ⟨⟨(.bin .lss), [.tmp 63, .const (.int .i64 0)], (some 64), some (53, true)⟩, false, false, 1, 1⟩,
 ⟨⟨.not, [.tmp 64], (some 65), some (53, true)⟩, false, false, 1, 1⟩,
 ⟨⟨.pick, [.tmp 53, .tmp 65, .const (.bool false)], (some 66), none⟩, false, false, 1, 1⟩])
 (.cond (.tmp 66) .skip
 (.exit 2)))
 (.block 3 (.seqR [⟨.move, [.tmp 13], (some 67), none⟩,
 ⟨(.bin .sub), [.tmp 67, .const (.int .i64 1)], (some 68), none⟩,
 ⟨.move, [.tmp 68], (some 13), none⟩])))))
 (.seq (.seq (.seqR [⟨.move, [.tmp 12], (some 69), none⟩,
 ⟨.move, [.tmp 13], (some 70), none⟩,
 ⟨(.bin .gtr), [.tmp 69, .tmp 70], (some 71), none⟩])
 (.cond (.tmp 71) (.seq (.drawR [⟨⟨.move, [.tmp 0], (some 72), none⟩, false, false, 0, 0⟩,
 ⟨⟨.move, [.tmp 13], (some 73), none⟩, false, false, 0, 0⟩,
 ⟨⟨.move, [.tmp 0], (some 74), none⟩, false, false, 0, 1⟩,
 ⟨⟨.move, [.tmp 1], (some 75), none⟩, false, false, 0, 1⟩,
 ⟨⟨.move, [.tmp 0], (some 76), none⟩, false, false, 0, 0⟩,
 ⟨⟨.move, [.tmp 1], (some 77), none⟩, false, false, 0, 0⟩,
 ⟨⟨(.indexAddrS 1), [.tmp 76, .tmp 77], (some 78), none⟩, false, false, 0, 0⟩,
 ⟨⟨(.load false 1), [.tmp 78], (some 79), none⟩, false, false, 0, 0⟩,
 ⟨⟨.move, [.tmp 0], (some 80), none⟩, false, false, 0, 0⟩,
 ⟨⟨.move, [.tmp 13], (some 81), none⟩, false, false, 0, 0⟩,
 ⟨⟨(.indexAddrS 1), [.tmp 80, .tmp 81], (some 82), none⟩, false, false, 0, 0⟩,
 ⟨⟨(.load false 1), [.tmp 82], (some 83), none⟩, false, false, 0, 0⟩,
 ⟨⟨(.indexAddrS 1), [.tmp 72, .tmp 73], (some 84), none⟩, false, false, 0, 0⟩,
 ⟨⟨(.store 1), [.tmp 84, .tmp 79], none, none⟩, true, false, 0, 1⟩,
 ⟨⟨(.indexAddrS 1), [.tmp 74, .tmp 75], (some 85), none⟩, false, false, 1, 1⟩,
 ⟨⟨(.store 1), [.tmp 85, .tmp 83], none, none⟩, true, false, 1, 2⟩])
 (.seq (.seqR [⟨.move, [.tmp 13], (some 86), none⟩,
 ⟨.move, [.tmp 86], (some 10), none⟩,
 ⟨.move, [.const (.bool true)], (some 11), none⟩])
 .ret))
 .skip))
 (.seq (.drawR [⟨⟨.move, [.tmp 0], (some 87), none⟩, false, false, 0, 0⟩,
 ⟨⟨.move, [.tmp 12], (some 88), none⟩, false, false, 0, 0⟩,
 ⟨⟨.move, [.tmp 0], (some 89), none⟩, false, false, 0, 1⟩,
 ⟨⟨.move, [.tmp 13], (some 90), none⟩, false, false, 0, 1⟩,
 ⟨⟨.move, [.tmp 0], (some 91), none⟩, false, false, 0, 0⟩,
 ⟨⟨.move, [.tmp 13], (some 92), none⟩, false, false, 0, 0⟩,
 ⟨⟨(.indexAddrS 1), [.tmp 91, .tmp 92], (some 93), none⟩, false, false, 0, 0⟩,
 ⟨⟨(.load false 1), [.tmp 93], (some 94), none⟩, false, false, 0, 0⟩,
 ⟨⟨.move, [.tmp 0], (some 95), none⟩, false, false, 0, 0⟩,
 ⟨⟨.move, [.tmp 12], (some 96), none⟩, false, false, 0, 0⟩,
 ⟨⟨(.indexAddrS 1), [.tmp 95, .tmp 96], (some 97), none⟩, false, false, 0, 0⟩,
 ⟨⟨(.load false 1), [.tmp 97], (some 98), none⟩, false, false, 0, 0⟩,
 ⟨⟨(.indexAddrS 1), [.tmp 87, .tmp 88], (some 99), none⟩, false, false, 0, 0⟩,
 ⟨⟨(.store 1), [.tmp 99, .tmp 94], none, none⟩, true, false, 0, 1⟩,
 ⟨⟨(.indexAddrS 1), [.tmp 89, .tmp 90], (some 100), none⟩, false, false, 1, 1⟩,
 ⟨⟨(.store 1), [.tmp 100, .tmp 98], none, none⟩, true, false, 1, 2⟩])
 (.seq (.seqR [⟨.move, [.tmp 12], (some 101), none⟩,
 ⟨(.bin .add), [.tmp 101, .const (.int .i64 1)], (some 102), none⟩,
 ⟨.move, [.tmp 102], (some 12), none⟩])
 (.seq (.seqR [⟨.move, [.tmp 13], (some 103), none⟩,
 ⟨(.bin .sub), [.tmp 103, .const (.int .i64 1)], (some 104), none⟩,
 ⟨.move, [.tmp 104], (some 13), none⟩])
 (.seq (.block 4 (.loop (.block 5 (.seq (.block 6 (.loop (.seq (.seq (.drawR [⟨⟨.move, [.tmp 12], (some 105), none⟩, false, false, 0, 0⟩,
 ⟨⟨.move, [.tmp 13], (some 106), none⟩, false, false, 0, 0⟩,
 ⟨⟨(.bin .leq), [.tmp 105, .tmp 106], (some 107), none⟩, false, false, 0, 0⟩,
 ⟨⟨.move, [.tmp 107], (some 108), none⟩, false, false, 0, 0⟩,
 ⟨⟨.move, [.tmp 4], (some 109), some (108, true)⟩, false, false, 0, 0⟩,
 ⟨⟨.move, [.tmp 0], (some 110), some (108, true)⟩, false, false, 0, 0⟩,
 ⟨⟨.move, [.tmp 12], (some 111), some (108, true)⟩, false, false, 0, 0⟩,
 ⟨⟨(.indexAddrS 1), [.tmp 110, .tmp 111], (some 112), some (108, true)⟩, false, false, 0, 0⟩,
 ⟨⟨(.load false 1), [.tmp 112], (some 113), some (108, true)⟩, false, false, 0, 0⟩,
 ⟨⟨.move, [.tmp 0], (some 114), some (108, true)⟩, false, false, 0, 0⟩,
 ⟨⟨.move, [.tmp 1], (some 115), some (108, true)⟩, false, false, 0, 0⟩,
 ⟨⟨(.indexAddrS 1), [.tmp 114, .tmp 115], (some 116), some (108, true)⟩, false, false, 0, 0⟩,
 ⟨⟨(.load false 1), [.tmp 116], (some 117), some (108, true)⟩, false, false, 0, 0⟩,
 ⟨⟨.callV, [.tmp 109, .tmp 113, .tmp 117], (some 118), some (108, true)⟩, true, false, 0, 1⟩,
 ⟨⟨(.bin .lss), [.tmp 118, .const (.int .i64 0)], (some 119), some (108, true)⟩, false, false, 1, 1⟩,
 ⟨⟨.pick, [.tmp 108, .tmp 119, .const (.bool false)], (some 120), none⟩, false, false, 1, 1⟩])
 (.cond (.tmp 120) .skip
 (.exit 6)))
 (.block 7 (.seqR [⟨.move, [.tmp 12], (some 121), none⟩,
 ⟨(.bin .add), [.tmp 121, .const (.int .i64 1)], (some 122), none⟩,
 ⟨.move, [.tmp 122], (some 12), none⟩])))))
 (.seq (.block 8 (.loop (.seq (.seq (.drawR [⟨⟨.move, [.tmp 12], (some 123), none⟩, false, false, 0, 0⟩,
 ⟨⟨.move, [.tmp 13], (some 124), none⟩, false, false, 0, 0⟩,
 ⟨⟨(.bin .leq), [.tmp 123, .tmp 124], (some 125), none⟩, false, false, 0, 0⟩,
 ⟨⟨.move, [.tmp 125], (some 126), none⟩, false, false, 0, 0⟩,
 ⟨⟨.move, [.tmp 4], (some 127), some (126, true)⟩, false, false, 0, 0⟩,
 ⟨⟨.move, [.tmp 0], (some 128), some (126, true)⟩, false, false, 0, 0⟩,
 ⟨⟨.move, [.tmp 13], (some 129), some (126, true)⟩, false, false, 0, 0⟩,
 ⟨⟨(.indexAddrS 1), [.tmp 128, .tmp 129], (some 130), some (126, true)⟩, false, false, 0, 0⟩,
 ⟨⟨(.load false 1), [.tmp 130], (some 131), some (126, true)⟩, false, false, 0, 0⟩,
 ⟨⟨.move, [.tmp 0], (some 132), some (126, true)⟩, false, false, 0, 0⟩,
 ⟨⟨.move, [.tmp 1], (some 133), some (126, true)⟩, false, false, 0, 0⟩,
 ⟨⟨(.indexAddrS 1), [.tmp 132, .tmp 133], (some 134), some (126, true)⟩, false, false, 0, 0⟩,
 ⟨⟨(.load false 1), [.tmp 134], (some 135), some (126, true)⟩, false, false, 0, 0⟩,
 ⟨⟨.callV, [.tmp 127, .tmp 131, .tmp 135], (some 136), some (126, true)⟩, true, false, 0, 1⟩,
 ⟨⟨(.bin .lss), [.tmp 136, .const (.int .i64 0)], (some 137), some (126, true)⟩, false, false, 1, 1⟩,
 ⟨⟨.not, [.tmp 137], (some 138), some (126, true)⟩, false, false, 1, 1⟩,
 ⟨⟨.pick, [.tmp 126, .tmp 138, .const (.bool false)], (some 139), none⟩, false, false, 1, 1⟩])
 (.cond (.tmp 139) .skip
 (.exit 8)))
 (.block 9 (.seqR [⟨.move, [.tmp 13], (some 140), none⟩,
 ⟨(.bin .sub), [.tmp 140, .const (.int .i64 1)], (some 141), none⟩,
 ⟨.move, [.tmp 141], (some 13), none⟩])))))
 (.seq (.seq (.seqR [⟨.move, [.tmp 12], (some 142), none⟩,
 ⟨.move, [.tmp 13], (some 143), none⟩,
 ⟨(.bin .gtr), [.tmp 142, .tmp 143], (some 144), none⟩])
 (.cond (.tmp 144) (.exit 4)
 .skip))
 (.seq (.drawR [⟨⟨.move, [.tmp 0], (some 145), none⟩, false, false, 0, 0⟩,
 ⟨⟨.move, [.tmp 12], (some 146), none⟩, false, false, 0, 0⟩,
 ⟨⟨.move, [.tmp 0], (some 147), none⟩, false, false, 0, 1⟩,
 ⟨⟨.move, [.tmp 13], (some 148), none⟩, false, false, 0, 1⟩,
 ⟨⟨.move, [.tmp 0], (some 149), none⟩, false, false, 0, 0⟩,
 ⟨⟨.move, [.tmp 13], (some 150), none⟩, false, false, 0, 0⟩,
 ⟨⟨(.indexAddrS 1), [.tmp 149, .tmp 150], (some 151), none⟩, false, false, 0, 0⟩,
 ⟨⟨(.load false 1), [.tmp 151], (some 152), none⟩, false, false, 0, 0⟩,
 ⟨⟨.move, [.tmp 0], (some 153), none⟩, false, false, 0, 0⟩,
 ⟨⟨.move, [.tmp 12], (some 154), none⟩, false, false, 0, 0⟩,
 ⟨⟨(.indexAddrS 1), [.tmp 153, .tmp 154], (some 155), none⟩, false, false, 0, 0⟩,
 ⟨⟨(.load false 1), [.tmp 155], (some 156), none⟩, false, false, 0, 0⟩,
 ⟨⟨(.indexAddrS 1), [.tmp 145, .tmp 146], (some 157), none⟩, false, false, 0, 0⟩,
 ⟨⟨(.store 1), [.tmp 157, .tmp 152], none, none⟩, true, false, 0, 1⟩,
 ⟨⟨(.indexAddrS 1), [.tmp 147, .tmp 148], (some 158), none⟩, false, false, 1, 1⟩,
 ⟨⟨(.store 1), [.tmp 158, .tmp 156], none, none⟩, true, false, 1, 2⟩])
 (.seq (.seqR [⟨.move, [.tmp 12], (some 159), none⟩,
 ⟨(.bin .add), [.tmp 159, .const (.int .i64 1)], (some 160), none⟩,
 ⟨.move, [.tmp 160], (some 12), none⟩])
 (.seqR [⟨.move, [.tmp 13], (some 161), none⟩,
 ⟨(.bin .sub), [.tmp 161, .const (.int .i64 1)], (some 162), none⟩,
 ⟨.move, [.tmp 162], (some 13), none⟩])))))))))
 (.seq (.drawR [⟨⟨.move, [.tmp 0], (some 163), none⟩, false, false, 0, 0⟩,
 ⟨⟨.move, [.tmp 13], (some 164), none⟩, false, false, 0, 0⟩,
 ⟨⟨.move, [.tmp 0], (some 165), none⟩, false, false, 0, 1⟩,
 ⟨⟨.move, [.tmp 1], (some 166), none⟩, false, false, 0, 1⟩,
 ⟨⟨.move, [.tmp 0], (some 167), none⟩, false, false, 0, 0⟩,
 ⟨⟨.move, [.tmp 1], (some 168), none⟩, false, false, 0, 0⟩,
 ⟨⟨(.indexAddrS 1), [.tmp 167, .tmp 168], (some 169), none⟩, false, false, 0, 0⟩,
 ⟨⟨(.load false 1), [.tmp 169], (some 170), none⟩, false, false, 0, 0⟩,
 ⟨⟨.move, [.tmp 0], (some 171), none⟩, false, false, 0, 0⟩,
 ⟨⟨.move, [.tmp 13], (some 172), none⟩, false, false, 0, 0⟩,
 ⟨⟨(.indexAddrS 1), [.tmp 171, .tmp 172], (some 173), none⟩, false, false, 0, 0⟩,
 ⟨⟨(.load false 1), [.tmp 173], (some 174), none⟩, false, false, 0, 0⟩,
 ⟨⟨(.indexAddrS 1), [.tmp 163, .tmp 164], (some 175), none⟩, false, false, 0, 0⟩,
 ⟨⟨(.store 1), [.tmp 175, .tmp 170], none, none⟩, true, false, 0, 1⟩,
 ⟨⟨(.indexAddrS 1), [.tmp 165, .tmp 166], (some 176), none⟩, false, false, 1, 1⟩,
 ⟨⟨(.store 1), [.tmp 176, .tmp 174], none, none⟩, true, false, 1, 2⟩])
 (.seq (.seqR [⟨.move, [.tmp 13], (some 177), none⟩,
 ⟨.move, [.tmp 177], (some 10), none⟩,
 ⟨.move, [.const (.bool false)], (some 11), none⟩])
 .ret)))))))))))), [.tmp 10, .tmp 11]⟩
theorem c175_ok : compFunc Try.prog Try.f175 = some c175 := by kernel_rfl
theorem c175_body : hasBody Try.prog 175 = true := hasBody_of Try.func175 (by kernel_rfl)
/-- slices.siftDownCmpFunc[*coachyard/timer.entry] -/
def c176 : PFn := ⟨82, Tr.ofList (List.replicate 82 undefA), (.seq (.seqR [⟨.move, [.tmp 1], (some 12), none⟩,
 ⟨.move, [.tmp 12], (some 10), none⟩])
 (.block 0 (.loop (.block 1 (.seq (.seqR [⟨.move, [.tmp 10], (some 13), none⟩,
 ⟨(.bin .mul), [.const (.int .i64 2), .tmp 13], (some 14), none⟩,
 ⟨(.bin .add), [.tmp 14, .const (.int .i64 1)], (some 15), none⟩,
 ⟨.move, [.tmp 15], (some 11), none⟩])
 (.seq (.seq (.seqR [⟨.move, [.tmp 11], (some 16), none⟩,
 ⟨.move, [.tmp 2], (some 17), none⟩,
 ⟨(.bin .geq), [.tmp 16, .tmp 17], (some 18), none⟩])
 (.cond (.tmp 18) (.exit 0)
 .skip))
 (.seq (.seq (.drawR [⟨⟨.move, [.tmp 11], (some 19), none⟩, false, false, 0, 0⟩,
 ⟨⟨(.bin .add), [.tmp 19, .const (.int .i64 1)], (some 20), none⟩, false, false, 0, 0⟩,
 ⟨⟨.move, [.tmp 2], (some 21), none⟩, false, false, 0, 0⟩,
 ⟨⟨(.bin .lss), [.tmp 20, .tmp 21], (some 22), none⟩, false, false, 0, 0⟩,
 ⟨⟨.move, [.tmp 22], (some 23), none⟩, false, false, 0, 0⟩,
 ⟨⟨.move, [.tmp 4], (some 24), some (23, true)⟩, false, false, 0, 0⟩,
 ⟨⟨.move, [.tmp 0], (some 25), some (23, true)⟩, false, false, 0, 0⟩,
 ⟨⟨.move, [.tmp 3], (some 26), some (23, true)⟩, false, false, 0, 0⟩,
 ⟨⟨.move, [.tmp 11], (some 27), some (23, true)⟩, false, false, 0, 0⟩,
 ⟨⟨(.bin .add), [.tmp 26, .tmp 27], (some 28), some (23, true)⟩, false, false, 0, 0⟩,
 ⟨⟨(.indexAddrS 1), [.tmp 25, .tmp 28], (some 29), some (23, true)⟩, false, false, 0, 0⟩,
 ⟨⟨(.load false 1), [.tmp 29], (some 30), some (23, true)⟩, false, false, 0, 0⟩,
 ⟨⟨.move, [.tmp 0], (some 31), some (23, true)⟩, false, false, 0, 0⟩,
 ⟨⟨.move, [.tmp 3], (some 32), some (23, true)⟩, false, false, 0, 0⟩,
 ⟨⟨.move, [.tmp 11], (some 33), some (23, true)⟩, false, false, 0, 0⟩,
 ⟨⟨(.bin .add), [.tmp 32, .tmp 33], (some 34), some (23, true)⟩, false, false, 0, 0⟩,
 ⟨⟨(.bin .add), [.tmp 34, .const (.int .i64 1)], (some 35), some (23, true)⟩, false, false, 0, 0⟩,
 ⟨⟨(.indexAddrS 1), [.tmp 31, .tmp 35], (some 36), some (23, true)⟩, false, false, 0, 0⟩,
 ⟨⟨(.load false 1), [.tmp 36], (some 37), some (23, true)⟩, false, false, 0, 0⟩,
 ⟨⟨.callV, [.tmp 24, .tmp 30, .tmp 37], (some 38), some (23, true)⟩, true, false, 0, 1⟩,
 ⟨⟨(.bin .lss), [.tmp 38, .const (.int .i64 0)], (some 39), some (23, true)⟩, false, false, 1, 1⟩,
 ⟨⟨.pick, [.tmp 23, .tmp 39, .const (.bool false)], (some 40), none⟩, false, false, 1, 1⟩])
 (.cond (.tmp 40) (.seqR [⟨.move, [.tmp 11], (some 41), none⟩,
 ⟨(.bin .add), [.tmp 41, .const (.int .i64 1)], (some 42), none⟩,
 ⟨.move, [.tmp 42], (some 11), none⟩])
 .skip))
 (.seq (.seq (.drawR [⟨⟨.move, [.tmp 4], (some 43), none⟩, false, false, 0, 0⟩,
 ⟨⟨.move, [.tmp 0], (some 44), none⟩, false, false, 0, 0⟩,
 ⟨⟨.move, [.tmp 3], (some 45), none⟩, false, false, 0, 0⟩,
 ⟨⟨.move, [.tmp 10], (some 46), none⟩, false, false, 0, 0⟩,
 ⟨⟨(.bin .add), [.tmp 45, .tmp 46], (some 47), none⟩, false, false, 0, 0⟩,
 ⟨⟨(.indexAddrS 1), [.tmp 44, .tmp 47], (some 48), none⟩, false, false, 0, 0⟩,
 ⟨⟨(.load false 1), [.tmp 48], (some 49), none⟩, false, false, 0, 0⟩,
 ⟨⟨.move, [.tmp 0], (some 50), none⟩, false, false, 0, 0⟩,
 ⟨⟨.move, [.tmp 3], (some 51), none⟩, false, false, 0, 0⟩,
 ⟨⟨.move, [.tmp 11], (some 52), none⟩, false, false, 0, 0⟩,
 ⟨⟨(.bin .add), [.tmp 51, .tmp 52], (some 53), none⟩, false, false, 0, 0⟩,
 ⟨⟨(.indexAddrS 1), [.tmp 50, .tmp 53], (some 54), none⟩, false, false, 0, 0⟩,
 ⟨⟨(.load false 1), [.tmp 54], (some 55), none⟩, false, false, 0, 0⟩,
 ⟨⟨.callV, [.tmp 43, .tmp 49, .tmp 55], (some 56), none⟩, true, false, 0, 1⟩,
 ⟨⟨(.bin .lss), [.tmp 56, .const (.int .i64 0)], (some 57), none⟩, false, false, 1, 1⟩,
 ⟨⟨.not, [.tmp 57], (some 58), none⟩, false, false, 1, 1⟩])
 (.cond (.tmp 58) .ret
 .skip))
 (.seq (.drawR [⟨⟨.move, [.tmp 0], (some 59), none⟩, false, false, 0, 0⟩,
 ⟨⟨.move, [.tmp 3], (some 60), none⟩, false, false, 0, 0⟩,
 ⟨⟨.move, [.tmp 10], (some 61), none⟩, false, false, 0, 0⟩,
 ⟨⟨(.bin .add), [.tmp 60, .tmp 61], (some 62), none⟩, false, false, 0, 0⟩,
 ⟨⟨.move, [.tmp 0], (some 63), none⟩, false, false, 0, 1⟩,
 ⟨⟨.move, [.tmp 3], (some 64), none⟩, false, false, 0, 1⟩,
 ⟨⟨.move, [.tmp 11], (some 65), none⟩, false, false, 0, 1⟩,
 ⟨⟨(.bin .add), [.tmp 64, .tmp 65], (some 66), none⟩, false, false, 0, 1⟩,
 ⟨⟨.move, [.tmp 0], (some 67), none⟩, false, false, 0, 0⟩,
 ⟨⟨.move, [.tmp 3], (some 68), none⟩, false, false, 0, 0⟩,
 ⟨⟨.move, [.tmp 11], (some 69), none⟩, false, false, 0, 0⟩,
 ⟨⟨(.bin .add), [.tmp 68, .tmp 69], (some 70), none⟩, false, false, 0, 0⟩,
 ⟨⟨(.indexAddrS 1), [.tmp 67, .tmp 70], (some 71), none⟩, false, false, 0, 0⟩,
 ⟨⟨(.load false 1), [.tmp 71], (some 72), none⟩, false, false, 0, 0⟩,
 ⟨⟨.move, [.tmp 0], (some 73), none⟩, false, false, 0, 0⟩,
 ⟨⟨.move, [.tmp 3], (some 74), none⟩, false, false, 0, 0⟩,
 ⟨⟨.move, [.tmp 10], (some 75), none⟩, false, false, 0, 0⟩,
 ⟨⟨(.bin .add), [.tmp 74, .tmp 75], (some 76), none⟩, false, false, 0, 0⟩,
 ⟨⟨(.indexAddrS 1), [.tmp 73, .tmp 76], (some 77), none⟩, false, false, 0, 0⟩,
 ⟨⟨(.load false 1), [.tmp 77], (some 78), none⟩, false, false, 0, 0⟩,
 ⟨⟨(.indexAddrS 1), [.tmp 59, .tmp 62], (some 79), none⟩, false, false, 0, 0⟩,
 ⟨⟨(.store 1), [.tmp 79, .tmp 72], none, none⟩, true, false, 0, 1⟩,
 ⟨⟨(.indexAddrS 1), [.tmp 63, .tmp 66], (some 80), none⟩, false, false, 1, 1⟩,
 ⟨⟨(.store 1), [.tmp 80, .tmp 78], none, none⟩, true, false, 1, 2⟩])
 (.seqR [⟨.move, [.tmp 11], (some 81), none⟩,
 ⟨.move, [.tmp 81], (some 10), none⟩])))))))))), []⟩
theorem c176_ok : compFunc Try.prog Try.f176 = some c176 := by kernel_rfl
theorem c176_body : hasBody Try.prog 176 = true := hasBody_of Try.func176 (by kernel_rfl)
/-- slices.medianAdjacentCmpFunc[*coachyard/timer.entry] -/
def c177 : PFn := ⟨18, Tr.ofList (List.replicate 18 undefA), (.seq (.seqR [⟨.move, [.const (.int .i64 0)], (some 8), none⟩])
 (.seq (.seqR [⟨.move, [.tmp 0], (some 9), none⟩,
 ⟨.move, [.tmp 1], (some 10), none⟩,
 ⟨(.bin .sub), [.tmp 10, .const (.int .i64 1)], (some 11), none⟩,
 ⟨.move, [.tmp 1], (some 12), none⟩,
 ⟨.move, [.tmp 1], (some 13), none⟩,
 ⟨(.bin .add), [.tmp 13, .const (.int .i64 1)], (some 14), none⟩,
 ⟨.move, [.tmp 2], (some 15), none⟩,
 ⟨.move, [.tmp 3], (some 16), none⟩,
 ⟨(.callF 178), [.tmp 9, .tmp 11, .tmp 12, .tmp 14, .tmp 15, .tmp 16], (some 17), none⟩,
 ⟨.move, [.tmp 17], (some 8), none⟩])
 .ret)), [.tmp 8]⟩
theorem c177_ok : compFunc Try.prog Try.f177 = some c177 := by kernel_rfl
theorem c177_body : hasBody Try.prog 177 = true := hasBody_of Try.func177 (by kernel_rfl)
/-- slices.medianCmpFunc[*coachyard/timer.entry] -/
def c178 : PFn := ⟨41, Tr.ofList (List.replicate 41 undefA), (.seq (.seqR [⟨.move, [.const (.int .i64 0)], (some 12), none⟩])
 (.seq (.seqR [⟨.move, [.tmp 0], (some 14), none⟩,
 ⟨.move, [.tmp 1], (some 15), none⟩,
 ⟨.move, [.tmp 2], (some 16), none⟩,
 ⟨.move, [.tmp 4], (some 17), none⟩,
 ⟨.move, [.tmp 5], (some 18), none⟩,
 ⟨(.callF 179), [.tmp 14, .tmp 15, .tmp 16, .tmp 17, .tmp 18], (some 19), none⟩,
 ⟨.move, [.tmp 19], (some 13), none⟩,
 ⟨(.extract 0), [.tmp 13], (some 20), none⟩,
 ⟨(.extract 1), [.tmp 13], (some 21), none⟩,
 ⟨.move, [.tmp 20], (some 1), none⟩,
 ⟨.move, [.tmp 21], (some 2), none⟩])
 (.seq (.seqR [⟨.move, [.tmp 0], (some 23), none⟩,
 ⟨.move, [.tmp 2], (some 24), none⟩,
 ⟨.move, [.tmp 3], (some 25), none⟩,
 ⟨.move, [.tmp 4], (some 26), none⟩,
 ⟨.move, [.tmp 5], (some 27), none⟩,
 ⟨(.callF 179), [.tmp 23, .tmp 24, .tmp 25, .tmp 26, .tmp 27], (some 28), none⟩,
 ⟨.move, [.tmp 28], (some 22), none⟩,
 ⟨(.extract 0), [.tmp 22], (some 29), none⟩,
 ⟨(.extract 1), [.tmp 22], (some 30), none⟩,
 ⟨.move, [.tmp 29], (some 2), none⟩,
 ⟨.move, [.tmp 30], (some 3), none⟩])
 (.seq (.seqR [⟨.move, [.tmp 0], (some 32), none⟩,
 ⟨.move, [.tmp 1], (some 33), none⟩,
 ⟨.move, [.tmp 2], (some 34), none⟩,
 ⟨.move, [.tmp 4], (some 35), none⟩,
 ⟨.move, [.tmp 5], (some 36), none⟩,
 ⟨(.callF 179), [.tmp 32, .tmp 33, .tmp 34, .tmp 35, .tmp 36], (some 37), none⟩,
 ⟨.move, [.tmp 37], (some 31), none⟩,
 ⟨(.extract 0), [.tmp 31], (some 38), none⟩,
 ⟨(.extract 1), [.tmp 31], (some 39), none⟩,
 ⟨.move, [.tmp 38], (some 1), none⟩,
 ⟨.move, [.tmp 39], (some 2), none⟩])
 (.seq (.seqR [⟨.move, [.tmp 2], (some 40), none⟩,
 ⟨.move, [.tmp 40], (some 12), none⟩])
 .ret))))), [.tmp 12]⟩
theorem c178_ok : compFunc Try.prog Try.f178 = some c178 := by kernel_rfl
theorem c178_body : hasBody Try.prog 178 = true := hasBody_of Try.func178 (by kernel_rfl)
/-- slices.order2CmpFunc[*coachyard/timer.entry] -/
def c179 : PFn := ⟨32, Tr.ofList (List.replicate 32 undefA), (.seq (.seqR [⟨.move, [.const (.int .i64 0)], (some 10), none⟩,
 ⟨.move, [.const (.int .i64 0)], (some 11), none⟩])
 (.seq (.seq (.drawR [⟨⟨.move, [.tmp 4], (some 12), none⟩, false, false, 0, 0⟩,
 ⟨⟨.move, [.tmp 0], (some 13), none⟩, false, false, 0, 0⟩,
 ⟨⟨.move, [.tmp 2], (some 14), none⟩, false, false, 0, 0⟩,
 ⟨⟨(.indexAddrS 1), [.tmp 13, .tmp 14], (some 15), none⟩, false, false, 0, 0⟩,
 ⟨⟨(.load false 1), [.tmp 15], (some 16), none⟩, false, false, 0, 0⟩,
 ⟨⟨.move, [.tmp 0], (some 17), none⟩, false, false, 0, 0⟩,
 ⟨⟨.move, [.tmp 1], (some 18), none⟩, false, false, 0, 0⟩,
 ⟨⟨(.indexAddrS 1), [.tmp 17, .tmp 18], (some 19), none⟩, false, false, 0, 0⟩,
 ⟨⟨(.load false 1), [.tmp 19], (some 20), none⟩, false, false, 0, 0⟩,
 ⟨⟨.callV, [.tmp 12, .tmp 16, .tmp 20], (some 21), none⟩, true, false, 0, 1⟩,
 ⟨⟨(.bin .lss), [.tmp 21, .const (.int .i64 0)], (some 22), none⟩, false, false, 1, 1⟩])
 (.cond (.tmp 22) (.seq (.seqR [⟨.move, [.tmp 3], (some 23), none⟩,
 ⟨.nilCheck, [.tmp 23], (some 24), none⟩,
 ⟨(.load false 1), [.tmp 24], (some 25), none⟩,
 ⟨(.bin .add), [.tmp 25, .const (.int .i64 1)], (some 26), none⟩,
 ⟨.nilCheck, [.tmp 23], (some 27), none⟩,
 ⟨(.store 1), [.tmp 27, .tmp 26], none, none⟩])
 (.seq (.seqR [⟨.move, [.tmp 2], (some 28), none⟩,
 ⟨.move, [.tmp 1], (some 29), none⟩,
 ⟨.move, [.tmp 28], (some 10), none⟩,
 ⟨.move, [.tmp 29], (some 11), none⟩])
 .ret))
 .skip))
 (.seq (.seqR [⟨.move, [.tmp 1], (some 30), none⟩,
 ⟨.move, [.tmp 2], (some 31), none⟩,
 ⟨.move, [.tmp 30], (some 10), none⟩,
 ⟨.move, [.tmp 31], (some 11), none⟩])
 .ret))), [.tmp 10, .tmp 11]⟩
theorem c179_ok : compFunc Try.prog Try.f179 = some c179 := by kernel_rfl
theorem c179_body : hasBody Try.prog 179 = true := hasBody_of Try.func179 (by kernel_rfl)
/-- (coachyard/deque.Row).All -/
def c189 : PFn := ⟨68, Tr.ofList (List.replicate 68 undefA), (.seq (.seqR [⟨.box, [.tmp 0], (some 2), none⟩,
 ⟨.move, [.const (.slice none 0 0 false)], (some 4), none⟩,
 ⟨.move, [.const (.int .i64 0)], (some 5), none⟩])
 (.seq (.block 0 (.seq (.seqR [⟨.move, [.tmp 1], (some 12), none⟩,
 ⟨(.eqPtr false), [.tmp 12, .const (.ptr none)], (some 13), none⟩,
 ⟨.move, [.tmp 13], (some 11), none⟩])
 (.cond (.tmp 11) (.seq (.seqR [⟨.move, [.const (.slice none 0 0 false)], (some 4), none⟩,
 ⟨.move, [.const (.int .i64 1)], (some 5), none⟩])
 .ret)
 (.seq (.seqR [⟨(.load true 2), [.tmp 2], (some 15), none⟩,
 ⟨(.callF 192), [.tmp 15], (some 16), none⟩,
 ⟨.not, [.tmp 16], (some 17), none⟩,
 ⟨.move, [.tmp 17], (some 14), none⟩])
 (.cond (.tmp 14) (.seq (.seqR [⟨.move, [.const (.slice none 0 0 false)], (some 4), none⟩,
 ⟨.move, [.const (.int .i64 2)], (some 5), none⟩])
 .ret)
 (.seq (.drawR [⟨⟨.move, [.tmp 1], (some 19), none⟩, false, false, 0, 0⟩,
 ⟨⟨(.callF 85), [.tmp 19], (some 20), none⟩, true, false, 0, 1⟩,
 ⟨⟨(.fieldAddr 0), [.tmp 2], (some 21), none⟩, false, false, 0, 1⟩,
 ⟨⟨(.load false 1), [.tmp 21], (some 22), none⟩, false, false, 0, 1⟩,
 ⟨⟨(.fieldAddr 1), [.tmp 2], (some 23), none⟩, false, false, 0, 1⟩,
 ⟨⟨(.load false 1), [.tmp 23], (some 24), none⟩, false, false, 0, 1⟩,
 ⟨⟨(.bin .add), [.tmp 22, .tmp 24], (some 25), none⟩, false, false, 0, 1⟩,
 ⟨⟨(.bin .add), [.tmp 25, .const (.int .i64 1)], (some 26), none⟩, false, false, 0, 1⟩,
 ⟨⟨(.bin .leq), [.tmp 20, .tmp 26], (some 27), none⟩, false, false, 1, 1⟩,
 ⟨⟨.move, [.tmp 27], (some 18), none⟩, false, false, 1, 1⟩])
 (.cond (.tmp 18) (.seq (.seqR [⟨.move, [.const (.slice none 0 0 false)], (some 4), none⟩,
 ⟨.move, [.const (.int .i64 3)], (some 5), none⟩])
 .ret)
 .skip)))))))
 (.seq (.seqR [⟨.move, [.tmp 1], (some 28), none⟩,
 ⟨(.callF 86), [.tmp 28], (some 29), none⟩,
 ⟨.move, [.tmp 29], (some 6), none⟩])
 (.seq (.drawR [⟨⟨.move, [.tmp 6], (some 30), none⟩, false, false, 0, 0⟩,
 ⟨⟨(.fieldAddr 0), [.tmp 2], (some 31), none⟩, false, false, 0, 0⟩,
 ⟨⟨(.load false 1), [.tmp 31], (some 32), none⟩, false, false, 0, 0⟩,
 ⟨⟨(.indexAddrS 1), [.tmp 30, .tmp 32], (some 33), none⟩, false, false, 0, 0⟩,
 ⟨⟨(.load false 1), [.tmp 33], (some 34), none⟩, false, false, 0, 0⟩,
 ⟨⟨.move, [.tmp 6], (some 35), none⟩, false, false, 0, 0⟩,
 ⟨⟨(.fieldAddr 0), [.tmp 2], (some 36), none⟩, false, false, 0, 0⟩,
 ⟨⟨(.load false 1), [.tmp 36], (some 37), none⟩, false, false, 0, 0⟩,
 ⟨⟨(.bin .add), [.tmp 37, .const (.int .i64 1)], (some 38), none⟩, false, false, 0, 0⟩,
 ⟨⟨(.indexAddrS 1), [.tmp 35, .tmp 38], (some 39), none⟩, false, false, 0, 0⟩,
 ⟨⟨(.load false 1), [.tmp 39], (some 40), none⟩, false, false, 0, 0⟩,
 ⟨⟨.move, [.tmp 34], (some 7), none⟩, false, false, 0, 0⟩,
 ⟨⟨.move, [.tmp 40], (some 8), none⟩, false, false, 0, 0⟩])
 (.seq (.seqR [⟨.move, [.tmp 8], (some 41), none⟩,
 ⟨.move, [.tmp 7], (some 42), none⟩,
 ⟨(.callF 193), [.tmp 41, .tmp 42], (some 43), none⟩,
 ⟨.move, [.tmp 43], (some 9), none⟩])
 (.seq (.seq (.seqR [⟨.move, [.tmp 9], (some 44), none⟩,
 ⟨(.bin .lss), [.tmp 44, .const (.int .i64 (-1))], (some 45), none⟩,
 ⟨.move, [.tmp 45], (some 46), none⟩,
 ⟨.move, [.tmp 9], (some 47), some (46, false)⟩,
 ⟨(.fieldAddr 1), [.tmp 2], (some 48), some (46, false)⟩,
 ⟨(.load false 1), [.tmp 48], (some 49), some (46, false)⟩,
 ⟨(.bin .gtr), [.tmp 47, .tmp 49], (some 50), some (46, false)⟩,
 ⟨.pick, [.tmp 46, .const (.bool true), .tmp 50], (some 51), none⟩])
 (.cond (.tmp 51) (.seq (.seqR [⟨.move, [.const (.slice none 0 0 false)], (some 4), none⟩,
 ⟨.move, [.const (.int .i64 9)], (some 5), none⟩])
 .ret)
 .skip))
 (.seq (.seqR [⟨.move, [.const (.slice none 0 0 false)], (some 10), none⟩])
 (.seq (.block 1 (.loop (.seq (.seq (.seqR [⟨.move, [.tmp 9], (some 52), none⟩,
 ⟨(.bin .gtr), [.tmp 52, .const (.int .i64 0)], (some 53), none⟩])
 (.cond (.tmp 53) .skip
 (.exit 1)))
 (.seq (.block 2 (.seq (.seqR [⟨.move, [.tmp 10], (some 56), none⟩,
 ⟨.move, [.tmp 6], (some 57), none⟩,
 ⟨(.load true 2), [.tmp 2], (some 58), none⟩,
 ⟨.move, [.tmp 7], (some 59), none⟩,
 ⟨(.callF 194), [.tmp 58, .tmp 59], (some 60), none⟩,
 ⟨(.indexAddrS 1), [.tmp 57, .tmp 60], (some 61), none⟩,
 ⟨(.load false 1), [.tmp 61], (some 62), none⟩,
 ⟨(.sliceLit 1 [(.int .u64 0)] [(0, 1)]), [.tmp 62], (some 63), none⟩,
 ⟨(.append 1 8), [.tmp 56, .tmp 63], (some 64), none⟩,
 ⟨.move, [.tmp 64], (some 10), none⟩])
 (.seqR [⟨.move, [.tmp 7], (some 65), none⟩,
 ⟨(.bin .add), [.tmp 65, .const (.int .u64 1)], (some 66), none⟩,
 ⟨.move, [.tmp 66], (some 7), none⟩])))
 (.seqR [⟨.move, [.tmp 9], (some 54), none⟩,
 ⟨(.bin .sub), [.tmp 54, .const (.int .i64 1)], (some 55), none⟩,
 ⟨.move, [.tmp 55], (some 9), none⟩])))))
 (.seq (.seqR [⟨.move, [.tmp 10], (some 67), none⟩,
 ⟨.move, [.tmp 67], (some 4), none⟩,
 ⟨.move, [.const (.int .i64 0)], (some 5), none⟩])
 .ret))))))))), [.tmp 4, .tmp 5]⟩
theorem c189_ok : compFunc Try.prog Try.f189 = some c189 := by kernel_rfl
theorem c189_body : hasBody Try.prog 189 = true := hasBody_of Try.func189 (by kernel_rfl)
end Go.Proofs.Ytbgjoakkoajmoab
