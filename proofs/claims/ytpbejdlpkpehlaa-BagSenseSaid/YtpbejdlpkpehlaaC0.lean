/- The code of the small machine for some of the program's functions: printed by program; each is what the rules make of the program's own. -/
import Derived.Test.YtpbejdlpkpehlaaVx16
import Derived.Test.YtpbejdlpkpehlaaProg
import Derived.KernelRfl
namespace Go.Proofs.Ytpbejdlpkpehlaa
open Go Go.Vx Go.Proofs
/-- coachyard/coachyardlaw16.BagSense -/
def c3 : PFn := ⟨26, Tr.ofList (List.replicate 26 undefA), (.seq (.seqR [⟨.move, [.const (.bool false)], (some 2), none⟩])
 (.seq (.seq (.seqR [⟨(.callF 6), [], (some 6), none⟩,
 ⟨.not, [.tmp 6], (some 7), none⟩])
 (.cond (.tmp 7) (.seq (.seqR [⟨.move, [.const (.bool false)], (some 2), none⟩])
 .ret)
 .skip))
 (.seq (.seq (.seqR [⟨.move, [.tmp 0], (some 8), none⟩,
 ⟨(.callF 7), [.tmp 8, .const (.int .i64 60)], (some 9), none⟩])
 (.cond (.tmp 9) (.seq (.seqR [⟨.move, [.const (.bool true)], (some 2), none⟩])
 .ret)
 .skip))
 (.seq (.seqR [⟨.move, [.tmp 0], (some 11), none⟩,
 ⟨(.callF 8), [.tmp 11], (some 12), none⟩,
 ⟨.move, [.tmp 12], (some 10), none⟩,
 ⟨(.extract 0), [.tmp 10], (some 13), none⟩,
 ⟨(.extract 1), [.tmp 10], (some 14), none⟩,
 ⟨.move, [.tmp 13], (some 3), none⟩,
 ⟨.move, [.tmp 14], (some 4), none⟩])
 (.seq (.seqR [⟨.move, [.tmp 0], (some 15), none⟩,
 ⟨(.callF 9), [.tmp 15], (some 16), none⟩,
 ⟨.move, [.tmp 16], (some 5), none⟩])
 (.seq (.seqR [⟨.move, [.tmp 3], (some 17), none⟩,
 ⟨.move, [.tmp 5], (some 18), none⟩,
 ⟨(.bin .eql), [.tmp 17, .tmp 18], (some 19), none⟩,
 ⟨.move, [.tmp 19], (some 20), none⟩,
 ⟨.move, [.tmp 4], (some 21), some (20, true)⟩,
 ⟨.move, [.tmp 5], (some 22), some (20, true)⟩,
 ⟨(.bin .lss), [.tmp 22, .const (.int .i64 0)], (some 23), some (20, true)⟩,
 ⟨(.eqBool false), [.tmp 21, .tmp 23], (some 24), some (20, true)⟩,
 ⟨.pick, [.tmp 20, .tmp 24, .const (.bool false)], (some 25), none⟩,
 ⟨.move, [.tmp 25], (some 2), none⟩])
 .ret)))))), [.tmp 2]⟩
theorem c3_ok : compFunc Try.prog Try.f3 = some c3 := by kernel_rfl
theorem c3_body : hasBody Try.prog 3 = true := hasBody_of Try.func3 (by kernel_rfl)
/-- coachyard/coachyardlaw16.BagMore -/
def c4 : PFn := ⟨118, Tr.ofList (List.replicate 118 undefA), (.seq (.seqR [⟨.box, [.tmp 1], (some 4), none⟩,
 ⟨.move, [.const (.bool false)], (some 6), none⟩])
 (.seq (.seq (.seqR [⟨(.callF 6), [], (some 13), none⟩,
 ⟨.not, [.tmp 13], (some 14), none⟩])
 (.cond (.tmp 14) (.seq (.seqR [⟨.move, [.const (.bool false)], (some 6), none⟩])
 .ret)
 .skip))
 (.seq (.seq (.seqR [⟨.move, [.tmp 0], (some 15), none⟩,
 ⟨(.callF 7), [.tmp 15, .const (.int .i64 40)], (some 16), none⟩,
 ⟨.move, [.tmp 16], (some 17), none⟩,
 ⟨(.fieldAddr 4), [.tmp 4], (some 18), some (17, false)⟩,
 ⟨(.fieldAddr 2), [.tmp 18], (some 19), some (17, false)⟩,
 ⟨(.load false 1), [.tmp 19], (some 20), some (17, false)⟩,
 ⟨.lenS, [.tmp 20], (some 21), some (17, false)⟩,
 ⟨(.bin .gtr), [.tmp 21, .const (.int .i64 100)], (some 22), some (17, false)⟩,
 ⟨.pick, [.tmp 17, .const (.bool true), .tmp 22], (some 23), none⟩,
 ⟨.move, [.tmp 23], (some 24), none⟩,
 ⟨(.fieldAddr 7), [.tmp 4], (some 25), some (24, false)⟩,
 ⟨(.fieldAddr 2), [.tmp 25], (some 26), some (24, false)⟩,
 ⟨(.load false 1), [.tmp 26], (some 27), some (24, false)⟩,
 ⟨.lenS, [.tmp 27], (some 28), some (24, false)⟩,
 ⟨(.bin .gtr), [.tmp 28, .const (.int .i64 100)], (some 29), some (24, false)⟩,
 ⟨.pick, [.tmp 24, .const (.bool true), .tmp 29], (some 30), none⟩,
 ⟨.move, [.tmp 30], (some 31), none⟩,
 ⟨.move, [.tmp 2], (some 32), some (31, false)⟩,
 ⟨(.bin .lss), [.tmp 32, .const (.int .i64 0)], (some 33), some (31, false)⟩,
 ⟨.pick, [.tmp 31, .const (.bool true), .tmp 33], (some 34), none⟩,
 ⟨.move, [.tmp 34], (some 35), none⟩,
 ⟨.move, [.tmp 2], (some 36), some (35, false)⟩,
 ⟨.move, [.tmp 0], (some 37), some (35, false)⟩,
 ⟨.lenS, [.tmp 37], (some 38), some (35, false)⟩,
 ⟨(.bin .geq), [.tmp 36, .tmp 38], (some 39), some (35, false)⟩,
 ⟨.pick, [.tmp 35, .const (.bool true), .tmp 39], (some 40), none⟩])
 (.cond (.tmp 40) (.seq (.seqR [⟨.move, [.const (.bool true)], (some 6), none⟩])
 .ret)
 .skip))
 (.seq (.drawR [⟨⟨(.sliceLit 0 [] []), [], (some 41), none⟩, true, false, 0, 1⟩,
 ⟨⟨.move, [.tmp 0], (some 42), none⟩, false, false, 0, 1⟩,
 ⟨⟨.move, [.tmp 2], (some 43), none⟩, false, false, 0, 1⟩,
 ⟨⟨(.slice 10 false true false), [.tmp 42, .tmp 43], (some 44), none⟩, false, false, 0, 1⟩,
 ⟨⟨(.append 10 112), [.tmp 41, .tmp 44], (some 45), none⟩, true, false, 1, 2⟩,
 ⟨⟨.move, [.tmp 0], (some 46), none⟩, false, false, 0, 2⟩,
 ⟨⟨.move, [.tmp 2], (some 47), none⟩, false, false, 0, 2⟩,
 ⟨⟨(.bin .add), [.tmp 47, .const (.int .i64 1)], (some 48), none⟩, false, false, 0, 2⟩,
 ⟨⟨(.slice 10 true false false), [.tmp 46, .tmp 48], (some 49), none⟩, false, false, 0, 2⟩,
 ⟨⟨(.append 10 112), [.tmp 45, .tmp 49], (some 50), none⟩, true, false, 2, 3⟩,
 ⟨⟨.move, [.tmp 50], (some 7), none⟩, false, false, 3, 3⟩])
 (.seq (.seqR [⟨(.fieldAddr 4), [.tmp 4], (some 51), none⟩,
 ⟨(.fieldAddr 0), [.tmp 51], (some 52), none⟩,
 ⟨(.store 1), [.tmp 52, .const (.int .i64 1)], none, none⟩])
 (.seq (.seq (.seqR [⟨.move, [.tmp 0], (some 53), none⟩,
 ⟨(.callF 10), [.tmp 53], (some 54), none⟩])
 (.cond (.tmp 54) (.seq .fail
 (.cond (.tmp 74) (.seq (.seqR [⟨.move, [.const (.bool false)], (some 6), none⟩])
 .ret)
 .skip))
 .skip))
 (.seq (.seqR [⟨.move, [.tmp 0], (some 76), none⟩,
 ⟨(.callF 8), [.tmp 76], (some 77), none⟩,
 ⟨.move, [.tmp 77], (some 75), none⟩,
 ⟨(.extract 0), [.tmp 75], (some 78), none⟩,
 ⟨(.extract 1), [.tmp 75], (some 79), none⟩,
 ⟨.move, [.tmp 78], (some 8), none⟩,
 ⟨.move, [.tmp 79], (some 9), none⟩])
 (.seq (.seqR [⟨.move, [.tmp 7], (some 81), none⟩,
 ⟨(.callF 8), [.tmp 81], (some 82), none⟩,
 ⟨.move, [.tmp 82], (some 80), none⟩,
 ⟨(.extract 0), [.tmp 80], (some 83), none⟩,
 ⟨(.extract 1), [.tmp 80], (some 84), none⟩,
 ⟨.move, [.tmp 83], (some 10), none⟩,
 ⟨.move, [.tmp 84], (some 11), none⟩])
 (.seq (.seqR [⟨.move, [.tmp 0], (some 85), none⟩,
 ⟨.move, [.tmp 2], (some 86), none⟩,
 ⟨(.indexAddrS 10), [.tmp 85, .tmp 86], (some 87), none⟩,
 ⟨(.fieldAddr 4), [.tmp 87], (some 88), none⟩,
 ⟨(.fieldAddr 0), [.tmp 88], (some 89), none⟩,
 ⟨(.load false 1), [.tmp 89], (some 90), none⟩,
 ⟨(.bin .eql), [.tmp 90, .const (.int .i64 2)], (some 91), none⟩,
 ⟨.move, [.tmp 91], (some 92), none⟩,
 ⟨.move, [.tmp 0], (some 93), some (92, true)⟩,
 ⟨.move, [.tmp 2], (some 94), some (92, true)⟩,
 ⟨(.indexAddrS 10), [.tmp 93, .tmp 94], (some 95), some (92, true)⟩,
 ⟨(.fieldAddr 3), [.tmp 95], (some 96), some (92, true)⟩,
 ⟨(.load false 1), [.tmp 96], (some 97), some (92, true)⟩,
 ⟨(.bin .geq), [.tmp 97, .const (.int .i64 0)], (some 98), some (92, true)⟩,
 ⟨.pick, [.tmp 92, .tmp 98, .const (.bool false)], (some 99), none⟩,
 ⟨.move, [.tmp 99], (some 100), none⟩,
 ⟨.move, [.tmp 0], (some 101), some (100, true)⟩,
 ⟨.move, [.tmp 2], (some 102), some (100, true)⟩,
 ⟨(.indexAddrS 10), [.tmp 101, .tmp 102], (some 103), some (100, true)⟩,
 ⟨(.fieldAddr 7), [.tmp 103], (some 104), some (100, true)⟩,
 ⟨(.fieldAddr 0), [.tmp 104], (some 105), some (100, true)⟩,
 ⟨(.load false 1), [.tmp 105], (some 106), some (100, true)⟩,
 ⟨(.bin .eql), [.tmp 106, .const (.int .i64 5)], (some 107), some (100, true)⟩,
 ⟨.pick, [.tmp 100, .tmp 107, .const (.bool false)], (some 108), none⟩,
 ⟨.move, [.tmp 108], (some 12), none⟩])
 (.seq (.seqR [⟨.move, [.tmp 9], (some 109), none⟩,
 ⟨.not, [.tmp 109], (some 110), none⟩,
 ⟨.move, [.tmp 110], (some 111), none⟩,
 ⟨.move, [.tmp 12], (some 112), some (111, false)⟩,
 ⟨.not, [.tmp 112], (some 113), some (111, false)⟩,
 ⟨.pick, [.tmp 111, .const (.bool true), .tmp 113], (some 114), none⟩,
 ⟨.move, [.tmp 114], (some 115), none⟩,
 ⟨.move, [.tmp 11], (some 116), some (115, false)⟩,
 ⟨.pick, [.tmp 115, .const (.bool true), .tmp 116], (some 117), none⟩,
 ⟨.move, [.tmp 117], (some 6), none⟩])
 .ret)))))))))), [.tmp 6]⟩
theorem c4_ok : compFunc Try.prog Try.f4 = some c4 := by kernel_rfl
theorem c4_body : hasBody Try.prog 4 = true := hasBody_of Try.func4 (by kernel_rfl)
/-- coachyard/coachyardlaw16.BagOrders -/
def c5 : PFn := ⟨146, Tr.ofList (List.replicate 146 undefA), (.seq (.seqR [⟨.move, [.const (.bool false)], (some 2), none⟩])
 (.seq (.seq (.seqR [⟨(.callF 6), [], (some 14), none⟩,
 ⟨.not, [.tmp 14], (some 15), none⟩])
 (.cond (.tmp 15) (.seq (.seqR [⟨.move, [.const (.bool false)], (some 2), none⟩])
 .ret)
 .skip))
 (.seq (.seq (.seqR [⟨.move, [.tmp 0], (some 16), none⟩,
 ⟨(.callF 7), [.tmp 16, .const (.int .i64 60)], (some 17), none⟩])
 (.cond (.tmp 17) (.seq (.seqR [⟨.move, [.const (.bool true)], (some 2), none⟩])
 .ret)
 .skip))
 (.seq (.seqR [⟨.move, [.tmp 0], (some 19), none⟩,
 ⟨(.callF 12), [.tmp 19], (some 20), none⟩,
 ⟨.move, [.tmp 20], (some 18), none⟩,
 ⟨(.extract 0), [.tmp 18], (some 21), none⟩,
 ⟨(.extract 1), [.tmp 18], (some 22), none⟩,
 ⟨.move, [.tmp 21], (some 3), none⟩,
 ⟨.move, [.tmp 22], (some 4), none⟩])
 (.seq (.seqR [⟨.move, [.tmp 0], (some 24), none⟩,
 ⟨(.callF 13), [.tmp 24], (some 25), none⟩,
 ⟨.move, [.tmp 25], (some 23), none⟩,
 ⟨(.extract 0), [.tmp 23], (some 26), none⟩,
 ⟨(.extract 1), [.tmp 23], (some 27), none⟩,
 ⟨.move, [.tmp 26], (some 5), none⟩,
 ⟨.move, [.tmp 27], (some 6), none⟩])
 (.seq (.seq (.seqR [⟨.move, [.tmp 4], (some 28), none⟩,
 ⟨.move, [.tmp 6], (some 29), none⟩,
 ⟨(.bin .neq), [.tmp 28, .tmp 29], (some 30), none⟩])
 (.cond (.tmp 30) (.seq (.seqR [⟨.move, [.const (.bool false)], (some 2), none⟩])
 .ret)
 .skip))
 (.seq (.seq (.seqR [⟨.move, [.tmp 4], (some 31), none⟩,
 ⟨(.bin .neq), [.tmp 31, .const (.int .i64 0)], (some 32), none⟩])
 (.cond (.tmp 32) (.seq (.seqR [⟨.move, [.tmp 4], (some 33), none⟩,
 ⟨(.bin .eql), [.tmp 33, .const (.int .i64 13)], (some 34), none⟩,
 ⟨.move, [.tmp 34], (some 2), none⟩])
 .ret)
 .skip))
 (.seq (.seqR [⟨.makeMap, [], (some 35), none⟩,
 ⟨.move, [.tmp 35], (some 7), none⟩])
 (.seq (.seqR [⟨.move, [.tmp 0], (some 36), none⟩,
 ⟨.lenS, [.tmp 36], (some 37), none⟩,
 ⟨(.makeSlice 1 1 [(.bool false)]), [.tmp 37, .tmp 37], (some 38), none⟩,
 ⟨.move, [.tmp 38], (some 8), none⟩])
 (.seq (.seqR [⟨.move, [.const (.int .i64 0)], (some 9), none⟩])
 (.seq (.seq (.seqR [⟨.move, [.const (.int .i64 0)], (some 10), none⟩])
 (.block 0 (.loop (.seq (.seq (.seqR [⟨.move, [.tmp 10], (some 39), none⟩,
 ⟨.move, [.tmp 3], (some 40), none⟩,
 ⟨.lenS, [.tmp 40], (some 41), none⟩,
 ⟨(.bin .lss), [.tmp 39, .tmp 41], (some 42), none⟩])
 (.cond (.tmp 42) .skip
 (.exit 0)))
 (.seq (.block 1 (.seq (.seqR [⟨.move, [.tmp 3], (some 45), none⟩,
 ⟨.move, [.tmp 10], (some 46), none⟩,
 ⟨(.indexAddrS 1), [.tmp 45, .tmp 46], (some 47), none⟩,
 ⟨(.load false 1), [.tmp 47], (some 48), none⟩,
 ⟨.move, [.tmp 48], (some 11), none⟩])
 (.seq (.seq (.seqR [⟨.move, [.tmp 11], (some 49), none⟩,
 ⟨(.bin .lss), [.tmp 49, .const (.int .i64 0)], (some 50), none⟩,
 ⟨.move, [.tmp 50], (some 51), none⟩,
 ⟨.move, [.tmp 11], (some 52), some (51, false)⟩,
 ⟨.move, [.tmp 0], (some 53), some (51, false)⟩,
 ⟨.lenS, [.tmp 53], (some 54), some (51, false)⟩,
 ⟨(.bin .geq), [.tmp 52, .tmp 54], (some 55), some (51, false)⟩,
 ⟨.pick, [.tmp 51, .const (.bool true), .tmp 55], (some 56), none⟩,
 ⟨.move, [.tmp 56], (some 57), none⟩,
 ⟨.move, [.tmp 8], (some 58), some (57, false)⟩,
 ⟨.move, [.tmp 11], (some 59), some (57, false)⟩,
 ⟨(.indexAddrS 1), [.tmp 58, .tmp 59], (some 60), some (57, false)⟩,
 ⟨(.load false 1), [.tmp 60], (some 61), some (57, false)⟩,
 ⟨.pick, [.tmp 57, .const (.bool true), .tmp 61], (some 62), none⟩])
 (.cond (.tmp 62) (.seq (.seqR [⟨.move, [.const (.bool false)], (some 2), none⟩])
 .ret)
 .skip))
 (.seq (.seqR [⟨.move, [.tmp 8], (some 63), none⟩,
 ⟨.move, [.tmp 11], (some 64), none⟩,
 ⟨(.indexAddrS 1), [.tmp 63, .tmp 64], (some 65), none⟩,
 ⟨(.store 1), [.tmp 65, .const (.bool true)], none, none⟩])
 (.seq (.seq (.seqR [⟨.move, [.tmp 0], (some 66), none⟩,
 ⟨.move, [.tmp 11], (some 67), none⟩,
 ⟨(.indexAddrS 10), [.tmp 66, .tmp 67], (some 68), none⟩,
 ⟨(.load true 10), [.tmp 68], (some 69), none⟩,
 ⟨(.callF 14), [.tmp 69], (some 70), none⟩])
 (.cond (.tmp 70) (.seq (.seqR [⟨.move, [.tmp 7], (some 71), none⟩,
 ⟨.move, [.tmp 0], (some 72), none⟩,
 ⟨.move, [.tmp 11], (some 73), none⟩,
 ⟨(.indexAddrS 10), [.tmp 72, .tmp 73], (some 74), none⟩,
 ⟨(.fieldAddr 4), [.tmp 74], (some 75), none⟩,
 ⟨(.fieldAddr 1), [.tmp 75], (some 76), none⟩,
 ⟨(.load false 1), [.tmp 76], (some 77), none⟩,
 ⟨(.lookup 0 false (.int .i64 0)), [.tmp 71, .tmp 77], (some 78), none⟩,
 ⟨(.bin .add), [.tmp 78, .const (.int .i64 1)], (some 79), none⟩,
 ⟨(.mapUpdate 0), [.tmp 71, .tmp 77, .tmp 79], none, none⟩])
 (.seq (.seqR [⟨.move, [.tmp 9], (some 80), none⟩,
 ⟨(.bin .add), [.tmp 80, .const (.int .i64 1)], (some 81), none⟩,
 ⟨.move, [.tmp 81], (some 9), none⟩])
 (.exit 1)))
 .skip))
 (.seq (.seqR [⟨.move, [.tmp 0], (some 82), none⟩,
 ⟨.move, [.tmp 11], (some 83), none⟩,
 ⟨(.indexAddrS 10), [.tmp 82, .tmp 83], (some 84), none⟩,
 ⟨(.fieldAddr 7), [.tmp 84], (some 85), none⟩,
 ⟨(.fieldAddr 1), [.tmp 85], (some 86), none⟩,
 ⟨(.load false 1), [.tmp 86], (some 87), none⟩,
 ⟨.move, [.tmp 87], (some 12), none⟩])
 (.seq (.seqR [⟨.move, [.tmp 7], (some 88), none⟩,
 ⟨.move, [.tmp 12], (some 89), none⟩,
 ⟨(.lookup 0 false (.int .i64 0)), [.tmp 88, .tmp 89], (some 90), none⟩,
 ⟨(.bin .sub), [.tmp 90, .const (.int .i64 1)], (some 91), none⟩,
 ⟨(.mapUpdate 0), [.tmp 88, .tmp 89, .tmp 91], none, none⟩])
 (.seq (.seqR [⟨.move, [.tmp 9], (some 92), none⟩,
 ⟨(.bin .sub), [.tmp 92, .const (.int .i64 1)], (some 93), none⟩,
 ⟨.move, [.tmp 93], (some 9), none⟩])
 (.seq (.seqR [⟨.move, [.tmp 0], (some 94), none⟩,
 ⟨.move, [.tmp 11], (some 95), none⟩,
 ⟨(.indexAddrS 10), [.tmp 94, .tmp 95], (some 96), none⟩,
 ⟨(.load true 10), [.tmp 96], (some 97), none⟩,
 ⟨(.callF 11), [.tmp 97], (some 98), none⟩,
 ⟨.not, [.tmp 98], (some 99), none⟩,
 ⟨.move, [.tmp 99], (some 100), none⟩,
 ⟨.move, [.tmp 7], (some 101), some (100, false)⟩,
 ⟨.move, [.tmp 12], (some 102), some (100, false)⟩,
 ⟨(.lookup 0 false (.int .i64 0)), [.tmp 101, .tmp 102], (some 103), some (100, false)⟩,
 ⟨(.bin .lss), [.tmp 103, .const (.int .i64 0)], (some 104), some (100, false)⟩,
 ⟨.pick, [.tmp 100, .const (.bool true), .tmp 104], (some 105), none⟩])
 (.cond (.tmp 105) (.seq (.seqR [⟨.move, [.const (.bool false)], (some 2), none⟩])
 .ret)
 .skip))))))))))
 (.seqR [⟨.move, [.tmp 10], (some 43), none⟩,
 ⟨(.bin .add), [.tmp 43, .const (.int .i64 1)], (some 44), none⟩,
 ⟨.move, [.tmp 44], (some 10), none⟩]))))))
 (.seq (.seq (.seqR [⟨.move, [.const (.int .i64 0)], (some 13), none⟩])
 (.block 2 (.loop (.seq (.seq (.seqR [⟨.move, [.tmp 13], (some 106), none⟩,
 ⟨.move, [.tmp 5], (some 107), none⟩,
 ⟨.lenS, [.tmp 107], (some 108), none⟩,
 ⟨(.bin .lss), [.tmp 106, .tmp 108], (some 109), none⟩])
 (.cond (.tmp 109) .skip
 (.exit 2)))
 (.seq (.block 3 (.seq (.seqR [⟨.move, [.tmp 7], (some 112), none⟩,
 ⟨.move, [.tmp 5], (some 113), none⟩,
 ⟨.move, [.tmp 13], (some 114), none⟩,
 ⟨(.indexAddrS 1), [.tmp 113, .tmp 114], (some 115), none⟩,
 ⟨(.load false 1), [.tmp 115], (some 116), none⟩,
 ⟨(.lookup 0 false (.int .i64 0)), [.tmp 112, .tmp 116], (some 117), none⟩,
 ⟨(.bin .sub), [.tmp 117, .const (.int .i64 1)], (some 118), none⟩,
 ⟨(.mapUpdate 0), [.tmp 112, .tmp 116, .tmp 118], none, none⟩])
 (.seq (.seqR [⟨.move, [.tmp 9], (some 119), none⟩,
 ⟨(.bin .sub), [.tmp 119, .const (.int .i64 1)], (some 120), none⟩,
 ⟨.move, [.tmp 120], (some 9), none⟩])
 (.seq (.drawR [⟨⟨.move, [.tmp 7], (some 121), none⟩, false, false, 0, 0⟩,
 ⟨⟨.move, [.tmp 5], (some 122), none⟩, false, false, 0, 0⟩,
 ⟨⟨.move, [.tmp 13], (some 123), none⟩, false, false, 0, 0⟩,
 ⟨⟨(.indexAddrS 1), [.tmp 122, .tmp 123], (some 124), none⟩, false, false, 0, 0⟩,
 ⟨⟨(.load false 1), [.tmp 124], (some 125), none⟩, false, false, 0, 0⟩,
 ⟨⟨(.lookup 0 false (.int .i64 0)), [.tmp 121, .tmp 125], (some 126), none⟩, false, false, 0, 0⟩,
 ⟨⟨(.bin .lss), [.tmp 126, .const (.int .i64 0)], (some 127), none⟩, false, false, 0, 0⟩,
 ⟨⟨.move, [.tmp 127], (some 128), none⟩, false, false, 0, 0⟩,
 ⟨⟨.move, [.tmp 13], (some 129), some (128, false)⟩, false, false, 0, 0⟩,
 ⟨⟨(.bin .gtr), [.tmp 129, .const (.int .i64 0)], (some 130), some (128, false)⟩, false, false, 0, 0⟩,
 ⟨⟨.move, [.tmp 130], (some 131), some (128, false)⟩, false, false, 0, 0⟩,
 ⟨⟨.move, [.tmp 5], (some 132), some (131, true)⟩, false, false, 0, 0⟩,
 ⟨⟨.move, [.tmp 13], (some 133), some (131, true)⟩, false, false, 0, 0⟩,
 ⟨⟨(.indexAddrS 1), [.tmp 132, .tmp 133], (some 134), some (131, true)⟩, false, false, 0, 0⟩,
 ⟨⟨(.load false 1), [.tmp 134], (some 135), some (131, true)⟩, false, false, 0, 0⟩,
 ⟨⟨.move, [.tmp 5], (some 136), some (131, true)⟩, false, false, 0, 0⟩,
 ⟨⟨.move, [.tmp 13], (some 137), some (131, true)⟩, false, false, 0, 0⟩,
 ⟨⟨(.bin .sub), [.tmp 137, .const (.int .i64 1)], (some 138), some (131, true)⟩, false, false, 0, 0⟩,
 ⟨⟨(.indexAddrS 1), [.tmp 136, .tmp 138], (some 139), some (131, true)⟩, false, false, 0, 0⟩,
 ⟨⟨(.load false 1), [.tmp 139], (some 140), some (131, true)⟩, false, false, 0, 0⟩,
 ⟨⟨(.bin .lss), [.tmp 135, .tmp 140], (some 141), some (131, true)⟩, false, false, 0, 0⟩,
 ⟨⟨.pick, [.tmp 131, .tmp 141, .const (.bool false)], (some 142), some (128, false)⟩, false, false, 0, 0⟩,
 ⟨⟨.pick, [.tmp 128, .const (.bool true), .tmp 142], (some 143), none⟩, false, false, 0, 0⟩])
 (.cond (.tmp 143) (.seq (.seqR [⟨.move, [.const (.bool false)], (some 2), none⟩])
 .ret)
 .skip)))))
 (.seqR [⟨.move, [.tmp 13], (some 110), none⟩,
 ⟨(.bin .add), [.tmp 110, .const (.int .i64 1)], (some 111), none⟩,
 ⟨.move, [.tmp 111], (some 13), none⟩]))))))
 (.seq (.seqR [⟨.move, [.tmp 9], (some 144), none⟩,
 ⟨(.bin .eql), [.tmp 144, .const (.int .i64 0)], (some 145), none⟩,
 ⟨.move, [.tmp 145], (some 2), none⟩])
 .ret))))))))))))), [.tmp 2]⟩
theorem c5_ok : compFunc Try.prog Try.f5 = some c5 := by kernel_rfl
theorem c5_body : hasBody Try.prog 5 = true := hasBody_of Try.func5 (by kernel_rfl)
/-- coachyard/coachyardlaw16.awake -/
def c6 : PFn := ⟨36, Tr.ofList (List.replicate 36 undefA), (.seq (.seqR [⟨.move, [.const (.bool false)], (some 0), none⟩])
 (.seq (.seqR [⟨(.build [(.int .i64 0), (.int .u64 0), (.slice none 0 0 false)] [(0, 1), (1, 1)]), [.const (.int .i64 1), .const (.int .u64 5)], (some 6), none⟩,
 ⟨(.new [(.int .i64 0), (.int .u64 0), (.slice none 0 0 false)]), [], (some 1), none⟩,
 ⟨(.store 3), [.tmp 1, .tmp 6], none, none⟩])
 (.seq (.seqR [⟨(.build [(.int .i64 0), (.int .u64 0), (.slice none 0 0 false)] [(0, 1)]), [.const (.int .i64 2)], (some 7), none⟩,
 ⟨(.new [(.int .i64 0), (.int .u64 0), (.slice none 0 0 false)]), [], (some 2), none⟩,
 ⟨(.store 3), [.tmp 2, .tmp 7], none, none⟩])
 (.seq (.seqR [⟨(.build [(.int .i64 0), (.int .u64 0), (.slice none 0 0 false)] [(1, 1)]), [.const (.int .u64 5)], (some 8), none⟩,
 ⟨(.new [(.int .i64 0), (.int .u64 0), (.slice none 0 0 false)]), [], (some 3), none⟩,
 ⟨(.store 3), [.tmp 3, .tmp 8], none, none⟩])
 (.seq (.seqR [⟨(.load true 3), [.tmp 1], (some 10), none⟩,
 ⟨(.build [(.int .i64 0), (.int .i64 0), (.int .i64 0), (.int .i64 0), (.int .i64 0), (.int .u64 0), (.slice none 0 0 false), (.int .i64 0), (.int .u64 0), (.slice none 0 0 false)] [(2, 1), (3, 1), (4, 3)]), [.const (.int .i64 0), .const (.int .i64 3), .tmp 10], (some 11), none⟩,
 ⟨(.load true 3), [.tmp 2], (some 12), none⟩,
 ⟨(.load true 3), [.tmp 3], (some 13), none⟩,
 ⟨(.build [(.int .i64 0), (.int .i64 0), (.int .i64 0), (.int .i64 0), (.int .i64 0), (.int .u64 0), (.slice none 0 0 false), (.int .i64 0), (.int .u64 0), (.slice none 0 0 false)] [(2, 1), (3, 1), (4, 3), (7, 3)]), [.const (.int .i64 1), .const (.int .i64 2), .tmp 12, .tmp 13], (some 14), none⟩,
 ⟨(.sliceLit 2 [(.int .i64 0), (.int .i64 0), (.int .i64 0), (.int .i64 0), (.int .i64 0), (.int .u64 0), (.slice none 0 0 false), (.int .i64 0), (.int .u64 0), (.slice none 0 0 false), (.int .i64 0), (.int .i64 0), (.int .i64 0), (.int .i64 0), (.int .i64 0), (.int .u64 0), (.slice none 0 0 false), (.int .i64 0), (.int .u64 0), (.slice none 0 0 false)] [(0, 10), (10, 10)]), [.tmp 11, .tmp 14], (some 15), none⟩,
 ⟨(.callF 12), [.tmp 15], (some 16), none⟩,
 ⟨.move, [.tmp 16], (some 9), none⟩,
 ⟨(.extract 0), [.tmp 9], (some 17), none⟩,
 ⟨(.extract 1), [.tmp 9], (some 18), none⟩,
 ⟨.move, [.tmp 17], (some 4), none⟩,
 ⟨.move, [.tmp 18], (some 5), none⟩])
 (.seq (.seqR [⟨.move, [.tmp 5], (some 19), none⟩,
 ⟨(.bin .eql), [.tmp 19, .const (.int .i64 0)], (some 20), none⟩,
 ⟨.move, [.tmp 20], (some 21), none⟩,
 ⟨.move, [.tmp 4], (some 22), some (21, true)⟩,
 ⟨(.sliceLit 2 [(.int .i64 0), (.int .i64 0)] [(0, 1), (1, 1)]), [.const (.int .i64 0), .const (.int .i64 1)], (some 23), some (21, true)⟩,
 ⟨(.callF 15), [.tmp 22, .tmp 23], (some 24), some (21, true)⟩,
 ⟨.pick, [.tmp 21, .tmp 24, .const (.bool false)], (some 25), none⟩,
 ⟨.move, [.tmp 25], (some 26), none⟩,
 ⟨(.load true 3), [.tmp 2], (some 27), some (26, true)⟩,
 ⟨(.load true 3), [.tmp 3], (some 28), some (26, true)⟩,
 ⟨(.build [(.int .i64 0), (.int .i64 0), (.int .i64 0), (.int .i64 0), (.int .i64 0), (.int .u64 0), (.slice none 0 0 false), (.int .i64 0), (.int .u64 0), (.slice none 0 0 false)] [(2, 1), (3, 1), (4, 3), (7, 3)]), [.const (.int .i64 0), .const (.int .i64 1), .tmp 27, .tmp 28], (some 29), some (26, true)⟩,
 ⟨(.load true 3), [.tmp 1], (some 30), some (26, true)⟩,
 ⟨(.build [(.int .i64 0), (.int .i64 0), (.int .i64 0), (.int .i64 0), (.int .i64 0), (.int .u64 0), (.slice none 0 0 false), (.int .i64 0), (.int .u64 0), (.slice none 0 0 false)] [(2, 1), (3, 1), (4, 3)]), [.const (.int .i64 2), .const (.int .i64 (-1)), .tmp 30], (some 31), some (26, true)⟩,
 ⟨(.sliceLit 2 [(.int .i64 0), (.int .i64 0), (.int .i64 0), (.int .i64 0), (.int .i64 0), (.int .u64 0), (.slice none 0 0 false), (.int .i64 0), (.int .u64 0), (.slice none 0 0 false), (.int .i64 0), (.int .i64 0), (.int .i64 0), (.int .i64 0), (.int .i64 0), (.int .u64 0), (.slice none 0 0 false), (.int .i64 0), (.int .u64 0), (.slice none 0 0 false)] [(0, 10), (10, 10)]), [.tmp 29, .tmp 31], (some 32), some (26, true)⟩,
 ⟨(.callF 10), [.tmp 32], (some 33), some (26, true)⟩,
 ⟨.not, [.tmp 33], (some 34), some (26, true)⟩,
 ⟨.pick, [.tmp 26, .tmp 34, .const (.bool false)], (some 35), none⟩,
 ⟨.move, [.tmp 35], (some 0), none⟩])
 .ret)))))), [.tmp 0]⟩
theorem c6_ok : compFunc Try.prog Try.f6 = some c6 := by kernel_rfl
theorem c6_body : hasBody Try.prog 6 = true := hasBody_of Try.func6 (by kernel_rfl)
/-- coachyard/coachyardref15.Big -/
def c7 : PFn := ⟨34, Tr.ofList (List.replicate 34 undefA), (.seq (.seqR [⟨.move, [.const (.bool false)], (some 4), none⟩])
 (.seq (.seq (.seqR [⟨.move, [.tmp 0], (some 6), none⟩,
 ⟨.lenS, [.tmp 6], (some 7), none⟩,
 ⟨.move, [.tmp 1], (some 8), none⟩,
 ⟨(.bin .gtr), [.tmp 7, .tmp 8], (some 9), none⟩])
 (.cond (.tmp 9) (.seq (.seqR [⟨.move, [.const (.bool true)], (some 4), none⟩])
 .ret)
 .skip))
 (.seq (.seq (.seqR [⟨.move, [.const (.int .i64 0)], (some 5), none⟩])
 (.block 0 (.loop (.seq (.seq (.seqR [⟨.move, [.tmp 5], (some 10), none⟩,
 ⟨.move, [.tmp 0], (some 11), none⟩,
 ⟨.lenS, [.tmp 11], (some 12), none⟩,
 ⟨(.bin .lss), [.tmp 10, .tmp 12], (some 13), none⟩])
 (.cond (.tmp 13) .skip
 (.exit 0)))
 (.seq (.block 1 (.seq (.seqR [⟨.move, [.tmp 0], (some 16), none⟩,
 ⟨.move, [.tmp 5], (some 17), none⟩,
 ⟨(.indexAddrS 10), [.tmp 16, .tmp 17], (some 18), none⟩,
 ⟨(.fieldAddr 4), [.tmp 18], (some 19), none⟩,
 ⟨(.fieldAddr 2), [.tmp 19], (some 20), none⟩,
 ⟨(.load false 1), [.tmp 20], (some 21), none⟩,
 ⟨.lenS, [.tmp 21], (some 22), none⟩,
 ⟨(.bin .gtr), [.tmp 22, .const (.int .i64 100)], (some 23), none⟩,
 ⟨.move, [.tmp 23], (some 24), none⟩,
 ⟨.move, [.tmp 0], (some 25), some (24, false)⟩,
 ⟨.move, [.tmp 5], (some 26), some (24, false)⟩,
 ⟨(.indexAddrS 10), [.tmp 25, .tmp 26], (some 27), some (24, false)⟩,
 ⟨(.fieldAddr 7), [.tmp 27], (some 28), some (24, false)⟩,
 ⟨(.fieldAddr 2), [.tmp 28], (some 29), some (24, false)⟩,
 ⟨(.load false 1), [.tmp 29], (some 30), some (24, false)⟩,
 ⟨.lenS, [.tmp 30], (some 31), some (24, false)⟩,
 ⟨(.bin .gtr), [.tmp 31, .const (.int .i64 100)], (some 32), some (24, false)⟩,
 ⟨.pick, [.tmp 24, .const (.bool true), .tmp 32], (some 33), none⟩])
 (.cond (.tmp 33) (.seq (.seqR [⟨.move, [.const (.bool true)], (some 4), none⟩])
 .ret)
 .skip)))
 (.seqR [⟨.move, [.tmp 5], (some 14), none⟩,
 ⟨(.bin .add), [.tmp 14, .const (.int .i64 1)], (some 15), none⟩,
 ⟨.move, [.tmp 15], (some 5), none⟩]))))))
 (.seq (.seqR [⟨.move, [.const (.bool false)], (some 4), none⟩])
 .ret)))), [.tmp 4]⟩
theorem c7_ok : compFunc Try.prog Try.f7 = some c7 := by kernel_rfl
theorem c7_body : hasBody Try.prog 7 = true := hasBody_of Try.func7 (by kernel_rfl)
/-- coachyard/bag.Sense -/
def c8 : PFn := ⟨63, Tr.ofList (List.replicate 63 undefA), (.seq (.seqR [⟨.move, [.const (.int .i64 0)], (some 2), none⟩,
 ⟨.move, [.const (.bool false)], (some 3), none⟩])
 (.seq (.seq (.seqR [⟨.move, [.tmp 0], (some 9), none⟩,
 ⟨.lenS, [.tmp 9], (some 10), none⟩,
 ⟨.move, [.const (.int .i64 0)], (some 11), none⟩])
 (.block 0 (.loop (.seq (.seqR [⟨(.bin .lss), [.tmp 11, .tmp 10], (some 12), none⟩])
 (.seq (.cond (.tmp 12) .skip
 (.exit 0))
 (.seq (.block 1 (.seq (.seqR [⟨.move, [.tmp 11], (some 13), none⟩,
 ⟨(.indexAddrS 10), [.tmp 9, .tmp 11], (some 14), none⟩,
 ⟨(.load true 10), [.tmp 14], (some 15), none⟩,
 ⟨(.new [(.int .i64 0), (.int .i64 0), (.int .i64 0), (.int .i64 0), (.int .i64 0), (.int .u64 0), (.slice none 0 0 false), (.int .i64 0), (.int .u64 0), (.slice none 0 0 false)]), [], (some 5), none⟩,
 ⟨.move, [.tmp 13], (some 4), none⟩,
 ⟨(.store 10), [.tmp 5, .tmp 15], none, none⟩])
 (.seq (.seq (.seqR [⟨(.fieldAddr 4), [.tmp 5], (some 16), none⟩,
 ⟨(.fieldAddr 0), [.tmp 16], (some 17), none⟩,
 ⟨(.load false 1), [.tmp 17], (some 18), none⟩,
 ⟨(.bin .neq), [.tmp 18, .const (.int .i64 2)], (some 19), none⟩,
 ⟨.move, [.tmp 19], (some 20), none⟩,
 ⟨(.fieldAddr 3), [.tmp 5], (some 21), some (20, false)⟩,
 ⟨(.load false 1), [.tmp 21], (some 22), some (20, false)⟩,
 ⟨(.bin .lss), [.tmp 22, .const (.int .i64 0)], (some 23), some (20, false)⟩,
 ⟨.pick, [.tmp 20, .const (.bool true), .tmp 23], (some 24), none⟩,
 ⟨.move, [.tmp 24], (some 25), none⟩,
 ⟨(.fieldAddr 7), [.tmp 5], (some 26), some (25, false)⟩,
 ⟨(.fieldAddr 0), [.tmp 26], (some 27), some (25, false)⟩,
 ⟨(.load false 1), [.tmp 27], (some 28), some (25, false)⟩,
 ⟨(.bin .neq), [.tmp 28, .const (.int .i64 5)], (some 29), some (25, false)⟩,
 ⟨.pick, [.tmp 25, .const (.bool true), .tmp 29], (some 30), none⟩])
 (.cond (.tmp 30) (.exit 1)
 .skip))
 (.seq (.seqR [⟨.move, [.const (.int .i64 0)], (some 6), none⟩])
 (.seq (.seq (.seqR [⟨.move, [.tmp 0], (some 31), none⟩,
 ⟨.lenS, [.tmp 31], (some 32), none⟩,
 ⟨.move, [.const (.int .i64 0)], (some 33), none⟩])
 (.block 2 (.loop (.seq (.seqR [⟨(.bin .lss), [.tmp 33, .tmp 32], (some 34), none⟩])
 (.seq (.cond (.tmp 34) .skip
 (.exit 2))
 (.seq (.block 3 (.seq (.seqR [⟨(.indexAddrS 10), [.tmp 31, .tmp 33], (some 35), none⟩,
 ⟨(.load true 10), [.tmp 35], (some 36), none⟩,
 ⟨(.new [(.int .i64 0), (.int .i64 0), (.int .i64 0), (.int .i64 0), (.int .i64 0), (.int .u64 0), (.slice none 0 0 false), (.int .i64 0), (.int .u64 0), (.slice none 0 0 false)]), [], (some 8), none⟩,
 ⟨(.store 10), [.tmp 8, .tmp 36], none, none⟩])
 (.seq (.seqR [⟨(.fieldAddr 4), [.tmp 8], (some 37), none⟩,
 ⟨(.fieldAddr 0), [.tmp 37], (some 38), none⟩,
 ⟨(.load false 1), [.tmp 38], (some 39), none⟩,
 ⟨(.bin .eql), [.tmp 39, .const (.int .i64 2)], (some 40), none⟩,
 ⟨.move, [.tmp 40], (some 41), none⟩,
 ⟨(.fieldAddr 3), [.tmp 8], (some 42), some (41, true)⟩,
 ⟨(.load false 1), [.tmp 42], (some 43), some (41, true)⟩,
 ⟨(.bin .lss), [.tmp 43, .const (.int .i64 0)], (some 44), some (41, true)⟩,
 ⟨.pick, [.tmp 41, .tmp 44, .const (.bool false)], (some 45), none⟩,
 ⟨.move, [.tmp 45], (some 46), none⟩,
 ⟨(.fieldAddr 2), [.tmp 8], (some 47), some (46, true)⟩,
 ⟨(.load false 1), [.tmp 47], (some 48), some (46, true)⟩,
 ⟨(.fieldAddr 3), [.tmp 5], (some 49), some (46, true)⟩,
 ⟨(.load false 1), [.tmp 49], (some 50), some (46, true)⟩,
 ⟨(.bin .lss), [.tmp 48, .tmp 50], (some 51), some (46, true)⟩,
 ⟨.pick, [.tmp 46, .tmp 51, .const (.bool false)], (some 52), none⟩])
 (.cond (.tmp 52) (.seqR [⟨.move, [.tmp 6], (some 53), none⟩,
 ⟨(.bin .add), [.tmp 53, .const (.int .i64 1)], (some 54), none⟩,
 ⟨.move, [.tmp 54], (some 6), none⟩])
 .skip))))
 (.seqR [⟨(.bin .add), [.tmp 33, .const (.int .i64 1)], (some 55), none⟩,
 ⟨.move, [.tmp 55], (some 33), none⟩])))))))
 (.seq (.seqR [⟨.move, [.tmp 0], (some 56), none⟩,
 ⟨(.load true 10), [.tmp 5], (some 57), none⟩,
 ⟨(.callF 16), [.tmp 56, .tmp 57], (some 58), none⟩,
 ⟨.move, [.tmp 6], (some 59), none⟩,
 ⟨(.bin .gtr), [.tmp 58, .tmp 59], (some 60), none⟩])
 (.cond (.tmp 60) (.seq (.seqR [⟨.move, [.tmp 4], (some 61), none⟩,
 ⟨.move, [.tmp 61], (some 2), none⟩,
 ⟨.move, [.const (.bool false)], (some 3), none⟩])
 .ret)
 .skip)))))))
 (.seqR [⟨(.bin .add), [.tmp 11, .const (.int .i64 1)], (some 62), none⟩,
 ⟨.move, [.tmp 62], (some 11), none⟩])))))))
 (.seq (.seqR [⟨.move, [.const (.int .i64 (-1))], (some 2), none⟩,
 ⟨.move, [.const (.bool true)], (some 3), none⟩])
 .ret))), [.tmp 2, .tmp 3]⟩
theorem c8_ok : compFunc Try.prog Try.f8 = some c8 := by kernel_rfl
theorem c8_body : hasBody Try.prog 8 = true := hasBody_of Try.func8 (by kernel_rfl)
/-- coachyard/coachyardref16.Sense -/
def c9 : PFn := ⟨124, Tr.ofList (List.replicate 124 undefA), (.seq (.seqR [⟨.move, [.const (.int .i64 0)], (some 2), none⟩])
 (.seq (.seq (.seqR [⟨.move, [.const (.int .i64 0)], (some 3), none⟩])
 (.block 0 (.loop (.seq (.seq (.seqR [⟨.move, [.tmp 3], (some 8), none⟩,
 ⟨.move, [.tmp 0], (some 9), none⟩,
 ⟨.lenS, [.tmp 9], (some 10), none⟩,
 ⟨(.bin .lss), [.tmp 8, .tmp 10], (some 11), none⟩])
 (.cond (.tmp 11) .skip
 (.exit 0)))
 (.seq (.block 1 (.seq (.seq (.seqR [⟨.move, [.tmp 0], (some 14), none⟩,
 ⟨.move, [.tmp 3], (some 15), none⟩,
 ⟨(.indexAddrS 10), [.tmp 14, .tmp 15], (some 16), none⟩,
 ⟨(.fieldAddr 4), [.tmp 16], (some 17), none⟩,
 ⟨(.fieldAddr 0), [.tmp 17], (some 18), none⟩,
 ⟨(.load false 1), [.tmp 18], (some 19), none⟩,
 ⟨(.bin .neq), [.tmp 19, .const (.int .i64 2)], (some 20), none⟩,
 ⟨.move, [.tmp 20], (some 21), none⟩,
 ⟨.move, [.tmp 0], (some 22), some (21, false)⟩,
 ⟨.move, [.tmp 3], (some 23), some (21, false)⟩,
 ⟨(.indexAddrS 10), [.tmp 22, .tmp 23], (some 24), some (21, false)⟩,
 ⟨(.fieldAddr 3), [.tmp 24], (some 25), some (21, false)⟩,
 ⟨(.load false 1), [.tmp 25], (some 26), some (21, false)⟩,
 ⟨(.bin .lss), [.tmp 26, .const (.int .i64 0)], (some 27), some (21, false)⟩,
 ⟨.pick, [.tmp 21, .const (.bool true), .tmp 27], (some 28), none⟩,
 ⟨.move, [.tmp 28], (some 29), none⟩,
 ⟨.move, [.tmp 0], (some 30), some (29, false)⟩,
 ⟨.move, [.tmp 3], (some 31), some (29, false)⟩,
 ⟨(.indexAddrS 10), [.tmp 30, .tmp 31], (some 32), some (29, false)⟩,
 ⟨(.fieldAddr 7), [.tmp 32], (some 33), some (29, false)⟩,
 ⟨(.fieldAddr 0), [.tmp 33], (some 34), some (29, false)⟩,
 ⟨(.load false 1), [.tmp 34], (some 35), some (29, false)⟩,
 ⟨(.bin .neq), [.tmp 35, .const (.int .i64 5)], (some 36), some (29, false)⟩,
 ⟨.pick, [.tmp 29, .const (.bool true), .tmp 36], (some 37), none⟩])
 (.cond (.tmp 37) (.exit 1)
 .skip))
 (.seq (.seqR [⟨.move, [.const (.int .i64 0)], (some 4), none⟩])
 (.seq (.seq (.seqR [⟨.move, [.const (.int .i64 0)], (some 5), none⟩])
 (.block 2 (.loop (.seq (.seq (.seqR [⟨.move, [.tmp 5], (some 38), none⟩,
 ⟨.move, [.tmp 0], (some 39), none⟩,
 ⟨.lenS, [.tmp 39], (some 40), none⟩,
 ⟨(.bin .lss), [.tmp 38, .tmp 40], (some 41), none⟩])
 (.cond (.tmp 41) .skip
 (.exit 2)))
 (.seq (.block 3 (.seq (.seqR [⟨.move, [.const (.bool true)], (some 6), none⟩])
 (.seq (.seq (.seqR [⟨.move, [.const (.int .i64 0)], (some 7), none⟩])
 (.block 4 (.loop (.seq (.seq (.seqR [⟨.move, [.tmp 7], (some 44), none⟩,
 ⟨.move, [.tmp 5], (some 45), none⟩,
 ⟨(.bin .lss), [.tmp 44, .tmp 45], (some 46), none⟩])
 (.cond (.tmp 46) .skip
 (.exit 4)))
 (.seq (.block 5 (.seq (.drawR [⟨⟨.move, [.tmp 0], (some 49), none⟩, false, false, 0, 0⟩,
 ⟨⟨.move, [.tmp 7], (some 50), none⟩, false, false, 0, 0⟩,
 ⟨⟨(.indexAddrS 10), [.tmp 49, .tmp 50], (some 51), none⟩, false, false, 0, 0⟩,
 ⟨⟨(.load true 10), [.tmp 51], (some 52), none⟩, false, false, 0, 0⟩,
 ⟨⟨(.callF 14), [.tmp 52], (some 53), none⟩, true, false, 0, 1⟩,
 ⟨⟨.move, [.tmp 53], (some 54), none⟩, false, false, 1, 1⟩,
 ⟨⟨.move, [.tmp 0], (some 55), some (54, true)⟩, false, false, 1, 1⟩,
 ⟨⟨.move, [.tmp 7], (some 56), some (54, true)⟩, false, false, 1, 1⟩,
 ⟨⟨(.indexAddrS 10), [.tmp 55, .tmp 56], (some 57), some (54, true)⟩, false, false, 1, 1⟩,
 ⟨⟨(.fieldAddr 4), [.tmp 57], (some 58), some (54, true)⟩, false, false, 1, 1⟩,
 ⟨⟨(.fieldAddr 1), [.tmp 58], (some 59), some (54, true)⟩, false, false, 1, 1⟩,
 ⟨⟨(.load false 1), [.tmp 59], (some 60), some (54, true)⟩, false, false, 1, 1⟩,
 ⟨⟨.move, [.tmp 0], (some 61), some (54, true)⟩, false, false, 1, 1⟩,
 ⟨⟨.move, [.tmp 5], (some 62), some (54, true)⟩, false, false, 1, 1⟩,
 ⟨⟨(.indexAddrS 10), [.tmp 61, .tmp 62], (some 63), some (54, true)⟩, false, false, 1, 1⟩,
 ⟨⟨(.fieldAddr 4), [.tmp 63], (some 64), some (54, true)⟩, false, false, 1, 1⟩,
 ⟨⟨(.fieldAddr 1), [.tmp 64], (some 65), some (54, true)⟩, false, false, 1, 1⟩,
 ⟨⟨(.load false 1), [.tmp 65], (some 66), some (54, true)⟩, false, false, 1, 1⟩,
 ⟨⟨(.bin .eql), [.tmp 60, .tmp 66], (some 67), some (54, true)⟩, false, false, 1, 1⟩,
 ⟨⟨.pick, [.tmp 54, .tmp 67, .const (.bool false)], (some 68), none⟩, false, false, 1, 1⟩])
 (.cond (.tmp 68) (.seqR [⟨.move, [.const (.bool false)], (some 6), none⟩])
 .skip)))
 (.seqR [⟨.move, [.tmp 7], (some 47), none⟩,
 ⟨(.bin .add), [.tmp 47, .const (.int .i64 1)], (some 48), none⟩,
 ⟨.move, [.tmp 48], (some 7), none⟩]))))))
 (.seq (.seq (.seqR [⟨.move, [.tmp 0], (some 69), none⟩,
 ⟨.move, [.tmp 5], (some 70), none⟩,
 ⟨(.indexAddrS 10), [.tmp 69, .tmp 70], (some 71), none⟩,
 ⟨(.load true 10), [.tmp 71], (some 72), none⟩,
 ⟨(.callF 14), [.tmp 72], (some 73), none⟩,
 ⟨.move, [.tmp 73], (some 74), none⟩,
 ⟨.move, [.tmp 6], (some 75), some (74, true)⟩,
 ⟨.pick, [.tmp 74, .tmp 75, .const (.bool false)], (some 76), none⟩])
 (.cond (.tmp 76) (.drawR [⟨⟨.move, [.tmp 4], (some 77), none⟩, false, false, 0, 1⟩,
 ⟨⟨.move, [.tmp 0], (some 78), none⟩, false, false, 0, 0⟩,
 ⟨⟨.move, [.tmp 0], (some 79), none⟩, false, false, 0, 0⟩,
 ⟨⟨.move, [.tmp 3], (some 80), none⟩, false, false, 0, 0⟩,
 ⟨⟨(.indexAddrS 10), [.tmp 79, .tmp 80], (some 81), none⟩, false, false, 0, 0⟩,
 ⟨⟨(.load true 10), [.tmp 81], (some 82), none⟩, false, false, 0, 0⟩,
 ⟨⟨.move, [.tmp 0], (some 83), none⟩, false, false, 0, 0⟩,
 ⟨⟨.move, [.tmp 5], (some 84), none⟩, false, false, 0, 0⟩,
 ⟨⟨(.indexAddrS 10), [.tmp 83, .tmp 84], (some 85), none⟩, false, false, 0, 0⟩,
 ⟨⟨(.fieldAddr 4), [.tmp 85], (some 86), none⟩, false, false, 0, 0⟩,
 ⟨⟨(.fieldAddr 1), [.tmp 86], (some 87), none⟩, false, false, 0, 0⟩,
 ⟨⟨(.load false 1), [.tmp 87], (some 88), none⟩, false, false, 0, 0⟩,
 ⟨⟨(.callF 17), [.tmp 78, .tmp 82, .tmp 88], (some 89), none⟩, true, false, 0, 1⟩,
 ⟨⟨(.bin .add), [.tmp 77, .tmp 89], (some 90), none⟩, false, false, 1, 1⟩,
 ⟨⟨.move, [.tmp 90], (some 4), none⟩, false, false, 1, 1⟩])
 .skip))
 (.seq (.drawR [⟨⟨.move, [.tmp 0], (some 91), none⟩, false, false, 0, 0⟩,
 ⟨⟨.move, [.tmp 5], (some 92), none⟩, false, false, 0, 0⟩,
 ⟨⟨(.indexAddrS 10), [.tmp 91, .tmp 92], (some 93), none⟩, false, false, 0, 0⟩,
 ⟨⟨(.fieldAddr 4), [.tmp 93], (some 94), none⟩, false, false, 0, 0⟩,
 ⟨⟨(.fieldAddr 0), [.tmp 94], (some 95), none⟩, false, false, 0, 0⟩,
 ⟨⟨(.load false 1), [.tmp 95], (some 96), none⟩, false, false, 0, 0⟩,
 ⟨⟨(.bin .eql), [.tmp 96, .const (.int .i64 2)], (some 97), none⟩, false, false, 0, 0⟩,
 ⟨⟨.move, [.tmp 97], (some 98), none⟩, false, false, 0, 0⟩,
 ⟨⟨.move, [.tmp 0], (some 99), some (98, true)⟩, false, false, 0, 0⟩,
 ⟨⟨.move, [.tmp 5], (some 100), some (98, true)⟩, false, false, 0, 0⟩,
 ⟨⟨(.indexAddrS 10), [.tmp 99, .tmp 100], (some 101), some (98, true)⟩, false, false, 0, 0⟩,
 ⟨⟨(.fieldAddr 3), [.tmp 101], (some 102), some (98, true)⟩, false, false, 0, 0⟩,
 ⟨⟨(.load false 1), [.tmp 102], (some 103), some (98, true)⟩, false, false, 0, 0⟩,
 ⟨⟨(.bin .lss), [.tmp 103, .const (.int .i64 0)], (some 104), some (98, true)⟩, false, false, 0, 0⟩,
 ⟨⟨.pick, [.tmp 98, .tmp 104, .const (.bool false)], (some 105), none⟩, false, false, 0, 0⟩,
 ⟨⟨.move, [.tmp 105], (some 106), none⟩, false, false, 0, 0⟩,
 ⟨⟨.move, [.tmp 0], (some 107), some (106, true)⟩, false, false, 0, 0⟩,
 ⟨⟨.move, [.tmp 5], (some 108), some (106, true)⟩, false, false, 0, 0⟩,
 ⟨⟨(.indexAddrS 10), [.tmp 107, .tmp 108], (some 109), some (106, true)⟩, false, false, 0, 0⟩,
 ⟨⟨(.fieldAddr 2), [.tmp 109], (some 110), some (106, true)⟩, false, false, 0, 0⟩,
 ⟨⟨(.load false 1), [.tmp 110], (some 111), some (106, true)⟩, false, false, 0, 0⟩,
 ⟨⟨.move, [.tmp 0], (some 112), some (106, true)⟩, false, false, 0, 0⟩,
 ⟨⟨.move, [.tmp 3], (some 113), some (106, true)⟩, false, false, 0, 0⟩,
 ⟨⟨(.indexAddrS 10), [.tmp 112, .tmp 113], (some 114), some (106, true)⟩, false, false, 0, 0⟩,
 ⟨⟨(.fieldAddr 3), [.tmp 114], (some 115), some (106, true)⟩, false, false, 0, 0⟩,
 ⟨⟨(.load false 1), [.tmp 115], (some 116), some (106, true)⟩, false, false, 0, 0⟩,
 ⟨⟨(.bin .lss), [.tmp 111, .tmp 116], (some 117), some (106, true)⟩, false, false, 0, 0⟩,
 ⟨⟨.pick, [.tmp 106, .tmp 117, .const (.bool false)], (some 118), none⟩, false, false, 0, 0⟩])
 (.cond (.tmp 118) (.seqR [⟨.move, [.tmp 4], (some 119), none⟩,
 ⟨(.bin .sub), [.tmp 119, .const (.int .i64 1)], (some 120), none⟩,
 ⟨.move, [.tmp 120], (some 4), none⟩])
 .skip))))))
 (.seqR [⟨.move, [.tmp 5], (some 42), none⟩,
 ⟨(.bin .add), [.tmp 42, .const (.int .i64 1)], (some 43), none⟩,
 ⟨.move, [.tmp 43], (some 5), none⟩]))))))
 (.seq (.seqR [⟨.move, [.tmp 4], (some 121), none⟩,
 ⟨(.bin .gtr), [.tmp 121, .const (.int .i64 0)], (some 122), none⟩])
 (.cond (.tmp 122) (.seq (.seqR [⟨.move, [.tmp 3], (some 123), none⟩,
 ⟨.move, [.tmp 123], (some 2), none⟩])
 .ret)
 .skip))))))
 (.seqR [⟨.move, [.tmp 3], (some 12), none⟩,
 ⟨(.bin .add), [.tmp 12, .const (.int .i64 1)], (some 13), none⟩,
 ⟨.move, [.tmp 13], (some 3), none⟩]))))))
 (.seq (.seqR [⟨.move, [.const (.int .i64 (-1))], (some 2), none⟩])
 .ret))), [.tmp 2]⟩
theorem c9_ok : compFunc Try.prog Try.f9 = some c9 := by kernel_rfl
theorem c9_body : hasBody Try.prog 9 = true := hasBody_of Try.func9 (by kernel_rfl)
/-- coachyard/bag.Can -/
def c10 : PFn := ⟨11, Tr.ofList (List.replicate 11 undefA), (.seq (.seqR [⟨.move, [.const (.bool false)], (some 2), none⟩])
 (.seq (.seqR [⟨.move, [.tmp 0], (some 6), none⟩,
 ⟨(.callF 18), [.tmp 6], (some 7), none⟩,
 ⟨.move, [.tmp 7], (some 5), none⟩,
 ⟨(.extract 0), [.tmp 5], (some 8), none⟩,
 ⟨(.extract 1), [.tmp 5], (some 9), none⟩,
 ⟨.move, [.tmp 8], (some 3), none⟩,
 ⟨.move, [.tmp 9], (some 4), none⟩])
 (.seq (.seqR [⟨.move, [.tmp 4], (some 10), none⟩,
 ⟨.move, [.tmp 10], (some 2), none⟩])
 .ret))), [.tmp 2]⟩
theorem c10_ok : compFunc Try.prog Try.f10 = some c10 := by kernel_rfl
theorem c10_body : hasBody Try.prog 10 = true := hasBody_of Try.func10 (by kernel_rfl)
/-- coachyard/coachyardref16.Takes -/
def c11 : PFn := ⟨18, Tr.ofList (List.replicate 18 undefA), (.seq (.seqR [⟨.box, [.tmp 0], (some 1), none⟩,
 ⟨.move, [.const (.bool false)], (some 2), none⟩])
 (.seq (.seqR [⟨(.fieldAddr 4), [.tmp 1], (some 3), none⟩,
 ⟨(.fieldAddr 0), [.tmp 3], (some 4), none⟩,
 ⟨(.load false 1), [.tmp 4], (some 5), none⟩,
 ⟨(.bin .eql), [.tmp 5, .const (.int .i64 2)], (some 6), none⟩,
 ⟨.move, [.tmp 6], (some 7), none⟩,
 ⟨(.fieldAddr 3), [.tmp 1], (some 8), some (7, true)⟩,
 ⟨(.load false 1), [.tmp 8], (some 9), some (7, true)⟩,
 ⟨(.bin .geq), [.tmp 9, .const (.int .i64 0)], (some 10), some (7, true)⟩,
 ⟨.pick, [.tmp 7, .tmp 10, .const (.bool false)], (some 11), none⟩,
 ⟨.move, [.tmp 11], (some 12), none⟩,
 ⟨(.fieldAddr 7), [.tmp 1], (some 13), some (12, true)⟩,
 ⟨(.fieldAddr 0), [.tmp 13], (some 14), some (12, true)⟩,
 ⟨(.load false 1), [.tmp 14], (some 15), some (12, true)⟩,
 ⟨(.bin .eql), [.tmp 15, .const (.int .i64 0)], (some 16), some (12, true)⟩,
 ⟨.pick, [.tmp 12, .tmp 16, .const (.bool false)], (some 17), none⟩,
 ⟨.move, [.tmp 17], (some 2), none⟩])
 .ret)), [.tmp 2]⟩
theorem c11_ok : compFunc Try.prog Try.f11 = some c11 := by kernel_rfl
theorem c11_body : hasBody Try.prog 11 = true := hasBody_of Try.func11 (by kernel_rfl)
/-- coachyard/bag.Order -/
def c12 : PFn := ⟨73, Tr.ofList (List.replicate 73 undefA), (.seq (.seqR [⟨.move, [.const (.slice none 0 0 false)], (some 2), none⟩,
 ⟨.move, [.const (.int .i64 0)], (some 3), none⟩])
 (.seq (.seqR [⟨.move, [.tmp 0], (some 15), none⟩,
 ⟨(.callF 18), [.tmp 15], (some 16), none⟩,
 ⟨.move, [.tmp 16], (some 14), none⟩,
 ⟨(.extract 0), [.tmp 14], (some 17), none⟩,
 ⟨(.extract 1), [.tmp 14], (some 18), none⟩,
 ⟨.move, [.tmp 17], (some 4), none⟩,
 ⟨.move, [.tmp 18], (some 5), none⟩])
 (.seq (.seq (.seqR [⟨.move, [.tmp 5], (some 19), none⟩,
 ⟨.not, [.tmp 19], (some 20), none⟩])
 (.cond (.tmp 20) (.seq (.seqR [⟨.move, [.const (.slice none 0 0 false)], (some 2), none⟩,
 ⟨.move, [.const (.int .i64 13)], (some 3), none⟩])
 .ret)
 .skip))
 (.seq (.seqR [⟨.move, [.const (.slice none 0 0 false)], (some 6), none⟩])
 (.seq (.seq (.seqR [⟨.move, [.tmp 0], (some 21), none⟩,
 ⟨.move, [.tmp 4], (some 22), none⟩,
 ⟨(.callF 19), [.tmp 21, .tmp 22], (some 23), none⟩,
 ⟨.lenS, [.tmp 23], (some 24), none⟩,
 ⟨.move, [.const (.int .i64 0)], (some 25), none⟩])
 (.block 0 (.loop (.seq (.seqR [⟨(.bin .lss), [.tmp 25, .tmp 24], (some 26), none⟩])
 (.seq (.cond (.tmp 26) .skip
 (.exit 0))
 (.seq (.block 1 (.seq (.seqR [⟨(.indexAddrS 1), [.tmp 23, .tmp 25], (some 27), none⟩,
 ⟨(.load false 1), [.tmp 27], (some 28), none⟩,
 ⟨.move, [.tmp 28], (some 8), none⟩])
 (.seqR [⟨.move, [.tmp 6], (some 29), none⟩,
 ⟨.move, [.tmp 0], (some 30), none⟩,
 ⟨.move, [.tmp 8], (some 31), none⟩,
 ⟨(.indexAddrS 10), [.tmp 30, .tmp 31], (some 32), none⟩,
 ⟨(.fieldAddr 2), [.tmp 32], (some 33), none⟩,
 ⟨(.load false 1), [.tmp 33], (some 34), none⟩,
 ⟨.move, [.tmp 8], (some 35), none⟩,
 ⟨(.build [(.int .i64 0), (.int .i64 0), (.bool false)] [(0, 1), (1, 1), (2, 1)]), [.tmp 34, .tmp 35, .const (.bool false)], (some 36), none⟩,
 ⟨(.sliceLit 1 [(.int .i64 0), (.int .i64 0), (.bool false)] [(0, 3)]), [.tmp 36], (some 37), none⟩,
 ⟨(.append 3 24), [.tmp 29, .tmp 37], (some 38), none⟩,
 ⟨.move, [.tmp 38], (some 6), none⟩])))
 (.seqR [⟨(.bin .add), [.tmp 25, .const (.int .i64 1)], (some 39), none⟩,
 ⟨.move, [.tmp 39], (some 25), none⟩])))))))
 (.seq (.seq (.seqR [⟨.move, [.tmp 0], (some 40), none⟩,
 ⟨(.callF 20), [.tmp 40, .const (.func (.func 21) [] []), .const (.func (.func 22) [] [])], (some 41), none⟩,
 ⟨.lenS, [.tmp 41], (some 42), none⟩,
 ⟨.move, [.const (.int .i64 0)], (some 43), none⟩])
 (.block 2 (.loop (.seq (.seqR [⟨(.bin .lss), [.tmp 43, .tmp 42], (some 44), none⟩])
 (.seq (.cond (.tmp 44) .skip
 (.exit 2))
 (.seq (.block 3 (.seq (.seqR [⟨(.indexAddrS 1), [.tmp 41, .tmp 43], (some 45), none⟩,
 ⟨(.load false 1), [.tmp 45], (some 46), none⟩,
 ⟨.move, [.tmp 46], (some 10), none⟩])
 (.seqR [⟨.move, [.tmp 6], (some 47), none⟩,
 ⟨.move, [.tmp 0], (some 48), none⟩,
 ⟨.move, [.tmp 10], (some 49), none⟩,
 ⟨(.indexAddrS 10), [.tmp 48, .tmp 49], (some 50), none⟩,
 ⟨(.fieldAddr 3), [.tmp 50], (some 51), none⟩,
 ⟨(.load false 1), [.tmp 51], (some 52), none⟩,
 ⟨.move, [.tmp 10], (some 53), none⟩,
 ⟨(.build [(.int .i64 0), (.int .i64 0), (.bool false)] [(0, 1), (1, 1), (2, 1)]), [.tmp 52, .tmp 53, .const (.bool true)], (some 54), none⟩,
 ⟨(.sliceLit 1 [(.int .i64 0), (.int .i64 0), (.bool false)] [(0, 3)]), [.tmp 54], (some 55), none⟩,
 ⟨(.append 3 24), [.tmp 47, .tmp 55], (some 56), none⟩,
 ⟨.move, [.tmp 56], (some 6), none⟩])))
 (.seqR [⟨(.bin .add), [.tmp 43, .const (.int .i64 1)], (some 57), none⟩,
 ⟨.move, [.tmp 57], (some 43), none⟩])))))))
 (.seq (.seqR [⟨.move, [.tmp 6], (some 58), none⟩,
 ⟨(.callF 23), [.tmp 58, .const (.func (.func 24) [] [])], (some 59), none⟩])
 (.seq (.seqR [⟨.move, [.const (.slice none 0 0 false)], (some 11), none⟩])
 (.seq (.seq (.seqR [⟨.move, [.tmp 6], (some 60), none⟩,
 ⟨.lenS, [.tmp 60], (some 61), none⟩,
 ⟨.move, [.const (.int .i64 0)], (some 62), none⟩])
 (.block 4 (.loop (.seq (.seqR [⟨(.bin .lss), [.tmp 62, .tmp 61], (some 63), none⟩])
 (.seq (.cond (.tmp 63) .skip
 (.exit 4))
 (.seq (.block 5 (.seq (.seqR [⟨(.indexAddrS 3), [.tmp 60, .tmp 62], (some 64), none⟩,
 ⟨(.load true 3), [.tmp 64], (some 65), none⟩,
 ⟨(.new [(.int .i64 0), (.int .i64 0), (.bool false)]), [], (some 13), none⟩,
 ⟨(.store 3), [.tmp 13, .tmp 65], none, none⟩])
 (.seqR [⟨.move, [.tmp 11], (some 66), none⟩,
 ⟨(.fieldAddr 1), [.tmp 13], (some 67), none⟩,
 ⟨(.load false 1), [.tmp 67], (some 68), none⟩,
 ⟨(.sliceLit 1 [(.int .i64 0)] [(0, 1)]), [.tmp 68], (some 69), none⟩,
 ⟨(.append 1 8), [.tmp 66, .tmp 69], (some 70), none⟩,
 ⟨.move, [.tmp 70], (some 11), none⟩])))
 (.seqR [⟨(.bin .add), [.tmp 62, .const (.int .i64 1)], (some 71), none⟩,
 ⟨.move, [.tmp 71], (some 62), none⟩])))))))
 (.seq (.seqR [⟨.move, [.tmp 11], (some 72), none⟩,
 ⟨.move, [.tmp 72], (some 2), none⟩,
 ⟨.move, [.const (.int .i64 0)], (some 3), none⟩])
 .ret)))))))))), [.tmp 2, .tmp 3]⟩
theorem c12_ok : compFunc Try.prog Try.f12 = some c12 := by kernel_rfl
theorem c12_body : hasBody Try.prog 12 = true := hasBody_of Try.func12 (by kernel_rfl)
/-- coachyard/bag.Left -/
def c13 : PFn := ⟨53, Tr.ofList (List.replicate 53 undefA), (.seq (.seqR [⟨.move, [.const (.slice none 0 0 false)], (some 2), none⟩,
 ⟨.move, [.const (.int .i64 0)], (some 3), none⟩])
 (.seq (.seqR [⟨.move, [.tmp 0], (some 13), none⟩,
 ⟨(.callF 18), [.tmp 13], (some 14), none⟩,
 ⟨.move, [.tmp 14], (some 12), none⟩,
 ⟨(.extract 0), [.tmp 12], (some 15), none⟩,
 ⟨(.extract 1), [.tmp 12], (some 16), none⟩,
 ⟨.move, [.tmp 15], (some 4), none⟩,
 ⟨.move, [.tmp 16], (some 5), none⟩])
 (.seq (.seq (.seqR [⟨.move, [.tmp 5], (some 17), none⟩,
 ⟨.not, [.tmp 17], (some 18), none⟩])
 (.cond (.tmp 18) (.seq (.seqR [⟨.move, [.const (.slice none 0 0 false)], (some 2), none⟩,
 ⟨.move, [.const (.int .i64 13)], (some 3), none⟩])
 .ret)
 .skip))
 (.seq (.seqR [⟨.makeMap, [], (some 19), none⟩,
 ⟨.move, [.tmp 19], (some 6), none⟩])
 (.seq (.seq .fail
 (.block 0 (.loop (.seq .fail
 (.seq (.cond (.tmp 23) .skip
 (.exit 0))
 (.block 1 (.seq .fail
 (.seqR [⟨.move, [.tmp 6], (some 26), none⟩,
 ⟨.move, [.tmp 8], (some 27), none⟩,
 ⟨(.mapUpdate 0), [.tmp 26, .tmp 27, .const (.bool true)], none, none⟩]))))))))
 (.seq (.seqR [⟨.move, [.const (.slice none 0 0 false)], (some 9), none⟩])
 (.seq (.seq (.seqR [⟨.move, [.tmp 0], (some 28), none⟩,
 ⟨.move, [.tmp 4], (some 29), none⟩,
 ⟨(.callF 19), [.tmp 28, .tmp 29], (some 30), none⟩,
 ⟨.lenS, [.tmp 30], (some 31), none⟩,
 ⟨.move, [.const (.int .i64 0)], (some 32), none⟩])
 (.block 2 (.loop (.seq (.seqR [⟨(.bin .lss), [.tmp 32, .tmp 31], (some 33), none⟩])
 (.seq (.cond (.tmp 33) .skip
 (.exit 2))
 (.seq (.block 3 (.seq (.seqR [⟨(.indexAddrS 1), [.tmp 30, .tmp 32], (some 34), none⟩,
 ⟨(.load false 1), [.tmp 34], (some 35), none⟩,
 ⟨.move, [.tmp 35], (some 11), none⟩])
 (.seq (.seqR [⟨.move, [.tmp 6], (some 36), none⟩,
 ⟨.move, [.tmp 11], (some 37), none⟩,
 ⟨(.lookup 0 false (.bool false)), [.tmp 36, .tmp 37], (some 38), none⟩,
 ⟨.not, [.tmp 38], (some 39), none⟩])
 (.cond (.tmp 39) (.seqR [⟨.move, [.tmp 9], (some 40), none⟩,
 ⟨.move, [.tmp 0], (some 41), none⟩,
 ⟨.move, [.tmp 11], (some 42), none⟩,
 ⟨(.indexAddrS 10), [.tmp 41, .tmp 42], (some 43), none⟩,
 ⟨(.fieldAddr 4), [.tmp 43], (some 44), none⟩,
 ⟨(.fieldAddr 1), [.tmp 44], (some 45), none⟩,
 ⟨(.load false 1), [.tmp 45], (some 46), none⟩,
 ⟨(.sliceLit 1 [(.int .u64 0)] [(0, 1)]), [.tmp 46], (some 47), none⟩,
 ⟨(.append 1 8), [.tmp 40, .tmp 47], (some 48), none⟩,
 ⟨.move, [.tmp 48], (some 9), none⟩])
 .skip))))
 (.seqR [⟨(.bin .add), [.tmp 32, .const (.int .i64 1)], (some 49), none⟩,
 ⟨.move, [.tmp 49], (some 32), none⟩])))))))
 (.seq (.seqR [⟨.move, [.tmp 9], (some 50), none⟩,
 ⟨(.callF 26), [.tmp 50], (some 51), none⟩])
 (.seq (.seqR [⟨.move, [.tmp 9], (some 52), none⟩,
 ⟨.move, [.tmp 52], (some 2), none⟩,
 ⟨.move, [.const (.int .i64 0)], (some 3), none⟩])
 .ret))))))))), [.tmp 2, .tmp 3]⟩
theorem c13_ok : compFunc Try.prog Try.f13 = some c13 := by kernel_rfl
theorem c13_body : hasBody Try.prog 13 = true := hasBody_of Try.func13 (by kernel_rfl)
/-- coachyard/coachyardref16.Adds -/
def c14 : PFn := ⟨18, Tr.ofList (List.replicate 18 undefA), (.seq (.seqR [⟨.box, [.tmp 0], (some 1), none⟩,
 ⟨.move, [.const (.bool false)], (some 2), none⟩])
 (.seq (.seqR [⟨(.fieldAddr 4), [.tmp 1], (some 3), none⟩,
 ⟨(.fieldAddr 0), [.tmp 3], (some 4), none⟩,
 ⟨(.load false 1), [.tmp 4], (some 5), none⟩,
 ⟨(.bin .eql), [.tmp 5, .const (.int .i64 1)], (some 6), none⟩,
 ⟨.move, [.tmp 6], (some 7), none⟩,
 ⟨(.fieldAddr 3), [.tmp 1], (some 8), some (7, true)⟩,
 ⟨(.load false 1), [.tmp 8], (some 9), some (7, true)⟩,
 ⟨(.bin .lss), [.tmp 9, .const (.int .i64 0)], (some 10), some (7, true)⟩,
 ⟨.move, [.tmp 10], (some 11), some (7, true)⟩,
 ⟨(.fieldAddr 7), [.tmp 1], (some 12), some (11, false)⟩,
 ⟨(.fieldAddr 0), [.tmp 12], (some 13), some (11, false)⟩,
 ⟨(.load false 1), [.tmp 13], (some 14), some (11, false)⟩,
 ⟨(.bin .eql), [.tmp 14, .const (.int .i64 0)], (some 15), some (11, false)⟩,
 ⟨.pick, [.tmp 11, .const (.bool true), .tmp 15], (some 16), some (7, true)⟩,
 ⟨.pick, [.tmp 7, .tmp 16, .const (.bool false)], (some 17), none⟩,
 ⟨.move, [.tmp 17], (some 2), none⟩])
 .ret)), [.tmp 2]⟩
theorem c14_ok : compFunc Try.prog Try.f14 = some c14 := by kernel_rfl
theorem c14_body : hasBody Try.prog 14 = true := hasBody_of Try.func14 (by kernel_rfl)
/-- coachyard/coachyardref01.SameInts -/
def c15 : PFn := ⟨26, Tr.ofList (List.replicate 26 undefA), (.seq (.seqR [⟨.move, [.const (.bool false)], (some 4), none⟩])
 (.seq (.seq (.seqR [⟨.move, [.tmp 0], (some 6), none⟩,
 ⟨.lenS, [.tmp 6], (some 7), none⟩,
 ⟨.move, [.tmp 1], (some 8), none⟩,
 ⟨.lenS, [.tmp 8], (some 9), none⟩,
 ⟨(.bin .neq), [.tmp 7, .tmp 9], (some 10), none⟩])
 (.cond (.tmp 10) (.seq (.seqR [⟨.move, [.const (.bool false)], (some 4), none⟩])
 .ret)
 .skip))
 (.seq (.seq (.seqR [⟨.move, [.const (.int .i64 0)], (some 5), none⟩])
 (.block 0 (.loop (.seq (.seq (.seqR [⟨.move, [.tmp 5], (some 11), none⟩,
 ⟨.move, [.tmp 0], (some 12), none⟩,
 ⟨.lenS, [.tmp 12], (some 13), none⟩,
 ⟨(.bin .lss), [.tmp 11, .tmp 13], (some 14), none⟩])
 (.cond (.tmp 14) .skip
 (.exit 0)))
 (.seq (.block 1 (.seq (.drawR [⟨⟨.move, [.tmp 0], (some 17), none⟩, false, false, 0, 0⟩,
 ⟨⟨.move, [.tmp 5], (some 18), none⟩, false, false, 0, 0⟩,
 ⟨⟨(.indexAddrS 1), [.tmp 17, .tmp 18], (some 19), none⟩, false, false, 0, 0⟩,
 ⟨⟨(.load false 1), [.tmp 19], (some 20), none⟩, false, false, 0, 0⟩,
 ⟨⟨.move, [.tmp 1], (some 21), none⟩, false, false, 0, 0⟩,
 ⟨⟨.move, [.tmp 5], (some 22), none⟩, false, false, 0, 0⟩,
 ⟨⟨(.indexAddrS 1), [.tmp 21, .tmp 22], (some 23), none⟩, false, false, 0, 0⟩,
 ⟨⟨(.load false 1), [.tmp 23], (some 24), none⟩, false, false, 0, 0⟩,
 ⟨⟨(.bin .neq), [.tmp 20, .tmp 24], (some 25), none⟩, false, false, 0, 0⟩])
 (.cond (.tmp 25) (.seq (.seqR [⟨.move, [.const (.bool false)], (some 4), none⟩])
 .ret)
 .skip)))
 (.seqR [⟨.move, [.tmp 5], (some 15), none⟩,
 ⟨(.bin .add), [.tmp 15, .const (.int .i64 1)], (some 16), none⟩,
 ⟨.move, [.tmp 16], (some 5), none⟩]))))))
 (.seq (.seqR [⟨.move, [.const (.bool true)], (some 4), none⟩])
 .ret)))), [.tmp 4]⟩
theorem c15_ok : compFunc Try.prog Try.f15 = some c15 := by kernel_rfl
theorem c15_body : hasBody Try.prog 15 = true := hasBody_of Try.func15 (by kernel_rfl)
/-- coachyard/bag.lacking -/
def c16 : PFn := ⟨60, Tr.ofList (List.replicate 60 undefA), (.seq (.seqR [⟨.box, [.tmp 1], (some 3), none⟩,
 ⟨.move, [.const (.int .i64 0)], (some 4), none⟩])
 (.seq (.seqR [⟨.makeMap, [], (some 11), none⟩,
 ⟨.move, [.tmp 11], (some 5), none⟩])
 (.seq (.seq (.seqR [⟨.move, [.tmp 0], (some 12), none⟩,
 ⟨.lenS, [.tmp 12], (some 13), none⟩,
 ⟨.move, [.const (.int .i64 0)], (some 14), none⟩])
 (.block 0 (.loop (.seq (.seqR [⟨(.bin .lss), [.tmp 14, .tmp 13], (some 15), none⟩])
 (.seq (.cond (.tmp 15) .skip
 (.exit 0))
 (.seq (.block 1 (.seq (.seqR [⟨(.indexAddrS 10), [.tmp 12, .tmp 14], (some 16), none⟩,
 ⟨(.load true 10), [.tmp 16], (some 17), none⟩,
 ⟨(.new [(.int .i64 0), (.int .i64 0), (.int .i64 0), (.int .i64 0), (.int .i64 0), (.int .u64 0), (.slice none 0 0 false), (.int .i64 0), (.int .u64 0), (.slice none 0 0 false)]), [], (some 7), none⟩,
 ⟨(.store 10), [.tmp 7, .tmp 17], none, none⟩])
 (.block 2 (.seq (.seqR [⟨(.load true 10), [.tmp 7], (some 19), none⟩,
 ⟨(.callF 27), [.tmp 19], (some 20), none⟩,
 ⟨.move, [.tmp 20], (some 21), none⟩,
 ⟨(.load true 10), [.tmp 7], (some 22), some (21, true)⟩,
 ⟨(.load true 10), [.tmp 3], (some 23), some (21, true)⟩,
 ⟨(.callF 28), [.tmp 22, .tmp 23], (some 24), some (21, true)⟩,
 ⟨.pick, [.tmp 21, .tmp 24, .const (.bool false)], (some 25), none⟩,
 ⟨.move, [.tmp 25], (some 18), none⟩])
 (.cond (.tmp 18) (.seqR [⟨.move, [.tmp 5], (some 26), none⟩,
 ⟨(.fieldAddr 4), [.tmp 7], (some 27), none⟩,
 ⟨(.fieldAddr 1), [.tmp 27], (some 28), none⟩,
 ⟨(.load false 1), [.tmp 28], (some 29), none⟩,
 ⟨(.lookup 0 false (.int .i64 0)), [.tmp 26, .tmp 29], (some 30), none⟩,
 ⟨(.bin .add), [.tmp 30, .const (.int .i64 1)], (some 31), none⟩,
 ⟨(.mapUpdate 0), [.tmp 26, .tmp 29, .tmp 31], none, none⟩])
 (.seq (.seqR [⟨(.load true 10), [.tmp 7], (some 33), none⟩,
 ⟨(.callF 21), [.tmp 33], (some 34), none⟩,
 ⟨.move, [.tmp 34], (some 35), none⟩,
 ⟨(.fieldAddr 2), [.tmp 7], (some 36), some (35, true)⟩,
 ⟨(.load false 1), [.tmp 36], (some 37), some (35, true)⟩,
 ⟨(.fieldAddr 3), [.tmp 3], (some 38), some (35, true)⟩,
 ⟨(.load false 1), [.tmp 38], (some 39), some (35, true)⟩,
 ⟨(.bin .lss), [.tmp 37, .tmp 39], (some 40), some (35, true)⟩,
 ⟨.pick, [.tmp 35, .tmp 40, .const (.bool false)], (some 41), none⟩,
 ⟨.move, [.tmp 41], (some 32), none⟩])
 (.cond (.tmp 32) (.seqR [⟨.move, [.tmp 5], (some 42), none⟩,
 ⟨(.fieldAddr 7), [.tmp 7], (some 43), none⟩,
 ⟨(.fieldAddr 1), [.tmp 43], (some 44), none⟩,
 ⟨(.load false 1), [.tmp 44], (some 45), none⟩,
 ⟨(.lookup 0 false (.int .i64 0)), [.tmp 42, .tmp 45], (some 46), none⟩,
 ⟨(.bin .sub), [.tmp 46, .const (.int .i64 1)], (some 47), none⟩,
 ⟨(.mapUpdate 0), [.tmp 42, .tmp 45, .tmp 47], none, none⟩])
 .skip)))))))
 (.seqR [⟨(.bin .add), [.tmp 14, .const (.int .i64 1)], (some 48), none⟩,
 ⟨.move, [.tmp 48], (some 14), none⟩])))))))
 (.seq (.seqR [⟨.move, [.const (.int .i64 0)], (some 8), none⟩])
 (.seq (.seq .fail
 (.block 3 (.loop (.seq .fail
 (.seq (.cond (.tmp 52) .skip
 (.exit 3))
 (.block 4 (.seq .fail
 (.seqR [⟨.move, [.tmp 8], (some 55), none⟩,
 ⟨.move, [.tmp 10], (some 56), none⟩,
 ⟨(.minmax true), [.tmp 56, .const (.int .i64 0)], (some 57), none⟩,
 ⟨(.bin .add), [.tmp 55, .tmp 57], (some 58), none⟩,
 ⟨.move, [.tmp 58], (some 8), none⟩]))))))))
 (.seq (.seqR [⟨.move, [.tmp 8], (some 59), none⟩,
 ⟨.move, [.tmp 59], (some 4), none⟩])
 .ret)))))), [.tmp 4]⟩
theorem c16_ok : compFunc Try.prog Try.f16 = some c16 := by kernel_rfl
theorem c16_body : hasBody Try.prog 16 = true := hasBody_of Try.func16 (by kernel_rfl)
/-- coachyard/coachyardref16.lacks -/
def c17 : PFn := ⟨80, Tr.ofList (List.replicate 80 undefA), (.seq (.seqR [⟨.box, [.tmp 1], (some 4), none⟩,
 ⟨.move, [.const (.int .i64 0)], (some 6), none⟩])
 (.seq (.seqR [⟨.move, [.const (.int .i64 0)], (some 7), none⟩])
 (.seq (.seq (.seqR [⟨.move, [.const (.int .i64 0)], (some 8), none⟩])
 (.block 0 (.loop (.seq (.seq (.seqR [⟨.move, [.tmp 8], (some 9), none⟩,
 ⟨.move, [.tmp 0], (some 10), none⟩,
 ⟨.lenS, [.tmp 10], (some 11), none⟩,
 ⟨(.bin .lss), [.tmp 9, .tmp 11], (some 12), none⟩])
 (.cond (.tmp 12) .skip
 (.exit 0)))
 (.seq (.block 1 (.seq (.seq (.drawR [⟨⟨.move, [.tmp 0], (some 15), none⟩, false, false, 0, 0⟩,
 ⟨⟨.move, [.tmp 8], (some 16), none⟩, false, false, 0, 0⟩,
 ⟨⟨(.indexAddrS 10), [.tmp 15, .tmp 16], (some 17), none⟩, false, false, 0, 0⟩,
 ⟨⟨(.load true 10), [.tmp 17], (some 18), none⟩, false, false, 0, 0⟩,
 ⟨⟨(.callF 14), [.tmp 18], (some 19), none⟩, true, false, 0, 1⟩,
 ⟨⟨.move, [.tmp 19], (some 20), none⟩, false, false, 1, 1⟩,
 ⟨⟨.move, [.tmp 0], (some 21), some (20, true)⟩, false, false, 1, 1⟩,
 ⟨⟨.move, [.tmp 8], (some 22), some (20, true)⟩, false, false, 1, 1⟩,
 ⟨⟨(.indexAddrS 10), [.tmp 21, .tmp 22], (some 23), some (20, true)⟩, false, false, 1, 1⟩,
 ⟨⟨(.fieldAddr 4), [.tmp 23], (some 24), some (20, true)⟩, false, false, 1, 1⟩,
 ⟨⟨(.fieldAddr 1), [.tmp 24], (some 25), some (20, true)⟩, false, false, 1, 1⟩,
 ⟨⟨(.load false 1), [.tmp 25], (some 26), some (20, true)⟩, false, false, 1, 1⟩,
 ⟨⟨.move, [.tmp 2], (some 27), some (20, true)⟩, false, false, 1, 1⟩,
 ⟨⟨(.bin .eql), [.tmp 26, .tmp 27], (some 28), some (20, true)⟩, false, false, 1, 1⟩,
 ⟨⟨.pick, [.tmp 20, .tmp 28, .const (.bool false)], (some 29), none⟩, false, false, 1, 1⟩,
 ⟨⟨.move, [.tmp 29], (some 30), none⟩, false, false, 1, 1⟩,
 ⟨⟨.move, [.tmp 0], (some 31), some (30, true)⟩, false, false, 1, 1⟩,
 ⟨⟨.move, [.tmp 8], (some 32), some (30, true)⟩, false, false, 1, 1⟩,
 ⟨⟨(.indexAddrS 10), [.tmp 31, .tmp 32], (some 33), some (30, true)⟩, false, false, 1, 1⟩,
 ⟨⟨(.fieldAddr 3), [.tmp 33], (some 34), some (30, true)⟩, false, false, 1, 1⟩,
 ⟨⟨(.load false 1), [.tmp 34], (some 35), some (30, true)⟩, false, false, 1, 1⟩,
 ⟨⟨(.bin .geq), [.tmp 35, .const (.int .i64 0)], (some 36), some (30, true)⟩, false, false, 1, 1⟩,
 ⟨⟨.pick, [.tmp 30, .tmp 36, .const (.bool false)], (some 37), none⟩, false, false, 1, 1⟩,
 ⟨⟨.move, [.tmp 37], (some 38), none⟩, false, false, 1, 1⟩,
 ⟨⟨.move, [.tmp 0], (some 39), some (38, true)⟩, false, false, 1, 1⟩,
 ⟨⟨.move, [.tmp 8], (some 40), some (38, true)⟩, false, false, 1, 1⟩,
 ⟨⟨(.indexAddrS 10), [.tmp 39, .tmp 40], (some 41), some (38, true)⟩, false, false, 1, 1⟩,
 ⟨⟨(.fieldAddr 3), [.tmp 41], (some 42), some (38, true)⟩, false, false, 1, 1⟩,
 ⟨⟨(.load false 1), [.tmp 42], (some 43), some (38, true)⟩, false, false, 1, 1⟩,
 ⟨⟨(.fieldAddr 2), [.tmp 4], (some 44), some (38, true)⟩, false, false, 1, 1⟩,
 ⟨⟨(.load false 1), [.tmp 44], (some 45), some (38, true)⟩, false, false, 1, 1⟩,
 ⟨⟨(.bin .lss), [.tmp 43, .tmp 45], (some 46), some (38, true)⟩, false, false, 1, 1⟩,
 ⟨⟨.pick, [.tmp 38, .tmp 46, .const (.bool false)], (some 47), none⟩, false, false, 1, 1⟩])
 (.cond (.tmp 47) (.seqR [⟨.move, [.tmp 7], (some 48), none⟩,
 ⟨(.bin .add), [.tmp 48, .const (.int .i64 1)], (some 49), none⟩,
 ⟨.move, [.tmp 49], (some 7), none⟩])
 .skip))
 (.seq (.drawR [⟨⟨.move, [.tmp 0], (some 50), none⟩, false, false, 0, 0⟩,
 ⟨⟨.move, [.tmp 8], (some 51), none⟩, false, false, 0, 0⟩,
 ⟨⟨(.indexAddrS 10), [.tmp 50, .tmp 51], (some 52), none⟩, false, false, 0, 0⟩,
 ⟨⟨(.load true 10), [.tmp 52], (some 53), none⟩, false, false, 0, 0⟩,
 ⟨⟨(.callF 11), [.tmp 53], (some 54), none⟩, true, false, 0, 1⟩,
 ⟨⟨.move, [.tmp 54], (some 55), none⟩, false, false, 1, 1⟩,
 ⟨⟨.move, [.tmp 0], (some 56), some (55, true)⟩, false, false, 1, 1⟩,
 ⟨⟨.move, [.tmp 8], (some 57), some (55, true)⟩, false, false, 1, 1⟩,
 ⟨⟨(.indexAddrS 10), [.tmp 56, .tmp 57], (some 58), some (55, true)⟩, false, false, 1, 1⟩,
 ⟨⟨(.fieldAddr 7), [.tmp 58], (some 59), some (55, true)⟩, false, false, 1, 1⟩,
 ⟨⟨(.fieldAddr 1), [.tmp 59], (some 60), some (55, true)⟩, false, false, 1, 1⟩,
 ⟨⟨(.load false 1), [.tmp 60], (some 61), some (55, true)⟩, false, false, 1, 1⟩,
 ⟨⟨.move, [.tmp 2], (some 62), some (55, true)⟩, false, false, 1, 1⟩,
 ⟨⟨(.bin .eql), [.tmp 61, .tmp 62], (some 63), some (55, true)⟩, false, false, 1, 1⟩,
 ⟨⟨.pick, [.tmp 55, .tmp 63, .const (.bool false)], (some 64), none⟩, false, false, 1, 1⟩,
 ⟨⟨.move, [.tmp 64], (some 65), none⟩, false, false, 1, 1⟩,
 ⟨⟨.move, [.tmp 0], (some 66), some (65, true)⟩, false, false, 1, 1⟩,
 ⟨⟨.move, [.tmp 8], (some 67), some (65, true)⟩, false, false, 1, 1⟩,
 ⟨⟨(.indexAddrS 10), [.tmp 66, .tmp 67], (some 68), some (65, true)⟩, false, false, 1, 1⟩,
 ⟨⟨(.fieldAddr 2), [.tmp 68], (some 69), some (65, true)⟩, false, false, 1, 1⟩,
 ⟨⟨(.load false 1), [.tmp 69], (some 70), some (65, true)⟩, false, false, 1, 1⟩,
 ⟨⟨(.fieldAddr 3), [.tmp 4], (some 71), some (65, true)⟩, false, false, 1, 1⟩,
 ⟨⟨(.load false 1), [.tmp 71], (some 72), some (65, true)⟩, false, false, 1, 1⟩,
 ⟨⟨(.bin .lss), [.tmp 70, .tmp 72], (some 73), some (65, true)⟩, false, false, 1, 1⟩,
 ⟨⟨.pick, [.tmp 65, .tmp 73, .const (.bool false)], (some 74), none⟩, false, false, 1, 1⟩])
 (.cond (.tmp 74) (.seqR [⟨.move, [.tmp 7], (some 75), none⟩,
 ⟨(.bin .sub), [.tmp 75, .const (.int .i64 1)], (some 76), none⟩,
 ⟨.move, [.tmp 76], (some 7), none⟩])
 .skip))))
 (.seqR [⟨.move, [.tmp 8], (some 13), none⟩,
 ⟨(.bin .add), [.tmp 13, .const (.int .i64 1)], (some 14), none⟩,
 ⟨.move, [.tmp 14], (some 8), none⟩]))))))
 (.seq (.seq (.seqR [⟨.move, [.tmp 7], (some 77), none⟩,
 ⟨(.bin .lss), [.tmp 77, .const (.int .i64 0)], (some 78), none⟩])
 (.cond (.tmp 78) (.seq (.seqR [⟨.move, [.const (.int .i64 0)], (some 6), none⟩])
 .ret)
 .skip))
 (.seq (.seqR [⟨.move, [.tmp 7], (some 79), none⟩,
 ⟨.move, [.tmp 79], (some 6), none⟩])
 .ret))))), [.tmp 6]⟩
theorem c17_ok : compFunc Try.prog Try.f17 = some c17 := by kernel_rfl
theorem c17_body : hasBody Try.prog 17 = true := hasBody_of Try.func17 (by kernel_rfl)
/-- coachyard/bag.matched -/
def c18 : PFn := ⟨80, Tr.ofList (List.replicate 80 undefA), (.seq (.seqR [⟨.move, [.const (.map none)], (some 2), none⟩,
 ⟨.move, [.const (.bool false)], (some 3), none⟩])
 (.seq (.seqR [⟨.makeMap, [], (some 11), none⟩,
 ⟨.move, [.tmp 11], (some 4), none⟩])
 (.seq (.seqR [⟨.move, [.tmp 0], (some 12), none⟩,
 ⟨(.callF 20), [.tmp 12, .const (.func (.func 27) [] []), .const (.func (.func 29) [] [])], (some 13), none⟩,
 ⟨.move, [.tmp 13], (some 5), none⟩])
 (.seq (.seq (.seqR [⟨.move, [.tmp 0], (some 14), none⟩,
 ⟨(.callF 20), [.tmp 14, .const (.func (.func 21) [] []), .const (.func (.func 22) [] [])], (some 15), none⟩,
 ⟨.lenS, [.tmp 15], (some 16), none⟩,
 ⟨.move, [.const (.int .i64 0)], (some 17), none⟩])
 (.block 0 (.loop (.seq (.seqR [⟨(.bin .lss), [.tmp 17, .tmp 16], (some 18), none⟩])
 (.seq (.cond (.tmp 18) .skip
 (.exit 0))
 (.seq (.block 1 (.seq (.seqR [⟨(.indexAddrS 1), [.tmp 15, .tmp 17], (some 19), none⟩,
 ⟨(.load false 1), [.tmp 19], (some 20), none⟩,
 ⟨.move, [.tmp 20], (some 7), none⟩])
 (.seq (.seqR [⟨.move, [.const (.int .i64 (-1))], (some 8), none⟩])
 (.seq (.seq (.seqR [⟨.move, [.tmp 5], (some 21), none⟩,
 ⟨.lenS, [.tmp 21], (some 22), none⟩,
 ⟨.move, [.const (.int .i64 0)], (some 23), none⟩])
 (.block 2 (.loop (.seq (.seqR [⟨(.bin .lss), [.tmp 23, .tmp 22], (some 24), none⟩])
 (.seq (.cond (.tmp 24) .skip
 (.exit 2))
 (.seq (.block 3 (.seq (.seqR [⟨.move, [.tmp 23], (some 25), none⟩,
 ⟨(.indexAddrS 1), [.tmp 21, .tmp 23], (some 26), none⟩,
 ⟨(.load false 1), [.tmp 26], (some 27), none⟩,
 ⟨.move, [.tmp 25], (some 9), none⟩,
 ⟨.move, [.tmp 27], (some 10), none⟩])
 (.seq (.seq (.drawR [⟨⟨.move, [.tmp 0], (some 28), none⟩, false, false, 0, 0⟩,
 ⟨⟨.move, [.tmp 10], (some 29), none⟩, false, false, 0, 0⟩,
 ⟨⟨(.indexAddrS 10), [.tmp 28, .tmp 29], (some 30), none⟩, false, false, 0, 0⟩,
 ⟨⟨(.fieldAddr 4), [.tmp 30], (some 31), none⟩, false, false, 0, 0⟩,
 ⟨⟨(.fieldAddr 1), [.tmp 31], (some 32), none⟩, false, false, 0, 0⟩,
 ⟨⟨(.load false 1), [.tmp 32], (some 33), none⟩, false, false, 0, 0⟩,
 ⟨⟨.move, [.tmp 0], (some 34), none⟩, false, false, 0, 0⟩,
 ⟨⟨.move, [.tmp 7], (some 35), none⟩, false, false, 0, 0⟩,
 ⟨⟨(.indexAddrS 10), [.tmp 34, .tmp 35], (some 36), none⟩, false, false, 0, 0⟩,
 ⟨⟨(.fieldAddr 7), [.tmp 36], (some 37), none⟩, false, false, 0, 0⟩,
 ⟨⟨(.fieldAddr 1), [.tmp 37], (some 38), none⟩, false, false, 0, 0⟩,
 ⟨⟨(.load false 1), [.tmp 38], (some 39), none⟩, false, false, 0, 0⟩,
 ⟨⟨(.bin .neq), [.tmp 33, .tmp 39], (some 40), none⟩, false, false, 0, 0⟩,
 ⟨⟨.move, [.tmp 40], (some 41), none⟩, false, false, 0, 0⟩,
 ⟨⟨.move, [.tmp 0], (some 42), some (41, false)⟩, false, false, 0, 0⟩,
 ⟨⟨.move, [.tmp 10], (some 43), some (41, false)⟩, false, false, 0, 0⟩,
 ⟨⟨(.indexAddrS 10), [.tmp 42, .tmp 43], (some 44), some (41, false)⟩, false, false, 0, 0⟩,
 ⟨⟨(.fieldAddr 2), [.tmp 44], (some 45), some (41, false)⟩, false, false, 0, 0⟩,
 ⟨⟨(.load false 1), [.tmp 45], (some 46), some (41, false)⟩, false, false, 0, 0⟩,
 ⟨⟨.move, [.tmp 0], (some 47), some (41, false)⟩, false, false, 0, 0⟩,
 ⟨⟨.move, [.tmp 7], (some 48), some (41, false)⟩, false, false, 0, 0⟩,
 ⟨⟨(.indexAddrS 10), [.tmp 47, .tmp 48], (some 49), some (41, false)⟩, false, false, 0, 0⟩,
 ⟨⟨(.fieldAddr 3), [.tmp 49], (some 50), some (41, false)⟩, false, false, 0, 0⟩,
 ⟨⟨(.load false 1), [.tmp 50], (some 51), some (41, false)⟩, false, false, 0, 0⟩,
 ⟨⟨(.bin .geq), [.tmp 46, .tmp 51], (some 52), some (41, false)⟩, false, false, 0, 0⟩,
 ⟨⟨.pick, [.tmp 41, .const (.bool true), .tmp 52], (some 53), none⟩, false, false, 0, 0⟩])
 (.cond (.tmp 53) (.exit 3)
 .skip))
 (.seq (.seq (.seqR [⟨.move, [.tmp 0], (some 54), none⟩,
 ⟨.move, [.tmp 10], (some 55), none⟩,
 ⟨(.indexAddrS 10), [.tmp 54, .tmp 55], (some 56), none⟩,
 ⟨(.fieldAddr 3), [.tmp 56], (some 57), none⟩,
 ⟨(.load false 1), [.tmp 57], (some 58), none⟩,
 ⟨(.bin .geq), [.tmp 58, .const (.int .i64 0)], (some 59), none⟩])
 (.cond (.tmp 59) (.seq (.seqR [⟨.move, [.tmp 9], (some 60), none⟩,
 ⟨.move, [.tmp 60], (some 8), none⟩])
 (.exit 2))
 .skip))
 (.seq (.seqR [⟨.move, [.tmp 8], (some 61), none⟩,
 ⟨(.bin .lss), [.tmp 61, .const (.int .i64 0)], (some 62), none⟩])
 (.cond (.tmp 62) (.seqR [⟨.move, [.tmp 9], (some 63), none⟩,
 ⟨.move, [.tmp 63], (some 8), none⟩])
 .skip))))))
 (.seqR [⟨(.bin .add), [.tmp 23, .const (.int .i64 1)], (some 64), none⟩,
 ⟨.move, [.tmp 64], (some 23), none⟩])))))))
 (.seq (.seq (.seqR [⟨.move, [.tmp 8], (some 65), none⟩,
 ⟨(.bin .lss), [.tmp 65, .const (.int .i64 0)], (some 66), none⟩])
 (.cond (.tmp 66) (.seq (.seqR [⟨.move, [.const (.map none)], (some 2), none⟩,
 ⟨.move, [.const (.bool false)], (some 3), none⟩])
 .ret)
 .skip))
 (.seq (.seqR [⟨.move, [.tmp 4], (some 67), none⟩,
 ⟨.move, [.tmp 7], (some 68), none⟩,
 ⟨.move, [.tmp 5], (some 69), none⟩,
 ⟨.move, [.tmp 8], (some 70), none⟩,
 ⟨(.indexAddrS 1), [.tmp 69, .tmp 70], (some 71), none⟩,
 ⟨(.load false 1), [.tmp 71], (some 72), none⟩,
 ⟨(.mapUpdate 0), [.tmp 67, .tmp 68, .tmp 72], none, none⟩])
 (.seqR [⟨.move, [.tmp 5], (some 73), none⟩,
 ⟨.move, [.tmp 8], (some 74), none⟩,
 ⟨.move, [.tmp 8], (some 75), none⟩,
 ⟨(.bin .add), [.tmp 75, .const (.int .i64 1)], (some 76), none⟩,
 ⟨(.callF 30), [.tmp 73, .tmp 74, .tmp 76], (some 77), none⟩,
 ⟨.move, [.tmp 77], (some 5), none⟩])))))))
 (.seqR [⟨(.bin .add), [.tmp 17, .const (.int .i64 1)], (some 78), none⟩,
 ⟨.move, [.tmp 78], (some 17), none⟩])))))))
 (.seq (.seqR [⟨.move, [.tmp 4], (some 79), none⟩,
 ⟨.move, [.tmp 79], (some 2), none⟩,
 ⟨.move, [.const (.bool true)], (some 3), none⟩])
 .ret))))), [.tmp 2, .tmp 3]⟩
theorem c18_ok : compFunc Try.prog Try.f18 = some c18 := by kernel_rfl
theorem c18_body : hasBody Try.prog 18 = true := hasBody_of Try.func18 (by kernel_rfl)
/-- coachyard/bag.named -/
def c19 : PFn := ⟨45, Tr.ofList (List.replicate 45 undefA), (.seq (.seqR [⟨.move, [.const (.slice none 0 0 false)], (some 4), none⟩])
 (.seq (.seqR [⟨.makeMap, [], (some 11), none⟩,
 ⟨.move, [.tmp 11], (some 5), none⟩])
 (.seq (.seq .fail
 (.block 0 (.loop (.seq .fail
 (.seq (.cond (.tmp 15) .skip
 (.exit 0))
 (.block 1 (.seq .fail
 (.seqR [⟨.move, [.tmp 5], (some 18), none⟩,
 ⟨.move, [.tmp 7], (some 19), none⟩,
 ⟨(.mapUpdate 0), [.tmp 18, .tmp 19, .const (.bool true)], none, none⟩]))))))))
 (.seq (.seqR [⟨.move, [.const (.slice none 0 0 false)], (some 8), none⟩])
 (.seq (.seq (.seqR [⟨.move, [.tmp 0], (some 20), none⟩,
 ⟨.lenS, [.tmp 20], (some 21), none⟩,
 ⟨.move, [.const (.int .i64 0)], (some 22), none⟩])
 (.block 2 (.loop (.seq (.seqR [⟨(.bin .lss), [.tmp 22, .tmp 21], (some 23), none⟩])
 (.seq (.cond (.tmp 23) .skip
 (.exit 2))
 (.seq (.block 3 (.seq (.seqR [⟨.move, [.tmp 22], (some 24), none⟩,
 ⟨(.indexAddrS 10), [.tmp 20, .tmp 22], (some 25), none⟩,
 ⟨(.load true 10), [.tmp 25], (some 26), none⟩,
 ⟨(.new [(.int .i64 0), (.int .i64 0), (.int .i64 0), (.int .i64 0), (.int .i64 0), (.int .u64 0), (.slice none 0 0 false), (.int .i64 0), (.int .u64 0), (.slice none 0 0 false)]), [], (some 10), none⟩,
 ⟨.move, [.tmp 24], (some 9), none⟩,
 ⟨(.store 10), [.tmp 10, .tmp 26], none, none⟩])
 (.seq (.seqR [⟨(.load true 10), [.tmp 10], (some 27), none⟩,
 ⟨(.callF 27), [.tmp 27], (some 28), none⟩,
 ⟨.move, [.tmp 28], (some 29), none⟩,
 ⟨(.fieldAddr 3), [.tmp 10], (some 30), some (29, true)⟩,
 ⟨(.load false 1), [.tmp 30], (some 31), some (29, true)⟩,
 ⟨(.bin .geq), [.tmp 31, .const (.int .i64 0)], (some 32), some (29, true)⟩,
 ⟨.move, [.tmp 32], (some 33), some (29, true)⟩,
 ⟨.move, [.tmp 5], (some 34), some (33, false)⟩,
 ⟨.move, [.tmp 9], (some 35), some (33, false)⟩,
 ⟨(.lookup 0 false (.bool false)), [.tmp 34, .tmp 35], (some 36), some (33, false)⟩,
 ⟨.pick, [.tmp 33, .const (.bool true), .tmp 36], (some 37), some (29, true)⟩,
 ⟨.pick, [.tmp 29, .tmp 37, .const (.bool false)], (some 38), none⟩])
 (.cond (.tmp 38) (.seqR [⟨.move, [.tmp 8], (some 39), none⟩,
 ⟨.move, [.tmp 9], (some 40), none⟩,
 ⟨(.sliceLit 1 [(.int .i64 0)] [(0, 1)]), [.tmp 40], (some 41), none⟩,
 ⟨(.append 1 8), [.tmp 39, .tmp 41], (some 42), none⟩,
 ⟨.move, [.tmp 42], (some 8), none⟩])
 .skip))))
 (.seqR [⟨(.bin .add), [.tmp 22, .const (.int .i64 1)], (some 43), none⟩,
 ⟨.move, [.tmp 43], (some 22), none⟩])))))))
 (.seq (.seqR [⟨.move, [.tmp 8], (some 44), none⟩,
 ⟨.move, [.tmp 44], (some 4), none⟩])
 .ret)))))), [.tmp 4]⟩
theorem c19_ok : compFunc Try.prog Try.f19 = some c19 := by kernel_rfl
theorem c19_body : hasBody Try.prog 19 = true := hasBody_of Try.func19 (by kernel_rfl)
/-- coachyard/bag.places -/
def c20 : PFn := ⟨29, Tr.ofList (List.replicate 29 undefA), (.seq (.seqR [⟨.box, [.tmp 0], (some 3), none⟩,
 ⟨.box, [.tmp 2], (some 5), none⟩,
 ⟨.move, [.const (.slice none 0 0 false)], (some 6), none⟩])
 (.seq (.seqR [⟨.move, [.const (.slice none 0 0 false)], (some 7), none⟩])
 (.seq (.seq (.seqR [⟨(.load false 1), [.tmp 3], (some 10), none⟩,
 ⟨.lenS, [.tmp 10], (some 11), none⟩,
 ⟨.move, [.const (.int .i64 0)], (some 12), none⟩])
 (.block 0 (.loop (.seq (.seqR [⟨(.bin .lss), [.tmp 12, .tmp 11], (some 13), none⟩])
 (.seq (.cond (.tmp 13) .skip
 (.exit 0))
 (.seq (.block 1 (.seq (.seqR [⟨.move, [.tmp 12], (some 14), none⟩,
 ⟨(.indexAddrS 10), [.tmp 10, .tmp 12], (some 15), none⟩,
 ⟨(.load true 10), [.tmp 15], (some 16), none⟩,
 ⟨(.new [(.int .i64 0), (.int .i64 0), (.int .i64 0), (.int .i64 0), (.int .i64 0), (.int .u64 0), (.slice none 0 0 false), (.int .i64 0), (.int .u64 0), (.slice none 0 0 false)]), [], (some 9), none⟩,
 ⟨.move, [.tmp 14], (some 8), none⟩,
 ⟨(.store 10), [.tmp 9, .tmp 16], none, none⟩])
 (.seq (.seqR [⟨.move, [.tmp 1], (some 17), none⟩,
 ⟨(.load true 10), [.tmp 9], (some 18), none⟩,
 ⟨.callV, [.tmp 17, .tmp 18], (some 19), none⟩])
 (.cond (.tmp 19) (.seqR [⟨.move, [.tmp 7], (some 20), none⟩,
 ⟨.move, [.tmp 8], (some 21), none⟩,
 ⟨(.sliceLit 1 [(.int .i64 0)] [(0, 1)]), [.tmp 21], (some 22), none⟩,
 ⟨(.append 1 8), [.tmp 20, .tmp 22], (some 23), none⟩,
 ⟨.move, [.tmp 23], (some 7), none⟩])
 .skip))))
 (.seqR [⟨(.bin .add), [.tmp 12, .const (.int .i64 1)], (some 24), none⟩,
 ⟨.move, [.tmp 24], (some 12), none⟩])))))))
 (.seq (.seqR [⟨.move, [.tmp 7], (some 25), none⟩,
 ⟨(.mkFunc (.func 32) 0), [.tmp 5, .tmp 3], (some 26), none⟩,
 ⟨(.callF 31), [.tmp 25, .tmp 26], (some 27), none⟩])
 (.seq (.seqR [⟨.move, [.tmp 7], (some 28), none⟩,
 ⟨.move, [.tmp 28], (some 6), none⟩])
 .ret))))), [.tmp 6]⟩
theorem c20_ok : compFunc Try.prog Try.f20 = some c20 := by kernel_rfl
theorem c20_body : hasBody Try.prog 20 = true := hasBody_of Try.func20 (by kernel_rfl)
/-- coachyard/bag.taking -/
def c21 : PFn := ⟨18, Tr.ofList (List.replicate 18 undefA), (.seq (.seqR [⟨.box, [.tmp 0], (some 1), none⟩,
 ⟨.move, [.const (.bool false)], (some 2), none⟩])
 (.seq (.seqR [⟨(.fieldAddr 4), [.tmp 1], (some 3), none⟩,
 ⟨(.fieldAddr 0), [.tmp 3], (some 4), none⟩,
 ⟨(.load false 1), [.tmp 4], (some 5), none⟩,
 ⟨(.bin .eql), [.tmp 5, .const (.int .i64 2)], (some 6), none⟩,
 ⟨.move, [.tmp 6], (some 7), none⟩,
 ⟨(.fieldAddr 3), [.tmp 1], (some 8), some (7, true)⟩,
 ⟨(.load false 1), [.tmp 8], (some 9), some (7, true)⟩,
 ⟨(.bin .geq), [.tmp 9, .const (.int .i64 0)], (some 10), some (7, true)⟩,
 ⟨.pick, [.tmp 7, .tmp 10, .const (.bool false)], (some 11), none⟩,
 ⟨.move, [.tmp 11], (some 12), none⟩,
 ⟨(.fieldAddr 7), [.tmp 1], (some 13), some (12, true)⟩,
 ⟨(.fieldAddr 0), [.tmp 13], (some 14), some (12, true)⟩,
 ⟨(.load false 1), [.tmp 14], (some 15), some (12, true)⟩,
 ⟨(.bin .eql), [.tmp 15, .const (.int .i64 0)], (some 16), some (12, true)⟩,
 ⟨.pick, [.tmp 12, .tmp 16, .const (.bool false)], (some 17), none⟩,
 ⟨.move, [.tmp 17], (some 2), none⟩])
 .ret)), [.tmp 2]⟩
theorem c21_ok : compFunc Try.prog Try.f21 = some c21 := by kernel_rfl
theorem c21_body : hasBody Try.prog 21 = true := hasBody_of Try.func21 (by kernel_rfl)
/-- coachyard/bag.to -/
def c22 : PFn := ⟨5, Tr.ofList (List.replicate 5 undefA), (.seq (.seqR [⟨.box, [.tmp 0], (some 1), none⟩,
 ⟨.move, [.const (.int .i64 0)], (some 2), none⟩])
 (.seq (.seqR [⟨(.fieldAddr 3), [.tmp 1], (some 3), none⟩,
 ⟨(.load false 1), [.tmp 3], (some 4), none⟩,
 ⟨.move, [.tmp 4], (some 2), none⟩])
 .ret)), [.tmp 2]⟩
theorem c22_ok : compFunc Try.prog Try.f22 = some c22 := by kernel_rfl
theorem c22_body : hasBody Try.prog 22 = true := hasBody_of Try.func22 (by kernel_rfl)
/-- slices.SortFunc[[]coachyard/bag.deed,coachyard/bag.deed] -/
def c23 : PFn := ⟨14, Tr.ofList (List.replicate 14 undefA), (.seq (.seqR [⟨.move, [.tmp 0], (some 5), none⟩,
 ⟨.lenS, [.tmp 5], (some 6), none⟩,
 ⟨.move, [.tmp 6], (some 4), none⟩])
 (.seqR [⟨.move, [.tmp 0], (some 7), none⟩,
 ⟨.move, [.tmp 4], (some 8), none⟩,
 ⟨.move, [.tmp 4], (some 9), none⟩,
 ⟨(.conv .u64), [.tmp 9], (some 10), none⟩,
 ⟨(.callF 34), [.tmp 10], (some 11), none⟩,
 ⟨.move, [.tmp 1], (some 12), none⟩,
 ⟨(.callF 33), [.tmp 7, .const (.int .i64 0), .tmp 8, .tmp 11, .tmp 12], (some 13), none⟩])), []⟩
theorem c23_ok : compFunc Try.prog Try.f23 = some c23 := by kernel_rfl
theorem c23_body : hasBody Try.prog 23 = true := hasBody_of Try.func23 (by kernel_rfl)
/-- coachyard/bag.Order$1 -/
def c24 : PFn := ⟨37, Tr.ofList (List.replicate 37 undefA), (.seq (.seqR [⟨.box, [.tmp 0], (some 2), none⟩,
 ⟨.box, [.tmp 1], (some 3), none⟩,
 ⟨.move, [.const (.int .i64 0)], (some 4), none⟩])
 (.seq (.block 0 (.seq (.seqR [⟨(.fieldAddr 0), [.tmp 2], (some 6), none⟩,
 ⟨(.load false 1), [.tmp 6], (some 7), none⟩,
 ⟨(.fieldAddr 0), [.tmp 3], (some 8), none⟩,
 ⟨(.load false 1), [.tmp 8], (some 9), none⟩,
 ⟨(.bin .neq), [.tmp 7, .tmp 9], (some 10), none⟩,
 ⟨.move, [.tmp 10], (some 5), none⟩])
 (.cond (.tmp 5) (.seq (.seqR [⟨(.fieldAddr 0), [.tmp 2], (some 11), none⟩,
 ⟨(.load false 1), [.tmp 11], (some 12), none⟩,
 ⟨(.fieldAddr 0), [.tmp 3], (some 13), none⟩,
 ⟨(.load false 1), [.tmp 13], (some 14), none⟩,
 ⟨(.callF 25), [.tmp 12, .tmp 14], (some 15), none⟩,
 ⟨.move, [.tmp 15], (some 4), none⟩])
 .ret)
 (.seq (.seqR [⟨(.fieldAddr 2), [.tmp 2], (some 17), none⟩,
 ⟨(.load false 1), [.tmp 17], (some 18), none⟩,
 ⟨(.fieldAddr 2), [.tmp 3], (some 19), none⟩,
 ⟨(.load false 1), [.tmp 19], (some 20), none⟩,
 ⟨(.eqBool true), [.tmp 18, .tmp 20], (some 21), none⟩,
 ⟨.move, [.tmp 21], (some 22), none⟩,
 ⟨(.fieldAddr 2), [.tmp 2], (some 23), some (22, true)⟩,
 ⟨(.load false 1), [.tmp 23], (some 24), some (22, true)⟩,
 ⟨.pick, [.tmp 22, .tmp 24, .const (.bool false)], (some 25), none⟩,
 ⟨.move, [.tmp 25], (some 16), none⟩])
 (.cond (.tmp 16) (.seq (.seqR [⟨.move, [.const (.int .i64 1)], (some 4), none⟩])
 .ret)
 (.seq (.seqR [⟨(.fieldAddr 2), [.tmp 2], (some 27), none⟩,
 ⟨(.load false 1), [.tmp 27], (some 28), none⟩,
 ⟨(.fieldAddr 2), [.tmp 3], (some 29), none⟩,
 ⟨(.load false 1), [.tmp 29], (some 30), none⟩,
 ⟨(.eqBool true), [.tmp 28, .tmp 30], (some 31), none⟩,
 ⟨.move, [.tmp 31], (some 26), none⟩])
 (.cond (.tmp 26) (.seq (.seqR [⟨.move, [.const (.int .i64 (-1))], (some 4), none⟩])
 .ret)
 .skip)))))))
 (.seq (.seqR [⟨(.fieldAddr 1), [.tmp 2], (some 32), none⟩,
 ⟨(.load false 1), [.tmp 32], (some 33), none⟩,
 ⟨(.fieldAddr 1), [.tmp 3], (some 34), none⟩,
 ⟨(.load false 1), [.tmp 34], (some 35), none⟩,
 ⟨(.callF 25), [.tmp 33, .tmp 35], (some 36), none⟩,
 ⟨.move, [.tmp 36], (some 4), none⟩])
 .ret))), [.tmp 4]⟩
theorem c24_ok : compFunc Try.prog Try.f24 = some c24 := by kernel_rfl
theorem c24_body : hasBody Try.prog 24 = true := hasBody_of Try.func24 (by kernel_rfl)
/-- cmp.Compare[int] -/
def c25 : PFn := ⟨20, Tr.ofList (List.replicate 20 undefA), (.seq (.seqR [⟨.move, [.const (.int .i64 0)], (some 4), none⟩])
 (.seq (.seqR [⟨.move, [.tmp 0], (some 7), none⟩,
 ⟨(.callF 35), [.tmp 7], (some 8), none⟩,
 ⟨.move, [.tmp 8], (some 5), none⟩])
 (.seq (.seqR [⟨.move, [.tmp 1], (some 9), none⟩,
 ⟨(.callF 35), [.tmp 9], (some 10), none⟩,
 ⟨.move, [.tmp 10], (some 6), none⟩])
 (.seq (.seq (.seqR [⟨.move, [.tmp 5], (some 11), none⟩])
 (.cond (.tmp 11) (.seq (.seq (.seqR [⟨.move, [.tmp 6], (some 12), none⟩])
 (.cond (.tmp 12) (.seq (.seqR [⟨.move, [.const (.int .i64 0)], (some 4), none⟩])
 .ret)
 .skip))
 (.seq (.seqR [⟨.move, [.const (.int .i64 (-1))], (some 4), none⟩])
 .ret))
 .skip))
 (.seq (.seq (.seqR [⟨.move, [.tmp 6], (some 13), none⟩])
 (.cond (.tmp 13) (.seq (.seqR [⟨.move, [.const (.int .i64 1)], (some 4), none⟩])
 .ret)
 .skip))
 (.seq (.seq (.seqR [⟨.move, [.tmp 0], (some 14), none⟩,
 ⟨.move, [.tmp 1], (some 15), none⟩,
 ⟨(.bin .lss), [.tmp 14, .tmp 15], (some 16), none⟩])
 (.cond (.tmp 16) (.seq (.seqR [⟨.move, [.const (.int .i64 (-1))], (some 4), none⟩])
 .ret)
 .skip))
 (.seq (.seq (.seqR [⟨.move, [.tmp 0], (some 17), none⟩,
 ⟨.move, [.tmp 1], (some 18), none⟩,
 ⟨(.bin .gtr), [.tmp 17, .tmp 18], (some 19), none⟩])
 (.cond (.tmp 19) (.seq (.seqR [⟨.move, [.const (.int .i64 1)], (some 4), none⟩])
 .ret)
 .skip))
 (.seq (.seqR [⟨.move, [.const (.int .i64 0)], (some 4), none⟩])
 .ret)))))))), [.tmp 4]⟩
theorem c25_ok : compFunc Try.prog Try.f25 = some c25 := by kernel_rfl
theorem c25_body : hasBody Try.prog 25 = true := hasBody_of Try.func25 (by kernel_rfl)
/-- slices.Sort[[]uint64,uint64] -/
def c26 : PFn := ⟨11, Tr.ofList (List.replicate 11 undefA), (.seq (.seqR [⟨.move, [.tmp 0], (some 3), none⟩,
 ⟨.lenS, [.tmp 3], (some 4), none⟩,
 ⟨.move, [.tmp 4], (some 2), none⟩])
 (.seqR [⟨.move, [.tmp 0], (some 5), none⟩,
 ⟨.move, [.tmp 2], (some 6), none⟩,
 ⟨.move, [.tmp 2], (some 7), none⟩,
 ⟨(.conv .u64), [.tmp 7], (some 8), none⟩,
 ⟨(.callF 34), [.tmp 8], (some 9), none⟩,
 ⟨(.callF 36), [.tmp 5, .const (.int .i64 0), .tmp 6, .tmp 9], (some 10), none⟩])), []⟩
theorem c26_ok : compFunc Try.prog Try.f26 = some c26 := by kernel_rfl
theorem c26_body : hasBody Try.prog 26 = true := hasBody_of Try.func26 (by kernel_rfl)
/-- coachyard/bag.adding -/
def c27 : PFn := ⟨18, Tr.ofList (List.replicate 18 undefA), (.seq (.seqR [⟨.box, [.tmp 0], (some 1), none⟩,
 ⟨.move, [.const (.bool false)], (some 2), none⟩])
 (.seq (.seqR [⟨(.fieldAddr 4), [.tmp 1], (some 3), none⟩,
 ⟨(.fieldAddr 0), [.tmp 3], (some 4), none⟩,
 ⟨(.load false 1), [.tmp 4], (some 5), none⟩,
 ⟨(.bin .eql), [.tmp 5, .const (.int .i64 1)], (some 6), none⟩,
 ⟨.move, [.tmp 6], (some 7), none⟩,
 ⟨(.fieldAddr 3), [.tmp 1], (some 8), some (7, true)⟩,
 ⟨(.load false 1), [.tmp 8], (some 9), some (7, true)⟩,
 ⟨(.bin .lss), [.tmp 9, .const (.int .i64 0)], (some 10), some (7, true)⟩,
 ⟨.move, [.tmp 10], (some 11), some (7, true)⟩,
 ⟨(.fieldAddr 7), [.tmp 1], (some 12), some (11, false)⟩,
 ⟨(.fieldAddr 0), [.tmp 12], (some 13), some (11, false)⟩,
 ⟨(.load false 1), [.tmp 13], (some 14), some (11, false)⟩,
 ⟨(.bin .eql), [.tmp 14, .const (.int .i64 0)], (some 15), some (11, false)⟩,
 ⟨.pick, [.tmp 11, .const (.bool true), .tmp 15], (some 16), some (7, true)⟩,
 ⟨.pick, [.tmp 7, .tmp 16, .const (.bool false)], (some 17), none⟩,
 ⟨.move, [.tmp 17], (some 2), none⟩])
 .ret)), [.tmp 2]⟩
theorem c27_ok : compFunc Try.prog Try.f27 = some c27 := by kernel_rfl
theorem c27_body : hasBody Try.prog 27 = true := hasBody_of Try.func27 (by kernel_rfl)
/-- coachyard/diary.Ahead -/
def c28 : PFn := ⟨15, Tr.ofList (List.replicate 15 undefA), (.seq (.seqR [⟨.box, [.tmp 0], (some 2), none⟩,
 ⟨.box, [.tmp 1], (some 3), none⟩,
 ⟨.move, [.const (.bool false)], (some 4), none⟩])
 (.seq (.seqR [⟨(.fieldAddr 3), [.tmp 2], (some 5), none⟩,
 ⟨(.load false 1), [.tmp 5], (some 6), none⟩,
 ⟨(.bin .geq), [.tmp 6, .const (.int .i64 0)], (some 7), none⟩,
 ⟨.move, [.tmp 7], (some 8), none⟩,
 ⟨(.fieldAddr 3), [.tmp 2], (some 9), some (8, true)⟩,
 ⟨(.load false 1), [.tmp 9], (some 10), some (8, true)⟩,
 ⟨(.fieldAddr 2), [.tmp 3], (some 11), some (8, true)⟩,
 ⟨(.load false 1), [.tmp 11], (some 12), some (8, true)⟩,
 ⟨(.bin .lss), [.tmp 10, .tmp 12], (some 13), some (8, true)⟩,
 ⟨.pick, [.tmp 8, .tmp 13, .const (.bool false)], (some 14), none⟩,
 ⟨.move, [.tmp 14], (some 4), none⟩])
 .ret)), [.tmp 4]⟩
theorem c28_ok : compFunc Try.prog Try.f28 = some c28 := by kernel_rfl
theorem c28_body : hasBody Try.prog 28 = true := hasBody_of Try.func28 (by kernel_rfl)
/-- coachyard/bag.from -/
def c29 : PFn := ⟨5, Tr.ofList (List.replicate 5 undefA), (.seq (.seqR [⟨.box, [.tmp 0], (some 1), none⟩,
 ⟨.move, [.const (.int .i64 0)], (some 2), none⟩])
 (.seq (.seqR [⟨(.fieldAddr 2), [.tmp 1], (some 3), none⟩,
 ⟨(.load false 1), [.tmp 3], (some 4), none⟩,
 ⟨.move, [.tmp 4], (some 2), none⟩])
 .ret)), [.tmp 2]⟩
theorem c29_ok : compFunc Try.prog Try.f29 = some c29 := by kernel_rfl
theorem c29_body : hasBody Try.prog 29 = true := hasBody_of Try.func29 (by kernel_rfl)
/-- slices.Delete[[]int,int] -/
def c30 : PFn := ⟨33, Tr.ofList (List.replicate 33 undefA), (.seq (.seqR [⟨.move, [.const (.slice none 0 0 false)], (some 6), none⟩])
 (.seq (.seqR [⟨.move, [.tmp 0], (some 8), none⟩,
 ⟨.move, [.tmp 1], (some 9), none⟩,
 ⟨.move, [.tmp 2], (some 10), none⟩,
 ⟨.move, [.tmp 0], (some 11), none⟩,
 ⟨.lenS, [.tmp 11], (some 12), none⟩,
 ⟨(.slice 1 true true true), [.tmp 8, .tmp 9, .tmp 10, .tmp 12], (some 13), none⟩])
 (.seq (.seq (.seqR [⟨.move, [.tmp 1], (some 14), none⟩,
 ⟨.move, [.tmp 2], (some 15), none⟩,
 ⟨(.bin .eql), [.tmp 14, .tmp 15], (some 16), none⟩])
 (.cond (.tmp 16) (.seq (.seqR [⟨.move, [.tmp 0], (some 17), none⟩,
 ⟨.move, [.tmp 17], (some 6), none⟩])
 .ret)
 .skip))
 (.seq (.seqR [⟨.move, [.tmp 0], (some 18), none⟩,
 ⟨.lenS, [.tmp 18], (some 19), none⟩,
 ⟨.move, [.tmp 19], (some 7), none⟩])
 (.seq (.drawR [⟨⟨.move, [.tmp 0], (some 20), none⟩, false, false, 0, 0⟩,
 ⟨⟨.move, [.tmp 1], (some 21), none⟩, false, false, 0, 0⟩,
 ⟨⟨(.slice 1 false true false), [.tmp 20, .tmp 21], (some 22), none⟩, false, false, 0, 0⟩,
 ⟨⟨.move, [.tmp 0], (some 23), none⟩, false, false, 0, 0⟩,
 ⟨⟨.move, [.tmp 2], (some 24), none⟩, false, false, 0, 0⟩,
 ⟨⟨(.slice 1 true false false), [.tmp 23, .tmp 24], (some 25), none⟩, false, false, 0, 0⟩,
 ⟨⟨(.append 1 8), [.tmp 22, .tmp 25], (some 26), none⟩, true, false, 0, 1⟩,
 ⟨⟨.move, [.tmp 26], (some 0), none⟩, false, false, 1, 1⟩])
 (.seq (.seqR [⟨.move, [.tmp 0], (some 27), none⟩,
 ⟨.move, [.tmp 0], (some 28), none⟩,
 ⟨.lenS, [.tmp 28], (some 29), none⟩,
 ⟨.move, [.tmp 7], (some 30), none⟩,
 ⟨(.slice 1 true true false), [.tmp 27, .tmp 29, .tmp 30], (some 31), none⟩,
 ⟨(.clear 1 [(.int .i64 0)]), [.tmp 31], none, none⟩])
 (.seq (.seqR [⟨.move, [.tmp 0], (some 32), none⟩,
 ⟨.move, [.tmp 32], (some 6), none⟩])
 .ret))))))), [.tmp 6]⟩
theorem c30_ok : compFunc Try.prog Try.f30 = some c30 := by kernel_rfl
theorem c30_body : hasBody Try.prog 30 = true := hasBody_of Try.func30 (by kernel_rfl)
/-- slices.SortStableFunc[[]int,int] -/
def c31 : PFn := ⟨9, Tr.ofList (List.replicate 9 undefA), (.seqR [⟨.move, [.tmp 0], (some 4), none⟩,
 ⟨.move, [.tmp 0], (some 5), none⟩,
 ⟨.lenS, [.tmp 5], (some 6), none⟩,
 ⟨.move, [.tmp 1], (some 7), none⟩,
 ⟨(.callF 37), [.tmp 4, .tmp 6, .tmp 7], (some 8), none⟩]), []⟩
theorem c31_ok : compFunc Try.prog Try.f31 = some c31 := by kernel_rfl
theorem c31_body : hasBody Try.prog 31 = true := hasBody_of Try.func31 (by kernel_rfl)
/-- coachyard/bag.places$1 -/
def c32 : PFn := ⟨20, Tr.ofList (List.replicate 20 undefA), (.seq (.seqR [⟨.move, [.const (.int .i64 0)], (some 6), none⟩])
 (.seq (.drawR [⟨⟨(.load false 1), [.tmp 2], (some 7), none⟩, false, false, 0, 0⟩,
 ⟨⟨(.load false 1), [.tmp 3], (some 8), none⟩, false, false, 0, 0⟩,
 ⟨⟨.move, [.tmp 0], (some 9), none⟩, false, false, 0, 0⟩,
 ⟨⟨(.indexAddrS 10), [.tmp 8, .tmp 9], (some 10), none⟩, false, false, 0, 0⟩,
 ⟨⟨(.load true 10), [.tmp 10], (some 11), none⟩, false, false, 0, 0⟩,
 ⟨⟨.callV, [.tmp 7, .tmp 11], (some 12), none⟩, true, false, 0, 1⟩,
 ⟨⟨(.load false 1), [.tmp 2], (some 13), none⟩, false, false, 0, 1⟩,
 ⟨⟨(.load false 1), [.tmp 3], (some 14), none⟩, false, false, 0, 1⟩,
 ⟨⟨.move, [.tmp 1], (some 15), none⟩, false, false, 0, 1⟩,
 ⟨⟨(.indexAddrS 10), [.tmp 14, .tmp 15], (some 16), none⟩, false, false, 0, 1⟩,
 ⟨⟨(.load true 10), [.tmp 16], (some 17), none⟩, false, false, 0, 1⟩,
 ⟨⟨.callV, [.tmp 13, .tmp 17], (some 18), none⟩, true, false, 1, 2⟩,
 ⟨⟨(.callF 25), [.tmp 12, .tmp 18], (some 19), none⟩, true, false, 2, 3⟩,
 ⟨⟨.move, [.tmp 19], (some 6), none⟩, false, false, 3, 3⟩])
 .ret)), [.tmp 6]⟩
theorem c32_ok : compFunc Try.prog Try.f32 = some c32 := by kernel_rfl
theorem c32_body : hasBody Try.prog 32 = true := hasBody_of Try.func32 (by kernel_rfl)
/-- slices.pdqsortCmpFunc[coachyard/bag.deed] -/
def c33 : PFn := ⟨148, Tr.ofList (List.replicate 148 undefA), (.seq (.seqR [⟨.move, [.const (.bool true)], (some 10), none⟩])
 (.seq (.seqR [⟨.move, [.const (.bool true)], (some 11), none⟩])
 (.block 0 (.loop (.block 1 (.seq (.seqR [⟨.move, [.tmp 2], (some 21), none⟩,
 ⟨.move, [.tmp 1], (some 22), none⟩,
 ⟨(.bin .sub), [.tmp 21, .tmp 22], (some 23), none⟩,
 ⟨.move, [.tmp 23], (some 12), none⟩])
 (.seq (.seq (.seqR [⟨.move, [.tmp 12], (some 24), none⟩,
 ⟨(.bin .leq), [.tmp 24, .const (.int .i64 12)], (some 25), none⟩])
 (.cond (.tmp 25) (.seq (.seqR [⟨.move, [.tmp 0], (some 26), none⟩,
 ⟨.move, [.tmp 1], (some 27), none⟩,
 ⟨.move, [.tmp 2], (some 28), none⟩,
 ⟨.move, [.tmp 4], (some 29), none⟩,
 ⟨(.callF 38), [.tmp 26, .tmp 27, .tmp 28, .tmp 29], (some 30), none⟩])
 .ret)
 .skip))
 (.seq (.seq (.seqR [⟨.move, [.tmp 3], (some 31), none⟩,
 ⟨(.bin .eql), [.tmp 31, .const (.int .i64 0)], (some 32), none⟩])
 (.cond (.tmp 32) (.seq (.seqR [⟨.move, [.tmp 0], (some 33), none⟩,
 ⟨.move, [.tmp 1], (some 34), none⟩,
 ⟨.move, [.tmp 2], (some 35), none⟩,
 ⟨.move, [.tmp 4], (some 36), none⟩,
 ⟨(.callF 39), [.tmp 33, .tmp 34, .tmp 35, .tmp 36], (some 37), none⟩])
 .ret)
 .skip))
 (.seq (.seq (.seqR [⟨.move, [.tmp 10], (some 38), none⟩,
 ⟨.not, [.tmp 38], (some 39), none⟩])
 (.cond (.tmp 39) (.seq (.seqR [⟨.move, [.tmp 0], (some 40), none⟩,
 ⟨.move, [.tmp 1], (some 41), none⟩,
 ⟨.move, [.tmp 2], (some 42), none⟩,
 ⟨.move, [.tmp 4], (some 43), none⟩,
 ⟨(.callF 40), [.tmp 40, .tmp 41, .tmp 42, .tmp 43], (some 44), none⟩])
 (.seqR [⟨.move, [.tmp 3], (some 45), none⟩,
 ⟨(.bin .sub), [.tmp 45, .const (.int .i64 1)], (some 46), none⟩,
 ⟨.move, [.tmp 46], (some 3), none⟩]))
 .skip))
 (.seq (.seqR [⟨.move, [.tmp 0], (some 48), none⟩,
 ⟨.move, [.tmp 1], (some 49), none⟩,
 ⟨.move, [.tmp 2], (some 50), none⟩,
 ⟨.move, [.tmp 4], (some 51), none⟩,
 ⟨(.callF 41), [.tmp 48, .tmp 49, .tmp 50, .tmp 51], (some 52), none⟩,
 ⟨.move, [.tmp 52], (some 47), none⟩,
 ⟨(.extract 0), [.tmp 47], (some 53), none⟩,
 ⟨(.extract 1), [.tmp 47], (some 54), none⟩,
 ⟨.move, [.tmp 53], (some 13), none⟩,
 ⟨.move, [.tmp 54], (some 14), none⟩])
 (.seq (.seq (.seqR [⟨.move, [.tmp 14], (some 55), none⟩,
 ⟨(.bin .eql), [.tmp 55, .const (.int .i64 2)], (some 56), none⟩])
 (.cond (.tmp 56) (.seq (.seqR [⟨.move, [.tmp 0], (some 57), none⟩,
 ⟨.move, [.tmp 1], (some 58), none⟩,
 ⟨.move, [.tmp 2], (some 59), none⟩,
 ⟨.move, [.tmp 4], (some 60), none⟩,
 ⟨(.callF 42), [.tmp 57, .tmp 58, .tmp 59, .tmp 60], (some 61), none⟩])
 (.seq (.seqR [⟨.move, [.tmp 2], (some 62), none⟩,
 ⟨(.bin .sub), [.tmp 62, .const (.int .i64 1)], (some 63), none⟩,
 ⟨.move, [.tmp 13], (some 64), none⟩,
 ⟨.move, [.tmp 1], (some 65), none⟩,
 ⟨(.bin .sub), [.tmp 64, .tmp 65], (some 66), none⟩,
 ⟨(.bin .sub), [.tmp 63, .tmp 66], (some 67), none⟩,
 ⟨.move, [.tmp 67], (some 13), none⟩])
 (.seqR [⟨.move, [.const (.int .i64 1)], (some 14), none⟩])))
 .skip))
 (.seq (.seq (.seqR [⟨.move, [.tmp 10], (some 68), none⟩,
 ⟨.move, [.tmp 68], (some 69), none⟩,
 ⟨.move, [.tmp 11], (some 70), some (69, true)⟩,
 ⟨.pick, [.tmp 69, .tmp 70, .const (.bool false)], (some 71), none⟩,
 ⟨.move, [.tmp 71], (some 72), none⟩,
 ⟨.move, [.tmp 14], (some 73), some (72, true)⟩,
 ⟨(.bin .eql), [.tmp 73, .const (.int .i64 1)], (some 74), some (72, true)⟩,
 ⟨.pick, [.tmp 72, .tmp 74, .const (.bool false)], (some 75), none⟩])
 (.cond (.tmp 75) (.seq (.seqR [⟨.move, [.tmp 0], (some 76), none⟩,
 ⟨.move, [.tmp 1], (some 77), none⟩,
 ⟨.move, [.tmp 2], (some 78), none⟩,
 ⟨.move, [.tmp 4], (some 79), none⟩,
 ⟨(.callF 43), [.tmp 76, .tmp 77, .tmp 78, .tmp 79], (some 80), none⟩])
 (.cond (.tmp 80) .ret
 .skip))
 .skip))
 (.seq (.seq (.drawR [⟨⟨.move, [.tmp 1], (some 81), none⟩, false, false, 0, 0⟩,
 ⟨⟨(.bin .gtr), [.tmp 81, .const (.int .i64 0)], (some 82), none⟩, false, false, 0, 0⟩,
 ⟨⟨.move, [.tmp 82], (some 83), none⟩, false, false, 0, 0⟩,
 ⟨⟨.move, [.tmp 4], (some 84), some (83, true)⟩, false, false, 0, 0⟩,
 ⟨⟨.move, [.tmp 0], (some 85), some (83, true)⟩, false, false, 0, 0⟩,
 ⟨⟨.move, [.tmp 1], (some 86), some (83, true)⟩, false, false, 0, 0⟩,
 ⟨⟨(.bin .sub), [.tmp 86, .const (.int .i64 1)], (some 87), some (83, true)⟩, false, false, 0, 0⟩,
 ⟨⟨(.indexAddrS 3), [.tmp 85, .tmp 87], (some 88), some (83, true)⟩, false, false, 0, 0⟩,
 ⟨⟨(.load true 3), [.tmp 88], (some 89), some (83, true)⟩, false, false, 0, 0⟩,
 ⟨⟨.move, [.tmp 0], (some 90), some (83, true)⟩, false, false, 0, 0⟩,
 ⟨⟨.move, [.tmp 13], (some 91), some (83, true)⟩, false, false, 0, 0⟩,
 ⟨⟨(.indexAddrS 3), [.tmp 90, .tmp 91], (some 92), some (83, true)⟩, false, false, 0, 0⟩,
 ⟨⟨(.load true 3), [.tmp 92], (some 93), some (83, true)⟩, false, false, 0, 0⟩,
 ⟨⟨.callV, [.tmp 84, .tmp 89, .tmp 93], (some 94), some (83, true)⟩, true, false, 0, 1⟩,
 ⟨⟨(.bin .lss), [.tmp 94, .const (.int .i64 0)], (some 95), some (83, true)⟩, false, false, 1, 1⟩,
 ⟨⟨.not, [.tmp 95], (some 96), some (83, true)⟩, false, false, 1, 1⟩,
 ⟨⟨.pick, [.tmp 83, .tmp 96, .const (.bool false)], (some 97), none⟩, false, false, 1, 1⟩])
 (.cond (.tmp 97) (.seq (.seqR [⟨.move, [.tmp 0], (some 98), none⟩,
 ⟨.move, [.tmp 1], (some 99), none⟩,
 ⟨.move, [.tmp 2], (some 100), none⟩,
 ⟨.move, [.tmp 13], (some 101), none⟩,
 ⟨.move, [.tmp 4], (some 102), none⟩,
 ⟨(.callF 44), [.tmp 98, .tmp 99, .tmp 100, .tmp 101, .tmp 102], (some 103), none⟩,
 ⟨.move, [.tmp 103], (some 15), none⟩])
 (.seq (.seqR [⟨.move, [.tmp 15], (some 104), none⟩,
 ⟨.move, [.tmp 104], (some 1), none⟩])
 (.exit 1)))
 .skip))
 (.seq (.seqR [⟨.move, [.tmp 0], (some 106), none⟩,
 ⟨.move, [.tmp 1], (some 107), none⟩,
 ⟨.move, [.tmp 2], (some 108), none⟩,
 ⟨.move, [.tmp 13], (some 109), none⟩,
 ⟨.move, [.tmp 4], (some 110), none⟩,
 ⟨(.callF 45), [.tmp 106, .tmp 107, .tmp 108, .tmp 109, .tmp 110], (some 111), none⟩,
 ⟨.move, [.tmp 111], (some 105), none⟩,
 ⟨(.extract 0), [.tmp 105], (some 112), none⟩,
 ⟨(.extract 1), [.tmp 105], (some 113), none⟩,
 ⟨.move, [.tmp 112], (some 16), none⟩,
 ⟨.move, [.tmp 113], (some 17), none⟩])
 (.seq (.seqR [⟨.move, [.tmp 17], (some 114), none⟩,
 ⟨.move, [.tmp 114], (some 11), none⟩])
 (.seq (.seqR [⟨.move, [.tmp 16], (some 115), none⟩,
 ⟨.move, [.tmp 1], (some 116), none⟩,
 ⟨(.bin .sub), [.tmp 115, .tmp 116], (some 117), none⟩,
 ⟨.move, [.tmp 2], (some 118), none⟩,
 ⟨.move, [.tmp 16], (some 119), none⟩,
 ⟨(.bin .sub), [.tmp 118, .tmp 119], (some 120), none⟩,
 ⟨.move, [.tmp 117], (some 18), none⟩,
 ⟨.move, [.tmp 120], (some 19), none⟩])
 (.seq (.seqR [⟨.move, [.tmp 12], (some 121), none⟩,
 ⟨(.bin .quo), [.tmp 121, .const (.int .i64 8)], (some 122), none⟩,
 ⟨.move, [.tmp 122], (some 20), none⟩])
 (.seq (.seqR [⟨.move, [.tmp 18], (some 123), none⟩,
 ⟨.move, [.tmp 19], (some 124), none⟩,
 ⟨(.bin .lss), [.tmp 123, .tmp 124], (some 125), none⟩])
 (.cond (.tmp 125) (.seq (.seqR [⟨.move, [.tmp 18], (some 126), none⟩,
 ⟨.move, [.tmp 20], (some 127), none⟩,
 ⟨(.bin .geq), [.tmp 126, .tmp 127], (some 128), none⟩,
 ⟨.move, [.tmp 128], (some 10), none⟩])
 (.seq (.seqR [⟨.move, [.tmp 0], (some 129), none⟩,
 ⟨.move, [.tmp 1], (some 130), none⟩,
 ⟨.move, [.tmp 16], (some 131), none⟩,
 ⟨.move, [.tmp 3], (some 132), none⟩,
 ⟨.move, [.tmp 4], (some 133), none⟩,
 ⟨(.callF 33), [.tmp 129, .tmp 130, .tmp 131, .tmp 132, .tmp 133], (some 134), none⟩])
 (.seqR [⟨.move, [.tmp 16], (some 135), none⟩,
 ⟨(.bin .add), [.tmp 135, .const (.int .i64 1)], (some 136), none⟩,
 ⟨.move, [.tmp 136], (some 1), none⟩])))
 (.seq (.seqR [⟨.move, [.tmp 19], (some 137), none⟩,
 ⟨.move, [.tmp 20], (some 138), none⟩,
 ⟨(.bin .geq), [.tmp 137, .tmp 138], (some 139), none⟩,
 ⟨.move, [.tmp 139], (some 10), none⟩])
 (.seq (.seqR [⟨.move, [.tmp 0], (some 140), none⟩,
 ⟨.move, [.tmp 16], (some 141), none⟩,
 ⟨(.bin .add), [.tmp 141, .const (.int .i64 1)], (some 142), none⟩,
 ⟨.move, [.tmp 2], (some 143), none⟩,
 ⟨.move, [.tmp 3], (some 144), none⟩,
 ⟨.move, [.tmp 4], (some 145), none⟩,
 ⟨(.callF 33), [.tmp 140, .tmp 142, .tmp 143, .tmp 144, .tmp 145], (some 146), none⟩])
 (.seqR [⟨.move, [.tmp 16], (some 147), none⟩,
 ⟨.move, [.tmp 147], (some 2), none⟩])))))))))))))))))))))), []⟩
theorem c33_ok : compFunc Try.prog Try.f33 = some c33 := by kernel_rfl
theorem c33_body : hasBody Try.prog 33 = true := hasBody_of Try.func33 (by kernel_rfl)
/-- math/bits.Len -/
def c34 : PFn := ⟨8, Tr.ofList (List.replicate 8 undefA), (.seq (.seqR [⟨.move, [.const (.int .i64 0)], (some 2), none⟩])
 (.seq (.cond (.const (.bool false)) (.seq (.seqR [⟨.move, [.tmp 0], (some 3), none⟩,
 ⟨(.conv .u32), [.tmp 3], (some 4), none⟩,
 ⟨(.callF 46), [.tmp 4], (some 5), none⟩,
 ⟨.move, [.tmp 5], (some 2), none⟩])
 .ret)
 .skip)
 (.seq (.seqR [⟨.move, [.tmp 0], (some 6), none⟩,
 ⟨(.callF 47), [.tmp 6], (some 7), none⟩,
 ⟨.move, [.tmp 7], (some 2), none⟩])
 .ret))), [.tmp 2]⟩
theorem c34_ok : compFunc Try.prog Try.f34 = some c34 := by kernel_rfl
theorem c34_body : hasBody Try.prog 34 = true := hasBody_of Try.func34 (by kernel_rfl)
end Go.Proofs.Ytpbejdlpkpehlaa
