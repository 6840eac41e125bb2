/- The code of the small machine for some of the program's functions: printed by program; each is what the rules make of the program's own. -/
import Derived.Test.YtoddncakdnmloaaVx16
import Derived.Test.YtoddncakdnmloaaProg
import Derived.KernelRfl
namespace Go.Proofs.Ytoddncakdnmloaa
open Go Go.Vx Go.Proofs
/-- coachyard/coachyardlaw29.StatsLoad -/
def c4 : PFn := ⟨74, Tr.ofList (List.replicate 74 undefA), (.seq (.seqR [⟨.move, [.const (.bool false)], (some 2), none⟩])
 (.seq (.seq (.seqR [⟨(.callF 6), [], (some 6), none⟩,
 ⟨.not, [.tmp 6], (some 7), none⟩])
 (.cond (.tmp 7) (.seq (.seqR [⟨.move, [.const (.bool false)], (some 2), none⟩])
 .ret)
 .skip))
 (.seq (.seq (.seqR [⟨.move, [.tmp 0], (some 8), none⟩,
 ⟨(.callF 10), [.tmp 8], (some 9), none⟩])
 (.cond (.tmp 9) (.seq (.seqR [⟨.move, [.const (.bool true)], (some 2), none⟩])
 .ret)
 .skip))
 (.seq (.seqR [⟨.move, [.tmp 0], (some 11), none⟩,
 ⟨(.callF 11), [.tmp 11], (some 12), none⟩,
 ⟨.move, [.tmp 12], (some 10), none⟩,
 ⟨(.extract 0), [.tmp 10], (some 13), none⟩,
 ⟨(.extract 1), [.tmp 10], (some 14), none⟩,
 ⟨.move, [.tmp 13], (some 3), none⟩,
 ⟨.move, [.tmp 14], (some 4), none⟩])
 (.seq (.seq (.seqR [⟨.move, [.tmp 0], (some 15), none⟩,
 ⟨(.callF 12), [.tmp 15], (some 16), none⟩,
 ⟨.not, [.tmp 16], (some 17), none⟩])
 (.cond (.tmp 17) (.seq (.seqR [⟨.move, [.tmp 3], (some 18), none⟩,
 ⟨.lenS, [.tmp 18], (some 19), none⟩,
 ⟨(.bin .eql), [.tmp 19, .const (.int .i64 0)], (some 20), none⟩,
 ⟨.move, [.tmp 20], (some 21), none⟩,
 ⟨.move, [.tmp 4], (some 22), some (21, true)⟩,
 ⟨(.bin .eql), [.tmp 22, .const (.int .i64 13)], (some 23), some (21, true)⟩,
 ⟨.pick, [.tmp 21, .tmp 23, .const (.bool false)], (some 24), none⟩,
 ⟨.move, [.tmp 24], (some 2), none⟩])
 .ret)
 .skip))
 (.seq (.seq (.seqR [⟨.move, [.tmp 0], (some 25), none⟩,
 ⟨.lenS, [.tmp 25], (some 26), none⟩,
 ⟨(.bin .eql), [.tmp 26, .const (.int .i64 0)], (some 27), none⟩])
 (.cond (.tmp 27) (.seq (.seqR [⟨.move, [.tmp 3], (some 28), none⟩,
 ⟨.lenS, [.tmp 28], (some 29), none⟩,
 ⟨(.bin .eql), [.tmp 29, .const (.int .i64 0)], (some 30), none⟩,
 ⟨.move, [.tmp 30], (some 31), none⟩,
 ⟨.move, [.tmp 4], (some 32), some (31, true)⟩,
 ⟨(.bin .eql), [.tmp 32, .const (.int .i64 0)], (some 33), some (31, true)⟩,
 ⟨.pick, [.tmp 31, .tmp 33, .const (.bool false)], (some 34), none⟩,
 ⟨.move, [.tmp 34], (some 2), none⟩])
 .ret)
 .skip))
 (.seq (.drawR [⟨⟨.move, [.tmp 0], (some 35), none⟩, false, false, 0, 0⟩,
 ⟨⟨.move, [.tmp 0], (some 36), none⟩, false, false, 0, 0⟩,
 ⟨⟨.lenS, [.tmp 36], (some 37), none⟩, false, false, 0, 0⟩,
 ⟨⟨(.bin .sub), [.tmp 37, .const (.int .i64 1)], (some 38), none⟩, false, false, 0, 0⟩,
 ⟨⟨(.indexAddrS 10), [.tmp 35, .tmp 38], (some 39), none⟩, false, false, 0, 0⟩,
 ⟨⟨(.fieldAddr 0), [.tmp 39], (some 40), none⟩, false, false, 0, 0⟩,
 ⟨⟨(.load false 1), [.tmp 40], (some 41), none⟩, false, false, 0, 0⟩,
 ⟨⟨.move, [.tmp 0], (some 42), none⟩, false, false, 0, 0⟩,
 ⟨⟨(.indexAddrS 10), [.tmp 42, .const (.int .i64 0)], (some 43), none⟩, false, false, 0, 0⟩,
 ⟨⟨(.fieldAddr 0), [.tmp 43], (some 44), none⟩, false, false, 0, 0⟩,
 ⟨⟨(.load false 1), [.tmp 44], (some 45), none⟩, false, false, 0, 0⟩,
 ⟨⟨(.bin .sub), [.tmp 41, .tmp 45], (some 46), none⟩, false, false, 0, 0⟩,
 ⟨⟨.move, [.tmp 46], (some 5), none⟩, false, false, 0, 0⟩])
 (.seq (.seq (.seqR [⟨.move, [.tmp 5], (some 47), none⟩,
 ⟨(.bin .gtr), [.tmp 47, .const (.int .i64 65536)], (some 48), none⟩])
 (.cond (.tmp 48) (.seq (.seqR [⟨.move, [.tmp 3], (some 49), none⟩,
 ⟨.lenS, [.tmp 49], (some 50), none⟩,
 ⟨(.bin .eql), [.tmp 50, .const (.int .i64 0)], (some 51), none⟩,
 ⟨.move, [.tmp 51], (some 52), none⟩,
 ⟨.move, [.tmp 4], (some 53), some (52, true)⟩,
 ⟨(.bin .eql), [.tmp 53, .const (.int .i64 14)], (some 54), some (52, true)⟩,
 ⟨.pick, [.tmp 52, .tmp 54, .const (.bool false)], (some 55), none⟩,
 ⟨.move, [.tmp 55], (some 2), none⟩])
 .ret)
 .skip))
 (.seq (.seq (.seqR [⟨.move, [.tmp 5], (some 56), none⟩,
 ⟨(.bin .gtr), [.tmp 56, .const (.int .i64 3000)], (some 57), none⟩])
 (.cond (.tmp 57) (.seq (.seqR [⟨.move, [.tmp 4], (some 58), none⟩,
 ⟨(.bin .eql), [.tmp 58, .const (.int .i64 0)], (some 59), none⟩,
 ⟨.move, [.tmp 59], (some 60), none⟩,
 ⟨.move, [.tmp 3], (some 61), some (60, true)⟩,
 ⟨.lenS, [.tmp 61], (some 62), some (60, true)⟩,
 ⟨.move, [.tmp 5], (some 63), some (60, true)⟩,
 ⟨(.bin .eql), [.tmp 62, .tmp 63], (some 64), some (60, true)⟩,
 ⟨.pick, [.tmp 60, .tmp 64, .const (.bool false)], (some 65), none⟩,
 ⟨.move, [.tmp 65], (some 2), none⟩])
 .ret)
 .skip))
 (.seq (.seqR [⟨.move, [.tmp 4], (some 66), none⟩,
 ⟨(.bin .eql), [.tmp 66, .const (.int .i64 0)], (some 67), none⟩,
 ⟨.move, [.tmp 67], (some 68), none⟩,
 ⟨.move, [.tmp 3], (some 69), some (68, true)⟩,
 ⟨.move, [.tmp 0], (some 70), some (68, true)⟩,
 ⟨(.callF 14), [.tmp 70], (some 71), some (68, true)⟩,
 ⟨(.callF 13), [.tmp 69, .tmp 71], (some 72), some (68, true)⟩,
 ⟨.pick, [.tmp 68, .tmp 72, .const (.bool false)], (some 73), none⟩,
 ⟨.move, [.tmp 73], (some 2), none⟩])
 .ret)))))))))), [.tmp 2]⟩
theorem c4_ok : compFunc Try.prog Try.f4 = some c4 := by kernel_rfl
theorem c4_body : hasBody Try.prog 4 = true := hasBody_of Try.func4 (by kernel_rfl)
/-- coachyard/coachyardlaw29.StatsCalls -/
def c5 : PFn := ⟨66, Tr.ofList (List.replicate 66 undefA), (.seq (.seqR [⟨.move, [.const (.bool false)], (some 6), none⟩])
 (.seq (.seq (.seqR [⟨(.callF 6), [], (some 11), none⟩,
 ⟨.not, [.tmp 11], (some 12), none⟩])
 (.cond (.tmp 12) (.seq (.seqR [⟨.move, [.const (.bool false)], (some 6), none⟩])
 .ret)
 .skip))
 (.seq (.seq (.seqR [⟨.move, [.tmp 0], (some 13), none⟩,
 ⟨(.callF 10), [.tmp 13], (some 14), none⟩])
 (.cond (.tmp 14) (.seq (.seqR [⟨.move, [.const (.bool true)], (some 6), none⟩])
 .ret)
 .skip))
 (.seq (.seqR [⟨.move, [.tmp 0], (some 16), none⟩,
 ⟨.move, [.tmp 1], (some 17), none⟩,
 ⟨(.callF 15), [.tmp 16, .tmp 17], (some 18), none⟩,
 ⟨.move, [.tmp 18], (some 15), none⟩,
 ⟨(.extract 0), [.tmp 15], (some 19), none⟩,
 ⟨(.extract 1), [.tmp 15], (some 20), none⟩,
 ⟨(.new [(.int .i64 0), (.int .i64 0), (.int .i64 0), (.int .i64 0), (.int .i64 0), (.int .i64 0)]), [], (some 7), none⟩,
 ⟨(.store 6), [.tmp 7, .tmp 19], none, none⟩,
 ⟨.move, [.tmp 20], (some 8), none⟩])
 (.seq (.seqR [⟨.move, [.tmp 0], (some 22), none⟩,
 ⟨.move, [.tmp 2], (some 23), none⟩,
 ⟨(.callF 16), [.tmp 22, .tmp 23], (some 24), none⟩,
 ⟨.move, [.tmp 24], (some 21), none⟩,
 ⟨(.extract 0), [.tmp 21], (some 25), none⟩,
 ⟨(.extract 1), [.tmp 21], (some 26), none⟩,
 ⟨.move, [.tmp 25], (some 9), none⟩,
 ⟨.move, [.tmp 26], (some 10), none⟩])
 (.seq (.seq (.seqR [⟨.move, [.tmp 0], (some 27), none⟩,
 ⟨(.callF 12), [.tmp 27], (some 28), none⟩,
 ⟨.not, [.tmp 28], (some 29), none⟩])
 (.cond (.tmp 29) (.seq (.seqR [⟨(.load true 6), [.tmp 7], (some 30), none⟩,
 ⟨(.build [(.int .i64 0), (.int .i64 0), (.int .i64 0), (.int .i64 0), (.int .i64 0), (.int .i64 0)] []), [], (some 31), none⟩,
 ⟨(.callF 7), [.tmp 30, .tmp 31], (some 32), none⟩,
 ⟨.move, [.tmp 32], (some 33), none⟩,
 ⟨.move, [.tmp 8], (some 34), some (33, true)⟩,
 ⟨(.bin .eql), [.tmp 34, .const (.int .i64 13)], (some 35), some (33, true)⟩,
 ⟨.pick, [.tmp 33, .tmp 35, .const (.bool false)], (some 36), none⟩,
 ⟨.move, [.tmp 36], (some 37), none⟩,
 ⟨.move, [.tmp 9], (some 38), some (37, true)⟩,
 ⟨.lenS, [.tmp 38], (some 39), some (37, true)⟩,
 ⟨(.bin .eql), [.tmp 39, .const (.int .i64 0)], (some 40), some (37, true)⟩,
 ⟨.pick, [.tmp 37, .tmp 40, .const (.bool false)], (some 41), none⟩,
 ⟨.move, [.tmp 41], (some 42), none⟩,
 ⟨.move, [.tmp 10], (some 43), some (42, true)⟩,
 ⟨(.bin .eql), [.tmp 43, .const (.int .i64 13)], (some 44), some (42, true)⟩,
 ⟨.pick, [.tmp 42, .tmp 44, .const (.bool false)], (some 45), none⟩,
 ⟨.move, [.tmp 45], (some 6), none⟩])
 .ret)
 .skip))
 (.seq (.drawR [⟨⟨.move, [.tmp 8], (some 46), none⟩, false, false, 0, 0⟩,
 ⟨⟨(.bin .eql), [.tmp 46, .const (.int .i64 0)], (some 47), none⟩, false, false, 0, 0⟩,
 ⟨⟨.move, [.tmp 47], (some 48), none⟩, false, false, 0, 0⟩,
 ⟨⟨.move, [.tmp 10], (some 49), some (48, true)⟩, false, false, 0, 0⟩,
 ⟨⟨(.bin .eql), [.tmp 49, .const (.int .i64 0)], (some 50), some (48, true)⟩, false, false, 0, 0⟩,
 ⟨⟨.pick, [.tmp 48, .tmp 50, .const (.bool false)], (some 51), none⟩, false, false, 0, 0⟩,
 ⟨⟨.move, [.tmp 51], (some 52), none⟩, false, false, 0, 0⟩,
 ⟨⟨(.load true 6), [.tmp 7], (some 53), some (52, true)⟩, false, false, 0, 1⟩,
 ⟨⟨.move, [.tmp 0], (some 54), some (52, true)⟩, false, false, 0, 0⟩,
 ⟨⟨.move, [.tmp 1], (some 55), some (52, true)⟩, false, false, 0, 0⟩,
 ⟨⟨(.callF 17), [.tmp 54, .tmp 55], (some 56), some (52, true)⟩, true, false, 0, 1⟩,
 ⟨⟨(.callF 7), [.tmp 53, .tmp 56], (some 57), some (52, true)⟩, true, false, 1, 2⟩,
 ⟨⟨.pick, [.tmp 52, .tmp 57, .const (.bool false)], (some 58), none⟩, false, false, 2, 2⟩,
 ⟨⟨.move, [.tmp 58], (some 59), none⟩, false, false, 2, 2⟩,
 ⟨⟨.move, [.tmp 9], (some 60), some (59, true)⟩, false, false, 2, 3⟩,
 ⟨⟨.move, [.tmp 0], (some 61), some (59, true)⟩, false, false, 2, 2⟩,
 ⟨⟨.move, [.tmp 2], (some 62), some (59, true)⟩, false, false, 2, 2⟩,
 ⟨⟨(.callF 19), [.tmp 61, .tmp 62], (some 63), some (59, true)⟩, true, false, 2, 3⟩,
 ⟨⟨(.callF 18), [.tmp 60, .tmp 63], (some 64), some (59, true)⟩, true, false, 3, 4⟩,
 ⟨⟨.pick, [.tmp 59, .tmp 64, .const (.bool false)], (some 65), none⟩, false, false, 4, 4⟩,
 ⟨⟨.move, [.tmp 65], (some 6), none⟩, false, false, 4, 4⟩])
 .ret))))))), [.tmp 6]⟩
theorem c5_ok : compFunc Try.prog Try.f5 = some c5 := by kernel_rfl
theorem c5_body : hasBody Try.prog 5 = true := hasBody_of Try.func5 (by kernel_rfl)
/-- coachyard/coachyardlaw29.awake -/
def c6 : PFn := ⟨5, Tr.ofList (List.replicate 5 undefA), (.seq (.seqR [⟨.move, [.const (.bool false)], (some 0), none⟩])
 (.seq (.seqR [⟨(.sliceLit 4 [(.int .i64 0), (.int .i64 0), (.int .i64 0), (.int .i64 0)] [(0, 1), (1, 1), (2, 1), (3, 1)]), [.const (.int .i64 4), .const (.int .i64 1), .const (.int .i64 9), .const (.int .i64 4)], (some 1), none⟩,
 ⟨(.callF 8), [.tmp 1], (some 2), none⟩,
 ⟨(.build [(.int .i64 0), (.int .i64 0), (.int .i64 0), (.int .i64 0), (.int .i64 0), (.int .i64 0)] [(0, 1), (1, 1), (2, 1), (3, 1), (4, 1), (5, 1)]), [.const (.int .i64 4), .const (.int .i64 18), .const (.int .i64 1), .const (.int .i64 9), .const (.int .i64 4), .const (.int .i64 4)], (some 3), none⟩,
 ⟨(.eqStruct [(0, 0), (1, 0), (2, 0), (3, 0), (4, 0), (5, 0)] false), [.tmp 2, .tmp 3], (some 4), none⟩,
 ⟨.move, [.tmp 4], (some 0), none⟩])
 .ret)), [.tmp 0]⟩
theorem c6_ok : compFunc Try.prog Try.f6 = some c6 := by kernel_rfl
theorem c6_body : hasBody Try.prog 6 = true := hasBody_of Try.func6 (by kernel_rfl)
/-- coachyard/coachyardlaw29.same -/
def c7 : PFn := ⟨45, Tr.ofList (List.replicate 45 undefA), (.seq (.seqR [⟨.box, [.tmp 0], (some 2), none⟩,
 ⟨.box, [.tmp 1], (some 3), none⟩,
 ⟨.move, [.const (.bool false)], (some 4), none⟩])
 (.seq (.seqR [⟨(.fieldAddr 0), [.tmp 2], (some 5), none⟩,
 ⟨(.load false 1), [.tmp 5], (some 6), none⟩,
 ⟨(.fieldAddr 0), [.tmp 3], (some 7), none⟩,
 ⟨(.load false 1), [.tmp 7], (some 8), none⟩,
 ⟨(.bin .eql), [.tmp 6, .tmp 8], (some 9), none⟩,
 ⟨.move, [.tmp 9], (some 10), none⟩,
 ⟨(.fieldAddr 1), [.tmp 2], (some 11), some (10, true)⟩,
 ⟨(.load false 1), [.tmp 11], (some 12), some (10, true)⟩,
 ⟨(.fieldAddr 1), [.tmp 3], (some 13), some (10, true)⟩,
 ⟨(.load false 1), [.tmp 13], (some 14), some (10, true)⟩,
 ⟨(.bin .eql), [.tmp 12, .tmp 14], (some 15), some (10, true)⟩,
 ⟨.pick, [.tmp 10, .tmp 15, .const (.bool false)], (some 16), none⟩,
 ⟨.move, [.tmp 16], (some 17), none⟩,
 ⟨(.fieldAddr 2), [.tmp 2], (some 18), some (17, true)⟩,
 ⟨(.load false 1), [.tmp 18], (some 19), some (17, true)⟩,
 ⟨(.fieldAddr 2), [.tmp 3], (some 20), some (17, true)⟩,
 ⟨(.load false 1), [.tmp 20], (some 21), some (17, true)⟩,
 ⟨(.bin .eql), [.tmp 19, .tmp 21], (some 22), some (17, true)⟩,
 ⟨.pick, [.tmp 17, .tmp 22, .const (.bool false)], (some 23), none⟩,
 ⟨.move, [.tmp 23], (some 24), none⟩,
 ⟨(.fieldAddr 3), [.tmp 2], (some 25), some (24, true)⟩,
 ⟨(.load false 1), [.tmp 25], (some 26), some (24, true)⟩,
 ⟨(.fieldAddr 3), [.tmp 3], (some 27), some (24, true)⟩,
 ⟨(.load false 1), [.tmp 27], (some 28), some (24, true)⟩,
 ⟨(.bin .eql), [.tmp 26, .tmp 28], (some 29), some (24, true)⟩,
 ⟨.pick, [.tmp 24, .tmp 29, .const (.bool false)], (some 30), none⟩,
 ⟨.move, [.tmp 30], (some 31), none⟩,
 ⟨(.fieldAddr 4), [.tmp 2], (some 32), some (31, true)⟩,
 ⟨(.load false 1), [.tmp 32], (some 33), some (31, true)⟩,
 ⟨(.fieldAddr 4), [.tmp 3], (some 34), some (31, true)⟩,
 ⟨(.load false 1), [.tmp 34], (some 35), some (31, true)⟩,
 ⟨(.bin .eql), [.tmp 33, .tmp 35], (some 36), some (31, true)⟩,
 ⟨.pick, [.tmp 31, .tmp 36, .const (.bool false)], (some 37), none⟩,
 ⟨.move, [.tmp 37], (some 38), none⟩,
 ⟨(.fieldAddr 5), [.tmp 2], (some 39), some (38, true)⟩,
 ⟨(.load false 1), [.tmp 39], (some 40), some (38, true)⟩,
 ⟨(.fieldAddr 5), [.tmp 3], (some 41), some (38, true)⟩,
 ⟨(.load false 1), [.tmp 41], (some 42), some (38, true)⟩,
 ⟨(.bin .eql), [.tmp 40, .tmp 42], (some 43), some (38, true)⟩,
 ⟨.pick, [.tmp 38, .tmp 43, .const (.bool false)], (some 44), none⟩,
 ⟨.move, [.tmp 44], (some 4), none⟩])
 .ret)), [.tmp 4]⟩
theorem c7_ok : compFunc Try.prog Try.f7 = some c7 := by kernel_rfl
theorem c7_body : hasBody Try.prog 7 = true := hasBody_of Try.func7 (by kernel_rfl)
/-- coachyard/stats.Of -/
def c8 : PFn := ⟨68, Tr.ofList (List.replicate 68 undefA), (.seq (.seqR [⟨(.new [(.int .i64 0), (.int .i64 0), (.int .i64 0), (.int .i64 0), (.int .i64 0), (.int .i64 0)]), [], (some 2), none⟩])
 (.seq (.seq (.seqR [⟨.move, [.tmp 0], (some 8), none⟩,
 ⟨.lenS, [.tmp 8], (some 9), none⟩,
 ⟨(.bin .eql), [.tmp 9, .const (.int .i64 0)], (some 10), none⟩,
 ⟨.move, [.tmp 10], (some 11), none⟩,
 ⟨.move, [.tmp 0], (some 12), some (11, false)⟩,
 ⟨.lenS, [.tmp 12], (some 13), some (11, false)⟩,
 ⟨(.bin .gtr), [.tmp 13, .const (.int .i64 65536)], (some 14), some (11, false)⟩,
 ⟨.pick, [.tmp 11, .const (.bool true), .tmp 14], (some 15), none⟩,
 ⟨.move, [.tmp 15], (some 16), none⟩,
 ⟨.move, [.tmp 0], (some 17), some (16, false)⟩,
 ⟨(.callF 20), [.tmp 17], (some 18), some (16, false)⟩,
 ⟨(.bin .lss), [.tmp 18, .const (.int .i64 0)], (some 19), some (16, false)⟩,
 ⟨.pick, [.tmp 16, .const (.bool true), .tmp 19], (some 20), none⟩,
 ⟨.move, [.tmp 20], (some 21), none⟩,
 ⟨.move, [.tmp 0], (some 22), some (21, false)⟩,
 ⟨(.callF 21), [.tmp 22], (some 23), some (21, false)⟩,
 ⟨(.bin .gtr), [.tmp 23, .const (.int .i64 2147483647)], (some 24), some (21, false)⟩,
 ⟨.pick, [.tmp 21, .const (.bool true), .tmp 24], (some 25), none⟩])
 (.cond (.tmp 25) (.seq (.seqR [⟨(.build [(.int .i64 0), (.int .i64 0), (.int .i64 0), (.int .i64 0), (.int .i64 0), (.int .i64 0)] []), [], (some 26), none⟩,
 ⟨(.store 6), [.tmp 2, .tmp 26], none, none⟩])
 .ret)
 .skip))
 (.seq (.seqR [⟨.move, [.tmp 0], (some 27), none⟩,
 ⟨(.callF 23), [.tmp 27], (some 28), none⟩,
 ⟨(.callF 22), [.tmp 28], (some 29), none⟩,
 ⟨.move, [.tmp 29], (some 3), none⟩])
 (.seq (.seqR [⟨.move, [.tmp 3], (some 30), none⟩,
 ⟨.lenS, [.tmp 30], (some 31), none⟩,
 ⟨.move, [.tmp 31], (some 4), none⟩])
 (.seq (.drawR [⟨⟨.move, [.tmp 4], (some 32), none⟩, false, false, 0, 1⟩,
 ⟨⟨.move, [.tmp 3], (some 33), none⟩, false, false, 0, 1⟩,
 ⟨⟨(.indexAddrS 1), [.tmp 33, .const (.int .i64 0)], (some 34), none⟩, false, false, 0, 1⟩,
 ⟨⟨(.load false 1), [.tmp 34], (some 35), none⟩, false, false, 0, 1⟩,
 ⟨⟨.move, [.tmp 3], (some 36), none⟩, false, false, 0, 1⟩,
 ⟨⟨.move, [.tmp 4], (some 37), none⟩, false, false, 0, 1⟩,
 ⟨⟨(.bin .sub), [.tmp 37, .const (.int .i64 1)], (some 38), none⟩, false, false, 0, 1⟩,
 ⟨⟨(.indexAddrS 1), [.tmp 36, .tmp 38], (some 39), none⟩, false, false, 0, 1⟩,
 ⟨⟨(.load false 1), [.tmp 39], (some 40), none⟩, false, false, 0, 1⟩,
 ⟨⟨.move, [.tmp 3], (some 41), none⟩, false, false, 0, 1⟩,
 ⟨⟨.move, [.tmp 4], (some 42), none⟩, false, false, 0, 1⟩,
 ⟨⟨(.bin .sub), [.tmp 42, .const (.int .i64 1)], (some 43), none⟩, false, false, 0, 1⟩,
 ⟨⟨(.bin .quo), [.tmp 43, .const (.int .i64 2)], (some 44), none⟩, false, false, 0, 1⟩,
 ⟨⟨(.indexAddrS 1), [.tmp 41, .tmp 44], (some 45), none⟩, false, false, 0, 1⟩,
 ⟨⟨(.load false 1), [.tmp 45], (some 46), none⟩, false, false, 0, 1⟩,
 ⟨⟨.move, [.tmp 3], (some 47), none⟩, false, false, 0, 1⟩,
 ⟨⟨.move, [.tmp 4], (some 48), none⟩, false, false, 0, 1⟩,
 ⟨⟨(.bin .sub), [.tmp 48, .const (.int .i64 1)], (some 49), none⟩, false, false, 0, 1⟩,
 ⟨⟨(.bin .mul), [.const (.int .i64 9), .tmp 49], (some 50), none⟩, false, false, 0, 1⟩,
 ⟨⟨(.bin .quo), [.tmp 50, .const (.int .i64 10)], (some 51), none⟩, false, false, 0, 1⟩,
 ⟨⟨(.indexAddrS 1), [.tmp 47, .tmp 51], (some 52), none⟩, false, false, 0, 1⟩,
 ⟨⟨(.load false 1), [.tmp 52], (some 53), none⟩, false, false, 0, 1⟩,
 ⟨⟨(.build [(.int .i64 0), (.int .i64 0), (.int .i64 0), (.int .i64 0), (.int .i64 0), (.int .i64 0)] [(0, 1), (2, 1), (3, 1), (4, 1), (5, 1)]), [.tmp 32, .tmp 35, .tmp 40, .tmp 46, .tmp 53], (some 54), none⟩, false, false, 0, 1⟩,
 ⟨⟨(.new [(.int .i64 0), (.int .i64 0), (.int .i64 0), (.int .i64 0), (.int .i64 0), (.int .i64 0)]), [], (some 5), none⟩, true, false, 0, 1⟩,
 ⟨⟨(.store 6), [.tmp 5, .tmp 54], none, none⟩, true, false, 1, 2⟩])
 (.seq (.seq (.seqR [⟨.move, [.tmp 3], (some 55), none⟩,
 ⟨.lenS, [.tmp 55], (some 56), none⟩,
 ⟨.move, [.const (.int .i64 0)], (some 57), none⟩])
 (.block 0 (.loop (.seq (.seqR [⟨(.bin .lss), [.tmp 57, .tmp 56], (some 58), none⟩])
 (.seq (.cond (.tmp 58) .skip
 (.exit 0))
 (.seq (.block 1 (.seq (.seqR [⟨(.indexAddrS 1), [.tmp 55, .tmp 57], (some 59), none⟩,
 ⟨(.load false 1), [.tmp 59], (some 60), none⟩,
 ⟨.move, [.tmp 60], (some 7), none⟩])
 (.seqR [⟨(.fieldAddr 1), [.tmp 5], (some 61), none⟩,
 ⟨(.load false 1), [.tmp 61], (some 62), none⟩,
 ⟨.move, [.tmp 7], (some 63), none⟩,
 ⟨(.bin .add), [.tmp 62, .tmp 63], (some 64), none⟩,
 ⟨(.fieldAddr 1), [.tmp 5], (some 65), none⟩,
 ⟨(.store 1), [.tmp 65, .tmp 64], none, none⟩])))
 (.seqR [⟨(.bin .add), [.tmp 57, .const (.int .i64 1)], (some 66), none⟩,
 ⟨.move, [.tmp 66], (some 57), none⟩])))))))
 (.seq (.seqR [⟨(.load true 6), [.tmp 5], (some 67), none⟩,
 ⟨(.store 6), [.tmp 2, .tmp 67], none, none⟩])
 .ret))))))), [.cell 2 true 6]⟩
theorem c8_ok : compFunc Try.prog Try.f8 = some c8 := by kernel_rfl
theorem c8_body : hasBody Try.prog 8 = true := hasBody_of Try.func8 (by kernel_rfl)
/-- coachyard/coachyardref29.Of -/
def c9 : PFn := ⟨69, Tr.ofList (List.replicate 69 undefA), (.seq (.seqR [⟨(.new [(.int .i64 0), (.int .i64 0), (.int .i64 0), (.int .i64 0), (.int .i64 0), (.int .i64 0)]), [], (some 2), none⟩])
 (.seq (.seq (.seqR [⟨.move, [.tmp 0], (some 5), none⟩,
 ⟨.lenS, [.tmp 5], (some 6), none⟩,
 ⟨(.bin .gtr), [.tmp 6, .const (.int .i64 65536)], (some 7), none⟩,
 ⟨.move, [.tmp 7], (some 8), none⟩,
 ⟨.move, [.tmp 0], (some 9), some (8, false)⟩,
 ⟨.lenS, [.tmp 9], (some 10), some (8, false)⟩,
 ⟨(.bin .eql), [.tmp 10, .const (.int .i64 0)], (some 11), some (8, false)⟩,
 ⟨.pick, [.tmp 8, .const (.bool true), .tmp 11], (some 12), none⟩])
 (.cond (.tmp 12) (.seq (.seqR [⟨(.build [(.int .i64 0), (.int .i64 0), (.int .i64 0), (.int .i64 0), (.int .i64 0), (.int .i64 0)] []), [], (some 13), none⟩,
 ⟨(.store 6), [.tmp 2, .tmp 13], none, none⟩])
 .ret)
 .skip))
 (.seq (.seqR [⟨.move, [.tmp 0], (some 14), none⟩,
 ⟨.lenS, [.tmp 14], (some 15), none⟩,
 ⟨(.build [(.int .i64 0), (.int .i64 0), (.int .i64 0), (.int .i64 0), (.int .i64 0), (.int .i64 0)] [(0, 1)]), [.tmp 15], (some 16), none⟩,
 ⟨(.new [(.int .i64 0), (.int .i64 0), (.int .i64 0), (.int .i64 0), (.int .i64 0), (.int .i64 0)]), [], (some 3), none⟩,
 ⟨(.store 6), [.tmp 3, .tmp 16], none, none⟩])
 (.seq (.seq (.seqR [⟨.move, [.const (.int .i64 0)], (some 4), none⟩])
 (.block 0 (.loop (.seq (.seq (.seqR [⟨.move, [.tmp 4], (some 17), none⟩,
 ⟨.move, [.tmp 0], (some 18), none⟩,
 ⟨.lenS, [.tmp 18], (some 19), none⟩,
 ⟨(.bin .lss), [.tmp 17, .tmp 19], (some 20), none⟩])
 (.cond (.tmp 20) .skip
 (.exit 0)))
 (.seq (.block 1 (.seq (.seq (.seqR [⟨.move, [.tmp 0], (some 23), none⟩,
 ⟨.move, [.tmp 4], (some 24), none⟩,
 ⟨(.indexAddrS 1), [.tmp 23, .tmp 24], (some 25), none⟩,
 ⟨(.load false 1), [.tmp 25], (some 26), none⟩,
 ⟨(.bin .lss), [.tmp 26, .const (.int .i64 0)], (some 27), none⟩,
 ⟨.move, [.tmp 27], (some 28), none⟩,
 ⟨.move, [.tmp 0], (some 29), some (28, false)⟩,
 ⟨.move, [.tmp 4], (some 30), some (28, false)⟩,
 ⟨(.indexAddrS 1), [.tmp 29, .tmp 30], (some 31), some (28, false)⟩,
 ⟨(.load false 1), [.tmp 31], (some 32), some (28, false)⟩,
 ⟨(.bin .gtr), [.tmp 32, .const (.int .i64 2147483647)], (some 33), some (28, false)⟩,
 ⟨.pick, [.tmp 28, .const (.bool true), .tmp 33], (some 34), none⟩])
 (.cond (.tmp 34) (.seq (.seqR [⟨(.build [(.int .i64 0), (.int .i64 0), (.int .i64 0), (.int .i64 0), (.int .i64 0), (.int .i64 0)] []), [], (some 35), none⟩,
 ⟨(.store 6), [.tmp 2, .tmp 35], none, none⟩])
 .ret)
 .skip))
 (.drawR [⟨⟨(.fieldAddr 1), [.tmp 3], (some 36), none⟩, false, false, 0, 0⟩,
 ⟨⟨(.load false 1), [.tmp 36], (some 37), none⟩, false, false, 0, 0⟩,
 ⟨⟨.move, [.tmp 0], (some 38), none⟩, false, false, 0, 0⟩,
 ⟨⟨.move, [.tmp 4], (some 39), none⟩, false, false, 0, 0⟩,
 ⟨⟨(.indexAddrS 1), [.tmp 38, .tmp 39], (some 40), none⟩, false, false, 0, 0⟩,
 ⟨⟨(.load false 1), [.tmp 40], (some 41), none⟩, false, false, 0, 0⟩,
 ⟨⟨(.bin .add), [.tmp 37, .tmp 41], (some 42), none⟩, false, false, 0, 0⟩,
 ⟨⟨(.fieldAddr 1), [.tmp 3], (some 43), none⟩, false, false, 0, 0⟩,
 ⟨⟨(.store 1), [.tmp 43, .tmp 42], none, none⟩, true, false, 0, 1⟩])))
 (.seqR [⟨.move, [.tmp 4], (some 21), none⟩,
 ⟨(.bin .add), [.tmp 21, .const (.int .i64 1)], (some 22), none⟩,
 ⟨.move, [.tmp 22], (some 4), none⟩]))))))
 (.seq (.seqR [⟨.move, [.tmp 0], (some 44), none⟩,
 ⟨(.callF 24), [.tmp 44, .const (.int .i64 0)], (some 45), none⟩,
 ⟨(.fieldAddr 2), [.tmp 3], (some 46), none⟩,
 ⟨(.store 1), [.tmp 46, .tmp 45], none, none⟩])
 (.seq (.seqR [⟨.move, [.tmp 0], (some 47), none⟩,
 ⟨.move, [.tmp 0], (some 48), none⟩,
 ⟨.lenS, [.tmp 48], (some 49), none⟩,
 ⟨(.bin .sub), [.tmp 49, .const (.int .i64 1)], (some 50), none⟩,
 ⟨(.callF 24), [.tmp 47, .tmp 50], (some 51), none⟩,
 ⟨(.fieldAddr 3), [.tmp 3], (some 52), none⟩,
 ⟨(.store 1), [.tmp 52, .tmp 51], none, none⟩])
 (.seq (.seqR [⟨.move, [.tmp 0], (some 53), none⟩,
 ⟨.move, [.tmp 0], (some 54), none⟩,
 ⟨.lenS, [.tmp 54], (some 55), none⟩,
 ⟨(.bin .sub), [.tmp 55, .const (.int .i64 1)], (some 56), none⟩,
 ⟨(.bin .quo), [.tmp 56, .const (.int .i64 2)], (some 57), none⟩,
 ⟨(.callF 24), [.tmp 53, .tmp 57], (some 58), none⟩,
 ⟨(.fieldAddr 4), [.tmp 3], (some 59), none⟩,
 ⟨(.store 1), [.tmp 59, .tmp 58], none, none⟩])
 (.seq (.seqR [⟨.move, [.tmp 0], (some 60), none⟩,
 ⟨.move, [.tmp 0], (some 61), none⟩,
 ⟨.lenS, [.tmp 61], (some 62), none⟩,
 ⟨(.bin .sub), [.tmp 62, .const (.int .i64 1)], (some 63), none⟩,
 ⟨(.bin .mul), [.const (.int .i64 9), .tmp 63], (some 64), none⟩,
 ⟨(.bin .quo), [.tmp 64, .const (.int .i64 10)], (some 65), none⟩,
 ⟨(.callF 24), [.tmp 60, .tmp 65], (some 66), none⟩,
 ⟨(.fieldAddr 5), [.tmp 3], (some 67), none⟩,
 ⟨(.store 1), [.tmp 67, .tmp 66], none, none⟩])
 (.seq (.seqR [⟨(.load true 6), [.tmp 3], (some 68), none⟩,
 ⟨(.store 6), [.tmp 2, .tmp 68], none, none⟩])
 .ret))))))))), [.cell 2 true 6]⟩
theorem c9_ok : compFunc Try.prog Try.f9 = some c9 := by kernel_rfl
theorem c9_body : hasBody Try.prog 9 = true := hasBody_of Try.func9 (by kernel_rfl)
/-- coachyard/coachyardlaw29.big -/
def c10 : PFn := ⟨31, Tr.ofList (List.replicate 31 undefA), (.seq (.seqR [⟨.move, [.const (.bool false)], (some 2), none⟩])
 (.seq (.seq (.seqR [⟨.move, [.tmp 0], (some 4), none⟩,
 ⟨.lenS, [.tmp 4], (some 5), none⟩,
 ⟨(.bin .gtr), [.tmp 5, .const (.int .i64 100)], (some 6), none⟩])
 (.cond (.tmp 6) (.seq (.seqR [⟨.move, [.const (.bool true)], (some 2), none⟩])
 .ret)
 .skip))
 (.seq (.seq (.seqR [⟨.move, [.const (.int .i64 0)], (some 3), none⟩])
 (.block 0 (.loop (.seq (.seq (.seqR [⟨.move, [.tmp 3], (some 7), none⟩,
 ⟨.move, [.tmp 0], (some 8), none⟩,
 ⟨.lenS, [.tmp 8], (some 9), none⟩,
 ⟨(.bin .lss), [.tmp 7, .tmp 9], (some 10), none⟩])
 (.cond (.tmp 10) .skip
 (.exit 0)))
 (.seq (.block 1 (.seq (.seqR [⟨.move, [.tmp 0], (some 13), none⟩,
 ⟨.move, [.tmp 3], (some 14), none⟩,
 ⟨(.indexAddrS 10), [.tmp 13, .tmp 14], (some 15), none⟩,
 ⟨(.fieldAddr 4), [.tmp 15], (some 16), none⟩,
 ⟨(.fieldAddr 2), [.tmp 16], (some 17), none⟩,
 ⟨(.load false 1), [.tmp 17], (some 18), none⟩,
 ⟨.lenS, [.tmp 18], (some 19), none⟩,
 ⟨(.bin .gtr), [.tmp 19, .const (.int .i64 100)], (some 20), none⟩,
 ⟨.move, [.tmp 20], (some 21), none⟩,
 ⟨.move, [.tmp 0], (some 22), some (21, false)⟩,
 ⟨.move, [.tmp 3], (some 23), some (21, false)⟩,
 ⟨(.indexAddrS 10), [.tmp 22, .tmp 23], (some 24), some (21, false)⟩,
 ⟨(.fieldAddr 7), [.tmp 24], (some 25), some (21, false)⟩,
 ⟨(.fieldAddr 2), [.tmp 25], (some 26), some (21, false)⟩,
 ⟨(.load false 1), [.tmp 26], (some 27), some (21, false)⟩,
 ⟨.lenS, [.tmp 27], (some 28), some (21, false)⟩,
 ⟨(.bin .gtr), [.tmp 28, .const (.int .i64 100)], (some 29), some (21, false)⟩,
 ⟨.pick, [.tmp 21, .const (.bool true), .tmp 29], (some 30), none⟩])
 (.cond (.tmp 30) (.seq (.seqR [⟨.move, [.const (.bool true)], (some 2), none⟩])
 .ret)
 .skip)))
 (.seqR [⟨.move, [.tmp 3], (some 11), none⟩,
 ⟨(.bin .add), [.tmp 11, .const (.int .i64 1)], (some 12), none⟩,
 ⟨.move, [.tmp 12], (some 3), none⟩]))))))
 (.seq (.seqR [⟨.move, [.const (.bool false)], (some 2), none⟩])
 .ret)))), [.tmp 2]⟩
theorem c10_ok : compFunc Try.prog Try.f10 = some c10 := by kernel_rfl
theorem c10_body : hasBody Try.prog 10 = true := hasBody_of Try.func10 (by kernel_rfl)
/-- coachyard/stats.Load -/
def c11 : PFn := ⟨100, Tr.ofList (List.replicate 100 undefA), (.seq (.seqR [⟨.move, [.const (.slice none 0 0 false)], (some 2), none⟩,
 ⟨.move, [.const (.int .i64 0)], (some 3), none⟩])
 (.seq (.seqR [⟨.move, [.tmp 0], (some 15), none⟩,
 ⟨(.callF 25), [.tmp 15], (some 16), none⟩,
 ⟨.move, [.tmp 16], (some 14), none⟩,
 ⟨(.extract 0), [.tmp 14], (some 17), none⟩,
 ⟨(.extract 1), [.tmp 14], (some 18), none⟩,
 ⟨.move, [.tmp 17], (some 4), none⟩,
 ⟨.move, [.tmp 18], (some 5), none⟩])
 (.seq (.block 0 (.seq (.seqR [⟨.move, [.tmp 5], (some 20), none⟩,
 ⟨(.bin .neq), [.tmp 20, .const (.int .i64 0)], (some 21), none⟩,
 ⟨.move, [.tmp 21], (some 19), none⟩])
 (.cond (.tmp 19) (.seq (.seqR [⟨.move, [.tmp 5], (some 22), none⟩,
 ⟨.move, [.const (.slice none 0 0 false)], (some 2), none⟩,
 ⟨.move, [.tmp 22], (some 3), none⟩])
 .ret)
 (.seq (.seqR [⟨.move, [.tmp 0], (some 24), none⟩,
 ⟨.lenS, [.tmp 24], (some 25), none⟩,
 ⟨(.bin .eql), [.tmp 25, .const (.int .i64 0)], (some 26), none⟩,
 ⟨.move, [.tmp 26], (some 23), none⟩])
 (.cond (.tmp 23) (.seq (.seqR [⟨.move, [.const (.slice none 0 0 false)], (some 2), none⟩,
 ⟨.move, [.const (.int .i64 0)], (some 3), none⟩])
 .ret)
 .skip)))))
 (.seq (.seqR [⟨.move, [.tmp 0], (some 27), none⟩,
 ⟨(.indexAddrS 10), [.tmp 27, .const (.int .i64 0)], (some 28), none⟩,
 ⟨(.fieldAddr 0), [.tmp 28], (some 29), none⟩,
 ⟨(.load false 1), [.tmp 29], (some 30), none⟩,
 ⟨.move, [.tmp 30], (some 6), none⟩])
 (.seq (.seqR [⟨.move, [.tmp 0], (some 31), none⟩,
 ⟨.move, [.tmp 0], (some 32), none⟩,
 ⟨.lenS, [.tmp 32], (some 33), none⟩,
 ⟨(.bin .sub), [.tmp 33, .const (.int .i64 1)], (some 34), none⟩,
 ⟨(.indexAddrS 10), [.tmp 31, .tmp 34], (some 35), none⟩,
 ⟨(.fieldAddr 0), [.tmp 35], (some 36), none⟩,
 ⟨(.load false 1), [.tmp 36], (some 37), none⟩,
 ⟨.move, [.tmp 6], (some 38), none⟩,
 ⟨(.bin .sub), [.tmp 37, .tmp 38], (some 39), none⟩,
 ⟨.move, [.tmp 39], (some 7), none⟩])
 (.seq (.seq (.seqR [⟨.move, [.tmp 7], (some 40), none⟩,
 ⟨(.bin .gtr), [.tmp 40, .const (.int .i64 65536)], (some 41), none⟩])
 (.cond (.tmp 41) (.seq (.seqR [⟨.move, [.const (.slice none 0 0 false)], (some 2), none⟩,
 ⟨.move, [.const (.int .i64 14)], (some 3), none⟩])
 .ret)
 .skip))
 (.seq (.seqR [⟨.move, [.tmp 7], (some 42), none⟩,
 ⟨(.bin .add), [.tmp 42, .const (.int .i64 1)], (some 43), none⟩,
 ⟨(.makeSlice 1 8 [(.int .i64 0)]), [.tmp 43, .tmp 43], (some 44), none⟩,
 ⟨.move, [.tmp 44], (some 8), none⟩])
 (.seq (.seq (.seqR [⟨.move, [.tmp 4], (some 45), none⟩,
 ⟨.lenS, [.tmp 45], (some 46), none⟩,
 ⟨.move, [.const (.int .i64 0)], (some 47), none⟩])
 (.block 1 (.loop (.seq (.seqR [⟨(.bin .lss), [.tmp 47, .tmp 46], (some 48), none⟩])
 (.seq (.cond (.tmp 48) .skip
 (.exit 1))
 (.seq (.block 2 (.seq (.seqR [⟨(.indexAddrS 10), [.tmp 45, .tmp 47], (some 49), none⟩,
 ⟨(.load true 10), [.tmp 49], (some 50), none⟩,
 ⟨(.new [(.int .i64 0), (.int .i64 0), (.int .i64 0), (.int .i64 0), (.int .i64 0), (.int .u64 0), (.slice none 0 0 false), (.int .i64 0), (.int .u64 0), (.slice none 0 0 false)]), [], (some 10), none⟩,
 ⟨(.store 10), [.tmp 10, .tmp 50], none, none⟩])
 (.seq (.seqR [⟨.move, [.tmp 8], (some 51), none⟩,
 ⟨.move, [.tmp 0], (some 52), none⟩,
 ⟨(.fieldAddr 2), [.tmp 10], (some 53), none⟩,
 ⟨(.load false 1), [.tmp 53], (some 54), none⟩,
 ⟨(.indexAddrS 10), [.tmp 52, .tmp 54], (some 55), none⟩,
 ⟨(.fieldAddr 0), [.tmp 55], (some 56), none⟩,
 ⟨(.load false 1), [.tmp 56], (some 57), none⟩,
 ⟨.move, [.tmp 6], (some 58), none⟩,
 ⟨(.bin .sub), [.tmp 57, .tmp 58], (some 59), none⟩,
 ⟨(.indexAddrS 1), [.tmp 51, .tmp 59], (some 60), none⟩,
 ⟨(.load false 1), [.tmp 60], (some 61), none⟩,
 ⟨(.bin .add), [.tmp 61, .const (.int .i64 1)], (some 62), none⟩,
 ⟨(.indexAddrS 1), [.tmp 51, .tmp 59], (some 63), none⟩,
 ⟨(.store 1), [.tmp 63, .tmp 62], none, none⟩])
 (.seq (.seqR [⟨(.fieldAddr 3), [.tmp 10], (some 64), none⟩,
 ⟨(.load false 1), [.tmp 64], (some 65), none⟩,
 ⟨(.bin .geq), [.tmp 65, .const (.int .i64 0)], (some 66), none⟩])
 (.cond (.tmp 66) (.seqR [⟨.move, [.tmp 8], (some 67), none⟩,
 ⟨.move, [.tmp 0], (some 68), none⟩,
 ⟨(.fieldAddr 3), [.tmp 10], (some 69), none⟩,
 ⟨(.load false 1), [.tmp 69], (some 70), none⟩,
 ⟨(.indexAddrS 10), [.tmp 68, .tmp 70], (some 71), none⟩,
 ⟨(.fieldAddr 0), [.tmp 71], (some 72), none⟩,
 ⟨(.load false 1), [.tmp 72], (some 73), none⟩,
 ⟨.move, [.tmp 6], (some 74), none⟩,
 ⟨(.bin .sub), [.tmp 73, .tmp 74], (some 75), none⟩,
 ⟨(.indexAddrS 1), [.tmp 67, .tmp 75], (some 76), none⟩,
 ⟨(.load false 1), [.tmp 76], (some 77), none⟩,
 ⟨(.bin .sub), [.tmp 77, .const (.int .i64 1)], (some 78), none⟩,
 ⟨(.indexAddrS 1), [.tmp 67, .tmp 75], (some 79), none⟩,
 ⟨(.store 1), [.tmp 79, .tmp 78], none, none⟩])
 .skip)))))
 (.seqR [⟨(.bin .add), [.tmp 47, .const (.int .i64 1)], (some 80), none⟩,
 ⟨.move, [.tmp 80], (some 47), none⟩])))))))
 (.seq (.seqR [⟨.move, [.tmp 7], (some 81), none⟩,
 ⟨(.makeSlice 1 8 [(.int .i64 0)]), [.tmp 81, .tmp 81], (some 82), none⟩,
 ⟨.move, [.tmp 82], (some 11), none⟩])
 (.seq (.seqR [⟨.move, [.const (.int .i64 0)], (some 12), none⟩])
 (.seq (.seq (.seqR [⟨.move, [.tmp 11], (some 83), none⟩,
 ⟨.lenS, [.tmp 83], (some 84), none⟩,
 ⟨.move, [.const (.int .i64 0)], (some 85), none⟩])
 (.block 3 (.loop (.seq (.seqR [⟨(.bin .lss), [.tmp 85, .tmp 84], (some 86), none⟩])
 (.seq (.cond (.tmp 86) .skip
 (.exit 3))
 (.seq (.block 4 (.seq (.seqR [⟨.move, [.tmp 85], (some 87), none⟩,
 ⟨.move, [.tmp 87], (some 13), none⟩])
 (.seq (.seqR [⟨.move, [.tmp 12], (some 88), none⟩,
 ⟨.move, [.tmp 8], (some 89), none⟩,
 ⟨.move, [.tmp 13], (some 90), none⟩,
 ⟨(.indexAddrS 1), [.tmp 89, .tmp 90], (some 91), none⟩,
 ⟨(.load false 1), [.tmp 91], (some 92), none⟩,
 ⟨(.bin .add), [.tmp 88, .tmp 92], (some 93), none⟩,
 ⟨.move, [.tmp 93], (some 12), none⟩])
 (.seqR [⟨.move, [.tmp 11], (some 94), none⟩,
 ⟨.move, [.tmp 13], (some 95), none⟩,
 ⟨.move, [.tmp 12], (some 96), none⟩,
 ⟨(.indexAddrS 1), [.tmp 94, .tmp 95], (some 97), none⟩,
 ⟨(.store 1), [.tmp 97, .tmp 96], none, none⟩]))))
 (.seqR [⟨(.bin .add), [.tmp 85, .const (.int .i64 1)], (some 98), none⟩,
 ⟨.move, [.tmp 98], (some 85), none⟩])))))))
 (.seq (.seqR [⟨.move, [.tmp 11], (some 99), none⟩,
 ⟨.move, [.tmp 99], (some 2), none⟩,
 ⟨.move, [.const (.int .i64 0)], (some 3), none⟩])
 .ret)))))))))))), [.tmp 2, .tmp 3]⟩
theorem c11_ok : compFunc Try.prog Try.f11 = some c11 := by kernel_rfl
theorem c11_body : hasBody Try.prog 11 = true := hasBody_of Try.func11 (by kernel_rfl)
/-- coachyard/coachyardref29.May -/
def c12 : PFn := ⟨18, Tr.ofList (List.replicate 18 undefA), (.seq (.seqR [⟨.move, [.const (.bool false)], (some 2), none⟩])
 (.seq (.seq (.seqR [⟨.move, [.const (.int .i64 0)], (some 3), none⟩])
 (.block 0 (.loop (.seq (.seq (.seqR [⟨.move, [.tmp 3], (some 4), none⟩,
 ⟨.move, [.tmp 0], (some 5), none⟩,
 ⟨.lenS, [.tmp 5], (some 6), none⟩,
 ⟨(.bin .lss), [.tmp 4, .tmp 6], (some 7), none⟩])
 (.cond (.tmp 7) .skip
 (.exit 0)))
 (.seq (.block 1 (.seq (.seqR [⟨.move, [.tmp 0], (some 10), none⟩,
 ⟨.move, [.tmp 3], (some 11), none⟩,
 ⟨(.indexAddrS 10), [.tmp 10, .tmp 11], (some 12), none⟩,
 ⟨(.fieldAddr 0), [.tmp 12], (some 13), none⟩,
 ⟨(.load false 1), [.tmp 13], (some 14), none⟩,
 ⟨(.bin .gtr), [.tmp 14, .const (.int .i64 2147483647)], (some 15), none⟩])
 (.cond (.tmp 15) (.seq (.seqR [⟨.move, [.const (.bool false)], (some 2), none⟩])
 .ret)
 .skip)))
 (.seqR [⟨.move, [.tmp 3], (some 8), none⟩,
 ⟨(.bin .add), [.tmp 8, .const (.int .i64 1)], (some 9), none⟩,
 ⟨.move, [.tmp 9], (some 3), none⟩]))))))
 (.seq (.seqR [⟨.move, [.tmp 0], (some 16), none⟩,
 ⟨(.callF 26), [.tmp 16], (some 17), none⟩,
 ⟨.move, [.tmp 17], (some 2), none⟩])
 .ret))), [.tmp 2]⟩
theorem c12_ok : compFunc Try.prog Try.f12 = some c12 := by kernel_rfl
theorem c12_body : hasBody Try.prog 12 = true := hasBody_of Try.func12 (by kernel_rfl)
/-- coachyard/coachyardref01.SameInts -/
def c13 : PFn := ⟨26, Tr.ofList (List.replicate 26 undefA), (.seq (.seqR [⟨.move, [.const (.bool false)], (some 4), none⟩])
 (.seq (.seq (.seqR [⟨.move, [.tmp 0], (some 6), none⟩,
 ⟨.lenS, [.tmp 6], (some 7), none⟩,
 ⟨.move, [.tmp 1], (some 8), none⟩,
 ⟨.lenS, [.tmp 8], (some 9), none⟩,
 ⟨(.bin .neq), [.tmp 7, .tmp 9], (some 10), none⟩])
 (.cond (.tmp 10) (.seq (.seqR [⟨.move, [.const (.bool false)], (some 4), none⟩])
 .ret)
 .skip))
 (.seq (.seq (.seqR [⟨.move, [.const (.int .i64 0)], (some 5), none⟩])
 (.block 0 (.loop (.seq (.seq (.seqR [⟨.move, [.tmp 5], (some 11), none⟩,
 ⟨.move, [.tmp 0], (some 12), none⟩,
 ⟨.lenS, [.tmp 12], (some 13), none⟩,
 ⟨(.bin .lss), [.tmp 11, .tmp 13], (some 14), none⟩])
 (.cond (.tmp 14) .skip
 (.exit 0)))
 (.seq (.block 1 (.seq (.drawR [⟨⟨.move, [.tmp 0], (some 17), none⟩, false, false, 0, 0⟩,
 ⟨⟨.move, [.tmp 5], (some 18), none⟩, false, false, 0, 0⟩,
 ⟨⟨(.indexAddrS 1), [.tmp 17, .tmp 18], (some 19), none⟩, false, false, 0, 0⟩,
 ⟨⟨(.load false 1), [.tmp 19], (some 20), none⟩, false, false, 0, 0⟩,
 ⟨⟨.move, [.tmp 1], (some 21), none⟩, false, false, 0, 0⟩,
 ⟨⟨.move, [.tmp 5], (some 22), none⟩, false, false, 0, 0⟩,
 ⟨⟨(.indexAddrS 1), [.tmp 21, .tmp 22], (some 23), none⟩, false, false, 0, 0⟩,
 ⟨⟨(.load false 1), [.tmp 23], (some 24), none⟩, false, false, 0, 0⟩,
 ⟨⟨(.bin .neq), [.tmp 20, .tmp 24], (some 25), none⟩, false, false, 0, 0⟩])
 (.cond (.tmp 25) (.seq (.seqR [⟨.move, [.const (.bool false)], (some 4), none⟩])
 .ret)
 .skip)))
 (.seqR [⟨.move, [.tmp 5], (some 15), none⟩,
 ⟨(.bin .add), [.tmp 15, .const (.int .i64 1)], (some 16), none⟩,
 ⟨.move, [.tmp 16], (some 5), none⟩]))))))
 (.seq (.seqR [⟨.move, [.const (.bool true)], (some 4), none⟩])
 .ret)))), [.tmp 4]⟩
theorem c13_ok : compFunc Try.prog Try.f13 = some c13 := by kernel_rfl
theorem c13_body : hasBody Try.prog 13 = true := hasBody_of Try.func13 (by kernel_rfl)
/-- coachyard/coachyardref29.Load -/
def c14 : PFn := ⟨71, Tr.ofList (List.replicate 71 undefA), (.seq (.seqR [⟨.move, [.const (.slice none 0 0 false)], (some 2), none⟩])
 (.seq (.seqR [⟨.move, [.tmp 0], (some 8), none⟩,
 ⟨(.callF 27), [.tmp 8], (some 9), none⟩,
 ⟨.move, [.tmp 9], (some 3), none⟩])
 (.seq (.seqR [⟨(.sliceLit 0 [] []), [], (some 10), none⟩,
 ⟨.move, [.tmp 10], (some 4), none⟩])
 (.seq (.seq (.seqR [⟨.move, [.tmp 0], (some 11), none⟩,
 ⟨(.indexAddrS 10), [.tmp 11, .const (.int .i64 0)], (some 12), none⟩,
 ⟨(.fieldAddr 0), [.tmp 12], (some 13), none⟩,
 ⟨(.load false 1), [.tmp 13], (some 14), none⟩,
 ⟨.move, [.tmp 14], (some 5), none⟩])
 (.block 0 (.loop (.seq (.seq (.seqR [⟨.move, [.tmp 5], (some 15), none⟩,
 ⟨.move, [.tmp 0], (some 16), none⟩,
 ⟨.move, [.tmp 0], (some 17), none⟩,
 ⟨.lenS, [.tmp 17], (some 18), none⟩,
 ⟨(.bin .sub), [.tmp 18, .const (.int .i64 1)], (some 19), none⟩,
 ⟨(.indexAddrS 10), [.tmp 16, .tmp 19], (some 20), none⟩,
 ⟨(.fieldAddr 0), [.tmp 20], (some 21), none⟩,
 ⟨(.load false 1), [.tmp 21], (some 22), none⟩,
 ⟨(.bin .lss), [.tmp 15, .tmp 22], (some 23), none⟩])
 (.cond (.tmp 23) .skip
 (.exit 0)))
 (.seq (.block 1 (.seq (.seqR [⟨.move, [.const (.int .i64 0)], (some 6), none⟩])
 (.seq (.seq (.seqR [⟨.move, [.const (.int .i64 0)], (some 7), none⟩])
 (.block 2 (.loop (.seq (.seq (.seqR [⟨.move, [.tmp 7], (some 26), none⟩,
 ⟨.move, [.tmp 3], (some 27), none⟩,
 ⟨.lenS, [.tmp 27], (some 28), none⟩,
 ⟨(.bin .lss), [.tmp 26, .tmp 28], (some 29), none⟩])
 (.cond (.tmp 29) .skip
 (.exit 2)))
 (.seq (.block 3 (.seq (.seqR [⟨.move, [.tmp 0], (some 32), none⟩,
 ⟨.move, [.tmp 3], (some 33), none⟩,
 ⟨.move, [.tmp 7], (some 34), none⟩,
 ⟨(.indexAddrS 10), [.tmp 33, .tmp 34], (some 35), none⟩,
 ⟨(.fieldAddr 2), [.tmp 35], (some 36), none⟩,
 ⟨(.load false 1), [.tmp 36], (some 37), none⟩,
 ⟨(.indexAddrS 10), [.tmp 32, .tmp 37], (some 38), none⟩,
 ⟨(.fieldAddr 0), [.tmp 38], (some 39), none⟩,
 ⟨(.load false 1), [.tmp 39], (some 40), none⟩,
 ⟨.move, [.tmp 5], (some 41), none⟩,
 ⟨(.bin .leq), [.tmp 40, .tmp 41], (some 42), none⟩,
 ⟨.move, [.tmp 42], (some 43), none⟩,
 ⟨.move, [.tmp 3], (some 44), some (43, true)⟩,
 ⟨.move, [.tmp 7], (some 45), some (43, true)⟩,
 ⟨(.indexAddrS 10), [.tmp 44, .tmp 45], (some 46), some (43, true)⟩,
 ⟨(.fieldAddr 3), [.tmp 46], (some 47), some (43, true)⟩,
 ⟨(.load false 1), [.tmp 47], (some 48), some (43, true)⟩,
 ⟨(.bin .lss), [.tmp 48, .const (.int .i64 0)], (some 49), some (43, true)⟩,
 ⟨.move, [.tmp 49], (some 50), some (43, true)⟩,
 ⟨.move, [.tmp 0], (some 51), some (50, false)⟩,
 ⟨.move, [.tmp 3], (some 52), some (50, false)⟩,
 ⟨.move, [.tmp 7], (some 53), some (50, false)⟩,
 ⟨(.indexAddrS 10), [.tmp 52, .tmp 53], (some 54), some (50, false)⟩,
 ⟨(.fieldAddr 3), [.tmp 54], (some 55), some (50, false)⟩,
 ⟨(.load false 1), [.tmp 55], (some 56), some (50, false)⟩,
 ⟨(.indexAddrS 10), [.tmp 51, .tmp 56], (some 57), some (50, false)⟩,
 ⟨(.fieldAddr 0), [.tmp 57], (some 58), some (50, false)⟩,
 ⟨(.load false 1), [.tmp 58], (some 59), some (50, false)⟩,
 ⟨.move, [.tmp 5], (some 60), some (50, false)⟩,
 ⟨(.bin .gtr), [.tmp 59, .tmp 60], (some 61), some (50, false)⟩,
 ⟨.pick, [.tmp 50, .const (.bool true), .tmp 61], (some 62), some (43, true)⟩,
 ⟨.pick, [.tmp 43, .tmp 62, .const (.bool false)], (some 63), none⟩])
 (.cond (.tmp 63) (.seqR [⟨.move, [.tmp 6], (some 64), none⟩,
 ⟨(.bin .add), [.tmp 64, .const (.int .i64 1)], (some 65), none⟩,
 ⟨.move, [.tmp 65], (some 6), none⟩])
 .skip)))
 (.seqR [⟨.move, [.tmp 7], (some 30), none⟩,
 ⟨(.bin .add), [.tmp 30, .const (.int .i64 1)], (some 31), none⟩,
 ⟨.move, [.tmp 31], (some 7), none⟩]))))))
 (.seqR [⟨.move, [.tmp 4], (some 66), none⟩,
 ⟨.move, [.tmp 6], (some 67), none⟩,
 ⟨(.sliceLit 1 [(.int .i64 0)] [(0, 1)]), [.tmp 67], (some 68), none⟩,
 ⟨(.append 1 8), [.tmp 66, .tmp 68], (some 69), none⟩,
 ⟨.move, [.tmp 69], (some 4), none⟩]))))
 (.seqR [⟨.move, [.tmp 5], (some 24), none⟩,
 ⟨(.bin .add), [.tmp 24, .const (.int .i64 1)], (some 25), none⟩,
 ⟨.move, [.tmp 25], (some 5), none⟩]))))))
 (.seq (.seqR [⟨.move, [.tmp 4], (some 70), none⟩,
 ⟨.move, [.tmp 70], (some 2), none⟩])
 .ret))))), [.tmp 2]⟩
theorem c14_ok : compFunc Try.prog Try.f14 = some c14 := by kernel_rfl
theorem c14_body : hasBody Try.prog 14 = true := hasBody_of Try.func14 (by kernel_rfl)
/-- coachyard/stats.Calls -/
def c15 : PFn := ⟨45, Tr.ofList (List.replicate 45 undefA), (.seq (.seqR [⟨(.new [(.int .i64 0), (.int .i64 0), (.int .i64 0), (.int .i64 0), (.int .i64 0), (.int .i64 0)]), [], (some 4), none⟩,
 ⟨.move, [.const (.int .i64 0)], (some 5), none⟩])
 (.seq (.seqR [⟨.move, [.tmp 0], (some 12), none⟩,
 ⟨(.callF 25), [.tmp 12], (some 13), none⟩,
 ⟨.move, [.tmp 13], (some 11), none⟩,
 ⟨(.extract 0), [.tmp 11], (some 14), none⟩,
 ⟨(.extract 1), [.tmp 11], (some 15), none⟩,
 ⟨.move, [.tmp 14], (some 6), none⟩,
 ⟨.move, [.tmp 15], (some 7), none⟩])
 (.seq (.seq (.seqR [⟨.move, [.tmp 7], (some 16), none⟩,
 ⟨(.bin .neq), [.tmp 16, .const (.int .i64 0)], (some 17), none⟩])
 (.cond (.tmp 17) (.seq (.seqR [⟨(.build [(.int .i64 0), (.int .i64 0), (.int .i64 0), (.int .i64 0), (.int .i64 0), (.int .i64 0)] []), [], (some 18), none⟩,
 ⟨.move, [.tmp 7], (some 19), none⟩,
 ⟨(.store 6), [.tmp 4, .tmp 18], none, none⟩,
 ⟨.move, [.tmp 19], (some 5), none⟩])
 .ret)
 .skip))
 (.seq (.seqR [⟨.move, [.const (.slice none 0 0 false)], (some 8), none⟩])
 (.seq (.seq (.seqR [⟨.move, [.tmp 6], (some 20), none⟩,
 ⟨.lenS, [.tmp 20], (some 21), none⟩,
 ⟨.move, [.const (.int .i64 0)], (some 22), none⟩])
 (.block 0 (.loop (.seq (.seqR [⟨(.bin .lss), [.tmp 22, .tmp 21], (some 23), none⟩])
 (.seq (.cond (.tmp 23) .skip
 (.exit 0))
 (.seq (.block 1 (.seq (.seqR [⟨(.indexAddrS 10), [.tmp 20, .tmp 22], (some 24), none⟩,
 ⟨(.load true 10), [.tmp 24], (some 25), none⟩,
 ⟨(.new [(.int .i64 0), (.int .i64 0), (.int .i64 0), (.int .i64 0), (.int .i64 0), (.int .u64 0), (.slice none 0 0 false), (.int .i64 0), (.int .u64 0), (.slice none 0 0 false)]), [], (some 10), none⟩,
 ⟨(.store 10), [.tmp 10, .tmp 25], none, none⟩])
 (.seq (.seqR [⟨(.fieldAddr 3), [.tmp 10], (some 26), none⟩,
 ⟨(.load false 1), [.tmp 26], (some 27), none⟩,
 ⟨(.bin .geq), [.tmp 27, .const (.int .i64 0)], (some 28), none⟩,
 ⟨.move, [.tmp 28], (some 29), none⟩,
 ⟨(.fieldAddr 4), [.tmp 10], (some 30), some (29, true)⟩,
 ⟨(.fieldAddr 0), [.tmp 30], (some 31), some (29, true)⟩,
 ⟨(.load false 1), [.tmp 31], (some 32), some (29, true)⟩,
 ⟨.move, [.tmp 1], (some 33), some (29, true)⟩,
 ⟨(.bin .eql), [.tmp 32, .tmp 33], (some 34), some (29, true)⟩,
 ⟨.pick, [.tmp 29, .tmp 34, .const (.bool false)], (some 35), none⟩])
 (.cond (.tmp 35) (.seqR [⟨.move, [.tmp 8], (some 36), none⟩,
 ⟨.move, [.tmp 0], (some 37), none⟩,
 ⟨(.load true 10), [.tmp 10], (some 38), none⟩,
 ⟨(.callF 28), [.tmp 37, .tmp 38], (some 39), none⟩,
 ⟨(.sliceLit 1 [(.int .i64 0)] [(0, 1)]), [.tmp 39], (some 40), none⟩,
 ⟨(.append 1 8), [.tmp 36, .tmp 40], (some 41), none⟩,
 ⟨.move, [.tmp 41], (some 8), none⟩])
 .skip))))
 (.seqR [⟨(.bin .add), [.tmp 22, .const (.int .i64 1)], (some 42), none⟩,
 ⟨.move, [.tmp 42], (some 22), none⟩])))))))
 (.seq (.seqR [⟨.move, [.tmp 8], (some 43), none⟩,
 ⟨(.callF 8), [.tmp 43], (some 44), none⟩,
 ⟨(.store 6), [.tmp 4, .tmp 44], none, none⟩,
 ⟨.move, [.const (.int .i64 0)], (some 5), none⟩])
 .ret)))))), [.cell 4 true 6, .tmp 5]⟩
theorem c15_ok : compFunc Try.prog Try.f15 = some c15 := by kernel_rfl
theorem c15_body : hasBody Try.prog 15 = true := hasBody_of Try.func15 (by kernel_rfl)
/-- coachyard/stats.Slowest -/
def c16 : PFn := ⟨76, Tr.ofList (List.replicate 76 undefA), (.seq (.seqR [⟨.move, [.const (.slice none 0 0 false)], (some 4), none⟩,
 ⟨.move, [.const (.int .i64 0)], (some 5), none⟩])
 (.seq (.seqR [⟨.move, [.tmp 0], (some 14), none⟩,
 ⟨(.callF 25), [.tmp 14], (some 15), none⟩,
 ⟨.move, [.tmp 15], (some 13), none⟩,
 ⟨(.extract 0), [.tmp 13], (some 16), none⟩,
 ⟨(.extract 1), [.tmp 13], (some 17), none⟩,
 ⟨.move, [.tmp 16], (some 6), none⟩,
 ⟨.move, [.tmp 17], (some 7), none⟩])
 (.seq (.seq (.seqR [⟨.move, [.tmp 7], (some 18), none⟩,
 ⟨(.bin .neq), [.tmp 18, .const (.int .i64 0)], (some 19), none⟩])
 (.cond (.tmp 19) (.seq (.seqR [⟨.move, [.tmp 7], (some 20), none⟩,
 ⟨.move, [.const (.slice none 0 0 false)], (some 4), none⟩,
 ⟨.move, [.tmp 20], (some 5), none⟩])
 .ret)
 .skip))
 (.seq (.seqR [⟨(.sliceLit 0 [] []), [], (some 21), none⟩,
 ⟨.box, [.tmp 21], (some 22), none⟩,
 ⟨.move, [.tmp 22], (some 8), none⟩])
 (.seq (.seq (.seqR [⟨.move, [.tmp 6], (some 23), none⟩,
 ⟨.lenS, [.tmp 23], (some 24), none⟩,
 ⟨.move, [.const (.int .i64 0)], (some 25), none⟩])
 (.block 0 (.loop (.seq (.seqR [⟨(.bin .lss), [.tmp 25, .tmp 24], (some 26), none⟩])
 (.seq (.cond (.tmp 26) .skip
 (.exit 0))
 (.seq (.block 1 (.seq (.seqR [⟨(.indexAddrS 10), [.tmp 23, .tmp 25], (some 27), none⟩,
 ⟨(.load true 10), [.tmp 27], (some 28), none⟩,
 ⟨(.new [(.int .i64 0), (.int .i64 0), (.int .i64 0), (.int .i64 0), (.int .i64 0), (.int .u64 0), (.slice none 0 0 false), (.int .i64 0), (.int .u64 0), (.slice none 0 0 false)]), [], (some 10), none⟩,
 ⟨(.store 10), [.tmp 10, .tmp 28], none, none⟩])
 (.seq (.seq (.seqR [⟨(.fieldAddr 3), [.tmp 10], (some 29), none⟩,
 ⟨(.load false 1), [.tmp 29], (some 30), none⟩,
 ⟨(.bin .lss), [.tmp 30, .const (.int .i64 0)], (some 31), none⟩,
 ⟨.move, [.tmp 31], (some 32), none⟩,
 ⟨.move, [.tmp 1], (some 33), some (32, false)⟩,
 ⟨(.bin .lss), [.tmp 33, .const (.int .i64 1)], (some 34), some (32, false)⟩,
 ⟨.pick, [.tmp 32, .const (.bool true), .tmp 34], (some 35), none⟩])
 (.cond (.tmp 35) (.exit 1)
 .skip))
 (.seq (.drawR [⟨⟨.move, [.tmp 8], (some 36), none⟩, false, false, 0, 1⟩,
 ⟨⟨(.mkIface 66), [.tmp 36], (some 37), none⟩, false, false, 0, 1⟩,
 ⟨⟨(.load true 10), [.tmp 10], (some 38), none⟩, false, false, 0, 1⟩,
 ⟨⟨.move, [.tmp 0], (some 39), none⟩, false, false, 0, 0⟩,
 ⟨⟨(.load true 10), [.tmp 10], (some 40), none⟩, false, false, 0, 0⟩,
 ⟨⟨(.callF 28), [.tmp 39, .tmp 40], (some 41), none⟩, true, false, 0, 1⟩,
 ⟨⟨(.build [(.int .i64 0), (.int .i64 0), (.int .i64 0), (.int .i64 0), (.int .i64 0), (.int .u64 0), (.slice none 0 0 false), (.int .i64 0), (.int .u64 0), (.slice none 0 0 false), (.int .i64 0)] [(0, 10), (10, 1)]), [.tmp 38, .tmp 41], (some 42), none⟩, false, false, 1, 1⟩,
 ⟨⟨(.mkIface 71), [.tmp 42], (some 43), none⟩, false, false, 1, 1⟩,
 ⟨⟨(.callF 29), [.tmp 37, .tmp 43], (some 44), none⟩, true, false, 1, 2⟩])
 (.seq (.seqR [⟨.move, [.tmp 8], (some 45), none⟩,
 ⟨.nilCheck, [.tmp 45], (some 46), none⟩,
 ⟨(.load false 1), [.tmp 46], (some 47), none⟩,
 ⟨(.callF 30), [.tmp 47], (some 48), none⟩,
 ⟨.move, [.tmp 1], (some 49), none⟩,
 ⟨(.bin .gtr), [.tmp 48, .tmp 49], (some 50), none⟩])
 (.cond (.tmp 50) (.seqR [⟨.move, [.tmp 8], (some 51), none⟩,
 ⟨(.mkIface 66), [.tmp 51], (some 52), none⟩,
 ⟨(.callF 31), [.tmp 52], (some 53), none⟩])
 .skip))))))
 (.seqR [⟨(.bin .add), [.tmp 25, .const (.int .i64 1)], (some 54), none⟩,
 ⟨.move, [.tmp 54], (some 25), none⟩])))))))
 (.seq (.seqR [⟨.move, [.tmp 8], (some 55), none⟩,
 ⟨.nilCheck, [.tmp 55], (some 56), none⟩,
 ⟨(.load false 1), [.tmp 56], (some 57), none⟩,
 ⟨(.callF 30), [.tmp 57], (some 58), none⟩,
 ⟨(.makeSlice 10 112 [(.int .i64 0), (.int .i64 0), (.int .i64 0), (.int .i64 0), (.int .i64 0), (.int .u64 0), (.slice none 0 0 false), (.int .i64 0), (.int .u64 0), (.slice none 0 0 false)]), [.tmp 58, .tmp 58], (some 59), none⟩,
 ⟨.move, [.tmp 59], (some 11), none⟩])
 (.seq (.seq (.seqR [⟨.move, [.tmp 11], (some 60), none⟩,
 ⟨.lenS, [.tmp 60], (some 61), none⟩,
 ⟨(.bin .sub), [.tmp 61, .const (.int .i64 1)], (some 62), none⟩,
 ⟨.move, [.tmp 62], (some 12), none⟩])
 (.block 2 (.loop (.seq (.seq (.seqR [⟨.move, [.tmp 12], (some 63), none⟩,
 ⟨(.bin .geq), [.tmp 63, .const (.int .i64 0)], (some 64), none⟩])
 (.cond (.tmp 64) .skip
 (.exit 2)))
 (.seq (.block 3 (.seqR [⟨.move, [.tmp 11], (some 67), none⟩,
 ⟨.move, [.tmp 12], (some 68), none⟩,
 ⟨.move, [.tmp 8], (some 69), none⟩,
 ⟨(.mkIface 66), [.tmp 69], (some 70), none⟩,
 ⟨(.callF 31), [.tmp 70], (some 71), none⟩,
 ⟨(.assertC 71 false (.agg [(.int .i64 0), (.int .i64 0), (.int .i64 0), (.int .i64 0), (.int .i64 0), (.int .u64 0), (.slice none 0 0 false), (.int .i64 0), (.int .u64 0), (.slice none 0 0 false), (.int .i64 0)])), [.tmp 71], (some 72), none⟩,
 ⟨(.field 0 10 true), [.tmp 72], (some 73), none⟩,
 ⟨(.indexAddrS 10), [.tmp 67, .tmp 68], (some 74), none⟩,
 ⟨(.store 10), [.tmp 74, .tmp 73], none, none⟩]))
 (.seqR [⟨.move, [.tmp 12], (some 65), none⟩,
 ⟨(.bin .sub), [.tmp 65, .const (.int .i64 1)], (some 66), none⟩,
 ⟨.move, [.tmp 66], (some 12), none⟩]))))))
 (.seq (.seqR [⟨.move, [.tmp 11], (some 75), none⟩,
 ⟨.move, [.tmp 75], (some 4), none⟩,
 ⟨.move, [.const (.int .i64 0)], (some 5), none⟩])
 .ret)))))))), [.tmp 4, .tmp 5]⟩
theorem c16_ok : compFunc Try.prog Try.f16 = some c16 := by kernel_rfl
theorem c16_body : hasBody Try.prog 16 = true := hasBody_of Try.func16 (by kernel_rfl)
/-- coachyard/coachyardref29.Calls -/
def c17 : PFn := ⟨44, Tr.ofList (List.replicate 44 undefA), (.seq (.seqR [⟨(.new [(.int .i64 0), (.int .i64 0), (.int .i64 0), (.int .i64 0), (.int .i64 0), (.int .i64 0)]), [], (some 4), none⟩])
 (.seq (.seqR [⟨.move, [.tmp 0], (some 8), none⟩,
 ⟨(.callF 27), [.tmp 8], (some 9), none⟩,
 ⟨.move, [.tmp 9], (some 5), none⟩])
 (.seq (.seqR [⟨(.sliceLit 0 [] []), [], (some 10), none⟩,
 ⟨.move, [.tmp 10], (some 6), none⟩])
 (.seq (.seq (.seqR [⟨.move, [.const (.int .i64 0)], (some 7), none⟩])
 (.block 0 (.loop (.seq (.seq (.seqR [⟨.move, [.tmp 7], (some 11), none⟩,
 ⟨.move, [.tmp 5], (some 12), none⟩,
 ⟨.lenS, [.tmp 12], (some 13), none⟩,
 ⟨(.bin .lss), [.tmp 11, .tmp 13], (some 14), none⟩])
 (.cond (.tmp 14) .skip
 (.exit 0)))
 (.seq (.block 1 (.seq (.seqR [⟨.move, [.tmp 5], (some 17), none⟩,
 ⟨.move, [.tmp 7], (some 18), none⟩,
 ⟨(.indexAddrS 10), [.tmp 17, .tmp 18], (some 19), none⟩,
 ⟨(.fieldAddr 3), [.tmp 19], (some 20), none⟩,
 ⟨(.load false 1), [.tmp 20], (some 21), none⟩,
 ⟨(.bin .geq), [.tmp 21, .const (.int .i64 0)], (some 22), none⟩,
 ⟨.move, [.tmp 22], (some 23), none⟩,
 ⟨.move, [.tmp 5], (some 24), some (23, true)⟩,
 ⟨.move, [.tmp 7], (some 25), some (23, true)⟩,
 ⟨(.indexAddrS 10), [.tmp 24, .tmp 25], (some 26), some (23, true)⟩,
 ⟨(.fieldAddr 4), [.tmp 26], (some 27), some (23, true)⟩,
 ⟨(.fieldAddr 0), [.tmp 27], (some 28), some (23, true)⟩,
 ⟨(.load false 1), [.tmp 28], (some 29), some (23, true)⟩,
 ⟨.move, [.tmp 1], (some 30), some (23, true)⟩,
 ⟨(.bin .eql), [.tmp 29, .tmp 30], (some 31), some (23, true)⟩,
 ⟨.pick, [.tmp 23, .tmp 31, .const (.bool false)], (some 32), none⟩])
 (.cond (.tmp 32) (.seqR [⟨.move, [.tmp 6], (some 33), none⟩,
 ⟨.move, [.tmp 0], (some 34), none⟩,
 ⟨.move, [.tmp 5], (some 35), none⟩,
 ⟨.move, [.tmp 7], (some 36), none⟩,
 ⟨(.indexAddrS 10), [.tmp 35, .tmp 36], (some 37), none⟩,
 ⟨(.load true 10), [.tmp 37], (some 38), none⟩,
 ⟨(.callF 32), [.tmp 34, .tmp 38], (some 39), none⟩,
 ⟨(.sliceLit 1 [(.int .i64 0)] [(0, 1)]), [.tmp 39], (some 40), none⟩,
 ⟨(.append 1 8), [.tmp 33, .tmp 40], (some 41), none⟩,
 ⟨.move, [.tmp 41], (some 6), none⟩])
 .skip)))
 (.seqR [⟨.move, [.tmp 7], (some 15), none⟩,
 ⟨(.bin .add), [.tmp 15, .const (.int .i64 1)], (some 16), none⟩,
 ⟨.move, [.tmp 16], (some 7), none⟩]))))))
 (.seq (.seqR [⟨.move, [.tmp 6], (some 42), none⟩,
 ⟨(.callF 9), [.tmp 42], (some 43), none⟩,
 ⟨(.store 6), [.tmp 4, .tmp 43], none, none⟩])
 .ret))))), [.cell 4 true 6]⟩
theorem c17_ok : compFunc Try.prog Try.f17 = some c17 := by kernel_rfl
theorem c17_body : hasBody Try.prog 17 = true := hasBody_of Try.func17 (by kernel_rfl)
/-- coachyard/coachyardref15.SameSpans -/
def c18 : PFn := ⟨95, Tr.ofList (List.replicate 95 undefA), (.seq (.seqR [⟨.move, [.const (.bool false)], (some 4), none⟩])
 (.seq (.seq (.seqR [⟨.move, [.tmp 0], (some 6), none⟩,
 ⟨.lenS, [.tmp 6], (some 7), none⟩,
 ⟨.move, [.tmp 1], (some 8), none⟩,
 ⟨.lenS, [.tmp 8], (some 9), none⟩,
 ⟨(.bin .neq), [.tmp 7, .tmp 9], (some 10), none⟩])
 (.cond (.tmp 10) (.seq (.seqR [⟨.move, [.const (.bool false)], (some 4), none⟩])
 .ret)
 .skip))
 (.seq (.seq (.seqR [⟨.move, [.const (.int .i64 0)], (some 5), none⟩])
 (.block 0 (.loop (.seq (.seq (.seqR [⟨.move, [.tmp 5], (some 11), none⟩,
 ⟨.move, [.tmp 0], (some 12), none⟩,
 ⟨.lenS, [.tmp 12], (some 13), none⟩,
 ⟨(.bin .lss), [.tmp 11, .tmp 13], (some 14), none⟩])
 (.cond (.tmp 14) .skip
 (.exit 0)))
 (.seq (.block 1 (.seq (.drawR [⟨⟨.move, [.tmp 0], (some 17), none⟩, false, false, 0, 0⟩,
 ⟨⟨.move, [.tmp 5], (some 18), none⟩, false, false, 0, 0⟩,
 ⟨⟨(.indexAddrS 10), [.tmp 17, .tmp 18], (some 19), none⟩, false, false, 0, 0⟩,
 ⟨⟨(.fieldAddr 0), [.tmp 19], (some 20), none⟩, false, false, 0, 0⟩,
 ⟨⟨(.load false 1), [.tmp 20], (some 21), none⟩, false, false, 0, 0⟩,
 ⟨⟨.move, [.tmp 1], (some 22), none⟩, false, false, 0, 0⟩,
 ⟨⟨.move, [.tmp 5], (some 23), none⟩, false, false, 0, 0⟩,
 ⟨⟨(.indexAddrS 10), [.tmp 22, .tmp 23], (some 24), none⟩, false, false, 0, 0⟩,
 ⟨⟨(.fieldAddr 0), [.tmp 24], (some 25), none⟩, false, false, 0, 0⟩,
 ⟨⟨(.load false 1), [.tmp 25], (some 26), none⟩, false, false, 0, 0⟩,
 ⟨⟨(.bin .neq), [.tmp 21, .tmp 26], (some 27), none⟩, false, false, 0, 0⟩,
 ⟨⟨.move, [.tmp 27], (some 28), none⟩, false, false, 0, 0⟩,
 ⟨⟨.move, [.tmp 0], (some 29), some (28, false)⟩, false, false, 0, 0⟩,
 ⟨⟨.move, [.tmp 5], (some 30), some (28, false)⟩, false, false, 0, 0⟩,
 ⟨⟨(.indexAddrS 10), [.tmp 29, .tmp 30], (some 31), some (28, false)⟩, false, false, 0, 0⟩,
 ⟨⟨(.fieldAddr 1), [.tmp 31], (some 32), some (28, false)⟩, false, false, 0, 0⟩,
 ⟨⟨(.load false 1), [.tmp 32], (some 33), some (28, false)⟩, false, false, 0, 0⟩,
 ⟨⟨.move, [.tmp 1], (some 34), some (28, false)⟩, false, false, 0, 0⟩,
 ⟨⟨.move, [.tmp 5], (some 35), some (28, false)⟩, false, false, 0, 0⟩,
 ⟨⟨(.indexAddrS 10), [.tmp 34, .tmp 35], (some 36), some (28, false)⟩, false, false, 0, 0⟩,
 ⟨⟨(.fieldAddr 1), [.tmp 36], (some 37), some (28, false)⟩, false, false, 0, 0⟩,
 ⟨⟨(.load false 1), [.tmp 37], (some 38), some (28, false)⟩, false, false, 0, 0⟩,
 ⟨⟨(.bin .neq), [.tmp 33, .tmp 38], (some 39), some (28, false)⟩, false, false, 0, 0⟩,
 ⟨⟨.pick, [.tmp 28, .const (.bool true), .tmp 39], (some 40), none⟩, false, false, 0, 0⟩,
 ⟨⟨.move, [.tmp 40], (some 41), none⟩, false, false, 0, 0⟩,
 ⟨⟨.move, [.tmp 0], (some 42), some (41, false)⟩, false, false, 0, 0⟩,
 ⟨⟨.move, [.tmp 5], (some 43), some (41, false)⟩, false, false, 0, 0⟩,
 ⟨⟨(.indexAddrS 10), [.tmp 42, .tmp 43], (some 44), some (41, false)⟩, false, false, 0, 0⟩,
 ⟨⟨(.fieldAddr 2), [.tmp 44], (some 45), some (41, false)⟩, false, false, 0, 0⟩,
 ⟨⟨(.load false 1), [.tmp 45], (some 46), some (41, false)⟩, false, false, 0, 0⟩,
 ⟨⟨.move, [.tmp 1], (some 47), some (41, false)⟩, false, false, 0, 0⟩,
 ⟨⟨.move, [.tmp 5], (some 48), some (41, false)⟩, false, false, 0, 0⟩,
 ⟨⟨(.indexAddrS 10), [.tmp 47, .tmp 48], (some 49), some (41, false)⟩, false, false, 0, 0⟩,
 ⟨⟨(.fieldAddr 2), [.tmp 49], (some 50), some (41, false)⟩, false, false, 0, 0⟩,
 ⟨⟨(.load false 1), [.tmp 50], (some 51), some (41, false)⟩, false, false, 0, 0⟩,
 ⟨⟨(.bin .neq), [.tmp 46, .tmp 51], (some 52), some (41, false)⟩, false, false, 0, 0⟩,
 ⟨⟨.pick, [.tmp 41, .const (.bool true), .tmp 52], (some 53), none⟩, false, false, 0, 0⟩,
 ⟨⟨.move, [.tmp 53], (some 54), none⟩, false, false, 0, 0⟩,
 ⟨⟨.move, [.tmp 0], (some 55), some (54, false)⟩, false, false, 0, 0⟩,
 ⟨⟨.move, [.tmp 5], (some 56), some (54, false)⟩, false, false, 0, 0⟩,
 ⟨⟨(.indexAddrS 10), [.tmp 55, .tmp 56], (some 57), some (54, false)⟩, false, false, 0, 0⟩,
 ⟨⟨(.fieldAddr 3), [.tmp 57], (some 58), some (54, false)⟩, false, false, 0, 0⟩,
 ⟨⟨(.load false 1), [.tmp 58], (some 59), some (54, false)⟩, false, false, 0, 0⟩,
 ⟨⟨.move, [.tmp 1], (some 60), some (54, false)⟩, false, false, 0, 0⟩,
 ⟨⟨.move, [.tmp 5], (some 61), some (54, false)⟩, false, false, 0, 0⟩,
 ⟨⟨(.indexAddrS 10), [.tmp 60, .tmp 61], (some 62), some (54, false)⟩, false, false, 0, 0⟩,
 ⟨⟨(.fieldAddr 3), [.tmp 62], (some 63), some (54, false)⟩, false, false, 0, 0⟩,
 ⟨⟨(.load false 1), [.tmp 63], (some 64), some (54, false)⟩, false, false, 0, 0⟩,
 ⟨⟨(.bin .neq), [.tmp 59, .tmp 64], (some 65), some (54, false)⟩, false, false, 0, 0⟩,
 ⟨⟨.pick, [.tmp 54, .const (.bool true), .tmp 65], (some 66), none⟩, false, false, 0, 0⟩,
 ⟨⟨.move, [.tmp 66], (some 67), none⟩, false, false, 0, 0⟩,
 ⟨⟨.move, [.tmp 0], (some 68), some (67, false)⟩, false, false, 0, 0⟩,
 ⟨⟨.move, [.tmp 5], (some 69), some (67, false)⟩, false, false, 0, 0⟩,
 ⟨⟨(.indexAddrS 10), [.tmp 68, .tmp 69], (some 70), some (67, false)⟩, false, false, 0, 0⟩,
 ⟨⟨(.fieldAddr 4), [.tmp 70], (some 71), some (67, false)⟩, false, false, 0, 0⟩,
 ⟨⟨(.load true 3), [.tmp 71], (some 72), some (67, false)⟩, false, false, 0, 0⟩,
 ⟨⟨.move, [.tmp 1], (some 73), some (67, false)⟩, false, false, 0, 0⟩,
 ⟨⟨.move, [.tmp 5], (some 74), some (67, false)⟩, false, false, 0, 0⟩,
 ⟨⟨(.indexAddrS 10), [.tmp 73, .tmp 74], (some 75), some (67, false)⟩, false, false, 0, 0⟩,
 ⟨⟨(.fieldAddr 4), [.tmp 75], (some 76), some (67, false)⟩, false, false, 0, 0⟩,
 ⟨⟨(.load true 3), [.tmp 76], (some 77), some (67, false)⟩, false, false, 0, 0⟩,
 ⟨⟨(.callF 33), [.tmp 72, .tmp 77], (some 78), some (67, false)⟩, true, false, 0, 1⟩,
 ⟨⟨.not, [.tmp 78], (some 79), some (67, false)⟩, false, false, 1, 1⟩,
 ⟨⟨.pick, [.tmp 67, .const (.bool true), .tmp 79], (some 80), none⟩, false, false, 1, 1⟩,
 ⟨⟨.move, [.tmp 80], (some 81), none⟩, false, false, 1, 1⟩,
 ⟨⟨.move, [.tmp 0], (some 82), some (81, false)⟩, false, false, 1, 1⟩,
 ⟨⟨.move, [.tmp 5], (some 83), some (81, false)⟩, false, false, 1, 1⟩,
 ⟨⟨(.indexAddrS 10), [.tmp 82, .tmp 83], (some 84), some (81, false)⟩, false, false, 1, 1⟩,
 ⟨⟨(.fieldAddr 7), [.tmp 84], (some 85), some (81, false)⟩, false, false, 1, 1⟩,
 ⟨⟨(.load true 3), [.tmp 85], (some 86), some (81, false)⟩, false, false, 1, 1⟩,
 ⟨⟨.move, [.tmp 1], (some 87), some (81, false)⟩, false, false, 1, 1⟩,
 ⟨⟨.move, [.tmp 5], (some 88), some (81, false)⟩, false, false, 1, 1⟩,
 ⟨⟨(.indexAddrS 10), [.tmp 87, .tmp 88], (some 89), some (81, false)⟩, false, false, 1, 1⟩,
 ⟨⟨(.fieldAddr 7), [.tmp 89], (some 90), some (81, false)⟩, false, false, 1, 1⟩,
 ⟨⟨(.load true 3), [.tmp 90], (some 91), some (81, false)⟩, false, false, 1, 1⟩,
 ⟨⟨(.callF 34), [.tmp 86, .tmp 91], (some 92), some (81, false)⟩, true, false, 1, 2⟩,
 ⟨⟨.not, [.tmp 92], (some 93), some (81, false)⟩, false, false, 2, 2⟩,
 ⟨⟨.pick, [.tmp 81, .const (.bool true), .tmp 93], (some 94), none⟩, false, false, 2, 2⟩])
 (.cond (.tmp 94) (.seq (.seqR [⟨.move, [.const (.bool false)], (some 4), none⟩])
 .ret)
 .skip)))
 (.seqR [⟨.move, [.tmp 5], (some 15), none⟩,
 ⟨(.bin .add), [.tmp 15, .const (.int .i64 1)], (some 16), none⟩,
 ⟨.move, [.tmp 16], (some 5), none⟩]))))))
 (.seq (.seqR [⟨.move, [.const (.bool true)], (some 4), none⟩])
 .ret)))), [.tmp 4]⟩
theorem c18_ok : compFunc Try.prog Try.f18 = some c18 := by kernel_rfl
theorem c18_body : hasBody Try.prog 18 = true := hasBody_of Try.func18 (by kernel_rfl)
/-- coachyard/coachyardref29.Slowest -/
def c19 : PFn := ⟨73, Tr.ofList (List.replicate 73 undefA), (.seq (.seqR [⟨.move, [.const (.slice none 0 0 false)], (some 4), none⟩])
 (.seq (.seqR [⟨.move, [.tmp 0], (some 10), none⟩,
 ⟨(.callF 27), [.tmp 10], (some 11), none⟩,
 ⟨.move, [.tmp 11], (some 5), none⟩])
 (.seq (.seqR [⟨(.sliceLit 0 [] []), [], (some 12), none⟩,
 ⟨.move, [.tmp 12], (some 6), none⟩])
 (.seq (.seqR [⟨.move, [.tmp 5], (some 13), none⟩,
 ⟨.lenS, [.tmp 13], (some 14), none⟩,
 ⟨(.makeSlice 1 1 [(.bool false)]), [.tmp 14, .tmp 14], (some 15), none⟩,
 ⟨.move, [.tmp 15], (some 7), none⟩])
 (.seq (.block 0 (.loop (.seq (.seq (.seqR [⟨.move, [.tmp 6], (some 16), none⟩,
 ⟨.lenS, [.tmp 16], (some 17), none⟩,
 ⟨.move, [.tmp 1], (some 18), none⟩,
 ⟨(.bin .lss), [.tmp 17, .tmp 18], (some 19), none⟩])
 (.cond (.tmp 19) .skip
 (.exit 0)))
 (.block 1 (.seq (.seqR [⟨.move, [.const (.int .i64 (-1))], (some 8), none⟩])
 (.seq (.seq (.seqR [⟨.move, [.const (.int .i64 0)], (some 9), none⟩])
 (.block 2 (.loop (.seq (.seq (.seqR [⟨.move, [.tmp 9], (some 20), none⟩,
 ⟨.move, [.tmp 5], (some 21), none⟩,
 ⟨.lenS, [.tmp 21], (some 22), none⟩,
 ⟨(.bin .lss), [.tmp 20, .tmp 22], (some 23), none⟩])
 (.cond (.tmp 23) .skip
 (.exit 2)))
 (.seq (.block 3 (.seq (.drawR [⟨⟨.move, [.tmp 5], (some 26), none⟩, false, false, 0, 0⟩,
 ⟨⟨.move, [.tmp 9], (some 27), none⟩, false, false, 0, 0⟩,
 ⟨⟨(.indexAddrS 10), [.tmp 26, .tmp 27], (some 28), none⟩, false, false, 0, 0⟩,
 ⟨⟨(.fieldAddr 3), [.tmp 28], (some 29), none⟩, false, false, 0, 0⟩,
 ⟨⟨(.load false 1), [.tmp 29], (some 30), none⟩, false, false, 0, 0⟩,
 ⟨⟨(.bin .geq), [.tmp 30, .const (.int .i64 0)], (some 31), none⟩, false, false, 0, 0⟩,
 ⟨⟨.move, [.tmp 31], (some 32), none⟩, false, false, 0, 0⟩,
 ⟨⟨.move, [.tmp 7], (some 33), some (32, true)⟩, false, false, 0, 0⟩,
 ⟨⟨.move, [.tmp 9], (some 34), some (32, true)⟩, false, false, 0, 0⟩,
 ⟨⟨(.indexAddrS 1), [.tmp 33, .tmp 34], (some 35), some (32, true)⟩, false, false, 0, 0⟩,
 ⟨⟨(.load false 1), [.tmp 35], (some 36), some (32, true)⟩, false, false, 0, 0⟩,
 ⟨⟨.not, [.tmp 36], (some 37), some (32, true)⟩, false, false, 0, 0⟩,
 ⟨⟨.pick, [.tmp 32, .tmp 37, .const (.bool false)], (some 38), none⟩, false, false, 0, 0⟩,
 ⟨⟨.move, [.tmp 38], (some 39), none⟩, false, false, 0, 0⟩,
 ⟨⟨.move, [.tmp 8], (some 40), some (39, true)⟩, false, false, 0, 0⟩,
 ⟨⟨(.bin .lss), [.tmp 40, .const (.int .i64 0)], (some 41), some (39, true)⟩, false, false, 0, 0⟩,
 ⟨⟨.move, [.tmp 41], (some 42), some (39, true)⟩, false, false, 0, 0⟩,
 ⟨⟨.move, [.tmp 0], (some 43), some (42, false)⟩, false, false, 0, 0⟩,
 ⟨⟨.move, [.tmp 5], (some 44), some (42, false)⟩, false, false, 0, 0⟩,
 ⟨⟨.move, [.tmp 9], (some 45), some (42, false)⟩, false, false, 0, 0⟩,
 ⟨⟨(.indexAddrS 10), [.tmp 44, .tmp 45], (some 46), some (42, false)⟩, false, false, 0, 0⟩,
 ⟨⟨(.load true 10), [.tmp 46], (some 47), some (42, false)⟩, false, false, 0, 0⟩,
 ⟨⟨(.callF 32), [.tmp 43, .tmp 47], (some 48), some (42, false)⟩, true, false, 0, 1⟩,
 ⟨⟨.move, [.tmp 0], (some 49), some (42, false)⟩, false, false, 0, 1⟩,
 ⟨⟨.move, [.tmp 5], (some 50), some (42, false)⟩, false, false, 0, 1⟩,
 ⟨⟨.move, [.tmp 8], (some 51), some (42, false)⟩, false, false, 0, 1⟩,
 ⟨⟨(.indexAddrS 10), [.tmp 50, .tmp 51], (some 52), some (42, false)⟩, false, false, 0, 1⟩,
 ⟨⟨(.load true 10), [.tmp 52], (some 53), some (42, false)⟩, false, false, 0, 1⟩,
 ⟨⟨(.callF 32), [.tmp 49, .tmp 53], (some 54), some (42, false)⟩, true, false, 1, 2⟩,
 ⟨⟨(.bin .gtr), [.tmp 48, .tmp 54], (some 55), some (42, false)⟩, false, false, 2, 2⟩,
 ⟨⟨.pick, [.tmp 42, .const (.bool true), .tmp 55], (some 56), some (39, true)⟩, false, false, 2, 2⟩,
 ⟨⟨.pick, [.tmp 39, .tmp 56, .const (.bool false)], (some 57), none⟩, false, false, 2, 2⟩])
 (.cond (.tmp 57) (.seqR [⟨.move, [.tmp 9], (some 58), none⟩,
 ⟨.move, [.tmp 58], (some 8), none⟩])
 .skip)))
 (.seqR [⟨.move, [.tmp 9], (some 24), none⟩,
 ⟨(.bin .add), [.tmp 24, .const (.int .i64 1)], (some 25), none⟩,
 ⟨.move, [.tmp 25], (some 9), none⟩]))))))
 (.seq (.seq (.seqR [⟨.move, [.tmp 8], (some 59), none⟩,
 ⟨(.bin .lss), [.tmp 59, .const (.int .i64 0)], (some 60), none⟩])
 (.cond (.tmp 60) (.seq (.seqR [⟨.move, [.tmp 6], (some 61), none⟩,
 ⟨.move, [.tmp 61], (some 4), none⟩])
 .ret)
 .skip))
 (.seq (.seqR [⟨.move, [.tmp 7], (some 62), none⟩,
 ⟨.move, [.tmp 8], (some 63), none⟩,
 ⟨(.indexAddrS 1), [.tmp 62, .tmp 63], (some 64), none⟩,
 ⟨(.store 1), [.tmp 64, .const (.bool true)], none, none⟩])
 (.seqR [⟨.move, [.tmp 6], (some 65), none⟩,
 ⟨.move, [.tmp 5], (some 66), none⟩,
 ⟨.move, [.tmp 8], (some 67), none⟩,
 ⟨(.indexAddrS 10), [.tmp 66, .tmp 67], (some 68), none⟩,
 ⟨(.load true 10), [.tmp 68], (some 69), none⟩,
 ⟨(.sliceLit 1 [(.int .i64 0), (.int .i64 0), (.int .i64 0), (.int .i64 0), (.int .i64 0), (.int .u64 0), (.slice none 0 0 false), (.int .i64 0), (.int .u64 0), (.slice none 0 0 false)] [(0, 10)]), [.tmp 69], (some 70), none⟩,
 ⟨(.append 10 112), [.tmp 65, .tmp 70], (some 71), none⟩,
 ⟨.move, [.tmp 71], (some 6), none⟩])))))))))
 (.seq (.seqR [⟨.move, [.tmp 6], (some 72), none⟩,
 ⟨.move, [.tmp 72], (some 4), none⟩])
 .ret)))))), [.tmp 4]⟩
theorem c19_ok : compFunc Try.prog Try.f19 = some c19 := by kernel_rfl
theorem c19_body : hasBody Try.prog 19 = true := hasBody_of Try.func19 (by kernel_rfl)
/-- slices.Min[[]int,int] -/
def c20 : PFn := ⟨25, Tr.ofList (List.replicate 25 undefA), (.seq (.seqR [⟨.move, [.const (.int .i64 0)], (some 2), none⟩])
 (.seq (.seq (.seqR [⟨.move, [.tmp 0], (some 5), none⟩,
 ⟨.lenS, [.tmp 5], (some 6), none⟩,
 ⟨(.bin .lss), [.tmp 6, .const (.int .i64 1)], (some 7), none⟩])
 (.cond (.tmp 7) .fail
 .skip))
 (.seq (.seqR [⟨.move, [.tmp 0], (some 9), none⟩,
 ⟨(.indexAddrS 1), [.tmp 9, .const (.int .i64 0)], (some 10), none⟩,
 ⟨(.load false 1), [.tmp 10], (some 11), none⟩,
 ⟨.move, [.tmp 11], (some 3), none⟩])
 (.seq (.seq (.seqR [⟨.move, [.const (.int .i64 1)], (some 4), none⟩])
 (.block 0 (.loop (.seq (.seq (.seqR [⟨.move, [.tmp 4], (some 12), none⟩,
 ⟨.move, [.tmp 0], (some 13), none⟩,
 ⟨.lenS, [.tmp 13], (some 14), none⟩,
 ⟨(.bin .lss), [.tmp 12, .tmp 14], (some 15), none⟩])
 (.cond (.tmp 15) .skip
 (.exit 0)))
 (.seq (.block 1 (.seqR [⟨.move, [.tmp 3], (some 18), none⟩,
 ⟨.move, [.tmp 0], (some 19), none⟩,
 ⟨.move, [.tmp 4], (some 20), none⟩,
 ⟨(.indexAddrS 1), [.tmp 19, .tmp 20], (some 21), none⟩,
 ⟨(.load false 1), [.tmp 21], (some 22), none⟩,
 ⟨(.minmax false), [.tmp 18, .tmp 22], (some 23), none⟩,
 ⟨.move, [.tmp 23], (some 3), none⟩]))
 (.seqR [⟨.move, [.tmp 4], (some 16), none⟩,
 ⟨(.bin .add), [.tmp 16, .const (.int .i64 1)], (some 17), none⟩,
 ⟨.move, [.tmp 17], (some 4), none⟩]))))))
 (.seq (.seqR [⟨.move, [.tmp 3], (some 24), none⟩,
 ⟨.move, [.tmp 24], (some 2), none⟩])
 .ret))))), [.tmp 2]⟩
theorem c20_ok : compFunc Try.prog Try.f20 = some c20 := by kernel_rfl
theorem c20_body : hasBody Try.prog 20 = true := hasBody_of Try.func20 (by kernel_rfl)
/-- slices.Max[[]int,int] -/
def c21 : PFn := ⟨25, Tr.ofList (List.replicate 25 undefA), (.seq (.seqR [⟨.move, [.const (.int .i64 0)], (some 2), none⟩])
 (.seq (.seq (.seqR [⟨.move, [.tmp 0], (some 5), none⟩,
 ⟨.lenS, [.tmp 5], (some 6), none⟩,
 ⟨(.bin .lss), [.tmp 6, .const (.int .i64 1)], (some 7), none⟩])
 (.cond (.tmp 7) .fail
 .skip))
 (.seq (.seqR [⟨.move, [.tmp 0], (some 9), none⟩,
 ⟨(.indexAddrS 1), [.tmp 9, .const (.int .i64 0)], (some 10), none⟩,
 ⟨(.load false 1), [.tmp 10], (some 11), none⟩,
 ⟨.move, [.tmp 11], (some 3), none⟩])
 (.seq (.seq (.seqR [⟨.move, [.const (.int .i64 1)], (some 4), none⟩])
 (.block 0 (.loop (.seq (.seq (.seqR [⟨.move, [.tmp 4], (some 12), none⟩,
 ⟨.move, [.tmp 0], (some 13), none⟩,
 ⟨.lenS, [.tmp 13], (some 14), none⟩,
 ⟨(.bin .lss), [.tmp 12, .tmp 14], (some 15), none⟩])
 (.cond (.tmp 15) .skip
 (.exit 0)))
 (.seq (.block 1 (.seqR [⟨.move, [.tmp 3], (some 18), none⟩,
 ⟨.move, [.tmp 0], (some 19), none⟩,
 ⟨.move, [.tmp 4], (some 20), none⟩,
 ⟨(.indexAddrS 1), [.tmp 19, .tmp 20], (some 21), none⟩,
 ⟨(.load false 1), [.tmp 21], (some 22), none⟩,
 ⟨(.minmax true), [.tmp 18, .tmp 22], (some 23), none⟩,
 ⟨.move, [.tmp 23], (some 3), none⟩]))
 (.seqR [⟨.move, [.tmp 4], (some 16), none⟩,
 ⟨(.bin .add), [.tmp 16, .const (.int .i64 1)], (some 17), none⟩,
 ⟨.move, [.tmp 17], (some 4), none⟩]))))))
 (.seq (.seqR [⟨.move, [.tmp 3], (some 24), none⟩,
 ⟨.move, [.tmp 24], (some 2), none⟩])
 .ret))))), [.tmp 2]⟩
theorem c21_ok : compFunc Try.prog Try.f21 = some c21 := by kernel_rfl
theorem c21_body : hasBody Try.prog 21 = true := hasBody_of Try.func21 (by kernel_rfl)
/-- slices.Sorted[int] -/
def c22 : PFn := ⟨9, Tr.ofList (List.replicate 9 undefA), (.seq (.seqR [⟨.move, [.const (.slice none 0 0 false)], (some 2), none⟩])
 (.seq (.seqR [⟨.move, [.tmp 0], (some 4), none⟩,
 ⟨(.callF 35), [.tmp 4], (some 5), none⟩,
 ⟨.move, [.tmp 5], (some 3), none⟩])
 (.seq (.seqR [⟨.move, [.tmp 3], (some 6), none⟩,
 ⟨(.callF 36), [.tmp 6], (some 7), none⟩])
 (.seq (.seqR [⟨.move, [.tmp 3], (some 8), none⟩,
 ⟨.move, [.tmp 8], (some 2), none⟩])
 .ret)))), [.tmp 2]⟩
theorem c22_ok : compFunc Try.prog Try.f22 = some c22 := by kernel_rfl
theorem c22_body : hasBody Try.prog 22 = true := hasBody_of Try.func22 (by kernel_rfl)
/-- slices.Values[[]int,int] -/
def c23 : PFn := ⟨4, Tr.ofList (List.replicate 4 undefA), (.seq (.seqR [⟨.box, [.tmp 0], (some 1), none⟩,
 ⟨.move, [.const .nilFunc], (some 2), none⟩])
 (.seq (.seqR [⟨(.mkFunc (.func 37) 0), [.tmp 1], (some 3), none⟩,
 ⟨.move, [.tmp 3], (some 2), none⟩])
 .ret)), [.tmp 2]⟩
theorem c23_ok : compFunc Try.prog Try.f23 = some c23 := by kernel_rfl
theorem c23_body : hasBody Try.prog 23 = true := hasBody_of Try.func23 (by kernel_rfl)
/-- coachyard/coachyardref29.nth -/
def c24 : PFn := ⟨55, Tr.ofList (List.replicate 55 undefA), (.seq (.seqR [⟨.move, [.const (.int .i64 0)], (some 4), none⟩])
 (.seq (.seq (.seqR [⟨.move, [.const (.int .i64 0)], (some 5), none⟩])
 (.block 0 (.loop (.seq (.seq (.seqR [⟨.move, [.tmp 5], (some 9), none⟩,
 ⟨.move, [.tmp 0], (some 10), none⟩,
 ⟨.lenS, [.tmp 10], (some 11), none⟩,
 ⟨(.bin .lss), [.tmp 9, .tmp 11], (some 12), none⟩])
 (.cond (.tmp 12) .skip
 (.exit 0)))
 (.seq (.block 1 (.seq (.seqR [⟨.move, [.const (.int .i64 0)], (some 6), none⟩,
 ⟨.move, [.const (.int .i64 0)], (some 7), none⟩])
 (.seq (.seq (.seqR [⟨.move, [.const (.int .i64 0)], (some 8), none⟩])
 (.block 2 (.loop (.seq (.seq (.seqR [⟨.move, [.tmp 8], (some 15), none⟩,
 ⟨.move, [.tmp 0], (some 16), none⟩,
 ⟨.lenS, [.tmp 16], (some 17), none⟩,
 ⟨(.bin .lss), [.tmp 15, .tmp 17], (some 18), none⟩])
 (.cond (.tmp 18) .skip
 (.exit 2)))
 (.seq (.block 3 (.seq (.seq (.drawR [⟨⟨.move, [.tmp 0], (some 21), none⟩, false, false, 0, 0⟩,
 ⟨⟨.move, [.tmp 8], (some 22), none⟩, false, false, 0, 0⟩,
 ⟨⟨(.indexAddrS 1), [.tmp 21, .tmp 22], (some 23), none⟩, false, false, 0, 0⟩,
 ⟨⟨(.load false 1), [.tmp 23], (some 24), none⟩, false, false, 0, 0⟩,
 ⟨⟨.move, [.tmp 0], (some 25), none⟩, false, false, 0, 0⟩,
 ⟨⟨.move, [.tmp 5], (some 26), none⟩, false, false, 0, 0⟩,
 ⟨⟨(.indexAddrS 1), [.tmp 25, .tmp 26], (some 27), none⟩, false, false, 0, 0⟩,
 ⟨⟨(.load false 1), [.tmp 27], (some 28), none⟩, false, false, 0, 0⟩,
 ⟨⟨(.bin .lss), [.tmp 24, .tmp 28], (some 29), none⟩, false, false, 0, 0⟩])
 (.cond (.tmp 29) (.seqR [⟨.move, [.tmp 6], (some 30), none⟩,
 ⟨(.bin .add), [.tmp 30, .const (.int .i64 1)], (some 31), none⟩,
 ⟨.move, [.tmp 31], (some 6), none⟩])
 .skip))
 (.seq (.drawR [⟨⟨.move, [.tmp 0], (some 32), none⟩, false, false, 0, 0⟩,
 ⟨⟨.move, [.tmp 8], (some 33), none⟩, false, false, 0, 0⟩,
 ⟨⟨(.indexAddrS 1), [.tmp 32, .tmp 33], (some 34), none⟩, false, false, 0, 0⟩,
 ⟨⟨(.load false 1), [.tmp 34], (some 35), none⟩, false, false, 0, 0⟩,
 ⟨⟨.move, [.tmp 0], (some 36), none⟩, false, false, 0, 0⟩,
 ⟨⟨.move, [.tmp 5], (some 37), none⟩, false, false, 0, 0⟩,
 ⟨⟨(.indexAddrS 1), [.tmp 36, .tmp 37], (some 38), none⟩, false, false, 0, 0⟩,
 ⟨⟨(.load false 1), [.tmp 38], (some 39), none⟩, false, false, 0, 0⟩,
 ⟨⟨(.bin .leq), [.tmp 35, .tmp 39], (some 40), none⟩, false, false, 0, 0⟩])
 (.cond (.tmp 40) (.seqR [⟨.move, [.tmp 7], (some 41), none⟩,
 ⟨(.bin .add), [.tmp 41, .const (.int .i64 1)], (some 42), none⟩,
 ⟨.move, [.tmp 42], (some 7), none⟩])
 .skip))))
 (.seqR [⟨.move, [.tmp 8], (some 19), none⟩,
 ⟨(.bin .add), [.tmp 19, .const (.int .i64 1)], (some 20), none⟩,
 ⟨.move, [.tmp 20], (some 8), none⟩]))))))
 (.seq (.seqR [⟨.move, [.tmp 6], (some 43), none⟩,
 ⟨.move, [.tmp 1], (some 44), none⟩,
 ⟨(.bin .leq), [.tmp 43, .tmp 44], (some 45), none⟩,
 ⟨.move, [.tmp 45], (some 46), none⟩,
 ⟨.move, [.tmp 1], (some 47), some (46, true)⟩,
 ⟨.move, [.tmp 7], (some 48), some (46, true)⟩,
 ⟨(.bin .lss), [.tmp 47, .tmp 48], (some 49), some (46, true)⟩,
 ⟨.pick, [.tmp 46, .tmp 49, .const (.bool false)], (some 50), none⟩])
 (.cond (.tmp 50) (.seq (.seqR [⟨.move, [.tmp 0], (some 51), none⟩,
 ⟨.move, [.tmp 5], (some 52), none⟩,
 ⟨(.indexAddrS 1), [.tmp 51, .tmp 52], (some 53), none⟩,
 ⟨(.load false 1), [.tmp 53], (some 54), none⟩,
 ⟨.move, [.tmp 54], (some 4), none⟩])
 .ret)
 .skip)))))
 (.seqR [⟨.move, [.tmp 5], (some 13), none⟩,
 ⟨(.bin .add), [.tmp 13, .const (.int .i64 1)], (some 14), none⟩,
 ⟨.move, [.tmp 14], (some 5), none⟩]))))))
 (.seq (.seqR [⟨.move, [.const (.int .i64 0)], (some 4), none⟩])
 .ret))), [.tmp 4]⟩
theorem c24_ok : compFunc Try.prog Try.f24 = some c24 := by kernel_rfl
theorem c24_body : hasBody Try.prog 24 = true := hasBody_of Try.func24 (by kernel_rfl)
/-- coachyard/stats.open -/
def c25 : PFn := ⟨30, Tr.ofList (List.replicate 30 undefA), (.seq (.seqR [⟨.move, [.const (.slice none 0 0 false)], (some 2), none⟩,
 ⟨.move, [.const (.int .i64 0)], (some 3), none⟩])
 (.seq (.seqR [⟨.move, [.tmp 0], (some 7), none⟩,
 ⟨(.callF 38), [.tmp 7], (some 8), none⟩,
 ⟨.move, [.tmp 8], (some 6), none⟩,
 ⟨(.extract 0), [.tmp 6], (some 9), none⟩,
 ⟨(.extract 1), [.tmp 6], (some 10), none⟩,
 ⟨.move, [.tmp 9], (some 4), none⟩,
 ⟨.move, [.tmp 10], (some 5), none⟩])
 (.seq (.seq (.seqR [⟨.move, [.tmp 5], (some 11), none⟩,
 ⟨(.bin .eql), [.tmp 11, .const (.int .i64 0)], (some 12), none⟩,
 ⟨.move, [.tmp 12], (some 13), none⟩,
 ⟨.move, [.tmp 0], (some 14), some (13, true)⟩,
 ⟨.lenS, [.tmp 14], (some 15), some (13, true)⟩,
 ⟨(.bin .gtr), [.tmp 15, .const (.int .i64 0)], (some 16), some (13, true)⟩,
 ⟨.pick, [.tmp 13, .tmp 16, .const (.bool false)], (some 17), none⟩,
 ⟨.move, [.tmp 17], (some 18), none⟩,
 ⟨.move, [.tmp 0], (some 19), some (18, true)⟩,
 ⟨.move, [.tmp 0], (some 20), some (18, true)⟩,
 ⟨.lenS, [.tmp 20], (some 21), some (18, true)⟩,
 ⟨(.bin .sub), [.tmp 21, .const (.int .i64 1)], (some 22), some (18, true)⟩,
 ⟨(.indexAddrS 10), [.tmp 19, .tmp 22], (some 23), some (18, true)⟩,
 ⟨(.fieldAddr 0), [.tmp 23], (some 24), some (18, true)⟩,
 ⟨(.load false 1), [.tmp 24], (some 25), some (18, true)⟩,
 ⟨(.bin .gtr), [.tmp 25, .const (.int .i64 2147483647)], (some 26), some (18, true)⟩,
 ⟨.pick, [.tmp 18, .tmp 26, .const (.bool false)], (some 27), none⟩])
 (.cond (.tmp 27) (.seq (.seqR [⟨.move, [.const (.slice none 0 0 false)], (some 2), none⟩,
 ⟨.move, [.const (.int .i64 13)], (some 3), none⟩])
 .ret)
 .skip))
 (.seq (.seqR [⟨.move, [.tmp 4], (some 28), none⟩,
 ⟨.move, [.tmp 5], (some 29), none⟩,
 ⟨.move, [.tmp 28], (some 2), none⟩,
 ⟨.move, [.tmp 29], (some 3), none⟩])
 .ret)))), [.tmp 2, .tmp 3]⟩
theorem c25_ok : compFunc Try.prog Try.f25 = some c25 := by kernel_rfl
theorem c25_body : hasBody Try.prog 25 = true := hasBody_of Try.func25 (by kernel_rfl)
/-- coachyard/coachyardref15.Right -/
def c26 : PFn := ⟨114, Tr.ofList (List.replicate 114 undefA), (.seq (.seqR [⟨.move, [.const (.bool false)], (some 2), none⟩])
 (.seq (.seq (.seqR [⟨.move, [.const (.int .i64 0)], (some 3), none⟩])
 (.block 0 (.loop (.seq (.seq (.seqR [⟨.move, [.tmp 3], (some 8), none⟩,
 ⟨.move, [.tmp 0], (some 9), none⟩,
 ⟨.lenS, [.tmp 9], (some 10), none⟩,
 ⟨(.bin .lss), [.tmp 8, .tmp 10], (some 11), none⟩])
 (.cond (.tmp 11) .skip
 (.exit 0)))
 (.seq (.block 1 (.seq (.drawR [⟨⟨.move, [.tmp 0], (some 14), none⟩, false, false, 0, 0⟩,
 ⟨⟨.move, [.tmp 3], (some 15), none⟩, false, false, 0, 0⟩,
 ⟨⟨(.indexAddrS 10), [.tmp 14, .tmp 15], (some 16), none⟩, false, false, 0, 0⟩,
 ⟨⟨(.fieldAddr 0), [.tmp 16], (some 17), none⟩, false, false, 0, 0⟩,
 ⟨⟨(.load false 1), [.tmp 17], (some 18), none⟩, false, false, 0, 0⟩,
 ⟨⟨(.bin .lss), [.tmp 18, .const (.int .i64 0)], (some 19), none⟩, false, false, 0, 0⟩,
 ⟨⟨.move, [.tmp 19], (some 20), none⟩, false, false, 0, 0⟩,
 ⟨⟨.move, [.tmp 3], (some 21), some (20, false)⟩, false, false, 0, 0⟩,
 ⟨⟨(.bin .gtr), [.tmp 21, .const (.int .i64 0)], (some 22), some (20, false)⟩, false, false, 0, 0⟩,
 ⟨⟨.move, [.tmp 22], (some 23), some (20, false)⟩, false, false, 0, 0⟩,
 ⟨⟨.move, [.tmp 0], (some 24), some (23, true)⟩, false, false, 0, 0⟩,
 ⟨⟨.move, [.tmp 3], (some 25), some (23, true)⟩, false, false, 0, 0⟩,
 ⟨⟨(.indexAddrS 10), [.tmp 24, .tmp 25], (some 26), some (23, true)⟩, false, false, 0, 0⟩,
 ⟨⟨(.fieldAddr 0), [.tmp 26], (some 27), some (23, true)⟩, false, false, 0, 0⟩,
 ⟨⟨(.load false 1), [.tmp 27], (some 28), some (23, true)⟩, false, false, 0, 0⟩,
 ⟨⟨.move, [.tmp 0], (some 29), some (23, true)⟩, false, false, 0, 0⟩,
 ⟨⟨.move, [.tmp 3], (some 30), some (23, true)⟩, false, false, 0, 0⟩,
 ⟨⟨(.bin .sub), [.tmp 30, .const (.int .i64 1)], (some 31), some (23, true)⟩, false, false, 0, 0⟩,
 ⟨⟨(.indexAddrS 10), [.tmp 29, .tmp 31], (some 32), some (23, true)⟩, false, false, 0, 0⟩,
 ⟨⟨(.fieldAddr 0), [.tmp 32], (some 33), some (23, true)⟩, false, false, 0, 0⟩,
 ⟨⟨(.load false 1), [.tmp 33], (some 34), some (23, true)⟩, false, false, 0, 0⟩,
 ⟨⟨(.bin .lss), [.tmp 28, .tmp 34], (some 35), some (23, true)⟩, false, false, 0, 0⟩,
 ⟨⟨.pick, [.tmp 23, .tmp 35, .const (.bool false)], (some 36), some (20, false)⟩, false, false, 0, 0⟩,
 ⟨⟨.pick, [.tmp 20, .const (.bool true), .tmp 36], (some 37), none⟩, false, false, 0, 0⟩,
 ⟨⟨.move, [.tmp 37], (some 38), none⟩, false, false, 0, 0⟩,
 ⟨⟨.move, [.tmp 0], (some 39), some (38, false)⟩, false, false, 0, 0⟩,
 ⟨⟨.move, [.tmp 3], (some 40), some (38, false)⟩, false, false, 0, 0⟩,
 ⟨⟨(.indexAddrS 10), [.tmp 39, .tmp 40], (some 41), some (38, false)⟩, false, false, 0, 0⟩,
 ⟨⟨(.fieldAddr 1), [.tmp 41], (some 42), some (38, false)⟩, false, false, 0, 0⟩,
 ⟨⟨(.load false 1), [.tmp 42], (some 43), some (38, false)⟩, false, false, 0, 0⟩,
 ⟨⟨(.bin .lss), [.tmp 43, .const (.int .i64 0)], (some 44), some (38, false)⟩, false, false, 0, 0⟩,
 ⟨⟨.pick, [.tmp 38, .const (.bool true), .tmp 44], (some 45), none⟩, false, false, 0, 0⟩,
 ⟨⟨.move, [.tmp 45], (some 46), none⟩, false, false, 0, 0⟩,
 ⟨⟨.move, [.tmp 0], (some 47), some (46, false)⟩, false, false, 0, 0⟩,
 ⟨⟨.move, [.tmp 3], (some 48), some (46, false)⟩, false, false, 0, 0⟩,
 ⟨⟨(.indexAddrS 10), [.tmp 47, .tmp 48], (some 49), some (46, false)⟩, false, false, 0, 0⟩,
 ⟨⟨(.fieldAddr 1), [.tmp 49], (some 50), some (46, false)⟩, false, false, 0, 0⟩,
 ⟨⟨(.load false 1), [.tmp 50], (some 51), some (46, false)⟩, false, false, 0, 0⟩,
 ⟨⟨(.bin .gtr), [.tmp 51, .const (.int .i64 15)], (some 52), some (46, false)⟩, false, false, 0, 0⟩,
 ⟨⟨.pick, [.tmp 46, .const (.bool true), .tmp 52], (some 53), none⟩, false, false, 0, 0⟩])
 (.cond (.tmp 53) (.seq (.seqR [⟨.move, [.const (.bool false)], (some 2), none⟩])
 .ret)
 .skip)))
 (.seqR [⟨.move, [.tmp 3], (some 12), none⟩,
 ⟨(.bin .add), [.tmp 12, .const (.int .i64 1)], (some 13), none⟩,
 ⟨.move, [.tmp 13], (some 3), none⟩]))))))
 (.seq (.seq (.seqR [⟨.move, [.const (.int .i64 0)], (some 4), none⟩])
 (.block 2 (.loop (.seq (.seq (.seqR [⟨.move, [.tmp 4], (some 54), none⟩,
 ⟨(.bin .lss), [.tmp 54, .const (.int .i64 16)], (some 55), none⟩])
 (.cond (.tmp 55) .skip
 (.exit 2)))
 (.seq (.block 3 (.seq (.seqR [⟨.move, [.tmp 0], (some 58), none⟩,
 ⟨.move, [.tmp 4], (some 59), none⟩,
 ⟨(.callF 39), [.tmp 58, .tmp 59], (some 60), none⟩,
 ⟨.move, [.tmp 60], (some 5), none⟩])
 (.seq (.seqR [⟨.move, [.const (.int .i64 0)], (some 6), none⟩])
 (.block 4 (.loop (.seq (.seq (.seqR [⟨.move, [.tmp 6], (some 61), none⟩,
 ⟨.move, [.tmp 5], (some 62), none⟩,
 ⟨.lenS, [.tmp 62], (some 63), none⟩,
 ⟨(.bin .lss), [.tmp 61, .tmp 63], (some 64), none⟩])
 (.cond (.tmp 64) .skip
 (.exit 4)))
 (.seq (.block 5 (.seq (.seqR [⟨.move, [.tmp 0], (some 67), none⟩,
 ⟨.move, [.tmp 5], (some 68), none⟩,
 ⟨.move, [.tmp 6], (some 69), none⟩,
 ⟨(.indexAddrS 1), [.tmp 68, .tmp 69], (some 70), none⟩,
 ⟨(.load false 1), [.tmp 70], (some 71), none⟩,
 ⟨(.indexAddrS 10), [.tmp 67, .tmp 71], (some 72), none⟩,
 ⟨(.load true 10), [.tmp 72], (some 73), none⟩,
 ⟨(.new [(.int .i64 0), (.int .i64 0), (.int .i64 0), (.bool false), (.int .i64 0), (.int .u64 0), (.slice none 0 0 false), (.int .i64 0), (.int .u64 0), (.slice none 0 0 false)]), [], (some 7), none⟩,
 ⟨(.store 10), [.tmp 7, .tmp 73], none, none⟩])
 (.seq (.seq (.seqR [⟨(.fieldAddr 2), [.tmp 7], (some 74), none⟩,
 ⟨(.load false 1), [.tmp 74], (some 75), none⟩,
 ⟨.move, [.tmp 6], (some 76), none⟩,
 ⟨(.bin .quo), [.tmp 76, .const (.int .i64 2)], (some 77), none⟩,
 ⟨(.bin .neq), [.tmp 75, .tmp 77], (some 78), none⟩,
 ⟨.move, [.tmp 78], (some 79), none⟩,
 ⟨(.fieldAddr 3), [.tmp 7], (some 80), some (79, false)⟩,
 ⟨(.load false 1), [.tmp 80], (some 81), some (79, false)⟩,
 ⟨.move, [.tmp 6], (some 82), some (79, false)⟩,
 ⟨(.bin .rem), [.tmp 82, .const (.int .i64 2)], (some 83), some (79, false)⟩,
 ⟨(.bin .eql), [.tmp 83, .const (.int .i64 1)], (some 84), some (79, false)⟩,
 ⟨(.eqBool true), [.tmp 81, .tmp 84], (some 85), some (79, false)⟩,
 ⟨.pick, [.tmp 79, .const (.bool true), .tmp 85], (some 86), none⟩])
 (.cond (.tmp 86) (.seq (.seqR [⟨.move, [.const (.bool false)], (some 2), none⟩])
 .ret)
 .skip))
 (.seq (.seq (.seqR [⟨(.fieldAddr 3), [.tmp 7], (some 87), none⟩,
 ⟨(.load false 1), [.tmp 87], (some 88), none⟩,
 ⟨.not, [.tmp 88], (some 89), none⟩,
 ⟨.move, [.tmp 89], (some 90), none⟩,
 ⟨(.fieldAddr 7), [.tmp 7], (some 91), some (90, true)⟩,
 ⟨(.load true 3), [.tmp 91], (some 92), some (90, true)⟩,
 ⟨(.build [(.int .i64 0), (.int .u64 0), (.slice none 0 0 false)] []), [], (some 93), some (90, true)⟩,
 ⟨(.callF 34), [.tmp 92, .tmp 93], (some 94), some (90, true)⟩,
 ⟨.not, [.tmp 94], (some 95), some (90, true)⟩,
 ⟨.pick, [.tmp 90, .tmp 95, .const (.bool false)], (some 96), none⟩])
 (.cond (.tmp 96) (.seq (.seqR [⟨.move, [.const (.bool false)], (some 2), none⟩])
 .ret)
 .skip))
 (.seq (.drawR [⟨⟨(.fieldAddr 3), [.tmp 7], (some 97), none⟩, false, false, 0, 0⟩,
 ⟨⟨(.load false 1), [.tmp 97], (some 98), none⟩, false, false, 0, 0⟩,
 ⟨⟨.move, [.tmp 98], (some 99), none⟩, false, false, 0, 0⟩,
 ⟨⟨(.fieldAddr 4), [.tmp 7], (some 100), some (99, true)⟩, false, false, 0, 0⟩,
 ⟨⟨(.load true 3), [.tmp 100], (some 101), some (99, true)⟩, false, false, 0, 0⟩,
 ⟨⟨.move, [.tmp 0], (some 102), some (99, true)⟩, false, false, 0, 0⟩,
 ⟨⟨.move, [.tmp 5], (some 103), some (99, true)⟩, false, false, 0, 0⟩,
 ⟨⟨.move, [.tmp 6], (some 104), some (99, true)⟩, false, false, 0, 0⟩,
 ⟨⟨(.bin .sub), [.tmp 104, .const (.int .i64 1)], (some 105), some (99, true)⟩, false, false, 0, 0⟩,
 ⟨⟨(.indexAddrS 1), [.tmp 103, .tmp 105], (some 106), some (99, true)⟩, false, false, 0, 0⟩,
 ⟨⟨(.load false 1), [.tmp 106], (some 107), some (99, true)⟩, false, false, 0, 0⟩,
 ⟨⟨(.indexAddrS 10), [.tmp 102, .tmp 107], (some 108), some (99, true)⟩, false, false, 0, 0⟩,
 ⟨⟨(.fieldAddr 4), [.tmp 108], (some 109), some (99, true)⟩, false, false, 0, 0⟩,
 ⟨⟨(.load true 3), [.tmp 109], (some 110), some (99, true)⟩, false, false, 0, 0⟩,
 ⟨⟨(.callF 33), [.tmp 101, .tmp 110], (some 111), some (99, true)⟩, true, false, 0, 1⟩,
 ⟨⟨.not, [.tmp 111], (some 112), some (99, true)⟩, false, false, 1, 1⟩,
 ⟨⟨.pick, [.tmp 99, .tmp 112, .const (.bool false)], (some 113), none⟩, false, false, 1, 1⟩])
 (.cond (.tmp 113) (.seq (.seqR [⟨.move, [.const (.bool false)], (some 2), none⟩])
 .ret)
 .skip))))))
 (.seqR [⟨.move, [.tmp 6], (some 65), none⟩,
 ⟨(.bin .add), [.tmp 65, .const (.int .i64 1)], (some 66), none⟩,
 ⟨.move, [.tmp 66], (some 6), none⟩]))))))))
 (.seqR [⟨.move, [.tmp 4], (some 56), none⟩,
 ⟨(.bin .add), [.tmp 56, .const (.int .i64 1)], (some 57), none⟩,
 ⟨.move, [.tmp 57], (some 4), none⟩]))))))
 (.seq (.seqR [⟨.move, [.const (.bool true)], (some 2), none⟩])
 .ret)))), [.tmp 2]⟩
theorem c26_ok : compFunc Try.prog Try.f26 = some c26 := by kernel_rfl
theorem c26_body : hasBody Try.prog 26 = true := hasBody_of Try.func26 (by kernel_rfl)
/-- coachyard/coachyardref15.Spans -/
def c27 : PFn := ⟨82, Tr.ofList (List.replicate 82 undefA), (.seq (.seqR [⟨.move, [.const (.slice none 0 0 false)], (some 2), none⟩])
 (.seq (.seqR [⟨(.sliceLit 0 [] []), [], (some 7), none⟩,
 ⟨.move, [.tmp 7], (some 3), none⟩])
 (.seq (.seq (.seqR [⟨.move, [.const (.int .i64 0)], (some 4), none⟩])
 (.block 0 (.loop (.seq (.seq (.seqR [⟨.move, [.tmp 4], (some 8), none⟩,
 ⟨.move, [.tmp 0], (some 9), none⟩,
 ⟨.lenS, [.tmp 9], (some 10), none⟩,
 ⟨(.bin .lss), [.tmp 8, .tmp 10], (some 11), none⟩])
 (.cond (.tmp 11) .skip
 (.exit 0)))
 (.seq (.block 1 (.seq (.seq (.seqR [⟨.move, [.tmp 0], (some 14), none⟩,
 ⟨.move, [.tmp 4], (some 15), none⟩,
 ⟨(.indexAddrS 10), [.tmp 14, .tmp 15], (some 16), none⟩,
 ⟨(.fieldAddr 3), [.tmp 16], (some 17), none⟩,
 ⟨(.load false 1), [.tmp 17], (some 18), none⟩])
 (.cond (.tmp 18) (.exit 1)
 .skip))
 (.seq (.drawR [⟨⟨.move, [.tmp 0], (some 19), none⟩, false, false, 0, 1⟩,
 ⟨⟨.move, [.tmp 4], (some 20), none⟩, false, false, 0, 1⟩,
 ⟨⟨(.indexAddrS 10), [.tmp 19, .tmp 20], (some 21), none⟩, false, false, 0, 1⟩,
 ⟨⟨(.fieldAddr 1), [.tmp 21], (some 22), none⟩, false, false, 0, 1⟩,
 ⟨⟨(.load false 1), [.tmp 22], (some 23), none⟩, false, false, 0, 1⟩,
 ⟨⟨.move, [.tmp 0], (some 24), none⟩, false, false, 0, 1⟩,
 ⟨⟨.move, [.tmp 4], (some 25), none⟩, false, false, 0, 1⟩,
 ⟨⟨(.indexAddrS 10), [.tmp 24, .tmp 25], (some 26), none⟩, false, false, 0, 1⟩,
 ⟨⟨(.fieldAddr 2), [.tmp 26], (some 27), none⟩, false, false, 0, 1⟩,
 ⟨⟨(.load false 1), [.tmp 27], (some 28), none⟩, false, false, 0, 1⟩,
 ⟨⟨.move, [.tmp 4], (some 29), none⟩, false, false, 0, 1⟩,
 ⟨⟨.move, [.tmp 0], (some 30), none⟩, false, false, 0, 1⟩,
 ⟨⟨.move, [.tmp 4], (some 31), none⟩, false, false, 0, 1⟩,
 ⟨⟨(.indexAddrS 10), [.tmp 30, .tmp 31], (some 32), none⟩, false, false, 0, 1⟩,
 ⟨⟨(.fieldAddr 4), [.tmp 32], (some 33), none⟩, false, false, 0, 1⟩,
 ⟨⟨(.load true 3), [.tmp 33], (some 34), none⟩, false, false, 0, 1⟩,
 ⟨⟨(.build [(.int .i64 0), (.int .i64 0), (.int .i64 0), (.int .i64 0), (.int .i64 0), (.int .u64 0), (.slice none 0 0 false), (.int .i64 0), (.int .u64 0), (.slice none 0 0 false)] [(0, 1), (1, 1), (2, 1), (3, 1), (4, 3)]), [.tmp 23, .tmp 28, .tmp 29, .const (.int .i64 (-1)), .tmp 34], (some 35), none⟩, false, false, 0, 1⟩,
 ⟨⟨(.new [(.int .i64 0), (.int .i64 0), (.int .i64 0), (.int .i64 0), (.int .i64 0), (.int .u64 0), (.slice none 0 0 false), (.int .i64 0), (.int .u64 0), (.slice none 0 0 false)]), [], (some 5), none⟩, true, false, 0, 1⟩,
 ⟨⟨(.store 10), [.tmp 5, .tmp 35], none, none⟩, true, false, 1, 2⟩])
 (.seq (.seq (.seqR [⟨.move, [.tmp 4], (some 36), none⟩,
 ⟨(.bin .add), [.tmp 36, .const (.int .i64 1)], (some 37), none⟩,
 ⟨.move, [.tmp 37], (some 6), none⟩])
 (.block 2 (.loop (.seq (.seq (.seqR [⟨.move, [.tmp 6], (some 38), none⟩,
 ⟨.move, [.tmp 0], (some 39), none⟩,
 ⟨.lenS, [.tmp 39], (some 40), none⟩,
 ⟨(.bin .lss), [.tmp 38, .tmp 40], (some 41), none⟩])
 (.cond (.tmp 41) .skip
 (.exit 2)))
 (.seq (.block 3 (.seq (.drawR [⟨⟨.move, [.tmp 0], (some 44), none⟩, false, false, 0, 0⟩,
 ⟨⟨.move, [.tmp 6], (some 45), none⟩, false, false, 0, 0⟩,
 ⟨⟨(.indexAddrS 10), [.tmp 44, .tmp 45], (some 46), none⟩, false, false, 0, 0⟩,
 ⟨⟨(.fieldAddr 1), [.tmp 46], (some 47), none⟩, false, false, 0, 0⟩,
 ⟨⟨(.load false 1), [.tmp 47], (some 48), none⟩, false, false, 0, 0⟩,
 ⟨⟨(.fieldAddr 0), [.tmp 5], (some 49), none⟩, false, false, 0, 0⟩,
 ⟨⟨(.load false 1), [.tmp 49], (some 50), none⟩, false, false, 0, 0⟩,
 ⟨⟨(.bin .eql), [.tmp 48, .tmp 50], (some 51), none⟩, false, false, 0, 0⟩,
 ⟨⟨.move, [.tmp 51], (some 52), none⟩, false, false, 0, 0⟩,
 ⟨⟨.move, [.tmp 0], (some 53), some (52, true)⟩, false, false, 0, 0⟩,
 ⟨⟨.move, [.tmp 6], (some 54), some (52, true)⟩, false, false, 0, 0⟩,
 ⟨⟨(.indexAddrS 10), [.tmp 53, .tmp 54], (some 55), some (52, true)⟩, false, false, 0, 0⟩,
 ⟨⟨(.fieldAddr 3), [.tmp 55], (some 56), some (52, true)⟩, false, false, 0, 0⟩,
 ⟨⟨(.load false 1), [.tmp 56], (some 57), some (52, true)⟩, false, false, 0, 0⟩,
 ⟨⟨.pick, [.tmp 52, .tmp 57, .const (.bool false)], (some 58), none⟩, false, false, 0, 0⟩,
 ⟨⟨.move, [.tmp 58], (some 59), none⟩, false, false, 0, 0⟩,
 ⟨⟨.move, [.tmp 0], (some 60), some (59, true)⟩, false, false, 0, 0⟩,
 ⟨⟨.move, [.tmp 6], (some 61), some (59, true)⟩, false, false, 0, 0⟩,
 ⟨⟨(.indexAddrS 10), [.tmp 60, .tmp 61], (some 62), some (59, true)⟩, false, false, 0, 0⟩,
 ⟨⟨(.fieldAddr 2), [.tmp 62], (some 63), some (59, true)⟩, false, false, 0, 0⟩,
 ⟨⟨(.load false 1), [.tmp 63], (some 64), some (59, true)⟩, false, false, 0, 0⟩,
 ⟨⟨(.fieldAddr 1), [.tmp 5], (some 65), some (59, true)⟩, false, false, 0, 0⟩,
 ⟨⟨(.load false 1), [.tmp 65], (some 66), some (59, true)⟩, false, false, 0, 0⟩,
 ⟨⟨(.bin .eql), [.tmp 64, .tmp 66], (some 67), some (59, true)⟩, false, false, 0, 0⟩,
 ⟨⟨.pick, [.tmp 59, .tmp 67, .const (.bool false)], (some 68), none⟩, false, false, 0, 0⟩])
 (.cond (.tmp 68) (.seq (.seqR [⟨.move, [.tmp 6], (some 69), none⟩,
 ⟨(.fieldAddr 3), [.tmp 5], (some 70), none⟩,
 ⟨(.store 1), [.tmp 70, .tmp 69], none, none⟩])
 (.seqR [⟨.move, [.tmp 0], (some 71), none⟩,
 ⟨.move, [.tmp 6], (some 72), none⟩,
 ⟨(.indexAddrS 10), [.tmp 71, .tmp 72], (some 73), none⟩,
 ⟨(.fieldAddr 7), [.tmp 73], (some 74), none⟩,
 ⟨(.load true 3), [.tmp 74], (some 75), none⟩,
 ⟨(.fieldAddr 7), [.tmp 5], (some 76), none⟩,
 ⟨(.store 3), [.tmp 76, .tmp 75], none, none⟩]))
 .skip)))
 (.seqR [⟨.move, [.tmp 6], (some 42), none⟩,
 ⟨(.bin .add), [.tmp 42, .const (.int .i64 1)], (some 43), none⟩,
 ⟨.move, [.tmp 43], (some 6), none⟩]))))))
 (.seqR [⟨.move, [.tmp 3], (some 77), none⟩,
 ⟨(.load true 10), [.tmp 5], (some 78), none⟩,
 ⟨(.sliceLit 1 [(.int .i64 0), (.int .i64 0), (.int .i64 0), (.int .i64 0), (.int .i64 0), (.int .u64 0), (.slice none 0 0 false), (.int .i64 0), (.int .u64 0), (.slice none 0 0 false)] [(0, 10)]), [.tmp 78], (some 79), none⟩,
 ⟨(.append 10 112), [.tmp 77, .tmp 79], (some 80), none⟩,
 ⟨.move, [.tmp 80], (some 3), none⟩])))))
 (.seqR [⟨.move, [.tmp 4], (some 12), none⟩,
 ⟨(.bin .add), [.tmp 12, .const (.int .i64 1)], (some 13), none⟩,
 ⟨.move, [.tmp 13], (some 4), none⟩]))))))
 (.seq (.seqR [⟨.move, [.tmp 3], (some 81), none⟩,
 ⟨.move, [.tmp 81], (some 2), none⟩])
 .ret)))), [.tmp 2]⟩
theorem c27_ok : compFunc Try.prog Try.f27 = some c27 := by kernel_rfl
theorem c27_body : hasBody Try.prog 27 = true := hasBody_of Try.func27 (by kernel_rfl)
/-- coachyard/stats.took -/
def c28 : PFn := ⟨18, Tr.ofList (List.replicate 18 undefA), (.seq (.seqR [⟨.box, [.tmp 1], (some 3), none⟩,
 ⟨.move, [.const (.int .i64 0)], (some 4), none⟩])
 (.seq (.drawR [⟨⟨.move, [.tmp 0], (some 5), none⟩, false, false, 0, 0⟩,
 ⟨⟨(.fieldAddr 3), [.tmp 3], (some 6), none⟩, false, false, 0, 0⟩,
 ⟨⟨(.load false 1), [.tmp 6], (some 7), none⟩, false, false, 0, 0⟩,
 ⟨⟨(.indexAddrS 10), [.tmp 5, .tmp 7], (some 8), none⟩, false, false, 0, 0⟩,
 ⟨⟨(.fieldAddr 0), [.tmp 8], (some 9), none⟩, false, false, 0, 0⟩,
 ⟨⟨(.load false 1), [.tmp 9], (some 10), none⟩, false, false, 0, 0⟩,
 ⟨⟨.move, [.tmp 0], (some 11), none⟩, false, false, 0, 0⟩,
 ⟨⟨(.fieldAddr 2), [.tmp 3], (some 12), none⟩, false, false, 0, 0⟩,
 ⟨⟨(.load false 1), [.tmp 12], (some 13), none⟩, false, false, 0, 0⟩,
 ⟨⟨(.indexAddrS 10), [.tmp 11, .tmp 13], (some 14), none⟩, false, false, 0, 0⟩,
 ⟨⟨(.fieldAddr 0), [.tmp 14], (some 15), none⟩, false, false, 0, 0⟩,
 ⟨⟨(.load false 1), [.tmp 15], (some 16), none⟩, false, false, 0, 0⟩,
 ⟨⟨(.bin .sub), [.tmp 10, .tmp 16], (some 17), none⟩, false, false, 0, 0⟩,
 ⟨⟨.move, [.tmp 17], (some 4), none⟩, false, false, 0, 0⟩])
 .ret)), [.tmp 4]⟩
theorem c28_ok : compFunc Try.prog Try.f28 = some c28 := by kernel_rfl
theorem c28_body : hasBody Try.prog 28 = true := hasBody_of Try.func28 (by kernel_rfl)
/-- container/heap.Push -/
def c29 : PFn := ⟨12, Tr.ofList (List.replicate 12 undefA), (.seq (.seqR [⟨.move, [.tmp 0], (some 4), none⟩,
 ⟨.move, [.tmp 1], (some 5), none⟩,
 ⟨(.invoke [(66, 89)] []), [.tmp 4, .tmp 5], (some 6), none⟩])
 (.seqR [⟨.move, [.tmp 0], (some 7), none⟩,
 ⟨.move, [.tmp 0], (some 8), none⟩,
 ⟨(.invoke [(68, 30)] [(66, 30, false, 1)]), [.tmp 8], (some 9), none⟩,
 ⟨(.bin .sub), [.tmp 9, .const (.int .i64 1)], (some 10), none⟩,
 ⟨(.callF 40), [.tmp 7, .tmp 10], (some 11), none⟩])), []⟩
theorem c29_ok : compFunc Try.prog Try.f29 = some c29 := by kernel_rfl
theorem c29_body : hasBody Try.prog 29 = true := hasBody_of Try.func29 (by kernel_rfl)
/-- (coachyard/stats.top).Len -/
def c30 : PFn := ⟨5, Tr.ofList (List.replicate 5 undefA), (.seq (.seqR [⟨.move, [.const (.int .i64 0)], (some 2), none⟩])
 (.seq (.seqR [⟨.move, [.tmp 0], (some 3), none⟩,
 ⟨.lenS, [.tmp 3], (some 4), none⟩,
 ⟨.move, [.tmp 4], (some 2), none⟩])
 .ret)), [.tmp 2]⟩
theorem c30_ok : compFunc Try.prog Try.f30 = some c30 := by kernel_rfl
theorem c30_body : hasBody Try.prog 30 = true := hasBody_of Try.func30 (by kernel_rfl)
/-- container/heap.Pop -/
def c31 : PFn := ⟨15, Tr.ofList (List.replicate 15 undefA), (.seq (.seqR [⟨.move, [.const .nilIface], (some 2), none⟩])
 (.seq (.seqR [⟨.move, [.tmp 0], (some 4), none⟩,
 ⟨(.invoke [(68, 30)] [(66, 30, false, 1)]), [.tmp 4], (some 5), none⟩,
 ⟨(.bin .sub), [.tmp 5, .const (.int .i64 1)], (some 6), none⟩,
 ⟨.move, [.tmp 6], (some 3), none⟩])
 (.seq (.seqR [⟨.move, [.tmp 0], (some 7), none⟩,
 ⟨.move, [.tmp 3], (some 8), none⟩,
 ⟨(.invoke [(68, 90)] [(66, 90, false, 1)]), [.tmp 7, .const (.int .i64 0), .tmp 8], (some 9), none⟩])
 (.seq (.seqR [⟨.move, [.tmp 0], (some 10), none⟩,
 ⟨.move, [.tmp 3], (some 11), none⟩,
 ⟨(.callF 41), [.tmp 10, .const (.int .i64 0), .tmp 11], (some 12), none⟩])
 (.seq (.seqR [⟨.move, [.tmp 0], (some 13), none⟩,
 ⟨(.invoke [(66, 88)] []), [.tmp 13], (some 14), none⟩,
 ⟨.move, [.tmp 14], (some 2), none⟩])
 .ret))))), [.tmp 2]⟩
theorem c31_ok : compFunc Try.prog Try.f31 = some c31 := by kernel_rfl
theorem c31_body : hasBody Try.prog 31 = true := hasBody_of Try.func31 (by kernel_rfl)
/-- coachyard/coachyardref29.Took -/
def c32 : PFn := ⟨18, Tr.ofList (List.replicate 18 undefA), (.seq (.seqR [⟨.box, [.tmp 1], (some 3), none⟩,
 ⟨.move, [.const (.int .i64 0)], (some 4), none⟩])
 (.seq (.drawR [⟨⟨.move, [.tmp 0], (some 5), none⟩, false, false, 0, 0⟩,
 ⟨⟨(.fieldAddr 3), [.tmp 3], (some 6), none⟩, false, false, 0, 0⟩,
 ⟨⟨(.load false 1), [.tmp 6], (some 7), none⟩, false, false, 0, 0⟩,
 ⟨⟨(.indexAddrS 10), [.tmp 5, .tmp 7], (some 8), none⟩, false, false, 0, 0⟩,
 ⟨⟨(.fieldAddr 0), [.tmp 8], (some 9), none⟩, false, false, 0, 0⟩,
 ⟨⟨(.load false 1), [.tmp 9], (some 10), none⟩, false, false, 0, 0⟩,
 ⟨⟨.move, [.tmp 0], (some 11), none⟩, false, false, 0, 0⟩,
 ⟨⟨(.fieldAddr 2), [.tmp 3], (some 12), none⟩, false, false, 0, 0⟩,
 ⟨⟨(.load false 1), [.tmp 12], (some 13), none⟩, false, false, 0, 0⟩,
 ⟨⟨(.indexAddrS 10), [.tmp 11, .tmp 13], (some 14), none⟩, false, false, 0, 0⟩,
 ⟨⟨(.fieldAddr 0), [.tmp 14], (some 15), none⟩, false, false, 0, 0⟩,
 ⟨⟨(.load false 1), [.tmp 15], (some 16), none⟩, false, false, 0, 0⟩,
 ⟨⟨(.bin .sub), [.tmp 10, .tmp 16], (some 17), none⟩, false, false, 0, 0⟩,
 ⟨⟨.move, [.tmp 17], (some 4), none⟩, false, false, 0, 0⟩])
 .ret)), [.tmp 4]⟩
theorem c32_ok : compFunc Try.prog Try.f32 = some c32 := by kernel_rfl
theorem c32_body : hasBody Try.prog 32 = true := hasBody_of Try.func32 (by kernel_rfl)
end Go.Proofs.Ytoddncakdnmloaa
