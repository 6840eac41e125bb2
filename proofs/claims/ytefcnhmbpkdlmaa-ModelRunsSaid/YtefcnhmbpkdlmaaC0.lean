/- The code of the small machine for some of the program's functions: printed by program; each is what the rules make of the program's own. -/
import Derived.Test.YtefcnhmbpkdlmaaVx16
import Derived.Test.YtefcnhmbpkdlmaaProg
import Derived.KernelRfl
namespace Go.Proofs.Ytefcnhmbpkdlmaa
open Go Go.Vx Go.Proofs
/-- coachyard/coachyardlaw17.ModelApplies -/
def c3 : PFn := ⟨73, Tr.ofList (List.replicate 73 undefA), (.seq (.seqR [⟨.box, [.tmp 2], (some 5), none⟩,
 ⟨.move, [.const (.bool false)], (some 6), none⟩])
 (.seq (.seq (.seqR [⟨(.callF 5), [], (some 13), none⟩,
 ⟨.not, [.tmp 13], (some 14), none⟩])
 (.cond (.tmp 14) (.seq (.seqR [⟨.move, [.const (.bool false)], (some 6), none⟩])
 .ret)
 .skip))
 (.seq (.seq (.seqR [⟨.move, [.tmp 1], (some 15), none⟩,
 ⟨.lenS, [.tmp 15], (some 16), none⟩,
 ⟨(.bin .gtr), [.tmp 16, .const (.int .i64 100)], (some 17), none⟩])
 (.cond (.tmp 17) (.seq (.seqR [⟨.move, [.const (.bool true)], (some 6), none⟩])
 .ret)
 .skip))
 (.seq (.seqR [⟨(.sliceLit 0 [] []), [], (some 18), none⟩,
 ⟨.move, [.tmp 1], (some 19), none⟩,
 ⟨(.append 1 8), [.tmp 18, .tmp 19], (some 20), none⟩,
 ⟨.move, [.tmp 20], (some 7), none⟩])
 (.seq (.seqR [⟨.move, [.tmp 0], (some 22), none⟩,
 ⟨.move, [.tmp 7], (some 23), none⟩,
 ⟨(.load true 5), [.tmp 5], (some 24), none⟩,
 ⟨(.callF 6), [.tmp 22, .tmp 23, .tmp 24], (some 25), none⟩,
 ⟨.move, [.tmp 25], (some 21), none⟩,
 ⟨(.extract 0), [.tmp 21], (some 26), none⟩,
 ⟨(.extract 1), [.tmp 21], (some 27), none⟩,
 ⟨.move, [.tmp 26], (some 8), none⟩,
 ⟨.move, [.tmp 27], (some 9), none⟩])
 (.seq (.seqR [⟨.move, [.tmp 0], (some 29), none⟩,
 ⟨.move, [.tmp 1], (some 30), none⟩,
 ⟨(.load true 5), [.tmp 5], (some 31), none⟩,
 ⟨(.callF 7), [.tmp 29, .tmp 30, .tmp 31], (some 32), none⟩,
 ⟨.move, [.tmp 32], (some 28), none⟩,
 ⟨(.extract 0), [.tmp 28], (some 33), none⟩,
 ⟨(.extract 1), [.tmp 28], (some 34), none⟩,
 ⟨.move, [.tmp 33], (some 10), none⟩,
 ⟨.move, [.tmp 34], (some 11), none⟩])
 (.seq (.seq (.seqR [⟨.move, [.tmp 9], (some 35), none⟩,
 ⟨.move, [.tmp 11], (some 36), none⟩,
 ⟨(.eqBool true), [.tmp 35, .tmp 36], (some 37), none⟩,
 ⟨.move, [.tmp 37], (some 38), none⟩,
 ⟨.move, [.tmp 9], (some 39), some (38, false)⟩,
 ⟨.not, [.tmp 39], (some 40), some (38, false)⟩,
 ⟨.move, [.tmp 40], (some 41), some (38, false)⟩,
 ⟨.move, [.tmp 8], (some 42), some (41, true)⟩,
 ⟨.lenS, [.tmp 42], (some 43), some (41, true)⟩,
 ⟨(.bin .neq), [.tmp 43, .const (.int .i64 0)], (some 44), some (41, true)⟩,
 ⟨.pick, [.tmp 41, .tmp 44, .const (.bool false)], (some 45), some (38, false)⟩,
 ⟨.pick, [.tmp 38, .const (.bool true), .tmp 45], (some 46), none⟩,
 ⟨.move, [.tmp 46], (some 47), none⟩,
 ⟨.move, [.tmp 9], (some 48), some (47, false)⟩,
 ⟨.move, [.tmp 48], (some 49), some (47, false)⟩,
 ⟨.move, [.tmp 8], (some 50), some (49, true)⟩,
 ⟨.move, [.tmp 10], (some 51), some (49, true)⟩,
 ⟨(.callF 8), [.tmp 50, .tmp 51], (some 52), some (49, true)⟩,
 ⟨.not, [.tmp 52], (some 53), some (49, true)⟩,
 ⟨.pick, [.tmp 49, .tmp 53, .const (.bool false)], (some 54), some (47, false)⟩,
 ⟨.pick, [.tmp 47, .const (.bool true), .tmp 54], (some 55), none⟩])
 (.cond (.tmp 55) (.seq (.seqR [⟨.move, [.const (.bool false)], (some 6), none⟩])
 .ret)
 .skip))
 (.seq (.seq (.seqR [⟨.move, [.const (.int .i64 0)], (some 12), none⟩])
 (.block 0 (.loop (.seq (.seq (.seqR [⟨.move, [.tmp 12], (some 56), none⟩,
 ⟨.move, [.tmp 8], (some 57), none⟩,
 ⟨.lenS, [.tmp 57], (some 58), none⟩,
 ⟨(.bin .lss), [.tmp 56, .tmp 58], (some 59), none⟩])
 (.cond (.tmp 59) .skip
 (.exit 0)))
 (.seq (.block 1 (.seqR [⟨.move, [.tmp 8], (some 62), none⟩,
 ⟨.move, [.tmp 12], (some 63), none⟩,
 ⟨.move, [.tmp 8], (some 64), none⟩,
 ⟨.move, [.tmp 12], (some 65), none⟩,
 ⟨(.indexAddrS 1), [.tmp 64, .tmp 65], (some 66), none⟩,
 ⟨(.load false 1), [.tmp 66], (some 67), none⟩,
 ⟨(.bin .add), [.tmp 67, .const (.int .u64 1)], (some 68), none⟩,
 ⟨(.indexAddrS 1), [.tmp 62, .tmp 63], (some 69), none⟩,
 ⟨(.store 1), [.tmp 69, .tmp 68], none, none⟩]))
 (.seqR [⟨.move, [.tmp 12], (some 60), none⟩,
 ⟨(.bin .add), [.tmp 60, .const (.int .i64 1)], (some 61), none⟩,
 ⟨.move, [.tmp 61], (some 12), none⟩]))))))
 (.seq (.seqR [⟨.move, [.tmp 7], (some 70), none⟩,
 ⟨.move, [.tmp 1], (some 71), none⟩,
 ⟨(.callF 8), [.tmp 70, .tmp 71], (some 72), none⟩,
 ⟨.move, [.tmp 72], (some 6), none⟩])
 .ret))))))))), [.tmp 6]⟩
theorem c3_ok : compFunc Try.prog Try.f3 = some c3 := by kernel_rfl
theorem c3_body : hasBody Try.prog 3 = true := hasBody_of Try.func3 (by kernel_rfl)
/-- coachyard/coachyardlaw17.ModelRuns -/
def c4 : PFn := ⟨50, Tr.ofList (List.replicate 50 undefA), (.seq (.seqR [⟨.move, [.const (.bool false)], (some 4), none⟩])
 (.seq (.seq (.seqR [⟨(.callF 5), [], (some 11), none⟩,
 ⟨.not, [.tmp 11], (some 12), none⟩])
 (.cond (.tmp 12) (.seq (.seqR [⟨.move, [.const (.bool false)], (some 4), none⟩])
 .ret)
 .skip))
 (.seq (.seq (.seqR [⟨.move, [.tmp 1], (some 13), none⟩,
 ⟨.lenS, [.tmp 13], (some 14), none⟩,
 ⟨(.bin .gtr), [.tmp 14, .const (.int .i64 100)], (some 15), none⟩])
 (.cond (.tmp 15) (.seq (.seqR [⟨.move, [.const (.bool true)], (some 4), none⟩])
 .ret)
 .skip))
 (.seq (.seqR [⟨.move, [.tmp 0], (some 17), none⟩,
 ⟨.move, [.tmp 1], (some 18), none⟩,
 ⟨(.callF 9), [.tmp 17, .tmp 18], (some 19), none⟩,
 ⟨.move, [.tmp 19], (some 16), none⟩,
 ⟨(.extract 0), [.tmp 16], (some 20), none⟩,
 ⟨(.extract 1), [.tmp 16], (some 21), none⟩,
 ⟨.move, [.tmp 20], (some 5), none⟩,
 ⟨.move, [.tmp 21], (some 6), none⟩])
 (.seq (.seqR [⟨(.sliceLit 0 [] []), [], (some 22), none⟩,
 ⟨.move, [.tmp 22], (some 7), none⟩])
 (.seq (.seqR [⟨.move, [.const (.int .i64 0)], (some 8), none⟩])
 (.seq (.block 0 (.loop (.seq (.seq (.seqR [⟨.move, [.tmp 8], (some 23), none⟩,
 ⟨.move, [.tmp 1], (some 24), none⟩,
 ⟨.lenS, [.tmp 24], (some 25), none⟩,
 ⟨(.bin .lss), [.tmp 23, .tmp 25], (some 26), none⟩])
 (.cond (.tmp 26) .skip
 (.exit 0)))
 (.block 1 (.seq (.seqR [⟨.move, [.tmp 0], (some 28), none⟩,
 ⟨.move, [.tmp 7], (some 29), none⟩,
 ⟨.move, [.tmp 1], (some 30), none⟩,
 ⟨.move, [.tmp 8], (some 31), none⟩,
 ⟨(.indexAddrS 5), [.tmp 30, .tmp 31], (some 32), none⟩,
 ⟨(.load true 5), [.tmp 32], (some 33), none⟩,
 ⟨(.callF 7), [.tmp 28, .tmp 29, .tmp 33], (some 34), none⟩,
 ⟨.move, [.tmp 34], (some 27), none⟩,
 ⟨(.extract 0), [.tmp 27], (some 35), none⟩,
 ⟨(.extract 1), [.tmp 27], (some 36), none⟩,
 ⟨.move, [.tmp 35], (some 9), none⟩,
 ⟨.move, [.tmp 36], (some 10), none⟩])
 (.seq (.seq (.seqR [⟨.move, [.tmp 10], (some 37), none⟩,
 ⟨.not, [.tmp 37], (some 38), none⟩])
 (.cond (.tmp 38) (.exit 0)
 .skip))
 (.seq (.seqR [⟨.move, [.tmp 9], (some 39), none⟩,
 ⟨.move, [.tmp 39], (some 7), none⟩])
 (.seqR [⟨.move, [.tmp 8], (some 40), none⟩,
 ⟨(.bin .add), [.tmp 40, .const (.int .i64 1)], (some 41), none⟩,
 ⟨.move, [.tmp 41], (some 8), none⟩]))))))))
 (.seq (.seqR [⟨.move, [.tmp 6], (some 42), none⟩,
 ⟨.move, [.tmp 8], (some 43), none⟩,
 ⟨(.bin .eql), [.tmp 42, .tmp 43], (some 44), none⟩,
 ⟨.move, [.tmp 44], (some 45), none⟩,
 ⟨.move, [.tmp 5], (some 46), some (45, true)⟩,
 ⟨.move, [.tmp 7], (some 47), some (45, true)⟩,
 ⟨(.callF 8), [.tmp 46, .tmp 47], (some 48), some (45, true)⟩,
 ⟨.pick, [.tmp 45, .tmp 48, .const (.bool false)], (some 49), none⟩,
 ⟨.move, [.tmp 49], (some 4), none⟩])
 .ret)))))))), [.tmp 4]⟩
theorem c4_ok : compFunc Try.prog Try.f4 = some c4 := by kernel_rfl
theorem c4_body : hasBody Try.prog 4 = true := hasBody_of Try.func4 (by kernel_rfl)
/-- coachyard/coachyardlaw17.awake -/
def c5 : PFn := ⟨18, Tr.ofList (List.replicate 18 undefA), (.seq (.seqR [⟨.move, [.const (.bool false)], (some 0), none⟩])
 (.seq (.seqR [⟨(.build [(.int .i64 0), (.int .i64 0), (.bool false), (.int .u64 0), (.int .i64 0)] [(2, 1), (3, 1)]), [.const (.bool true), .const (.int .u64 1)], (some 4), none⟩,
 ⟨(.build [(.int .i64 0), (.int .i64 0), (.bool false), (.int .u64 0), (.int .i64 0)] [(2, 1), (3, 1)]), [.const (.bool true), .const (.int .u64 2)], (some 5), none⟩,
 ⟨(.build [(.int .i64 0), (.int .i64 0), (.bool false), (.int .u64 0), (.int .i64 0)] [(3, 1)]), [.const (.int .u64 1)], (some 6), none⟩,
 ⟨(.sliceLit 3 [(.int .i64 0), (.int .i64 0), (.bool false), (.int .u64 0), (.int .i64 0), (.int .i64 0), (.int .i64 0), (.bool false), (.int .u64 0), (.int .i64 0), (.int .i64 0), (.int .i64 0), (.bool false), (.int .u64 0), (.int .i64 0)] [(0, 5), (5, 5), (10, 5)]), [.tmp 4, .tmp 5, .tmp 6], (some 7), none⟩,
 ⟨(.callF 9), [.const (.int .i64 2), .tmp 7], (some 8), none⟩,
 ⟨.move, [.tmp 8], (some 3), none⟩,
 ⟨(.extract 0), [.tmp 3], (some 9), none⟩,
 ⟨(.extract 1), [.tmp 3], (some 10), none⟩,
 ⟨.move, [.tmp 9], (some 1), none⟩,
 ⟨.move, [.tmp 10], (some 2), none⟩])
 (.seq (.seqR [⟨.move, [.tmp 2], (some 11), none⟩,
 ⟨(.bin .eql), [.tmp 11, .const (.int .i64 3)], (some 12), none⟩,
 ⟨.move, [.tmp 12], (some 13), none⟩,
 ⟨.move, [.tmp 1], (some 14), some (13, true)⟩,
 ⟨(.sliceLit 1 [(.int .u64 0)] [(0, 1)]), [.const (.int .u64 2)], (some 15), some (13, true)⟩,
 ⟨(.callF 8), [.tmp 14, .tmp 15], (some 16), some (13, true)⟩,
 ⟨.pick, [.tmp 13, .tmp 16, .const (.bool false)], (some 17), none⟩,
 ⟨.move, [.tmp 17], (some 0), none⟩])
 .ret))), [.tmp 0]⟩
theorem c5_ok : compFunc Try.prog Try.f5 = some c5 := by kernel_rfl
theorem c5_body : hasBody Try.prog 5 = true := hasBody_of Try.func5 (by kernel_rfl)
/-- coachyard/model.Apply -/
def c6 : PFn := ⟨55, Tr.ofList (List.replicate 55 undefA), (.seq (.seqR [⟨.box, [.tmp 2], (some 5), none⟩,
 ⟨.move, [.const (.slice none 0 0 false)], (some 6), none⟩,
 ⟨.move, [.const (.bool false)], (some 7), none⟩])
 (.seq (.seqR [⟨.move, [.tmp 0], (some 11), none⟩,
 ⟨(.callF 10), [.tmp 11], (some 12), none⟩,
 ⟨.move, [.tmp 12], (some 8), none⟩])
 (.seq (.seq (.seqR [⟨.move, [.tmp 8], (some 13), none⟩,
 ⟨(.eqNil 3 false), [.tmp 13, .const .nilIface], (some 14), none⟩])
 (.cond (.tmp 14) (.seq (.seqR [⟨.move, [.const (.slice none 0 0 false)], (some 6), none⟩,
 ⟨.move, [.const (.bool false)], (some 7), none⟩])
 .ret)
 .skip))
 (.seq (.seqR [⟨.move, [.tmp 1], (some 15), none⟩,
 ⟨(.callF 11), [.tmp 15], (some 16), none⟩,
 ⟨.move, [.tmp 16], (some 9), none⟩,
 ⟨.move, [.const (.bool true)], (some 10), none⟩])
 (.seq (.block 0 (.seq (.seqR [⟨(.fieldAddr 2), [.tmp 5], (some 18), none⟩,
 ⟨(.load false 1), [.tmp 18], (some 19), none⟩,
 ⟨.move, [.tmp 19], (some 20), none⟩,
 ⟨(.fieldAddr 4), [.tmp 5], (some 21), some (20, true)⟩,
 ⟨(.load false 1), [.tmp 21], (some 22), some (20, true)⟩,
 ⟨(.bin .eql), [.tmp 22, .const (.int .i64 0)], (some 23), some (20, true)⟩,
 ⟨.pick, [.tmp 20, .tmp 23, .const (.bool false)], (some 24), none⟩,
 ⟨.move, [.tmp 24], (some 17), none⟩])
 (.cond (.tmp 17) (.seqR [⟨.move, [.tmp 8], (some 25), none⟩,
 ⟨.move, [.tmp 1], (some 26), none⟩,
 ⟨(.fieldAddr 3), [.tmp 5], (some 27), none⟩,
 ⟨(.load false 1), [.tmp 27], (some 28), none⟩,
 ⟨(.invokeP [(46, 31), (51, 41)] [] [(47, 31, 0, 0, true), (48, 31, 0, 0, true), (49, 31, 0, 0, true), (50, 31, 0, 0, true)]), [.tmp 25, .tmp 26, .tmp 28], (some 29), none⟩,
 ⟨.move, [.tmp 29], (some 9), none⟩])
 (.seq (.seqR [⟨(.fieldAddr 2), [.tmp 5], (some 31), none⟩,
 ⟨(.load false 1), [.tmp 31], (some 32), none⟩,
 ⟨.move, [.tmp 32], (some 30), none⟩])
 (.cond (.tmp 30) .skip
 (.seq (.seqR [⟨(.fieldAddr 4), [.tmp 5], (some 34), none⟩,
 ⟨(.load false 1), [.tmp 34], (some 35), none⟩,
 ⟨(.bin .eql), [.tmp 35, .const (.int .i64 0)], (some 36), none⟩,
 ⟨.move, [.tmp 36], (some 33), none⟩])
 (.cond (.tmp 33) (.seqR [⟨.move, [.tmp 8], (some 38), none⟩,
 ⟨.move, [.tmp 1], (some 39), none⟩,
 ⟨(.fieldAddr 3), [.tmp 5], (some 40), none⟩,
 ⟨(.load false 1), [.tmp 40], (some 41), none⟩,
 ⟨(.invoke [(48, 33), (49, 37), (50, 38), (51, 42)] []), [.tmp 38, .tmp 39, .tmp 41], (some 42), none⟩,
 ⟨.move, [.tmp 42], (some 37), none⟩,
 ⟨(.extract 0), [.tmp 37], (some 43), none⟩,
 ⟨(.extract 1), [.tmp 37], (some 44), none⟩,
 ⟨.move, [.tmp 43], (some 9), none⟩,
 ⟨.move, [.tmp 44], (some 10), none⟩])
 (.seq (.seqR [⟨(.fieldAddr 4), [.tmp 5], (some 46), none⟩,
 ⟨(.load false 1), [.tmp 46], (some 47), none⟩,
 ⟨(.bin .eql), [.tmp 47, .const (.int .i64 5)], (some 48), none⟩,
 ⟨.move, [.tmp 48], (some 45), none⟩])
 (.cond (.tmp 45) (.seqR [⟨.move, [.tmp 8], (some 49), none⟩,
 ⟨.move, [.tmp 1], (some 50), none⟩,
 ⟨(.invokeP [(46, 29), (51, 39)] [] [(47, 29, 0, 0, true), (48, 29, 0, 0, true), (49, 29, 0, 0, true), (50, 29, 0, 0, true)]), [.tmp 49, .tmp 50], (some 51), none⟩,
 ⟨.move, [.tmp 51], (some 10), none⟩])
 .skip)))))))))
 (.seq (.seq (.seqR [⟨.move, [.tmp 10], (some 52), none⟩,
 ⟨.not, [.tmp 52], (some 53), none⟩])
 (.cond (.tmp 53) (.seq (.seqR [⟨.move, [.const (.slice none 0 0 false)], (some 6), none⟩,
 ⟨.move, [.const (.bool false)], (some 7), none⟩])
 .ret)
 .skip))
 (.seq (.seqR [⟨.move, [.tmp 9], (some 54), none⟩,
 ⟨.move, [.tmp 54], (some 6), none⟩,
 ⟨.move, [.const (.bool true)], (some 7), none⟩])
 .ret))))))), [.tmp 6, .tmp 7]⟩
theorem c6_ok : compFunc Try.prog Try.f6 = some c6 := by kernel_rfl
theorem c6_body : hasBody Try.prog 6 = true := hasBody_of Try.func6 (by kernel_rfl)
/-- coachyard/coachyardref17.Apply -/
def c7 : PFn := ⟨107, Tr.ofList (List.replicate 107 undefA), (.seq (.seqR [⟨.box, [.tmp 2], (some 5), none⟩,
 ⟨.move, [.const (.slice none 0 0 false)], (some 6), none⟩,
 ⟨.move, [.const (.bool false)], (some 7), none⟩])
 (.seq (.seq (.seqR [⟨.move, [.tmp 0], (some 9), none⟩,
 ⟨(.bin .lss), [.tmp 9, .const (.int .i64 1)], (some 10), none⟩,
 ⟨.move, [.tmp 10], (some 11), none⟩,
 ⟨.move, [.tmp 0], (some 12), some (11, false)⟩,
 ⟨(.bin .gtr), [.tmp 12, .const (.int .i64 4)], (some 13), some (11, false)⟩,
 ⟨.pick, [.tmp 11, .const (.bool true), .tmp 13], (some 14), none⟩])
 (.cond (.tmp 14) (.seq (.seqR [⟨.move, [.const (.slice none 0 0 false)], (some 6), none⟩,
 ⟨.move, [.const (.bool false)], (some 7), none⟩])
 .ret)
 .skip))
 (.seq (.seq (.seqR [⟨(.fieldAddr 4), [.tmp 5], (some 15), none⟩,
 ⟨(.load false 1), [.tmp 15], (some 16), none⟩,
 ⟨(.bin .neq), [.tmp 16, .const (.int .i64 0)], (some 17), none⟩,
 ⟨.move, [.tmp 17], (some 18), none⟩,
 ⟨(.fieldAddr 2), [.tmp 5], (some 19), some (18, true)⟩,
 ⟨(.load false 1), [.tmp 19], (some 20), some (18, true)⟩,
 ⟨.move, [.tmp 20], (some 21), some (18, true)⟩,
 ⟨(.fieldAddr 4), [.tmp 5], (some 22), some (21, false)⟩,
 ⟨(.load false 1), [.tmp 22], (some 23), some (21, false)⟩,
 ⟨(.bin .neq), [.tmp 23, .const (.int .i64 5)], (some 24), some (21, false)⟩,
 ⟨.pick, [.tmp 21, .const (.bool true), .tmp 24], (some 25), some (18, true)⟩,
 ⟨.pick, [.tmp 18, .tmp 25, .const (.bool false)], (some 26), none⟩])
 (.cond (.tmp 26) (.seq (.seqR [⟨(.sliceLit 0 [] []), [], (some 27), none⟩,
 ⟨.move, [.tmp 1], (some 28), none⟩,
 ⟨(.append 1 8), [.tmp 27, .tmp 28], (some 29), none⟩,
 ⟨.move, [.tmp 29], (some 6), none⟩,
 ⟨.move, [.const (.bool true)], (some 7), none⟩])
 .ret)
 .skip))
 (.seq (.seq (.seqR [⟨(.fieldAddr 2), [.tmp 5], (some 30), none⟩,
 ⟨(.load false 1), [.tmp 30], (some 31), none⟩])
 (.cond (.tmp 31) (.seq (.seq (.seqR [⟨.move, [.tmp 0], (some 32), none⟩,
 ⟨(.bin .eql), [.tmp 32, .const (.int .i64 4)], (some 33), none⟩])
 (.cond (.tmp 33) (.seq (.drawR [⟨⟨.move, [.tmp 1], (some 34), none⟩, false, false, 0, 0⟩,
 ⟨⟨(.callF 12), [.tmp 34], (some 35), none⟩, true, false, 0, 1⟩,
 ⟨⟨(.fieldAddr 3), [.tmp 5], (some 36), none⟩, false, false, 0, 1⟩,
 ⟨⟨(.load false 1), [.tmp 36], (some 37), none⟩, false, false, 0, 1⟩,
 ⟨⟨(.bin .add), [.tmp 35, .tmp 37], (some 38), none⟩, false, false, 1, 1⟩,
 ⟨⟨(.sliceLit 1 [(.int .u64 0)] [(0, 1)]), [.tmp 38], (some 39), none⟩, true, false, 1, 2⟩,
 ⟨⟨.move, [.tmp 39], (some 6), none⟩, false, false, 2, 2⟩,
 ⟨⟨.move, [.const (.bool true)], (some 7), none⟩, false, false, 2, 2⟩])
 .ret)
 .skip))
 (.seq (.drawR [⟨⟨(.sliceLit 0 [] []), [], (some 40), none⟩, true, false, 0, 1⟩,
 ⟨⟨.move, [.tmp 1], (some 41), none⟩, false, false, 0, 1⟩,
 ⟨⟨(.append 1 8), [.tmp 40, .tmp 41], (some 42), none⟩, true, false, 1, 3⟩,
 ⟨⟨(.fieldAddr 3), [.tmp 5], (some 43), none⟩, false, false, 0, 2⟩,
 ⟨⟨(.load false 1), [.tmp 43], (some 44), none⟩, false, false, 0, 2⟩,
 ⟨⟨(.sliceLit 1 [(.int .u64 0)] [(0, 1)]), [.tmp 44], (some 45), none⟩, true, true, 0, 3⟩,
 ⟨⟨(.append 1 8), [.tmp 42, .tmp 45], (some 46), none⟩, true, false, 3, 4⟩,
 ⟨⟨.move, [.tmp 46], (some 6), none⟩, false, false, 4, 4⟩,
 ⟨⟨.move, [.const (.bool true)], (some 7), none⟩, false, false, 4, 4⟩])
 .ret))
 .skip))
 (.seq (.seq (.seqR [⟨(.fieldAddr 4), [.tmp 5], (some 47), none⟩,
 ⟨(.load false 1), [.tmp 47], (some 48), none⟩,
 ⟨(.bin .eql), [.tmp 48, .const (.int .i64 5)], (some 49), none⟩])
 (.cond (.tmp 49) (.seq (.seqR [⟨(.sliceLit 0 [] []), [], (some 50), none⟩,
 ⟨.move, [.tmp 0], (some 51), none⟩,
 ⟨(.bin .neq), [.tmp 51, .const (.int .i64 4)], (some 52), none⟩,
 ⟨.move, [.tmp 52], (some 53), none⟩,
 ⟨.move, [.tmp 1], (some 54), some (53, true)⟩,
 ⟨.lenS, [.tmp 54], (some 55), some (53, true)⟩,
 ⟨(.bin .eql), [.tmp 55, .const (.int .i64 0)], (some 56), some (53, true)⟩,
 ⟨.pick, [.tmp 53, .tmp 56, .const (.bool false)], (some 57), none⟩,
 ⟨.move, [.tmp 50], (some 6), none⟩,
 ⟨.move, [.tmp 57], (some 7), none⟩])
 .ret)
 .skip))
 (.seq (.seq (.seqR [⟨.move, [.tmp 0], (some 58), none⟩,
 ⟨(.bin .eql), [.tmp 58, .const (.int .i64 4)], (some 59), none⟩])
 (.cond (.tmp 59) (.seq (.drawR [⟨⟨(.sliceLit 0 [] []), [], (some 60), none⟩, true, false, 0, 1⟩,
 ⟨⟨.move, [.tmp 1], (some 61), none⟩, false, false, 0, 1⟩,
 ⟨⟨(.append 1 8), [.tmp 60, .tmp 61], (some 62), none⟩, true, false, 1, 2⟩,
 ⟨⟨.move, [.tmp 1], (some 63), none⟩, false, false, 0, 2⟩,
 ⟨⟨(.callF 12), [.tmp 63], (some 64), none⟩, true, false, 2, 3⟩,
 ⟨⟨(.fieldAddr 3), [.tmp 5], (some 65), none⟩, false, false, 0, 3⟩,
 ⟨⟨(.load false 1), [.tmp 65], (some 66), none⟩, false, false, 0, 3⟩,
 ⟨⟨(.bin .eql), [.tmp 64, .tmp 66], (some 67), none⟩, false, false, 3, 3⟩,
 ⟨⟨.move, [.tmp 62], (some 6), none⟩, false, false, 3, 3⟩,
 ⟨⟨.move, [.tmp 67], (some 7), none⟩, false, false, 3, 3⟩])
 .ret)
 .skip))
 (.seq (.seq (.seqR [⟨.move, [.const (.int .i64 0)], (some 8), none⟩])
 (.block 0 (.loop (.seq (.seq (.seqR [⟨.move, [.tmp 8], (some 68), none⟩,
 ⟨.move, [.tmp 1], (some 69), none⟩,
 ⟨.lenS, [.tmp 69], (some 70), none⟩,
 ⟨(.bin .lss), [.tmp 68, .tmp 70], (some 71), none⟩])
 (.cond (.tmp 71) .skip
 (.exit 0)))
 (.seq (.block 1 (.seq (.drawR [⟨⟨.move, [.tmp 1], (some 74), none⟩, false, false, 0, 0⟩,
 ⟨⟨.move, [.tmp 8], (some 75), none⟩, false, false, 0, 0⟩,
 ⟨⟨(.indexAddrS 1), [.tmp 74, .tmp 75], (some 76), none⟩, false, false, 0, 0⟩,
 ⟨⟨(.load false 1), [.tmp 76], (some 77), none⟩, false, false, 0, 0⟩,
 ⟨⟨(.fieldAddr 3), [.tmp 5], (some 78), none⟩, false, false, 0, 0⟩,
 ⟨⟨(.load false 1), [.tmp 78], (some 79), none⟩, false, false, 0, 0⟩,
 ⟨⟨(.bin .eql), [.tmp 77, .tmp 79], (some 80), none⟩, false, false, 0, 0⟩,
 ⟨⟨.move, [.tmp 80], (some 81), none⟩, false, false, 0, 0⟩,
 ⟨⟨.move, [.tmp 0], (some 82), some (81, true)⟩, false, false, 0, 0⟩,
 ⟨⟨(.bin .eql), [.tmp 82, .const (.int .i64 1)], (some 83), some (81, true)⟩, false, false, 0, 0⟩,
 ⟨⟨.move, [.tmp 83], (some 84), some (81, true)⟩, false, false, 0, 0⟩,
 ⟨⟨.move, [.tmp 0], (some 85), some (84, false)⟩, false, false, 0, 0⟩,
 ⟨⟨(.bin .eql), [.tmp 85, .const (.int .i64 2)], (some 86), some (84, false)⟩, false, false, 0, 0⟩,
 ⟨⟨.move, [.tmp 86], (some 87), some (84, false)⟩, false, false, 0, 0⟩,
 ⟨⟨.move, [.tmp 8], (some 88), some (87, true)⟩, false, false, 0, 0⟩,
 ⟨⟨(.bin .eql), [.tmp 88, .const (.int .i64 0)], (some 89), some (87, true)⟩, false, false, 0, 0⟩,
 ⟨⟨.pick, [.tmp 87, .tmp 89, .const (.bool false)], (some 90), some (84, false)⟩, false, false, 0, 0⟩,
 ⟨⟨.pick, [.tmp 84, .const (.bool true), .tmp 90], (some 91), some (81, true)⟩, false, false, 0, 0⟩,
 ⟨⟨.move, [.tmp 91], (some 92), some (81, true)⟩, false, false, 0, 0⟩,
 ⟨⟨.move, [.tmp 0], (some 93), some (92, false)⟩, false, false, 0, 0⟩,
 ⟨⟨(.bin .eql), [.tmp 93, .const (.int .i64 3)], (some 94), some (92, false)⟩, false, false, 0, 0⟩,
 ⟨⟨.move, [.tmp 94], (some 95), some (92, false)⟩, false, false, 0, 0⟩,
 ⟨⟨.move, [.tmp 8], (some 96), some (95, true)⟩, false, false, 0, 0⟩,
 ⟨⟨.move, [.tmp 1], (some 97), some (95, true)⟩, false, false, 0, 0⟩,
 ⟨⟨.lenS, [.tmp 97], (some 98), some (95, true)⟩, false, false, 0, 0⟩,
 ⟨⟨(.bin .sub), [.tmp 98, .const (.int .i64 1)], (some 99), some (95, true)⟩, false, false, 0, 0⟩,
 ⟨⟨(.bin .eql), [.tmp 96, .tmp 99], (some 100), some (95, true)⟩, false, false, 0, 0⟩,
 ⟨⟨.pick, [.tmp 95, .tmp 100, .const (.bool false)], (some 101), some (92, false)⟩, false, false, 0, 0⟩,
 ⟨⟨.pick, [.tmp 92, .const (.bool true), .tmp 101], (some 102), some (81, true)⟩, false, false, 0, 0⟩,
 ⟨⟨.pick, [.tmp 81, .tmp 102, .const (.bool false)], (some 103), none⟩, false, false, 0, 0⟩])
 (.cond (.tmp 103) (.seq (.seqR [⟨.move, [.tmp 1], (some 104), none⟩,
 ⟨.move, [.tmp 8], (some 105), none⟩,
 ⟨(.callF 13), [.tmp 104, .tmp 105], (some 106), none⟩,
 ⟨.move, [.tmp 106], (some 6), none⟩,
 ⟨.move, [.const (.bool true)], (some 7), none⟩])
 .ret)
 .skip)))
 (.seqR [⟨.move, [.tmp 8], (some 72), none⟩,
 ⟨(.bin .add), [.tmp 72, .const (.int .i64 1)], (some 73), none⟩,
 ⟨.move, [.tmp 73], (some 8), none⟩]))))))
 (.seq (.seqR [⟨.move, [.const (.slice none 0 0 false)], (some 6), none⟩,
 ⟨.move, [.const (.bool false)], (some 7), none⟩])
 .ret)))))))), [.tmp 6, .tmp 7]⟩
theorem c7_ok : compFunc Try.prog Try.f7 = some c7 := by kernel_rfl
theorem c7_body : hasBody Try.prog 7 = true := hasBody_of Try.func7 (by kernel_rfl)
/-- coachyard/coachyardref01.Same -/
def c8 : PFn := ⟨26, Tr.ofList (List.replicate 26 undefA), (.seq (.seqR [⟨.move, [.const (.bool false)], (some 4), none⟩])
 (.seq (.seq (.seqR [⟨.move, [.tmp 0], (some 6), none⟩,
 ⟨.lenS, [.tmp 6], (some 7), none⟩,
 ⟨.move, [.tmp 1], (some 8), none⟩,
 ⟨.lenS, [.tmp 8], (some 9), none⟩,
 ⟨(.bin .neq), [.tmp 7, .tmp 9], (some 10), none⟩])
 (.cond (.tmp 10) (.seq (.seqR [⟨.move, [.const (.bool false)], (some 4), none⟩])
 .ret)
 .skip))
 (.seq (.seq (.seqR [⟨.move, [.const (.int .i64 0)], (some 5), none⟩])
 (.block 0 (.loop (.seq (.seq (.seqR [⟨.move, [.tmp 5], (some 11), none⟩,
 ⟨.move, [.tmp 0], (some 12), none⟩,
 ⟨.lenS, [.tmp 12], (some 13), none⟩,
 ⟨(.bin .lss), [.tmp 11, .tmp 13], (some 14), none⟩])
 (.cond (.tmp 14) .skip
 (.exit 0)))
 (.seq (.block 1 (.seq (.drawR [⟨⟨.move, [.tmp 0], (some 17), none⟩, false, false, 0, 0⟩,
 ⟨⟨.move, [.tmp 5], (some 18), none⟩, false, false, 0, 0⟩,
 ⟨⟨(.indexAddrS 1), [.tmp 17, .tmp 18], (some 19), none⟩, false, false, 0, 0⟩,
 ⟨⟨(.load false 1), [.tmp 19], (some 20), none⟩, false, false, 0, 0⟩,
 ⟨⟨.move, [.tmp 1], (some 21), none⟩, false, false, 0, 0⟩,
 ⟨⟨.move, [.tmp 5], (some 22), none⟩, false, false, 0, 0⟩,
 ⟨⟨(.indexAddrS 1), [.tmp 21, .tmp 22], (some 23), none⟩, false, false, 0, 0⟩,
 ⟨⟨(.load false 1), [.tmp 23], (some 24), none⟩, false, false, 0, 0⟩,
 ⟨⟨(.bin .neq), [.tmp 20, .tmp 24], (some 25), none⟩, false, false, 0, 0⟩])
 (.cond (.tmp 25) (.seq (.seqR [⟨.move, [.const (.bool false)], (some 4), none⟩])
 .ret)
 .skip)))
 (.seqR [⟨.move, [.tmp 5], (some 15), none⟩,
 ⟨(.bin .add), [.tmp 15, .const (.int .i64 1)], (some 16), none⟩,
 ⟨.move, [.tmp 16], (some 5), none⟩]))))))
 (.seq (.seqR [⟨.move, [.const (.bool true)], (some 4), none⟩])
 .ret)))), [.tmp 4]⟩
theorem c8_ok : compFunc Try.prog Try.f8 = some c8 := by kernel_rfl
theorem c8_body : hasBody Try.prog 8 = true := hasBody_of Try.func8 (by kernel_rfl)
/-- coachyard/model.Run -/
def c9 : PFn := ⟨34, Tr.ofList (List.replicate 34 undefA), (.seq (.seqR [⟨.move, [.const (.slice none 0 0 false)], (some 4), none⟩,
 ⟨.move, [.const (.int .i64 0)], (some 5), none⟩])
 (.seq (.seqR [⟨.move, [.const (.slice none 0 0 false)], (some 6), none⟩])
 (.seq (.seq (.seqR [⟨.move, [.tmp 1], (some 11), none⟩,
 ⟨.lenS, [.tmp 11], (some 12), none⟩,
 ⟨.move, [.const (.int .i64 0)], (some 13), none⟩])
 (.block 0 (.loop (.seq (.seqR [⟨(.bin .lss), [.tmp 13, .tmp 12], (some 14), none⟩])
 (.seq (.cond (.tmp 14) .skip
 (.exit 0))
 (.seq (.block 1 (.seq (.seqR [⟨.move, [.tmp 13], (some 15), none⟩,
 ⟨(.indexAddrS 5), [.tmp 11, .tmp 13], (some 16), none⟩,
 ⟨(.load true 5), [.tmp 16], (some 17), none⟩,
 ⟨(.new [(.int .i64 0), (.int .i64 0), (.bool false), (.int .u64 0), (.int .i64 0)]), [], (some 8), none⟩,
 ⟨.move, [.tmp 15], (some 7), none⟩,
 ⟨(.store 5), [.tmp 8, .tmp 17], none, none⟩])
 (.seq (.seqR [⟨.move, [.tmp 0], (some 19), none⟩,
 ⟨.move, [.tmp 6], (some 20), none⟩,
 ⟨(.load true 5), [.tmp 8], (some 21), none⟩,
 ⟨(.callF 6), [.tmp 19, .tmp 20, .tmp 21], (some 22), none⟩,
 ⟨.move, [.tmp 22], (some 18), none⟩,
 ⟨(.extract 0), [.tmp 18], (some 23), none⟩,
 ⟨(.extract 1), [.tmp 18], (some 24), none⟩,
 ⟨.move, [.tmp 23], (some 9), none⟩,
 ⟨.move, [.tmp 24], (some 10), none⟩])
 (.seq (.seq (.seqR [⟨.move, [.tmp 10], (some 25), none⟩,
 ⟨.not, [.tmp 25], (some 26), none⟩])
 (.cond (.tmp 26) (.seq (.seqR [⟨.move, [.tmp 6], (some 27), none⟩,
 ⟨.move, [.tmp 7], (some 28), none⟩,
 ⟨.move, [.tmp 27], (some 4), none⟩,
 ⟨.move, [.tmp 28], (some 5), none⟩])
 .ret)
 .skip))
 (.seqR [⟨.move, [.tmp 9], (some 29), none⟩,
 ⟨.move, [.tmp 29], (some 6), none⟩])))))
 (.seqR [⟨(.bin .add), [.tmp 13, .const (.int .i64 1)], (some 30), none⟩,
 ⟨.move, [.tmp 30], (some 13), none⟩])))))))
 (.seq (.seqR [⟨.move, [.tmp 6], (some 31), none⟩,
 ⟨.move, [.tmp 1], (some 32), none⟩,
 ⟨.lenS, [.tmp 32], (some 33), none⟩,
 ⟨.move, [.tmp 31], (some 4), none⟩,
 ⟨.move, [.tmp 33], (some 5), none⟩])
 .ret)))), [.tmp 4, .tmp 5]⟩
theorem c9_ok : compFunc Try.prog Try.f9 = some c9 := by kernel_rfl
theorem c9_body : hasBody Try.prog 9 = true := hasBody_of Try.func9 (by kernel_rfl)
/-- coachyard/model.of -/
def c10 : PFn := ⟨20, Tr.ofList (List.replicate 20 undefA), (.seq (.seqR [⟨.move, [.const .nilIface], (some 2), none⟩])
 (.seq (.seq (.seqR [⟨.move, [.tmp 0], (some 3), none⟩])
 (.block 0 (.seq (.seqR [⟨(.bin .eql), [.tmp 3, .const (.int .i64 1)], (some 5), none⟩,
 ⟨.move, [.tmp 5], (some 4), none⟩])
 (.cond (.tmp 4) (.seq (.seqR [⟨(.build [] []), [], (some 6), none⟩,
 ⟨(.mkIface 48), [.tmp 6], (some 7), none⟩,
 ⟨.move, [.tmp 7], (some 2), none⟩])
 .ret)
 (.seq (.seqR [⟨(.bin .eql), [.tmp 3, .const (.int .i64 2)], (some 9), none⟩,
 ⟨.move, [.tmp 9], (some 8), none⟩])
 (.cond (.tmp 8) (.seq (.seqR [⟨(.build [] []), [], (some 10), none⟩,
 ⟨(.mkIface 49), [.tmp 10], (some 11), none⟩,
 ⟨.move, [.tmp 11], (some 2), none⟩])
 .ret)
 (.seq (.seqR [⟨(.bin .eql), [.tmp 3, .const (.int .i64 3)], (some 13), none⟩,
 ⟨.move, [.tmp 13], (some 12), none⟩])
 (.cond (.tmp 12) (.seq (.seqR [⟨(.build [] []), [], (some 14), none⟩,
 ⟨(.mkIface 50), [.tmp 14], (some 15), none⟩,
 ⟨.move, [.tmp 15], (some 2), none⟩])
 .ret)
 (.seq (.seqR [⟨(.bin .eql), [.tmp 3, .const (.int .i64 4)], (some 17), none⟩,
 ⟨.move, [.tmp 17], (some 16), none⟩])
 (.cond (.tmp 16) (.seq (.seqR [⟨(.build [] []), [], (some 18), none⟩,
 ⟨(.mkIface 51), [.tmp 18], (some 19), none⟩,
 ⟨.move, [.tmp 19], (some 2), none⟩])
 .ret)
 .skip))))))))))
 (.seq (.seqR [⟨.move, [.const .nilIface], (some 2), none⟩])
 .ret))), [.tmp 2]⟩
theorem c10_ok : compFunc Try.prog Try.f10 = some c10 := by kernel_rfl
theorem c10_body : hasBody Try.prog 10 = true := hasBody_of Try.func10 (by kernel_rfl)
/-- slices.Clone[[]uint64,uint64] -/
def c11 : PFn := ⟨8, Tr.ofList (List.replicate 8 undefA), (.seq (.seqR [⟨.move, [.const (.slice none 0 0 false)], (some 2), none⟩])
 (.seq (.seq (.seqR [⟨.move, [.tmp 0], (some 3), none⟩,
 ⟨(.eqNil 0 false), [.tmp 3, .const (.slice none 0 0 false)], (some 4), none⟩])
 (.cond (.tmp 4) (.seq (.seqR [⟨.move, [.const (.slice none 0 0 false)], (some 2), none⟩])
 .ret)
 .skip))
 (.seq (.seqR [⟨(.sliceLit 0 [] []), [], (some 5), none⟩,
 ⟨.move, [.tmp 0], (some 6), none⟩,
 ⟨(.append 1 8), [.tmp 5, .tmp 6], (some 7), none⟩,
 ⟨.move, [.tmp 7], (some 2), none⟩])
 .ret))), [.tmp 2]⟩
theorem c11_ok : compFunc Try.prog Try.f11 = some c11 := by kernel_rfl
theorem c11_body : hasBody Try.prog 11 = true := hasBody_of Try.func11 (by kernel_rfl)
/-- coachyard/coachyardref17.sum -/
def c12 : PFn := ⟨18, Tr.ofList (List.replicate 18 undefA), (.seq (.seqR [⟨.move, [.const (.int .u64 0)], (some 2), none⟩])
 (.seq (.seqR [⟨.move, [.const (.int .u64 0)], (some 3), none⟩])
 (.seq (.seq (.seqR [⟨.move, [.const (.int .i64 0)], (some 4), none⟩])
 (.block 0 (.loop (.seq (.seq (.seqR [⟨.move, [.tmp 4], (some 5), none⟩,
 ⟨.move, [.tmp 0], (some 6), none⟩,
 ⟨.lenS, [.tmp 6], (some 7), none⟩,
 ⟨(.bin .lss), [.tmp 5, .tmp 7], (some 8), none⟩])
 (.cond (.tmp 8) .skip
 (.exit 0)))
 (.seq (.block 1 (.seqR [⟨.move, [.tmp 3], (some 11), none⟩,
 ⟨.move, [.tmp 0], (some 12), none⟩,
 ⟨.move, [.tmp 4], (some 13), none⟩,
 ⟨(.indexAddrS 1), [.tmp 12, .tmp 13], (some 14), none⟩,
 ⟨(.load false 1), [.tmp 14], (some 15), none⟩,
 ⟨(.bin .add), [.tmp 11, .tmp 15], (some 16), none⟩,
 ⟨.move, [.tmp 16], (some 3), none⟩]))
 (.seqR [⟨.move, [.tmp 4], (some 9), none⟩,
 ⟨(.bin .add), [.tmp 9, .const (.int .i64 1)], (some 10), none⟩,
 ⟨.move, [.tmp 10], (some 4), none⟩]))))))
 (.seq (.seqR [⟨.move, [.tmp 3], (some 17), none⟩,
 ⟨.move, [.tmp 17], (some 2), none⟩])
 .ret)))), [.tmp 2]⟩
theorem c12_ok : compFunc Try.prog Try.f12 = some c12 := by kernel_rfl
theorem c12_body : hasBody Try.prog 12 = true := hasBody_of Try.func12 (by kernel_rfl)
/-- coachyard/coachyardref17.without -/
def c13 : PFn := ⟨15, Tr.ofList (List.replicate 15 undefA), (.seq (.seqR [⟨.move, [.const (.slice none 0 0 false)], (some 4), none⟩])
 (.seq (.drawR [⟨⟨(.sliceLit 0 [] []), [], (some 5), none⟩, true, false, 0, 1⟩,
 ⟨⟨.move, [.tmp 0], (some 6), none⟩, false, false, 0, 1⟩,
 ⟨⟨.move, [.tmp 1], (some 7), none⟩, false, false, 0, 1⟩,
 ⟨⟨(.slice 1 false true false), [.tmp 6, .tmp 7], (some 8), none⟩, false, false, 0, 1⟩,
 ⟨⟨(.append 1 8), [.tmp 5, .tmp 8], (some 9), none⟩, true, false, 1, 2⟩,
 ⟨⟨.move, [.tmp 0], (some 10), none⟩, false, false, 0, 2⟩,
 ⟨⟨.move, [.tmp 1], (some 11), none⟩, false, false, 0, 2⟩,
 ⟨⟨(.bin .add), [.tmp 11, .const (.int .i64 1)], (some 12), none⟩, false, false, 0, 2⟩,
 ⟨⟨(.slice 1 true false false), [.tmp 10, .tmp 12], (some 13), none⟩, false, false, 0, 2⟩,
 ⟨⟨(.append 1 8), [.tmp 9, .tmp 13], (some 14), none⟩, true, false, 2, 3⟩,
 ⟨⟨.move, [.tmp 14], (some 4), none⟩, false, false, 3, 3⟩])
 .ret)), [.tmp 4]⟩
theorem c13_ok : compFunc Try.prog Try.f13 = some c13 := by kernel_rfl
theorem c13_body : hasBody Try.prog 13 = true := hasBody_of Try.func13 (by kernel_rfl)
/-- (coachyard/model.row).empty -/
def c29 : PFn := ⟨8, Tr.ofList (List.replicate 8 undefA), (.seq (.seqR [⟨.box, [.tmp 0], (some 2), none⟩,
 ⟨.move, [.const (.bool false)], (some 4), none⟩])
 (.seq (.seqR [⟨.move, [.tmp 1], (some 5), none⟩,
 ⟨.lenS, [.tmp 5], (some 6), none⟩,
 ⟨(.bin .eql), [.tmp 6, .const (.int .i64 0)], (some 7), none⟩,
 ⟨.move, [.tmp 7], (some 4), none⟩])
 .ret)), [.tmp 4]⟩
theorem c29_ok : compFunc Try.prog Try.f29 = some c29 := by kernel_rfl
theorem c29_body : hasBody Try.prog 29 = true := hasBody_of Try.func29 (by kernel_rfl)
/-- (coachyard/model.row).put -/
def c31 : PFn := ⟨12, Tr.ofList (List.replicate 12 undefA), (.seq (.seqR [⟨.box, [.tmp 0], (some 3), none⟩,
 ⟨.move, [.const (.slice none 0 0 false)], (some 6), none⟩])
 (.seq (.seqR [⟨.move, [.tmp 1], (some 7), none⟩,
 ⟨(.callF 11), [.tmp 7], (some 8), none⟩,
 ⟨.move, [.tmp 2], (some 9), none⟩,
 ⟨(.sliceLit 1 [(.int .u64 0)] [(0, 1)]), [.tmp 9], (some 10), none⟩,
 ⟨(.append 1 8), [.tmp 8, .tmp 10], (some 11), none⟩,
 ⟨.move, [.tmp 11], (some 6), none⟩])
 .ret)), [.tmp 6]⟩
theorem c31_ok : compFunc Try.prog Try.f31 = some c31 := by kernel_rfl
theorem c31_body : hasBody Try.prog 31 = true := hasBody_of Try.func31 (by kernel_rfl)
/-- (coachyard/model.bag).take -/
def c33 : PFn := ⟨16, Tr.ofList (List.replicate 16 undefA), (.seq (.seqR [⟨.box, [.tmp 0], (some 3), none⟩,
 ⟨.move, [.const (.slice none 0 0 false)], (some 6), none⟩,
 ⟨.move, [.const (.bool false)], (some 7), none⟩])
 (.seq (.seqR [⟨.move, [.tmp 1], (some 8), none⟩,
 ⟨.move, [.tmp 1], (some 9), none⟩,
 ⟨.move, [.tmp 2], (some 10), none⟩,
 ⟨(.callF 35), [.tmp 9, .tmp 10], (some 11), none⟩,
 ⟨.move, [.tmp 2], (some 12), none⟩,
 ⟨(.callF 34), [.tmp 8, .tmp 11, .tmp 12], (some 13), none⟩,
 ⟨(.extract 0), [.tmp 13], (some 14), none⟩,
 ⟨(.extract 1), [.tmp 13], (some 15), none⟩,
 ⟨.move, [.tmp 14], (some 6), none⟩,
 ⟨.move, [.tmp 15], (some 7), none⟩])
 .ret)), [.tmp 6, .tmp 7]⟩
theorem c33_ok : compFunc Try.prog Try.f33 = some c33 := by kernel_rfl
theorem c33_body : hasBody Try.prog 33 = true := hasBody_of Try.func33 (by kernel_rfl)
/-- coachyard/model.without -/
def c34 : PFn := ⟨30, Tr.ofList (List.replicate 30 undefA), (.seq (.seqR [⟨.move, [.const (.slice none 0 0 false)], (some 6), none⟩,
 ⟨.move, [.const (.bool false)], (some 7), none⟩])
 (.seq (.seq (.seqR [⟨.move, [.tmp 1], (some 8), none⟩,
 ⟨(.bin .lss), [.tmp 8, .const (.int .i64 0)], (some 9), none⟩,
 ⟨.move, [.tmp 9], (some 10), none⟩,
 ⟨.move, [.tmp 1], (some 11), some (10, false)⟩,
 ⟨.move, [.tmp 0], (some 12), some (10, false)⟩,
 ⟨.lenS, [.tmp 12], (some 13), some (10, false)⟩,
 ⟨(.bin .geq), [.tmp 11, .tmp 13], (some 14), some (10, false)⟩,
 ⟨.pick, [.tmp 10, .const (.bool true), .tmp 14], (some 15), none⟩,
 ⟨.move, [.tmp 15], (some 16), none⟩,
 ⟨.move, [.tmp 0], (some 17), some (16, false)⟩,
 ⟨.move, [.tmp 1], (some 18), some (16, false)⟩,
 ⟨(.indexAddrS 1), [.tmp 17, .tmp 18], (some 19), some (16, false)⟩,
 ⟨(.load false 1), [.tmp 19], (some 20), some (16, false)⟩,
 ⟨.move, [.tmp 2], (some 21), some (16, false)⟩,
 ⟨(.bin .neq), [.tmp 20, .tmp 21], (some 22), some (16, false)⟩,
 ⟨.pick, [.tmp 16, .const (.bool true), .tmp 22], (some 23), none⟩])
 (.cond (.tmp 23) (.seq (.seqR [⟨.move, [.const (.slice none 0 0 false)], (some 6), none⟩,
 ⟨.move, [.const (.bool false)], (some 7), none⟩])
 .ret)
 .skip))
 (.seq (.seqR [⟨.move, [.tmp 0], (some 24), none⟩,
 ⟨(.callF 11), [.tmp 24], (some 25), none⟩,
 ⟨.move, [.tmp 1], (some 26), none⟩,
 ⟨.move, [.tmp 1], (some 27), none⟩,
 ⟨(.bin .add), [.tmp 27, .const (.int .i64 1)], (some 28), none⟩,
 ⟨(.callF 36), [.tmp 25, .tmp 26, .tmp 28], (some 29), none⟩,
 ⟨.move, [.tmp 29], (some 6), none⟩,
 ⟨.move, [.const (.bool true)], (some 7), none⟩])
 .ret))), [.tmp 6, .tmp 7]⟩
theorem c34_ok : compFunc Try.prog Try.f34 = some c34 := by kernel_rfl
theorem c34_body : hasBody Try.prog 34 = true := hasBody_of Try.func34 (by kernel_rfl)
/-- slices.Index[[]uint64,uint64] -/
def c35 : PFn := ⟨19, Tr.ofList (List.replicate 19 undefA), (.seq (.seqR [⟨.move, [.const (.int .i64 0)], (some 4), none⟩])
 (.seq (.seq (.seqR [⟨.move, [.tmp 0], (some 6), none⟩,
 ⟨.lenS, [.tmp 6], (some 7), none⟩,
 ⟨.move, [.const (.int .i64 0)], (some 8), none⟩])
 (.block 0 (.loop (.seq (.seqR [⟨(.bin .lss), [.tmp 8, .tmp 7], (some 9), none⟩])
 (.seq (.cond (.tmp 9) .skip
 (.exit 0))
 (.seq (.block 1 (.seq (.seqR [⟨.move, [.tmp 8], (some 10), none⟩,
 ⟨.move, [.tmp 10], (some 5), none⟩])
 (.seq (.seqR [⟨.move, [.tmp 1], (some 11), none⟩,
 ⟨.move, [.tmp 0], (some 12), none⟩,
 ⟨.move, [.tmp 5], (some 13), none⟩,
 ⟨(.indexAddrS 1), [.tmp 12, .tmp 13], (some 14), none⟩,
 ⟨(.load false 1), [.tmp 14], (some 15), none⟩,
 ⟨(.bin .eql), [.tmp 11, .tmp 15], (some 16), none⟩])
 (.cond (.tmp 16) (.seq (.seqR [⟨.move, [.tmp 5], (some 17), none⟩,
 ⟨.move, [.tmp 17], (some 4), none⟩])
 .ret)
 .skip))))
 (.seqR [⟨(.bin .add), [.tmp 8, .const (.int .i64 1)], (some 18), none⟩,
 ⟨.move, [.tmp 18], (some 8), none⟩])))))))
 (.seq (.seqR [⟨.move, [.const (.int .i64 (-1))], (some 4), none⟩])
 .ret))), [.tmp 4]⟩
theorem c35_ok : compFunc Try.prog Try.f35 = some c35 := by kernel_rfl
theorem c35_body : hasBody Try.prog 35 = true := hasBody_of Try.func35 (by kernel_rfl)
/-- slices.Delete[[]uint64,uint64] -/
def c36 : PFn := ⟨33, Tr.ofList (List.replicate 33 undefA), (.seq (.seqR [⟨.move, [.const (.slice none 0 0 false)], (some 6), none⟩])
 (.seq (.seqR [⟨.move, [.tmp 0], (some 8), none⟩,
 ⟨.move, [.tmp 1], (some 9), none⟩,
 ⟨.move, [.tmp 2], (some 10), none⟩,
 ⟨.move, [.tmp 0], (some 11), none⟩,
 ⟨.lenS, [.tmp 11], (some 12), none⟩,
 ⟨(.slice 1 true true true), [.tmp 8, .tmp 9, .tmp 10, .tmp 12], (some 13), none⟩])
 (.seq (.seq (.seqR [⟨.move, [.tmp 1], (some 14), none⟩,
 ⟨.move, [.tmp 2], (some 15), none⟩,
 ⟨(.bin .eql), [.tmp 14, .tmp 15], (some 16), none⟩])
 (.cond (.tmp 16) (.seq (.seqR [⟨.move, [.tmp 0], (some 17), none⟩,
 ⟨.move, [.tmp 17], (some 6), none⟩])
 .ret)
 .skip))
 (.seq (.seqR [⟨.move, [.tmp 0], (some 18), none⟩,
 ⟨.lenS, [.tmp 18], (some 19), none⟩,
 ⟨.move, [.tmp 19], (some 7), none⟩])
 (.seq (.drawR [⟨⟨.move, [.tmp 0], (some 20), none⟩, false, false, 0, 0⟩,
 ⟨⟨.move, [.tmp 1], (some 21), none⟩, false, false, 0, 0⟩,
 ⟨⟨(.slice 1 false true false), [.tmp 20, .tmp 21], (some 22), none⟩, false, false, 0, 0⟩,
 ⟨⟨.move, [.tmp 0], (some 23), none⟩, false, false, 0, 0⟩,
 ⟨⟨.move, [.tmp 2], (some 24), none⟩, false, false, 0, 0⟩,
 ⟨⟨(.slice 1 true false false), [.tmp 23, .tmp 24], (some 25), none⟩, false, false, 0, 0⟩,
 ⟨⟨(.append 1 8), [.tmp 22, .tmp 25], (some 26), none⟩, true, false, 0, 1⟩,
 ⟨⟨.move, [.tmp 26], (some 0), none⟩, false, false, 1, 1⟩])
 (.seq (.seqR [⟨.move, [.tmp 0], (some 27), none⟩,
 ⟨.move, [.tmp 0], (some 28), none⟩,
 ⟨.lenS, [.tmp 28], (some 29), none⟩,
 ⟨.move, [.tmp 7], (some 30), none⟩,
 ⟨(.slice 1 true true false), [.tmp 27, .tmp 29, .tmp 30], (some 31), none⟩,
 ⟨(.clear 1 [(.int .u64 0)]), [.tmp 31], none, none⟩])
 (.seq (.seqR [⟨.move, [.tmp 0], (some 32), none⟩,
 ⟨.move, [.tmp 32], (some 6), none⟩])
 .ret))))))), [.tmp 6]⟩
theorem c36_ok : compFunc Try.prog Try.f36 = some c36 := by kernel_rfl
theorem c36_body : hasBody Try.prog 36 = true := hasBody_of Try.func36 (by kernel_rfl)
/-- (coachyard/model.fifo).take -/
def c37 : PFn := ⟨13, Tr.ofList (List.replicate 13 undefA), (.seq (.seqR [⟨.box, [.tmp 0], (some 3), none⟩,
 ⟨.move, [.const (.slice none 0 0 false)], (some 6), none⟩,
 ⟨.move, [.const (.bool false)], (some 7), none⟩])
 (.seq (.seqR [⟨.move, [.tmp 1], (some 8), none⟩,
 ⟨.move, [.tmp 2], (some 9), none⟩,
 ⟨(.callF 34), [.tmp 8, .const (.int .i64 0), .tmp 9], (some 10), none⟩,
 ⟨(.extract 0), [.tmp 10], (some 11), none⟩,
 ⟨(.extract 1), [.tmp 10], (some 12), none⟩,
 ⟨.move, [.tmp 11], (some 6), none⟩,
 ⟨.move, [.tmp 12], (some 7), none⟩])
 .ret)), [.tmp 6, .tmp 7]⟩
theorem c37_ok : compFunc Try.prog Try.f37 = some c37 := by kernel_rfl
theorem c37_body : hasBody Try.prog 37 = true := hasBody_of Try.func37 (by kernel_rfl)
/-- (coachyard/model.lifo).take -/
def c38 : PFn := ⟨16, Tr.ofList (List.replicate 16 undefA), (.seq (.seqR [⟨.box, [.tmp 0], (some 3), none⟩,
 ⟨.move, [.const (.slice none 0 0 false)], (some 6), none⟩,
 ⟨.move, [.const (.bool false)], (some 7), none⟩])
 (.seq (.seqR [⟨.move, [.tmp 1], (some 8), none⟩,
 ⟨.move, [.tmp 1], (some 9), none⟩,
 ⟨.lenS, [.tmp 9], (some 10), none⟩,
 ⟨(.bin .sub), [.tmp 10, .const (.int .i64 1)], (some 11), none⟩,
 ⟨.move, [.tmp 2], (some 12), none⟩,
 ⟨(.callF 34), [.tmp 8, .tmp 11, .tmp 12], (some 13), none⟩,
 ⟨(.extract 0), [.tmp 13], (some 14), none⟩,
 ⟨(.extract 1), [.tmp 13], (some 15), none⟩,
 ⟨.move, [.tmp 14], (some 6), none⟩,
 ⟨.move, [.tmp 15], (some 7), none⟩])
 .ret)), [.tmp 6, .tmp 7]⟩
theorem c38_ok : compFunc Try.prog Try.f38 = some c38 := by kernel_rfl
theorem c38_body : hasBody Try.prog 38 = true := hasBody_of Try.func38 (by kernel_rfl)
/-- (coachyard/model.count).empty -/
def c39 : PFn := ⟨5, Tr.ofList (List.replicate 5 undefA), (.seq (.seqR [⟨.box, [.tmp 0], (some 2), none⟩,
 ⟨.move, [.const (.bool false)], (some 4), none⟩])
 (.seq (.seqR [⟨.move, [.const (.bool false)], (some 4), none⟩])
 .ret)), [.tmp 4]⟩
theorem c39_ok : compFunc Try.prog Try.f39 = some c39 := by kernel_rfl
theorem c39_body : hasBody Try.prog 39 = true := hasBody_of Try.func39 (by kernel_rfl)
/-- (coachyard/model.count).put -/
def c41 : PFn := ⟨12, Tr.ofList (List.replicate 12 undefA), (.seq (.seqR [⟨.box, [.tmp 0], (some 3), none⟩,
 ⟨.move, [.const (.slice none 0 0 false)], (some 6), none⟩])
 (.seq (.seqR [⟨.move, [.tmp 1], (some 7), none⟩,
 ⟨(.callF 43), [.tmp 7], (some 8), none⟩,
 ⟨.move, [.tmp 2], (some 9), none⟩,
 ⟨(.bin .add), [.tmp 8, .tmp 9], (some 10), none⟩,
 ⟨(.sliceLit 1 [(.int .u64 0)] [(0, 1)]), [.tmp 10], (some 11), none⟩,
 ⟨.move, [.tmp 11], (some 6), none⟩])
 .ret)), [.tmp 6]⟩
theorem c41_ok : compFunc Try.prog Try.f41 = some c41 := by kernel_rfl
theorem c41_body : hasBody Try.prog 41 = true := hasBody_of Try.func41 (by kernel_rfl)
/-- (coachyard/model.count).take -/
def c42 : PFn := ⟨14, Tr.ofList (List.replicate 14 undefA), (.seq (.seqR [⟨.box, [.tmp 0], (some 3), none⟩,
 ⟨.move, [.const (.slice none 0 0 false)], (some 6), none⟩,
 ⟨.move, [.const (.bool false)], (some 7), none⟩])
 (.seq (.seqR [⟨.move, [.tmp 1], (some 8), none⟩,
 ⟨(.callF 11), [.tmp 8], (some 9), none⟩,
 ⟨.move, [.tmp 1], (some 10), none⟩,
 ⟨(.callF 43), [.tmp 10], (some 11), none⟩,
 ⟨.move, [.tmp 2], (some 12), none⟩,
 ⟨(.bin .eql), [.tmp 11, .tmp 12], (some 13), none⟩,
 ⟨.move, [.tmp 9], (some 6), none⟩,
 ⟨.move, [.tmp 13], (some 7), none⟩])
 .ret)), [.tmp 6, .tmp 7]⟩
theorem c42_ok : compFunc Try.prog Try.f42 = some c42 := by kernel_rfl
theorem c42_body : hasBody Try.prog 42 = true := hasBody_of Try.func42 (by kernel_rfl)
/-- coachyard/model.sum -/
def c43 : PFn := ⟨17, Tr.ofList (List.replicate 17 undefA), (.seq (.seqR [⟨.move, [.const (.int .u64 0)], (some 2), none⟩])
 (.seq (.seqR [⟨.move, [.const (.int .u64 0)], (some 3), none⟩])
 (.seq (.seq (.seqR [⟨.move, [.tmp 0], (some 6), none⟩,
 ⟨.lenS, [.tmp 6], (some 7), none⟩,
 ⟨.move, [.const (.int .i64 0)], (some 8), none⟩])
 (.block 0 (.loop (.seq (.seqR [⟨(.bin .lss), [.tmp 8, .tmp 7], (some 9), none⟩])
 (.seq (.cond (.tmp 9) .skip
 (.exit 0))
 (.seq (.block 1 (.seq (.seqR [⟨(.indexAddrS 1), [.tmp 6, .tmp 8], (some 10), none⟩,
 ⟨(.load false 1), [.tmp 10], (some 11), none⟩,
 ⟨.move, [.tmp 11], (some 5), none⟩])
 (.seqR [⟨.move, [.tmp 3], (some 12), none⟩,
 ⟨.move, [.tmp 5], (some 13), none⟩,
 ⟨(.bin .add), [.tmp 12, .tmp 13], (some 14), none⟩,
 ⟨.move, [.tmp 14], (some 3), none⟩])))
 (.seqR [⟨(.bin .add), [.tmp 8, .const (.int .i64 1)], (some 15), none⟩,
 ⟨.move, [.tmp 15], (some 8), none⟩])))))))
 (.seq (.seqR [⟨.move, [.tmp 3], (some 16), none⟩,
 ⟨.move, [.tmp 16], (some 2), none⟩])
 .ret)))), [.tmp 2]⟩
theorem c43_ok : compFunc Try.prog Try.f43 = some c43 := by kernel_rfl
theorem c43_body : hasBody Try.prog 43 = true := hasBody_of Try.func43 (by kernel_rfl)
end Go.Proofs.Ytefcnhmbpkdlmaa
