/- The code of the small machine for some of the program's functions: printed by program; each is what the rules make of the program's own. -/
import Derived.Test.YtmgfamnongagbaaGreatVx16
import Derived.Test.YtmgfamnongagbaaGreatProg
import Derived.KernelRfl
namespace Go.Proofs.YtmgfamnongagbaaGreat
open Go Go.Vx Go.Proofs
/-- (*coachyard/loom.Loom).check -/
def c44 : PFn := ⟨20, Tr.ofList (List.replicate 20 undefA), (.seq (.seqR [⟨.move, [.const (.int .i64 0)], (some 4), none⟩])
 (.seq (.block 0 (.seq (.seqR [⟨.move, [.tmp 0], (some 6), none⟩,
 ⟨(.eqPtr false), [.tmp 6, .const (.ptr none)], (some 7), none⟩,
 ⟨.move, [.tmp 7], (some 5), none⟩])
 (.cond (.tmp 5) (.seq (.seqR [⟨.move, [.const (.int .i64 1)], (some 4), none⟩])
 .ret)
 (.seq (.seqR [⟨.move, [.tmp 1], (some 9), none⟩,
 ⟨(.bin .lss), [.tmp 9, .const (.int .i64 0)], (some 10), none⟩,
 ⟨.move, [.tmp 10], (some 11), none⟩,
 ⟨.move, [.tmp 1], (some 12), some (11, false)⟩,
 ⟨.move, [.tmp 0], (some 13), some (11, false)⟩,
 ⟨.nilCheck, [.tmp 13], (some 14), some (11, false)⟩,
 ⟨(.fieldAddr 1), [.tmp 14], (some 15), some (11, false)⟩,
 ⟨(.load false 1), [.tmp 15], (some 16), some (11, false)⟩,
 ⟨.lenS, [.tmp 16], (some 17), some (11, false)⟩,
 ⟨(.bin .geq), [.tmp 12, .tmp 17], (some 18), some (11, false)⟩,
 ⟨.pick, [.tmp 11, .const (.bool true), .tmp 18], (some 19), none⟩,
 ⟨.move, [.tmp 19], (some 8), none⟩])
 (.cond (.tmp 8) (.seq (.seqR [⟨.move, [.const (.int .i64 3)], (some 4), none⟩])
 .ret)
 .skip)))))
 (.seq (.seqR [⟨.move, [.const (.int .i64 0)], (some 4), none⟩])
 .ret))), [.tmp 4]⟩
theorem c44_ok : compFunc Tryz.prog Tryz.f44 = some c44 := by kernel_rfl
theorem c44_body : hasBody Tryz.prog 44 = true := hasBody_of Tryz.func44 (by kernel_rfl)
/-- (*coachyard/loom.Loom).Busy -/
def c45 : PFn := ⟨34, Tr.ofList (List.replicate 34 undefA), (.seq (.seqR [⟨.move, [.const (.bool false)], (some 4), none⟩])
 (.seq (.seq (.seqR [⟨.move, [.tmp 0], (some 7), none⟩,
 ⟨.move, [.tmp 1], (some 8), none⟩,
 ⟨(.callF 44), [.tmp 7, .tmp 8], (some 9), none⟩,
 ⟨(.bin .neq), [.tmp 9, .const (.int .i64 0)], (some 10), none⟩,
 ⟨.move, [.tmp 10], (some 11), none⟩,
 ⟨.move, [.tmp 0], (some 12), some (11, false)⟩,
 ⟨.nilCheck, [.tmp 12], (some 13), some (11, false)⟩,
 ⟨(.fieldAddr 1), [.tmp 13], (some 14), some (11, false)⟩,
 ⟨(.load false 1), [.tmp 14], (some 15), some (11, false)⟩,
 ⟨.move, [.tmp 1], (some 16), some (11, false)⟩,
 ⟨(.indexAddrS 1), [.tmp 15, .tmp 16], (some 17), some (11, false)⟩,
 ⟨(.load false 1), [.tmp 17], (some 18), some (11, false)⟩,
 ⟨(.eqPtr false), [.tmp 18, .const (.ptr none)], (some 19), some (11, false)⟩,
 ⟨.pick, [.tmp 11, .const (.bool true), .tmp 19], (some 20), none⟩])
 (.cond (.tmp 20) (.seq (.seqR [⟨.move, [.const (.bool false)], (some 4), none⟩])
 .ret)
 .skip))
 (.seq (.seqR [⟨.move, [.tmp 0], (some 22), none⟩,
 ⟨.nilCheck, [.tmp 22], (some 23), none⟩,
 ⟨(.fieldAddr 1), [.tmp 23], (some 24), none⟩,
 ⟨(.load false 1), [.tmp 24], (some 25), none⟩,
 ⟨.move, [.tmp 1], (some 26), none⟩,
 ⟨(.indexAddrS 1), [.tmp 25, .tmp 26], (some 27), none⟩,
 ⟨(.load false 1), [.tmp 27], (some 28), none⟩,
 ⟨(.callF 21), [.tmp 28], (some 29), none⟩,
 ⟨.move, [.tmp 29], (some 21), none⟩,
 ⟨(.extract 0), [.tmp 21], (some 30), none⟩,
 ⟨(.extract 1), [.tmp 21], (some 31), none⟩,
 ⟨(.new [(.int .i64 0), (.int .u64 0), (.slice none 0 0 false)]), [], (some 5), none⟩,
 ⟨(.store 3), [.tmp 5, .tmp 30], none, none⟩,
 ⟨.move, [.tmp 31], (some 6), none⟩])
 (.seq (.seqR [⟨.move, [.tmp 6], (some 32), none⟩,
 ⟨.not, [.tmp 32], (some 33), none⟩,
 ⟨.move, [.tmp 33], (some 4), none⟩])
 .ret)))), [.tmp 4]⟩
theorem c45_ok : compFunc Tryz.prog Tryz.f45 = some c45 := by kernel_rfl
theorem c45_body : hasBody Tryz.prog 45 = true := hasBody_of Tryz.func45 (by kernel_rfl)
/-- (*coachyard/loom.Loom).wants -/
def c46 : PFn := ⟨60, Tr.ofList (List.replicate 60 undefA), (.seq (.seqR [⟨(.new [(.int .i64 0), (.int .i64 0), (.int .u64 0), (.int .u64 0)]), [], (some 4), none⟩,
 ⟨.move, [.const (.int .i64 0)], (some 5), none⟩])
 (.seq (.seq (.seqR [⟨.move, [.tmp 0], (some 12), none⟩,
 ⟨.move, [.tmp 1], (some 13), none⟩,
 ⟨(.callF 44), [.tmp 12, .tmp 13], (some 14), none⟩,
 ⟨.move, [.tmp 14], (some 6), none⟩])
 (.seq (.seqR [⟨.move, [.tmp 6], (some 15), none⟩,
 ⟨(.bin .neq), [.tmp 15, .const (.int .i64 0)], (some 16), none⟩])
 (.cond (.tmp 16) (.seq (.seqR [⟨(.build [(.int .i64 0), (.int .i64 0), (.int .u64 0), (.int .u64 0)] []), [], (some 17), none⟩,
 ⟨.move, [.tmp 6], (some 18), none⟩,
 ⟨(.store 4), [.tmp 4, .tmp 17], none, none⟩,
 ⟨.move, [.tmp 18], (some 5), none⟩])
 .ret)
 .skip)))
 (.seq (.seqR [⟨.move, [.tmp 0], (some 20), none⟩,
 ⟨.nilCheck, [.tmp 20], (some 21), none⟩,
 ⟨(.fieldAddr 1), [.tmp 21], (some 22), none⟩,
 ⟨(.load false 1), [.tmp 22], (some 23), none⟩,
 ⟨.move, [.tmp 1], (some 24), none⟩,
 ⟨(.indexAddrS 1), [.tmp 23, .tmp 24], (some 25), none⟩,
 ⟨(.load false 1), [.tmp 25], (some 26), none⟩,
 ⟨(.callF 20), [.tmp 26], (some 27), none⟩,
 ⟨.move, [.tmp 27], (some 19), none⟩,
 ⟨(.extract 0), [.tmp 19], (some 28), none⟩,
 ⟨(.extract 1), [.tmp 19], (some 29), none⟩,
 ⟨(.new [(.int .i64 0), (.int .i64 0), (.int .u64 0), (.int .u64 0)]), [], (some 7), none⟩,
 ⟨(.store 4), [.tmp 7, .tmp 28], none, none⟩,
 ⟨.move, [.tmp 29], (some 8), none⟩])
 (.seq (.seq (.seqR [⟨.move, [.tmp 8], (some 30), none⟩,
 ⟨.not, [.tmp 30], (some 31), none⟩,
 ⟨.move, [.tmp 31], (some 32), none⟩,
 ⟨.move, [.tmp 0], (some 33), some (32, false)⟩,
 ⟨.move, [.tmp 1], (some 34), some (32, false)⟩,
 ⟨(.callF 45), [.tmp 33, .tmp 34], (some 35), some (32, false)⟩,
 ⟨.not, [.tmp 35], (some 36), some (32, false)⟩,
 ⟨.pick, [.tmp 32, .const (.bool true), .tmp 36], (some 37), none⟩])
 (.cond (.tmp 37) (.seq (.seqR [⟨(.build [(.int .i64 0), (.int .i64 0), (.int .u64 0), (.int .u64 0)] []), [], (some 38), none⟩,
 ⟨(.store 4), [.tmp 4, .tmp 38], none, none⟩,
 ⟨.move, [.const (.int .i64 10)], (some 5), none⟩])
 .ret)
 .skip))
 (.seq (.seq (.seqR [⟨(.fieldAddr 0), [.tmp 7], (some 39), none⟩,
 ⟨(.load false 1), [.tmp 39], (some 40), none⟩,
 ⟨(.bin .eql), [.tmp 40, .const (.int .i64 7)], (some 41), none⟩])
 (.cond (.tmp 41) (.seq (.drawR [⟨⟨.move, [.tmp 0], (some 43), none⟩, false, false, 0, 0⟩,
 ⟨⟨.nilCheck, [.tmp 43], (some 44), none⟩, false, false, 0, 0⟩,
 ⟨⟨(.fieldAddr 0), [.tmp 44], (some 45), none⟩, false, false, 0, 0⟩,
 ⟨⟨(.load false 1), [.tmp 45], (some 46), none⟩, false, false, 0, 0⟩,
 ⟨⟨(.load true 4), [.tmp 7], (some 47), none⟩, false, false, 0, 0⟩,
 ⟨⟨(.callF 42), [.tmp 46, .tmp 47], (some 48), none⟩, true, false, 0, 1⟩,
 ⟨⟨.move, [.tmp 48], (some 42), none⟩, false, false, 1, 1⟩,
 ⟨⟨(.extract 0), [.tmp 42], (some 49), none⟩, false, false, 1, 1⟩,
 ⟨⟨(.extract 1), [.tmp 42], (some 50), none⟩, false, false, 1, 1⟩,
 ⟨⟨(.extract 2), [.tmp 42], (some 51), none⟩, false, false, 1, 1⟩,
 ⟨⟨.move, [.tmp 49], (some 9), none⟩, false, false, 1, 1⟩,
 ⟨⟨.move, [.tmp 50], (some 10), none⟩, false, false, 1, 1⟩,
 ⟨⟨.move, [.tmp 51], (some 11), none⟩, false, false, 1, 1⟩])
 (.seq (.seqR [⟨.move, [.tmp 11], (some 52), none⟩,
 ⟨(.bin .eql), [.tmp 52, .const (.int .i64 0)], (some 53), none⟩,
 ⟨.move, [.tmp 53], (some 54), none⟩,
 ⟨.move, [.tmp 10], (some 55), some (54, true)⟩,
 ⟨.not, [.tmp 55], (some 56), some (54, true)⟩,
 ⟨.pick, [.tmp 54, .tmp 56, .const (.bool false)], (some 57), none⟩])
 (.cond (.tmp 57) (.seq (.seqR [⟨(.load true 4), [.tmp 7], (some 58), none⟩,
 ⟨(.store 4), [.tmp 4, .tmp 58], none, none⟩,
 ⟨.move, [.const (.int .i64 11)], (some 5), none⟩])
 .ret)
 .skip)))
 .skip))
 (.seq (.seqR [⟨(.load true 4), [.tmp 7], (some 59), none⟩,
 ⟨(.store 4), [.tmp 4, .tmp 59], none, none⟩,
 ⟨.move, [.const (.int .i64 0)], (some 5), none⟩])
 .ret)))))), [.cell 4 true 4, .tmp 5]⟩
theorem c46_ok : compFunc Tryz.prog Tryz.f46 = some c46 := by kernel_rfl
theorem c46_body : hasBody Tryz.prog 46 = true := hasBody_of Tryz.func46 (by kernel_rfl)
/-- (*coachyard/loom.Loom).Pick -/
def c47 : PFn := ⟨55, Tr.ofList (List.replicate 55 undefA), (.seq (.seqR [⟨.move, [.const (.int .i64 0)], (some 4), none⟩])
 (.seq (.seqR [⟨.move, [.tmp 0], (some 10), none⟩,
 ⟨.move, [.tmp 1], (some 11), none⟩,
 ⟨(.callF 46), [.tmp 10, .tmp 11], (some 12), none⟩,
 ⟨.move, [.tmp 12], (some 9), none⟩,
 ⟨(.extract 0), [.tmp 9], (some 13), none⟩,
 ⟨(.extract 1), [.tmp 9], (some 14), none⟩,
 ⟨(.new [(.int .i64 0), (.int .i64 0), (.int .u64 0), (.int .u64 0)]), [], (some 5), none⟩,
 ⟨(.store 4), [.tmp 5, .tmp 13], none, none⟩,
 ⟨.move, [.tmp 14], (some 6), none⟩])
 (.seq (.seq (.seqR [⟨.move, [.tmp 6], (some 15), none⟩,
 ⟨(.bin .neq), [.tmp 15, .const (.int .i64 0)], (some 16), none⟩])
 (.cond (.tmp 16) (.seq (.seqR [⟨.move, [.tmp 6], (some 17), none⟩,
 ⟨.move, [.tmp 17], (some 4), none⟩])
 .ret)
 .skip))
 (.seq (.seqR [⟨.move, [.tmp 0], (some 18), none⟩,
 ⟨.nilCheck, [.tmp 18], (some 19), none⟩,
 ⟨(.fieldAddr 2), [.tmp 19], (some 20), none⟩,
 ⟨(.load false 1), [.tmp 20], (some 21), none⟩,
 ⟨(.bin .add), [.tmp 21, .const (.int .i64 1)], (some 22), none⟩,
 ⟨.nilCheck, [.tmp 18], (some 23), none⟩,
 ⟨(.fieldAddr 2), [.tmp 23], (some 24), none⟩,
 ⟨(.store 1), [.tmp 24, .tmp 22], none, none⟩])
 (.seq (.drawR [⟨⟨.move, [.tmp 0], (some 26), none⟩, false, false, 0, 0⟩,
 ⟨⟨.nilCheck, [.tmp 26], (some 27), none⟩, false, false, 0, 0⟩,
 ⟨⟨(.fieldAddr 0), [.tmp 27], (some 28), none⟩, false, false, 0, 0⟩,
 ⟨⟨(.load false 1), [.tmp 28], (some 29), none⟩, false, false, 0, 0⟩,
 ⟨⟨(.load true 4), [.tmp 5], (some 30), none⟩, false, false, 0, 0⟩,
 ⟨⟨(.callF 42), [.tmp 29, .tmp 30], (some 31), none⟩, true, false, 0, 1⟩,
 ⟨⟨.move, [.tmp 31], (some 25), none⟩, false, false, 1, 1⟩,
 ⟨⟨(.extract 0), [.tmp 25], (some 32), none⟩, false, false, 1, 1⟩,
 ⟨⟨(.extract 1), [.tmp 25], (some 33), none⟩, false, false, 1, 1⟩,
 ⟨⟨(.extract 2), [.tmp 25], (some 34), none⟩, false, false, 1, 1⟩,
 ⟨⟨.move, [.tmp 32], (some 7), none⟩, false, false, 1, 1⟩,
 ⟨⟨.move, [.tmp 33], (some 8), none⟩, false, false, 1, 1⟩,
 ⟨⟨.move, [.tmp 34], (some 6), none⟩, false, false, 1, 1⟩])
 (.seq (.seq (.seqR [⟨.move, [.tmp 6], (some 35), none⟩,
 ⟨(.bin .neq), [.tmp 35, .const (.int .i64 0)], (some 36), none⟩])
 (.cond (.tmp 36) (.seq (.seqR [⟨.move, [.tmp 0], (some 37), none⟩,
 ⟨.nilCheck, [.tmp 37], (some 38), none⟩,
 ⟨(.fieldAddr 1), [.tmp 38], (some 39), none⟩,
 ⟨(.load false 1), [.tmp 39], (some 40), none⟩,
 ⟨.move, [.tmp 1], (some 41), none⟩,
 ⟨(.indexAddrS 1), [.tmp 40, .tmp 41], (some 42), none⟩,
 ⟨(.load false 1), [.tmp 42], (some 43), none⟩,
 ⟨(.callF 53), [.tmp 43, .const (.int .i64 9)], (some 44), none⟩])
 (.seq (.seqR [⟨.move, [.const (.int .i64 9)], (some 4), none⟩])
 .ret))
 .skip))
 (.seq (.seqR [⟨.move, [.tmp 0], (some 45), none⟩,
 ⟨.nilCheck, [.tmp 45], (some 46), none⟩,
 ⟨(.fieldAddr 1), [.tmp 46], (some 47), none⟩,
 ⟨(.load false 1), [.tmp 47], (some 48), none⟩,
 ⟨.move, [.tmp 1], (some 49), none⟩,
 ⟨(.indexAddrS 1), [.tmp 48, .tmp 49], (some 50), none⟩,
 ⟨(.load false 1), [.tmp 50], (some 51), none⟩,
 ⟨.move, [.tmp 7], (some 52), none⟩,
 ⟨.move, [.tmp 8], (some 53), none⟩,
 ⟨(.callF 25), [.tmp 51, .tmp 52, .tmp 53], (some 54), none⟩])
 (.seq (.seqR [⟨.move, [.const (.int .i64 0)], (some 4), none⟩])
 .ret)))))))), [.tmp 4]⟩
theorem c47_ok : compFunc Tryz.prog Tryz.f47 = some c47 := by kernel_rfl
theorem c47_body : hasBody Tryz.prog 47 = true := hasBody_of Tryz.func47 (by kernel_rfl)
/-- slices.Clone[[]uint64,uint64] -/
def c48 : PFn := ⟨8, Tr.ofList (List.replicate 8 undefA), (.seq (.seqR [⟨.move, [.const (.slice none 0 0 false)], (some 2), none⟩])
 (.seq (.seq (.seqR [⟨.move, [.tmp 0], (some 3), none⟩,
 ⟨(.eqNil 0 false), [.tmp 3, .const (.slice none 0 0 false)], (some 4), none⟩])
 (.cond (.tmp 4) (.seq (.seqR [⟨.move, [.const (.slice none 0 0 false)], (some 2), none⟩])
 .ret)
 .skip))
 (.seq (.seqR [⟨(.sliceLit 0 [] []), [], (some 5), none⟩,
 ⟨.move, [.tmp 0], (some 6), none⟩,
 ⟨(.append 1 8), [.tmp 5, .tmp 6], (some 7), none⟩,
 ⟨.move, [.tmp 7], (some 2), none⟩])
 .ret))), [.tmp 2]⟩
theorem c48_ok : compFunc Tryz.prog Tryz.f48 = some c48 := by kernel_rfl
theorem c48_body : hasBody Tryz.prog 48 = true := hasBody_of Tryz.func48 (by kernel_rfl)
/-- slices.Concat[[]uint64,uint64] -/
def c49 : PFn := ⟨36, Tr.ofList (List.replicate 36 undefA), (.seq (.seqR [⟨.move, [.const (.slice none 0 0 false)], (some 2), none⟩])
 (.seq (.seqR [⟨.move, [.const (.int .i64 0)], (some 3), none⟩])
 (.seq (.seq (.seqR [⟨.move, [.tmp 0], (some 9), none⟩,
 ⟨.lenS, [.tmp 9], (some 10), none⟩,
 ⟨.move, [.const (.int .i64 0)], (some 11), none⟩])
 (.block 0 (.loop (.seq (.seqR [⟨(.bin .lss), [.tmp 11, .tmp 10], (some 12), none⟩])
 (.seq (.cond (.tmp 12) .skip
 (.exit 0))
 (.seq (.block 1 (.seq (.seqR [⟨(.indexAddrS 1), [.tmp 9, .tmp 11], (some 13), none⟩,
 ⟨(.load false 1), [.tmp 13], (some 14), none⟩,
 ⟨.move, [.tmp 14], (some 5), none⟩])
 (.seq (.seqR [⟨.move, [.tmp 3], (some 15), none⟩,
 ⟨.move, [.tmp 5], (some 16), none⟩,
 ⟨.lenS, [.tmp 16], (some 17), none⟩,
 ⟨(.bin .add), [.tmp 15, .tmp 17], (some 18), none⟩,
 ⟨.move, [.tmp 18], (some 3), none⟩])
 (.seq (.seqR [⟨.move, [.tmp 3], (some 19), none⟩,
 ⟨(.bin .lss), [.tmp 19, .const (.int .i64 0)], (some 20), none⟩])
 (.cond (.tmp 20) .fail
 .skip)))))
 (.seqR [⟨(.bin .add), [.tmp 11, .const (.int .i64 1)], (some 22), none⟩,
 ⟨.move, [.tmp 22], (some 11), none⟩])))))))
 (.seq (.seqR [⟨.move, [.tmp 3], (some 23), none⟩,
 ⟨(.callF 78), [.const (.slice none 0 0 false), .tmp 23], (some 24), none⟩,
 ⟨.move, [.tmp 24], (some 6), none⟩])
 (.seq (.seq (.seqR [⟨.move, [.tmp 0], (some 25), none⟩,
 ⟨.lenS, [.tmp 25], (some 26), none⟩,
 ⟨.move, [.const (.int .i64 0)], (some 27), none⟩])
 (.block 2 (.loop (.seq (.seqR [⟨(.bin .lss), [.tmp 27, .tmp 26], (some 28), none⟩])
 (.seq (.cond (.tmp 28) .skip
 (.exit 2))
 (.seq (.block 3 (.seq (.seqR [⟨(.indexAddrS 1), [.tmp 25, .tmp 27], (some 29), none⟩,
 ⟨(.load false 1), [.tmp 29], (some 30), none⟩,
 ⟨.move, [.tmp 30], (some 8), none⟩])
 (.seqR [⟨.move, [.tmp 6], (some 31), none⟩,
 ⟨.move, [.tmp 8], (some 32), none⟩,
 ⟨(.append 1 8), [.tmp 31, .tmp 32], (some 33), none⟩,
 ⟨.move, [.tmp 33], (some 6), none⟩])))
 (.seqR [⟨(.bin .add), [.tmp 27, .const (.int .i64 1)], (some 34), none⟩,
 ⟨.move, [.tmp 34], (some 27), none⟩])))))))
 (.seq (.seqR [⟨.move, [.tmp 6], (some 35), none⟩,
 ⟨.move, [.tmp 35], (some 2), none⟩])
 .ret)))))), [.tmp 2]⟩
theorem c49_ok : compFunc Tryz.prog Tryz.f49 = some c49 := by kernel_rfl
theorem c49_body : hasBody Tryz.prog 49 = true := hasBody_of Tryz.func49 (by kernel_rfl)
/-- (*coachyard/walk.Walk).leave -/
def c50 : PFn := ⟨41, Tr.ofList (List.replicate 41 undefA), (.seq (.seqR [⟨(.build [(.int .i64 0), (.int .u64 0), (.slice none 0 0 false)] [(0, 1)]), [.const (.int .i64 1)], (some 4), none⟩,
 ⟨(.new [(.int .i64 0), (.int .u64 0), (.slice none 0 0 false)]), [], (some 2), none⟩,
 ⟨(.store 3), [.tmp 2, .tmp 4], none, none⟩])
 (.seq (.seq (.seqR [⟨.move, [.tmp 0], (some 5), none⟩,
 ⟨.nilCheck, [.tmp 5], (some 6), none⟩,
 ⟨(.fieldAddr 6), [.tmp 6], (some 7), none⟩,
 ⟨(.load false 1), [.tmp 7], (some 8), none⟩,
 ⟨(.eqPtr true), [.tmp 8, .const (.ptr none)], (some 9), none⟩])
 (.cond (.tmp 9) (.seq (.seq (.seqR [⟨.move, [.tmp 0], (some 10), none⟩,
 ⟨.nilCheck, [.tmp 10], (some 11), none⟩,
 ⟨(.fieldAddr 6), [.tmp 11], (some 12), none⟩,
 ⟨(.load false 1), [.tmp 12], (some 13), none⟩,
 ⟨.nilCheck, [.tmp 13], (some 14), none⟩,
 ⟨(.fieldAddr 8), [.tmp 14], (some 15), none⟩,
 ⟨(.load false 1), [.tmp 15], (some 16), none⟩,
 ⟨.not, [.tmp 16], (some 17), none⟩])
 (.cond (.tmp 17) .ret
 .skip))
 (.seqR [⟨.move, [.tmp 0], (some 19), none⟩,
 ⟨.nilCheck, [.tmp 19], (some 20), none⟩,
 ⟨(.fieldAddr 6), [.tmp 20], (some 21), none⟩,
 ⟨(.load false 1), [.tmp 21], (some 22), none⟩,
 ⟨(.callF 21), [.tmp 22], (some 23), none⟩,
 ⟨.move, [.tmp 23], (some 18), none⟩,
 ⟨(.extract 0), [.tmp 18], (some 24), none⟩,
 ⟨(.extract 1), [.tmp 18], (some 25), none⟩,
 ⟨(.store 3), [.tmp 2, .tmp 24], none, none⟩]))
 .skip))
 (.seq (.seqR [⟨.move, [.tmp 0], (some 26), none⟩,
 ⟨.nilCheck, [.tmp 26], (some 27), none⟩,
 ⟨(.fieldAddr 7), [.tmp 27], (some 28), none⟩,
 ⟨(.load false 1), [.tmp 28], (some 29), none⟩,
 ⟨.move, [.tmp 29], (some 3), none⟩])
 (.seq (.seqR [⟨.move, [.tmp 0], (some 30), none⟩,
 ⟨.move, [.tmp 0], (some 31), none⟩,
 ⟨.nilCheck, [.tmp 30], (some 32), none⟩,
 ⟨(.fieldAddr 6), [.tmp 32], (some 33), none⟩,
 ⟨(.store 1), [.tmp 33, .const (.ptr none)], none, none⟩,
 ⟨.nilCheck, [.tmp 31], (some 34), none⟩,
 ⟨(.fieldAddr 7), [.tmp 34], (some 35), none⟩,
 ⟨(.store 1), [.tmp 35, .const .nilFunc], none, none⟩])
 (.seq (.seqR [⟨.move, [.tmp 3], (some 36), none⟩,
 ⟨(.eqNil 2 true), [.tmp 36, .const .nilFunc], (some 37), none⟩])
 (.cond (.tmp 37) (.seqR [⟨.move, [.tmp 3], (some 38), none⟩,
 ⟨(.load true 3), [.tmp 2], (some 39), none⟩,
 ⟨.callV, [.tmp 38, .tmp 39], (some 40), none⟩])
 .skip)))))), []⟩
theorem c50_ok : compFunc Tryz.prog Tryz.f50 = some c50 := by kernel_rfl
theorem c50_body : hasBody Tryz.prog 50 = true := hasBody_of Tryz.func50 (by kernel_rfl)
/-- coachyard/walk.New -/
def c51 : PFn := ⟨12, Tr.ofList (List.replicate 12 undefA), (.seq (.seqR [⟨.move, [.const (.ptr none)], (some 2), none⟩])
 (.seq (.seqR [⟨(.build [(.int .i64 0), (.int .i64 0), (.int .u64 0), (.int .u64 0), .nilFunc, (.bool false), (.ptr none), .nilFunc, (.bool false), (.int .i64 0), (.int .u64 0), (.slice none 0 0 false), (.slice none 0 0 false)] []), [], (some 4), none⟩,
 ⟨.box, [.tmp 4], (some 5), none⟩,
 ⟨.move, [.tmp 5], (some 3), none⟩])
 (.seq (.seq (.seqR [⟨.move, [.tmp 0], (some 6), none⟩,
 ⟨(.eqNil 2 true), [.tmp 6, .const .nilFunc], (some 7), none⟩])
 (.cond (.tmp 7) (.seqR [⟨.move, [.tmp 0], (some 8), none⟩,
 ⟨.move, [.tmp 3], (some 9), none⟩,
 ⟨.callV, [.tmp 8, .tmp 9], (some 10), none⟩])
 .skip))
 (.seq (.seqR [⟨.move, [.tmp 3], (some 11), none⟩,
 ⟨.move, [.tmp 11], (some 2), none⟩])
 .ret)))), [.tmp 2]⟩
theorem c51_ok : compFunc Tryz.prog Tryz.f51 = some c51 := by kernel_rfl
theorem c51_body : hasBody Tryz.prog 51 = true := hasBody_of Tryz.func51 (by kernel_rfl)
/-- (coachyard/stack.Pile).begun$1 -/
def c52 : PFn := ⟨15, Tr.ofList (List.replicate 15 undefA), (.seq (.seq (.seqR [⟨(.load true 2), [.tmp 1], (some 4), none⟩,
 ⟨(.callF 6), [.tmp 4], (some 5), none⟩,
 ⟨.not, [.tmp 5], (some 6), none⟩])
 (.cond (.tmp 6) (.seq (.seqR [⟨.move, [.tmp 0], (some 7), none⟩,
 ⟨(.callF 53), [.tmp 7, .const (.int .i64 2)], (some 8), none⟩])
 .ret)
 .skip))
 (.seqR [⟨(.load false 1), [.tmp 2], (some 9), none⟩,
 ⟨(.load true 2), [.tmp 1], (some 10), none⟩,
 ⟨.move, [.tmp 0], (some 11), none⟩,
 ⟨(.build [(.int .i64 0), (.int .i64 0), (.ptr none), (.int .u64 0), (.int .u32 0), (.int .u64 0)] [(0, 2), (2, 1)]), [.tmp 10, .tmp 11], (some 12), none⟩,
 ⟨.box, [.tmp 12], (some 13), none⟩,
 ⟨.callV, [.tmp 9, .tmp 13], (some 14), none⟩])), []⟩
theorem c52_ok : compFunc Tryz.prog Tryz.f52 = some c52 := by kernel_rfl
theorem c52_body : hasBody Tryz.prog 52 = true := hasBody_of Tryz.func52 (by kernel_rfl)
/-- (*coachyard/walk.Walk).Break -/
def c53 : PFn := ⟨8, Tr.ofList (List.replicate 8 undefA), (.seqR [⟨.move, [.tmp 0], (some 4), none⟩,
 ⟨.move, [.tmp 1], (some 5), none⟩,
 ⟨(.build [(.int .i64 0), (.int .u64 0), (.slice none 0 0 false)] [(0, 1)]), [.tmp 5], (some 6), none⟩,
 ⟨(.callF 79), [.tmp 4, .tmp 6], (some 7), none⟩]), []⟩
theorem c53_ok : compFunc Tryz.prog Tryz.f53 = some c53 := by kernel_rfl
theorem c53_body : hasBody Tryz.prog 53 = true := hasBody_of Tryz.func53 (by kernel_rfl)
/-- (*coachyard/walk.Walk).free -/
def c54 : PFn := ⟨12, Tr.ofList (List.replicate 12 undefA), (.seq (.seqR [⟨.move, [.const (.bool false)], (some 2), none⟩])
 (.seq (.seqR [⟨.move, [.tmp 0], (some 3), none⟩,
 ⟨(.eqPtr true), [.tmp 3, .const (.ptr none)], (some 4), none⟩,
 ⟨.move, [.tmp 4], (some 5), none⟩,
 ⟨.move, [.tmp 0], (some 6), some (5, true)⟩,
 ⟨.nilCheck, [.tmp 6], (some 7), some (5, true)⟩,
 ⟨(.fieldAddr 8), [.tmp 7], (some 8), some (5, true)⟩,
 ⟨(.load false 1), [.tmp 8], (some 9), some (5, true)⟩,
 ⟨.not, [.tmp 9], (some 10), some (5, true)⟩,
 ⟨.pick, [.tmp 5, .tmp 10, .const (.bool false)], (some 11), none⟩,
 ⟨.move, [.tmp 11], (some 2), none⟩])
 .ret)), [.tmp 2]⟩
theorem c54_ok : compFunc Tryz.prog Tryz.f54 = some c54 := by kernel_rfl
theorem c54_body : hasBody Tryz.prog 54 = true := hasBody_of Tryz.func54 (by kernel_rfl)
/-- (coachyard/arena.Arena).Take$1 -/
def c55 : PFn := ⟨20, Tr.ofList (List.replicate 20 undefA), (.seq (.seqR [⟨(.load false 1), [.tmp 1], (some 4), none⟩,
 ⟨.move, [.tmp 0], (some 5), none⟩,
 ⟨.nilCheck, [.tmp 4], (some 6), none⟩,
 ⟨(.fieldAddr 2), [.tmp 6], (some 7), none⟩,
 ⟨(.store 1), [.tmp 7, .tmp 5], none, none⟩])
 (.seq (.seq (.seqR [⟨(.load true 2), [.tmp 2], (some 8), none⟩,
 ⟨(.callF 56), [.tmp 8], (some 9), none⟩,
 ⟨.not, [.tmp 9], (some 10), none⟩])
 (.cond (.tmp 10) (.seq (.seqR [⟨.move, [.tmp 0], (some 11), none⟩,
 ⟨(.callF 53), [.tmp 11, .const (.int .i64 2)], (some 12), none⟩])
 .ret)
 .skip))
 (.seqR [⟨.move, [.tmp 0], (some 13), none⟩,
 ⟨(.fieldAddr 0), [.tmp 2], (some 14), none⟩,
 ⟨(.load false 1), [.tmp 14], (some 15), none⟩,
 ⟨(.build [(.int .i64 0), (.int .i64 0), (.int .u64 0), (.int .u64 0)] [(0, 1), (1, 1)]), [.const (.int .i64 1), .tmp 15], (some 16), none⟩,
 ⟨(.load false 1), [.tmp 1], (some 17), none⟩,
 ⟨(.mkFunc (.func 58) 1), [.tmp 17], (some 18), none⟩,
 ⟨(.callF 57), [.tmp 13, .tmp 16, .tmp 18], (some 19), none⟩]))), []⟩
theorem c55_ok : compFunc Tryz.prog Tryz.f55 = some c55 := by kernel_rfl
theorem c55_body : hasBody Tryz.prog 55 = true := hasBody_of Tryz.func55 (by kernel_rfl)
/-- (coachyard/arena.Arena).Right -/
def c56 : PFn := ⟨24, Tr.ofList (List.replicate 24 undefA), (.seq (.seqR [⟨.box, [.tmp 0], (some 1), none⟩,
 ⟨.move, [.const (.bool false)], (some 2), none⟩])
 (.seq (.seqR [⟨(.fieldAddr 1), [.tmp 1], (some 3), none⟩,
 ⟨(.load false 1), [.tmp 3], (some 4), none⟩,
 ⟨(.bin .geq), [.tmp 4, .const (.int .i64 1)], (some 5), none⟩,
 ⟨.move, [.tmp 5], (some 6), none⟩,
 ⟨(.fieldAddr 1), [.tmp 1], (some 7), some (6, true)⟩,
 ⟨(.load false 1), [.tmp 7], (some 8), some (6, true)⟩,
 ⟨(.bin .leq), [.tmp 8, .const (.int .i64 4096)], (some 9), some (6, true)⟩,
 ⟨.pick, [.tmp 6, .tmp 9, .const (.bool false)], (some 10), none⟩,
 ⟨.move, [.tmp 10], (some 11), none⟩,
 ⟨(.fieldAddr 0), [.tmp 1], (some 12), some (11, true)⟩,
 ⟨(.load false 1), [.tmp 12], (some 13), some (11, true)⟩,
 ⟨(.bin .geq), [.tmp 13, .const (.int .i64 0)], (some 14), some (11, true)⟩,
 ⟨.pick, [.tmp 11, .tmp 14, .const (.bool false)], (some 15), none⟩,
 ⟨.move, [.tmp 15], (some 16), none⟩,
 ⟨(.fieldAddr 0), [.tmp 1], (some 17), some (16, true)⟩,
 ⟨(.load false 1), [.tmp 17], (some 18), some (16, true)⟩,
 ⟨(.fieldAddr 1), [.tmp 1], (some 19), some (16, true)⟩,
 ⟨(.load false 1), [.tmp 19], (some 20), some (16, true)⟩,
 ⟨(.bin .sub), [.const (.int .i64 65536), .tmp 20], (some 21), some (16, true)⟩,
 ⟨(.bin .lss), [.tmp 18, .tmp 21], (some 22), some (16, true)⟩,
 ⟨.pick, [.tmp 16, .tmp 22, .const (.bool false)], (some 23), none⟩,
 ⟨.move, [.tmp 23], (some 2), none⟩])
 .ret)), [.tmp 2]⟩
theorem c56_ok : compFunc Tryz.prog Tryz.f56 = some c56 := by kernel_rfl
theorem c56_body : hasBody Tryz.prog 56 = true := hasBody_of Tryz.func56 (by kernel_rfl)
/-- (*coachyard/walk.Walk).Ask -/
def c57 : PFn := ⟨19, Tr.ofList (List.replicate 19 undefA), (.seq (.seqR [⟨.box, [.tmp 1], (some 4), none⟩])
 (.seq (.seqR [⟨.move, [.tmp 0], (some 6), none⟩,
 ⟨(.callF 54), [.tmp 6], (some 7), none⟩])
 (.cond (.tmp 7) (.seqR [⟨.move, [.tmp 0], (some 8), none⟩,
 ⟨.move, [.tmp 0], (some 9), none⟩,
 ⟨.move, [.tmp 0], (some 10), none⟩,
 ⟨(.load true 4), [.tmp 4], (some 11), none⟩,
 ⟨.move, [.tmp 2], (some 12), none⟩,
 ⟨.nilCheck, [.tmp 8], (some 13), none⟩,
 ⟨(.fieldAddr 0), [.tmp 13], (some 14), none⟩,
 ⟨(.store 4), [.tmp 14, .tmp 11], none, none⟩,
 ⟨.nilCheck, [.tmp 9], (some 15), none⟩,
 ⟨(.fieldAddr 4), [.tmp 15], (some 16), none⟩,
 ⟨(.store 1), [.tmp 16, .tmp 12], none, none⟩,
 ⟨.nilCheck, [.tmp 10], (some 17), none⟩,
 ⟨(.fieldAddr 5), [.tmp 17], (some 18), none⟩,
 ⟨(.store 1), [.tmp 18, .const (.bool true)], none, none⟩])
 .skip))), []⟩
theorem c57_ok : compFunc Tryz.prog Tryz.f57 = some c57 := by kernel_rfl
theorem c57_body : hasBody Tryz.prog 57 = true := hasBody_of Tryz.func57 (by kernel_rfl)
/-- (*coachyard/arena.take).head -/
def c58 : PFn := ⟨52, Tr.ofList (List.replicate 52 undefA), (.seq (.seqR [⟨.move, [.tmp 0], (some 7), none⟩,
 ⟨.move, [.tmp 1], (some 8), none⟩,
 ⟨.nilCheck, [.tmp 7], (some 9), none⟩,
 ⟨(.fieldAddr 3), [.tmp 9], (some 10), none⟩,
 ⟨(.store 1), [.tmp 10, .tmp 8], none, none⟩])
 (.seq (.seqR [⟨.move, [.tmp 1], (some 11), none⟩,
 ⟨(.callF 80), [.tmp 11], (some 12), none⟩,
 ⟨.move, [.tmp 12], (some 6), none⟩])
 (.block 0 (.seq (.seqR [⟨.move, [.tmp 6], (some 30), none⟩,
 ⟨(.bin .eql), [.tmp 30, .const (.int .u32 0)], (some 31), none⟩,
 ⟨.move, [.tmp 31], (some 29), none⟩])
 (.cond (.tmp 29) (.seqR [⟨.move, [.tmp 0], (some 32), none⟩,
 ⟨.nilCheck, [.tmp 32], (some 33), none⟩,
 ⟨(.fieldAddr 2), [.tmp 33], (some 34), none⟩,
 ⟨(.load false 1), [.tmp 34], (some 35), none⟩,
 ⟨(.build [(.int .i64 0), (.int .u64 0), (.slice none 0 0 false)] [(0, 1)]), [.const (.int .i64 7)], (some 36), none⟩,
 ⟨(.callF 79), [.tmp 35, .tmp 36], (some 37), none⟩])
 (.seq (.seqR [⟨.move, [.tmp 6], (some 39), none⟩,
 ⟨(.conv .i64), [.tmp 39], (some 40), none⟩,
 ⟨.move, [.tmp 0], (some 41), none⟩,
 ⟨.nilCheck, [.tmp 41], (some 42), none⟩,
 ⟨(.fieldAddr 0), [.tmp 42], (some 43), none⟩,
 ⟨(.fieldAddr 1), [.tmp 43], (some 44), none⟩,
 ⟨(.load false 1), [.tmp 44], (some 45), none⟩,
 ⟨(.bin .gtr), [.tmp 40, .tmp 45], (some 46), none⟩,
 ⟨.move, [.tmp 46], (some 38), none⟩])
 (.cond (.tmp 38) (.seqR [⟨.move, [.tmp 0], (some 47), none⟩,
 ⟨.nilCheck, [.tmp 47], (some 48), none⟩,
 ⟨(.fieldAddr 2), [.tmp 48], (some 49), none⟩,
 ⟨(.load false 1), [.tmp 49], (some 50), none⟩,
 ⟨(.callF 53), [.tmp 50, .const (.int .i64 9)], (some 51), none⟩])
 (.drawR [⟨⟨.move, [.tmp 0], (some 13), none⟩, false, false, 0, 0⟩,
 ⟨⟨.nilCheck, [.tmp 13], (some 14), none⟩, false, false, 0, 0⟩,
 ⟨⟨(.fieldAddr 2), [.tmp 14], (some 15), none⟩, false, false, 0, 0⟩,
 ⟨⟨(.load false 1), [.tmp 15], (some 16), none⟩, false, false, 0, 0⟩,
 ⟨⟨.move, [.tmp 0], (some 17), none⟩, false, false, 0, 0⟩,
 ⟨⟨.nilCheck, [.tmp 17], (some 18), none⟩, false, false, 0, 0⟩,
 ⟨⟨(.fieldAddr 0), [.tmp 18], (some 19), none⟩, false, false, 0, 0⟩,
 ⟨⟨(.fieldAddr 0), [.tmp 19], (some 20), none⟩, false, false, 0, 0⟩,
 ⟨⟨(.load false 1), [.tmp 20], (some 21), none⟩, false, false, 0, 0⟩,
 ⟨⟨.move, [.tmp 6], (some 22), none⟩, false, false, 0, 0⟩,
 ⟨⟨(.conv .i64), [.tmp 22], (some 23), none⟩, false, false, 0, 0⟩,
 ⟨⟨(.bin .add), [.tmp 21, .tmp 23], (some 24), none⟩, false, false, 0, 0⟩,
 ⟨⟨(.build [(.int .i64 0), (.int .i64 0), (.int .u64 0), (.int .u64 0)] [(0, 1), (1, 1)]), [.const (.int .i64 1), .tmp 24], (some 25), none⟩, false, false, 0, 0⟩,
 ⟨⟨.move, [.tmp 0], (some 26), none⟩, false, false, 0, 0⟩,
 ⟨⟨(.mkFunc (.func 81) 1), [.tmp 26], (some 27), none⟩, false, false, 0, 0⟩,
 ⟨⟨(.callF 57), [.tmp 16, .tmp 25, .tmp 27], (some 28), none⟩, true, false, 0, 1⟩])))))))), []⟩
theorem c58_ok : compFunc Tryz.prog Tryz.f58 = some c58 := by kernel_rfl
theorem c58_body : hasBody Tryz.prog 58 = true := hasBody_of Tryz.func58 (by kernel_rfl)
/-- (coachyard/stack.Pile).task -/
def c59 : PFn := ⟨14, Tr.ofList (List.replicate 14 undefA), (.seq (.seqR [⟨.box, [.tmp 0], (some 2), none⟩,
 ⟨.move, [.const (.int .i64 0)], (some 4), none⟩])
 (.seq (.seqR [⟨(.fieldAddr 0), [.tmp 2], (some 5), none⟩,
 ⟨(.load false 1), [.tmp 5], (some 6), none⟩,
 ⟨(.bin .add), [.tmp 6, .const (.int .i64 1)], (some 7), none⟩,
 ⟨(.fieldAddr 1), [.tmp 2], (some 8), none⟩,
 ⟨(.load false 1), [.tmp 8], (some 9), none⟩,
 ⟨(.bin .add), [.tmp 7, .tmp 9], (some 10), none⟩,
 ⟨.move, [.tmp 1], (some 11), none⟩,
 ⟨(.conv .i64), [.tmp 11], (some 12), none⟩,
 ⟨(.bin .add), [.tmp 10, .tmp 12], (some 13), none⟩,
 ⟨.move, [.tmp 13], (some 4), none⟩])
 .ret)), [.tmp 4]⟩
theorem c59_ok : compFunc Tryz.prog Tryz.f59 = some c59 := by kernel_rfl
theorem c59_body : hasBody Tryz.prog 59 = true := hasBody_of Tryz.func59 (by kernel_rfl)
/-- (coachyard/stack.push).laid -/
def c60 : PFn := ⟨17, Tr.ofList (List.replicate 17 undefA), (.seq (.seqR [⟨.box, [.tmp 0], (some 3), none⟩])
 (.drawR [⟨⟨(.fieldAddr 0), [.tmp 3], (some 6), none⟩, false, false, 0, 0⟩,
 ⟨⟨(.load false 1), [.tmp 6], (some 7), none⟩, false, false, 0, 0⟩,
 ⟨⟨(.fieldAddr 0), [.tmp 3], (some 8), none⟩, false, false, 0, 0⟩,
 ⟨⟨(.load false 1), [.tmp 8], (some 9), none⟩, false, false, 0, 0⟩,
 ⟨⟨.nilCheck, [.tmp 9], (some 10), none⟩, false, false, 0, 0⟩,
 ⟨⟨(.fieldAddr 0), [.tmp 10], (some 11), none⟩, false, false, 0, 0⟩,
 ⟨⟨(.fieldAddr 0), [.tmp 11], (some 12), none⟩, false, false, 0, 0⟩,
 ⟨⟨(.load false 1), [.tmp 12], (some 13), none⟩, false, false, 0, 0⟩,
 ⟨⟨(.load true 1), [.tmp 3], (some 14), none⟩, false, false, 0, 0⟩,
 ⟨⟨(.mkFunc (.func 82) 1), [.tmp 14], (some 15), none⟩, false, false, 0, 0⟩,
 ⟨⟨(.callF 39), [.tmp 7, .tmp 13, .tmp 15], (some 16), none⟩, true, false, 0, 1⟩])), []⟩
theorem c60_ok : compFunc Tryz.prog Tryz.f60 = some c60 := by kernel_rfl
theorem c60_body : hasBody Tryz.prog 60 = true := hasBody_of Tryz.func60 (by kernel_rfl)
/-- coachyard/coachyardref06.Right -/
def c61 : PFn := ⟨21, Tr.ofList (List.replicate 21 undefA), (.seq (.seqR [⟨.move, [.const (.bool false)], (some 4), none⟩])
 (.seq (.seqR [⟨.move, [.tmp 1], (some 5), none⟩,
 ⟨(.bin .geq), [.tmp 5, .const (.int .i64 1)], (some 6), none⟩,
 ⟨.move, [.tmp 6], (some 7), none⟩,
 ⟨.move, [.tmp 1], (some 8), some (7, true)⟩,
 ⟨(.bin .leq), [.tmp 8, .const (.int .i64 4096)], (some 9), some (7, true)⟩,
 ⟨.pick, [.tmp 7, .tmp 9, .const (.bool false)], (some 10), none⟩,
 ⟨.move, [.tmp 10], (some 11), none⟩,
 ⟨.move, [.tmp 0], (some 12), some (11, true)⟩,
 ⟨(.bin .geq), [.tmp 12, .const (.int .i64 0)], (some 13), some (11, true)⟩,
 ⟨.pick, [.tmp 11, .tmp 13, .const (.bool false)], (some 14), none⟩,
 ⟨.move, [.tmp 14], (some 15), none⟩,
 ⟨.move, [.tmp 0], (some 16), some (15, true)⟩,
 ⟨.move, [.tmp 1], (some 17), some (15, true)⟩,
 ⟨(.bin .sub), [.const (.int .i64 65536), .tmp 17], (some 18), some (15, true)⟩,
 ⟨(.bin .lss), [.tmp 16, .tmp 18], (some 19), some (15, true)⟩,
 ⟨.pick, [.tmp 15, .tmp 19, .const (.bool false)], (some 20), none⟩,
 ⟨.move, [.tmp 20], (some 4), none⟩])
 .ret)), [.tmp 4]⟩
theorem c61_ok : compFunc Tryz.prog Tryz.f61 = some c61 := by kernel_rfl
theorem c61_body : hasBody Tryz.prog 61 = true := hasBody_of Tryz.func61 (by kernel_rfl)
/-- (*coachyard/coachyardref06.Frame).end -/
def c62 : PFn := ⟨15, Tr.ofList (List.replicate 15 undefA), (.seq (.seqR [⟨.move, [.tmp 0], (some 6), none⟩,
 ⟨.nilCheck, [.tmp 6], (some 7), none⟩,
 ⟨(.fieldAddr 7), [.tmp 7], (some 8), none⟩,
 ⟨(.store 1), [.tmp 8, .const (.bool true)], none, none⟩])
 (.seqR [⟨.move, [.tmp 0], (some 9), none⟩,
 ⟨.move, [.tmp 1], (some 10), none⟩,
 ⟨.move, [.tmp 2], (some 11), none⟩,
 ⟨(.build [(.int .i64 0), (.int .u64 0), (.slice none 0 0 false)] [(0, 1), (1, 1)]), [.tmp 10, .tmp 11], (some 12), none⟩,
 ⟨.nilCheck, [.tmp 9], (some 13), none⟩,
 ⟨(.fieldAddr 8), [.tmp 13], (some 14), none⟩,
 ⟨(.store 3), [.tmp 14, .tmp 12], none, none⟩])), []⟩
theorem c62_ok : compFunc Tryz.prog Tryz.f62 = some c62 := by kernel_rfl
theorem c62_body : hasBody Tryz.prog 62 = true := hasBody_of Tryz.func62 (by kernel_rfl)
/-- (*coachyard/coachyardref06.Frame).Want -/
def c63 : PFn := ⟨91, Tr.ofList (List.replicate 91 undefA), (.seq (.seqR [⟨(.new [(.int .i64 0), (.int .i64 0), (.int .u64 0), (.int .u64 0)]), [], (some 2), none⟩,
 ⟨.move, [.const (.bool false)], (some 3), none⟩])
 (.seq (.seq (.seqR [⟨.move, [.tmp 0], (some 5), none⟩,
 ⟨.nilCheck, [.tmp 5], (some 6), none⟩,
 ⟨(.fieldAddr 7), [.tmp 6], (some 7), none⟩,
 ⟨(.load false 1), [.tmp 7], (some 8), none⟩])
 (.cond (.tmp 8) (.seq (.seqR [⟨(.build [(.int .i64 0), (.int .i64 0), (.int .u64 0), (.int .u64 0)] []), [], (some 9), none⟩,
 ⟨(.store 4), [.tmp 2, .tmp 9], none, none⟩,
 ⟨.move, [.const (.bool false)], (some 3), none⟩])
 .ret)
 .skip))
 (.seq (.seq (.seqR [⟨.move, [.tmp 0], (some 10), none⟩,
 ⟨.nilCheck, [.tmp 10], (some 11), none⟩,
 ⟨(.fieldAddr 4), [.tmp 11], (some 12), none⟩,
 ⟨(.load false 1), [.tmp 12], (some 13), none⟩,
 ⟨(.bin .eql), [.tmp 13, .const (.int .i64 1)], (some 14), none⟩])
 (.cond (.tmp 14) (.seq (.seqR [⟨.move, [.tmp 0], (some 15), none⟩,
 ⟨.nilCheck, [.tmp 15], (some 16), none⟩,
 ⟨(.fieldAddr 0), [.tmp 16], (some 17), none⟩,
 ⟨(.load false 1), [.tmp 17], (some 18), none⟩,
 ⟨(.build [(.int .i64 0), (.int .i64 0), (.int .u64 0), (.int .u64 0)] [(0, 1), (1, 1)]), [.const (.int .i64 1), .tmp 18], (some 19), none⟩,
 ⟨(.store 4), [.tmp 2, .tmp 19], none, none⟩,
 ⟨.move, [.const (.bool true)], (some 3), none⟩])
 .ret)
 .skip))
 (.seq (.seqR [⟨.move, [.tmp 0], (some 20), none⟩,
 ⟨.nilCheck, [.tmp 20], (some 21), none⟩,
 ⟨(.fieldAddr 5), [.tmp 21], (some 22), none⟩,
 ⟨(.load false 1), [.tmp 22], (some 23), none⟩,
 ⟨(.callF 64), [.tmp 23], (some 24), none⟩,
 ⟨.move, [.tmp 24], (some 4), none⟩])
 (.seq (.seq (.seqR [⟨.move, [.tmp 0], (some 25), none⟩,
 ⟨.nilCheck, [.tmp 25], (some 26), none⟩,
 ⟨(.fieldAddr 2), [.tmp 26], (some 27), none⟩,
 ⟨(.load false 1), [.tmp 27], (some 28), none⟩])
 (.cond (.tmp 28) (.seq (.seq (.seqR [⟨.move, [.tmp 0], (some 29), none⟩,
 ⟨.nilCheck, [.tmp 29], (some 30), none⟩,
 ⟨(.fieldAddr 4), [.tmp 30], (some 31), none⟩,
 ⟨(.load false 1), [.tmp 31], (some 32), none⟩,
 ⟨(.bin .eql), [.tmp 32, .const (.int .i64 2)], (some 33), none⟩])
 (.cond (.tmp 33) (.seq (.drawR [⟨⟨.move, [.tmp 0], (some 34), none⟩, false, false, 0, 0⟩,
 ⟨⟨.nilCheck, [.tmp 34], (some 35), none⟩, false, false, 0, 0⟩,
 ⟨⟨(.fieldAddr 0), [.tmp 35], (some 36), none⟩, false, false, 0, 0⟩,
 ⟨⟨(.load false 1), [.tmp 36], (some 37), none⟩, false, false, 0, 0⟩,
 ⟨⟨.move, [.tmp 0], (some 38), none⟩, false, false, 0, 0⟩,
 ⟨⟨.nilCheck, [.tmp 38], (some 39), none⟩, false, false, 0, 0⟩,
 ⟨⟨(.fieldAddr 3), [.tmp 39], (some 40), none⟩, false, false, 0, 0⟩,
 ⟨⟨(.load false 1), [.tmp 40], (some 41), none⟩, false, false, 0, 0⟩,
 ⟨⟨(.bin .add), [.tmp 37, .tmp 41], (some 42), none⟩, false, false, 0, 0⟩,
 ⟨⟨.move, [.tmp 4], (some 43), none⟩, false, false, 0, 0⟩,
 ⟨⟨(.conv .u64), [.tmp 43], (some 44), none⟩, false, false, 0, 0⟩,
 ⟨⟨(.build [(.int .i64 0), (.int .i64 0), (.int .u64 0), (.int .u64 0)] [(0, 1), (1, 1), (2, 1)]), [.const (.int .i64 2), .tmp 42, .tmp 44], (some 45), none⟩, false, false, 0, 0⟩,
 ⟨⟨(.store 4), [.tmp 2, .tmp 45], none, none⟩, true, false, 0, 1⟩,
 ⟨⟨.move, [.const (.bool true)], (some 3), none⟩, false, false, 1, 1⟩])
 .ret)
 .skip))
 (.seq (.drawR [⟨⟨.move, [.tmp 0], (some 46), none⟩, false, false, 0, 1⟩,
 ⟨⟨.nilCheck, [.tmp 46], (some 47), none⟩, false, false, 0, 1⟩,
 ⟨⟨(.fieldAddr 0), [.tmp 47], (some 48), none⟩, false, false, 0, 1⟩,
 ⟨⟨(.load false 1), [.tmp 48], (some 49), none⟩, false, false, 0, 1⟩,
 ⟨⟨.move, [.tmp 0], (some 50), none⟩, false, false, 0, 1⟩,
 ⟨⟨.nilCheck, [.tmp 50], (some 51), none⟩, false, false, 0, 1⟩,
 ⟨⟨(.fieldAddr 5), [.tmp 51], (some 52), none⟩, false, false, 0, 1⟩,
 ⟨⟨(.load false 1), [.tmp 52], (some 53), none⟩, false, false, 0, 1⟩,
 ⟨⟨.move, [.tmp 0], (some 54), none⟩, false, false, 0, 0⟩,
 ⟨⟨.move, [.tmp 0], (some 55), none⟩, false, false, 0, 0⟩,
 ⟨⟨.nilCheck, [.tmp 55], (some 56), none⟩, false, false, 0, 0⟩,
 ⟨⟨(.fieldAddr 3), [.tmp 56], (some 57), none⟩, false, false, 0, 0⟩,
 ⟨⟨(.load false 1), [.tmp 57], (some 58), none⟩, false, false, 0, 0⟩,
 ⟨⟨(.conv .u32), [.tmp 58], (some 59), none⟩, false, false, 0, 0⟩,
 ⟨⟨(.callF 83), [.tmp 54, .tmp 59], (some 60), none⟩, true, false, 0, 1⟩,
 ⟨⟨(.build [(.int .i64 0), (.int .i64 0), (.int .u64 0), (.int .u64 0)] [(0, 1), (1, 1), (2, 1), (3, 1)]), [.const (.int .i64 3), .tmp 49, .tmp 53, .tmp 60], (some 61), none⟩, false, false, 1, 1⟩,
 ⟨⟨(.store 4), [.tmp 2, .tmp 61], none, none⟩, true, false, 1, 2⟩,
 ⟨⟨.move, [.const (.bool true)], (some 3), none⟩, false, false, 2, 2⟩])
 .ret))
 .skip))
 (.seq (.seq (.seqR [⟨.move, [.tmp 0], (some 62), none⟩,
 ⟨.nilCheck, [.tmp 62], (some 63), none⟩,
 ⟨(.fieldAddr 4), [.tmp 63], (some 64), none⟩,
 ⟨(.load false 1), [.tmp 64], (some 65), none⟩,
 ⟨(.bin .eql), [.tmp 65, .const (.int .i64 2)], (some 66), none⟩])
 (.cond (.tmp 66) (.seq (.seqR [⟨.move, [.tmp 0], (some 67), none⟩,
 ⟨.nilCheck, [.tmp 67], (some 68), none⟩,
 ⟨(.fieldAddr 0), [.tmp 68], (some 69), none⟩,
 ⟨(.load false 1), [.tmp 69], (some 70), none⟩,
 ⟨.move, [.tmp 4], (some 71), none⟩,
 ⟨(.conv .i64), [.tmp 71], (some 72), none⟩,
 ⟨(.bin .add), [.tmp 70, .tmp 72], (some 73), none⟩,
 ⟨(.build [(.int .i64 0), (.int .i64 0), (.int .u64 0), (.int .u64 0)] [(0, 1), (1, 1)]), [.const (.int .i64 1), .tmp 73], (some 74), none⟩,
 ⟨(.store 4), [.tmp 2, .tmp 74], none, none⟩,
 ⟨.move, [.const (.bool true)], (some 3), none⟩])
 .ret)
 .skip))
 (.seq (.drawR [⟨⟨.move, [.tmp 0], (some 75), none⟩, false, false, 0, 2⟩,
 ⟨⟨.nilCheck, [.tmp 75], (some 76), none⟩, false, false, 0, 2⟩,
 ⟨⟨(.fieldAddr 0), [.tmp 76], (some 77), none⟩, false, false, 0, 2⟩,
 ⟨⟨(.load false 1), [.tmp 77], (some 78), none⟩, false, false, 0, 2⟩,
 ⟨⟨.move, [.tmp 0], (some 79), none⟩, false, false, 0, 2⟩,
 ⟨⟨.nilCheck, [.tmp 79], (some 80), none⟩, false, false, 0, 2⟩,
 ⟨⟨(.fieldAddr 5), [.tmp 80], (some 81), none⟩, false, false, 0, 2⟩,
 ⟨⟨(.load false 1), [.tmp 81], (some 82), none⟩, false, false, 0, 2⟩,
 ⟨⟨.move, [.tmp 0], (some 83), none⟩, false, false, 0, 1⟩,
 ⟨⟨.move, [.tmp 0], (some 84), none⟩, false, false, 0, 0⟩,
 ⟨⟨.nilCheck, [.tmp 84], (some 85), none⟩, false, false, 0, 0⟩,
 ⟨⟨(.fieldAddr 6), [.tmp 85], (some 86), none⟩, false, false, 0, 0⟩,
 ⟨⟨(.load false 1), [.tmp 86], (some 87), none⟩, false, false, 0, 0⟩,
 ⟨⟨(.callF 64), [.tmp 87], (some 88), none⟩, true, false, 0, 1⟩,
 ⟨⟨(.callF 83), [.tmp 83, .tmp 88], (some 89), none⟩, true, false, 1, 2⟩,
 ⟨⟨(.build [(.int .i64 0), (.int .i64 0), (.int .u64 0), (.int .u64 0)] [(0, 1), (1, 1), (2, 1), (3, 1)]), [.const (.int .i64 3), .tmp 78, .tmp 82, .tmp 89], (some 90), none⟩, false, false, 2, 2⟩,
 ⟨⟨(.store 4), [.tmp 2, .tmp 90], none, none⟩, true, false, 2, 3⟩,
 ⟨⟨.move, [.const (.bool true)], (some 3), none⟩, false, false, 3, 3⟩])
 .ret))))))), [.cell 2 true 4, .tmp 3]⟩
theorem c63_ok : compFunc Tryz.prog Tryz.f63 = some c63 := by kernel_rfl
theorem c63_body : hasBody Tryz.prog 63 = true := hasBody_of Tryz.func63 (by kernel_rfl)
/-- coachyard/coachyardref01.Lo -/
def c64 : PFn := ⟨6, Tr.ofList (List.replicate 6 undefA), (.seq (.seqR [⟨.move, [.const (.int .u32 0)], (some 2), none⟩])
 (.seq (.seqR [⟨.move, [.tmp 0], (some 3), none⟩,
 ⟨(.bin .rem), [.tmp 3, .const (.int .u64 4294967296)], (some 4), none⟩,
 ⟨(.conv .u32), [.tmp 4], (some 5), none⟩,
 ⟨.move, [.tmp 5], (some 2), none⟩])
 .ret)), [.tmp 2]⟩
theorem c64_ok : compFunc Tryz.prog Tryz.f64 = some c64 := by kernel_rfl
theorem c64_body : hasBody Tryz.prog 64 = true := hasBody_of Tryz.func64 (by kernel_rfl)
/-- (*coachyard/coachyardref31.Frame).raised -/
def c65 : PFn := ⟨22, Tr.ofList (List.replicate 22 undefA), (.seq (.seqR [⟨(.new [(.int .i64 0), (.int .i64 0), (.int .u64 0), (.int .u64 0)]), [], (some 4), none⟩])
 (.seq (.drawR [⟨⟨.move, [.tmp 0], (some 5), none⟩, false, false, 0, 2⟩,
 ⟨⟨.nilCheck, [.tmp 5], (some 6), none⟩, false, false, 0, 2⟩,
 ⟨⟨(.fieldAddr 0), [.tmp 6], (some 7), none⟩, false, false, 0, 2⟩,
 ⟨⟨(.load false 1), [.tmp 7], (some 8), none⟩, false, false, 0, 2⟩,
 ⟨⟨.move, [.tmp 0], (some 9), none⟩, false, false, 0, 2⟩,
 ⟨⟨.nilCheck, [.tmp 9], (some 10), none⟩, false, false, 0, 2⟩,
 ⟨⟨(.fieldAddr 6), [.tmp 10], (some 11), none⟩, false, false, 0, 2⟩,
 ⟨⟨(.load false 1), [.tmp 11], (some 12), none⟩, false, false, 0, 2⟩,
 ⟨⟨.move, [.tmp 0], (some 13), none⟩, false, false, 0, 0⟩,
 ⟨⟨.nilCheck, [.tmp 13], (some 14), none⟩, false, false, 0, 0⟩,
 ⟨⟨(.fieldAddr 6), [.tmp 14], (some 15), none⟩, false, false, 0, 0⟩,
 ⟨⟨(.load false 1), [.tmp 15], (some 16), none⟩, false, false, 0, 0⟩,
 ⟨⟨(.callF 85), [.tmp 16], (some 17), none⟩, true, false, 0, 1⟩,
 ⟨⟨(.bin .add), [.tmp 17, .const (.int .u32 1)], (some 18), none⟩, false, false, 1, 1⟩,
 ⟨⟨.move, [.tmp 1], (some 19), none⟩, false, false, 0, 1⟩,
 ⟨⟨(.callF 84), [.tmp 18, .tmp 19], (some 20), none⟩, true, false, 1, 2⟩,
 ⟨⟨(.build [(.int .i64 0), (.int .i64 0), (.int .u64 0), (.int .u64 0)] [(0, 1), (1, 1), (2, 1), (3, 1)]), [.const (.int .i64 3), .tmp 8, .tmp 12, .tmp 20], (some 21), none⟩, false, false, 2, 2⟩,
 ⟨⟨(.store 4), [.tmp 4, .tmp 21], none, none⟩, true, false, 2, 3⟩])
 .ret)), [.cell 4 true 4]⟩
theorem c65_ok : compFunc Tryz.prog Tryz.f65 = some c65 := by kernel_rfl
theorem c65_body : hasBody Tryz.prog 65 = true := hasBody_of Tryz.func65 (by kernel_rfl)
/-- (*coachyard/coachyardref06.Frame).Give -/
def c66 : PFn := ⟨47, Tr.ofList (List.replicate 47 undefA), (.seq (.seq (.seqR [⟨.move, [.tmp 0], (some 6), none⟩,
 ⟨.nilCheck, [.tmp 6], (some 7), none⟩,
 ⟨(.fieldAddr 7), [.tmp 7], (some 8), none⟩,
 ⟨(.load false 1), [.tmp 8], (some 9), none⟩])
 (.cond (.tmp 9) .ret
 .skip))
 (.seq (.seqR [⟨.move, [.tmp 0], (some 10), none⟩,
 ⟨.nilCheck, [.tmp 10], (some 11), none⟩,
 ⟨(.fieldAddr 4), [.tmp 11], (some 12), none⟩,
 ⟨(.load false 1), [.tmp 12], (some 13), none⟩])
 (.block 0 (.seq (.seqR [⟨(.bin .eql), [.tmp 13, .const (.int .i64 1)], (some 34), none⟩,
 ⟨.move, [.tmp 34], (some 33), none⟩])
 (.cond (.tmp 33) (.seqR [⟨.move, [.tmp 0], (some 35), none⟩,
 ⟨.move, [.tmp 1], (some 36), none⟩,
 ⟨(.callF 86), [.tmp 35, .tmp 36], (some 37), none⟩])
 (.seq (.seqR [⟨(.bin .eql), [.tmp 13, .const (.int .i64 2)], (some 39), none⟩,
 ⟨.move, [.tmp 39], (some 38), none⟩])
 (.cond (.tmp 38) (.seq (.seqR [⟨.move, [.tmp 0], (some 40), none⟩,
 ⟨.move, [.tmp 1], (some 41), none⟩,
 ⟨.nilCheck, [.tmp 40], (some 42), none⟩,
 ⟨(.fieldAddr 6), [.tmp 42], (some 43), none⟩,
 ⟨(.store 1), [.tmp 43, .tmp 41], none, none⟩])
 (.seqR [⟨.move, [.tmp 0], (some 44), none⟩,
 ⟨.nilCheck, [.tmp 44], (some 45), none⟩,
 ⟨(.fieldAddr 4), [.tmp 45], (some 46), none⟩,
 ⟨(.store 1), [.tmp 46, .const (.int .i64 3)], none, none⟩]))
 (.seq (.seq (.seqR [⟨.move, [.tmp 2], (some 14), none⟩,
 ⟨.not, [.tmp 14], (some 15), none⟩])
 (.cond (.tmp 15) (.seq (.seqR [⟨.move, [.tmp 0], (some 16), none⟩,
 ⟨.move, [.tmp 1], (some 17), none⟩,
 ⟨(.callF 86), [.tmp 16, .tmp 17], (some 18), none⟩])
 .ret)
 .skip))
 (.seq (.seqR [⟨.move, [.tmp 0], (some 19), none⟩,
 ⟨.nilCheck, [.tmp 19], (some 20), none⟩,
 ⟨(.fieldAddr 2), [.tmp 20], (some 21), none⟩,
 ⟨(.load false 1), [.tmp 21], (some 22), none⟩])
 (.cond (.tmp 22) (.seqR [⟨.move, [.tmp 0], (some 23), none⟩,
 ⟨(.callF 62), [.tmp 23, .const (.int .i64 0), .const (.int .u64 0)], (some 24), none⟩])
 (.seqR [⟨.move, [.tmp 0], (some 25), none⟩,
 ⟨.move, [.tmp 0], (some 26), none⟩,
 ⟨.nilCheck, [.tmp 26], (some 27), none⟩,
 ⟨(.fieldAddr 5), [.tmp 27], (some 28), none⟩,
 ⟨(.load false 1), [.tmp 28], (some 29), none⟩,
 ⟨(.callF 64), [.tmp 29], (some 30), none⟩,
 ⟨(.conv .u64), [.tmp 30], (some 31), none⟩,
 ⟨(.callF 62), [.tmp 25, .const (.int .i64 0), .tmp 31], (some 32), none⟩]))))))))))), []⟩
theorem c66_ok : compFunc Tryz.prog Tryz.f66 = some c66 := by kernel_rfl
theorem c66_body : hasBody Tryz.prog 66 = true := hasBody_of Tryz.func66 (by kernel_rfl)
/-- (*coachyard/coachyardref06.Frame).Over -/
def c67 : PFn := ⟨12, Tr.ofList (List.replicate 12 undefA), (.seq (.seqR [⟨(.new [(.int .i64 0), (.int .u64 0), (.slice none 0 0 false)]), [], (some 2), none⟩,
 ⟨.move, [.const (.bool false)], (some 3), none⟩])
 (.seq (.drawR [⟨⟨.move, [.tmp 0], (some 4), none⟩, false, false, 0, 0⟩,
 ⟨⟨.nilCheck, [.tmp 4], (some 5), none⟩, false, false, 0, 0⟩,
 ⟨⟨(.fieldAddr 8), [.tmp 5], (some 6), none⟩, false, false, 0, 0⟩,
 ⟨⟨(.load true 3), [.tmp 6], (some 7), none⟩, false, false, 0, 0⟩,
 ⟨⟨.move, [.tmp 0], (some 8), none⟩, false, false, 0, 1⟩,
 ⟨⟨.nilCheck, [.tmp 8], (some 9), none⟩, false, false, 0, 1⟩,
 ⟨⟨(.fieldAddr 7), [.tmp 9], (some 10), none⟩, false, false, 0, 1⟩,
 ⟨⟨(.load false 1), [.tmp 10], (some 11), none⟩, false, false, 0, 1⟩,
 ⟨⟨(.store 3), [.tmp 2, .tmp 7], none, none⟩, true, false, 0, 1⟩,
 ⟨⟨.move, [.tmp 11], (some 3), none⟩, false, false, 1, 1⟩])
 .ret)), [.cell 2 true 3, .tmp 3]⟩
theorem c67_ok : compFunc Tryz.prog Tryz.f67 = some c67 := by kernel_rfl
theorem c67_body : hasBody Tryz.prog 67 = true := hasBody_of Tryz.func67 (by kernel_rfl)
/-- (*coachyard/coachyardref31.Frame).left -/
def c68 : PFn := ⟨42, Tr.ofList (List.replicate 42 undefA), (.seq (.seqR [⟨.box, [.tmp 1], (some 3), none⟩])
 (.seq (.seqR [⟨.move, [.tmp 0], (some 4), none⟩,
 ⟨.nilCheck, [.tmp 4], (some 5), none⟩,
 ⟨(.fieldAddr 5), [.tmp 5], (some 6), none⟩,
 ⟨(.store 1), [.tmp 6, .const (.ptr none)], none, none⟩])
 (.seq (.seq (.seqR [⟨.move, [.tmp 0], (some 7), none⟩,
 ⟨.nilCheck, [.tmp 7], (some 8), none⟩,
 ⟨(.fieldAddr 2), [.tmp 8], (some 9), none⟩,
 ⟨(.load false 1), [.tmp 9], (some 10), none⟩,
 ⟨.not, [.tmp 10], (some 11), none⟩])
 (.cond (.tmp 11) (.seq (.seq (.seqR [⟨(.fieldAddr 0), [.tmp 3], (some 12), none⟩,
 ⟨(.load false 1), [.tmp 12], (some 13), none⟩,
 ⟨(.bin .neq), [.tmp 13, .const (.int .i64 0)], (some 14), none⟩])
 (.cond (.tmp 14) (.seqR [⟨.move, [.tmp 0], (some 15), none⟩,
 ⟨.nilCheck, [.tmp 15], (some 16), none⟩,
 ⟨(.fieldAddr 3), [.tmp 16], (some 17), none⟩,
 ⟨(.store 1), [.tmp 17, .const (.int .u64 0)], none, none⟩])
 .skip))
 (.seq (.drawR [⟨⟨.move, [.tmp 0], (some 18), none⟩, false, false, 0, 0⟩,
 ⟨⟨(.fieldAddr 0), [.tmp 3], (some 19), none⟩, false, false, 0, 0⟩,
 ⟨⟨(.load false 1), [.tmp 19], (some 20), none⟩, false, false, 0, 0⟩,
 ⟨⟨.move, [.tmp 0], (some 21), none⟩, false, false, 0, 0⟩,
 ⟨⟨.nilCheck, [.tmp 21], (some 22), none⟩, false, false, 0, 0⟩,
 ⟨⟨(.fieldAddr 3), [.tmp 22], (some 23), none⟩, false, false, 0, 0⟩,
 ⟨⟨(.load false 1), [.tmp 23], (some 24), none⟩, false, false, 0, 0⟩,
 ⟨⟨(.callF 32), [.tmp 18, .tmp 20, .tmp 24], (some 25), none⟩, true, false, 0, 1⟩])
 .ret))
 .skip))
 (.seq (.seq (.seqR [⟨(.fieldAddr 0), [.tmp 3], (some 26), none⟩,
 ⟨(.load false 1), [.tmp 26], (some 27), none⟩,
 ⟨(.bin .neq), [.tmp 27, .const (.int .i64 0)], (some 28), none⟩])
 (.cond (.tmp 28) (.seq (.seqR [⟨.move, [.tmp 0], (some 29), none⟩,
 ⟨(.fieldAddr 0), [.tmp 3], (some 30), none⟩,
 ⟨(.load false 1), [.tmp 30], (some 31), none⟩,
 ⟨(.callF 32), [.tmp 29, .tmp 31, .const (.int .u64 0)], (some 32), none⟩])
 .ret)
 .skip))
 (.seq (.seqR [⟨.move, [.tmp 0], (some 33), none⟩,
 ⟨(.fieldAddr 1), [.tmp 3], (some 34), none⟩,
 ⟨(.load false 1), [.tmp 34], (some 35), none⟩,
 ⟨(.conv .i64), [.tmp 35], (some 36), none⟩,
 ⟨.nilCheck, [.tmp 33], (some 37), none⟩,
 ⟨(.fieldAddr 8), [.tmp 37], (some 38), none⟩,
 ⟨(.store 1), [.tmp 38, .tmp 36], none, none⟩])
 (.seqR [⟨.move, [.tmp 0], (some 39), none⟩,
 ⟨.nilCheck, [.tmp 39], (some 40), none⟩,
 ⟨(.fieldAddr 4), [.tmp 40], (some 41), none⟩,
 ⟨(.store 1), [.tmp 41, .const (.int .i64 2)], none, none⟩])))))), []⟩
theorem c68_ok : compFunc Tryz.prog Tryz.f68 = some c68 := by kernel_rfl
theorem c68_body : hasBody Tryz.prog 68 = true := hasBody_of Tryz.func68 (by kernel_rfl)
/-- (*coachyard/coachyardref31.Frame).push -/
def c69 : PFn := ⟨39, Tr.ofList (List.replicate 39 undefA), (.seq (.seqR [⟨.move, [.tmp 0], (some 6), none⟩,
 ⟨.nilCheck, [.tmp 6], (some 7), none⟩,
 ⟨(.fieldAddr 4), [.tmp 7], (some 8), none⟩,
 ⟨(.load false 1), [.tmp 8], (some 9), none⟩])
 (.block 0 (.seq (.seqR [⟨(.bin .eql), [.tmp 9, .const (.int .i64 2)], (some 21), none⟩,
 ⟨.move, [.tmp 21], (some 20), none⟩])
 (.cond (.tmp 20) (.seqR [⟨.move, [.tmp 0], (some 22), none⟩,
 ⟨.nilCheck, [.tmp 22], (some 23), none⟩,
 ⟨(.fieldAddr 4), [.tmp 23], (some 24), none⟩,
 ⟨(.store 1), [.tmp 24, .const (.int .i64 3)], none, none⟩])
 (.seq (.seqR [⟨(.bin .eql), [.tmp 9, .const (.int .i64 3)], (some 26), none⟩,
 ⟨.move, [.tmp 26], (some 25), none⟩])
 (.cond (.tmp 25) (.seq (.seqR [⟨.move, [.tmp 0], (some 27), none⟩,
 ⟨.move, [.tmp 1], (some 28), none⟩,
 ⟨.nilCheck, [.tmp 27], (some 29), none⟩,
 ⟨(.fieldAddr 6), [.tmp 29], (some 30), none⟩,
 ⟨(.store 1), [.tmp 30, .tmp 28], none, none⟩])
 (.seqR [⟨.move, [.tmp 0], (some 31), none⟩,
 ⟨.nilCheck, [.tmp 31], (some 32), none⟩,
 ⟨(.fieldAddr 4), [.tmp 32], (some 33), none⟩,
 ⟨(.store 1), [.tmp 33, .const (.int .i64 4)], none, none⟩]))
 (.seq (.seqR [⟨(.bin .eql), [.tmp 9, .const (.int .i64 4)], (some 35), none⟩,
 ⟨.move, [.tmp 35], (some 34), none⟩])
 (.cond (.tmp 34) (.seqR [⟨.move, [.tmp 0], (some 36), none⟩,
 ⟨.nilCheck, [.tmp 36], (some 37), none⟩,
 ⟨(.fieldAddr 4), [.tmp 37], (some 38), none⟩,
 ⟨(.store 1), [.tmp 38, .const (.int .i64 5)], none, none⟩])
 (.seq (.seqR [⟨.move, [.tmp 0], (some 10), none⟩,
 ⟨.move, [.tmp 1], (some 11), none⟩,
 ⟨.nilCheck, [.tmp 10], (some 12), none⟩,
 ⟨(.fieldAddr 6), [.tmp 12], (some 13), none⟩,
 ⟨(.store 1), [.tmp 13, .tmp 11], none, none⟩])
 (.seq (.seqR [⟨.move, [.tmp 0], (some 14), none⟩,
 ⟨.nilCheck, [.tmp 14], (some 15), none⟩,
 ⟨(.fieldAddr 4), [.tmp 15], (some 16), none⟩,
 ⟨(.store 1), [.tmp 16, .const (.int .i64 4)], none, none⟩])
 (.seq (.seqR [⟨.move, [.tmp 2], (some 17), none⟩])
 (.cond (.tmp 17) (.seqR [⟨.move, [.tmp 0], (some 18), none⟩,
 ⟨(.callF 32), [.tmp 18, .const (.int .i64 0), .const (.int .u64 0)], (some 19), none⟩])
 .skip)))))))))))), []⟩
theorem c69_ok : compFunc Tryz.prog Tryz.f69 = some c69 := by kernel_rfl
theorem c69_body : hasBody Tryz.prog 69 = true := hasBody_of Tryz.func69 (by kernel_rfl)
/-- (*coachyard/coachyardref31.Frame).pop -/
def c70 : PFn := ⟨58, Tr.ofList (List.replicate 58 undefA), (.seq (.seqR [⟨.move, [.tmp 0], (some 6), none⟩,
 ⟨.nilCheck, [.tmp 6], (some 7), none⟩,
 ⟨(.fieldAddr 4), [.tmp 7], (some 8), none⟩,
 ⟨(.load false 1), [.tmp 8], (some 9), none⟩])
 (.block 0 (.seq (.seqR [⟨(.bin .eql), [.tmp 9, .const (.int .i64 1)], (some 35), none⟩,
 ⟨.move, [.tmp 35], (some 34), none⟩])
 (.cond (.tmp 34) (.seqR [⟨.move, [.tmp 0], (some 36), none⟩,
 ⟨.move, [.tmp 1], (some 37), none⟩,
 ⟨(.callF 87), [.tmp 36, .tmp 37], (some 38), none⟩])
 (.seq (.seqR [⟨(.bin .eql), [.tmp 9, .const (.int .i64 2)], (some 40), none⟩,
 ⟨.move, [.tmp 40], (some 39), none⟩])
 (.cond (.tmp 39) (.seq (.seqR [⟨.move, [.tmp 0], (some 41), none⟩,
 ⟨.move, [.tmp 1], (some 42), none⟩,
 ⟨.nilCheck, [.tmp 41], (some 43), none⟩,
 ⟨(.fieldAddr 7), [.tmp 43], (some 44), none⟩,
 ⟨(.store 1), [.tmp 44, .tmp 42], none, none⟩])
 (.seqR [⟨.move, [.tmp 0], (some 45), none⟩,
 ⟨.nilCheck, [.tmp 45], (some 46), none⟩,
 ⟨(.fieldAddr 4), [.tmp 46], (some 47), none⟩,
 ⟨(.store 1), [.tmp 47, .const (.int .i64 3)], none, none⟩]))
 (.seq (.seqR [⟨(.bin .eql), [.tmp 9, .const (.int .i64 3)], (some 49), none⟩,
 ⟨.move, [.tmp 49], (some 48), none⟩])
 (.cond (.tmp 48) (.seq (.seq (.seqR [⟨.move, [.tmp 2], (some 50), none⟩,
 ⟨.not, [.tmp 50], (some 51), none⟩])
 (.cond (.tmp 51) (.seq (.seqR [⟨.move, [.tmp 0], (some 52), none⟩,
 ⟨.move, [.tmp 1], (some 53), none⟩,
 ⟨(.callF 87), [.tmp 52, .tmp 53], (some 54), none⟩])
 .ret)
 .skip))
 (.seqR [⟨.move, [.tmp 0], (some 55), none⟩,
 ⟨.nilCheck, [.tmp 55], (some 56), none⟩,
 ⟨(.fieldAddr 4), [.tmp 56], (some 57), none⟩,
 ⟨(.store 1), [.tmp 57, .const (.int .i64 4)], none, none⟩]))
 (.seq (.seqR [⟨.move, [.tmp 0], (some 10), none⟩,
 ⟨.move, [.tmp 1], (some 11), none⟩,
 ⟨.nilCheck, [.tmp 10], (some 12), none⟩,
 ⟨(.fieldAddr 3), [.tmp 12], (some 13), none⟩,
 ⟨(.store 1), [.tmp 13, .tmp 11], none, none⟩])
 (.seq (.seqR [⟨.move, [.tmp 0], (some 14), none⟩,
 ⟨.nilCheck, [.tmp 14], (some 15), none⟩,
 ⟨(.fieldAddr 9), [.tmp 15], (some 16), none⟩,
 ⟨(.store 1), [.tmp 16, .const (.bool true)], none, none⟩])
 (.drawR [⟨⟨.move, [.tmp 0], (some 17), none⟩, false, false, 0, 1⟩,
 ⟨⟨.move, [.tmp 0], (some 18), none⟩, false, false, 0, 0⟩,
 ⟨⟨.nilCheck, [.tmp 18], (some 19), none⟩, false, false, 0, 0⟩,
 ⟨⟨(.fieldAddr 0), [.tmp 19], (some 20), none⟩, false, false, 0, 0⟩,
 ⟨⟨(.load false 1), [.tmp 20], (some 21), none⟩, false, false, 0, 0⟩,
 ⟨⟨(.bin .add), [.tmp 21, .const (.int .i64 1)], (some 22), none⟩, false, false, 0, 0⟩,
 ⟨⟨.move, [.tmp 0], (some 23), none⟩, false, false, 0, 0⟩,
 ⟨⟨.nilCheck, [.tmp 23], (some 24), none⟩, false, false, 0, 0⟩,
 ⟨⟨(.fieldAddr 1), [.tmp 24], (some 25), none⟩, false, false, 0, 0⟩,
 ⟨⟨(.load false 1), [.tmp 25], (some 26), none⟩, false, false, 0, 0⟩,
 ⟨⟨.move, [.tmp 0], (some 27), none⟩, false, false, 0, 0⟩,
 ⟨⟨.nilCheck, [.tmp 27], (some 28), none⟩, false, false, 0, 0⟩,
 ⟨⟨(.fieldAddr 8), [.tmp 28], (some 29), none⟩, false, false, 0, 0⟩,
 ⟨⟨(.load false 1), [.tmp 29], (some 30), none⟩, false, false, 0, 0⟩,
 ⟨⟨(.callF 88), [.tmp 22, .tmp 26, .tmp 30], (some 31), none⟩, true, false, 0, 1⟩,
 ⟨⟨.nilCheck, [.tmp 17], (some 32), none⟩, false, false, 1, 1⟩,
 ⟨⟨(.fieldAddr 5), [.tmp 32], (some 33), none⟩, false, false, 1, 1⟩,
 ⟨⟨(.store 1), [.tmp 33, .tmp 31], none, none⟩, true, false, 1, 2⟩]))))))))))), []⟩
theorem c70_ok : compFunc Tryz.prog Tryz.f70 = some c70 := by kernel_rfl
theorem c70_body : hasBody Tryz.prog 70 = true := hasBody_of Tryz.func70 (by kernel_rfl)
/-- coachyard/stack.node -/
def c71 : PFn := ⟨11, Tr.ofList (List.replicate 11 undefA), (.seq (.seqR [⟨.move, [.const (.int .u32 0)], (some 2), none⟩])
 (.seq (.seqR [⟨.move, [.tmp 0], (some 6), none⟩,
 ⟨(.callF 89), [.tmp 6], (some 7), none⟩,
 ⟨.move, [.tmp 7], (some 5), none⟩,
 ⟨(.extract 0), [.tmp 5], (some 8), none⟩,
 ⟨(.extract 1), [.tmp 5], (some 9), none⟩,
 ⟨.move, [.tmp 8], (some 3), none⟩,
 ⟨.move, [.tmp 9], (some 4), none⟩])
 (.seq (.seqR [⟨.move, [.tmp 4], (some 10), none⟩,
 ⟨.move, [.tmp 10], (some 2), none⟩])
 .ret))), [.tmp 2]⟩
theorem c71_ok : compFunc Tryz.prog Tryz.f71 = some c71 := by kernel_rfl
theorem c71_body : hasBody Tryz.prog 71 = true := hasBody_of Tryz.func71 (by kernel_rfl)
/-- (coachyard/stack.Pile).there -/
def c72 : PFn := ⟨14, Tr.ofList (List.replicate 14 undefA), (.seq (.seqR [⟨.box, [.tmp 0], (some 2), none⟩,
 ⟨.move, [.const (.bool false)], (some 4), none⟩])
 (.seq (.seqR [⟨.move, [.tmp 1], (some 5), none⟩,
 ⟨(.bin .geq), [.tmp 5, .const (.int .u32 1)], (some 6), none⟩,
 ⟨.move, [.tmp 6], (some 7), none⟩,
 ⟨.move, [.tmp 1], (some 8), some (7, true)⟩,
 ⟨(.conv .i64), [.tmp 8], (some 9), some (7, true)⟩,
 ⟨(.fieldAddr 1), [.tmp 2], (some 10), some (7, true)⟩,
 ⟨(.load false 1), [.tmp 10], (some 11), some (7, true)⟩,
 ⟨(.bin .leq), [.tmp 9, .tmp 11], (some 12), some (7, true)⟩,
 ⟨.pick, [.tmp 7, .tmp 12, .const (.bool false)], (some 13), none⟩,
 ⟨.move, [.tmp 13], (some 4), none⟩])
 .ret)), [.tmp 4]⟩
theorem c72_ok : compFunc Tryz.prog Tryz.f72 = some c72 := by kernel_rfl
theorem c72_body : hasBody Tryz.prog 72 = true := hasBody_of Tryz.func72 (by kernel_rfl)
/-- (coachyard/stack.Pile).below -/
def c73 : PFn := ⟨15, Tr.ofList (List.replicate 15 undefA), (.seq (.seqR [⟨.box, [.tmp 0], (some 2), none⟩,
 ⟨.move, [.const (.int .i64 0)], (some 4), none⟩])
 (.seq (.seqR [⟨(.fieldAddr 0), [.tmp 2], (some 5), none⟩,
 ⟨(.load false 1), [.tmp 5], (some 6), none⟩,
 ⟨(.bin .add), [.tmp 6, .const (.int .i64 1)], (some 7), none⟩,
 ⟨(.fieldAddr 1), [.tmp 2], (some 8), none⟩,
 ⟨(.load false 1), [.tmp 8], (some 9), none⟩,
 ⟨(.bin .mul), [.const (.int .i64 2), .tmp 9], (some 10), none⟩,
 ⟨(.bin .add), [.tmp 7, .tmp 10], (some 11), none⟩,
 ⟨.move, [.tmp 1], (some 12), none⟩,
 ⟨(.conv .i64), [.tmp 12], (some 13), none⟩,
 ⟨(.bin .add), [.tmp 11, .tmp 13], (some 14), none⟩,
 ⟨.move, [.tmp 14], (some 4), none⟩])
 .ret)), [.tmp 4]⟩
theorem c73_ok : compFunc Tryz.prog Tryz.f73 = some c73 := by kernel_rfl
theorem c73_body : hasBody Tryz.prog 73 = true := hasBody_of Tryz.func73 (by kernel_rfl)
/-- (coachyard/stack.pop).under -/
def c74 : PFn := ⟨13, Tr.ofList (List.replicate 13 undefA), (.seq (.seqR [⟨.box, [.tmp 0], (some 3), none⟩])
 (.drawR [⟨⟨(.fieldAddr 0), [.tmp 3], (some 6), none⟩, false, false, 0, 1⟩,
 ⟨⟨(.load false 1), [.tmp 6], (some 7), none⟩, false, false, 0, 1⟩,
 ⟨⟨.move, [.tmp 1], (some 8), none⟩, false, false, 0, 0⟩,
 ⟨⟨(.callF 71), [.tmp 8], (some 9), none⟩, true, false, 0, 1⟩,
 ⟨⟨(.load true 1), [.tmp 3], (some 10), none⟩, false, false, 0, 1⟩,
 ⟨⟨(.mkFunc (.func 91) 1), [.tmp 10], (some 11), none⟩, false, false, 0, 1⟩,
 ⟨⟨(.callF 90), [.tmp 7, .tmp 9, .tmp 11], (some 12), none⟩, true, false, 1, 2⟩])), []⟩
theorem c74_ok : compFunc Tryz.prog Tryz.f74 = some c74 := by kernel_rfl
theorem c74_body : hasBody Tryz.prog 74 = true := hasBody_of Tryz.func74 (by kernel_rfl)
/-- (*coachyard/cells.Mem).Len -/
def c75 : PFn := ⟨10, Tr.ofList (List.replicate 10 undefA), (.seq (.seqR [⟨.move, [.const (.int .i64 0)], (some 2), none⟩])
 (.seq (.seq (.seqR [⟨.move, [.tmp 0], (some 3), none⟩,
 ⟨(.eqPtr false), [.tmp 3, .const (.ptr none)], (some 4), none⟩])
 (.cond (.tmp 4) (.seq (.seqR [⟨.move, [.const (.int .i64 0)], (some 2), none⟩])
 .ret)
 .skip))
 (.seq (.seqR [⟨.move, [.tmp 0], (some 5), none⟩,
 ⟨.nilCheck, [.tmp 5], (some 6), none⟩,
 ⟨(.fieldAddr 0), [.tmp 6], (some 7), none⟩,
 ⟨(.load false 1), [.tmp 7], (some 8), none⟩,
 ⟨.lenS, [.tmp 8], (some 9), none⟩,
 ⟨.move, [.tmp 9], (some 2), none⟩])
 .ret))), [.tmp 2]⟩
theorem c75_ok : compFunc Tryz.prog Tryz.f75 = some c75 := by kernel_rfl
theorem c75_body : hasBody Tryz.prog 75 = true := hasBody_of Tryz.func75 (by kernel_rfl)
/-- coachyard/cells.of -/
def c76 : PFn := ⟨14, Tr.ofList (List.replicate 14 undefA), (.seq (.seqR [⟨.move, [.const .nilFunc], (some 2), none⟩])
 (.seq (.seqR [⟨(.build [.nilFunc, .nilFunc, .nilFunc, .nilFunc, .nilFunc, .nilFunc, .nilFunc, .nilFunc] [(0, 1), (1, 1), (2, 1), (3, 1), (4, 1), (5, 1), (6, 1), (7, 1)]), [.const .nilFunc, .const (.func (.func 92) [] []), .const (.func (.func 93) [] []), .const (.func (.func 94) [] []), .const (.func (.func 95) [] []), .const (.func (.func 96) [] []), .const (.func (.func 97) [] []), .const (.func (.func 98) [] [])], (some 4), none⟩,
 ⟨(.new [.nilFunc, .nilFunc, .nilFunc, .nilFunc, .nilFunc, .nilFunc, .nilFunc, .nilFunc]), [], (some 3), none⟩,
 ⟨(.store 8), [.tmp 3, .tmp 4], none, none⟩])
 (.seq (.seq (.seqR [⟨.move, [.tmp 0], (some 5), none⟩,
 ⟨(.bin .lss), [.tmp 5, .const (.int .i64 0)], (some 6), none⟩,
 ⟨.move, [.tmp 6], (some 7), none⟩,
 ⟨.move, [.tmp 0], (some 8), some (7, false)⟩,
 ⟨(.bin .geq), [.tmp 8, .const (.int .i64 8)], (some 9), some (7, false)⟩,
 ⟨.pick, [.tmp 7, .const (.bool true), .tmp 9], (some 10), none⟩])
 (.cond (.tmp 10) (.seq (.seqR [⟨.move, [.const .nilFunc], (some 2), none⟩])
 .ret)
 .skip))
 (.seq (.seqR [⟨.move, [.tmp 0], (some 11), none⟩,
 ⟨(.indexAddrA 8 1), [.tmp 3, .tmp 11], (some 12), none⟩,
 ⟨(.load false 1), [.tmp 12], (some 13), none⟩,
 ⟨.move, [.tmp 13], (some 2), none⟩])
 .ret)))), [.tmp 2]⟩
theorem c76_ok : compFunc Tryz.prog Tryz.f76 = some c76 := by kernel_rfl
theorem c76_body : hasBody Tryz.prog 76 = true := hasBody_of Tryz.func76 (by kernel_rfl)
/-- (coachyard/arena.Arena).check -/
def c77 : PFn := ⟨21, Tr.ofList (List.replicate 21 undefA), (.seq (.seqR [⟨.box, [.tmp 0], (some 2), none⟩,
 ⟨.move, [.const (.int .i64 0)], (some 4), none⟩])
 (.seq (.block 0 (.seq (.seqR [⟨.move, [.tmp 1], (some 6), none⟩,
 ⟨(.eqPtr false), [.tmp 6, .const (.ptr none)], (some 7), none⟩,
 ⟨.move, [.tmp 7], (some 5), none⟩])
 (.cond (.tmp 5) (.seq (.seqR [⟨.move, [.const (.int .i64 1)], (some 4), none⟩])
 .ret)
 (.seq (.seqR [⟨(.load true 2), [.tmp 2], (some 9), none⟩,
 ⟨(.callF 56), [.tmp 9], (some 10), none⟩,
 ⟨.not, [.tmp 10], (some 11), none⟩,
 ⟨.move, [.tmp 11], (some 8), none⟩])
 (.cond (.tmp 8) (.seq (.seqR [⟨.move, [.const (.int .i64 2)], (some 4), none⟩])
 .ret)
 (.seq (.drawR [⟨⟨.move, [.tmp 1], (some 13), none⟩, false, false, 0, 0⟩,
 ⟨⟨(.callF 75), [.tmp 13], (some 14), none⟩, true, false, 0, 1⟩,
 ⟨⟨(.fieldAddr 0), [.tmp 2], (some 15), none⟩, false, false, 0, 1⟩,
 ⟨⟨(.load false 1), [.tmp 15], (some 16), none⟩, false, false, 0, 1⟩,
 ⟨⟨(.fieldAddr 1), [.tmp 2], (some 17), none⟩, false, false, 0, 1⟩,
 ⟨⟨(.load false 1), [.tmp 17], (some 18), none⟩, false, false, 0, 1⟩,
 ⟨⟨(.bin .add), [.tmp 16, .tmp 18], (some 19), none⟩, false, false, 0, 1⟩,
 ⟨⟨(.bin .leq), [.tmp 14, .tmp 19], (some 20), none⟩, false, false, 1, 1⟩,
 ⟨⟨.move, [.tmp 20], (some 12), none⟩, false, false, 1, 1⟩])
 (.cond (.tmp 12) (.seq (.seqR [⟨.move, [.const (.int .i64 3)], (some 4), none⟩])
 .ret)
 .skip)))))))
 (.seq (.seqR [⟨.move, [.const (.int .i64 0)], (some 4), none⟩])
 .ret))), [.tmp 4]⟩
theorem c77_ok : compFunc Tryz.prog Tryz.f77 = some c77 := by kernel_rfl
theorem c77_body : hasBody Tryz.prog 77 = true := hasBody_of Tryz.func77 (by kernel_rfl)
/-- slices.Grow[[]uint64,uint64] -/
def c78 : PFn := ⟨27, Tr.ofList (List.replicate 27 undefA), (.seq (.seqR [⟨.move, [.const (.slice none 0 0 false)], (some 4), none⟩])
 (.seq (.seq (.seqR [⟨.move, [.tmp 1], (some 5), none⟩,
 ⟨(.bin .lss), [.tmp 5, .const (.int .i64 0)], (some 6), none⟩])
 (.cond (.tmp 6) .fail
 .skip))
 (.seq (.seq .fail
 (.seq (.seqR [⟨.move, [.tmp 1], (some 15), none⟩,
 ⟨(.bin .gtr), [.tmp 15, .const (.int .i64 0)], (some 16), none⟩])
 (.cond (.tmp 16) .fail
 .skip)))
 (.seq (.seqR [⟨.move, [.tmp 0], (some 26), none⟩,
 ⟨.move, [.tmp 26], (some 4), none⟩])
 .ret)))), [.tmp 4]⟩
theorem c78_ok : compFunc Tryz.prog Tryz.f78 = some c78 := by kernel_rfl
theorem c78_body : hasBody Tryz.prog 78 = true := hasBody_of Tryz.func78 (by kernel_rfl)
/-- (*coachyard/walk.Walk).End -/
def c79 : PFn := ⟨29, Tr.ofList (List.replicate 29 undefA), (.seq (.seqR [⟨.box, [.tmp 1], (some 3), none⟩])
 (.seq (.seqR [⟨.move, [.tmp 0], (some 4), none⟩,
 ⟨(.callF 54), [.tmp 4], (some 5), none⟩])
 (.cond (.tmp 5) (.seq (.seqR [⟨(.fieldAddr 2), [.tmp 3], (some 6), none⟩,
 ⟨(.load false 1), [.tmp 6], (some 7), none⟩,
 ⟨(.callF 48), [.tmp 7], (some 8), none⟩,
 ⟨(.fieldAddr 2), [.tmp 3], (some 9), none⟩,
 ⟨(.store 1), [.tmp 9, .tmp 8], none, none⟩])
 (.seq (.drawR [⟨⟨.move, [.tmp 0], (some 10), none⟩, false, false, 0, 0⟩,
 ⟨⟨.move, [.tmp 0], (some 11), none⟩, false, false, 0, 1⟩,
 ⟨⟨(.load true 3), [.tmp 3], (some 12), none⟩, false, false, 0, 1⟩,
 ⟨⟨.nilCheck, [.tmp 10], (some 13), none⟩, false, false, 0, 0⟩,
 ⟨⟨(.fieldAddr 8), [.tmp 13], (some 14), none⟩, false, false, 0, 0⟩,
 ⟨⟨(.store 1), [.tmp 14, .const (.bool true)], none, none⟩, true, false, 0, 1⟩,
 ⟨⟨.nilCheck, [.tmp 11], (some 15), none⟩, false, false, 1, 1⟩,
 ⟨⟨(.fieldAddr 9), [.tmp 15], (some 16), none⟩, false, false, 1, 1⟩,
 ⟨⟨(.store 3), [.tmp 16, .tmp 12], none, none⟩, true, false, 1, 2⟩])
 (.seqR [⟨.move, [.tmp 0], (some 17), none⟩,
 ⟨.move, [.tmp 0], (some 18), none⟩,
 ⟨.move, [.tmp 0], (some 19), none⟩,
 ⟨.move, [.tmp 0], (some 20), none⟩,
 ⟨.nilCheck, [.tmp 17], (some 21), none⟩,
 ⟨(.fieldAddr 5), [.tmp 21], (some 22), none⟩,
 ⟨(.store 1), [.tmp 22, .const (.bool false)], none, none⟩,
 ⟨.nilCheck, [.tmp 18], (some 23), none⟩,
 ⟨(.fieldAddr 4), [.tmp 23], (some 24), none⟩,
 ⟨(.store 1), [.tmp 24, .const .nilFunc], none, none⟩,
 ⟨.nilCheck, [.tmp 19], (some 25), none⟩,
 ⟨(.fieldAddr 6), [.tmp 25], (some 26), none⟩,
 ⟨(.store 1), [.tmp 26, .const (.ptr none)], none, none⟩,
 ⟨.nilCheck, [.tmp 20], (some 27), none⟩,
 ⟨(.fieldAddr 7), [.tmp 27], (some 28), none⟩,
 ⟨(.store 1), [.tmp 28, .const .nilFunc], none, none⟩])))
 .skip))), []⟩
theorem c79_ok : compFunc Tryz.prog Tryz.f79 = some c79 := by kernel_rfl
theorem c79_body : hasBody Tryz.prog 79 = true := hasBody_of Tryz.func79 (by kernel_rfl)
/-- coachyard/arena.low -/
def c80 : PFn := ⟨11, Tr.ofList (List.replicate 11 undefA), (.seq (.seqR [⟨.move, [.const (.int .u32 0)], (some 2), none⟩])
 (.seq (.seqR [⟨.move, [.tmp 0], (some 6), none⟩,
 ⟨(.callF 89), [.tmp 6], (some 7), none⟩,
 ⟨.move, [.tmp 7], (some 5), none⟩,
 ⟨(.extract 0), [.tmp 5], (some 8), none⟩,
 ⟨(.extract 1), [.tmp 5], (some 9), none⟩,
 ⟨.move, [.tmp 8], (some 3), none⟩,
 ⟨.move, [.tmp 9], (some 4), none⟩])
 (.seq (.seqR [⟨.move, [.tmp 4], (some 10), none⟩,
 ⟨.move, [.tmp 10], (some 2), none⟩])
 .ret))), [.tmp 2]⟩
theorem c80_ok : compFunc Tryz.prog Tryz.f80 = some c80 := by kernel_rfl
theorem c80_body : hasBody Tryz.prog 80 = true := hasBody_of Tryz.func80 (by kernel_rfl)
/-- (*coachyard/arena.take).link -/
def c81 : PFn := ⟨30, Tr.ofList (List.replicate 30 undefA), (.drawR [⟨⟨.move, [.tmp 0], (some 6), none⟩, false, false, 0, 2⟩,
 ⟨⟨.nilCheck, [.tmp 6], (some 7), none⟩, false, false, 0, 2⟩,
 ⟨⟨(.fieldAddr 2), [.tmp 7], (some 8), none⟩, false, false, 0, 2⟩,
 ⟨⟨(.load false 1), [.tmp 8], (some 9), none⟩, false, false, 0, 2⟩,
 ⟨⟨.move, [.tmp 0], (some 10), none⟩, false, false, 0, 2⟩,
 ⟨⟨.nilCheck, [.tmp 10], (some 11), none⟩, false, false, 0, 2⟩,
 ⟨⟨(.fieldAddr 0), [.tmp 11], (some 12), none⟩, false, false, 0, 2⟩,
 ⟨⟨(.fieldAddr 0), [.tmp 12], (some 13), none⟩, false, false, 0, 2⟩,
 ⟨⟨(.load false 1), [.tmp 13], (some 14), none⟩, false, false, 0, 2⟩,
 ⟨⟨.move, [.tmp 0], (some 15), none⟩, false, false, 0, 2⟩,
 ⟨⟨.nilCheck, [.tmp 15], (some 16), none⟩, false, false, 0, 2⟩,
 ⟨⟨(.fieldAddr 3), [.tmp 16], (some 17), none⟩, false, false, 0, 2⟩,
 ⟨⟨(.load false 1), [.tmp 17], (some 18), none⟩, false, false, 0, 2⟩,
 ⟨⟨.move, [.tmp 0], (some 19), none⟩, false, false, 0, 1⟩,
 ⟨⟨.nilCheck, [.tmp 19], (some 20), none⟩, false, false, 0, 1⟩,
 ⟨⟨(.fieldAddr 3), [.tmp 20], (some 21), none⟩, false, false, 0, 1⟩,
 ⟨⟨(.load false 1), [.tmp 21], (some 22), none⟩, false, false, 0, 1⟩,
 ⟨⟨.move, [.tmp 1], (some 23), none⟩, false, false, 0, 0⟩,
 ⟨⟨(.callF 80), [.tmp 23], (some 24), none⟩, true, false, 0, 1⟩,
 ⟨⟨(.callF 99), [.tmp 22, .tmp 24], (some 25), none⟩, true, false, 1, 2⟩,
 ⟨⟨(.build [(.int .i64 0), (.int .i64 0), (.int .u64 0), (.int .u64 0)] [(0, 1), (1, 1), (2, 1), (3, 1)]), [.const (.int .i64 3), .tmp 14, .tmp 18, .tmp 25], (some 26), none⟩, false, false, 2, 2⟩,
 ⟨⟨.move, [.tmp 0], (some 27), none⟩, false, false, 0, 2⟩,
 ⟨⟨(.mkFunc (.func 100) 1), [.tmp 27], (some 28), none⟩, false, false, 0, 2⟩,
 ⟨⟨(.callF 57), [.tmp 9, .tmp 26, .tmp 28], (some 29), none⟩, true, false, 2, 3⟩]), []⟩
theorem c81_ok : compFunc Tryz.prog Tryz.f81 = some c81 := by kernel_rfl
theorem c81_body : hasBody Tryz.prog 81 = true := hasBody_of Tryz.func81 (by kernel_rfl)
/-- (coachyard/stack.push).top -/
def c82 : PFn := ⟨34, Tr.ofList (List.replicate 34 undefA), (.seq (.seqR [⟨.box, [.tmp 0], (some 3), none⟩])
 (.seq (.seqR [⟨(.fieldAddr 0), [.tmp 3], (some 6), none⟩,
 ⟨(.load false 1), [.tmp 6], (some 7), none⟩,
 ⟨.move, [.tmp 1], (some 8), none⟩,
 ⟨.nilCheck, [.tmp 7], (some 9), none⟩,
 ⟨(.fieldAddr 3), [.tmp 9], (some 10), none⟩,
 ⟨(.store 1), [.tmp 10, .tmp 8], none, none⟩])
 (.drawR [⟨⟨(.fieldAddr 0), [.tmp 3], (some 11), none⟩, false, false, 0, 2⟩,
 ⟨⟨(.load false 1), [.tmp 11], (some 12), none⟩, false, false, 0, 2⟩,
 ⟨⟨.nilCheck, [.tmp 12], (some 13), none⟩, false, false, 0, 2⟩,
 ⟨⟨(.fieldAddr 2), [.tmp 13], (some 14), none⟩, false, false, 0, 2⟩,
 ⟨⟨(.load false 1), [.tmp 14], (some 15), none⟩, false, false, 0, 2⟩,
 ⟨⟨(.fieldAddr 0), [.tmp 3], (some 16), none⟩, false, false, 0, 0⟩,
 ⟨⟨(.load false 1), [.tmp 16], (some 17), none⟩, false, false, 0, 0⟩,
 ⟨⟨.nilCheck, [.tmp 17], (some 18), none⟩, false, false, 0, 0⟩,
 ⟨⟨(.fieldAddr 0), [.tmp 18], (some 19), none⟩, false, false, 0, 0⟩,
 ⟨⟨(.load true 2), [.tmp 19], (some 20), none⟩, false, false, 0, 0⟩,
 ⟨⟨(.fieldAddr 0), [.tmp 3], (some 21), none⟩, false, false, 0, 0⟩,
 ⟨⟨(.load false 1), [.tmp 21], (some 22), none⟩, false, false, 0, 0⟩,
 ⟨⟨.nilCheck, [.tmp 22], (some 23), none⟩, false, false, 0, 0⟩,
 ⟨⟨(.fieldAddr 4), [.tmp 23], (some 24), none⟩, false, false, 0, 0⟩,
 ⟨⟨(.load false 1), [.tmp 24], (some 25), none⟩, false, false, 0, 0⟩,
 ⟨⟨(.callF 73), [.tmp 20, .tmp 25], (some 26), none⟩, true, false, 0, 1⟩,
 ⟨⟨.move, [.tmp 1], (some 27), none⟩, false, false, 0, 1⟩,
 ⟨⟨(.callF 71), [.tmp 27], (some 28), none⟩, true, false, 1, 2⟩,
 ⟨⟨(.conv .u64), [.tmp 28], (some 29), none⟩, false, false, 2, 2⟩,
 ⟨⟨(.build [(.int .i64 0), (.int .i64 0), (.int .u64 0), (.int .u64 0)] [(0, 1), (1, 1), (2, 1)]), [.const (.int .i64 2), .tmp 26, .tmp 29], (some 30), none⟩, false, false, 2, 2⟩,
 ⟨⟨(.load true 1), [.tmp 3], (some 31), none⟩, false, false, 0, 2⟩,
 ⟨⟨(.mkFunc (.func 101) 1), [.tmp 31], (some 32), none⟩, false, false, 0, 2⟩,
 ⟨⟨(.callF 57), [.tmp 15, .tmp 30, .tmp 32], (some 33), none⟩, true, false, 2, 3⟩]))), []⟩
theorem c82_ok : compFunc Tryz.prog Tryz.f82 = some c82 := by kernel_rfl
theorem c82_body : hasBody Tryz.prog 82 = true := hasBody_of Tryz.func82 (by kernel_rfl)
/-- (*coachyard/coachyardref06.Frame).next -/
def c83 : PFn := ⟨13, Tr.ofList (List.replicate 13 undefA), (.seq (.seqR [⟨.move, [.const (.int .u64 0)], (some 4), none⟩])
 (.seq (.seqR [⟨.move, [.tmp 0], (some 5), none⟩,
 ⟨.nilCheck, [.tmp 5], (some 6), none⟩,
 ⟨(.fieldAddr 5), [.tmp 6], (some 7), none⟩,
 ⟨(.load false 1), [.tmp 7], (some 8), none⟩,
 ⟨(.callF 85), [.tmp 8], (some 9), none⟩,
 ⟨(.bin .add), [.tmp 9, .const (.int .u32 1)], (some 10), none⟩,
 ⟨.move, [.tmp 1], (some 11), none⟩,
 ⟨(.callF 84), [.tmp 10, .tmp 11], (some 12), none⟩,
 ⟨.move, [.tmp 12], (some 4), none⟩])
 .ret)), [.tmp 4]⟩
theorem c83_ok : compFunc Tryz.prog Tryz.f83 = some c83 := by kernel_rfl
theorem c83_body : hasBody Tryz.prog 83 = true := hasBody_of Tryz.func83 (by kernel_rfl)
/-- coachyard/coachyardref01.Pair -/
def c84 : PFn := ⟨11, Tr.ofList (List.replicate 11 undefA), (.seq (.seqR [⟨.move, [.const (.int .u64 0)], (some 4), none⟩])
 (.seq (.seqR [⟨.move, [.tmp 0], (some 5), none⟩,
 ⟨(.conv .u64), [.tmp 5], (some 6), none⟩,
 ⟨(.bin .mul), [.tmp 6, .const (.int .u64 4294967296)], (some 7), none⟩,
 ⟨.move, [.tmp 1], (some 8), none⟩,
 ⟨(.conv .u64), [.tmp 8], (some 9), none⟩,
 ⟨(.bin .add), [.tmp 7, .tmp 9], (some 10), none⟩,
 ⟨.move, [.tmp 10], (some 4), none⟩])
 .ret)), [.tmp 4]⟩
theorem c84_ok : compFunc Tryz.prog Tryz.f84 = some c84 := by kernel_rfl
theorem c84_body : hasBody Tryz.prog 84 = true := hasBody_of Tryz.func84 (by kernel_rfl)
/-- coachyard/coachyardref01.Hi -/
def c85 : PFn := ⟨6, Tr.ofList (List.replicate 6 undefA), (.seq (.seqR [⟨.move, [.const (.int .u32 0)], (some 2), none⟩])
 (.seq (.seqR [⟨.move, [.tmp 0], (some 3), none⟩,
 ⟨(.bin .quo), [.tmp 3, .const (.int .u64 4294967296)], (some 4), none⟩,
 ⟨(.conv .u32), [.tmp 4], (some 5), none⟩,
 ⟨.move, [.tmp 5], (some 2), none⟩])
 .ret)), [.tmp 2]⟩
theorem c85_ok : compFunc Tryz.prog Tryz.f85 = some c85 := by kernel_rfl
theorem c85_body : hasBody Tryz.prog 85 = true := hasBody_of Tryz.func85 (by kernel_rfl)
/-- (*coachyard/coachyardref06.Frame).head -/
def c86 : PFn := ⟨31, Tr.ofList (List.replicate 31 undefA), (.seq (.seqR [⟨.move, [.tmp 0], (some 5), none⟩,
 ⟨.move, [.tmp 1], (some 6), none⟩,
 ⟨.nilCheck, [.tmp 5], (some 7), none⟩,
 ⟨(.fieldAddr 5), [.tmp 7], (some 8), none⟩,
 ⟨(.store 1), [.tmp 8, .tmp 6], none, none⟩])
 (.seq (.seqR [⟨.move, [.tmp 0], (some 9), none⟩,
 ⟨.nilCheck, [.tmp 9], (some 10), none⟩,
 ⟨(.fieldAddr 4), [.tmp 10], (some 11), none⟩,
 ⟨(.store 1), [.tmp 11, .const (.int .i64 2)], none, none⟩])
 (.seq (.seq (.seqR [⟨.move, [.tmp 0], (some 12), none⟩,
 ⟨.nilCheck, [.tmp 12], (some 13), none⟩,
 ⟨(.fieldAddr 2), [.tmp 13], (some 14), none⟩,
 ⟨(.load false 1), [.tmp 14], (some 15), none⟩])
 (.cond (.tmp 15) .ret
 .skip))
 (.seq (.seqR [⟨.move, [.tmp 1], (some 16), none⟩,
 ⟨(.callF 64), [.tmp 16], (some 17), none⟩,
 ⟨(.conv .i64), [.tmp 17], (some 18), none⟩,
 ⟨.move, [.tmp 18], (some 4), none⟩])
 (.seq (.seqR [⟨.move, [.tmp 4], (some 19), none⟩,
 ⟨(.bin .eql), [.tmp 19, .const (.int .i64 0)], (some 20), none⟩])
 (.cond (.tmp 20) (.seqR [⟨.move, [.tmp 0], (some 21), none⟩,
 ⟨(.callF 62), [.tmp 21, .const (.int .i64 7), .const (.int .u64 0)], (some 22), none⟩])
 (.seq (.seqR [⟨.move, [.tmp 4], (some 23), none⟩,
 ⟨.move, [.tmp 0], (some 24), none⟩,
 ⟨.nilCheck, [.tmp 24], (some 25), none⟩,
 ⟨(.fieldAddr 1), [.tmp 25], (some 26), none⟩,
 ⟨(.load false 1), [.tmp 26], (some 27), none⟩,
 ⟨(.bin .gtr), [.tmp 23, .tmp 27], (some 28), none⟩])
 (.cond (.tmp 28) (.seqR [⟨.move, [.tmp 0], (some 29), none⟩,
 ⟨(.callF 62), [.tmp 29, .const (.int .i64 9), .const (.int .u64 0)], (some 30), none⟩])
 .skip)))))))), []⟩
theorem c86_ok : compFunc Tryz.prog Tryz.f86 = some c86 := by kernel_rfl
theorem c86_body : hasBody Tryz.prog 86 = true := hasBody_of Tryz.func86 (by kernel_rfl)
/-- (*coachyard/coachyardref31.Frame).top -/
def c87 : PFn := ⟨35, Tr.ofList (List.replicate 35 undefA), (.seq (.seqR [⟨.move, [.tmp 0], (some 4), none⟩,
 ⟨.move, [.tmp 1], (some 5), none⟩,
 ⟨.nilCheck, [.tmp 4], (some 6), none⟩,
 ⟨(.fieldAddr 6), [.tmp 6], (some 7), none⟩,
 ⟨(.store 1), [.tmp 7, .tmp 5], none, none⟩])
 (.seq (.seqR [⟨.move, [.tmp 0], (some 8), none⟩,
 ⟨.move, [.tmp 1], (some 9), none⟩,
 ⟨(.callF 64), [.tmp 9], (some 10), none⟩,
 ⟨(.conv .i64), [.tmp 10], (some 11), none⟩,
 ⟨.nilCheck, [.tmp 8], (some 12), none⟩,
 ⟨(.fieldAddr 8), [.tmp 12], (some 13), none⟩,
 ⟨(.store 1), [.tmp 13, .tmp 11], none, none⟩])
 (.seq (.seqR [⟨.move, [.tmp 0], (some 14), none⟩,
 ⟨.nilCheck, [.tmp 14], (some 15), none⟩,
 ⟨(.fieldAddr 4), [.tmp 15], (some 16), none⟩,
 ⟨(.store 1), [.tmp 16, .const (.int .i64 2)], none, none⟩])
 (.seq (.seqR [⟨.move, [.tmp 0], (some 17), none⟩,
 ⟨.nilCheck, [.tmp 17], (some 18), none⟩,
 ⟨(.fieldAddr 8), [.tmp 18], (some 19), none⟩,
 ⟨(.load false 1), [.tmp 19], (some 20), none⟩,
 ⟨(.bin .eql), [.tmp 20, .const (.int .i64 0)], (some 21), none⟩])
 (.cond (.tmp 21) (.seqR [⟨.move, [.tmp 0], (some 22), none⟩,
 ⟨(.callF 32), [.tmp 22, .const (.int .i64 5), .const (.int .u64 0)], (some 23), none⟩])
 (.seq (.drawR [⟨⟨.move, [.tmp 0], (some 24), none⟩, false, false, 0, 0⟩,
 ⟨⟨.nilCheck, [.tmp 24], (some 25), none⟩, false, false, 0, 0⟩,
 ⟨⟨(.fieldAddr 8), [.tmp 25], (some 26), none⟩, false, false, 0, 0⟩,
 ⟨⟨(.load false 1), [.tmp 26], (some 27), none⟩, false, false, 0, 0⟩,
 ⟨⟨.move, [.tmp 0], (some 28), none⟩, false, false, 0, 0⟩,
 ⟨⟨.nilCheck, [.tmp 28], (some 29), none⟩, false, false, 0, 0⟩,
 ⟨⟨(.fieldAddr 1), [.tmp 29], (some 30), none⟩, false, false, 0, 0⟩,
 ⟨⟨(.load false 1), [.tmp 30], (some 31), none⟩, false, false, 0, 0⟩,
 ⟨⟨(.bin .gtr), [.tmp 27, .tmp 31], (some 32), none⟩, false, false, 0, 0⟩])
 (.cond (.tmp 32) (.seqR [⟨.move, [.tmp 0], (some 33), none⟩,
 ⟨(.callF 32), [.tmp 33, .const (.int .i64 9), .const (.int .u64 0)], (some 34), none⟩])
 .skip))))))), []⟩
theorem c87_ok : compFunc Tryz.prog Tryz.f87 = some c87 := by kernel_rfl
theorem c87_body : hasBody Tryz.prog 87 = true := hasBody_of Tryz.func87 (by kernel_rfl)
/-- coachyard/coachyardref06.Put -/
def c88 : PFn := ⟨29, Tr.ofList (List.replicate 29 undefA), (.seq (.seqR [⟨.move, [.const (.ptr none)], (some 6), none⟩])
 (.seq (.seqR [⟨.move, [.tmp 0], (some 8), none⟩,
 ⟨.move, [.tmp 1], (some 9), none⟩,
 ⟨.move, [.tmp 2], (some 10), none⟩,
 ⟨(.build [(.int .i64 0), (.int .i64 0), (.bool false), (.int .i64 0), (.int .i64 0), (.int .u64 0), (.int .u64 0), (.bool false), (.int .i64 0), (.int .u64 0), (.slice none 0 0 false)] [(0, 1), (1, 1), (2, 1), (3, 1), (4, 1)]), [.tmp 8, .tmp 9, .const (.bool true), .tmp 10, .const (.int .i64 1)], (some 11), none⟩,
 ⟨.box, [.tmp 11], (some 12), none⟩,
 ⟨.move, [.tmp 12], (some 7), none⟩])
 (.seq (.seq (.seqR [⟨.move, [.tmp 0], (some 13), none⟩,
 ⟨.move, [.tmp 1], (some 14), none⟩,
 ⟨(.callF 61), [.tmp 13, .tmp 14], (some 15), none⟩,
 ⟨.not, [.tmp 15], (some 16), none⟩,
 ⟨.move, [.tmp 16], (some 17), none⟩,
 ⟨.move, [.tmp 2], (some 18), some (17, false)⟩,
 ⟨(.bin .lss), [.tmp 18, .const (.int .i64 1)], (some 19), some (17, false)⟩,
 ⟨.pick, [.tmp 17, .const (.bool true), .tmp 19], (some 20), none⟩,
 ⟨.move, [.tmp 20], (some 21), none⟩,
 ⟨.move, [.tmp 2], (some 22), some (21, false)⟩,
 ⟨.move, [.tmp 1], (some 23), some (21, false)⟩,
 ⟨(.bin .gtr), [.tmp 22, .tmp 23], (some 24), some (21, false)⟩,
 ⟨.pick, [.tmp 21, .const (.bool true), .tmp 24], (some 25), none⟩])
 (.cond (.tmp 25) (.seqR [⟨.move, [.tmp 7], (some 26), none⟩,
 ⟨(.callF 62), [.tmp 26, .const (.int .i64 2), .const (.int .u64 0)], (some 27), none⟩])
 .skip))
 (.seq (.seqR [⟨.move, [.tmp 7], (some 28), none⟩,
 ⟨.move, [.tmp 28], (some 6), none⟩])
 .ret)))), [.tmp 6]⟩
theorem c88_ok : compFunc Tryz.prog Tryz.f88 = some c88 := by kernel_rfl
theorem c88_body : hasBody Tryz.prog 88 = true := hasBody_of Tryz.func88 (by kernel_rfl)
/-- coachyard/word.Split -/
def c89 : PFn := ⟨9, Tr.ofList (List.replicate 9 undefA), (.seq (.seqR [⟨.move, [.const (.int .u32 0)], (some 2), none⟩,
 ⟨.move, [.const (.int .u32 0)], (some 3), none⟩])
 (.seq (.seqR [⟨.move, [.tmp 0], (some 4), none⟩,
 ⟨(.bin .shr), [.tmp 4, .const (.int .u64 32)], (some 5), none⟩,
 ⟨(.conv .u32), [.tmp 5], (some 6), none⟩,
 ⟨.move, [.tmp 0], (some 7), none⟩,
 ⟨(.conv .u32), [.tmp 7], (some 8), none⟩,
 ⟨.move, [.tmp 6], (some 2), none⟩,
 ⟨.move, [.tmp 8], (some 3), none⟩])
 .ret)), [.tmp 2, .tmp 3]⟩
theorem c89_ok : compFunc Tryz.prog Tryz.f89 = some c89 := by kernel_rfl
theorem c89_body : hasBody Tryz.prog 89 = true := hasBody_of Tryz.func89 (by kernel_rfl)
/-- (*coachyard/stack.way).swing -/
def c90 : PFn := ⟨36, Tr.ofList (List.replicate 36 undefA), (.seq (.seqR [⟨.move, [.tmp 0], (some 9), none⟩,
 ⟨.nilCheck, [.tmp 9], (some 10), none⟩,
 ⟨(.fieldAddr 3), [.tmp 10], (some 11), none⟩,
 ⟨(.load false 1), [.tmp 11], (some 12), none⟩,
 ⟨(.callF 89), [.tmp 12], (some 13), none⟩,
 ⟨.move, [.tmp 13], (some 8), none⟩,
 ⟨(.extract 0), [.tmp 8], (some 14), none⟩,
 ⟨(.extract 1), [.tmp 8], (some 15), none⟩,
 ⟨.move, [.tmp 14], (some 6), none⟩,
 ⟨.move, [.tmp 15], (some 7), none⟩])
 (.drawR [⟨⟨.move, [.tmp 0], (some 16), none⟩, false, false, 0, 1⟩,
 ⟨⟨.nilCheck, [.tmp 16], (some 17), none⟩, false, false, 0, 1⟩,
 ⟨⟨(.fieldAddr 2), [.tmp 17], (some 18), none⟩, false, false, 0, 1⟩,
 ⟨⟨(.load false 1), [.tmp 18], (some 19), none⟩, false, false, 0, 1⟩,
 ⟨⟨.move, [.tmp 0], (some 20), none⟩, false, false, 0, 1⟩,
 ⟨⟨.nilCheck, [.tmp 20], (some 21), none⟩, false, false, 0, 1⟩,
 ⟨⟨(.fieldAddr 0), [.tmp 21], (some 22), none⟩, false, false, 0, 1⟩,
 ⟨⟨(.fieldAddr 0), [.tmp 22], (some 23), none⟩, false, false, 0, 1⟩,
 ⟨⟨(.load false 1), [.tmp 23], (some 24), none⟩, false, false, 0, 1⟩,
 ⟨⟨.move, [.tmp 0], (some 25), none⟩, false, false, 0, 1⟩,
 ⟨⟨.nilCheck, [.tmp 25], (some 26), none⟩, false, false, 0, 1⟩,
 ⟨⟨(.fieldAddr 3), [.tmp 26], (some 27), none⟩, false, false, 0, 1⟩,
 ⟨⟨(.load false 1), [.tmp 27], (some 28), none⟩, false, false, 0, 1⟩,
 ⟨⟨.move, [.tmp 6], (some 29), none⟩, false, false, 0, 0⟩,
 ⟨⟨(.bin .add), [.tmp 29, .const (.int .u32 1)], (some 30), none⟩, false, false, 0, 0⟩,
 ⟨⟨.move, [.tmp 1], (some 31), none⟩, false, false, 0, 0⟩,
 ⟨⟨(.callF 102), [.tmp 30, .tmp 31], (some 32), none⟩, true, false, 0, 1⟩,
 ⟨⟨(.build [(.int .i64 0), (.int .i64 0), (.int .u64 0), (.int .u64 0)] [(0, 1), (1, 1), (2, 1), (3, 1)]), [.const (.int .i64 3), .tmp 24, .tmp 28, .tmp 32], (some 33), none⟩, false, false, 1, 1⟩,
 ⟨⟨.move, [.tmp 2], (some 34), none⟩, false, false, 0, 1⟩,
 ⟨⟨(.callF 57), [.tmp 19, .tmp 33, .tmp 34], (some 35), none⟩, true, false, 1, 2⟩])), []⟩
theorem c90_ok : compFunc Tryz.prog Tryz.f90 = some c90 := by kernel_rfl
theorem c90_body : hasBody Tryz.prog 90 = true := hasBody_of Tryz.func90 (by kernel_rfl)
/-- (coachyard/stack.pop).tried -/
def c91 : PFn := ⟨27, Tr.ofList (List.replicate 27 undefA), (.seq (.seqR [⟨.box, [.tmp 0], (some 3), none⟩])
 (.seq (.seq (.seqR [⟨.move, [.tmp 2], (some 6), none⟩,
 ⟨.not, [.tmp 6], (some 7), none⟩])
 (.cond (.tmp 7) (.seq (.seqR [⟨(.load true 1), [.tmp 3], (some 8), none⟩,
 ⟨.move, [.tmp 1], (some 9), none⟩,
 ⟨(.callF 40), [.tmp 8, .tmp 9, .const (.bool true)], (some 10), none⟩])
 .ret)
 .skip))
 (.drawR [⟨⟨(.fieldAddr 0), [.tmp 3], (some 11), none⟩, false, false, 0, 1⟩,
 ⟨⟨(.load false 1), [.tmp 11], (some 12), none⟩, false, false, 0, 1⟩,
 ⟨⟨(.fieldAddr 0), [.tmp 3], (some 13), none⟩, false, false, 0, 0⟩,
 ⟨⟨(.load false 1), [.tmp 13], (some 14), none⟩, false, false, 0, 0⟩,
 ⟨⟨.nilCheck, [.tmp 14], (some 15), none⟩, false, false, 0, 0⟩,
 ⟨⟨(.fieldAddr 0), [.tmp 15], (some 16), none⟩, false, false, 0, 0⟩,
 ⟨⟨(.load true 2), [.tmp 16], (some 17), none⟩, false, false, 0, 0⟩,
 ⟨⟨(.fieldAddr 0), [.tmp 3], (some 18), none⟩, false, false, 0, 0⟩,
 ⟨⟨(.load false 1), [.tmp 18], (some 19), none⟩, false, false, 0, 0⟩,
 ⟨⟨.nilCheck, [.tmp 19], (some 20), none⟩, false, false, 0, 0⟩,
 ⟨⟨(.fieldAddr 4), [.tmp 20], (some 21), none⟩, false, false, 0, 0⟩,
 ⟨⟨(.load false 1), [.tmp 21], (some 22), none⟩, false, false, 0, 0⟩,
 ⟨⟨(.callF 59), [.tmp 17, .tmp 22], (some 23), none⟩, true, false, 0, 1⟩,
 ⟨⟨(.load true 1), [.tmp 3], (some 24), none⟩, false, false, 0, 1⟩,
 ⟨⟨(.mkFunc (.func 103) 1), [.tmp 24], (some 25), none⟩, false, false, 0, 1⟩,
 ⟨⟨(.callF 39), [.tmp 12, .tmp 23, .tmp 25], (some 26), none⟩, true, false, 1, 2⟩]))), []⟩
theorem c91_ok : compFunc Tryz.prog Tryz.f91 = some c91 := by kernel_rfl
theorem c91_body : hasBody Tryz.prog 91 = true := hasBody_of Tryz.func91 (by kernel_rfl)
/-- coachyard/cells.load -/
def c92 : PFn := ⟨7, Tr.ofList (List.replicate 7 undefA), (.seq (.seqR [⟨.box, [.tmp 1], (some 3), none⟩,
 ⟨.move, [.const (.int .u64 0)], (some 4), none⟩,
 ⟨.move, [.const (.bool false)], (some 5), none⟩])
 (.seq (.seqR [⟨.move, [.tmp 0], (some 6), none⟩,
 ⟨.move, [.tmp 6], (some 4), none⟩,
 ⟨.move, [.const (.bool true)], (some 5), none⟩])
 .ret)), [.tmp 4, .tmp 5]⟩
theorem c92_ok : compFunc Tryz.prog Tryz.f92 = some c92 := by kernel_rfl
theorem c92_body : hasBody Tryz.prog 92 = true := hasBody_of Tryz.func92 (by kernel_rfl)
/-- coachyard/cells.store -/
def c93 : PFn := ⟨8, Tr.ofList (List.replicate 8 undefA), (.seq (.seqR [⟨.box, [.tmp 1], (some 3), none⟩,
 ⟨.move, [.const (.int .u64 0)], (some 4), none⟩,
 ⟨.move, [.const (.bool false)], (some 5), none⟩])
 (.seq (.seqR [⟨(.fieldAddr 2), [.tmp 3], (some 6), none⟩,
 ⟨(.load false 1), [.tmp 6], (some 7), none⟩,
 ⟨.move, [.tmp 7], (some 4), none⟩,
 ⟨.move, [.const (.bool true)], (some 5), none⟩])
 .ret)), [.tmp 4, .tmp 5]⟩
theorem c93_ok : compFunc Tryz.prog Tryz.f93 = some c93 := by kernel_rfl
theorem c93_body : hasBody Tryz.prog 93 = true := hasBody_of Tryz.func93 (by kernel_rfl)
/-- coachyard/cells.cas -/
def c94 : PFn := ⟨13, Tr.ofList (List.replicate 13 undefA), (.seq (.seqR [⟨.box, [.tmp 1], (some 3), none⟩,
 ⟨.move, [.const (.int .u64 0)], (some 4), none⟩,
 ⟨.move, [.const (.bool false)], (some 5), none⟩])
 (.seq (.seq (.seqR [⟨.move, [.tmp 0], (some 6), none⟩,
 ⟨(.fieldAddr 2), [.tmp 3], (some 7), none⟩,
 ⟨(.load false 1), [.tmp 7], (some 8), none⟩,
 ⟨(.bin .neq), [.tmp 6, .tmp 8], (some 9), none⟩])
 (.cond (.tmp 9) (.seq (.seqR [⟨.move, [.tmp 0], (some 10), none⟩,
 ⟨.move, [.tmp 10], (some 4), none⟩,
 ⟨.move, [.const (.bool false)], (some 5), none⟩])
 .ret)
 .skip))
 (.seq (.seqR [⟨(.fieldAddr 3), [.tmp 3], (some 11), none⟩,
 ⟨(.load false 1), [.tmp 11], (some 12), none⟩,
 ⟨.move, [.tmp 12], (some 4), none⟩,
 ⟨.move, [.const (.bool true)], (some 5), none⟩])
 .ret))), [.tmp 4, .tmp 5]⟩
theorem c94_ok : compFunc Tryz.prog Tryz.f94 = some c94 := by kernel_rfl
theorem c94_body : hasBody Tryz.prog 94 = true := hasBody_of Tryz.func94 (by kernel_rfl)
/-- coachyard/cells.add -/
def c95 : PFn := ⟨10, Tr.ofList (List.replicate 10 undefA), (.seq (.seqR [⟨.box, [.tmp 1], (some 3), none⟩,
 ⟨.move, [.const (.int .u64 0)], (some 4), none⟩,
 ⟨.move, [.const (.bool false)], (some 5), none⟩])
 (.seq (.seqR [⟨.move, [.tmp 0], (some 6), none⟩,
 ⟨(.fieldAddr 2), [.tmp 3], (some 7), none⟩,
 ⟨(.load false 1), [.tmp 7], (some 8), none⟩,
 ⟨(.bin .add), [.tmp 6, .tmp 8], (some 9), none⟩,
 ⟨.move, [.tmp 9], (some 4), none⟩,
 ⟨.move, [.const (.bool true)], (some 5), none⟩])
 .ret)), [.tmp 4, .tmp 5]⟩
theorem c95_ok : compFunc Tryz.prog Tryz.f95 = some c95 := by kernel_rfl
theorem c95_body : hasBody Tryz.prog 95 = true := hasBody_of Tryz.func95 (by kernel_rfl)
/-- coachyard/cells.or -/
def c96 : PFn := ⟨10, Tr.ofList (List.replicate 10 undefA), (.seq (.seqR [⟨.box, [.tmp 1], (some 3), none⟩,
 ⟨.move, [.const (.int .u64 0)], (some 4), none⟩,
 ⟨.move, [.const (.bool false)], (some 5), none⟩])
 (.seq (.seqR [⟨.move, [.tmp 0], (some 6), none⟩,
 ⟨(.fieldAddr 2), [.tmp 3], (some 7), none⟩,
 ⟨(.load false 1), [.tmp 7], (some 8), none⟩,
 ⟨(.bin .or), [.tmp 6, .tmp 8], (some 9), none⟩,
 ⟨.move, [.tmp 9], (some 4), none⟩,
 ⟨.move, [.const (.bool true)], (some 5), none⟩])
 .ret)), [.tmp 4, .tmp 5]⟩
theorem c96_ok : compFunc Tryz.prog Tryz.f96 = some c96 := by kernel_rfl
theorem c96_body : hasBody Tryz.prog 96 = true := hasBody_of Tryz.func96 (by kernel_rfl)
/-- coachyard/cells.and -/
def c97 : PFn := ⟨10, Tr.ofList (List.replicate 10 undefA), (.seq (.seqR [⟨.box, [.tmp 1], (some 3), none⟩,
 ⟨.move, [.const (.int .u64 0)], (some 4), none⟩,
 ⟨.move, [.const (.bool false)], (some 5), none⟩])
 (.seq (.seqR [⟨.move, [.tmp 0], (some 6), none⟩,
 ⟨(.fieldAddr 2), [.tmp 3], (some 7), none⟩,
 ⟨(.load false 1), [.tmp 7], (some 8), none⟩,
 ⟨(.bin .and), [.tmp 6, .tmp 8], (some 9), none⟩,
 ⟨.move, [.tmp 9], (some 4), none⟩,
 ⟨.move, [.const (.bool true)], (some 5), none⟩])
 .ret)), [.tmp 4, .tmp 5]⟩
theorem c97_ok : compFunc Tryz.prog Tryz.f97 = some c97 := by kernel_rfl
theorem c97_body : hasBody Tryz.prog 97 = true := hasBody_of Tryz.func97 (by kernel_rfl)
/-- coachyard/cells.wait -/
def c98 : PFn := ⟨11, Tr.ofList (List.replicate 11 undefA), (.seq (.seqR [⟨.box, [.tmp 1], (some 3), none⟩,
 ⟨.move, [.const (.int .u64 0)], (some 4), none⟩,
 ⟨.move, [.const (.bool false)], (some 5), none⟩])
 (.seq (.drawR [⟨⟨.move, [.tmp 0], (some 6), none⟩, false, false, 0, 0⟩,
 ⟨⟨.move, [.tmp 0], (some 7), none⟩, false, false, 0, 0⟩,
 ⟨⟨(.fieldAddr 2), [.tmp 3], (some 8), none⟩, false, false, 0, 0⟩,
 ⟨⟨(.load false 1), [.tmp 8], (some 9), none⟩, false, false, 0, 0⟩,
 ⟨⟨(.bin .neq), [.tmp 7, .tmp 9], (some 10), none⟩, false, false, 0, 0⟩,
 ⟨⟨.move, [.tmp 6], (some 4), none⟩, false, false, 0, 0⟩,
 ⟨⟨.move, [.tmp 10], (some 5), none⟩, false, false, 0, 0⟩])
 .ret)), [.tmp 4, .tmp 5]⟩
theorem c98_ok : compFunc Tryz.prog Tryz.f98 = some c98 := by kernel_rfl
theorem c98_body : hasBody Tryz.prog 98 = true := hasBody_of Tryz.func98 (by kernel_rfl)
/-- coachyard/arena.turned -/
def c99 : PFn := ⟨16, Tr.ofList (List.replicate 16 undefA), (.seq (.seqR [⟨.move, [.const (.int .u64 0)], (some 4), none⟩])
 (.seq (.seqR [⟨.move, [.tmp 0], (some 8), none⟩,
 ⟨(.callF 89), [.tmp 8], (some 9), none⟩,
 ⟨.move, [.tmp 9], (some 7), none⟩,
 ⟨(.extract 0), [.tmp 7], (some 10), none⟩,
 ⟨(.extract 1), [.tmp 7], (some 11), none⟩,
 ⟨.move, [.tmp 10], (some 5), none⟩,
 ⟨.move, [.tmp 11], (some 6), none⟩])
 (.seq (.seqR [⟨.move, [.tmp 5], (some 12), none⟩,
 ⟨(.bin .add), [.tmp 12, .const (.int .u32 1)], (some 13), none⟩,
 ⟨.move, [.tmp 1], (some 14), none⟩,
 ⟨(.callF 102), [.tmp 13, .tmp 14], (some 15), none⟩,
 ⟨.move, [.tmp 15], (some 4), none⟩])
 .ret))), [.tmp 4]⟩
theorem c99_ok : compFunc Tryz.prog Tryz.f99 = some c99 := by kernel_rfl
theorem c99_body : hasBody Tryz.prog 99 = true := hasBody_of Tryz.func99 (by kernel_rfl)
/-- (*coachyard/arena.take).won -/
def c100 : PFn := ⟨23, Tr.ofList (List.replicate 23 undefA), (.seq (.seq (.seqR [⟨.move, [.tmp 2], (some 6), none⟩,
 ⟨.not, [.tmp 6], (some 7), none⟩])
 (.cond (.tmp 7) (.seq (.seqR [⟨.move, [.tmp 0], (some 8), none⟩,
 ⟨.move, [.tmp 1], (some 9), none⟩,
 ⟨(.callF 58), [.tmp 8, .tmp 9, .const (.bool true)], (some 10), none⟩])
 .ret)
 .skip))
 (.drawR [⟨⟨.move, [.tmp 0], (some 11), none⟩, false, false, 0, 1⟩,
 ⟨⟨.nilCheck, [.tmp 11], (some 12), none⟩, false, false, 0, 1⟩,
 ⟨⟨(.fieldAddr 2), [.tmp 12], (some 13), none⟩, false, false, 0, 1⟩,
 ⟨⟨(.load false 1), [.tmp 13], (some 14), none⟩, false, false, 0, 1⟩,
 ⟨⟨.move, [.tmp 0], (some 15), none⟩, false, false, 0, 0⟩,
 ⟨⟨.nilCheck, [.tmp 15], (some 16), none⟩, false, false, 0, 0⟩,
 ⟨⟨(.fieldAddr 3), [.tmp 16], (some 17), none⟩, false, false, 0, 0⟩,
 ⟨⟨(.load false 1), [.tmp 17], (some 18), none⟩, false, false, 0, 0⟩,
 ⟨⟨(.callF 80), [.tmp 18], (some 19), none⟩, true, false, 0, 1⟩,
 ⟨⟨(.conv .u64), [.tmp 19], (some 20), none⟩, false, false, 1, 1⟩,
 ⟨⟨(.build [(.int .i64 0), (.int .u64 0), (.slice none 0 0 false)] [(1, 1)]), [.tmp 20], (some 21), none⟩, false, false, 1, 1⟩,
 ⟨⟨(.callF 79), [.tmp 14, .tmp 21], (some 22), none⟩, true, false, 1, 2⟩])), []⟩
theorem c100_ok : compFunc Tryz.prog Tryz.f100 = some c100 := by kernel_rfl
theorem c100_body : hasBody Tryz.prog 100 = true := hasBody_of Tryz.func100 (by kernel_rfl)
/-- (coachyard/stack.push).linked -/
def c101 : PFn := ⟨16, Tr.ofList (List.replicate 16 undefA), (.seq (.seqR [⟨.box, [.tmp 0], (some 3), none⟩])
 (.drawR [⟨⟨(.fieldAddr 0), [.tmp 3], (some 6), none⟩, false, false, 0, 0⟩,
 ⟨⟨(.load false 1), [.tmp 6], (some 7), none⟩, false, false, 0, 0⟩,
 ⟨⟨(.fieldAddr 0), [.tmp 3], (some 8), none⟩, false, false, 0, 0⟩,
 ⟨⟨(.load false 1), [.tmp 8], (some 9), none⟩, false, false, 0, 0⟩,
 ⟨⟨.nilCheck, [.tmp 9], (some 10), none⟩, false, false, 0, 0⟩,
 ⟨⟨(.fieldAddr 4), [.tmp 10], (some 11), none⟩, false, false, 0, 0⟩,
 ⟨⟨(.load false 1), [.tmp 11], (some 12), none⟩, false, false, 0, 0⟩,
 ⟨⟨(.load true 1), [.tmp 3], (some 13), none⟩, false, false, 0, 0⟩,
 ⟨⟨(.mkFunc (.func 104) 1), [.tmp 13], (some 14), none⟩, false, false, 0, 0⟩,
 ⟨⟨(.callF 90), [.tmp 7, .tmp 12, .tmp 14], (some 15), none⟩, true, false, 0, 1⟩])), []⟩
theorem c101_ok : compFunc Tryz.prog Tryz.f101 = some c101 := by kernel_rfl
theorem c101_body : hasBody Tryz.prog 101 = true := hasBody_of Tryz.func101 (by kernel_rfl)
/-- coachyard/word.Pair -/
def c102 : PFn := ⟨11, Tr.ofList (List.replicate 11 undefA), (.seq (.seqR [⟨.move, [.const (.int .u64 0)], (some 4), none⟩])
 (.seq (.seqR [⟨.move, [.tmp 0], (some 5), none⟩,
 ⟨(.conv .u64), [.tmp 5], (some 6), none⟩,
 ⟨(.bin .shl), [.tmp 6, .const (.int .u64 32)], (some 7), none⟩,
 ⟨.move, [.tmp 1], (some 8), none⟩,
 ⟨(.conv .u64), [.tmp 8], (some 9), none⟩,
 ⟨(.bin .or), [.tmp 7, .tmp 9], (some 10), none⟩,
 ⟨.move, [.tmp 10], (some 4), none⟩])
 .ret)), [.tmp 4]⟩
theorem c102_ok : compFunc Tryz.prog Tryz.f102 = some c102 := by kernel_rfl
theorem c102_body : hasBody Tryz.prog 102 = true := hasBody_of Tryz.func102 (by kernel_rfl)
/-- (coachyard/stack.pop).got -/
def c103 : PFn := ⟨40, Tr.ofList (List.replicate 40 undefA), (.seq (.seqR [⟨.box, [.tmp 0], (some 3), none⟩])
 (.seq (.seqR [⟨(.fieldAddr 0), [.tmp 3], (some 6), none⟩,
 ⟨(.load false 1), [.tmp 6], (some 7), none⟩,
 ⟨.move, [.tmp 1], (some 8), none⟩,
 ⟨.nilCheck, [.tmp 7], (some 9), none⟩,
 ⟨(.fieldAddr 5), [.tmp 9], (some 10), none⟩,
 ⟨(.store 1), [.tmp 10, .tmp 8], none, none⟩])
 (.seq (.seqR [⟨(.fieldAddr 0), [.tmp 3], (some 11), none⟩,
 ⟨(.load false 1), [.tmp 11], (some 12), none⟩,
 ⟨.nilCheck, [.tmp 12], (some 13), none⟩,
 ⟨(.fieldAddr 2), [.tmp 13], (some 14), none⟩,
 ⟨(.load false 1), [.tmp 14], (some 15), none⟩,
 ⟨.move, [.tmp 1], (some 16), none⟩,
 ⟨(.sliceLit 1 [(.int .u64 0)] [(0, 1)]), [.tmp 16], (some 17), none⟩,
 ⟨(.callF 28), [.tmp 15, .tmp 17], (some 18), none⟩])
 (.drawR [⟨⟨(.fieldAddr 0), [.tmp 3], (some 19), none⟩, false, false, 0, 2⟩,
 ⟨⟨(.load false 1), [.tmp 19], (some 20), none⟩, false, false, 0, 2⟩,
 ⟨⟨.nilCheck, [.tmp 20], (some 21), none⟩, false, false, 0, 2⟩,
 ⟨⟨(.fieldAddr 2), [.tmp 21], (some 22), none⟩, false, false, 0, 2⟩,
 ⟨⟨(.load false 1), [.tmp 22], (some 23), none⟩, false, false, 0, 2⟩,
 ⟨⟨(.fieldAddr 0), [.tmp 3], (some 24), none⟩, false, false, 0, 0⟩,
 ⟨⟨(.load false 1), [.tmp 24], (some 25), none⟩, false, false, 0, 0⟩,
 ⟨⟨.nilCheck, [.tmp 25], (some 26), none⟩, false, false, 0, 0⟩,
 ⟨⟨(.fieldAddr 0), [.tmp 26], (some 27), none⟩, false, false, 0, 0⟩,
 ⟨⟨(.load true 2), [.tmp 27], (some 28), none⟩, false, false, 0, 0⟩,
 ⟨⟨(.callF 5), [.tmp 28], (some 29), none⟩, true, false, 0, 1⟩,
 ⟨⟨(.fieldAddr 0), [.tmp 3], (some 30), none⟩, false, false, 0, 1⟩,
 ⟨⟨(.load false 1), [.tmp 30], (some 31), none⟩, false, false, 0, 1⟩,
 ⟨⟨.nilCheck, [.tmp 31], (some 32), none⟩, false, false, 0, 1⟩,
 ⟨⟨(.fieldAddr 4), [.tmp 32], (some 33), none⟩, false, false, 0, 1⟩,
 ⟨⟨(.load false 1), [.tmp 33], (some 34), none⟩, false, false, 0, 1⟩,
 ⟨⟨(.conv .i64), [.tmp 34], (some 35), none⟩, false, false, 0, 1⟩,
 ⟨⟨(.callF 105), [.tmp 29, .tmp 35], (some 36), none⟩, true, false, 1, 2⟩,
 ⟨⟨(.load true 1), [.tmp 3], (some 37), none⟩, false, false, 0, 2⟩,
 ⟨⟨(.mkFunc (.func 106) 1), [.tmp 37], (some 38), none⟩, false, false, 0, 2⟩,
 ⟨⟨(.callF 29), [.tmp 23, .tmp 36, .tmp 38], (some 39), none⟩, true, false, 2, 3⟩])))), []⟩
theorem c103_ok : compFunc Tryz.prog Tryz.f103 = some c103 := by kernel_rfl
theorem c103_body : hasBody Tryz.prog 103 = true := hasBody_of Tryz.func103 (by kernel_rfl)
/-- (coachyard/stack.push).tried -/
def c104 : PFn := ⟨24, Tr.ofList (List.replicate 24 undefA), (.seq (.seqR [⟨.box, [.tmp 0], (some 3), none⟩])
 (.seq (.seq (.seqR [⟨.move, [.tmp 2], (some 6), none⟩,
 ⟨.not, [.tmp 6], (some 7), none⟩])
 (.cond (.tmp 7) (.seq (.seqR [⟨(.load true 1), [.tmp 3], (some 8), none⟩,
 ⟨.move, [.tmp 1], (some 9), none⟩,
 ⟨(.callF 82), [.tmp 8, .tmp 9, .const (.bool true)], (some 10), none⟩])
 .ret)
 .skip))
 (.seq (.seqR [⟨(.fieldAddr 0), [.tmp 3], (some 11), none⟩,
 ⟨(.load false 1), [.tmp 11], (some 12), none⟩,
 ⟨.nilCheck, [.tmp 12], (some 13), none⟩,
 ⟨(.fieldAddr 2), [.tmp 13], (some 14), none⟩,
 ⟨(.load false 1), [.tmp 14], (some 15), none⟩,
 ⟨(.callF 28), [.tmp 15, .const (.slice none 0 0 false)], (some 16), none⟩])
 (.seqR [⟨(.fieldAddr 0), [.tmp 3], (some 17), none⟩,
 ⟨(.load false 1), [.tmp 17], (some 18), none⟩,
 ⟨.nilCheck, [.tmp 18], (some 19), none⟩,
 ⟨(.fieldAddr 2), [.tmp 19], (some 20), none⟩,
 ⟨(.load false 1), [.tmp 20], (some 21), none⟩,
 ⟨(.build [(.int .i64 0), (.int .u64 0), (.slice none 0 0 false)] []), [], (some 22), none⟩,
 ⟨(.callF 79), [.tmp 21, .tmp 22], (some 23), none⟩])))), []⟩
theorem c104_ok : compFunc Tryz.prog Tryz.f104 = some c104 := by kernel_rfl
theorem c104_body : hasBody Tryz.prog 104 = true := hasBody_of Tryz.func104 (by kernel_rfl)
/-- (coachyard/arena.Arena).Put -/
def c105 : PFn := ⟨12, Tr.ofList (List.replicate 12 undefA), (.seq (.seqR [⟨.box, [.tmp 0], (some 2), none⟩,
 ⟨.box, [.tmp 1], (some 3), none⟩,
 ⟨.move, [.const (.ptr none)], (some 4), none⟩])
 (.seq (.seqR [⟨(.load true 2), [.tmp 2], (some 6), none⟩,
 ⟨(.load false 1), [.tmp 3], (some 7), none⟩,
 ⟨(.build [(.int .i64 0), (.int .i64 0), (.ptr none), (.int .i64 0), (.int .u64 0)] [(0, 2), (3, 1)]), [.tmp 6, .tmp 7], (some 8), none⟩,
 ⟨.box, [.tmp 8], (some 9), none⟩,
 ⟨(.new [(.ptr none)]), [], (some 5), none⟩,
 ⟨(.store 1), [.tmp 5, .tmp 9], none, none⟩])
 (.seq (.seqR [⟨(.mkFunc (.func 107) 0), [.tmp 5, .tmp 2, .tmp 3], (some 10), none⟩,
 ⟨(.callF 51), [.tmp 10], (some 11), none⟩,
 ⟨.move, [.tmp 11], (some 4), none⟩])
 .ret))), [.tmp 4]⟩
theorem c105_ok : compFunc Tryz.prog Tryz.f105 = some c105 := by kernel_rfl
theorem c105_body : hasBody Tryz.prog 105 = true := hasBody_of Tryz.func105 (by kernel_rfl)
end Go.Proofs.YtmgfamnongagbaaGreat
