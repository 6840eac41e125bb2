/- The code of the small machine for some of the program's functions: printed by program; each is what the rules make of the program's own. -/
import Derived.Test.YtmgfamnongagbaaGreatVx16
import Derived.Test.YtmgfamnongagbaaGreatProg
import Derived.KernelRfl
namespace Go.Proofs.YtmgfamnongagbaaGreat
open Go Go.Vx Go.Proofs
/-- (coachyard/stack.pop).freed -/
def c106 : PFn := ⟨26, Tr.ofList (List.replicate 26 undefA), (.seq (.seqR [⟨.box, [.tmp 0], (some 2), none⟩,
 ⟨.box, [.tmp 1], (some 3), none⟩])
 (.seq (.seqR [⟨(.fieldAddr 0), [.tmp 2], (some 4), none⟩,
 ⟨(.load false 1), [.tmp 4], (some 5), none⟩,
 ⟨.nilCheck, [.tmp 5], (some 6), none⟩,
 ⟨(.fieldAddr 2), [.tmp 6], (some 7), none⟩,
 ⟨(.load false 1), [.tmp 7], (some 8), none⟩,
 ⟨(.callF 28), [.tmp 8, .const (.slice none 0 0 false)], (some 9), none⟩])
 (.seq (.seq (.seqR [⟨(.fieldAddr 0), [.tmp 3], (some 10), none⟩,
 ⟨(.load false 1), [.tmp 10], (some 11), none⟩,
 ⟨(.bin .eql), [.tmp 11, .const (.int .i64 0)], (some 12), none⟩])
 (.cond (.tmp 12) (.seqR [⟨(.fieldAddr 0), [.tmp 2], (some 13), none⟩,
 ⟨(.load false 1), [.tmp 13], (some 14), none⟩,
 ⟨.nilCheck, [.tmp 14], (some 15), none⟩,
 ⟨(.fieldAddr 5), [.tmp 15], (some 16), none⟩,
 ⟨(.load false 1), [.tmp 16], (some 17), none⟩,
 ⟨(.fieldAddr 1), [.tmp 3], (some 18), none⟩,
 ⟨(.store 1), [.tmp 18, .tmp 17], none, none⟩])
 .skip))
 (.drawR [⟨⟨(.fieldAddr 0), [.tmp 2], (some 19), none⟩, false, false, 0, 0⟩,
 ⟨⟨(.load false 1), [.tmp 19], (some 20), none⟩, false, false, 0, 0⟩,
 ⟨⟨.nilCheck, [.tmp 20], (some 21), none⟩, false, false, 0, 0⟩,
 ⟨⟨(.fieldAddr 2), [.tmp 21], (some 22), none⟩, false, false, 0, 0⟩,
 ⟨⟨(.load false 1), [.tmp 22], (some 23), none⟩, false, false, 0, 0⟩,
 ⟨⟨(.load true 3), [.tmp 3], (some 24), none⟩, false, false, 0, 0⟩,
 ⟨⟨(.callF 79), [.tmp 23, .tmp 24], (some 25), none⟩, true, false, 0, 1⟩])))), []⟩
theorem c106_ok : compFunc Tryz.prog Tryz.f106 = some c106 := by kernel_rfl
theorem c106_body : hasBody Tryz.prog 106 = true := hasBody_of Tryz.func106 (by kernel_rfl)
/-- (coachyard/arena.Arena).Put$1 -/
def c107 : PFn := ⟨31, Tr.ofList (List.replicate 31 undefA), (.seq (.seqR [⟨(.load false 1), [.tmp 1], (some 5), none⟩,
 ⟨.move, [.tmp 0], (some 6), none⟩,
 ⟨.nilCheck, [.tmp 5], (some 7), none⟩,
 ⟨(.fieldAddr 2), [.tmp 7], (some 8), none⟩,
 ⟨(.store 1), [.tmp 8, .tmp 6], none, none⟩])
 (.seq (.seq (.seqR [⟨(.load true 2), [.tmp 2], (some 9), none⟩,
 ⟨(.callF 56), [.tmp 9], (some 10), none⟩,
 ⟨.not, [.tmp 10], (some 11), none⟩,
 ⟨.move, [.tmp 11], (some 12), none⟩,
 ⟨(.load false 1), [.tmp 3], (some 13), some (12, false)⟩,
 ⟨(.bin .lss), [.tmp 13, .const (.int .i64 1)], (some 14), some (12, false)⟩,
 ⟨.pick, [.tmp 12, .const (.bool true), .tmp 14], (some 15), none⟩,
 ⟨.move, [.tmp 15], (some 16), none⟩,
 ⟨(.load false 1), [.tmp 3], (some 17), some (16, false)⟩,
 ⟨(.fieldAddr 1), [.tmp 2], (some 18), some (16, false)⟩,
 ⟨(.load false 1), [.tmp 18], (some 19), some (16, false)⟩,
 ⟨(.bin .gtr), [.tmp 17, .tmp 19], (some 20), some (16, false)⟩,
 ⟨.pick, [.tmp 16, .const (.bool true), .tmp 20], (some 21), none⟩])
 (.cond (.tmp 21) (.seq (.seqR [⟨.move, [.tmp 0], (some 22), none⟩,
 ⟨(.callF 53), [.tmp 22, .const (.int .i64 2)], (some 23), none⟩])
 .ret)
 .skip))
 (.seqR [⟨.move, [.tmp 0], (some 24), none⟩,
 ⟨(.fieldAddr 0), [.tmp 2], (some 25), none⟩,
 ⟨(.load false 1), [.tmp 25], (some 26), none⟩,
 ⟨(.build [(.int .i64 0), (.int .i64 0), (.int .u64 0), (.int .u64 0)] [(0, 1), (1, 1)]), [.const (.int .i64 1), .tmp 26], (some 27), none⟩,
 ⟨(.load false 1), [.tmp 1], (some 28), none⟩,
 ⟨(.mkFunc (.func 108) 1), [.tmp 28], (some 29), none⟩,
 ⟨(.callF 57), [.tmp 24, .tmp 27, .tmp 29], (some 30), none⟩]))), []⟩
theorem c107_ok : compFunc Tryz.prog Tryz.f107 = some c107 := by kernel_rfl
theorem c107_body : hasBody Tryz.prog 107 = true := hasBody_of Tryz.func107 (by kernel_rfl)
/-- (*coachyard/arena.put).head -/
def c108 : PFn := ⟨31, Tr.ofList (List.replicate 31 undefA), (.seq (.seqR [⟨.move, [.tmp 0], (some 6), none⟩,
 ⟨.move, [.tmp 1], (some 7), none⟩,
 ⟨.nilCheck, [.tmp 6], (some 8), none⟩,
 ⟨(.fieldAddr 4), [.tmp 8], (some 9), none⟩,
 ⟨(.store 1), [.tmp 9, .tmp 7], none, none⟩])
 (.drawR [⟨⟨.move, [.tmp 0], (some 10), none⟩, false, false, 0, 1⟩,
 ⟨⟨.nilCheck, [.tmp 10], (some 11), none⟩, false, false, 0, 1⟩,
 ⟨⟨(.fieldAddr 2), [.tmp 11], (some 12), none⟩, false, false, 0, 1⟩,
 ⟨⟨(.load false 1), [.tmp 12], (some 13), none⟩, false, false, 0, 1⟩,
 ⟨⟨.move, [.tmp 0], (some 14), none⟩, false, false, 0, 1⟩,
 ⟨⟨.nilCheck, [.tmp 14], (some 15), none⟩, false, false, 0, 1⟩,
 ⟨⟨(.fieldAddr 0), [.tmp 15], (some 16), none⟩, false, false, 0, 1⟩,
 ⟨⟨(.fieldAddr 0), [.tmp 16], (some 17), none⟩, false, false, 0, 1⟩,
 ⟨⟨(.load false 1), [.tmp 17], (some 18), none⟩, false, false, 0, 1⟩,
 ⟨⟨.move, [.tmp 0], (some 19), none⟩, false, false, 0, 1⟩,
 ⟨⟨.nilCheck, [.tmp 19], (some 20), none⟩, false, false, 0, 1⟩,
 ⟨⟨(.fieldAddr 3), [.tmp 20], (some 21), none⟩, false, false, 0, 1⟩,
 ⟨⟨(.load false 1), [.tmp 21], (some 22), none⟩, false, false, 0, 1⟩,
 ⟨⟨(.bin .add), [.tmp 18, .tmp 22], (some 23), none⟩, false, false, 0, 1⟩,
 ⟨⟨.move, [.tmp 1], (some 24), none⟩, false, false, 0, 0⟩,
 ⟨⟨(.callF 80), [.tmp 24], (some 25), none⟩, true, false, 0, 1⟩,
 ⟨⟨(.conv .u64), [.tmp 25], (some 26), none⟩, false, false, 1, 1⟩,
 ⟨⟨(.build [(.int .i64 0), (.int .i64 0), (.int .u64 0), (.int .u64 0)] [(0, 1), (1, 1), (2, 1)]), [.const (.int .i64 2), .tmp 23, .tmp 26], (some 27), none⟩, false, false, 1, 1⟩,
 ⟨⟨.move, [.tmp 0], (some 28), none⟩, false, false, 0, 1⟩,
 ⟨⟨(.mkFunc (.func 109) 1), [.tmp 28], (some 29), none⟩, false, false, 0, 1⟩,
 ⟨⟨(.callF 57), [.tmp 13, .tmp 27, .tmp 29], (some 30), none⟩, true, false, 1, 2⟩])), []⟩
theorem c108_ok : compFunc Tryz.prog Tryz.f108 = some c108 := by kernel_rfl
theorem c108_body : hasBody Tryz.prog 108 = true := hasBody_of Tryz.func108 (by kernel_rfl)
/-- (*coachyard/arena.put).linked -/
def c109 : PFn := ⟨33, Tr.ofList (List.replicate 33 undefA), (.drawR [⟨⟨.move, [.tmp 0], (some 6), none⟩, false, false, 0, 1⟩,
 ⟨⟨.nilCheck, [.tmp 6], (some 7), none⟩, false, false, 0, 1⟩,
 ⟨⟨(.fieldAddr 2), [.tmp 7], (some 8), none⟩, false, false, 0, 1⟩,
 ⟨⟨(.load false 1), [.tmp 8], (some 9), none⟩, false, false, 0, 1⟩,
 ⟨⟨.move, [.tmp 0], (some 10), none⟩, false, false, 0, 1⟩,
 ⟨⟨.nilCheck, [.tmp 10], (some 11), none⟩, false, false, 0, 1⟩,
 ⟨⟨(.fieldAddr 0), [.tmp 11], (some 12), none⟩, false, false, 0, 1⟩,
 ⟨⟨(.fieldAddr 0), [.tmp 12], (some 13), none⟩, false, false, 0, 1⟩,
 ⟨⟨(.load false 1), [.tmp 13], (some 14), none⟩, false, false, 0, 1⟩,
 ⟨⟨.move, [.tmp 0], (some 15), none⟩, false, false, 0, 1⟩,
 ⟨⟨.nilCheck, [.tmp 15], (some 16), none⟩, false, false, 0, 1⟩,
 ⟨⟨(.fieldAddr 4), [.tmp 16], (some 17), none⟩, false, false, 0, 1⟩,
 ⟨⟨(.load false 1), [.tmp 17], (some 18), none⟩, false, false, 0, 1⟩,
 ⟨⟨.move, [.tmp 0], (some 19), none⟩, false, false, 0, 0⟩,
 ⟨⟨.nilCheck, [.tmp 19], (some 20), none⟩, false, false, 0, 0⟩,
 ⟨⟨(.fieldAddr 4), [.tmp 20], (some 21), none⟩, false, false, 0, 0⟩,
 ⟨⟨(.load false 1), [.tmp 21], (some 22), none⟩, false, false, 0, 0⟩,
 ⟨⟨.move, [.tmp 0], (some 23), none⟩, false, false, 0, 0⟩,
 ⟨⟨.nilCheck, [.tmp 23], (some 24), none⟩, false, false, 0, 0⟩,
 ⟨⟨(.fieldAddr 3), [.tmp 24], (some 25), none⟩, false, false, 0, 0⟩,
 ⟨⟨(.load false 1), [.tmp 25], (some 26), none⟩, false, false, 0, 0⟩,
 ⟨⟨(.conv .u32), [.tmp 26], (some 27), none⟩, false, false, 0, 0⟩,
 ⟨⟨(.callF 99), [.tmp 22, .tmp 27], (some 28), none⟩, true, false, 0, 1⟩,
 ⟨⟨(.build [(.int .i64 0), (.int .i64 0), (.int .u64 0), (.int .u64 0)] [(0, 1), (1, 1), (2, 1), (3, 1)]), [.const (.int .i64 3), .tmp 14, .tmp 18, .tmp 28], (some 29), none⟩, false, false, 1, 1⟩,
 ⟨⟨.move, [.tmp 0], (some 30), none⟩, false, false, 0, 1⟩,
 ⟨⟨(.mkFunc (.func 110) 1), [.tmp 30], (some 31), none⟩, false, false, 0, 1⟩,
 ⟨⟨(.callF 57), [.tmp 9, .tmp 29, .tmp 31], (some 32), none⟩, true, false, 1, 2⟩]), []⟩
theorem c109_ok : compFunc Tryz.prog Tryz.f109 = some c109 := by kernel_rfl
theorem c109_body : hasBody Tryz.prog 109 = true := hasBody_of Tryz.func109 (by kernel_rfl)
/-- (*coachyard/arena.put).won -/
def c110 : PFn := ⟨17, Tr.ofList (List.replicate 17 undefA), (.seq (.seq (.seqR [⟨.move, [.tmp 2], (some 6), none⟩,
 ⟨.not, [.tmp 6], (some 7), none⟩])
 (.cond (.tmp 7) (.seq (.seqR [⟨.move, [.tmp 0], (some 8), none⟩,
 ⟨.move, [.tmp 1], (some 9), none⟩,
 ⟨(.callF 108), [.tmp 8, .tmp 9, .const (.bool true)], (some 10), none⟩])
 .ret)
 .skip))
 (.seqR [⟨.move, [.tmp 0], (some 11), none⟩,
 ⟨.nilCheck, [.tmp 11], (some 12), none⟩,
 ⟨(.fieldAddr 2), [.tmp 12], (some 13), none⟩,
 ⟨(.load false 1), [.tmp 13], (some 14), none⟩,
 ⟨(.build [(.int .i64 0), (.int .u64 0), (.slice none 0 0 false)] []), [], (some 15), none⟩,
 ⟨(.callF 79), [.tmp 14, .tmp 15], (some 16), none⟩])), []⟩
theorem c110_ok : compFunc Tryz.prog Tryz.f110 = some c110 := by kernel_rfl
theorem c110_body : hasBody Tryz.prog 110 = true := hasBody_of Tryz.func110 (by kernel_rfl)
end Go.Proofs.YtmgfamnongagbaaGreat
