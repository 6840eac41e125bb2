/- The code of the small machine for some of the program's functions: printed by program; each is what the rules make of the program's own. -/
import Derived.Test.YtfpamakhkkdikaaGreatDoorVx16
import Derived.Test.YtfpamakhkkdikaaGreatDoorProg
import Derived.KernelRfl
namespace Go.Proofs.YtfpamakhkkdikaaGreatDoor
open Go Go.Vx Go.Proofs
/-- coachyard/local.Peek -/
def c146 : PFn := ⟨9, Tr.ofList (List.replicate 9 undefA), (.seq (.seqR [⟨.box, [.tmp 0], (some 1), none⟩,
 ⟨.move, [.const (.ptr none)], (some 2), none⟩])
 (.seq (.seq (.seqR [⟨(.load true 2), [.tmp 1], (some 3), none⟩,
 ⟨(.callF 128), [.tmp 3], (some 4), none⟩,
 ⟨.not, [.tmp 4], (some 5), none⟩])
 (.cond (.tmp 5) (.seq (.seqR [⟨(.callF 172), [], (some 6), none⟩,
 ⟨.move, [.tmp 6], (some 2), none⟩])
 .ret)
 .skip))
 (.seq (.seqR [⟨(.mkFunc (.func 179) 0), [.tmp 1], (some 7), none⟩,
 ⟨(.callF 46), [.tmp 7], (some 8), none⟩,
 ⟨.move, [.tmp 8], (some 2), none⟩])
 .ret))), [.tmp 2]⟩
theorem c146_ok : compFunc Tryz.prog Tryz.f146 = some c146 := by kernel_rfl
theorem c146_body : hasBody Tryz.prog 146 = true := hasBody_of Tryz.func146 (by kernel_rfl)
/-- (coachyard/park.Spot).Wait -/
def c147 : PFn := ⟨8, Tr.ofList (List.replicate 8 undefA), (.seq (.seqR [⟨.box, [.tmp 0], (some 2), none⟩,
 ⟨.box, [.tmp 1], (some 3), none⟩,
 ⟨.move, [.const (.ptr none)], (some 4), none⟩])
 (.seq (.seqR [⟨(.load true 1), [.tmp 2], (some 5), none⟩,
 ⟨(.mkFunc (.func 182) 0), [.tmp 2, .tmp 3], (some 6), none⟩,
 ⟨(.callF 136), [.tmp 5, .tmp 6], (some 7), none⟩,
 ⟨.move, [.tmp 7], (some 4), none⟩])
 .ret)), [.tmp 4]⟩
theorem c147_ok : compFunc Tryz.prog Tryz.f147 = some c147 := by kernel_rfl
theorem c147_body : hasBody Tryz.prog 147 = true := hasBody_of Tryz.func147 (by kernel_rfl)
/-- (*coachyard/pool.parker).leave -/
def c148 : PFn := ⟨27, Tr.ofList (List.replicate 27 undefA), (.seq (.seqR [⟨.box, [.tmp 1], (some 3), none⟩])
 (.drawR [⟨⟨.move, [.tmp 0], (some 4), none⟩, false, false, 0, 2⟩,
 ⟨⟨.nilCheck, [.tmp 4], (some 5), none⟩, false, false, 0, 2⟩,
 ⟨⟨(.fieldAddr 0), [.tmp 5], (some 6), none⟩, false, false, 0, 2⟩,
 ⟨⟨(.fieldAddr 1), [.tmp 6], (some 7), none⟩, false, false, 0, 2⟩,
 ⟨⟨(.load false 1), [.tmp 7], (some 8), none⟩, false, false, 0, 2⟩,
 ⟨⟨.move, [.tmp 0], (some 9), none⟩, false, false, 0, 0⟩,
 ⟨⟨.nilCheck, [.tmp 9], (some 10), none⟩, false, false, 0, 0⟩,
 ⟨⟨(.fieldAddr 0), [.tmp 10], (some 11), none⟩, false, false, 0, 0⟩,
 ⟨⟨(.fieldAddr 0), [.tmp 11], (some 12), none⟩, false, false, 0, 0⟩,
 ⟨⟨(.load false 1), [.tmp 12], (some 13), none⟩, false, false, 0, 0⟩,
 ⟨⟨.nilCheck, [.tmp 13], (some 14), none⟩, false, false, 0, 0⟩,
 ⟨⟨(.fieldAddr 0), [.tmp 14], (some 15), none⟩, false, false, 0, 0⟩,
 ⟨⟨(.load true 4), [.tmp 15], (some 16), none⟩, false, false, 0, 0⟩,
 ⟨⟨(.callF 102), [.tmp 16], (some 17), none⟩, true, false, 0, 1⟩,
 ⟨⟨.move, [.tmp 0], (some 18), none⟩, false, false, 0, 1⟩,
 ⟨⟨.nilCheck, [.tmp 18], (some 19), none⟩, false, false, 0, 1⟩,
 ⟨⟨(.fieldAddr 0), [.tmp 19], (some 20), none⟩, false, false, 0, 1⟩,
 ⟨⟨(.fieldAddr 2), [.tmp 20], (some 21), none⟩, false, false, 0, 1⟩,
 ⟨⟨(.load false 1), [.tmp 21], (some 22), none⟩, false, false, 0, 1⟩,
 ⟨⟨(.callF 184), [.tmp 17, .tmp 22], (some 23), none⟩, true, false, 1, 2⟩,
 ⟨⟨.move, [.tmp 0], (some 24), none⟩, false, false, 0, 2⟩,
 ⟨⟨(.mkFunc (.func 185) 1), [.tmp 24], (some 25), none⟩, false, false, 0, 2⟩,
 ⟨⟨(.callF 52), [.tmp 8, .tmp 23, .tmp 25], (some 26), none⟩, true, false, 2, 3⟩])), []⟩
theorem c148_ok : compFunc Tryz.prog Tryz.f148 = some c148 := by kernel_rfl
theorem c148_body : hasBody Tryz.prog 148 = true := hasBody_of Tryz.func148 (by kernel_rfl)
/-- (*coachyard/cells.Mem).Len -/
def c149 : PFn := ⟨10, Tr.ofList (List.replicate 10 undefA), (.seq (.seqR [⟨.move, [.const (.int .i64 0)], (some 2), none⟩])
 (.seq (.seq (.seqR [⟨.move, [.tmp 0], (some 3), none⟩,
 ⟨(.eqPtr false), [.tmp 3, .const (.ptr none)], (some 4), none⟩])
 (.cond (.tmp 4) (.seq (.seqR [⟨.move, [.const (.int .i64 0)], (some 2), none⟩])
 .ret)
 .skip))
 (.seq (.seqR [⟨.move, [.tmp 0], (some 5), none⟩,
 ⟨.nilCheck, [.tmp 5], (some 6), none⟩,
 ⟨(.fieldAddr 0), [.tmp 6], (some 7), none⟩,
 ⟨(.load false 1), [.tmp 7], (some 8), none⟩,
 ⟨.lenS, [.tmp 8], (some 9), none⟩,
 ⟨.move, [.tmp 9], (some 2), none⟩])
 .ret))), [.tmp 2]⟩
theorem c149_ok : compFunc Tryz.prog Tryz.f149 = some c149 := by kernel_rfl
theorem c149_body : hasBody Tryz.prog 149 = true := hasBody_of Tryz.func149 (by kernel_rfl)
/-- coachyard/cells.of -/
def c150 : PFn := ⟨14, Tr.ofList (List.replicate 14 undefA), (.seq (.seqR [⟨.move, [.const .nilFunc], (some 2), none⟩])
 (.seq (.seqR [⟨(.build [.nilFunc, .nilFunc, .nilFunc, .nilFunc, .nilFunc, .nilFunc, .nilFunc, .nilFunc] [(0, 1), (1, 1), (2, 1), (3, 1), (4, 1), (5, 1), (6, 1), (7, 1)]), [.const .nilFunc, .const (.func (.func 186) [] []), .const (.func (.func 187) [] []), .const (.func (.func 188) [] []), .const (.func (.func 189) [] []), .const (.func (.func 190) [] []), .const (.func (.func 191) [] []), .const (.func (.func 192) [] [])], (some 4), none⟩,
 ⟨(.new [.nilFunc, .nilFunc, .nilFunc, .nilFunc, .nilFunc, .nilFunc, .nilFunc, .nilFunc]), [], (some 3), none⟩,
 ⟨(.store 8), [.tmp 3, .tmp 4], none, none⟩])
 (.seq (.seq (.seqR [⟨.move, [.tmp 0], (some 5), none⟩,
 ⟨(.bin .lss), [.tmp 5, .const (.int .i64 0)], (some 6), none⟩,
 ⟨.move, [.tmp 6], (some 7), none⟩,
 ⟨.move, [.tmp 0], (some 8), some (7, false)⟩,
 ⟨(.bin .geq), [.tmp 8, .const (.int .i64 8)], (some 9), some (7, false)⟩,
 ⟨.pick, [.tmp 7, .const (.bool true), .tmp 9], (some 10), none⟩])
 (.cond (.tmp 10) (.seq (.seqR [⟨.move, [.const .nilFunc], (some 2), none⟩])
 .ret)
 .skip))
 (.seq (.seqR [⟨.move, [.tmp 0], (some 11), none⟩,
 ⟨(.indexAddrA 8 1), [.tmp 3, .tmp 11], (some 12), none⟩,
 ⟨(.load false 1), [.tmp 12], (some 13), none⟩,
 ⟨.move, [.tmp 13], (some 2), none⟩])
 .ret)))), [.tmp 2]⟩
theorem c150_ok : compFunc Tryz.prog Tryz.f150 = some c150 := by kernel_rfl
theorem c150_body : hasBody Tryz.prog 150 = true := hasBody_of Tryz.func150 (by kernel_rfl)
/-- coachyard/diary.none -/
def c151 : PFn := ⟨17, Tr.ofList (List.replicate 17 undefA), (.seq (.seqR [⟨.box, [.tmp 0], (some 1), none⟩,
 ⟨.move, [.const (.bool false)], (some 2), none⟩])
 (.seq (.seqR [⟨(.fieldAddr 0), [.tmp 1], (some 3), none⟩,
 ⟨(.load false 1), [.tmp 3], (some 4), none⟩,
 ⟨(.bin .eql), [.tmp 4, .const (.int .i64 0)], (some 5), none⟩,
 ⟨.move, [.tmp 5], (some 6), none⟩,
 ⟨(.fieldAddr 1), [.tmp 1], (some 7), some (6, true)⟩,
 ⟨(.load false 1), [.tmp 7], (some 8), some (6, true)⟩,
 ⟨(.bin .eql), [.tmp 8, .const (.int .u64 0)], (some 9), some (6, true)⟩,
 ⟨.pick, [.tmp 6, .tmp 9, .const (.bool false)], (some 10), none⟩,
 ⟨.move, [.tmp 10], (some 11), none⟩,
 ⟨(.fieldAddr 2), [.tmp 1], (some 12), some (11, true)⟩,
 ⟨(.load false 1), [.tmp 12], (some 13), some (11, true)⟩,
 ⟨.lenS, [.tmp 13], (some 14), some (11, true)⟩,
 ⟨(.bin .eql), [.tmp 14, .const (.int .i64 0)], (some 15), some (11, true)⟩,
 ⟨.pick, [.tmp 11, .tmp 15, .const (.bool false)], (some 16), none⟩,
 ⟨.move, [.tmp 16], (some 2), none⟩])
 .ret)), [.tmp 2]⟩
theorem c151_ok : compFunc Tryz.prog Tryz.f151 = some c151 := by kernel_rfl
theorem c151_body : hasBody Tryz.prog 151 = true := hasBody_of Tryz.func151 (by kernel_rfl)
/-- coachyard/diary.own -/
def c152 : PFn := ⟨16, Tr.ofList (List.replicate 16 undefA), (.seq (.seqR [⟨.box, [.tmp 0], (some 1), none⟩,
 ⟨(.new [(.int .i64 0), (.int .i64 0), (.int .i64 0), (.int .i64 0), (.int .i64 0), (.int .u64 0), (.slice none 0 0 false), (.int .i64 0), (.int .u64 0), (.slice none 0 0 false)]), [], (some 2), none⟩])
 (.seq (.seqR [⟨(.fieldAddr 4), [.tmp 1], (some 3), none⟩,
 ⟨(.fieldAddr 2), [.tmp 3], (some 4), none⟩,
 ⟨(.load false 1), [.tmp 4], (some 5), none⟩,
 ⟨(.callF 111), [.tmp 5], (some 6), none⟩,
 ⟨(.fieldAddr 4), [.tmp 1], (some 7), none⟩,
 ⟨(.fieldAddr 2), [.tmp 7], (some 8), none⟩,
 ⟨(.store 1), [.tmp 8, .tmp 6], none, none⟩])
 (.seq (.seqR [⟨(.fieldAddr 7), [.tmp 1], (some 9), none⟩,
 ⟨(.fieldAddr 2), [.tmp 9], (some 10), none⟩,
 ⟨(.load false 1), [.tmp 10], (some 11), none⟩,
 ⟨(.callF 49), [.tmp 11], (some 12), none⟩,
 ⟨(.fieldAddr 7), [.tmp 1], (some 13), none⟩,
 ⟨(.fieldAddr 2), [.tmp 13], (some 14), none⟩,
 ⟨(.store 1), [.tmp 14, .tmp 12], none, none⟩])
 (.seq (.seqR [⟨(.load true 10), [.tmp 1], (some 15), none⟩,
 ⟨(.store 10), [.tmp 2, .tmp 15], none, none⟩])
 .ret)))), [.cell 2 true 10]⟩
theorem c152_ok : compFunc Tryz.prog Tryz.f152 = some c152 := by kernel_rfl
theorem c152_body : hasBody Tryz.prog 152 = true := hasBody_of Tryz.func152 (by kernel_rfl)
/-- coachyard/diary.same -/
def c153 : PFn := ⟨24, Tr.ofList (List.replicate 24 undefA), (.seq (.seqR [⟨.box, [.tmp 0], (some 2), none⟩,
 ⟨.box, [.tmp 1], (some 3), none⟩,
 ⟨.move, [.const (.bool false)], (some 4), none⟩])
 (.seq (.seqR [⟨(.fieldAddr 0), [.tmp 2], (some 5), none⟩,
 ⟨(.load false 1), [.tmp 5], (some 6), none⟩,
 ⟨(.fieldAddr 0), [.tmp 3], (some 7), none⟩,
 ⟨(.load false 1), [.tmp 7], (some 8), none⟩,
 ⟨(.bin .eql), [.tmp 6, .tmp 8], (some 9), none⟩,
 ⟨.move, [.tmp 9], (some 10), none⟩,
 ⟨(.fieldAddr 1), [.tmp 2], (some 11), some (10, true)⟩,
 ⟨(.load false 1), [.tmp 11], (some 12), some (10, true)⟩,
 ⟨(.fieldAddr 1), [.tmp 3], (some 13), some (10, true)⟩,
 ⟨(.load false 1), [.tmp 13], (some 14), some (10, true)⟩,
 ⟨(.bin .eql), [.tmp 12, .tmp 14], (some 15), some (10, true)⟩,
 ⟨.pick, [.tmp 10, .tmp 15, .const (.bool false)], (some 16), none⟩,
 ⟨.move, [.tmp 16], (some 17), none⟩,
 ⟨(.fieldAddr 2), [.tmp 2], (some 18), some (17, true)⟩,
 ⟨(.load false 1), [.tmp 18], (some 19), some (17, true)⟩,
 ⟨(.fieldAddr 2), [.tmp 3], (some 20), some (17, true)⟩,
 ⟨(.load false 1), [.tmp 20], (some 21), some (17, true)⟩,
 ⟨(.callF 193), [.tmp 19, .tmp 21], (some 22), some (17, true)⟩,
 ⟨.pick, [.tmp 17, .tmp 22, .const (.bool false)], (some 23), none⟩,
 ⟨.move, [.tmp 23], (some 4), none⟩])
 .ret)), [.tmp 4]⟩
theorem c153_ok : compFunc Tryz.prog Tryz.f153 = some c153 := by kernel_rfl
theorem c153_body : hasBody Tryz.prog 153 = true := hasBody_of Tryz.func153 (by kernel_rfl)
/-- (coachyard/arena.Arena).check -/
def c155 : PFn := ⟨21, Tr.ofList (List.replicate 21 undefA), (.seq (.seqR [⟨.box, [.tmp 0], (some 2), none⟩,
 ⟨.move, [.const (.int .i64 0)], (some 4), none⟩])
 (.seq (.block 0 (.seq (.seqR [⟨.move, [.tmp 1], (some 6), none⟩,
 ⟨(.eqPtr false), [.tmp 6, .const (.ptr none)], (some 7), none⟩,
 ⟨.move, [.tmp 7], (some 5), none⟩])
 (.cond (.tmp 5) (.seq (.seqR [⟨.move, [.const (.int .i64 1)], (some 4), none⟩])
 .ret)
 (.seq (.seqR [⟨(.load true 2), [.tmp 2], (some 9), none⟩,
 ⟨(.callF 156), [.tmp 9], (some 10), none⟩,
 ⟨.not, [.tmp 10], (some 11), none⟩,
 ⟨.move, [.tmp 11], (some 8), none⟩])
 (.cond (.tmp 8) (.seq (.seqR [⟨.move, [.const (.int .i64 2)], (some 4), none⟩])
 .ret)
 (.seq (.drawR [⟨⟨.move, [.tmp 1], (some 13), none⟩, false, false, 0, 0⟩,
 ⟨⟨(.callF 149), [.tmp 13], (some 14), none⟩, true, false, 0, 1⟩,
 ⟨⟨(.fieldAddr 0), [.tmp 2], (some 15), none⟩, false, false, 0, 1⟩,
 ⟨⟨(.load false 1), [.tmp 15], (some 16), none⟩, false, false, 0, 1⟩,
 ⟨⟨(.fieldAddr 1), [.tmp 2], (some 17), none⟩, false, false, 0, 1⟩,
 ⟨⟨(.load false 1), [.tmp 17], (some 18), none⟩, false, false, 0, 1⟩,
 ⟨⟨(.bin .add), [.tmp 16, .tmp 18], (some 19), none⟩, false, false, 0, 1⟩,
 ⟨⟨(.bin .leq), [.tmp 14, .tmp 19], (some 20), none⟩, false, false, 1, 1⟩,
 ⟨⟨.move, [.tmp 20], (some 12), none⟩, false, false, 1, 1⟩])
 (.cond (.tmp 12) (.seq (.seqR [⟨.move, [.const (.int .i64 3)], (some 4), none⟩])
 .ret)
 .skip)))))))
 (.seq (.seqR [⟨.move, [.const (.int .i64 0)], (some 4), none⟩])
 .ret))), [.tmp 4]⟩
theorem c155_ok : compFunc Tryz.prog Tryz.f155 = some c155 := by kernel_rfl
theorem c155_body : hasBody Tryz.prog 155 = true := hasBody_of Tryz.func155 (by kernel_rfl)
/-- (coachyard/arena.Arena).Right -/
def c156 : PFn := ⟨24, Tr.ofList (List.replicate 24 undefA), (.seq (.seqR [⟨.box, [.tmp 0], (some 1), none⟩,
 ⟨.move, [.const (.bool false)], (some 2), none⟩])
 (.seq (.seqR [⟨(.fieldAddr 1), [.tmp 1], (some 3), none⟩,
 ⟨(.load false 1), [.tmp 3], (some 4), none⟩,
 ⟨(.bin .geq), [.tmp 4, .const (.int .i64 1)], (some 5), none⟩,
 ⟨.move, [.tmp 5], (some 6), none⟩,
 ⟨(.fieldAddr 1), [.tmp 1], (some 7), some (6, true)⟩,
 ⟨(.load false 1), [.tmp 7], (some 8), some (6, true)⟩,
 ⟨(.bin .leq), [.tmp 8, .const (.int .i64 4096)], (some 9), some (6, true)⟩,
 ⟨.pick, [.tmp 6, .tmp 9, .const (.bool false)], (some 10), none⟩,
 ⟨.move, [.tmp 10], (some 11), none⟩,
 ⟨(.fieldAddr 0), [.tmp 1], (some 12), some (11, true)⟩,
 ⟨(.load false 1), [.tmp 12], (some 13), some (11, true)⟩,
 ⟨(.bin .geq), [.tmp 13, .const (.int .i64 0)], (some 14), some (11, true)⟩,
 ⟨.pick, [.tmp 11, .tmp 14, .const (.bool false)], (some 15), none⟩,
 ⟨.move, [.tmp 15], (some 16), none⟩,
 ⟨(.fieldAddr 0), [.tmp 1], (some 17), some (16, true)⟩,
 ⟨(.load false 1), [.tmp 17], (some 18), some (16, true)⟩,
 ⟨(.fieldAddr 1), [.tmp 1], (some 19), some (16, true)⟩,
 ⟨(.load false 1), [.tmp 19], (some 20), some (16, true)⟩,
 ⟨(.bin .sub), [.const (.int .i64 65536), .tmp 20], (some 21), some (16, true)⟩,
 ⟨(.bin .lss), [.tmp 18, .tmp 21], (some 22), some (16, true)⟩,
 ⟨.pick, [.tmp 16, .tmp 22, .const (.bool false)], (some 23), none⟩,
 ⟨.move, [.tmp 23], (some 2), none⟩])
 .ret)), [.tmp 2]⟩
theorem c156_ok : compFunc Tryz.prog Tryz.f156 = some c156 := by kernel_rfl
theorem c156_body : hasBody Tryz.prog 156 = true := hasBody_of Tryz.func156 (by kernel_rfl)
/-- (coachyard/idle.one).choose -/
def c157 : PFn := ⟨41, Tr.ofList (List.replicate 41 undefA), (.seq (.seqR [⟨.box, [.tmp 0], (some 2), none⟩,
 ⟨.box, [.tmp 1], (some 3), none⟩,
 ⟨(.new [(.int .u32 0), (.int .u32 0)]), [], (some 4), none⟩,
 ⟨.move, [.const (.int .u64 0)], (some 5), none⟩,
 ⟨.move, [.const (.int .i64 0)], (some 6), none⟩])
 (.seq (.drawR [⟨⟨(.fieldAddr 1), [.tmp 3], (some 10), none⟩, false, false, 0, 1⟩,
 ⟨⟨(.load false 1), [.tmp 10], (some 11), none⟩, false, false, 0, 1⟩,
 ⟨⟨(.fieldAddr 0), [.tmp 2], (some 12), none⟩, false, false, 0, 0⟩,
 ⟨⟨(.load true 2), [.tmp 12], (some 13), none⟩, false, false, 0, 0⟩,
 ⟨⟨(.callF 196), [.tmp 13], (some 14), none⟩, true, false, 0, 1⟩,
 ⟨⟨(.bin .and), [.tmp 11, .tmp 14], (some 15), none⟩, false, false, 1, 1⟩,
 ⟨⟨(.conv .u64), [.tmp 15], (some 16), none⟩, false, false, 1, 1⟩,
 ⟨⟨(.callF 195), [.tmp 16], (some 17), none⟩, true, false, 1, 2⟩,
 ⟨⟨.move, [.tmp 17], (some 9), none⟩, false, false, 2, 2⟩,
 ⟨⟨(.extract 0), [.tmp 9], (some 18), none⟩, false, false, 2, 2⟩,
 ⟨⟨(.extract 1), [.tmp 9], (some 19), none⟩, false, false, 2, 2⟩,
 ⟨⟨.move, [.tmp 18], (some 7), none⟩, false, false, 2, 2⟩,
 ⟨⟨.move, [.tmp 19], (some 8), none⟩, false, false, 2, 2⟩])
 (.seq (.seq (.seqR [⟨(.fieldAddr 0), [.tmp 3], (some 20), none⟩,
 ⟨(.load false 1), [.tmp 20], (some 21), none⟩,
 ⟨(.bin .gtr), [.tmp 21, .const (.int .u32 0)], (some 22), none⟩,
 ⟨.move, [.tmp 22], (some 23), none⟩,
 ⟨.move, [.tmp 8], (some 24), some (23, false)⟩,
 ⟨.not, [.tmp 24], (some 25), some (23, false)⟩,
 ⟨.pick, [.tmp 23, .const (.bool true), .tmp 25], (some 26), none⟩])
 (.cond (.tmp 26) (.seq (.seqR [⟨(.build [(.int .u32 0), (.int .u32 0)] []), [], (some 27), none⟩,
 ⟨(.store 2), [.tmp 4, .tmp 27], none, none⟩,
 ⟨.move, [.const (.int .u64 0)], (some 5), none⟩,
 ⟨.move, [.const (.int .i64 5)], (some 6), none⟩])
 .ret)
 .skip))
 (.seq (.seqR [⟨(.fieldAddr 0), [.tmp 3], (some 28), none⟩,
 ⟨(.load false 1), [.tmp 28], (some 29), none⟩,
 ⟨(.bin .add), [.tmp 29, .const (.int .u32 1)], (some 30), none⟩,
 ⟨(.fieldAddr 0), [.tmp 3], (some 31), none⟩,
 ⟨(.store 1), [.tmp 31, .tmp 30], none, none⟩])
 (.seq (.drawR [⟨⟨(.fieldAddr 1), [.tmp 3], (some 32), none⟩, false, false, 0, 0⟩,
 ⟨⟨(.load false 1), [.tmp 32], (some 33), none⟩, false, false, 0, 0⟩,
 ⟨⟨.move, [.tmp 7], (some 34), none⟩, false, false, 0, 0⟩,
 ⟨⟨(.bin .shl), [.const (.int .u32 1), .tmp 34], (some 35), none⟩, false, false, 0, 0⟩,
 ⟨⟨(.bin .andNot), [.tmp 33, .tmp 35], (some 36), none⟩, false, false, 0, 0⟩,
 ⟨⟨(.fieldAddr 1), [.tmp 3], (some 37), none⟩, false, false, 0, 0⟩,
 ⟨⟨(.store 1), [.tmp 37, .tmp 36], none, none⟩, true, false, 0, 1⟩])
 (.seq (.seqR [⟨(.load true 2), [.tmp 3], (some 38), none⟩,
 ⟨.move, [.tmp 7], (some 39), none⟩,
 ⟨(.conv .u64), [.tmp 39], (some 40), none⟩,
 ⟨(.store 2), [.tmp 4, .tmp 38], none, none⟩,
 ⟨.move, [.tmp 40], (some 5), none⟩,
 ⟨.move, [.const (.int .i64 0)], (some 6), none⟩])
 .ret)))))), [.cell 4 true 2, .tmp 5, .tmp 6]⟩
theorem c157_ok : compFunc Tryz.prog Tryz.f157 = some c157 := by kernel_rfl
theorem c157_body : hasBody Tryz.prog 157 = true := hasBody_of Tryz.func157 (by kernel_rfl)
/-- (coachyard/park.Spot).Call$1 -/
def c158 : PFn := ⟨5, Tr.ofList (List.replicate 5 undefA), (.seq (.seqR [⟨.move, [.const (.int .u64 0)], (some 2), none⟩])
 (.seq (.seqR [⟨.move, [.tmp 0], (some 3), none⟩,
 ⟨(.bin .and), [.tmp 3, .const (.int .u64 1)], (some 4), none⟩,
 ⟨.move, [.tmp 4], (some 2), none⟩])
 .ret)), [.tmp 2]⟩
theorem c158_ok : compFunc Tryz.prog Tryz.f158 = some c158 := by kernel_rfl
theorem c158_body : hasBody Tryz.prog 158 = true := hasBody_of Tryz.func158 (by kernel_rfl)
/-- (*coachyard/queue.way).load -/
def c162 : PFn := ⟨14, Tr.ofList (List.replicate 14 undefA), (.seqR [⟨.move, [.tmp 0], (some 6), none⟩,
 ⟨.nilCheck, [.tmp 6], (some 7), none⟩,
 ⟨(.fieldAddr 2), [.tmp 7], (some 8), none⟩,
 ⟨(.load false 1), [.tmp 8], (some 9), none⟩,
 ⟨.move, [.tmp 1], (some 10), none⟩,
 ⟨(.build [(.int .i64 0), (.int .i64 0), (.int .u64 0), (.int .u64 0)] [(0, 1), (1, 1)]), [.const (.int .i64 1), .tmp 10], (some 11), none⟩,
 ⟨.move, [.tmp 2], (some 12), none⟩,
 ⟨(.callF 138), [.tmp 9, .tmp 11, .tmp 12], (some 13), none⟩]), []⟩
theorem c162_ok : compFunc Tryz.prog Tryz.f162 = some c162 := by kernel_rfl
theorem c162_body : hasBody Tryz.prog 162 = true := hasBody_of Tryz.func162 (by kernel_rfl)
/-- (*coachyard/queue.take).atHead -/
def c163 : PFn := ⟨47, Tr.ofList (List.replicate 47 undefA), (.seq (.seqR [⟨.move, [.tmp 0], (some 8), none⟩,
 ⟨.move, [.tmp 1], (some 9), none⟩,
 ⟨.nilCheck, [.tmp 8], (some 10), none⟩,
 ⟨(.fieldAddr 3), [.tmp 10], (some 11), none⟩,
 ⟨(.store 1), [.tmp 11, .tmp 9], none, none⟩])
 (.seq (.seqR [⟨.move, [.tmp 0], (some 13), none⟩,
 ⟨.nilCheck, [.tmp 13], (some 14), none⟩,
 ⟨(.fieldAddr 0), [.tmp 14], (some 15), none⟩,
 ⟨(.fieldAddr 0), [.tmp 15], (some 16), none⟩,
 ⟨(.load true 2), [.tmp 16], (some 17), none⟩,
 ⟨.move, [.tmp 1], (some 18), none⟩,
 ⟨(.callF 108), [.tmp 17, .tmp 18], (some 19), none⟩,
 ⟨.move, [.tmp 19], (some 12), none⟩,
 ⟨(.extract 0), [.tmp 12], (some 20), none⟩,
 ⟨(.extract 1), [.tmp 12], (some 21), none⟩,
 ⟨.move, [.tmp 20], (some 6), none⟩,
 ⟨.move, [.tmp 21], (some 7), none⟩])
 (.seq (.seq (.seqR [⟨.move, [.tmp 7], (some 22), none⟩,
 ⟨.not, [.tmp 22], (some 23), none⟩])
 (.cond (.tmp 23) (.seq (.seqR [⟨.move, [.tmp 0], (some 24), none⟩,
 ⟨.nilCheck, [.tmp 24], (some 25), none⟩,
 ⟨(.fieldAddr 0), [.tmp 25], (some 26), none⟩,
 ⟨(.fieldAddr 2), [.tmp 26], (some 27), none⟩,
 ⟨(.load false 1), [.tmp 27], (some 28), none⟩,
 ⟨(.callF 48), [.tmp 28, .const (.int .i64 9)], (some 29), none⟩])
 .ret)
 .skip))
 (.seq (.seqR [⟨.move, [.tmp 0], (some 30), none⟩,
 ⟨.move, [.tmp 6], (some 31), none⟩,
 ⟨.nilCheck, [.tmp 30], (some 32), none⟩,
 ⟨(.fieldAddr 7), [.tmp 32], (some 33), none⟩,
 ⟨(.store 1), [.tmp 33, .tmp 31], none, none⟩])
 (.drawR [⟨⟨.move, [.tmp 0], (some 34), none⟩, false, false, 0, 0⟩,
 ⟨⟨.nilCheck, [.tmp 34], (some 35), none⟩, false, false, 0, 0⟩,
 ⟨⟨(.fieldAddr 0), [.tmp 35], (some 36), none⟩, false, false, 0, 0⟩,
 ⟨⟨.move, [.tmp 0], (some 37), none⟩, false, false, 0, 0⟩,
 ⟨⟨.nilCheck, [.tmp 37], (some 38), none⟩, false, false, 0, 0⟩,
 ⟨⟨(.fieldAddr 0), [.tmp 38], (some 39), none⟩, false, false, 0, 0⟩,
 ⟨⟨(.fieldAddr 0), [.tmp 39], (some 40), none⟩, false, false, 0, 0⟩,
 ⟨⟨(.fieldAddr 0), [.tmp 40], (some 41), none⟩, false, false, 0, 0⟩,
 ⟨⟨(.load false 1), [.tmp 41], (some 42), none⟩, false, false, 0, 0⟩,
 ⟨⟨(.bin .add), [.tmp 42, .const (.int .i64 1)], (some 43), none⟩, false, false, 0, 0⟩,
 ⟨⟨.move, [.tmp 0], (some 44), none⟩, false, false, 0, 0⟩,
 ⟨⟨(.mkFunc (.func 204) 1), [.tmp 44], (some 45), none⟩, false, false, 0, 0⟩,
 ⟨⟨(.callF 162), [.tmp 36, .tmp 43, .tmp 45], (some 46), none⟩, true, false, 0, 1⟩]))))), []⟩
theorem c163_ok : compFunc Tryz.prog Tryz.f163 = some c163 := by kernel_rfl
theorem c163_body : hasBody Tryz.prog 163 = true := hasBody_of Tryz.func163 (by kernel_rfl)
/-- (coachyard/idle.one).search -/
def c164 : PFn := ⟨22, Tr.ofList (List.replicate 22 undefA), (.seq (.seqR [⟨.box, [.tmp 0], (some 2), none⟩,
 ⟨.box, [.tmp 1], (some 3), none⟩,
 ⟨(.new [(.int .u32 0), (.int .u32 0)]), [], (some 4), none⟩,
 ⟨.move, [.const (.int .u64 0)], (some 5), none⟩,
 ⟨.move, [.const (.int .i64 0)], (some 6), none⟩])
 (.seq (.seq (.seqR [⟨(.fieldAddr 0), [.tmp 3], (some 7), none⟩,
 ⟨(.load false 1), [.tmp 7], (some 8), none⟩,
 ⟨(.conv .u64), [.tmp 8], (some 9), none⟩,
 ⟨(.bin .mul), [.const (.int .u64 2), .tmp 9], (some 10), none⟩,
 ⟨(.fieldAddr 0), [.tmp 2], (some 11), none⟩,
 ⟨(.fieldAddr 1), [.tmp 11], (some 12), none⟩,
 ⟨(.load false 1), [.tmp 12], (some 13), none⟩,
 ⟨(.conv .u64), [.tmp 13], (some 14), none⟩,
 ⟨(.bin .geq), [.tmp 10, .tmp 14], (some 15), none⟩])
 (.cond (.tmp 15) (.seq (.seqR [⟨(.build [(.int .u32 0), (.int .u32 0)] []), [], (some 16), none⟩,
 ⟨(.store 2), [.tmp 4, .tmp 16], none, none⟩,
 ⟨.move, [.const (.int .u64 0)], (some 5), none⟩,
 ⟨.move, [.const (.int .i64 8)], (some 6), none⟩])
 .ret)
 .skip))
 (.seq (.seqR [⟨(.fieldAddr 0), [.tmp 3], (some 17), none⟩,
 ⟨(.load false 1), [.tmp 17], (some 18), none⟩,
 ⟨(.bin .add), [.tmp 18, .const (.int .u32 1)], (some 19), none⟩,
 ⟨(.fieldAddr 0), [.tmp 3], (some 20), none⟩,
 ⟨(.store 1), [.tmp 20, .tmp 19], none, none⟩])
 (.seq (.seqR [⟨(.load true 2), [.tmp 3], (some 21), none⟩,
 ⟨(.store 2), [.tmp 4, .tmp 21], none, none⟩,
 ⟨.move, [.const (.int .u64 0)], (some 5), none⟩,
 ⟨.move, [.const (.int .i64 0)], (some 6), none⟩])
 .ret)))), [.cell 4 true 2, .tmp 5, .tmp 6]⟩
theorem c164_ok : compFunc Tryz.prog Tryz.f164 = some c164 := by kernel_rfl
theorem c164_body : hasBody Tryz.prog 164 = true := hasBody_of Tryz.func164 (by kernel_rfl)
/-- (*coachyard/pool.next).steal -/
def c165 : PFn := ⟨42, Tr.ofList (List.replicate 42 undefA), (.seq (.seq (.seqR [⟨.move, [.tmp 0], (some 2), none⟩,
 ⟨.nilCheck, [.tmp 2], (some 3), none⟩,
 ⟨(.fieldAddr 3), [.tmp 3], (some 4), none⟩,
 ⟨(.load false 1), [.tmp 4], (some 5), none⟩,
 ⟨.lenS, [.tmp 5], (some 6), none⟩,
 ⟨(.bin .eql), [.tmp 6, .const (.int .i64 0)], (some 7), none⟩])
 (.cond (.tmp 7) (.seq (.seqR [⟨.move, [.tmp 0], (some 8), none⟩,
 ⟨(.callF 205), [.tmp 8], (some 9), none⟩])
 .ret)
 .skip))
 (.drawR [⟨⟨.move, [.tmp 0], (some 10), none⟩, false, false, 0, 3⟩,
 ⟨⟨.nilCheck, [.tmp 10], (some 11), none⟩, false, false, 0, 3⟩,
 ⟨⟨(.fieldAddr 0), [.tmp 11], (some 12), none⟩, false, false, 0, 3⟩,
 ⟨⟨(.fieldAddr 1), [.tmp 12], (some 13), none⟩, false, false, 0, 3⟩,
 ⟨⟨(.load false 1), [.tmp 13], (some 14), none⟩, false, false, 0, 3⟩,
 ⟨⟨.move, [.tmp 0], (some 15), none⟩, false, false, 0, 0⟩,
 ⟨⟨.nilCheck, [.tmp 15], (some 16), none⟩, false, false, 0, 0⟩,
 ⟨⟨(.fieldAddr 0), [.tmp 16], (some 17), none⟩, false, false, 0, 0⟩,
 ⟨⟨(.fieldAddr 0), [.tmp 17], (some 18), none⟩, false, false, 0, 0⟩,
 ⟨⟨(.load false 1), [.tmp 18], (some 19), none⟩, false, false, 0, 0⟩,
 ⟨⟨.move, [.tmp 0], (some 20), none⟩, false, false, 0, 0⟩,
 ⟨⟨.nilCheck, [.tmp 20], (some 21), none⟩, false, false, 0, 0⟩,
 ⟨⟨(.fieldAddr 3), [.tmp 21], (some 22), none⟩, false, false, 0, 0⟩,
 ⟨⟨(.load false 1), [.tmp 22], (some 23), none⟩, false, false, 0, 0⟩,
 ⟨⟨(.indexAddrS 1), [.tmp 23, .const (.int .i64 0)], (some 24), none⟩, false, false, 0, 0⟩,
 ⟨⟨(.load false 1), [.tmp 24], (some 25), none⟩, false, false, 0, 0⟩,
 ⟨⟨(.callF 15), [.tmp 19, .tmp 25], (some 26), none⟩, true, false, 0, 1⟩,
 ⟨⟨.move, [.tmp 0], (some 27), none⟩, false, false, 0, 1⟩,
 ⟨⟨.nilCheck, [.tmp 27], (some 28), none⟩, false, false, 0, 1⟩,
 ⟨⟨(.fieldAddr 0), [.tmp 28], (some 29), none⟩, false, false, 0, 1⟩,
 ⟨⟨(.fieldAddr 0), [.tmp 29], (some 30), none⟩, false, false, 0, 1⟩,
 ⟨⟨(.load false 1), [.tmp 30], (some 31), none⟩, false, false, 0, 1⟩,
 ⟨⟨.move, [.tmp 0], (some 32), none⟩, false, false, 0, 1⟩,
 ⟨⟨.nilCheck, [.tmp 32], (some 33), none⟩, false, false, 0, 1⟩,
 ⟨⟨(.fieldAddr 0), [.tmp 33], (some 34), none⟩, false, false, 0, 1⟩,
 ⟨⟨(.fieldAddr 2), [.tmp 34], (some 35), none⟩, false, false, 0, 1⟩,
 ⟨⟨(.load false 1), [.tmp 35], (some 36), none⟩, false, false, 0, 1⟩,
 ⟨⟨(.callF 15), [.tmp 31, .tmp 36], (some 37), none⟩, true, false, 1, 2⟩,
 ⟨⟨(.callF 206), [.tmp 26, .tmp 37], (some 38), none⟩, true, false, 2, 3⟩,
 ⟨⟨.move, [.tmp 0], (some 39), none⟩, false, false, 0, 3⟩,
 ⟨⟨(.mkFunc (.func 207) 1), [.tmp 39], (some 40), none⟩, false, false, 0, 3⟩,
 ⟨⟨(.callF 52), [.tmp 14, .tmp 38, .tmp 40], (some 41), none⟩, true, false, 3, 4⟩])), []⟩
theorem c165_ok : compFunc Tryz.prog Tryz.f165 = some c165 := by kernel_rfl
theorem c165_body : hasBody Tryz.prog 165 = true := hasBody_of Tryz.func165 (by kernel_rfl)
/-- (coachyard/park.Spot).begun$1 -/
def c166 : PFn := ⟨12, Tr.ofList (List.replicate 12 undefA), (.seq (.seq (.seqR [⟨(.load true 1), [.tmp 1], (some 4), none⟩,
 ⟨(.callF 167), [.tmp 4], (some 5), none⟩,
 ⟨.not, [.tmp 5], (some 6), none⟩])
 (.cond (.tmp 6) (.seq (.seqR [⟨.move, [.tmp 0], (some 7), none⟩,
 ⟨(.callF 48), [.tmp 7, .const (.int .i64 2)], (some 8), none⟩])
 .ret)
 .skip))
 (.seqR [⟨(.load false 1), [.tmp 2], (some 9), none⟩,
 ⟨.move, [.tmp 0], (some 10), none⟩,
 ⟨.callV, [.tmp 9, .tmp 10], (some 11), none⟩])), []⟩
theorem c166_ok : compFunc Tryz.prog Tryz.f166 = some c166 := by kernel_rfl
theorem c166_body : hasBody Tryz.prog 166 = true := hasBody_of Tryz.func166 (by kernel_rfl)
/-- (coachyard/park.Spot).right -/
def c167 : PFn := ⟨11, Tr.ofList (List.replicate 11 undefA), (.seq (.seqR [⟨.box, [.tmp 0], (some 1), none⟩,
 ⟨.move, [.const (.bool false)], (some 2), none⟩])
 (.seq (.seqR [⟨(.fieldAddr 0), [.tmp 1], (some 3), none⟩,
 ⟨(.load false 1), [.tmp 3], (some 4), none⟩,
 ⟨(.bin .geq), [.tmp 4, .const (.int .i64 0)], (some 5), none⟩,
 ⟨.move, [.tmp 5], (some 6), none⟩,
 ⟨(.fieldAddr 0), [.tmp 1], (some 7), some (6, true)⟩,
 ⟨(.load false 1), [.tmp 7], (some 8), some (6, true)⟩,
 ⟨(.bin .lss), [.tmp 8, .const (.int .i64 65536)], (some 9), some (6, true)⟩,
 ⟨.pick, [.tmp 6, .tmp 9, .const (.bool false)], (some 10), none⟩,
 ⟨.move, [.tmp 10], (some 2), none⟩])
 .ret)), [.tmp 2]⟩
theorem c167_ok : compFunc Tryz.prog Tryz.f167 = some c167 := by kernel_rfl
theorem c167_body : hasBody Tryz.prog 167 = true := hasBody_of Tryz.func167 (by kernel_rfl)
/-- (coachyard/idle.Yard).begun$1 -/
def c168 : PFn := ⟨31, Tr.ofList (List.replicate 31 undefA), (.seq (.seq (.seqR [⟨(.load true 2), [.tmp 1], (some 5), none⟩,
 ⟨(.callF 169), [.tmp 5], (some 6), none⟩,
 ⟨.not, [.tmp 6], (some 7), none⟩,
 ⟨.move, [.tmp 7], (some 8), none⟩,
 ⟨(.load false 1), [.tmp 2], (some 9), some (8, false)⟩,
 ⟨(.bin .lss), [.tmp 9, .const (.int .i64 0)], (some 10), some (8, false)⟩,
 ⟨.pick, [.tmp 8, .const (.bool true), .tmp 10], (some 11), none⟩,
 ⟨.move, [.tmp 11], (some 12), none⟩,
 ⟨(.load false 1), [.tmp 2], (some 13), some (12, false)⟩,
 ⟨(.fieldAddr 1), [.tmp 1], (some 14), some (12, false)⟩,
 ⟨(.load false 1), [.tmp 14], (some 15), some (12, false)⟩,
 ⟨(.bin .geq), [.tmp 13, .tmp 15], (some 16), some (12, false)⟩,
 ⟨.pick, [.tmp 12, .const (.bool true), .tmp 16], (some 17), none⟩])
 (.cond (.tmp 17) (.seq (.seqR [⟨.move, [.tmp 0], (some 18), none⟩,
 ⟨(.callF 48), [.tmp 18, .const (.int .i64 2)], (some 19), none⟩])
 .ret)
 .skip))
 (.seqR [⟨.move, [.tmp 0], (some 20), none⟩,
 ⟨(.fieldAddr 0), [.tmp 1], (some 21), none⟩,
 ⟨(.load false 1), [.tmp 21], (some 22), none⟩,
 ⟨(.build [(.int .i64 0), (.int .i64 0), (.int .u64 0), (.int .u64 0)] [(0, 1), (1, 1)]), [.const (.int .i64 1), .tmp 22], (some 23), none⟩,
 ⟨(.load true 2), [.tmp 1], (some 24), none⟩,
 ⟨.move, [.tmp 0], (some 25), none⟩,
 ⟨(.load false 1), [.tmp 3], (some 26), none⟩,
 ⟨(.build [(.int .i64 0), (.int .i64 0), (.ptr none), .nilFunc, (.int .u64 0), (.int .u64 0)] [(0, 2), (2, 1), (3, 1)]), [.tmp 24, .tmp 25, .tmp 26], (some 27), none⟩,
 ⟨.box, [.tmp 27], (some 28), none⟩,
 ⟨(.mkFunc (.func 170) 1), [.tmp 28], (some 29), none⟩,
 ⟨(.callF 138), [.tmp 20, .tmp 23, .tmp 29], (some 30), none⟩])), []⟩
theorem c168_ok : compFunc Tryz.prog Tryz.f168 = some c168 := by kernel_rfl
theorem c168_body : hasBody Tryz.prog 168 = true := hasBody_of Tryz.func168 (by kernel_rfl)
/-- (coachyard/idle.Yard).Right -/
def c169 : PFn := ⟨21, Tr.ofList (List.replicate 21 undefA), (.seq (.seqR [⟨.box, [.tmp 0], (some 1), none⟩,
 ⟨.move, [.const (.bool false)], (some 2), none⟩])
 (.seq (.seqR [⟨(.fieldAddr 1), [.tmp 1], (some 3), none⟩,
 ⟨(.load false 1), [.tmp 3], (some 4), none⟩,
 ⟨(.bin .geq), [.tmp 4, .const (.int .i64 1)], (some 5), none⟩,
 ⟨.move, [.tmp 5], (some 6), none⟩,
 ⟨(.fieldAddr 1), [.tmp 1], (some 7), some (6, true)⟩,
 ⟨(.load false 1), [.tmp 7], (some 8), some (6, true)⟩,
 ⟨(.bin .leq), [.tmp 8, .const (.int .i64 16)], (some 9), some (6, true)⟩,
 ⟨.pick, [.tmp 6, .tmp 9, .const (.bool false)], (some 10), none⟩,
 ⟨.move, [.tmp 10], (some 11), none⟩,
 ⟨(.fieldAddr 0), [.tmp 1], (some 12), some (11, true)⟩,
 ⟨(.load false 1), [.tmp 12], (some 13), some (11, true)⟩,
 ⟨(.bin .geq), [.tmp 13, .const (.int .i64 0)], (some 14), some (11, true)⟩,
 ⟨.pick, [.tmp 11, .tmp 14, .const (.bool false)], (some 15), none⟩,
 ⟨.move, [.tmp 15], (some 16), none⟩,
 ⟨(.fieldAddr 0), [.tmp 1], (some 17), some (16, true)⟩,
 ⟨(.load false 1), [.tmp 17], (some 18), some (16, true)⟩,
 ⟨(.bin .lss), [.tmp 18, .const (.int .i64 65536)], (some 19), some (16, true)⟩,
 ⟨.pick, [.tmp 16, .tmp 19, .const (.bool false)], (some 20), none⟩,
 ⟨.move, [.tmp 20], (some 2), none⟩])
 .ret)), [.tmp 2]⟩
theorem c169_ok : compFunc Tryz.prog Tryz.f169 = some c169 := by kernel_rfl
theorem c169_body : hasBody Tryz.prog 169 = true := hasBody_of Tryz.func169 (by kernel_rfl)
/-- (*coachyard/idle.turn).made -/
def c170 : PFn := ⟨63, Tr.ofList (List.replicate 63 undefA), (.seq (.seqR [⟨.move, [.tmp 0], (some 11), none⟩,
 ⟨.move, [.tmp 1], (some 12), none⟩,
 ⟨.nilCheck, [.tmp 11], (some 13), none⟩,
 ⟨(.fieldAddr 4), [.tmp 13], (some 14), none⟩,
 ⟨(.store 1), [.tmp 14, .tmp 12], none, none⟩])
 (.seq (.seqR [⟨.move, [.tmp 1], (some 16), none⟩,
 ⟨(.callF 140), [.tmp 16], (some 17), none⟩,
 ⟨.move, [.tmp 17], (some 15), none⟩,
 ⟨(.extract 0), [.tmp 15], (some 18), none⟩,
 ⟨(.extract 1), [.tmp 15], (some 19), none⟩,
 ⟨.move, [.tmp 18], (some 6), none⟩,
 ⟨.move, [.tmp 19], (some 7), none⟩])
 (.seq (.seqR [⟨.move, [.tmp 0], (some 21), none⟩,
 ⟨.nilCheck, [.tmp 21], (some 22), none⟩,
 ⟨(.fieldAddr 3), [.tmp 22], (some 23), none⟩,
 ⟨(.load false 1), [.tmp 23], (some 24), none⟩,
 ⟨.move, [.tmp 6], (some 25), none⟩,
 ⟨.move, [.tmp 7], (some 26), none⟩,
 ⟨(.build [(.int .u32 0), (.int .u32 0)] [(0, 1), (1, 1)]), [.tmp 25, .tmp 26], (some 27), none⟩,
 ⟨.callV, [.tmp 24, .tmp 27], (some 28), none⟩,
 ⟨.move, [.tmp 28], (some 20), none⟩,
 ⟨(.extract 0), [.tmp 20], (some 29), none⟩,
 ⟨(.extract 1), [.tmp 20], (some 30), none⟩,
 ⟨(.extract 2), [.tmp 20], (some 31), none⟩,
 ⟨(.new [(.int .u32 0), (.int .u32 0)]), [], (some 8), none⟩,
 ⟨(.store 2), [.tmp 8, .tmp 29], none, none⟩,
 ⟨.move, [.tmp 30], (some 9), none⟩,
 ⟨.move, [.tmp 31], (some 10), none⟩])
 (.seq (.seq (.seqR [⟨.move, [.tmp 10], (some 32), none⟩,
 ⟨(.bin .neq), [.tmp 32, .const (.int .i64 0)], (some 33), none⟩])
 (.cond (.tmp 33) (.seq (.seqR [⟨.move, [.tmp 0], (some 34), none⟩,
 ⟨.nilCheck, [.tmp 34], (some 35), none⟩,
 ⟨(.fieldAddr 2), [.tmp 35], (some 36), none⟩,
 ⟨(.load false 1), [.tmp 36], (some 37), none⟩,
 ⟨.move, [.tmp 10], (some 38), none⟩,
 ⟨(.callF 48), [.tmp 37, .tmp 38], (some 39), none⟩])
 .ret)
 .skip))
 (.seq (.seqR [⟨.move, [.tmp 0], (some 40), none⟩,
 ⟨.move, [.tmp 9], (some 41), none⟩,
 ⟨.nilCheck, [.tmp 40], (some 42), none⟩,
 ⟨(.fieldAddr 5), [.tmp 42], (some 43), none⟩,
 ⟨(.store 1), [.tmp 43, .tmp 41], none, none⟩])
 (.drawR [⟨⟨.move, [.tmp 0], (some 44), none⟩, false, false, 0, 1⟩,
 ⟨⟨.nilCheck, [.tmp 44], (some 45), none⟩, false, false, 0, 1⟩,
 ⟨⟨(.fieldAddr 2), [.tmp 45], (some 46), none⟩, false, false, 0, 1⟩,
 ⟨⟨(.load false 1), [.tmp 46], (some 47), none⟩, false, false, 0, 1⟩,
 ⟨⟨.move, [.tmp 0], (some 48), none⟩, false, false, 0, 1⟩,
 ⟨⟨.nilCheck, [.tmp 48], (some 49), none⟩, false, false, 0, 1⟩,
 ⟨⟨(.fieldAddr 0), [.tmp 49], (some 50), none⟩, false, false, 0, 1⟩,
 ⟨⟨(.fieldAddr 0), [.tmp 50], (some 51), none⟩, false, false, 0, 1⟩,
 ⟨⟨(.load false 1), [.tmp 51], (some 52), none⟩, false, false, 0, 1⟩,
 ⟨⟨.move, [.tmp 1], (some 53), none⟩, false, false, 0, 1⟩,
 ⟨⟨(.fieldAddr 0), [.tmp 8], (some 54), none⟩, false, false, 0, 0⟩,
 ⟨⟨(.load false 1), [.tmp 54], (some 55), none⟩, false, false, 0, 0⟩,
 ⟨⟨(.fieldAddr 1), [.tmp 8], (some 56), none⟩, false, false, 0, 0⟩,
 ⟨⟨(.load false 1), [.tmp 56], (some 57), none⟩, false, false, 0, 0⟩,
 ⟨⟨(.callF 208), [.tmp 55, .tmp 57], (some 58), none⟩, true, false, 0, 1⟩,
 ⟨⟨(.build [(.int .i64 0), (.int .i64 0), (.int .u64 0), (.int .u64 0)] [(0, 1), (1, 1), (2, 1), (3, 1)]), [.const (.int .i64 3), .tmp 52, .tmp 53, .tmp 58], (some 59), none⟩, false, false, 1, 1⟩,
 ⟨⟨.move, [.tmp 0], (some 60), none⟩, false, false, 0, 1⟩,
 ⟨⟨(.mkFunc (.func 209) 1), [.tmp 60], (some 61), none⟩, false, false, 0, 1⟩,
 ⟨⟨(.callF 138), [.tmp 47, .tmp 59, .tmp 61], (some 62), none⟩, true, false, 1, 2⟩])))))), []⟩
theorem c170_ok : compFunc Tryz.prog Tryz.f170 = some c170 := by kernel_rfl
theorem c170_body : hasBody Tryz.prog 170 = true := hasBody_of Tryz.func170 (by kernel_rfl)
/-- (coachyard/local.Row).Right -/
def c171 : PFn := ⟨6, Tr.ofList (List.replicate 6 undefA), (.seq (.seqR [⟨.box, [.tmp 0], (some 1), none⟩,
 ⟨.move, [.const (.bool false)], (some 2), none⟩])
 (.seq (.seqR [⟨(.load true 3), [.tmp 1], (some 3), none⟩,
 ⟨(.callF 91), [.tmp 3], (some 4), none⟩,
 ⟨(.invoke [(49, 171), (134, 128), (182, 169), (196, 156), (202, 259), (203, 246), (205, 337)] []), [.tmp 4], (some 5), none⟩,
 ⟨.move, [.tmp 5], (some 2), none⟩])
 .ret)), [.tmp 2]⟩
theorem c171_ok : compFunc Tryz.prog Tryz.f171 = some c171 := by kernel_rfl
theorem c171_body : hasBody Tryz.prog 171 = true := hasBody_of Tryz.func171 (by kernel_rfl)
/-- coachyard/local.refused -/
def c172 : PFn := ⟨2, Tr.ofList (List.replicate 2 undefA), (.seq (.seqR [⟨.move, [.const (.ptr none)], (some 0), none⟩])
 (.seq (.seqR [⟨(.callF 46), [.const (.func (.func 210) [] [])], (some 1), none⟩,
 ⟨.move, [.tmp 1], (some 0), none⟩])
 .ret)), [.tmp 0]⟩
theorem c172_ok : compFunc Tryz.prog Tryz.f172 = some c172 := by kernel_rfl
theorem c172_body : hasBody Tryz.prog 172 = true := hasBody_of Tryz.func172 (by kernel_rfl)
/-- (coachyard/local.Row).Peek$1 -/
def c173 : PFn := ⟨9, Tr.ofList (List.replicate 9 undefA), (.seq (.seqR [⟨.box, [.tmp 0], (some 2), none⟩])
 (.drawR [⟨⟨(.load false 1), [.tmp 2], (some 3), none⟩, false, false, 0, 1⟩,
 ⟨⟨(.fieldAddr 1), [.tmp 1], (some 4), none⟩, false, false, 0, 0⟩,
 ⟨⟨(.load false 1), [.tmp 4], (some 5), none⟩, false, false, 0, 0⟩,
 ⟨⟨(.callF 174), [.tmp 5], (some 6), none⟩, true, false, 0, 1⟩,
 ⟨⟨(.mkFunc (.func 175) 0), [.tmp 2, .tmp 1], (some 7), none⟩, false, false, 0, 1⟩,
 ⟨⟨(.callF 138), [.tmp 3, .tmp 6, .tmp 7], (some 8), none⟩, true, false, 1, 2⟩])), []⟩
theorem c173_ok : compFunc Tryz.prog Tryz.f173 = some c173 := by kernel_rfl
theorem c173_body : hasBody Tryz.prog 173 = true := hasBody_of Tryz.func173 (by kernel_rfl)
/-- coachyard/local.load -/
def c174 : PFn := ⟨5, Tr.ofList (List.replicate 5 undefA), (.seq (.seqR [⟨(.new [(.int .i64 0), (.int .i64 0), (.int .u64 0), (.int .u64 0)]), [], (some 2), none⟩])
 (.seq (.seqR [⟨.move, [.tmp 0], (some 3), none⟩,
 ⟨(.build [(.int .i64 0), (.int .i64 0), (.int .u64 0), (.int .u64 0)] [(0, 1), (1, 1)]), [.const (.int .i64 1), .tmp 3], (some 4), none⟩,
 ⟨(.store 4), [.tmp 2, .tmp 4], none, none⟩])
 .ret)), [.cell 2 true 4]⟩
theorem c174_ok : compFunc Tryz.prog Tryz.f174 = some c174 := by kernel_rfl
theorem c174_body : hasBody Tryz.prog 174 = true := hasBody_of Tryz.func174 (by kernel_rfl)
/-- (coachyard/local.Row).Peek$1$1 -/
def c175 : PFn := ⟨13, Tr.ofList (List.replicate 13 undefA), (.seq (.seqR [⟨.box, [.tmp 0], (some 4), none⟩])
 (.drawR [⟨⟨(.load false 1), [.tmp 2], (some 6), none⟩, false, false, 0, 1⟩,
 ⟨⟨(.fieldAddr 1), [.tmp 3], (some 7), none⟩, false, false, 0, 0⟩,
 ⟨⟨(.load false 1), [.tmp 7], (some 8), none⟩, false, false, 0, 0⟩,
 ⟨⟨(.bin .add), [.tmp 8, .const (.int .i64 1)], (some 9), none⟩, false, false, 0, 0⟩,
 ⟨⟨(.callF 174), [.tmp 9], (some 10), none⟩, true, false, 0, 1⟩,
 ⟨⟨(.mkFunc (.func 176) 0), [.tmp 2, .tmp 3, .tmp 4], (some 11), none⟩, false, false, 0, 1⟩,
 ⟨⟨(.callF 138), [.tmp 6, .tmp 10, .tmp 11], (some 12), none⟩, true, false, 1, 2⟩])), []⟩
theorem c175_ok : compFunc Tryz.prog Tryz.f175 = some c175 := by kernel_rfl
theorem c175_body : hasBody Tryz.prog 175 = true := hasBody_of Tryz.func175 (by kernel_rfl)
/-- (coachyard/local.Row).Peek$1$1$1 -/
def c176 : PFn := ⟨13, Tr.ofList (List.replicate 13 undefA), (.drawR [⟨⟨(.load false 1), [.tmp 2], (some 7), none⟩, false, false, 0, 1⟩,
 ⟨⟨(.load true 3), [.tmp 3], (some 8), none⟩, false, false, 0, 0⟩,
 ⟨⟨(.load false 1), [.tmp 4], (some 9), none⟩, false, false, 0, 0⟩,
 ⟨⟨.move, [.tmp 0], (some 10), none⟩, false, false, 0, 0⟩,
 ⟨⟨(.callF 178), [.tmp 8, .tmp 9, .tmp 10], (some 11), none⟩, true, false, 0, 1⟩,
 ⟨⟨(.callF 177), [.tmp 7, .tmp 11], (some 12), none⟩, true, false, 1, 2⟩]), []⟩
theorem c176_ok : compFunc Tryz.prog Tryz.f176 = some c176 := by kernel_rfl
theorem c176_body : hasBody Tryz.prog 176 = true := hasBody_of Tryz.func176 (by kernel_rfl)
/-- coachyard/local.told -/
def c177 : PFn := ⟨11, Tr.ofList (List.replicate 11 undefA), (.seq (.seqR [⟨(.build [(.int .i64 0), (.int .u64 0), (.slice none 0 0 false)] []), [], (some 5), none⟩,
 ⟨(.new [(.int .i64 0), (.int .u64 0), (.slice none 0 0 false)]), [], (some 4), none⟩,
 ⟨(.store 3), [.tmp 4, .tmp 5], none, none⟩])
 (.seq (.seq (.seqR [⟨.move, [.tmp 1], (some 6), none⟩])
 (.cond (.tmp 6) (.seqR [⟨(.fieldAddr 1), [.tmp 4], (some 7), none⟩,
 ⟨(.store 1), [.tmp 7, .const (.int .u64 1)], none, none⟩])
 .skip))
 (.seqR [⟨.move, [.tmp 0], (some 8), none⟩,
 ⟨(.load true 3), [.tmp 4], (some 9), none⟩,
 ⟨(.callF 87), [.tmp 8, .tmp 9], (some 10), none⟩]))), []⟩
theorem c177_ok : compFunc Tryz.prog Tryz.f177 = some c177 := by kernel_rfl
theorem c177_body : hasBody Tryz.prog 177 = true := hasBody_of Tryz.func177 (by kernel_rfl)
/-- (coachyard/local.Row).any -/
def c178 : PFn := ⟨33, Tr.ofList (List.replicate 33 undefA), (.seq (.seqR [⟨.box, [.tmp 0], (some 3), none⟩,
 ⟨.move, [.const (.bool false)], (some 6), none⟩])
 (.seq (.seq (.seqR [⟨(.fieldAddr 0), [.tmp 3], (some 11), none⟩,
 ⟨(.load false 1), [.tmp 11], (some 12), none⟩,
 ⟨(.bin .eql), [.tmp 12, .const (.int .i64 0)], (some 13), none⟩])
 (.cond (.tmp 13) (.seq (.seqR [⟨.move, [.tmp 2], (some 14), none⟩,
 ⟨.move, [.tmp 1], (some 15), none⟩,
 ⟨(.bin .sub), [.tmp 14, .tmp 15], (some 16), none⟩,
 ⟨(.conv .i64), [.tmp 16], (some 17), none⟩,
 ⟨(.bin .geq), [.tmp 17, .const (.int .i64 1)], (some 18), none⟩,
 ⟨.move, [.tmp 18], (some 6), none⟩])
 .ret)
 .skip))
 (.seq (.seqR [⟨.move, [.tmp 1], (some 20), none⟩,
 ⟨(.callF 140), [.tmp 20], (some 21), none⟩,
 ⟨.move, [.tmp 21], (some 19), none⟩,
 ⟨(.extract 0), [.tmp 19], (some 22), none⟩,
 ⟨(.extract 1), [.tmp 19], (some 23), none⟩,
 ⟨.move, [.tmp 22], (some 7), none⟩,
 ⟨.move, [.tmp 23], (some 8), none⟩])
 (.seq (.seqR [⟨.move, [.tmp 2], (some 25), none⟩,
 ⟨(.callF 140), [.tmp 25], (some 26), none⟩,
 ⟨.move, [.tmp 26], (some 24), none⟩,
 ⟨(.extract 0), [.tmp 24], (some 27), none⟩,
 ⟨(.extract 1), [.tmp 24], (some 28), none⟩,
 ⟨.move, [.tmp 27], (some 9), none⟩,
 ⟨.move, [.tmp 28], (some 10), none⟩])
 (.seq (.seqR [⟨.move, [.tmp 10], (some 29), none⟩,
 ⟨.move, [.tmp 8], (some 30), none⟩,
 ⟨(.callF 211), [.tmp 29, .tmp 30], (some 31), none⟩,
 ⟨(.bin .geq), [.tmp 31, .const (.int .i64 1)], (some 32), none⟩,
 ⟨.move, [.tmp 32], (some 6), none⟩])
 .ret))))), [.tmp 6]⟩
theorem c178_ok : compFunc Tryz.prog Tryz.f178 = some c178 := by kernel_rfl
theorem c178_body : hasBody Tryz.prog 178 = true := hasBody_of Tryz.func178 (by kernel_rfl)
/-- coachyard/local.Peek$1 -/
def c179 : PFn := ⟨9, Tr.ofList (List.replicate 9 undefA), (.seq (.seqR [⟨.box, [.tmp 0], (some 2), none⟩])
 (.drawR [⟨⟨(.load false 1), [.tmp 2], (some 3), none⟩, false, false, 0, 1⟩,
 ⟨⟨(.fieldAddr 0), [.tmp 1], (some 4), none⟩, false, false, 0, 0⟩,
 ⟨⟨(.load false 1), [.tmp 4], (some 5), none⟩, false, false, 0, 0⟩,
 ⟨⟨(.callF 174), [.tmp 5], (some 6), none⟩, true, false, 0, 1⟩,
 ⟨⟨(.mkFunc (.func 180) 0), [.tmp 1, .tmp 2], (some 7), none⟩, false, false, 0, 1⟩,
 ⟨⟨(.callF 138), [.tmp 3, .tmp 6, .tmp 7], (some 8), none⟩, true, false, 1, 2⟩])), []⟩
theorem c179_ok : compFunc Tryz.prog Tryz.f179 = some c179 := by kernel_rfl
theorem c179_body : hasBody Tryz.prog 179 = true := hasBody_of Tryz.func179 (by kernel_rfl)
/-- coachyard/local.Peek$1$1 -/
def c180 : PFn := ⟨38, Tr.ofList (List.replicate 38 undefA), (.seq (.seqR [⟨.move, [.tmp 0], (some 9), none⟩,
 ⟨(.callF 140), [.tmp 9], (some 10), none⟩,
 ⟨.move, [.tmp 10], (some 8), none⟩,
 ⟨(.extract 0), [.tmp 8], (some 11), none⟩,
 ⟨(.extract 1), [.tmp 8], (some 12), none⟩,
 ⟨.move, [.tmp 11], (some 6), none⟩,
 ⟨.move, [.tmp 12], (some 7), none⟩])
 (.seq (.seq (.seqR [⟨.move, [.tmp 7], (some 13), none⟩,
 ⟨(.bin .lss), [.tmp 13, .const (.int .u32 1)], (some 14), none⟩,
 ⟨.move, [.tmp 14], (some 15), none⟩,
 ⟨.move, [.tmp 7], (some 16), some (15, false)⟩,
 ⟨(.conv .i64), [.tmp 16], (some 17), some (15, false)⟩,
 ⟨(.fieldAddr 1), [.tmp 2], (some 18), some (15, false)⟩,
 ⟨(.load false 1), [.tmp 18], (some 19), some (15, false)⟩,
 ⟨(.bin .gtr), [.tmp 17, .tmp 19], (some 20), some (15, false)⟩,
 ⟨.pick, [.tmp 15, .const (.bool true), .tmp 20], (some 21), none⟩])
 (.cond (.tmp 21) (.seq (.seqR [⟨(.load false 1), [.tmp 3], (some 22), none⟩,
 ⟨(.callF 48), [.tmp 22, .const (.int .i64 9)], (some 23), none⟩])
 .ret)
 .skip))
 (.drawR [⟨⟨(.load false 1), [.tmp 3], (some 24), none⟩, false, false, 0, 1⟩,
 ⟨⟨(.fieldAddr 0), [.tmp 2], (some 25), none⟩, false, false, 0, 0⟩,
 ⟨⟨(.load false 1), [.tmp 25], (some 26), none⟩, false, false, 0, 0⟩,
 ⟨⟨(.bin .add), [.tmp 26, .const (.int .i64 2)], (some 27), none⟩, false, false, 0, 0⟩,
 ⟨⟨(.fieldAddr 1), [.tmp 2], (some 28), none⟩, false, false, 0, 0⟩,
 ⟨⟨(.load false 1), [.tmp 28], (some 29), none⟩, false, false, 0, 0⟩,
 ⟨⟨(.bin .mul), [.const (.int .i64 2), .tmp 29], (some 30), none⟩, false, false, 0, 0⟩,
 ⟨⟨(.bin .add), [.tmp 27, .tmp 30], (some 31), none⟩, false, false, 0, 0⟩,
 ⟨⟨.move, [.tmp 7], (some 32), none⟩, false, false, 0, 0⟩,
 ⟨⟨(.conv .i64), [.tmp 32], (some 33), none⟩, false, false, 0, 0⟩,
 ⟨⟨(.bin .add), [.tmp 31, .tmp 33], (some 34), none⟩, false, false, 0, 0⟩,
 ⟨⟨(.callF 174), [.tmp 34], (some 35), none⟩, true, false, 0, 1⟩,
 ⟨⟨(.mkFunc (.func 181) 0), [.tmp 3], (some 36), none⟩, false, false, 0, 1⟩,
 ⟨⟨(.callF 138), [.tmp 24, .tmp 35, .tmp 36], (some 37), none⟩, true, false, 1, 2⟩]))), []⟩
theorem c180_ok : compFunc Tryz.prog Tryz.f180 = some c180 := by kernel_rfl
theorem c180_body : hasBody Tryz.prog 180 = true := hasBody_of Tryz.func180 (by kernel_rfl)
/-- coachyard/local.Peek$1$1$1 -/
def c181 : PFn := ⟨16, Tr.ofList (List.replicate 16 undefA), (.seq (.seqR [⟨.move, [.tmp 0], (some 8), none⟩,
 ⟨(.callF 140), [.tmp 8], (some 9), none⟩,
 ⟨.move, [.tmp 9], (some 7), none⟩,
 ⟨(.extract 0), [.tmp 7], (some 10), none⟩,
 ⟨(.extract 1), [.tmp 7], (some 11), none⟩,
 ⟨.move, [.tmp 10], (some 5), none⟩,
 ⟨.move, [.tmp 11], (some 6), none⟩])
 (.seqR [⟨(.load false 1), [.tmp 2], (some 12), none⟩,
 ⟨.move, [.tmp 6], (some 13), none⟩,
 ⟨(.bin .neq), [.tmp 13, .const (.int .u32 0)], (some 14), none⟩,
 ⟨(.callF 177), [.tmp 12, .tmp 14], (some 15), none⟩])), []⟩
theorem c181_ok : compFunc Tryz.prog Tryz.f181 = some c181 := by kernel_rfl
theorem c181_body : hasBody Tryz.prog 181 = true := hasBody_of Tryz.func181 (by kernel_rfl)
/-- (coachyard/park.Spot).Wait$1 -/
def c182 : PFn := ⟨11, Tr.ofList (List.replicate 11 undefA), (.seqR [⟨(.load true 1), [.tmp 1], (some 4), none⟩,
 ⟨.move, [.tmp 0], (some 5), none⟩,
 ⟨(.load false 1), [.tmp 2], (some 6), none⟩,
 ⟨(.conv .u64), [.tmp 6], (some 7), none⟩,
 ⟨(.build [(.int .i64 0), (.ptr none), (.int .u64 0), (.int .u64 0)] [(0, 1), (1, 1), (2, 1)]), [.tmp 4, .tmp 5, .tmp 7], (some 8), none⟩,
 ⟨.box, [.tmp 8], (some 9), none⟩,
 ⟨(.callF 183), [.tmp 9, .const (.int .u64 0), .const (.bool true)], (some 10), none⟩]), []⟩
theorem c182_ok : compFunc Tryz.prog Tryz.f182 = some c182 := by kernel_rfl
theorem c182_body : hasBody Tryz.prog 182 = true := hasBody_of Tryz.func182 (by kernel_rfl)
/-- (*coachyard/park.waiter).look -/
def c183 : PFn := ⟨19, Tr.ofList (List.replicate 19 undefA), (.drawR [⟨⟨.move, [.tmp 0], (some 6), none⟩, false, false, 0, 0⟩,
 ⟨⟨.nilCheck, [.tmp 6], (some 7), none⟩, false, false, 0, 0⟩,
 ⟨⟨(.fieldAddr 1), [.tmp 7], (some 8), none⟩, false, false, 0, 0⟩,
 ⟨⟨(.load false 1), [.tmp 8], (some 9), none⟩, false, false, 0, 0⟩,
 ⟨⟨.move, [.tmp 0], (some 10), none⟩, false, false, 0, 0⟩,
 ⟨⟨.nilCheck, [.tmp 10], (some 11), none⟩, false, false, 0, 0⟩,
 ⟨⟨(.fieldAddr 0), [.tmp 11], (some 12), none⟩, false, false, 0, 0⟩,
 ⟨⟨(.fieldAddr 0), [.tmp 12], (some 13), none⟩, false, false, 0, 0⟩,
 ⟨⟨(.load false 1), [.tmp 13], (some 14), none⟩, false, false, 0, 0⟩,
 ⟨⟨(.build [(.int .i64 0), (.int .i64 0), (.int .u64 0), (.int .u64 0)] [(0, 1), (1, 1)]), [.const (.int .i64 1), .tmp 14], (some 15), none⟩, false, false, 0, 0⟩,
 ⟨⟨.move, [.tmp 0], (some 16), none⟩, false, false, 0, 0⟩,
 ⟨⟨(.mkFunc (.func 212) 1), [.tmp 16], (some 17), none⟩, false, false, 0, 0⟩,
 ⟨⟨(.callF 138), [.tmp 9, .tmp 15, .tmp 17], (some 18), none⟩, true, false, 0, 1⟩]), []⟩
theorem c183_ok : compFunc Tryz.prog Tryz.f183 = some c183 := by kernel_rfl
theorem c183_body : hasBody Tryz.prog 183 = true := hasBody_of Tryz.func183 (by kernel_rfl)
/-- (coachyard/idle.Yard).Leave -/
def c184 : PFn := ⟨12, Tr.ofList (List.replicate 12 undefA), (.seq (.seqR [⟨.box, [.tmp 0], (some 2), none⟩,
 ⟨.move, [.const (.ptr none)], (some 4), none⟩])
 (.seq (.drawR [⟨⟨(.load true 2), [.tmp 2], (some 5), none⟩, false, false, 0, 1⟩,
 ⟨⟨.move, [.tmp 1], (some 6), none⟩, false, false, 0, 1⟩,
 ⟨⟨(.load true 2), [.tmp 2], (some 7), none⟩, false, false, 0, 0⟩,
 ⟨⟨.move, [.tmp 1], (some 8), none⟩, false, false, 0, 0⟩,
 ⟨⟨(.callF 142), [.tmp 7, .tmp 8], (some 9), none⟩, true, false, 0, 1⟩,
 ⟨⟨(.mkFunc (.func 213) 1), [.tmp 9], (some 10), none⟩, false, false, 1, 1⟩,
 ⟨⟨(.callF 141), [.tmp 5, .tmp 6, .tmp 10], (some 11), none⟩, true, false, 1, 2⟩,
 ⟨⟨.move, [.tmp 11], (some 4), none⟩, false, false, 2, 2⟩])
 .ret)), [.tmp 4]⟩
theorem c184_ok : compFunc Tryz.prog Tryz.f184 = some c184 := by kernel_rfl
theorem c184_body : hasBody Tryz.prog 184 = true := hasBody_of Tryz.func184 (by kernel_rfl)
/-- (*coachyard/pool.parker).left -/
def c185 : PFn := ⟨33, Tr.ofList (List.replicate 33 undefA), (.seq (.seqR [⟨.box, [.tmp 1], (some 3), none⟩])
 (.seq (.seqR [⟨.move, [.tmp 0], (some 4), none⟩,
 ⟨(.fieldAddr 0), [.tmp 3], (some 5), none⟩,
 ⟨(.load false 1), [.tmp 5], (some 6), none⟩,
 ⟨(.bin .eql), [.tmp 6, .const (.int .i64 5)], (some 7), none⟩,
 ⟨.nilCheck, [.tmp 4], (some 8), none⟩,
 ⟨(.fieldAddr 6), [.tmp 8], (some 9), none⟩,
 ⟨(.store 1), [.tmp 9, .tmp 7], none, none⟩])
 (.drawR [⟨⟨.move, [.tmp 0], (some 10), none⟩, false, false, 0, 2⟩,
 ⟨⟨.nilCheck, [.tmp 10], (some 11), none⟩, false, false, 0, 2⟩,
 ⟨⟨(.fieldAddr 0), [.tmp 11], (some 12), none⟩, false, false, 0, 2⟩,
 ⟨⟨(.fieldAddr 1), [.tmp 12], (some 13), none⟩, false, false, 0, 2⟩,
 ⟨⟨(.load false 1), [.tmp 13], (some 14), none⟩, false, false, 0, 2⟩,
 ⟨⟨.move, [.tmp 0], (some 15), none⟩, false, false, 0, 0⟩,
 ⟨⟨.nilCheck, [.tmp 15], (some 16), none⟩, false, false, 0, 0⟩,
 ⟨⟨(.fieldAddr 0), [.tmp 16], (some 17), none⟩, false, false, 0, 0⟩,
 ⟨⟨(.fieldAddr 0), [.tmp 17], (some 18), none⟩, false, false, 0, 0⟩,
 ⟨⟨(.load false 1), [.tmp 18], (some 19), none⟩, false, false, 0, 0⟩,
 ⟨⟨.nilCheck, [.tmp 19], (some 20), none⟩, false, false, 0, 0⟩,
 ⟨⟨(.fieldAddr 0), [.tmp 20], (some 21), none⟩, false, false, 0, 0⟩,
 ⟨⟨(.load true 4), [.tmp 21], (some 22), none⟩, false, false, 0, 0⟩,
 ⟨⟨.move, [.tmp 0], (some 23), none⟩, false, false, 0, 0⟩,
 ⟨⟨.nilCheck, [.tmp 23], (some 24), none⟩, false, false, 0, 0⟩,
 ⟨⟨(.fieldAddr 0), [.tmp 24], (some 25), none⟩, false, false, 0, 0⟩,
 ⟨⟨(.fieldAddr 2), [.tmp 25], (some 26), none⟩, false, false, 0, 0⟩,
 ⟨⟨(.load false 1), [.tmp 26], (some 27), none⟩, false, false, 0, 0⟩,
 ⟨⟨(.callF 60), [.tmp 22, .tmp 27], (some 28), none⟩, true, false, 0, 1⟩,
 ⟨⟨(.callF 214), [.tmp 28], (some 29), none⟩, true, false, 1, 2⟩,
 ⟨⟨.move, [.tmp 0], (some 30), none⟩, false, false, 0, 2⟩,
 ⟨⟨(.mkFunc (.func 215) 1), [.tmp 30], (some 31), none⟩, false, false, 0, 2⟩,
 ⟨⟨(.callF 52), [.tmp 14, .tmp 29, .tmp 31], (some 32), none⟩, true, false, 2, 3⟩]))), []⟩
theorem c185_ok : compFunc Tryz.prog Tryz.f185 = some c185 := by kernel_rfl
theorem c185_body : hasBody Tryz.prog 185 = true := hasBody_of Tryz.func185 (by kernel_rfl)
/-- coachyard/cells.load -/
def c186 : PFn := ⟨7, Tr.ofList (List.replicate 7 undefA), (.seq (.seqR [⟨.box, [.tmp 1], (some 3), none⟩,
 ⟨.move, [.const (.int .u64 0)], (some 4), none⟩,
 ⟨.move, [.const (.bool false)], (some 5), none⟩])
 (.seq (.seqR [⟨.move, [.tmp 0], (some 6), none⟩,
 ⟨.move, [.tmp 6], (some 4), none⟩,
 ⟨.move, [.const (.bool true)], (some 5), none⟩])
 .ret)), [.tmp 4, .tmp 5]⟩
theorem c186_ok : compFunc Tryz.prog Tryz.f186 = some c186 := by kernel_rfl
theorem c186_body : hasBody Tryz.prog 186 = true := hasBody_of Tryz.func186 (by kernel_rfl)
/-- coachyard/cells.store -/
def c187 : PFn := ⟨8, Tr.ofList (List.replicate 8 undefA), (.seq (.seqR [⟨.box, [.tmp 1], (some 3), none⟩,
 ⟨.move, [.const (.int .u64 0)], (some 4), none⟩,
 ⟨.move, [.const (.bool false)], (some 5), none⟩])
 (.seq (.seqR [⟨(.fieldAddr 2), [.tmp 3], (some 6), none⟩,
 ⟨(.load false 1), [.tmp 6], (some 7), none⟩,
 ⟨.move, [.tmp 7], (some 4), none⟩,
 ⟨.move, [.const (.bool true)], (some 5), none⟩])
 .ret)), [.tmp 4, .tmp 5]⟩
theorem c187_ok : compFunc Tryz.prog Tryz.f187 = some c187 := by kernel_rfl
theorem c187_body : hasBody Tryz.prog 187 = true := hasBody_of Tryz.func187 (by kernel_rfl)
/-- coachyard/cells.cas -/
def c188 : PFn := ⟨13, Tr.ofList (List.replicate 13 undefA), (.seq (.seqR [⟨.box, [.tmp 1], (some 3), none⟩,
 ⟨.move, [.const (.int .u64 0)], (some 4), none⟩,
 ⟨.move, [.const (.bool false)], (some 5), none⟩])
 (.seq (.seq (.seqR [⟨.move, [.tmp 0], (some 6), none⟩,
 ⟨(.fieldAddr 2), [.tmp 3], (some 7), none⟩,
 ⟨(.load false 1), [.tmp 7], (some 8), none⟩,
 ⟨(.bin .neq), [.tmp 6, .tmp 8], (some 9), none⟩])
 (.cond (.tmp 9) (.seq (.seqR [⟨.move, [.tmp 0], (some 10), none⟩,
 ⟨.move, [.tmp 10], (some 4), none⟩,
 ⟨.move, [.const (.bool false)], (some 5), none⟩])
 .ret)
 .skip))
 (.seq (.seqR [⟨(.fieldAddr 3), [.tmp 3], (some 11), none⟩,
 ⟨(.load false 1), [.tmp 11], (some 12), none⟩,
 ⟨.move, [.tmp 12], (some 4), none⟩,
 ⟨.move, [.const (.bool true)], (some 5), none⟩])
 .ret))), [.tmp 4, .tmp 5]⟩
theorem c188_ok : compFunc Tryz.prog Tryz.f188 = some c188 := by kernel_rfl
theorem c188_body : hasBody Tryz.prog 188 = true := hasBody_of Tryz.func188 (by kernel_rfl)
/-- coachyard/cells.add -/
def c189 : PFn := ⟨10, Tr.ofList (List.replicate 10 undefA), (.seq (.seqR [⟨.box, [.tmp 1], (some 3), none⟩,
 ⟨.move, [.const (.int .u64 0)], (some 4), none⟩,
 ⟨.move, [.const (.bool false)], (some 5), none⟩])
 (.seq (.seqR [⟨.move, [.tmp 0], (some 6), none⟩,
 ⟨(.fieldAddr 2), [.tmp 3], (some 7), none⟩,
 ⟨(.load false 1), [.tmp 7], (some 8), none⟩,
 ⟨(.bin .add), [.tmp 6, .tmp 8], (some 9), none⟩,
 ⟨.move, [.tmp 9], (some 4), none⟩,
 ⟨.move, [.const (.bool true)], (some 5), none⟩])
 .ret)), [.tmp 4, .tmp 5]⟩
theorem c189_ok : compFunc Tryz.prog Tryz.f189 = some c189 := by kernel_rfl
theorem c189_body : hasBody Tryz.prog 189 = true := hasBody_of Tryz.func189 (by kernel_rfl)
/-- coachyard/cells.or -/
def c190 : PFn := ⟨10, Tr.ofList (List.replicate 10 undefA), (.seq (.seqR [⟨.box, [.tmp 1], (some 3), none⟩,
 ⟨.move, [.const (.int .u64 0)], (some 4), none⟩,
 ⟨.move, [.const (.bool false)], (some 5), none⟩])
 (.seq (.seqR [⟨.move, [.tmp 0], (some 6), none⟩,
 ⟨(.fieldAddr 2), [.tmp 3], (some 7), none⟩,
 ⟨(.load false 1), [.tmp 7], (some 8), none⟩,
 ⟨(.bin .or), [.tmp 6, .tmp 8], (some 9), none⟩,
 ⟨.move, [.tmp 9], (some 4), none⟩,
 ⟨.move, [.const (.bool true)], (some 5), none⟩])
 .ret)), [.tmp 4, .tmp 5]⟩
theorem c190_ok : compFunc Tryz.prog Tryz.f190 = some c190 := by kernel_rfl
theorem c190_body : hasBody Tryz.prog 190 = true := hasBody_of Tryz.func190 (by kernel_rfl)
/-- coachyard/cells.and -/
def c191 : PFn := ⟨10, Tr.ofList (List.replicate 10 undefA), (.seq (.seqR [⟨.box, [.tmp 1], (some 3), none⟩,
 ⟨.move, [.const (.int .u64 0)], (some 4), none⟩,
 ⟨.move, [.const (.bool false)], (some 5), none⟩])
 (.seq (.seqR [⟨.move, [.tmp 0], (some 6), none⟩,
 ⟨(.fieldAddr 2), [.tmp 3], (some 7), none⟩,
 ⟨(.load false 1), [.tmp 7], (some 8), none⟩,
 ⟨(.bin .and), [.tmp 6, .tmp 8], (some 9), none⟩,
 ⟨.move, [.tmp 9], (some 4), none⟩,
 ⟨.move, [.const (.bool true)], (some 5), none⟩])
 .ret)), [.tmp 4, .tmp 5]⟩
theorem c191_ok : compFunc Tryz.prog Tryz.f191 = some c191 := by kernel_rfl
theorem c191_body : hasBody Tryz.prog 191 = true := hasBody_of Tryz.func191 (by kernel_rfl)
/-- coachyard/cells.wait -/
def c192 : PFn := ⟨11, Tr.ofList (List.replicate 11 undefA), (.seq (.seqR [⟨.box, [.tmp 1], (some 3), none⟩,
 ⟨.move, [.const (.int .u64 0)], (some 4), none⟩,
 ⟨.move, [.const (.bool false)], (some 5), none⟩])
 (.seq (.drawR [⟨⟨.move, [.tmp 0], (some 6), none⟩, false, false, 0, 0⟩,
 ⟨⟨.move, [.tmp 0], (some 7), none⟩, false, false, 0, 0⟩,
 ⟨⟨(.fieldAddr 2), [.tmp 3], (some 8), none⟩, false, false, 0, 0⟩,
 ⟨⟨(.load false 1), [.tmp 8], (some 9), none⟩, false, false, 0, 0⟩,
 ⟨⟨(.bin .neq), [.tmp 7, .tmp 9], (some 10), none⟩, false, false, 0, 0⟩,
 ⟨⟨.move, [.tmp 6], (some 4), none⟩, false, false, 0, 0⟩,
 ⟨⟨.move, [.tmp 10], (some 5), none⟩, false, false, 0, 0⟩])
 .ret)), [.tmp 4, .tmp 5]⟩
theorem c192_ok : compFunc Tryz.prog Tryz.f192 = some c192 := by kernel_rfl
theorem c192_body : hasBody Tryz.prog 192 = true := hasBody_of Tryz.func192 (by kernel_rfl)
/-- slices.Equal[[]int,int] -/
def c193 : PFn := ⟨26, Tr.ofList (List.replicate 26 undefA), (.seq (.seqR [⟨.move, [.const (.bool false)], (some 4), none⟩])
 (.seq (.seq (.seqR [⟨.move, [.tmp 0], (some 6), none⟩,
 ⟨.lenS, [.tmp 6], (some 7), none⟩,
 ⟨.move, [.tmp 1], (some 8), none⟩,
 ⟨.lenS, [.tmp 8], (some 9), none⟩,
 ⟨(.bin .neq), [.tmp 7, .tmp 9], (some 10), none⟩])
 (.cond (.tmp 10) (.seq (.seqR [⟨.move, [.const (.bool false)], (some 4), none⟩])
 .ret)
 .skip))
 (.seq (.seq (.seqR [⟨.move, [.tmp 0], (some 11), none⟩,
 ⟨.lenS, [.tmp 11], (some 12), none⟩,
 ⟨.move, [.const (.int .i64 0)], (some 13), none⟩])
 (.block 0 (.loop (.seq (.seqR [⟨(.bin .lss), [.tmp 13, .tmp 12], (some 14), none⟩])
 (.seq (.cond (.tmp 14) .skip
 (.exit 0))
 (.seq (.block 1 (.seq (.seqR [⟨.move, [.tmp 13], (some 15), none⟩,
 ⟨.move, [.tmp 15], (some 5), none⟩])
 (.seq (.drawR [⟨⟨.move, [.tmp 0], (some 16), none⟩, false, false, 0, 0⟩,
 ⟨⟨.move, [.tmp 5], (some 17), none⟩, false, false, 0, 0⟩,
 ⟨⟨(.indexAddrS 1), [.tmp 16, .tmp 17], (some 18), none⟩, false, false, 0, 0⟩,
 ⟨⟨(.load false 1), [.tmp 18], (some 19), none⟩, false, false, 0, 0⟩,
 ⟨⟨.move, [.tmp 1], (some 20), none⟩, false, false, 0, 0⟩,
 ⟨⟨.move, [.tmp 5], (some 21), none⟩, false, false, 0, 0⟩,
 ⟨⟨(.indexAddrS 1), [.tmp 20, .tmp 21], (some 22), none⟩, false, false, 0, 0⟩,
 ⟨⟨(.load false 1), [.tmp 22], (some 23), none⟩, false, false, 0, 0⟩,
 ⟨⟨(.bin .neq), [.tmp 19, .tmp 23], (some 24), none⟩, false, false, 0, 0⟩])
 (.cond (.tmp 24) (.seq (.seqR [⟨.move, [.const (.bool false)], (some 4), none⟩])
 .ret)
 .skip))))
 (.seqR [⟨(.bin .add), [.tmp 13, .const (.int .i64 1)], (some 25), none⟩,
 ⟨.move, [.tmp 25], (some 13), none⟩])))))))
 (.seq (.seqR [⟨.move, [.const (.bool true)], (some 4), none⟩])
 .ret)))), [.tmp 4]⟩
theorem c193_ok : compFunc Tryz.prog Tryz.f193 = some c193 := by kernel_rfl
theorem c193_body : hasBody Tryz.prog 193 = true := hasBody_of Tryz.func193 (by kernel_rfl)
/-- coachyard/word.First -/
def c195 : PFn := ⟨8, Tr.ofList (List.replicate 8 undefA), (.seq (.seqR [⟨.move, [.const (.int .i64 0)], (some 2), none⟩,
 ⟨.move, [.const (.bool false)], (some 3), none⟩])
 (.seq (.seq (.seqR [⟨.move, [.tmp 0], (some 4), none⟩,
 ⟨(.bin .eql), [.tmp 4, .const (.int .u64 0)], (some 5), none⟩])
 (.cond (.tmp 5) (.seq (.seqR [⟨.move, [.const (.int .i64 0)], (some 2), none⟩,
 ⟨.move, [.const (.bool false)], (some 3), none⟩])
 .ret)
 .skip))
 (.seq (.seqR [⟨.move, [.tmp 0], (some 6), none⟩,
 ⟨(.callF 218), [.tmp 6], (some 7), none⟩,
 ⟨.move, [.tmp 7], (some 2), none⟩,
 ⟨.move, [.const (.bool true)], (some 3), none⟩])
 .ret))), [.tmp 2, .tmp 3]⟩
theorem c195_ok : compFunc Tryz.prog Tryz.f195 = some c195 := by kernel_rfl
theorem c195_body : hasBody Tryz.prog 195 = true := hasBody_of Tryz.func195 (by kernel_rfl)
/-- (coachyard/idle.Yard).all -/
def c196 : PFn := ⟨7, Tr.ofList (List.replicate 7 undefA), (.seq (.seqR [⟨.box, [.tmp 0], (some 1), none⟩,
 ⟨.move, [.const (.int .u32 0)], (some 2), none⟩])
 (.seq (.seqR [⟨(.fieldAddr 1), [.tmp 1], (some 3), none⟩,
 ⟨(.load false 1), [.tmp 3], (some 4), none⟩,
 ⟨(.bin .shl), [.const (.int .u32 1), .tmp 4], (some 5), none⟩,
 ⟨(.bin .sub), [.tmp 5, .const (.int .u32 1)], (some 6), none⟩,
 ⟨.move, [.tmp 6], (some 2), none⟩])
 .ret)), [.tmp 2]⟩
theorem c196_ok : compFunc Tryz.prog Tryz.f196 = some c196 := by kernel_rfl
theorem c196_body : hasBody Tryz.prog 196 = true := hasBody_of Tryz.func196 (by kernel_rfl)
/-- (*coachyard/queue.take).atTail -/
def c204 : PFn := ⟨26, Tr.ofList (List.replicate 26 undefA), (.seq (.seqR [⟨.move, [.tmp 0], (some 6), none⟩,
 ⟨.move, [.tmp 1], (some 7), none⟩,
 ⟨.nilCheck, [.tmp 6], (some 8), none⟩,
 ⟨(.fieldAddr 4), [.tmp 8], (some 9), none⟩,
 ⟨(.store 1), [.tmp 9, .tmp 7], none, none⟩])
 (.drawR [⟨⟨.move, [.tmp 0], (some 10), none⟩, false, false, 0, 1⟩,
 ⟨⟨.nilCheck, [.tmp 10], (some 11), none⟩, false, false, 0, 1⟩,
 ⟨⟨(.fieldAddr 0), [.tmp 11], (some 12), none⟩, false, false, 0, 1⟩,
 ⟨⟨.move, [.tmp 0], (some 13), none⟩, false, false, 0, 0⟩,
 ⟨⟨.nilCheck, [.tmp 13], (some 14), none⟩, false, false, 0, 0⟩,
 ⟨⟨(.fieldAddr 0), [.tmp 14], (some 15), none⟩, false, false, 0, 0⟩,
 ⟨⟨(.fieldAddr 0), [.tmp 15], (some 16), none⟩, false, false, 0, 0⟩,
 ⟨⟨(.load true 2), [.tmp 16], (some 17), none⟩, false, false, 0, 0⟩,
 ⟨⟨.move, [.tmp 0], (some 18), none⟩, false, false, 0, 0⟩,
 ⟨⟨.nilCheck, [.tmp 18], (some 19), none⟩, false, false, 0, 0⟩,
 ⟨⟨(.fieldAddr 7), [.tmp 19], (some 20), none⟩, false, false, 0, 0⟩,
 ⟨⟨(.load false 1), [.tmp 20], (some 21), none⟩, false, false, 0, 0⟩,
 ⟨⟨(.callF 110), [.tmp 17, .tmp 21], (some 22), none⟩, true, false, 0, 1⟩,
 ⟨⟨.move, [.tmp 0], (some 23), none⟩, false, false, 0, 1⟩,
 ⟨⟨(.mkFunc (.func 227) 1), [.tmp 23], (some 24), none⟩, false, false, 0, 1⟩,
 ⟨⟨(.callF 162), [.tmp 12, .tmp 22, .tmp 24], (some 25), none⟩, true, false, 1, 2⟩])), []⟩
theorem c204_ok : compFunc Tryz.prog Tryz.f204 = some c204 := by kernel_rfl
theorem c204_body : hasBody Tryz.prog 204 = true := hasBody_of Tryz.func204 (by kernel_rfl)
/-- (*coachyard/pool.next).found -/
def c205 : PFn := ⟨31, Tr.ofList (List.replicate 31 undefA), (.seq (.seqR [⟨.box, [.tmp 0], (some 1), none⟩])
 (.seq (.seq (.seqR [⟨(.load false 1), [.tmp 1], (some 2), none⟩,
 ⟨.nilCheck, [.tmp 2], (some 3), none⟩,
 ⟨(.fieldAddr 4), [.tmp 3], (some 4), none⟩,
 ⟨(.load false 1), [.tmp 4], (some 5), none⟩,
 ⟨.not, [.tmp 5], (some 6), none⟩])
 (.cond (.tmp 6) (.seq (.seqR [⟨(.load false 1), [.tmp 1], (some 7), none⟩,
 ⟨(.callF 228), [.tmp 7], (some 8), none⟩])
 .ret)
 .skip))
 (.drawR [⟨⟨(.load false 1), [.tmp 1], (some 9), none⟩, false, false, 0, 2⟩,
 ⟨⟨.nilCheck, [.tmp 9], (some 10), none⟩, false, false, 0, 2⟩,
 ⟨⟨(.fieldAddr 0), [.tmp 10], (some 11), none⟩, false, false, 0, 2⟩,
 ⟨⟨(.fieldAddr 1), [.tmp 11], (some 12), none⟩, false, false, 0, 2⟩,
 ⟨⟨(.load false 1), [.tmp 12], (some 13), none⟩, false, false, 0, 2⟩,
 ⟨⟨(.load false 1), [.tmp 1], (some 14), none⟩, false, false, 0, 0⟩,
 ⟨⟨.nilCheck, [.tmp 14], (some 15), none⟩, false, false, 0, 0⟩,
 ⟨⟨(.fieldAddr 0), [.tmp 15], (some 16), none⟩, false, false, 0, 0⟩,
 ⟨⟨(.fieldAddr 0), [.tmp 16], (some 17), none⟩, false, false, 0, 0⟩,
 ⟨⟨(.load false 1), [.tmp 17], (some 18), none⟩, false, false, 0, 0⟩,
 ⟨⟨.nilCheck, [.tmp 18], (some 19), none⟩, false, false, 0, 0⟩,
 ⟨⟨(.fieldAddr 0), [.tmp 19], (some 20), none⟩, false, false, 0, 0⟩,
 ⟨⟨(.load true 4), [.tmp 20], (some 21), none⟩, false, false, 0, 0⟩,
 ⟨⟨(.callF 102), [.tmp 21], (some 22), none⟩, true, false, 0, 1⟩,
 ⟨⟨(.load false 1), [.tmp 1], (some 23), none⟩, false, false, 0, 1⟩,
 ⟨⟨.nilCheck, [.tmp 23], (some 24), none⟩, false, false, 0, 1⟩,
 ⟨⟨(.fieldAddr 0), [.tmp 24], (some 25), none⟩, false, false, 0, 1⟩,
 ⟨⟨(.fieldAddr 2), [.tmp 25], (some 26), none⟩, false, false, 0, 1⟩,
 ⟨⟨(.load false 1), [.tmp 26], (some 27), none⟩, false, false, 0, 1⟩,
 ⟨⟨(.callF 229), [.tmp 22, .tmp 27], (some 28), none⟩, true, false, 1, 2⟩,
 ⟨⟨(.mkFunc (.func 230) 0), [.tmp 1], (some 29), none⟩, false, false, 0, 2⟩,
 ⟨⟨(.callF 52), [.tmp 13, .tmp 28, .tmp 29], (some 30), none⟩, true, false, 2, 3⟩]))), []⟩
theorem c205_ok : compFunc Tryz.prog Tryz.f205 = some c205 := by kernel_rfl
theorem c205_body : hasBody Tryz.prog 205 = true := hasBody_of Tryz.func205 (by kernel_rfl)
/-- (coachyard/local.Row).Steal -/
def c206 : PFn := ⟨39, Tr.ofList (List.replicate 39 undefA), (.seq (.seqR [⟨.box, [.tmp 0], (some 2), none⟩,
 ⟨.box, [.tmp 1], (some 3), none⟩,
 ⟨.move, [.const (.ptr none)], (some 4), none⟩])
 (.seq (.seq (.seqR [⟨(.load true 3), [.tmp 2], (some 7), none⟩,
 ⟨(.callF 171), [.tmp 7], (some 8), none⟩,
 ⟨.not, [.tmp 8], (some 9), none⟩,
 ⟨.move, [.tmp 9], (some 10), none⟩,
 ⟨(.load true 3), [.tmp 3], (some 11), some (10, false)⟩,
 ⟨(.callF 171), [.tmp 11], (some 12), some (10, false)⟩,
 ⟨.not, [.tmp 12], (some 13), some (10, false)⟩,
 ⟨.pick, [.tmp 10, .const (.bool true), .tmp 13], (some 14), none⟩,
 ⟨.move, [.tmp 14], (some 15), none⟩,
 ⟨(.fieldAddr 0), [.tmp 2], (some 16), some (15, false)⟩,
 ⟨(.load false 1), [.tmp 16], (some 17), some (15, false)⟩,
 ⟨(.fieldAddr 0), [.tmp 3], (some 18), some (15, false)⟩,
 ⟨(.load false 1), [.tmp 18], (some 19), some (15, false)⟩,
 ⟨(.bin .neq), [.tmp 17, .tmp 19], (some 20), some (15, false)⟩,
 ⟨.pick, [.tmp 15, .const (.bool true), .tmp 20], (some 21), none⟩])
 (.cond (.tmp 21) (.seq (.seqR [⟨(.callF 172), [], (some 22), none⟩,
 ⟨.move, [.tmp 22], (some 4), none⟩])
 .ret)
 .skip))
 (.seq (.seq (.seqR [⟨(.load true 3), [.tmp 2], (some 23), none⟩,
 ⟨(.callF 91), [.tmp 23], (some 24), none⟩])
 (.block 0 (.seq (.seqR [⟨(.assertC 202 true (.agg [(.int .i64 0), (.int .i64 0)])), [.tmp 24], (some 25), none⟩,
 ⟨(.extract 1), [.tmp 25], (some 26), none⟩,
 ⟨(.extract 0), [.tmp 25], (some 27), none⟩])
 (.cond (.tmp 26) (.seq (.seqR [⟨(.new [(.int .i64 0), (.int .i64 0)]), [], (some 5), none⟩,
 ⟨(.store 2), [.tmp 5, .tmp 27], none, none⟩])
 (.seq (.seqR [⟨(.load true 2), [.tmp 5], (some 28), none⟩,
 ⟨(.callF 231), [.tmp 28], (some 29), none⟩,
 ⟨.move, [.tmp 29], (some 4), none⟩])
 .ret))
 (.seq (.seqR [⟨(.assertC 203 true (.agg [(.int .i64 0), (.int .i64 0)])), [.tmp 24], (some 30), none⟩,
 ⟨(.extract 1), [.tmp 30], (some 31), none⟩,
 ⟨(.extract 0), [.tmp 30], (some 32), none⟩])
 (.cond (.tmp 31) (.seq (.seqR [⟨(.new [(.int .i64 0), (.int .i64 0)]), [], (some 6), none⟩,
 ⟨(.store 2), [.tmp 6, .tmp 32], none, none⟩])
 (.seq (.drawR [⟨⟨(.load true 2), [.tmp 6], (some 33), none⟩, false, false, 0, 1⟩,
 ⟨⟨(.load true 3), [.tmp 3], (some 34), none⟩, false, false, 0, 0⟩,
 ⟨⟨(.callF 91), [.tmp 34], (some 35), none⟩, true, false, 0, 1⟩,
 ⟨⟨(.assertC 203 false (.agg [(.int .i64 0), (.int .i64 0)])), [.tmp 35], (some 36), none⟩, false, false, 1, 1⟩,
 ⟨⟨(.callF 232), [.tmp 33, .tmp 36], (some 37), none⟩, true, false, 1, 2⟩,
 ⟨⟨.move, [.tmp 37], (some 4), none⟩, false, false, 2, 2⟩])
 .ret))
 .skip))))))
 (.seq (.seqR [⟨(.callF 172), [], (some 38), none⟩,
 ⟨.move, [.tmp 38], (some 4), none⟩])
 .ret)))), [.tmp 4]⟩
theorem c206_ok : compFunc Tryz.prog Tryz.f206 = some c206 := by kernel_rfl
theorem c206_body : hasBody Tryz.prog 206 = true := hasBody_of Tryz.func206 (by kernel_rfl)
/-- (*coachyard/pool.next).stolen -/
def c207 : PFn := ⟨30, Tr.ofList (List.replicate 30 undefA), (.seq (.seqR [⟨.box, [.tmp 1], (some 3), none⟩])
 (.seq (.seqR [⟨(.fieldAddr 0), [.tmp 3], (some 4), none⟩,
 ⟨(.load false 1), [.tmp 4], (some 5), none⟩])
 (.block 0 (.seq (.seqR [⟨(.bin .eql), [.tmp 5, .const (.int .i64 6)], (some 13), none⟩,
 ⟨.move, [.tmp 13], (some 12), none⟩])
 (.cond (.tmp 12) (.seqR [⟨.move, [.tmp 0], (some 14), none⟩,
 ⟨(.callF 165), [.tmp 14], (some 15), none⟩])
 (.seq (.seq (.seqR [⟨(.bin .eql), [.tmp 5, .const (.int .i64 5)], (some 17), none⟩,
 ⟨.move, [.tmp 17], (some 16), none⟩])
 (.cond (.tmp 16) .skip
 (.seq (.seqR [⟨(.bin .eql), [.tmp 5, .const (.int .i64 8)], (some 18), none⟩,
 ⟨.move, [.tmp 18], (some 16), none⟩])
 (.cond (.tmp 16) .skip
 (.seqR [⟨(.bin .eql), [.tmp 5, .const (.int .i64 4)], (some 19), none⟩,
 ⟨.move, [.tmp 19], (some 16), none⟩])))))
 (.cond (.tmp 16) (.seq (.seqR [⟨.move, [.tmp 0], (some 20), none⟩,
 ⟨.move, [.tmp 0], (some 21), none⟩,
 ⟨.nilCheck, [.tmp 21], (some 22), none⟩,
 ⟨(.fieldAddr 3), [.tmp 22], (some 23), none⟩,
 ⟨(.load false 1), [.tmp 23], (some 24), none⟩,
 ⟨(.slice 1 true false false), [.tmp 24, .const (.int .i64 1)], (some 25), none⟩,
 ⟨.nilCheck, [.tmp 20], (some 26), none⟩,
 ⟨(.fieldAddr 3), [.tmp 26], (some 27), none⟩,
 ⟨(.store 1), [.tmp 27, .tmp 25], none, none⟩])
 (.seqR [⟨.move, [.tmp 0], (some 28), none⟩,
 ⟨(.callF 165), [.tmp 28], (some 29), none⟩]))
 (.seq (.seqR [⟨.move, [.tmp 0], (some 6), none⟩,
 ⟨(.load true 3), [.tmp 3], (some 7), none⟩,
 ⟨.nilCheck, [.tmp 6], (some 8), none⟩,
 ⟨(.fieldAddr 5), [.tmp 8], (some 9), none⟩,
 ⟨(.store 3), [.tmp 9, .tmp 7], none, none⟩])
 (.seqR [⟨.move, [.tmp 0], (some 10), none⟩,
 ⟨(.callF 205), [.tmp 10], (some 11), none⟩]))))))))), []⟩
theorem c207_ok : compFunc Tryz.prog Tryz.f207 = some c207 := by kernel_rfl
theorem c207_body : hasBody Tryz.prog 207 = true := hasBody_of Tryz.func207 (by kernel_rfl)
/-- coachyard/word.Pair -/
def c208 : PFn := ⟨11, Tr.ofList (List.replicate 11 undefA), (.seq (.seqR [⟨.move, [.const (.int .u64 0)], (some 4), none⟩])
 (.seq (.seqR [⟨.move, [.tmp 0], (some 5), none⟩,
 ⟨(.conv .u64), [.tmp 5], (some 6), none⟩,
 ⟨(.bin .shl), [.tmp 6, .const (.int .u64 32)], (some 7), none⟩,
 ⟨.move, [.tmp 1], (some 8), none⟩,
 ⟨(.conv .u64), [.tmp 8], (some 9), none⟩,
 ⟨(.bin .or), [.tmp 7, .tmp 9], (some 10), none⟩,
 ⟨.move, [.tmp 10], (some 4), none⟩])
 .ret)), [.tmp 4]⟩
theorem c208_ok : compFunc Tryz.prog Tryz.f208 = some c208 := by kernel_rfl
theorem c208_body : hasBody Tryz.prog 208 = true := hasBody_of Tryz.func208 (by kernel_rfl)
/-- (*coachyard/idle.turn).tried -/
def c209 : PFn := ⟨21, Tr.ofList (List.replicate 21 undefA), (.seq (.seq (.seqR [⟨.move, [.tmp 2], (some 6), none⟩,
 ⟨.not, [.tmp 6], (some 7), none⟩])
 (.cond (.tmp 7) (.seq (.seqR [⟨.move, [.tmp 0], (some 8), none⟩,
 ⟨.move, [.tmp 1], (some 9), none⟩,
 ⟨(.callF 170), [.tmp 8, .tmp 9, .const (.bool true)], (some 10), none⟩])
 .ret)
 .skip))
 (.drawR [⟨⟨.move, [.tmp 0], (some 11), none⟩, false, false, 0, 0⟩,
 ⟨⟨.nilCheck, [.tmp 11], (some 12), none⟩, false, false, 0, 0⟩,
 ⟨⟨(.fieldAddr 2), [.tmp 12], (some 13), none⟩, false, false, 0, 0⟩,
 ⟨⟨(.load false 1), [.tmp 13], (some 14), none⟩, false, false, 0, 0⟩,
 ⟨⟨.move, [.tmp 0], (some 15), none⟩, false, false, 0, 0⟩,
 ⟨⟨.nilCheck, [.tmp 15], (some 16), none⟩, false, false, 0, 0⟩,
 ⟨⟨(.fieldAddr 5), [.tmp 16], (some 17), none⟩, false, false, 0, 0⟩,
 ⟨⟨(.load false 1), [.tmp 17], (some 18), none⟩, false, false, 0, 0⟩,
 ⟨⟨(.build [(.int .i64 0), (.int .u64 0), (.slice none 0 0 false)] [(1, 1)]), [.tmp 18], (some 19), none⟩, false, false, 0, 0⟩,
 ⟨⟨(.callF 87), [.tmp 14, .tmp 19], (some 20), none⟩, true, false, 0, 1⟩])), []⟩
theorem c209_ok : compFunc Tryz.prog Tryz.f209 = some c209 := by kernel_rfl
theorem c209_body : hasBody Tryz.prog 209 = true := hasBody_of Tryz.func209 (by kernel_rfl)
/-- coachyard/local.refused$1 -/
def c210 : PFn := ⟨4, Tr.ofList (List.replicate 4 undefA), (.seqR [⟨.move, [.tmp 0], (some 2), none⟩,
 ⟨(.callF 48), [.tmp 2, .const (.int .i64 2)], (some 3), none⟩]), []⟩
theorem c210_ok : compFunc Tryz.prog Tryz.f210 = some c210 := by kernel_rfl
theorem c210_body : hasBody Tryz.prog 210 = true := hasBody_of Tryz.func210 (by kernel_rfl)
/-- coachyard/word.Ahead -/
def c211 : PFn := ⟨10, Tr.ofList (List.replicate 10 undefA), (.seq (.seqR [⟨.move, [.const (.int .i64 0)], (some 4), none⟩])
 (.seq (.seqR [⟨.move, [.tmp 0], (some 5), none⟩,
 ⟨.move, [.tmp 1], (some 6), none⟩,
 ⟨(.bin .sub), [.tmp 5, .tmp 6], (some 7), none⟩,
 ⟨(.conv .i32), [.tmp 7], (some 8), none⟩,
 ⟨(.conv .i64), [.tmp 8], (some 9), none⟩,
 ⟨.move, [.tmp 9], (some 4), none⟩])
 .ret)), [.tmp 4]⟩
theorem c211_ok : compFunc Tryz.prog Tryz.f211 = some c211 := by kernel_rfl
theorem c211_body : hasBody Tryz.prog 211 = true := hasBody_of Tryz.func211 (by kernel_rfl)
/-- (*coachyard/park.waiter).seen -/
def c212 : PFn := ⟨43, Tr.ofList (List.replicate 43 undefA), (.seq (.seq (.drawR [⟨⟨.move, [.tmp 1], (some 6), none⟩, false, false, 0, 0⟩,
 ⟨⟨(.callF 101), [.tmp 6], (some 7), none⟩, true, false, 0, 1⟩,
 ⟨⟨.move, [.tmp 0], (some 8), none⟩, false, false, 0, 1⟩,
 ⟨⟨.nilCheck, [.tmp 8], (some 9), none⟩, false, false, 0, 1⟩,
 ⟨⟨(.fieldAddr 2), [.tmp 9], (some 10), none⟩, false, false, 0, 1⟩,
 ⟨⟨(.load false 1), [.tmp 10], (some 11), none⟩, false, false, 0, 1⟩,
 ⟨⟨(.bin .neq), [.tmp 7, .tmp 11], (some 12), none⟩, false, false, 1, 1⟩])
 (.cond (.tmp 12) (.seq (.drawR [⟨⟨.move, [.tmp 0], (some 13), none⟩, false, false, 0, 0⟩,
 ⟨⟨.nilCheck, [.tmp 13], (some 14), none⟩, false, false, 0, 0⟩,
 ⟨⟨(.fieldAddr 1), [.tmp 14], (some 15), none⟩, false, false, 0, 0⟩,
 ⟨⟨(.load false 1), [.tmp 15], (some 16), none⟩, false, false, 0, 0⟩,
 ⟨⟨.move, [.tmp 0], (some 17), none⟩, false, false, 0, 0⟩,
 ⟨⟨.nilCheck, [.tmp 17], (some 18), none⟩, false, false, 0, 0⟩,
 ⟨⟨(.fieldAddr 0), [.tmp 18], (some 19), none⟩, false, false, 0, 0⟩,
 ⟨⟨(.fieldAddr 0), [.tmp 19], (some 20), none⟩, false, false, 0, 0⟩,
 ⟨⟨(.load false 1), [.tmp 20], (some 21), none⟩, false, false, 0, 0⟩,
 ⟨⟨(.build [(.int .i64 0), (.int .i64 0), (.int .u64 0), (.int .u64 0)] [(0, 1), (1, 1), (2, 1)]), [.const (.int .i64 6), .tmp 21, .const (.int .u64 18446744073709551614)], (some 22), none⟩, false, false, 0, 0⟩,
 ⟨⟨.move, [.tmp 0], (some 23), none⟩, false, false, 0, 0⟩,
 ⟨⟨(.mkFunc (.func 233) 1), [.tmp 23], (some 24), none⟩, false, false, 0, 0⟩,
 ⟨⟨(.callF 138), [.tmp 16, .tmp 22, .tmp 24], (some 25), none⟩, true, false, 0, 1⟩])
 .ret)
 .skip))
 (.seq (.seqR [⟨.move, [.tmp 0], (some 26), none⟩,
 ⟨.nilCheck, [.tmp 26], (some 27), none⟩,
 ⟨(.fieldAddr 3), [.tmp 27], (some 28), none⟩,
 ⟨(.store 1), [.tmp 28, .const (.int .u64 1)], none, none⟩])
 (.drawR [⟨⟨.move, [.tmp 0], (some 29), none⟩, false, false, 0, 0⟩,
 ⟨⟨.nilCheck, [.tmp 29], (some 30), none⟩, false, false, 0, 0⟩,
 ⟨⟨(.fieldAddr 1), [.tmp 30], (some 31), none⟩, false, false, 0, 0⟩,
 ⟨⟨(.load false 1), [.tmp 31], (some 32), none⟩, false, false, 0, 0⟩,
 ⟨⟨.move, [.tmp 0], (some 33), none⟩, false, false, 0, 0⟩,
 ⟨⟨.nilCheck, [.tmp 33], (some 34), none⟩, false, false, 0, 0⟩,
 ⟨⟨(.fieldAddr 0), [.tmp 34], (some 35), none⟩, false, false, 0, 0⟩,
 ⟨⟨(.fieldAddr 0), [.tmp 35], (some 36), none⟩, false, false, 0, 0⟩,
 ⟨⟨(.load false 1), [.tmp 36], (some 37), none⟩, false, false, 0, 0⟩,
 ⟨⟨.move, [.tmp 1], (some 38), none⟩, false, false, 0, 0⟩,
 ⟨⟨(.build [(.int .i64 0), (.int .i64 0), (.int .u64 0), (.int .u64 0)] [(0, 1), (1, 1), (2, 1)]), [.const (.int .i64 7), .tmp 37, .tmp 38], (some 39), none⟩, false, false, 0, 0⟩,
 ⟨⟨.move, [.tmp 0], (some 40), none⟩, false, false, 0, 0⟩,
 ⟨⟨(.mkFunc (.func 183) 1), [.tmp 40], (some 41), none⟩, false, false, 0, 0⟩,
 ⟨⟨(.callF 138), [.tmp 32, .tmp 39, .tmp 41], (some 42), none⟩, true, false, 0, 1⟩]))), []⟩
theorem c212_ok : compFunc Tryz.prog Tryz.f212 = some c212 := by kernel_rfl
theorem c212_body : hasBody Tryz.prog 212 = true := hasBody_of Tryz.func212 (by kernel_rfl)
/-- (coachyard/idle.one).leave -/
def c213 : PFn := ⟨21, Tr.ofList (List.replicate 21 undefA), (.seq (.seqR [⟨.box, [.tmp 0], (some 2), none⟩,
 ⟨.box, [.tmp 1], (some 3), none⟩,
 ⟨(.new [(.int .u32 0), (.int .u32 0)]), [], (some 4), none⟩,
 ⟨.move, [.const (.int .u64 0)], (some 5), none⟩,
 ⟨.move, [.const (.int .i64 0)], (some 6), none⟩])
 (.seq (.seq (.seqR [⟨(.fieldAddr 1), [.tmp 3], (some 7), none⟩,
 ⟨(.load false 1), [.tmp 7], (some 8), none⟩,
 ⟨(.fieldAddr 2), [.tmp 2], (some 9), none⟩,
 ⟨(.load false 1), [.tmp 9], (some 10), none⟩,
 ⟨(.bin .and), [.tmp 8, .tmp 10], (some 11), none⟩,
 ⟨(.bin .eql), [.tmp 11, .const (.int .u32 0)], (some 12), none⟩])
 (.cond (.tmp 12) (.seq (.seqR [⟨(.build [(.int .u32 0), (.int .u32 0)] []), [], (some 13), none⟩,
 ⟨(.store 2), [.tmp 4, .tmp 13], none, none⟩,
 ⟨.move, [.const (.int .u64 0)], (some 5), none⟩,
 ⟨.move, [.const (.int .i64 5)], (some 6), none⟩])
 .ret)
 .skip))
 (.seq (.seqR [⟨(.fieldAddr 1), [.tmp 3], (some 14), none⟩,
 ⟨(.load false 1), [.tmp 14], (some 15), none⟩,
 ⟨(.fieldAddr 2), [.tmp 2], (some 16), none⟩,
 ⟨(.load false 1), [.tmp 16], (some 17), none⟩,
 ⟨(.bin .andNot), [.tmp 15, .tmp 17], (some 18), none⟩,
 ⟨(.fieldAddr 1), [.tmp 3], (some 19), none⟩,
 ⟨(.store 1), [.tmp 19, .tmp 18], none, none⟩])
 (.seq (.seqR [⟨(.load true 2), [.tmp 3], (some 20), none⟩,
 ⟨(.store 2), [.tmp 4, .tmp 20], none, none⟩,
 ⟨.move, [.const (.int .u64 0)], (some 5), none⟩,
 ⟨.move, [.const (.int .i64 0)], (some 6), none⟩])
 .ret)))), [.cell 4 true 2, .tmp 5, .tmp 6]⟩
theorem c213_ok : compFunc Tryz.prog Tryz.f213 = some c213 := by kernel_rfl
theorem c213_body : hasBody Tryz.prog 213 = true := hasBody_of Tryz.func213 (by kernel_rfl)
/-- (coachyard/park.Spot).GiveUp -/
def c214 : PFn := ⟨5, Tr.ofList (List.replicate 5 undefA), (.seq (.seqR [⟨.box, [.tmp 0], (some 1), none⟩,
 ⟨.move, [.const (.ptr none)], (some 2), none⟩])
 (.seq (.seqR [⟨(.load true 1), [.tmp 1], (some 3), none⟩,
 ⟨(.callF 100), [.tmp 3, .const (.int .i64 6), .const (.int .u64 18446744073709551614), .const (.func (.func 101) [] [])], (some 4), none⟩,
 ⟨.move, [.tmp 4], (some 2), none⟩])
 .ret)), [.tmp 2]⟩
theorem c214_ok : compFunc Tryz.prog Tryz.f214 = some c214 := by kernel_rfl
theorem c214_body : hasBody Tryz.prog 214 = true := hasBody_of Tryz.func214 (by kernel_rfl)
/-- (*coachyard/pool.parker).gaveUp -/
def c215 : PFn := ⟨34, Tr.ofList (List.replicate 34 undefA), (.seq (.seqR [⟨.box, [.tmp 1], (some 3), none⟩])
 (.seq (.seq (.seqR [⟨.move, [.tmp 0], (some 4), none⟩,
 ⟨.nilCheck, [.tmp 4], (some 5), none⟩,
 ⟨(.fieldAddr 6), [.tmp 5], (some 6), none⟩,
 ⟨(.load false 1), [.tmp 6], (some 7), none⟩])
 (.cond (.tmp 7) (.seq (.drawR [⟨⟨.move, [.tmp 0], (some 8), none⟩, false, false, 0, 2⟩,
 ⟨⟨.nilCheck, [.tmp 8], (some 9), none⟩, false, false, 0, 2⟩,
 ⟨⟨(.fieldAddr 0), [.tmp 9], (some 10), none⟩, false, false, 0, 2⟩,
 ⟨⟨(.fieldAddr 1), [.tmp 10], (some 11), none⟩, false, false, 0, 2⟩,
 ⟨⟨(.load false 1), [.tmp 11], (some 12), none⟩, false, false, 0, 2⟩,
 ⟨⟨.move, [.tmp 0], (some 13), none⟩, false, false, 0, 0⟩,
 ⟨⟨.nilCheck, [.tmp 13], (some 14), none⟩, false, false, 0, 0⟩,
 ⟨⟨(.fieldAddr 0), [.tmp 14], (some 15), none⟩, false, false, 0, 0⟩,
 ⟨⟨(.fieldAddr 0), [.tmp 15], (some 16), none⟩, false, false, 0, 0⟩,
 ⟨⟨(.load false 1), [.tmp 16], (some 17), none⟩, false, false, 0, 0⟩,
 ⟨⟨.nilCheck, [.tmp 17], (some 18), none⟩, false, false, 0, 0⟩,
 ⟨⟨(.fieldAddr 0), [.tmp 18], (some 19), none⟩, false, false, 0, 0⟩,
 ⟨⟨(.load true 4), [.tmp 19], (some 20), none⟩, false, false, 0, 0⟩,
 ⟨⟨(.callF 102), [.tmp 20], (some 21), none⟩, true, false, 0, 1⟩,
 ⟨⟨.move, [.tmp 0], (some 22), none⟩, false, false, 0, 1⟩,
 ⟨⟨.nilCheck, [.tmp 22], (some 23), none⟩, false, false, 0, 1⟩,
 ⟨⟨(.fieldAddr 0), [.tmp 23], (some 24), none⟩, false, false, 0, 1⟩,
 ⟨⟨(.fieldAddr 2), [.tmp 24], (some 25), none⟩, false, false, 0, 1⟩,
 ⟨⟨(.load false 1), [.tmp 25], (some 26), none⟩, false, false, 0, 1⟩,
 ⟨⟨(.callF 229), [.tmp 21, .tmp 26], (some 27), none⟩, true, false, 1, 2⟩,
 ⟨⟨.move, [.tmp 0], (some 28), none⟩, false, false, 0, 2⟩,
 ⟨⟨(.mkFunc (.func 234) 1), [.tmp 28], (some 29), none⟩, false, false, 0, 2⟩,
 ⟨⟨(.callF 52), [.tmp 12, .tmp 27, .tmp 29], (some 30), none⟩, true, false, 2, 3⟩])
 .ret)
 .skip))
 (.seqR [⟨.move, [.tmp 0], (some 31), none⟩,
 ⟨(.load true 3), [.tmp 3], (some 32), none⟩,
 ⟨(.callF 234), [.tmp 31, .tmp 32], (some 33), none⟩]))), []⟩
theorem c215_ok : compFunc Tryz.prog Tryz.f215 = some c215 := by kernel_rfl
theorem c215_body : hasBody Tryz.prog 215 = true := hasBody_of Tryz.func215 (by kernel_rfl)
/-- math/bits.TrailingZeros64 -/
def c218 : PFn := ⟨14, Tr.ofList (List.replicate 14 undefA), (.seq (.seqR [⟨.move, [.const (.int .i64 0)], (some 2), none⟩])
 (.seq (.seq (.seqR [⟨.move, [.tmp 0], (some 3), none⟩,
 ⟨(.bin .eql), [.tmp 3, .const (.int .u64 0)], (some 4), none⟩])
 (.cond (.tmp 4) (.seq (.seqR [⟨.move, [.const (.int .i64 64)], (some 2), none⟩])
 .ret)
 .skip))
 (.seq .fail
 .ret))), [.tmp 2]⟩
theorem c218_ok : compFunc Tryz.prog Tryz.f218 = some c218 := by kernel_rfl
theorem c218_body : hasBody Tryz.prog 218 = true := hasBody_of Tryz.func218 (by kernel_rfl)
/-- coachyard/arena.low -/
def c219 : PFn := ⟨11, Tr.ofList (List.replicate 11 undefA), (.seq (.seqR [⟨.move, [.const (.int .u32 0)], (some 2), none⟩])
 (.seq (.seqR [⟨.move, [.tmp 0], (some 6), none⟩,
 ⟨(.callF 140), [.tmp 6], (some 7), none⟩,
 ⟨.move, [.tmp 7], (some 5), none⟩,
 ⟨(.extract 0), [.tmp 5], (some 8), none⟩,
 ⟨(.extract 1), [.tmp 5], (some 9), none⟩,
 ⟨.move, [.tmp 8], (some 3), none⟩,
 ⟨.move, [.tmp 9], (some 4), none⟩])
 (.seq (.seqR [⟨.move, [.tmp 4], (some 10), none⟩,
 ⟨.move, [.tmp 10], (some 2), none⟩])
 .ret))), [.tmp 2]⟩
theorem c219_ok : compFunc Tryz.prog Tryz.f219 = some c219 := by kernel_rfl
theorem c219_body : hasBody Tryz.prog 219 = true := hasBody_of Tryz.func219 (by kernel_rfl)
/-- (coachyard/arena.Arena).Put -/
def c222 : PFn := ⟨12, Tr.ofList (List.replicate 12 undefA), (.seq (.seqR [⟨.box, [.tmp 0], (some 2), none⟩,
 ⟨.box, [.tmp 1], (some 3), none⟩,
 ⟨.move, [.const (.ptr none)], (some 4), none⟩])
 (.seq (.seqR [⟨(.load true 2), [.tmp 2], (some 6), none⟩,
 ⟨(.load false 1), [.tmp 3], (some 7), none⟩,
 ⟨(.build [(.int .i64 0), (.int .i64 0), (.ptr none), (.int .i64 0), (.int .u64 0)] [(0, 2), (3, 1)]), [.tmp 6, .tmp 7], (some 8), none⟩,
 ⟨.box, [.tmp 8], (some 9), none⟩,
 ⟨(.new [(.ptr none)]), [], (some 5), none⟩,
 ⟨(.store 1), [.tmp 5, .tmp 9], none, none⟩])
 (.seq (.seqR [⟨(.mkFunc (.func 237) 0), [.tmp 5, .tmp 2, .tmp 3], (some 10), none⟩,
 ⟨(.callF 46), [.tmp 10], (some 11), none⟩,
 ⟨.move, [.tmp 11], (some 4), none⟩])
 .ret))), [.tmp 4]⟩
theorem c222_ok : compFunc Tryz.prog Tryz.f222 = some c222 := by kernel_rfl
theorem c222_body : hasBody Tryz.prog 222 = true := hasBody_of Tryz.func222 (by kernel_rfl)
/-- coachyard/queue.raised -/
def c225 : PFn := ⟨16, Tr.ofList (List.replicate 16 undefA), (.seq (.seqR [⟨.move, [.const (.int .u64 0)], (some 4), none⟩])
 (.seq (.seqR [⟨.move, [.tmp 0], (some 8), none⟩,
 ⟨(.callF 140), [.tmp 8], (some 9), none⟩,
 ⟨.move, [.tmp 9], (some 7), none⟩,
 ⟨(.extract 0), [.tmp 7], (some 10), none⟩,
 ⟨(.extract 1), [.tmp 7], (some 11), none⟩,
 ⟨.move, [.tmp 10], (some 5), none⟩,
 ⟨.move, [.tmp 11], (some 6), none⟩])
 (.seq (.seqR [⟨.move, [.tmp 5], (some 12), none⟩,
 ⟨(.bin .add), [.tmp 12, .const (.int .u32 1)], (some 13), none⟩,
 ⟨.move, [.tmp 1], (some 14), none⟩,
 ⟨(.callF 208), [.tmp 13, .tmp 14], (some 15), none⟩,
 ⟨.move, [.tmp 15], (some 4), none⟩])
 .ret))), [.tmp 4]⟩
theorem c225_ok : compFunc Tryz.prog Tryz.f225 = some c225 := by kernel_rfl
theorem c225_body : hasBody Tryz.prog 225 = true := hasBody_of Tryz.func225 (by kernel_rfl)
/-- (*coachyard/queue.take).atNext -/
def c227 : PFn := ⟨22, Tr.ofList (List.replicate 22 undefA), (.seq (.seqR [⟨.move, [.tmp 0], (some 6), none⟩,
 ⟨.move, [.tmp 1], (some 7), none⟩,
 ⟨.nilCheck, [.tmp 6], (some 8), none⟩,
 ⟨(.fieldAddr 5), [.tmp 8], (some 9), none⟩,
 ⟨(.store 1), [.tmp 9, .tmp 7], none, none⟩])
 (.drawR [⟨⟨.move, [.tmp 0], (some 10), none⟩, false, false, 0, 0⟩,
 ⟨⟨.nilCheck, [.tmp 10], (some 11), none⟩, false, false, 0, 0⟩,
 ⟨⟨(.fieldAddr 0), [.tmp 11], (some 12), none⟩, false, false, 0, 0⟩,
 ⟨⟨.move, [.tmp 0], (some 13), none⟩, false, false, 0, 0⟩,
 ⟨⟨.nilCheck, [.tmp 13], (some 14), none⟩, false, false, 0, 0⟩,
 ⟨⟨(.fieldAddr 0), [.tmp 14], (some 15), none⟩, false, false, 0, 0⟩,
 ⟨⟨(.fieldAddr 0), [.tmp 15], (some 16), none⟩, false, false, 0, 0⟩,
 ⟨⟨(.fieldAddr 0), [.tmp 16], (some 17), none⟩, false, false, 0, 0⟩,
 ⟨⟨(.load false 1), [.tmp 17], (some 18), none⟩, false, false, 0, 0⟩,
 ⟨⟨.move, [.tmp 0], (some 19), none⟩, false, false, 0, 0⟩,
 ⟨⟨(.mkFunc (.func 240) 1), [.tmp 19], (some 20), none⟩, false, false, 0, 0⟩,
 ⟨⟨(.callF 162), [.tmp 12, .tmp 18, .tmp 20], (some 21), none⟩, true, false, 0, 1⟩])), []⟩
theorem c227_ok : compFunc Tryz.prog Tryz.f227 = some c227 := by kernel_rfl
theorem c227_body : hasBody Tryz.prog 227 = true := hasBody_of Tryz.func227 (by kernel_rfl)
/-- (*coachyard/pool.next).end -/
def c228 : PFn := ⟨12, Tr.ofList (List.replicate 12 undefA), (.drawR [⟨⟨.move, [.tmp 0], (some 2), none⟩, false, false, 0, 0⟩,
 ⟨⟨.nilCheck, [.tmp 2], (some 3), none⟩, false, false, 0, 0⟩,
 ⟨⟨(.fieldAddr 0), [.tmp 3], (some 4), none⟩, false, false, 0, 0⟩,
 ⟨⟨(.fieldAddr 1), [.tmp 4], (some 5), none⟩, false, false, 0, 0⟩,
 ⟨⟨(.load false 1), [.tmp 5], (some 6), none⟩, false, false, 0, 0⟩,
 ⟨⟨.move, [.tmp 0], (some 7), none⟩, false, false, 0, 0⟩,
 ⟨⟨.nilCheck, [.tmp 7], (some 8), none⟩, false, false, 0, 0⟩,
 ⟨⟨(.fieldAddr 5), [.tmp 8], (some 9), none⟩, false, false, 0, 0⟩,
 ⟨⟨(.load true 3), [.tmp 9], (some 10), none⟩, false, false, 0, 0⟩,
 ⟨⟨(.callF 87), [.tmp 6, .tmp 10], (some 11), none⟩, true, false, 0, 1⟩]), []⟩
theorem c228_ok : compFunc Tryz.prog Tryz.f228 = some c228 := by kernel_rfl
theorem c228_body : hasBody Tryz.prog 228 = true := hasBody_of Tryz.func228 (by kernel_rfl)
/-- (coachyard/idle.Yard).Found -/
def c229 : PFn := ⟨12, Tr.ofList (List.replicate 12 undefA), (.seq (.seqR [⟨.box, [.tmp 0], (some 2), none⟩,
 ⟨.move, [.const (.ptr none)], (some 4), none⟩])
 (.seq (.drawR [⟨⟨(.load true 2), [.tmp 2], (some 5), none⟩, false, false, 0, 1⟩,
 ⟨⟨.move, [.tmp 1], (some 6), none⟩, false, false, 0, 1⟩,
 ⟨⟨(.load true 2), [.tmp 2], (some 7), none⟩, false, false, 0, 0⟩,
 ⟨⟨.move, [.tmp 1], (some 8), none⟩, false, false, 0, 0⟩,
 ⟨⟨(.callF 142), [.tmp 7, .tmp 8], (some 9), none⟩, true, false, 0, 1⟩,
 ⟨⟨(.mkFunc (.func 241) 1), [.tmp 9], (some 10), none⟩, false, false, 1, 1⟩,
 ⟨⟨(.callF 141), [.tmp 5, .tmp 6, .tmp 10], (some 11), none⟩, true, false, 1, 2⟩,
 ⟨⟨.move, [.tmp 11], (some 4), none⟩, false, false, 2, 2⟩])
 .ret)), [.tmp 4]⟩
theorem c229_ok : compFunc Tryz.prog Tryz.f229 = some c229 := by kernel_rfl
theorem c229_body : hasBody Tryz.prog 229 = true := hasBody_of Tryz.func229 (by kernel_rfl)
/-- (*coachyard/pool.next).found$1 -/
def c230 : PFn := ⟨23, Tr.ofList (List.replicate 23 undefA), (.seq (.seqR [⟨.box, [.tmp 0], (some 2), none⟩])
 (.seq (.seq (.seqR [⟨(.fieldAddr 1), [.tmp 2], (some 3), none⟩,
 ⟨(.load false 1), [.tmp 3], (some 4), none⟩,
 ⟨(.bin .eql), [.tmp 4, .const (.int .u64 1)], (some 5), none⟩,
 ⟨.move, [.tmp 5], (some 6), none⟩,
 ⟨(.load false 1), [.tmp 1], (some 7), some (6, true)⟩,
 ⟨.nilCheck, [.tmp 7], (some 8), some (6, true)⟩,
 ⟨(.fieldAddr 5), [.tmp 8], (some 9), some (6, true)⟩,
 ⟨(.fieldAddr 0), [.tmp 9], (some 10), some (6, true)⟩,
 ⟨(.load false 1), [.tmp 10], (some 11), some (6, true)⟩,
 ⟨(.bin .eql), [.tmp 11, .const (.int .i64 0)], (some 12), some (6, true)⟩,
 ⟨.pick, [.tmp 6, .tmp 12, .const (.bool false)], (some 13), none⟩])
 (.cond (.tmp 13) (.seq (.drawR [⟨⟨(.load false 1), [.tmp 1], (some 14), none⟩, false, false, 0, 0⟩,
 ⟨⟨.nilCheck, [.tmp 14], (some 15), none⟩, false, false, 0, 0⟩,
 ⟨⟨(.fieldAddr 0), [.tmp 15], (some 16), none⟩, false, false, 0, 0⟩,
 ⟨⟨(.load true 3), [.tmp 16], (some 17), none⟩, false, false, 0, 0⟩,
 ⟨⟨(.load false 1), [.tmp 1], (some 18), none⟩, false, false, 0, 0⟩,
 ⟨⟨(.mkFunc (.func 228) 1), [.tmp 18], (some 19), none⟩, false, false, 0, 0⟩,
 ⟨⟨(.callF 92), [.tmp 17, .tmp 19], (some 20), none⟩, true, false, 0, 1⟩])
 .ret)
 .skip))
 (.seqR [⟨(.load false 1), [.tmp 1], (some 21), none⟩,
 ⟨(.callF 228), [.tmp 21], (some 22), none⟩]))), []⟩
theorem c230_ok : compFunc Tryz.prog Tryz.f230 = some c230 := by kernel_rfl
theorem c230_body : hasBody Tryz.prog 230 = true := hasBody_of Tryz.func230 (by kernel_rfl)
/-- (coachyard/deque.Row).Steal -/
def c231 : PFn := ⟨6, Tr.ofList (List.replicate 6 undefA), (.seq (.seqR [⟨.box, [.tmp 0], (some 1), none⟩,
 ⟨.move, [.const (.ptr none)], (some 2), none⟩])
 (.seq (.seqR [⟨(.load true 2), [.tmp 1], (some 3), none⟩,
 ⟨(.mkFunc (.func 243) 0), [.tmp 1], (some 4), none⟩,
 ⟨(.callF 242), [.tmp 3, .tmp 4], (some 5), none⟩,
 ⟨.move, [.tmp 5], (some 2), none⟩])
 .ret)), [.tmp 2]⟩
theorem c231_ok : compFunc Tryz.prog Tryz.f231 = some c231 := by kernel_rfl
theorem c231_body : hasBody Tryz.prog 231 = true := hasBody_of Tryz.func231 (by kernel_rfl)
/-- (coachyard/ring.Row).Steal -/
def c232 : PFn := ⟨27, Tr.ofList (List.replicate 27 undefA), (.seq (.seqR [⟨.box, [.tmp 0], (some 2), none⟩,
 ⟨.box, [.tmp 1], (some 3), none⟩,
 ⟨.move, [.const (.ptr none)], (some 4), none⟩])
 (.seq (.seqR [⟨(.load true 2), [.tmp 2], (some 6), none⟩,
 ⟨(.callF 246), [.tmp 6], (some 7), none⟩,
 ⟨.move, [.tmp 7], (some 8), none⟩,
 ⟨(.load true 2), [.tmp 3], (some 9), some (8, true)⟩,
 ⟨(.callF 246), [.tmp 9], (some 10), some (8, true)⟩,
 ⟨.pick, [.tmp 8, .tmp 10, .const (.bool false)], (some 11), none⟩,
 ⟨.move, [.tmp 11], (some 12), none⟩,
 ⟨(.fieldAddr 1), [.tmp 2], (some 13), some (12, true)⟩,
 ⟨(.load false 1), [.tmp 13], (some 14), some (12, true)⟩,
 ⟨(.fieldAddr 1), [.tmp 3], (some 15), some (12, true)⟩,
 ⟨(.load false 1), [.tmp 15], (some 16), some (12, true)⟩,
 ⟨(.bin .eql), [.tmp 14, .tmp 16], (some 17), some (12, true)⟩,
 ⟨.pick, [.tmp 12, .tmp 17, .const (.bool false)], (some 18), none⟩,
 ⟨.move, [.tmp 18], (some 19), none⟩,
 ⟨(.load true 2), [.tmp 2], (some 20), some (19, true)⟩,
 ⟨(.load true 2), [.tmp 3], (some 21), some (19, true)⟩,
 ⟨(.callF 247), [.tmp 20, .tmp 21], (some 22), some (19, true)⟩,
 ⟨.pick, [.tmp 19, .tmp 22, .const (.bool false)], (some 23), none⟩,
 ⟨.move, [.tmp 23], (some 5), none⟩])
 (.seq (.seqR [⟨.move, [.tmp 5], (some 24), none⟩,
 ⟨(.mkFunc (.func 249) 0), [.tmp 2, .tmp 3], (some 25), none⟩,
 ⟨(.callF 248), [.tmp 24, .tmp 25], (some 26), none⟩,
 ⟨.move, [.tmp 26], (some 4), none⟩])
 .ret))), [.tmp 4]⟩
theorem c232_ok : compFunc Tryz.prog Tryz.f232 = some c232 := by kernel_rfl
theorem c232_body : hasBody Tryz.prog 232 = true := hasBody_of Tryz.func232 (by kernel_rfl)
/-- (*coachyard/park.waiter).called -/
def c233 : PFn := ⟨16, Tr.ofList (List.replicate 16 undefA), (.drawR [⟨⟨.move, [.tmp 0], (some 6), none⟩, false, false, 0, 0⟩,
 ⟨⟨.nilCheck, [.tmp 6], (some 7), none⟩, false, false, 0, 0⟩,
 ⟨⟨(.fieldAddr 1), [.tmp 7], (some 8), none⟩, false, false, 0, 0⟩,
 ⟨⟨(.load false 1), [.tmp 8], (some 9), none⟩, false, false, 0, 0⟩,
 ⟨⟨.move, [.tmp 0], (some 10), none⟩, false, false, 0, 0⟩,
 ⟨⟨.nilCheck, [.tmp 10], (some 11), none⟩, false, false, 0, 0⟩,
 ⟨⟨(.fieldAddr 3), [.tmp 11], (some 12), none⟩, false, false, 0, 0⟩,
 ⟨⟨(.load false 1), [.tmp 12], (some 13), none⟩, false, false, 0, 0⟩,
 ⟨⟨(.build [(.int .i64 0), (.int .u64 0), (.slice none 0 0 false)] [(1, 1)]), [.tmp 13], (some 14), none⟩, false, false, 0, 0⟩,
 ⟨⟨(.callF 87), [.tmp 9, .tmp 14], (some 15), none⟩, true, false, 0, 1⟩]), []⟩
theorem c233_ok : compFunc Tryz.prog Tryz.f233 = some c233 := by kernel_rfl
theorem c233_body : hasBody Tryz.prog 233 = true := hasBody_of Tryz.func233 (by kernel_rfl)
/-- (*coachyard/pool.parker).end -/
def c234 : PFn := ⟨15, Tr.ofList (List.replicate 15 undefA), (.seq (.seqR [⟨.box, [.tmp 1], (some 3), none⟩])
 (.drawR [⟨⟨.move, [.tmp 0], (some 4), none⟩, false, false, 0, 0⟩,
 ⟨⟨.nilCheck, [.tmp 4], (some 5), none⟩, false, false, 0, 0⟩,
 ⟨⟨(.fieldAddr 0), [.tmp 5], (some 6), none⟩, false, false, 0, 0⟩,
 ⟨⟨(.fieldAddr 1), [.tmp 6], (some 7), none⟩, false, false, 0, 0⟩,
 ⟨⟨(.load false 1), [.tmp 7], (some 8), none⟩, false, false, 0, 0⟩,
 ⟨⟨.move, [.tmp 0], (some 9), none⟩, false, false, 0, 0⟩,
 ⟨⟨.nilCheck, [.tmp 9], (some 10), none⟩, false, false, 0, 0⟩,
 ⟨⟨(.fieldAddr 5), [.tmp 10], (some 11), none⟩, false, false, 0, 0⟩,
 ⟨⟨(.load false 1), [.tmp 11], (some 12), none⟩, false, false, 0, 0⟩,
 ⟨⟨(.build [(.int .i64 0), (.int .u64 0), (.slice none 0 0 false)] [(1, 1)]), [.tmp 12], (some 13), none⟩, false, false, 0, 0⟩,
 ⟨⟨(.callF 87), [.tmp 8, .tmp 13], (some 14), none⟩, true, false, 0, 1⟩])), []⟩
theorem c234_ok : compFunc Tryz.prog Tryz.f234 = some c234 := by kernel_rfl
theorem c234_body : hasBody Tryz.prog 234 = true := hasBody_of Tryz.func234 (by kernel_rfl)
/-- coachyard/arena.turned -/
def c235 : PFn := ⟨16, Tr.ofList (List.replicate 16 undefA), (.seq (.seqR [⟨.move, [.const (.int .u64 0)], (some 4), none⟩])
 (.seq (.seqR [⟨.move, [.tmp 0], (some 8), none⟩,
 ⟨(.callF 140), [.tmp 8], (some 9), none⟩,
 ⟨.move, [.tmp 9], (some 7), none⟩,
 ⟨(.extract 0), [.tmp 7], (some 10), none⟩,
 ⟨(.extract 1), [.tmp 7], (some 11), none⟩,
 ⟨.move, [.tmp 10], (some 5), none⟩,
 ⟨.move, [.tmp 11], (some 6), none⟩])
 (.seq (.seqR [⟨.move, [.tmp 5], (some 12), none⟩,
 ⟨(.bin .add), [.tmp 12, .const (.int .u32 1)], (some 13), none⟩,
 ⟨.move, [.tmp 1], (some 14), none⟩,
 ⟨(.callF 208), [.tmp 13, .tmp 14], (some 15), none⟩,
 ⟨.move, [.tmp 15], (some 4), none⟩])
 .ret))), [.tmp 4]⟩
theorem c235_ok : compFunc Tryz.prog Tryz.f235 = some c235 := by kernel_rfl
theorem c235_body : hasBody Tryz.prog 235 = true := hasBody_of Tryz.func235 (by kernel_rfl)
/-- (coachyard/arena.Arena).Put$1 -/
def c237 : PFn := ⟨31, Tr.ofList (List.replicate 31 undefA), (.seq (.seqR [⟨(.load false 1), [.tmp 1], (some 5), none⟩,
 ⟨.move, [.tmp 0], (some 6), none⟩,
 ⟨.nilCheck, [.tmp 5], (some 7), none⟩,
 ⟨(.fieldAddr 2), [.tmp 7], (some 8), none⟩,
 ⟨(.store 1), [.tmp 8, .tmp 6], none, none⟩])
 (.seq (.seq (.seqR [⟨(.load true 2), [.tmp 2], (some 9), none⟩,
 ⟨(.callF 156), [.tmp 9], (some 10), none⟩,
 ⟨.not, [.tmp 10], (some 11), none⟩,
 ⟨.move, [.tmp 11], (some 12), none⟩,
 ⟨(.load false 1), [.tmp 3], (some 13), some (12, false)⟩,
 ⟨(.bin .lss), [.tmp 13, .const (.int .i64 1)], (some 14), some (12, false)⟩,
 ⟨.pick, [.tmp 12, .const (.bool true), .tmp 14], (some 15), none⟩,
 ⟨.move, [.tmp 15], (some 16), none⟩,
 ⟨(.load false 1), [.tmp 3], (some 17), some (16, false)⟩,
 ⟨(.fieldAddr 1), [.tmp 2], (some 18), some (16, false)⟩,
 ⟨(.load false 1), [.tmp 18], (some 19), some (16, false)⟩,
 ⟨(.bin .gtr), [.tmp 17, .tmp 19], (some 20), some (16, false)⟩,
 ⟨.pick, [.tmp 16, .const (.bool true), .tmp 20], (some 21), none⟩])
 (.cond (.tmp 21) (.seq (.seqR [⟨.move, [.tmp 0], (some 22), none⟩,
 ⟨(.callF 48), [.tmp 22, .const (.int .i64 2)], (some 23), none⟩])
 .ret)
 .skip))
 (.seqR [⟨.move, [.tmp 0], (some 24), none⟩,
 ⟨(.fieldAddr 0), [.tmp 2], (some 25), none⟩,
 ⟨(.load false 1), [.tmp 25], (some 26), none⟩,
 ⟨(.build [(.int .i64 0), (.int .i64 0), (.int .u64 0), (.int .u64 0)] [(0, 1), (1, 1)]), [.const (.int .i64 1), .tmp 26], (some 27), none⟩,
 ⟨(.load false 1), [.tmp 1], (some 28), none⟩,
 ⟨(.mkFunc (.func 238) 1), [.tmp 28], (some 29), none⟩,
 ⟨(.callF 138), [.tmp 24, .tmp 27, .tmp 29], (some 30), none⟩]))), []⟩
theorem c237_ok : compFunc Tryz.prog Tryz.f237 = some c237 := by kernel_rfl
theorem c237_body : hasBody Tryz.prog 237 = true := hasBody_of Tryz.func237 (by kernel_rfl)
/-- (*coachyard/arena.put).head -/
def c238 : PFn := ⟨31, Tr.ofList (List.replicate 31 undefA), (.seq (.seqR [⟨.move, [.tmp 0], (some 6), none⟩,
 ⟨.move, [.tmp 1], (some 7), none⟩,
 ⟨.nilCheck, [.tmp 6], (some 8), none⟩,
 ⟨(.fieldAddr 4), [.tmp 8], (some 9), none⟩,
 ⟨(.store 1), [.tmp 9, .tmp 7], none, none⟩])
 (.drawR [⟨⟨.move, [.tmp 0], (some 10), none⟩, false, false, 0, 1⟩,
 ⟨⟨.nilCheck, [.tmp 10], (some 11), none⟩, false, false, 0, 1⟩,
 ⟨⟨(.fieldAddr 2), [.tmp 11], (some 12), none⟩, false, false, 0, 1⟩,
 ⟨⟨(.load false 1), [.tmp 12], (some 13), none⟩, false, false, 0, 1⟩,
 ⟨⟨.move, [.tmp 0], (some 14), none⟩, false, false, 0, 1⟩,
 ⟨⟨.nilCheck, [.tmp 14], (some 15), none⟩, false, false, 0, 1⟩,
 ⟨⟨(.fieldAddr 0), [.tmp 15], (some 16), none⟩, false, false, 0, 1⟩,
 ⟨⟨(.fieldAddr 0), [.tmp 16], (some 17), none⟩, false, false, 0, 1⟩,
 ⟨⟨(.load false 1), [.tmp 17], (some 18), none⟩, false, false, 0, 1⟩,
 ⟨⟨.move, [.tmp 0], (some 19), none⟩, false, false, 0, 1⟩,
 ⟨⟨.nilCheck, [.tmp 19], (some 20), none⟩, false, false, 0, 1⟩,
 ⟨⟨(.fieldAddr 3), [.tmp 20], (some 21), none⟩, false, false, 0, 1⟩,
 ⟨⟨(.load false 1), [.tmp 21], (some 22), none⟩, false, false, 0, 1⟩,
 ⟨⟨(.bin .add), [.tmp 18, .tmp 22], (some 23), none⟩, false, false, 0, 1⟩,
 ⟨⟨.move, [.tmp 1], (some 24), none⟩, false, false, 0, 0⟩,
 ⟨⟨(.callF 219), [.tmp 24], (some 25), none⟩, true, false, 0, 1⟩,
 ⟨⟨(.conv .u64), [.tmp 25], (some 26), none⟩, false, false, 1, 1⟩,
 ⟨⟨(.build [(.int .i64 0), (.int .i64 0), (.int .u64 0), (.int .u64 0)] [(0, 1), (1, 1), (2, 1)]), [.const (.int .i64 2), .tmp 23, .tmp 26], (some 27), none⟩, false, false, 1, 1⟩,
 ⟨⟨.move, [.tmp 0], (some 28), none⟩, false, false, 0, 1⟩,
 ⟨⟨(.mkFunc (.func 252) 1), [.tmp 28], (some 29), none⟩, false, false, 0, 1⟩,
 ⟨⟨(.callF 138), [.tmp 13, .tmp 27, .tmp 29], (some 30), none⟩, true, false, 1, 2⟩])), []⟩
theorem c238_ok : compFunc Tryz.prog Tryz.f238 = some c238 := by kernel_rfl
theorem c238_body : hasBody Tryz.prog 238 = true := hasBody_of Tryz.func238 (by kernel_rfl)
/-- (*coachyard/queue.take).still -/
def c240 : PFn := ⟨117, Tr.ofList (List.replicate 117 undefA), (.seq (.seqR [⟨.box, [.tmp 0], (some 3), none⟩])
 (.seq (.seq (.seqR [⟨.move, [.tmp 1], (some 10), none⟩,
 ⟨(.load false 1), [.tmp 3], (some 11), none⟩,
 ⟨.nilCheck, [.tmp 11], (some 12), none⟩,
 ⟨(.fieldAddr 3), [.tmp 12], (some 13), none⟩,
 ⟨(.load false 1), [.tmp 13], (some 14), none⟩,
 ⟨(.bin .neq), [.tmp 10, .tmp 14], (some 15), none⟩])
 (.cond (.tmp 15) (.seq (.seqR [⟨(.load false 1), [.tmp 3], (some 16), none⟩,
 ⟨.move, [.tmp 1], (some 17), none⟩,
 ⟨(.callF 163), [.tmp 16, .tmp 17, .const (.bool true)], (some 18), none⟩])
 .ret)
 .skip))
 (.seq (.seqR [⟨(.load false 1), [.tmp 3], (some 20), none⟩,
 ⟨.nilCheck, [.tmp 20], (some 21), none⟩,
 ⟨(.fieldAddr 4), [.tmp 21], (some 22), none⟩,
 ⟨(.load false 1), [.tmp 22], (some 23), none⟩,
 ⟨(.callF 140), [.tmp 23], (some 24), none⟩,
 ⟨.move, [.tmp 24], (some 19), none⟩,
 ⟨(.extract 0), [.tmp 19], (some 25), none⟩,
 ⟨(.extract 1), [.tmp 19], (some 26), none⟩,
 ⟨.move, [.tmp 25], (some 6), none⟩,
 ⟨.move, [.tmp 26], (some 7), none⟩])
 (.seq (.drawR [⟨⟨(.load false 1), [.tmp 3], (some 28), none⟩, false, false, 0, 0⟩,
 ⟨⟨.nilCheck, [.tmp 28], (some 29), none⟩, false, false, 0, 0⟩,
 ⟨⟨(.fieldAddr 0), [.tmp 29], (some 30), none⟩, false, false, 0, 0⟩,
 ⟨⟨(.fieldAddr 0), [.tmp 30], (some 31), none⟩, false, false, 0, 0⟩,
 ⟨⟨(.load true 2), [.tmp 31], (some 32), none⟩, false, false, 0, 0⟩,
 ⟨⟨(.load false 1), [.tmp 3], (some 33), none⟩, false, false, 0, 0⟩,
 ⟨⟨.nilCheck, [.tmp 33], (some 34), none⟩, false, false, 0, 0⟩,
 ⟨⟨(.fieldAddr 5), [.tmp 34], (some 35), none⟩, false, false, 0, 0⟩,
 ⟨⟨(.load false 1), [.tmp 35], (some 36), none⟩, false, false, 0, 0⟩,
 ⟨⟨(.callF 108), [.tmp 32, .tmp 36], (some 37), none⟩, true, false, 0, 1⟩,
 ⟨⟨.move, [.tmp 37], (some 27), none⟩, false, false, 1, 1⟩,
 ⟨⟨(.extract 0), [.tmp 27], (some 38), none⟩, false, false, 1, 1⟩,
 ⟨⟨(.extract 1), [.tmp 27], (some 39), none⟩, false, false, 1, 1⟩,
 ⟨⟨.move, [.tmp 38], (some 8), none⟩, false, false, 1, 1⟩,
 ⟨⟨.move, [.tmp 39], (some 9), none⟩, false, false, 1, 1⟩])
 (.seq (.seqR [⟨(.load false 1), [.tmp 3], (some 40), none⟩,
 ⟨.move, [.tmp 8], (some 41), none⟩,
 ⟨.nilCheck, [.tmp 40], (some 42), none⟩,
 ⟨(.fieldAddr 8), [.tmp 42], (some 43), none⟩,
 ⟨(.store 1), [.tmp 43, .tmp 41], none, none⟩])
 (.block 0 (.seq (.seqR [⟨.move, [.tmp 8], (some 58), none⟩,
 ⟨(.bin .eql), [.tmp 58, .const (.int .u32 0)], (some 59), none⟩,
 ⟨.move, [.tmp 59], (some 60), none⟩,
 ⟨.move, [.tmp 7], (some 61), some (60, true)⟩,
 ⟨(.load false 1), [.tmp 3], (some 62), some (60, true)⟩,
 ⟨.nilCheck, [.tmp 62], (some 63), some (60, true)⟩,
 ⟨(.fieldAddr 7), [.tmp 63], (some 64), some (60, true)⟩,
 ⟨(.load false 1), [.tmp 64], (some 65), some (60, true)⟩,
 ⟨(.bin .eql), [.tmp 61, .tmp 65], (some 66), some (60, true)⟩,
 ⟨.pick, [.tmp 60, .tmp 66, .const (.bool false)], (some 67), none⟩,
 ⟨.move, [.tmp 67], (some 57), none⟩])
 (.cond (.tmp 57) (.seqR [⟨(.load false 1), [.tmp 3], (some 68), none⟩,
 ⟨.nilCheck, [.tmp 68], (some 69), none⟩,
 ⟨(.fieldAddr 0), [.tmp 69], (some 70), none⟩,
 ⟨(.fieldAddr 2), [.tmp 70], (some 71), none⟩,
 ⟨(.load false 1), [.tmp 71], (some 72), none⟩,
 ⟨(.callF 48), [.tmp 72, .const (.int .i64 5)], (some 73), none⟩])
 (.seq (.seqR [⟨.move, [.tmp 8], (some 75), none⟩,
 ⟨(.bin .eql), [.tmp 75, .const (.int .u32 0)], (some 76), none⟩,
 ⟨.move, [.tmp 76], (some 74), none⟩])
 (.cond (.tmp 74) (.seqR [⟨(.load false 1), [.tmp 3], (some 77), none⟩,
 ⟨(.callF 133), [.tmp 77], (some 78), none⟩])
 (.seq (.seqR [⟨.move, [.tmp 9], (some 80), none⟩,
 ⟨.not, [.tmp 80], (some 81), none⟩,
 ⟨.move, [.tmp 81], (some 79), none⟩])
 (.cond (.tmp 79) (.seqR [⟨(.load false 1), [.tmp 3], (some 82), none⟩,
 ⟨.nilCheck, [.tmp 82], (some 83), none⟩,
 ⟨(.fieldAddr 0), [.tmp 83], (some 84), none⟩,
 ⟨(.fieldAddr 2), [.tmp 84], (some 85), none⟩,
 ⟨(.load false 1), [.tmp 85], (some 86), none⟩,
 ⟨(.callF 48), [.tmp 86, .const (.int .i64 9)], (some 87), none⟩])
 (.seq (.seqR [⟨.move, [.tmp 7], (some 89), none⟩,
 ⟨(.load false 1), [.tmp 3], (some 90), none⟩,
 ⟨.nilCheck, [.tmp 90], (some 91), none⟩,
 ⟨(.fieldAddr 7), [.tmp 91], (some 92), none⟩,
 ⟨(.load false 1), [.tmp 92], (some 93), none⟩,
 ⟨(.bin .eql), [.tmp 89, .tmp 93], (some 94), none⟩,
 ⟨.move, [.tmp 94], (some 88), none⟩])
 (.cond (.tmp 88) (.drawR [⟨⟨(.load false 1), [.tmp 3], (some 95), none⟩, false, false, 0, 1⟩,
 ⟨⟨.nilCheck, [.tmp 95], (some 96), none⟩, false, false, 0, 1⟩,
 ⟨⟨(.fieldAddr 0), [.tmp 96], (some 97), none⟩, false, false, 0, 1⟩,
 ⟨⟨(.load false 1), [.tmp 3], (some 98), none⟩, false, false, 0, 1⟩,
 ⟨⟨.nilCheck, [.tmp 98], (some 99), none⟩, false, false, 0, 1⟩,
 ⟨⟨(.fieldAddr 0), [.tmp 99], (some 100), none⟩, false, false, 0, 1⟩,
 ⟨⟨(.fieldAddr 0), [.tmp 100], (some 101), none⟩, false, false, 0, 1⟩,
 ⟨⟨(.fieldAddr 0), [.tmp 101], (some 102), none⟩, false, false, 0, 1⟩,
 ⟨⟨(.load false 1), [.tmp 102], (some 103), none⟩, false, false, 0, 1⟩,
 ⟨⟨(.bin .add), [.tmp 103, .const (.int .i64 1)], (some 104), none⟩, false, false, 0, 1⟩,
 ⟨⟨(.load false 1), [.tmp 3], (some 105), none⟩, false, false, 0, 1⟩,
 ⟨⟨.nilCheck, [.tmp 105], (some 106), none⟩, false, false, 0, 1⟩,
 ⟨⟨(.fieldAddr 4), [.tmp 106], (some 107), none⟩, false, false, 0, 1⟩,
 ⟨⟨(.load false 1), [.tmp 107], (some 108), none⟩, false, false, 0, 1⟩,
 ⟨⟨(.load false 1), [.tmp 3], (some 109), none⟩, false, false, 0, 0⟩,
 ⟨⟨.nilCheck, [.tmp 109], (some 110), none⟩, false, false, 0, 0⟩,
 ⟨⟨(.fieldAddr 4), [.tmp 110], (some 111), none⟩, false, false, 0, 0⟩,
 ⟨⟨(.load false 1), [.tmp 111], (some 112), none⟩, false, false, 0, 0⟩,
 ⟨⟨.move, [.tmp 8], (some 113), none⟩, false, false, 0, 0⟩,
 ⟨⟨(.callF 225), [.tmp 112, .tmp 113], (some 114), none⟩, true, false, 0, 1⟩,
 ⟨⟨(.mkFunc (.func 256) 0), [.tmp 3], (some 115), none⟩, false, false, 0, 1⟩,
 ⟨⟨(.callF 253), [.tmp 97, .tmp 104, .tmp 108, .tmp 114, .tmp 115], (some 116), none⟩, true, false, 1, 2⟩])
 (.drawR [⟨⟨(.load false 1), [.tmp 3], (some 44), none⟩, false, false, 0, 1⟩,
 ⟨⟨.nilCheck, [.tmp 44], (some 45), none⟩, false, false, 0, 1⟩,
 ⟨⟨(.fieldAddr 0), [.tmp 45], (some 46), none⟩, false, false, 0, 1⟩,
 ⟨⟨(.load false 1), [.tmp 3], (some 47), none⟩, false, false, 0, 0⟩,
 ⟨⟨.nilCheck, [.tmp 47], (some 48), none⟩, false, false, 0, 0⟩,
 ⟨⟨(.fieldAddr 0), [.tmp 48], (some 49), none⟩, false, false, 0, 0⟩,
 ⟨⟨(.fieldAddr 0), [.tmp 49], (some 50), none⟩, false, false, 0, 0⟩,
 ⟨⟨(.load true 2), [.tmp 50], (some 51), none⟩, false, false, 0, 0⟩,
 ⟨⟨.move, [.tmp 8], (some 52), none⟩, false, false, 0, 0⟩,
 ⟨⟨(.callF 109), [.tmp 51, .tmp 52], (some 53), none⟩, true, false, 0, 1⟩,
 ⟨⟨(.load false 1), [.tmp 3], (some 54), none⟩, false, false, 0, 1⟩,
 ⟨⟨(.mkFunc (.func 257) 1), [.tmp 54], (some 55), none⟩, false, false, 0, 1⟩,
 ⟨⟨(.callF 162), [.tmp 46, .tmp 53, .tmp 55], (some 56), none⟩, true, false, 1, 2⟩]))))))))))))))), []⟩
theorem c240_ok : compFunc Tryz.prog Tryz.f240 = some c240 := by kernel_rfl
theorem c240_body : hasBody Tryz.prog 240 = true := hasBody_of Tryz.func240 (by kernel_rfl)
/-- (coachyard/idle.one).found -/
def c241 : PFn := ⟨20, Tr.ofList (List.replicate 20 undefA), (.seq (.seqR [⟨.box, [.tmp 0], (some 2), none⟩,
 ⟨.box, [.tmp 1], (some 3), none⟩,
 ⟨(.new [(.int .u32 0), (.int .u32 0)]), [], (some 4), none⟩,
 ⟨.move, [.const (.int .u64 0)], (some 5), none⟩,
 ⟨.move, [.const (.int .i64 0)], (some 6), none⟩])
 (.seq (.seq (.seqR [⟨(.fieldAddr 0), [.tmp 3], (some 7), none⟩,
 ⟨(.load false 1), [.tmp 7], (some 8), none⟩,
 ⟨(.bin .eql), [.tmp 8, .const (.int .u32 0)], (some 9), none⟩])
 (.cond (.tmp 9) (.seq (.seqR [⟨(.build [(.int .u32 0), (.int .u32 0)] []), [], (some 10), none⟩,
 ⟨(.store 2), [.tmp 4, .tmp 10], none, none⟩,
 ⟨.move, [.const (.int .u64 0)], (some 5), none⟩,
 ⟨.move, [.const (.int .i64 15)], (some 6), none⟩])
 .ret)
 .skip))
 (.seq (.seqR [⟨(.fieldAddr 0), [.tmp 3], (some 11), none⟩,
 ⟨(.load false 1), [.tmp 11], (some 12), none⟩,
 ⟨(.bin .sub), [.tmp 12, .const (.int .u32 1)], (some 13), none⟩,
 ⟨(.fieldAddr 0), [.tmp 3], (some 14), none⟩,
 ⟨(.store 1), [.tmp 14, .tmp 13], none, none⟩])
 (.seq (.seq (.seqR [⟨(.fieldAddr 0), [.tmp 3], (some 15), none⟩,
 ⟨(.load false 1), [.tmp 15], (some 16), none⟩,
 ⟨(.bin .eql), [.tmp 16, .const (.int .u32 0)], (some 17), none⟩])
 (.cond (.tmp 17) (.seq (.seqR [⟨(.load true 2), [.tmp 3], (some 18), none⟩,
 ⟨(.store 2), [.tmp 4, .tmp 18], none, none⟩,
 ⟨.move, [.const (.int .u64 1)], (some 5), none⟩,
 ⟨.move, [.const (.int .i64 0)], (some 6), none⟩])
 .ret)
 .skip))
 (.seq (.seqR [⟨(.load true 2), [.tmp 3], (some 19), none⟩,
 ⟨(.store 2), [.tmp 4, .tmp 19], none, none⟩,
 ⟨.move, [.const (.int .u64 0)], (some 5), none⟩,
 ⟨.move, [.const (.int .i64 0)], (some 6), none⟩])
 .ret))))), [.cell 4 true 2, .tmp 5, .tmp 6]⟩
theorem c241_ok : compFunc Tryz.prog Tryz.f241 = some c241 := by kernel_rfl
theorem c241_body : hasBody Tryz.prog 241 = true := hasBody_of Tryz.func241 (by kernel_rfl)
/-- (coachyard/deque.Row).begun -/
def c242 : PFn := ⟨7, Tr.ofList (List.replicate 7 undefA), (.seq (.seqR [⟨.box, [.tmp 0], (some 2), none⟩,
 ⟨.box, [.tmp 1], (some 3), none⟩,
 ⟨.move, [.const (.ptr none)], (some 4), none⟩])
 (.seq (.seqR [⟨(.mkFunc (.func 258) 0), [.tmp 2, .tmp 3], (some 5), none⟩,
 ⟨(.callF 46), [.tmp 5], (some 6), none⟩,
 ⟨.move, [.tmp 6], (some 4), none⟩])
 .ret)), [.tmp 4]⟩
theorem c242_ok : compFunc Tryz.prog Tryz.f242 = some c242 := by kernel_rfl
theorem c242_body : hasBody Tryz.prog 242 = true := hasBody_of Tryz.func242 (by kernel_rfl)
/-- (coachyard/deque.Row).Steal$1 -/
def c243 : PFn := ⟨12, Tr.ofList (List.replicate 12 undefA), (.drawR [⟨⟨.move, [.tmp 0], (some 3), none⟩, false, false, 0, 2⟩,
 ⟨⟨(.load true 2), [.tmp 1], (some 4), none⟩, false, false, 0, 0⟩,
 ⟨⟨(.callF 244), [.tmp 4, .const (.int .i64 0)], (some 5), none⟩, true, false, 0, 2⟩,
 ⟨⟨(.load true 2), [.tmp 1], (some 6), none⟩, false, false, 0, 1⟩,
 ⟨⟨.move, [.tmp 0], (some 7), none⟩, false, false, 0, 1⟩,
 ⟨⟨(.build [(.int .i64 0), (.int .i64 0), (.ptr none), (.int .u64 0), (.int .u64 0)] [(0, 2), (2, 1)]), [.tmp 6, .tmp 7], (some 8), none⟩, false, false, 0, 1⟩,
 ⟨⟨.box, [.tmp 8], (some 9), none⟩, true, true, 0, 2⟩,
 ⟨⟨(.mkFunc (.func 245) 1), [.tmp 9], (some 10), none⟩, false, false, 2, 2⟩,
 ⟨⟨(.callF 138), [.tmp 3, .tmp 5, .tmp 10], (some 11), none⟩, true, false, 2, 3⟩]), []⟩
theorem c243_ok : compFunc Tryz.prog Tryz.f243 = some c243 := by kernel_rfl
theorem c243_body : hasBody Tryz.prog 243 = true := hasBody_of Tryz.func243 (by kernel_rfl)
/-- (coachyard/deque.Row).load -/
def c244 : PFn := ⟨10, Tr.ofList (List.replicate 10 undefA), (.seq (.seqR [⟨.box, [.tmp 0], (some 2), none⟩,
 ⟨(.new [(.int .i64 0), (.int .i64 0), (.int .u64 0), (.int .u64 0)]), [], (some 4), none⟩])
 (.seq (.seqR [⟨(.fieldAddr 0), [.tmp 2], (some 5), none⟩,
 ⟨(.load false 1), [.tmp 5], (some 6), none⟩,
 ⟨.move, [.tmp 1], (some 7), none⟩,
 ⟨(.bin .add), [.tmp 6, .tmp 7], (some 8), none⟩,
 ⟨(.build [(.int .i64 0), (.int .i64 0), (.int .u64 0), (.int .u64 0)] [(0, 1), (1, 1)]), [.const (.int .i64 1), .tmp 8], (some 9), none⟩,
 ⟨(.store 4), [.tmp 4, .tmp 9], none, none⟩])
 .ret)), [.cell 4 true 4]⟩
theorem c244_ok : compFunc Tryz.prog Tryz.f244 = some c244 := by kernel_rfl
theorem c244_body : hasBody Tryz.prog 244 = true := hasBody_of Tryz.func244 (by kernel_rfl)
/-- (*coachyard/deque.steal).atTop -/
def c245 : PFn := ⟨22, Tr.ofList (List.replicate 22 undefA), (.seq (.seqR [⟨.move, [.tmp 0], (some 6), none⟩,
 ⟨.move, [.tmp 1], (some 7), none⟩,
 ⟨.nilCheck, [.tmp 6], (some 8), none⟩,
 ⟨(.fieldAddr 3), [.tmp 8], (some 9), none⟩,
 ⟨(.store 1), [.tmp 9, .tmp 7], none, none⟩])
 (.drawR [⟨⟨.move, [.tmp 0], (some 10), none⟩, false, false, 0, 1⟩,
 ⟨⟨.nilCheck, [.tmp 10], (some 11), none⟩, false, false, 0, 1⟩,
 ⟨⟨(.fieldAddr 2), [.tmp 11], (some 12), none⟩, false, false, 0, 1⟩,
 ⟨⟨(.load false 1), [.tmp 12], (some 13), none⟩, false, false, 0, 1⟩,
 ⟨⟨.move, [.tmp 0], (some 14), none⟩, false, false, 0, 0⟩,
 ⟨⟨.nilCheck, [.tmp 14], (some 15), none⟩, false, false, 0, 0⟩,
 ⟨⟨(.fieldAddr 0), [.tmp 15], (some 16), none⟩, false, false, 0, 0⟩,
 ⟨⟨(.load true 2), [.tmp 16], (some 17), none⟩, false, false, 0, 0⟩,
 ⟨⟨(.callF 244), [.tmp 17, .const (.int .i64 1)], (some 18), none⟩, true, false, 0, 1⟩,
 ⟨⟨.move, [.tmp 0], (some 19), none⟩, false, false, 0, 1⟩,
 ⟨⟨(.mkFunc (.func 260) 1), [.tmp 19], (some 20), none⟩, false, false, 0, 1⟩,
 ⟨⟨(.callF 138), [.tmp 13, .tmp 18, .tmp 20], (some 21), none⟩, true, false, 1, 2⟩])), []⟩
theorem c245_ok : compFunc Tryz.prog Tryz.f245 = some c245 := by kernel_rfl
theorem c245_body : hasBody Tryz.prog 245 = true := hasBody_of Tryz.func245 (by kernel_rfl)
/-- (coachyard/ring.Row).Right -/
def c246 : PFn := ⟨34, Tr.ofList (List.replicate 34 undefA), (.seq (.seqR [⟨.box, [.tmp 0], (some 1), none⟩,
 ⟨.move, [.const (.bool false)], (some 2), none⟩])
 (.seq (.seqR [⟨(.fieldAddr 1), [.tmp 1], (some 3), none⟩,
 ⟨(.load false 1), [.tmp 3], (some 4), none⟩,
 ⟨(.bin .geq), [.tmp 4, .const (.int .i64 2)], (some 5), none⟩,
 ⟨.move, [.tmp 5], (some 6), none⟩,
 ⟨(.fieldAddr 1), [.tmp 1], (some 7), some (6, true)⟩,
 ⟨(.load false 1), [.tmp 7], (some 8), some (6, true)⟩,
 ⟨(.bin .leq), [.tmp 8, .const (.int .i64 256)], (some 9), some (6, true)⟩,
 ⟨.pick, [.tmp 6, .tmp 9, .const (.bool false)], (some 10), none⟩,
 ⟨.move, [.tmp 10], (some 11), none⟩,
 ⟨(.fieldAddr 1), [.tmp 1], (some 12), some (11, true)⟩,
 ⟨(.load false 1), [.tmp 12], (some 13), some (11, true)⟩,
 ⟨(.fieldAddr 1), [.tmp 1], (some 14), some (11, true)⟩,
 ⟨(.load false 1), [.tmp 14], (some 15), some (11, true)⟩,
 ⟨(.bin .sub), [.tmp 15, .const (.int .i64 1)], (some 16), some (11, true)⟩,
 ⟨(.bin .and), [.tmp 13, .tmp 16], (some 17), some (11, true)⟩,
 ⟨(.bin .eql), [.tmp 17, .const (.int .i64 0)], (some 18), some (11, true)⟩,
 ⟨.pick, [.tmp 11, .tmp 18, .const (.bool false)], (some 19), none⟩,
 ⟨.move, [.tmp 19], (some 20), none⟩,
 ⟨(.fieldAddr 0), [.tmp 1], (some 21), some (20, true)⟩,
 ⟨(.load false 1), [.tmp 21], (some 22), some (20, true)⟩,
 ⟨(.bin .geq), [.tmp 22, .const (.int .i64 0)], (some 23), some (20, true)⟩,
 ⟨.pick, [.tmp 20, .tmp 23, .const (.bool false)], (some 24), none⟩,
 ⟨.move, [.tmp 24], (some 25), none⟩,
 ⟨(.fieldAddr 0), [.tmp 1], (some 26), some (25, true)⟩,
 ⟨(.load false 1), [.tmp 26], (some 27), some (25, true)⟩,
 ⟨(.fieldAddr 1), [.tmp 1], (some 28), some (25, true)⟩,
 ⟨(.load false 1), [.tmp 28], (some 29), some (25, true)⟩,
 ⟨(.bin .sub), [.const (.int .i64 65536), .tmp 29], (some 30), some (25, true)⟩,
 ⟨(.bin .sub), [.tmp 30, .const (.int .i64 1)], (some 31), some (25, true)⟩,
 ⟨(.bin .lss), [.tmp 27, .tmp 31], (some 32), some (25, true)⟩,
 ⟨.pick, [.tmp 25, .tmp 32, .const (.bool false)], (some 33), none⟩,
 ⟨.move, [.tmp 33], (some 2), none⟩])
 .ret)), [.tmp 2]⟩
theorem c246_ok : compFunc Tryz.prog Tryz.f246 = some c246 := by kernel_rfl
theorem c246_body : hasBody Tryz.prog 246 = true := hasBody_of Tryz.func246 (by kernel_rfl)
/-- coachyard/ring.apart -/
def c247 : PFn := ⟨25, Tr.ofList (List.replicate 25 undefA), (.seq (.seqR [⟨.box, [.tmp 0], (some 2), none⟩,
 ⟨.box, [.tmp 1], (some 3), none⟩,
 ⟨.move, [.const (.bool false)], (some 4), none⟩])
 (.seq (.seqR [⟨(.fieldAddr 0), [.tmp 2], (some 5), none⟩,
 ⟨(.load false 1), [.tmp 5], (some 6), none⟩,
 ⟨(.fieldAddr 1), [.tmp 2], (some 7), none⟩,
 ⟨(.load false 1), [.tmp 7], (some 8), none⟩,
 ⟨(.bin .add), [.tmp 6, .tmp 8], (some 9), none⟩,
 ⟨(.bin .add), [.tmp 9, .const (.int .i64 2)], (some 10), none⟩,
 ⟨(.fieldAddr 0), [.tmp 3], (some 11), none⟩,
 ⟨(.load false 1), [.tmp 11], (some 12), none⟩,
 ⟨(.bin .leq), [.tmp 10, .tmp 12], (some 13), none⟩,
 ⟨.move, [.tmp 13], (some 14), none⟩,
 ⟨(.fieldAddr 0), [.tmp 3], (some 15), some (14, false)⟩,
 ⟨(.load false 1), [.tmp 15], (some 16), some (14, false)⟩,
 ⟨(.fieldAddr 1), [.tmp 3], (some 17), some (14, false)⟩,
 ⟨(.load false 1), [.tmp 17], (some 18), some (14, false)⟩,
 ⟨(.bin .add), [.tmp 16, .tmp 18], (some 19), some (14, false)⟩,
 ⟨(.bin .add), [.tmp 19, .const (.int .i64 2)], (some 20), some (14, false)⟩,
 ⟨(.fieldAddr 0), [.tmp 2], (some 21), some (14, false)⟩,
 ⟨(.load false 1), [.tmp 21], (some 22), some (14, false)⟩,
 ⟨(.bin .leq), [.tmp 20, .tmp 22], (some 23), some (14, false)⟩,
 ⟨.pick, [.tmp 14, .const (.bool true), .tmp 23], (some 24), none⟩,
 ⟨.move, [.tmp 24], (some 4), none⟩])
 .ret)), [.tmp 4]⟩
theorem c247_ok : compFunc Tryz.prog Tryz.f247 = some c247 := by kernel_rfl
theorem c247_body : hasBody Tryz.prog 247 = true := hasBody_of Tryz.func247 (by kernel_rfl)
/-- coachyard/ring.begun -/
def c248 : PFn := ⟨7, Tr.ofList (List.replicate 7 undefA), (.seq (.seqR [⟨.box, [.tmp 0], (some 2), none⟩,
 ⟨.box, [.tmp 1], (some 3), none⟩,
 ⟨.move, [.const (.ptr none)], (some 4), none⟩])
 (.seq (.seqR [⟨(.mkFunc (.func 261) 0), [.tmp 2, .tmp 3], (some 5), none⟩,
 ⟨(.callF 46), [.tmp 5], (some 6), none⟩,
 ⟨.move, [.tmp 6], (some 4), none⟩])
 .ret)), [.tmp 4]⟩
theorem c248_ok : compFunc Tryz.prog Tryz.f248 = some c248 := by kernel_rfl
theorem c248_body : hasBody Tryz.prog 248 = true := hasBody_of Tryz.func248 (by kernel_rfl)
/-- (coachyard/ring.Row).Steal$1 -/
def c249 : PFn := ⟨17, Tr.ofList (List.replicate 17 undefA), (.seq (.seqR [⟨(.load true 2), [.tmp 1], (some 5), none⟩,
 ⟨.move, [.tmp 0], (some 6), none⟩,
 ⟨(.build [(.int .i64 0), (.int .i64 0), (.ptr none), (.int .u64 0), (.int .u32 0), (.int .u32 0), (.int .u32 0), (.slice none 0 0 false)] [(0, 2), (2, 1)]), [.tmp 5, .tmp 6], (some 7), none⟩,
 ⟨(.load true 2), [.tmp 2], (some 8), none⟩,
 ⟨(.build [(.int .i64 0), (.int .i64 0), (.ptr none), (.int .u64 0), (.int .u32 0), (.int .u32 0), (.int .u32 0), (.slice none 0 0 false), (.int .i64 0), (.int .i64 0), (.int .u32 0), (.int .i64 0)] [(0, 8), (8, 2)]), [.tmp 7, .tmp 8], (some 9), none⟩,
 ⟨.box, [.tmp 9], (some 10), none⟩,
 ⟨.move, [.tmp 10], (some 4), none⟩])
 (.seqR [⟨.move, [.tmp 0], (some 11), none⟩,
 ⟨(.load true 2), [.tmp 2], (some 12), none⟩,
 ⟨(.callF 250), [.tmp 12, .const (.int .i64 1)], (some 13), none⟩,
 ⟨.move, [.tmp 4], (some 14), none⟩,
 ⟨(.mkFunc (.func 251) 1), [.tmp 14], (some 15), none⟩,
 ⟨(.callF 138), [.tmp 11, .tmp 13, .tmp 15], (some 16), none⟩])), []⟩
theorem c249_ok : compFunc Tryz.prog Tryz.f249 = some c249 := by kernel_rfl
theorem c249_body : hasBody Tryz.prog 249 = true := hasBody_of Tryz.func249 (by kernel_rfl)
end Go.Proofs.YtfpamakhkkdikaaGreatDoor
