/- The code of the small machine for some of the program's functions: printed by program; each is what the rules make of the program's own. -/
import Derived.Test.YtphdlmmllahgkaaDoorVx16
import Derived.Test.YtphdlmmllahgkaaDoorProg
import Derived.KernelRfl
namespace Go.Proofs.YtphdlmmllahgkaaDoor
open Go Go.Vx Go.Proofs
/-- coachyard/coachyardlaw02.NumLists -/
def c4 : PFn := ⟨27, Tr.ofList (List.replicate 27 undefA), (.seq (.seqR [⟨.move, [.const (.bool false)], (some 4), none⟩])
 (.seq (.seq (.seqR [⟨(.callF 5), [], (some 5), none⟩,
 ⟨.not, [.tmp 5], (some 6), none⟩])
 (.cond (.tmp 6) (.seq (.seqR [⟨.move, [.const (.bool false)], (some 4), none⟩])
 .ret)
 .skip))
 (.seq (.seq (.seqR [⟨.move, [.tmp 0], (some 7), none⟩,
 ⟨.lenS, [.tmp 7], (some 8), none⟩,
 ⟨(.bin .gtr), [.tmp 8, .const (.int .i64 100)], (some 9), none⟩,
 ⟨.move, [.tmp 9], (some 10), none⟩,
 ⟨.move, [.tmp 1], (some 11), some (10, false)⟩,
 ⟨.lenStr, [.tmp 11], (some 12), some (10, false)⟩,
 ⟨(.bin .gtr), [.tmp 12, .const (.int .i64 400)], (some 13), some (10, false)⟩,
 ⟨.pick, [.tmp 10, .const (.bool true), .tmp 13], (some 14), none⟩])
 (.cond (.tmp 14) (.seq (.seqR [⟨.move, [.const (.bool true)], (some 4), none⟩])
 .ret)
 .skip))
 (.seq (.seqR [⟨.move, [.tmp 0], (some 15), none⟩,
 ⟨(.callF 10), [.tmp 15], (some 16), none⟩,
 ⟨.move, [.tmp 0], (some 17), none⟩,
 ⟨(.callF 11), [.tmp 17], (some 18), none⟩,
 ⟨(.bin .eql), [.tmp 16, .tmp 18], (some 19), none⟩,
 ⟨.move, [.tmp 19], (some 20), none⟩,
 ⟨.move, [.tmp 1], (some 21), some (20, true)⟩,
 ⟨(.callF 13), [.tmp 21], (some 22), some (20, true)⟩,
 ⟨.move, [.tmp 1], (some 23), some (20, true)⟩,
 ⟨(.callF 14), [.tmp 23], (some 24), some (20, true)⟩,
 ⟨(.callF 12), [.tmp 22, .tmp 24], (some 25), some (20, true)⟩,
 ⟨.pick, [.tmp 20, .tmp 25, .const (.bool false)], (some 26), none⟩,
 ⟨.move, [.tmp 26], (some 4), none⟩])
 .ret)))), [.tmp 4]⟩
theorem c4_ok : compFunc Tryd.prog Tryd.f4 = some c4 := by kernel_rfl
theorem c4_body : hasBody Tryd.prog 4 = true := hasBody_of Tryd.func4 (by kernel_rfl)
/-- coachyard/coachyardlaw02.awake -/
def c5 : PFn := ⟨14, Tr.ofList (List.replicate 14 undefA), (.seq (.seqR [⟨.move, [.const (.bool false)], (some 0), none⟩])
 (.seq (.seqR [⟨(.callF 6), [.const (.str ⟨#[49, 56, 52, 52, 54, 55, 52, 52, 48, 55, 51, 55, 48, 57, 53, 53, 49, 54, 49, 54]⟩)], (some 4), none⟩,
 ⟨.move, [.tmp 4], (some 3), none⟩,
 ⟨(.extract 0), [.tmp 3], (some 5), none⟩,
 ⟨(.extract 1), [.tmp 3], (some 6), none⟩,
 ⟨.move, [.tmp 5], (some 1), none⟩,
 ⟨.move, [.tmp 6], (some 2), none⟩])
 (.seq (.seqR [⟨.move, [.tmp 2], (some 7), none⟩,
 ⟨(.bin .eql), [.tmp 7, .const (.int .i64 14)], (some 8), none⟩,
 ⟨.move, [.tmp 8], (some 9), none⟩,
 ⟨(.sliceLit 2 [(.int .u64 0), (.int .u64 0)] [(0, 1), (1, 1)]), [.const (.int .u64 1), .const (.int .u64 20)], (some 10), some (9, true)⟩,
 ⟨(.callF 10), [.tmp 10], (some 11), some (9, true)⟩,
 ⟨(.bin .eql), [.tmp 11, .const (.str ⟨#[49, 44, 50, 48]⟩)], (some 12), some (9, true)⟩,
 ⟨.pick, [.tmp 9, .tmp 12, .const (.bool false)], (some 13), none⟩,
 ⟨.move, [.tmp 13], (some 0), none⟩])
 .ret))), [.tmp 0]⟩
theorem c5_ok : compFunc Tryd.prog Tryd.f5 = some c5 := by kernel_rfl
theorem c5_body : hasBody Tryd.prog 5 = true := hasBody_of Tryd.func5 (by kernel_rfl)
/-- coachyard/num.Read -/
def c6 : PFn := ⟨30, Tr.ofList (List.replicate 30 undefA), (.seq (.seqR [⟨.move, [.const (.int .u64 0)], (some 2), none⟩,
 ⟨.move, [.const (.int .i64 0)], (some 3), none⟩])
 (.seq (.seq (.seqR [⟨.move, [.tmp 0], (some 6), none⟩,
 ⟨(.bin .eql), [.tmp 6, .const (.str ⟨#[]⟩)], (some 7), none⟩,
 ⟨.move, [.tmp 7], (some 8), none⟩,
 ⟨.move, [.tmp 0], (some 9), some (8, false)⟩,
 ⟨(.callF 15), [.tmp 9, .const (.func (.func 16) [] [])], (some 10), some (8, false)⟩,
 ⟨.pick, [.tmp 8, .const (.bool true), .tmp 10], (some 11), none⟩,
 ⟨.move, [.tmp 11], (some 12), none⟩,
 ⟨.move, [.tmp 0], (some 13), some (12, false)⟩,
 ⟨.lenStr, [.tmp 13], (some 14), some (12, false)⟩,
 ⟨(.bin .gtr), [.tmp 14, .const (.int .i64 1)], (some 15), some (12, false)⟩,
 ⟨.move, [.tmp 15], (some 16), some (12, false)⟩,
 ⟨.move, [.tmp 0], (some 17), some (16, true)⟩,
 ⟨.indexStr, [.tmp 17, .const (.int .i64 0)], (some 18), some (16, true)⟩,
 ⟨(.bin .eql), [.tmp 18, .const (.int .u8 48)], (some 19), some (16, true)⟩,
 ⟨.pick, [.tmp 16, .tmp 19, .const (.bool false)], (some 20), some (12, false)⟩,
 ⟨.pick, [.tmp 12, .const (.bool true), .tmp 20], (some 21), none⟩])
 (.cond (.tmp 21) (.seq (.seqR [⟨.move, [.const (.int .u64 0)], (some 2), none⟩,
 ⟨.move, [.const (.int .i64 12)], (some 3), none⟩])
 .ret)
 .skip))
 (.seq (.seqR [⟨.move, [.tmp 0], (some 23), none⟩,
 ⟨(.callF 17), [.tmp 23, .const (.int .i64 10), .const (.int .i64 64)], (some 24), none⟩,
 ⟨.move, [.tmp 24], (some 22), none⟩,
 ⟨(.extract 0), [.tmp 22], (some 25), none⟩,
 ⟨(.extract 1), [.tmp 22], (some 26), none⟩,
 ⟨.move, [.tmp 25], (some 4), none⟩,
 ⟨.move, [.tmp 26], (some 5), none⟩])
 (.seq (.seq (.seqR [⟨.move, [.tmp 5], (some 27), none⟩,
 ⟨(.eqNil 3 true), [.tmp 27, .const .nilIface], (some 28), none⟩])
 (.cond (.tmp 28) (.seq (.seqR [⟨.move, [.const (.int .u64 0)], (some 2), none⟩,
 ⟨.move, [.const (.int .i64 14)], (some 3), none⟩])
 .ret)
 .skip))
 (.seq (.seqR [⟨.move, [.tmp 4], (some 29), none⟩,
 ⟨.move, [.tmp 29], (some 2), none⟩,
 ⟨.move, [.const (.int .i64 0)], (some 3), none⟩])
 .ret))))), [.tmp 2, .tmp 3]⟩
theorem c6_ok : compFunc Tryd.prog Tryd.f6 = some c6 := by kernel_rfl
theorem c6_body : hasBody Tryd.prog 6 = true := hasBody_of Tryd.func6 (by kernel_rfl)
/-- coachyard/num.Print -/
def c8 : PFn := ⟨5, Tr.ofList (List.replicate 5 undefA), (.seq (.seqR [⟨.move, [.const (.str ⟨#[]⟩)], (some 2), none⟩])
 (.seq (.seqR [⟨.move, [.tmp 0], (some 3), none⟩,
 ⟨(.callF 18), [.tmp 3, .const (.int .i64 10)], (some 4), none⟩,
 ⟨.move, [.tmp 4], (some 2), none⟩])
 .ret)), [.tmp 2]⟩
theorem c8_ok : compFunc Tryd.prog Tryd.f8 = some c8 := by kernel_rfl
theorem c8_body : hasBody Tryd.prog 8 = true := hasBody_of Tryd.func8 (by kernel_rfl)
/-- coachyard/coachyardref02.Print -/
def c9 : PFn := ⟨23, Tr.ofList (List.replicate 23 undefA), (.seq (.seqR [⟨.move, [.const (.str ⟨#[]⟩)], (some 2), none⟩])
 (.seq (.seqR [⟨.move, [.const (.str ⟨#[]⟩)], (some 3), none⟩])
 (.seq (.block 0 (.loop (.seq (.seq (.seqR [⟨.move, [.tmp 0], (some 4), none⟩,
 ⟨(.bin .gtr), [.tmp 4, .const (.int .u64 9)], (some 5), none⟩])
 (.cond (.tmp 5) .skip
 (.exit 0)))
 (.block 1 (.seq (.seqR [⟨.move, [.tmp 0], (some 6), none⟩,
 ⟨(.bin .rem), [.tmp 6, .const (.int .u64 10)], (some 7), none⟩,
 ⟨(.bin .add), [.const (.int .u64 48), .tmp 7], (some 8), none⟩,
 ⟨(.conv .u8), [.tmp 8], (some 9), none⟩,
 ⟨(.sliceLit 1 [(.int .u8 0)] [(0, 1)]), [.tmp 9], (some 10), none⟩,
 ⟨.bytesStr, [.tmp 10], (some 11), none⟩,
 ⟨.move, [.tmp 3], (some 12), none⟩,
 ⟨(.bin .add), [.tmp 11, .tmp 12], (some 13), none⟩,
 ⟨.move, [.tmp 13], (some 3), none⟩])
 (.seqR [⟨.move, [.tmp 0], (some 14), none⟩,
 ⟨(.bin .quo), [.tmp 14, .const (.int .u64 10)], (some 15), none⟩,
 ⟨.move, [.tmp 15], (some 0), none⟩]))))))
 (.seq (.seqR [⟨.move, [.tmp 0], (some 16), none⟩,
 ⟨(.bin .add), [.const (.int .u64 48), .tmp 16], (some 17), none⟩,
 ⟨(.conv .u8), [.tmp 17], (some 18), none⟩,
 ⟨(.sliceLit 1 [(.int .u8 0)] [(0, 1)]), [.tmp 18], (some 19), none⟩,
 ⟨.bytesStr, [.tmp 19], (some 20), none⟩,
 ⟨.move, [.tmp 3], (some 21), none⟩,
 ⟨(.bin .add), [.tmp 20, .tmp 21], (some 22), none⟩,
 ⟨.move, [.tmp 22], (some 2), none⟩])
 .ret)))), [.tmp 2]⟩
theorem c9_ok : compFunc Tryd.prog Tryd.f9 = some c9 := by kernel_rfl
theorem c9_body : hasBody Tryd.prog 9 = true := hasBody_of Tryd.func9 (by kernel_rfl)
/-- coachyard/num.List -/
def c10 : PFn := ⟨27, Tr.ofList (List.replicate 27 undefA), (.seq (.seqR [⟨.move, [.const (.str ⟨#[]⟩)], (some 2), none⟩])
 (.seq (.seq (.seqR [⟨.move, [.tmp 0], (some 6), none⟩,
 ⟨.lenS, [.tmp 6], (some 7), none⟩,
 ⟨(.bin .eql), [.tmp 7, .const (.int .i64 0)], (some 8), none⟩])
 (.cond (.tmp 8) (.seq (.seqR [⟨.move, [.const (.str ⟨#[45]⟩)], (some 2), none⟩])
 .ret)
 .skip))
 (.seq (.seqR [⟨.move, [.tmp 0], (some 9), none⟩,
 ⟨.lenS, [.tmp 9], (some 10), none⟩,
 ⟨(.makeSlice 1 16 [(.str ⟨#[]⟩)]), [.tmp 10, .tmp 10], (some 11), none⟩,
 ⟨.move, [.tmp 11], (some 3), none⟩])
 (.seq (.seq (.seqR [⟨.move, [.tmp 0], (some 12), none⟩,
 ⟨.lenS, [.tmp 12], (some 13), none⟩,
 ⟨.move, [.const (.int .i64 0)], (some 14), none⟩])
 (.block 0 (.loop (.seq (.seqR [⟨(.bin .lss), [.tmp 14, .tmp 13], (some 15), none⟩])
 (.seq (.cond (.tmp 15) .skip
 (.exit 0))
 (.seq (.block 1 (.seq (.seqR [⟨.move, [.tmp 14], (some 16), none⟩,
 ⟨(.indexAddrS 1), [.tmp 12, .tmp 14], (some 17), none⟩,
 ⟨(.load false 1), [.tmp 17], (some 18), none⟩,
 ⟨.move, [.tmp 16], (some 4), none⟩,
 ⟨.move, [.tmp 18], (some 5), none⟩])
 (.seqR [⟨.move, [.tmp 3], (some 19), none⟩,
 ⟨.move, [.tmp 4], (some 20), none⟩,
 ⟨.move, [.tmp 5], (some 21), none⟩,
 ⟨(.callF 8), [.tmp 21], (some 22), none⟩,
 ⟨(.indexAddrS 1), [.tmp 19, .tmp 20], (some 23), none⟩,
 ⟨(.store 1), [.tmp 23, .tmp 22], none, none⟩])))
 (.seqR [⟨(.bin .add), [.tmp 14, .const (.int .i64 1)], (some 24), none⟩,
 ⟨.move, [.tmp 24], (some 14), none⟩])))))))
 (.seq (.seqR [⟨.move, [.tmp 3], (some 25), none⟩,
 ⟨(.callF 19), [.tmp 25, .const (.str ⟨#[44]⟩)], (some 26), none⟩,
 ⟨.move, [.tmp 26], (some 2), none⟩])
 .ret))))), [.tmp 2]⟩
theorem c10_ok : compFunc Tryd.prog Tryd.f10 = some c10 := by kernel_rfl
theorem c10_body : hasBody Tryd.prog 10 = true := hasBody_of Tryd.func10 (by kernel_rfl)
/-- coachyard/coachyardref02.List -/
def c11 : PFn := ⟨27, Tr.ofList (List.replicate 27 undefA), (.seq (.seqR [⟨.move, [.const (.str ⟨#[]⟩)], (some 2), none⟩])
 (.seq (.seq (.seqR [⟨.move, [.tmp 0], (some 5), none⟩,
 ⟨.lenS, [.tmp 5], (some 6), none⟩,
 ⟨(.bin .eql), [.tmp 6, .const (.int .i64 0)], (some 7), none⟩])
 (.cond (.tmp 7) (.seq (.seqR [⟨.move, [.const (.str ⟨#[45]⟩)], (some 2), none⟩])
 .ret)
 .skip))
 (.seq (.seqR [⟨.move, [.tmp 0], (some 8), none⟩,
 ⟨(.indexAddrS 1), [.tmp 8, .const (.int .i64 0)], (some 9), none⟩,
 ⟨(.load false 1), [.tmp 9], (some 10), none⟩,
 ⟨(.callF 9), [.tmp 10], (some 11), none⟩,
 ⟨.move, [.tmp 11], (some 3), none⟩])
 (.seq (.seq (.seqR [⟨.move, [.const (.int .i64 1)], (some 4), none⟩])
 (.block 0 (.loop (.seq (.seq (.seqR [⟨.move, [.tmp 4], (some 12), none⟩,
 ⟨.move, [.tmp 0], (some 13), none⟩,
 ⟨.lenS, [.tmp 13], (some 14), none⟩,
 ⟨(.bin .lss), [.tmp 12, .tmp 14], (some 15), none⟩])
 (.cond (.tmp 15) .skip
 (.exit 0)))
 (.seq (.block 1 (.seqR [⟨.move, [.tmp 3], (some 18), none⟩,
 ⟨(.bin .add), [.tmp 18, .const (.str ⟨#[44]⟩)], (some 19), none⟩,
 ⟨.move, [.tmp 0], (some 20), none⟩,
 ⟨.move, [.tmp 4], (some 21), none⟩,
 ⟨(.indexAddrS 1), [.tmp 20, .tmp 21], (some 22), none⟩,
 ⟨(.load false 1), [.tmp 22], (some 23), none⟩,
 ⟨(.callF 9), [.tmp 23], (some 24), none⟩,
 ⟨(.bin .add), [.tmp 19, .tmp 24], (some 25), none⟩,
 ⟨.move, [.tmp 25], (some 3), none⟩]))
 (.seqR [⟨.move, [.tmp 4], (some 16), none⟩,
 ⟨(.bin .add), [.tmp 16, .const (.int .i64 1)], (some 17), none⟩,
 ⟨.move, [.tmp 17], (some 4), none⟩]))))))
 (.seq (.seqR [⟨.move, [.tmp 3], (some 26), none⟩,
 ⟨.move, [.tmp 26], (some 2), none⟩])
 .ret))))), [.tmp 2]⟩
theorem c11_ok : compFunc Tryd.prog Tryd.f11 = some c11 := by kernel_rfl
theorem c11_body : hasBody Tryd.prog 11 = true := hasBody_of Tryd.func11 (by kernel_rfl)
/-- coachyard/coachyardref02.SameTexts -/
def c12 : PFn := ⟨26, Tr.ofList (List.replicate 26 undefA), (.seq (.seqR [⟨.move, [.const (.bool false)], (some 4), none⟩])
 (.seq (.seq (.seqR [⟨.move, [.tmp 0], (some 6), none⟩,
 ⟨.lenS, [.tmp 6], (some 7), none⟩,
 ⟨.move, [.tmp 1], (some 8), none⟩,
 ⟨.lenS, [.tmp 8], (some 9), none⟩,
 ⟨(.bin .neq), [.tmp 7, .tmp 9], (some 10), none⟩])
 (.cond (.tmp 10) (.seq (.seqR [⟨.move, [.const (.bool false)], (some 4), none⟩])
 .ret)
 .skip))
 (.seq (.seq (.seqR [⟨.move, [.const (.int .i64 0)], (some 5), none⟩])
 (.block 0 (.loop (.seq (.seq (.seqR [⟨.move, [.tmp 5], (some 11), none⟩,
 ⟨.move, [.tmp 0], (some 12), none⟩,
 ⟨.lenS, [.tmp 12], (some 13), none⟩,
 ⟨(.bin .lss), [.tmp 11, .tmp 13], (some 14), none⟩])
 (.cond (.tmp 14) .skip
 (.exit 0)))
 (.seq (.block 1 (.seq (.drawR [⟨⟨.move, [.tmp 0], (some 17), none⟩, false, false, 0, 0⟩,
 ⟨⟨.move, [.tmp 5], (some 18), none⟩, false, false, 0, 0⟩,
 ⟨⟨(.indexAddrS 1), [.tmp 17, .tmp 18], (some 19), none⟩, false, false, 0, 0⟩,
 ⟨⟨(.load false 1), [.tmp 19], (some 20), none⟩, false, false, 0, 0⟩,
 ⟨⟨.move, [.tmp 1], (some 21), none⟩, false, false, 0, 0⟩,
 ⟨⟨.move, [.tmp 5], (some 22), none⟩, false, false, 0, 0⟩,
 ⟨⟨(.indexAddrS 1), [.tmp 21, .tmp 22], (some 23), none⟩, false, false, 0, 0⟩,
 ⟨⟨(.load false 1), [.tmp 23], (some 24), none⟩, false, false, 0, 0⟩,
 ⟨⟨(.bin .neq), [.tmp 20, .tmp 24], (some 25), none⟩, false, false, 0, 0⟩])
 (.cond (.tmp 25) (.seq (.seqR [⟨.move, [.const (.bool false)], (some 4), none⟩])
 .ret)
 .skip)))
 (.seqR [⟨.move, [.tmp 5], (some 15), none⟩,
 ⟨(.bin .add), [.tmp 15, .const (.int .i64 1)], (some 16), none⟩,
 ⟨.move, [.tmp 16], (some 5), none⟩]))))))
 (.seq (.seqR [⟨.move, [.const (.bool true)], (some 4), none⟩])
 .ret)))), [.tmp 4]⟩
theorem c12_ok : compFunc Tryd.prog Tryd.f12 = some c12 := by kernel_rfl
theorem c12_body : hasBody Tryd.prog 12 = true := hasBody_of Tryd.func12 (by kernel_rfl)
/-- coachyard/num.Words -/
def c13 : PFn := ⟨15, Tr.ofList (List.replicate 15 undefA), (.seq (.seqR [⟨.move, [.const (.slice none 0 0 false)], (some 2), none⟩])
 (.seq (.seqR [⟨(.new [(.slice none 0 0 false)]), [], (some 3), none⟩])
 (.seq (.seq (.seqR [⟨.move, [.tmp 0], (some 5), none⟩,
 ⟨(.callF 20), [.tmp 5, .const (.str ⟨#[32]⟩)], (some 6), none⟩])
 (.block 0 .fail))
 (.seq (.seqR [⟨(.load false 1), [.tmp 3], (some 14), none⟩,
 ⟨.move, [.tmp 14], (some 2), none⟩])
 .ret)))), [.tmp 2]⟩
theorem c13_ok : compFunc Tryd.prog Tryd.f13 = some c13 := by kernel_rfl
theorem c13_body : hasBody Tryd.prog 13 = true := hasBody_of Tryd.func13 (by kernel_rfl)
/-- coachyard/coachyardref02.Words -/
def c14 : PFn := ⟨37, Tr.ofList (List.replicate 37 undefA), (.seq (.seqR [⟨.move, [.const (.slice none 0 0 false)], (some 2), none⟩])
 (.seq (.seqR [⟨(.sliceLit 0 [] []), [], (some 6), none⟩,
 ⟨.move, [.tmp 6], (some 3), none⟩])
 (.seq (.seqR [⟨.move, [.const (.str ⟨#[]⟩)], (some 4), none⟩])
 (.seq (.seq (.seqR [⟨.move, [.const (.int .i64 0)], (some 5), none⟩])
 (.block 0 (.loop (.seq (.seq (.seqR [⟨.move, [.tmp 5], (some 7), none⟩,
 ⟨.move, [.tmp 0], (some 8), none⟩,
 ⟨.lenStr, [.tmp 8], (some 9), none⟩,
 ⟨(.bin .lss), [.tmp 7, .tmp 9], (some 10), none⟩])
 (.cond (.tmp 10) .skip
 (.exit 0)))
 (.seq (.block 1 (.seq (.seq (.seqR [⟨.move, [.tmp 0], (some 13), none⟩,
 ⟨.move, [.tmp 5], (some 14), none⟩,
 ⟨.indexStr, [.tmp 13, .tmp 14], (some 15), none⟩,
 ⟨(.bin .neq), [.tmp 15, .const (.int .u8 32)], (some 16), none⟩])
 (.cond (.tmp 16) (.seq (.seqR [⟨.move, [.tmp 4], (some 17), none⟩,
 ⟨.move, [.tmp 0], (some 18), none⟩,
 ⟨.move, [.tmp 5], (some 19), none⟩,
 ⟨.move, [.tmp 5], (some 20), none⟩,
 ⟨(.bin .add), [.tmp 20, .const (.int .i64 1)], (some 21), none⟩,
 ⟨(.sliceStr true true), [.tmp 18, .tmp 19, .tmp 21], (some 22), none⟩,
 ⟨(.bin .add), [.tmp 17, .tmp 22], (some 23), none⟩,
 ⟨.move, [.tmp 23], (some 4), none⟩])
 (.exit 1))
 .skip))
 (.seq (.seq (.seqR [⟨.move, [.tmp 4], (some 24), none⟩,
 ⟨(.bin .neq), [.tmp 24, .const (.str ⟨#[]⟩)], (some 25), none⟩])
 (.cond (.tmp 25) (.seqR [⟨.move, [.tmp 3], (some 26), none⟩,
 ⟨.move, [.tmp 4], (some 27), none⟩,
 ⟨(.sliceLit 1 [(.str ⟨#[]⟩)] [(0, 1)]), [.tmp 27], (some 28), none⟩,
 ⟨(.append 1 16), [.tmp 26, .tmp 28], (some 29), none⟩,
 ⟨.move, [.tmp 29], (some 3), none⟩])
 .skip))
 (.seqR [⟨.move, [.const (.str ⟨#[]⟩)], (some 4), none⟩]))))
 (.seqR [⟨.move, [.tmp 5], (some 11), none⟩,
 ⟨(.bin .add), [.tmp 11, .const (.int .i64 1)], (some 12), none⟩,
 ⟨.move, [.tmp 12], (some 5), none⟩]))))))
 (.seq (.seq (.seqR [⟨.move, [.tmp 4], (some 30), none⟩,
 ⟨(.bin .neq), [.tmp 30, .const (.str ⟨#[]⟩)], (some 31), none⟩])
 (.cond (.tmp 31) (.seqR [⟨.move, [.tmp 3], (some 32), none⟩,
 ⟨.move, [.tmp 4], (some 33), none⟩,
 ⟨(.sliceLit 1 [(.str ⟨#[]⟩)] [(0, 1)]), [.tmp 33], (some 34), none⟩,
 ⟨(.append 1 16), [.tmp 32, .tmp 34], (some 35), none⟩,
 ⟨.move, [.tmp 35], (some 3), none⟩])
 .skip))
 (.seq (.seqR [⟨.move, [.tmp 3], (some 36), none⟩,
 ⟨.move, [.tmp 36], (some 2), none⟩])
 .ret)))))), [.tmp 2]⟩
theorem c14_ok : compFunc Tryd.prog Tryd.f14 = some c14 := by kernel_rfl
theorem c14_body : hasBody Tryd.prog 14 = true := hasBody_of Tryd.func14 (by kernel_rfl)
/-- strings.ContainsFunc -/
def c15 : PFn := ⟨9, Tr.ofList (List.replicate 9 undefA), (.seq (.seqR [⟨.move, [.const (.bool false)], (some 4), none⟩])
 (.seq (.seqR [⟨.move, [.tmp 0], (some 5), none⟩,
 ⟨.move, [.tmp 1], (some 6), none⟩,
 ⟨(.callF 21), [.tmp 5, .tmp 6], (some 7), none⟩,
 ⟨(.bin .geq), [.tmp 7, .const (.int .i64 0)], (some 8), none⟩,
 ⟨.move, [.tmp 8], (some 4), none⟩])
 .ret)), [.tmp 4]⟩
theorem c15_ok : compFunc Tryd.prog Tryd.f15 = some c15 := by kernel_rfl
theorem c15_body : hasBody Tryd.prog 15 = true := hasBody_of Tryd.func15 (by kernel_rfl)
/-- coachyard/num.strange -/
def c16 : PFn := ⟨9, Tr.ofList (List.replicate 9 undefA), (.seq (.seqR [⟨.move, [.const (.bool false)], (some 2), none⟩])
 (.seq (.seqR [⟨.move, [.tmp 0], (some 3), none⟩,
 ⟨(.bin .lss), [.tmp 3, .const (.int .i32 48)], (some 4), none⟩,
 ⟨.move, [.tmp 4], (some 5), none⟩,
 ⟨.move, [.tmp 0], (some 6), some (5, false)⟩,
 ⟨(.bin .gtr), [.tmp 6, .const (.int .i32 57)], (some 7), some (5, false)⟩,
 ⟨.pick, [.tmp 5, .const (.bool true), .tmp 7], (some 8), none⟩,
 ⟨.move, [.tmp 8], (some 2), none⟩])
 .ret)), [.tmp 2]⟩
theorem c16_ok : compFunc Tryd.prog Tryd.f16 = some c16 := by kernel_rfl
theorem c16_body : hasBody Tryd.prog 16 = true := hasBody_of Tryd.func16 (by kernel_rfl)
/-- strconv.ParseUint -/
def c17 : PFn := ⟨26, Tr.ofList (List.replicate 26 undefA), (.seq (.seqR [⟨.move, [.const (.int .u64 0)], (some 6), none⟩,
 ⟨.move, [.const .nilIface], (some 7), none⟩])
 (.seq (.seqR [⟨.move, [.tmp 0], (some 11), none⟩,
 ⟨.move, [.tmp 1], (some 12), none⟩,
 ⟨.move, [.tmp 2], (some 13), none⟩,
 ⟨(.callF 22), [.tmp 11, .tmp 12, .tmp 13], (some 14), none⟩,
 ⟨.move, [.tmp 14], (some 10), none⟩,
 ⟨(.extract 0), [.tmp 10], (some 15), none⟩,
 ⟨(.extract 1), [.tmp 10], (some 16), none⟩,
 ⟨.move, [.tmp 15], (some 8), none⟩,
 ⟨.move, [.tmp 16], (some 9), none⟩])
 (.seq (.seq (.seqR [⟨.move, [.tmp 9], (some 17), none⟩,
 ⟨(.eqNil 3 true), [.tmp 17, .const .nilIface], (some 18), none⟩])
 (.cond (.tmp 18) (.seq (.seqR [⟨.move, [.tmp 8], (some 19), none⟩,
 ⟨.move, [.tmp 0], (some 20), none⟩,
 ⟨.move, [.tmp 1], (some 21), none⟩,
 ⟨.move, [.tmp 2], (some 22), none⟩,
 ⟨.move, [.tmp 9], (some 23), none⟩,
 ⟨(.callF 23), [.const (.str ⟨#[80, 97, 114, 115, 101, 85, 105, 110, 116]⟩), .tmp 20, .tmp 21, .tmp 22, .tmp 23], (some 24), none⟩,
 ⟨.move, [.tmp 19], (some 6), none⟩,
 ⟨.move, [.tmp 24], (some 7), none⟩])
 .ret)
 .skip))
 (.seq (.seqR [⟨.move, [.tmp 8], (some 25), none⟩,
 ⟨.move, [.tmp 25], (some 6), none⟩,
 ⟨.move, [.const .nilIface], (some 7), none⟩])
 .ret)))), [.tmp 6, .tmp 7]⟩
theorem c17_ok : compFunc Tryd.prog Tryd.f17 = some c17 := by kernel_rfl
theorem c17_body : hasBody Tryd.prog 17 = true := hasBody_of Tryd.func17 (by kernel_rfl)
/-- strconv.FormatUint -/
def c18 : PFn := ⟨8, Tr.ofList (List.replicate 8 undefA), (.seq (.seqR [⟨.move, [.const (.str ⟨#[]⟩)], (some 4), none⟩])
 (.seq (.seqR [⟨.move, [.tmp 0], (some 5), none⟩,
 ⟨.move, [.tmp 1], (some 6), none⟩,
 ⟨(.callF 24), [.tmp 5, .tmp 6], (some 7), none⟩,
 ⟨.move, [.tmp 7], (some 4), none⟩])
 .ret)), [.tmp 4]⟩
theorem c18_ok : compFunc Tryd.prog Tryd.f18 = some c18 := by kernel_rfl
theorem c18_body : hasBody Tryd.prog 18 = true := hasBody_of Tryd.func18 (by kernel_rfl)
/-- strings.Join -/
def c19 : PFn := ⟨75, Tr.ofList (List.replicate 75 undefA), (.seq (.seqR [⟨.move, [.const (.str ⟨#[]⟩)], (some 4), none⟩])
 (.seq (.seq (.seqR [⟨.move, [.tmp 0], (some 11), none⟩,
 ⟨.lenS, [.tmp 11], (some 12), none⟩])
 (.block 0 (.seq (.seqR [⟨(.bin .eql), [.tmp 12, .const (.int .i64 0)], (some 14), none⟩,
 ⟨.move, [.tmp 14], (some 13), none⟩])
 (.cond (.tmp 13) (.seq (.seqR [⟨.move, [.const (.str ⟨#[]⟩)], (some 4), none⟩])
 .ret)
 (.seq (.seqR [⟨(.bin .eql), [.tmp 12, .const (.int .i64 1)], (some 16), none⟩,
 ⟨.move, [.tmp 16], (some 15), none⟩])
 (.cond (.tmp 15) (.seq (.seqR [⟨.move, [.tmp 0], (some 17), none⟩,
 ⟨(.indexAddrS 1), [.tmp 17, .const (.int .i64 0)], (some 18), none⟩,
 ⟨(.load false 1), [.tmp 18], (some 19), none⟩,
 ⟨.move, [.tmp 19], (some 4), none⟩])
 .ret)
 .skip))))))
 (.seq (.seqR [⟨.move, [.const (.int .i64 0)], (some 5), none⟩])
 (.seq (.seq (.seqR [⟨.move, [.tmp 1], (some 20), none⟩,
 ⟨.lenStr, [.tmp 20], (some 21), none⟩,
 ⟨(.bin .gtr), [.tmp 21, .const (.int .i64 0)], (some 22), none⟩])
 (.cond (.tmp 22) (.seq (.seq (.seqR [⟨.move, [.tmp 1], (some 23), none⟩,
 ⟨.lenStr, [.tmp 23], (some 24), none⟩,
 ⟨.move, [.tmp 0], (some 25), none⟩,
 ⟨.lenS, [.tmp 25], (some 26), none⟩,
 ⟨(.bin .sub), [.tmp 26, .const (.int .i64 1)], (some 27), none⟩,
 ⟨(.bin .quo), [.const (.int .i64 9223372036854775807), .tmp 27], (some 28), none⟩,
 ⟨(.bin .geq), [.tmp 24, .tmp 28], (some 29), none⟩])
 (.cond (.tmp 29) .fail
 .skip))
 (.seqR [⟨.move, [.tmp 5], (some 31), none⟩,
 ⟨.move, [.tmp 1], (some 32), none⟩,
 ⟨.lenStr, [.tmp 32], (some 33), none⟩,
 ⟨.move, [.tmp 0], (some 34), none⟩,
 ⟨.lenS, [.tmp 34], (some 35), none⟩,
 ⟨(.bin .sub), [.tmp 35, .const (.int .i64 1)], (some 36), none⟩,
 ⟨(.bin .mul), [.tmp 33, .tmp 36], (some 37), none⟩,
 ⟨(.bin .add), [.tmp 31, .tmp 37], (some 38), none⟩,
 ⟨.move, [.tmp 38], (some 5), none⟩]))
 .skip))
 (.seq (.seq (.seqR [⟨.move, [.tmp 0], (some 39), none⟩,
 ⟨.lenS, [.tmp 39], (some 40), none⟩,
 ⟨.move, [.const (.int .i64 0)], (some 41), none⟩])
 (.block 1 (.loop (.seq (.seqR [⟨(.bin .lss), [.tmp 41, .tmp 40], (some 42), none⟩])
 (.seq (.cond (.tmp 42) .skip
 (.exit 1))
 (.seq (.block 2 (.seq (.seqR [⟨(.indexAddrS 1), [.tmp 39, .tmp 41], (some 43), none⟩,
 ⟨(.load false 1), [.tmp 43], (some 44), none⟩,
 ⟨.move, [.tmp 44], (some 7), none⟩])
 (.seq (.seq (.seqR [⟨.move, [.tmp 7], (some 45), none⟩,
 ⟨.lenStr, [.tmp 45], (some 46), none⟩,
 ⟨.move, [.tmp 5], (some 47), none⟩,
 ⟨(.bin .sub), [.const (.int .i64 9223372036854775807), .tmp 47], (some 48), none⟩,
 ⟨(.bin .gtr), [.tmp 46, .tmp 48], (some 49), none⟩])
 (.cond (.tmp 49) .fail
 .skip))
 (.seqR [⟨.move, [.tmp 5], (some 51), none⟩,
 ⟨.move, [.tmp 7], (some 52), none⟩,
 ⟨.lenStr, [.tmp 52], (some 53), none⟩,
 ⟨(.bin .add), [.tmp 51, .tmp 53], (some 54), none⟩,
 ⟨.move, [.tmp 54], (some 5), none⟩]))))
 (.seqR [⟨(.bin .add), [.tmp 41, .const (.int .i64 1)], (some 55), none⟩,
 ⟨.move, [.tmp 55], (some 41), none⟩])))))))
 (.seq (.seqR [⟨(.new [(.ptr none), (.slice none 0 0 false)]), [], (some 8), none⟩])
 (.seq (.seqR [⟨.move, [.tmp 5], (some 56), none⟩,
 ⟨(.callF 25), [.tmp 8, .tmp 56], (some 57), none⟩])
 (.seq (.seqR [⟨.move, [.tmp 0], (some 58), none⟩,
 ⟨(.indexAddrS 1), [.tmp 58, .const (.int .i64 0)], (some 59), none⟩,
 ⟨(.load false 1), [.tmp 59], (some 60), none⟩,
 ⟨(.callF 26), [.tmp 8, .tmp 60], (some 61), none⟩])
 (.seq (.seq (.seqR [⟨.move, [.tmp 0], (some 62), none⟩,
 ⟨(.slice 1 true false false), [.tmp 62, .const (.int .i64 1)], (some 63), none⟩,
 ⟨.lenS, [.tmp 63], (some 64), none⟩,
 ⟨.move, [.const (.int .i64 0)], (some 65), none⟩])
 (.block 3 (.loop (.seq (.seqR [⟨(.bin .lss), [.tmp 65, .tmp 64], (some 66), none⟩])
 (.seq (.cond (.tmp 66) .skip
 (.exit 3))
 (.seq (.block 4 (.seq (.seqR [⟨(.indexAddrS 1), [.tmp 63, .tmp 65], (some 67), none⟩,
 ⟨(.load false 1), [.tmp 67], (some 68), none⟩,
 ⟨.move, [.tmp 68], (some 10), none⟩])
 (.seq (.seqR [⟨.move, [.tmp 1], (some 69), none⟩,
 ⟨(.callF 26), [.tmp 8, .tmp 69], (some 70), none⟩])
 (.seqR [⟨.move, [.tmp 10], (some 71), none⟩,
 ⟨(.callF 26), [.tmp 8, .tmp 71], (some 72), none⟩]))))
 (.seqR [⟨(.bin .add), [.tmp 65, .const (.int .i64 1)], (some 73), none⟩,
 ⟨.move, [.tmp 73], (some 65), none⟩])))))))
 (.seq (.seqR [⟨(.callF 27), [.tmp 8], (some 74), none⟩,
 ⟨.move, [.tmp 74], (some 4), none⟩])
 .ret)))))))))), [.tmp 4]⟩
theorem c19_ok : compFunc Tryd.prog Tryd.f19 = some c19 := by kernel_rfl
theorem c19_body : hasBody Tryd.prog 19 = true := hasBody_of Tryd.func19 (by kernel_rfl)
/-- strings.SplitSeq -/
def c20 : PFn := ⟨8, Tr.ofList (List.replicate 8 undefA), (.seq (.seqR [⟨.move, [.const .nilFunc], (some 4), none⟩])
 (.seq (.seqR [⟨.move, [.tmp 0], (some 5), none⟩,
 ⟨.move, [.tmp 1], (some 6), none⟩,
 ⟨(.callF 28), [.tmp 5, .tmp 6, .const (.int .i64 0)], (some 7), none⟩,
 ⟨.move, [.tmp 7], (some 4), none⟩])
 .ret)), [.tmp 4]⟩
theorem c20_ok : compFunc Tryd.prog Tryd.f20 = some c20 := by kernel_rfl
theorem c20_body : hasBody Tryd.prog 20 = true := hasBody_of Tryd.func20 (by kernel_rfl)
/-- strings.IndexFunc -/
def c21 : PFn := ⟨8, Tr.ofList (List.replicate 8 undefA), (.seq (.seqR [⟨.move, [.const (.int .i64 0)], (some 4), none⟩])
 (.seq (.seqR [⟨.move, [.tmp 0], (some 5), none⟩,
 ⟨.move, [.tmp 1], (some 6), none⟩,
 ⟨(.callF 29), [.tmp 5, .tmp 6, .const (.bool true)], (some 7), none⟩,
 ⟨.move, [.tmp 7], (some 4), none⟩])
 .ret)), [.tmp 4]⟩
theorem c21_ok : compFunc Tryd.prog Tryd.f21 = some c21 := by kernel_rfl
theorem c21_body : hasBody Tryd.prog 21 = true := hasBody_of Tryd.func21 (by kernel_rfl)
/-- internal/strconv.ParseUint -/
def c22 : PFn := ⟨172, Tr.ofList (List.replicate 172 undefA), (.seq (.seqR [⟨.move, [.const (.int .u64 0)], (some 6), none⟩,
 ⟨.move, [.const .nilIface], (some 7), none⟩])
 (.seq (.seq (.seqR [⟨.move, [.tmp 0], (some 18), none⟩,
 ⟨(.bin .eql), [.tmp 18, .const (.str ⟨#[]⟩)], (some 19), none⟩])
 (.cond (.tmp 19) (.seq (.seqR [⟨(.mkIface 58), [.const (.int .i64 2)], (some 20), none⟩,
 ⟨.move, [.const (.int .u64 0)], (some 6), none⟩,
 ⟨.move, [.tmp 20], (some 7), none⟩])
 .ret)
 .skip))
 (.seq (.seqR [⟨.move, [.tmp 1], (some 21), none⟩,
 ⟨(.bin .eql), [.tmp 21, .const (.int .i64 0)], (some 22), none⟩,
 ⟨.move, [.tmp 22], (some 8), none⟩])
 (.seq (.seqR [⟨.move, [.tmp 0], (some 23), none⟩,
 ⟨.move, [.tmp 23], (some 9), none⟩])
 (.seq (.block 0 (.seq (.seqR [⟨.move, [.tmp 1], (some 26), none⟩,
 ⟨(.bin .leq), [.const (.int .i64 2), .tmp 26], (some 27), none⟩,
 ⟨.move, [.tmp 27], (some 28), none⟩,
 ⟨.move, [.tmp 1], (some 29), some (28, true)⟩,
 ⟨(.bin .leq), [.tmp 29, .const (.int .i64 36)], (some 30), some (28, true)⟩,
 ⟨.pick, [.tmp 28, .tmp 30, .const (.bool false)], (some 31), none⟩,
 ⟨.move, [.tmp 31], (some 25), none⟩])
 (.cond (.tmp 25) .skip
 (.seq (.seqR [⟨.move, [.tmp 1], (some 33), none⟩,
 ⟨(.bin .eql), [.tmp 33, .const (.int .i64 0)], (some 34), none⟩,
 ⟨.move, [.tmp 34], (some 32), none⟩])
 (.cond (.tmp 32) (.seq (.seqR [⟨.move, [.const (.int .i64 10)], (some 1), none⟩])
 (.seq (.seqR [⟨.move, [.tmp 0], (some 35), none⟩,
 ⟨.indexStr, [.tmp 35, .const (.int .i64 0)], (some 36), none⟩,
 ⟨(.bin .eql), [.tmp 36, .const (.int .u8 48)], (some 37), none⟩])
 (.cond (.tmp 37) (.block 1 (.seq (.seqR [⟨.move, [.tmp 0], (some 41), none⟩,
 ⟨.lenStr, [.tmp 41], (some 42), none⟩,
 ⟨(.bin .geq), [.tmp 42, .const (.int .i64 3)], (some 43), none⟩,
 ⟨.move, [.tmp 43], (some 44), none⟩,
 ⟨.move, [.tmp 0], (some 45), some (44, true)⟩,
 ⟨.indexStr, [.tmp 45, .const (.int .i64 1)], (some 46), some (44, true)⟩,
 ⟨(.callF 30), [.tmp 46], (some 47), some (44, true)⟩,
 ⟨(.bin .eql), [.tmp 47, .const (.int .u8 98)], (some 48), some (44, true)⟩,
 ⟨.pick, [.tmp 44, .tmp 48, .const (.bool false)], (some 49), none⟩,
 ⟨.move, [.tmp 49], (some 40), none⟩])
 (.cond (.tmp 40) (.seq (.seqR [⟨.move, [.const (.int .i64 2)], (some 1), none⟩])
 (.seqR [⟨.move, [.tmp 0], (some 50), none⟩,
 ⟨(.sliceStr true false), [.tmp 50, .const (.int .i64 2)], (some 51), none⟩,
 ⟨.move, [.tmp 51], (some 0), none⟩]))
 (.seq (.seqR [⟨.move, [.tmp 0], (some 53), none⟩,
 ⟨.lenStr, [.tmp 53], (some 54), none⟩,
 ⟨(.bin .geq), [.tmp 54, .const (.int .i64 3)], (some 55), none⟩,
 ⟨.move, [.tmp 55], (some 56), none⟩,
 ⟨.move, [.tmp 0], (some 57), some (56, true)⟩,
 ⟨.indexStr, [.tmp 57, .const (.int .i64 1)], (some 58), some (56, true)⟩,
 ⟨(.callF 30), [.tmp 58], (some 59), some (56, true)⟩,
 ⟨(.bin .eql), [.tmp 59, .const (.int .u8 111)], (some 60), some (56, true)⟩,
 ⟨.pick, [.tmp 56, .tmp 60, .const (.bool false)], (some 61), none⟩,
 ⟨.move, [.tmp 61], (some 52), none⟩])
 (.cond (.tmp 52) (.seq (.seqR [⟨.move, [.const (.int .i64 8)], (some 1), none⟩])
 (.seqR [⟨.move, [.tmp 0], (some 62), none⟩,
 ⟨(.sliceStr true false), [.tmp 62, .const (.int .i64 2)], (some 63), none⟩,
 ⟨.move, [.tmp 63], (some 0), none⟩]))
 (.seq (.seqR [⟨.move, [.tmp 0], (some 65), none⟩,
 ⟨.lenStr, [.tmp 65], (some 66), none⟩,
 ⟨(.bin .geq), [.tmp 66, .const (.int .i64 3)], (some 67), none⟩,
 ⟨.move, [.tmp 67], (some 68), none⟩,
 ⟨.move, [.tmp 0], (some 69), some (68, true)⟩,
 ⟨.indexStr, [.tmp 69, .const (.int .i64 1)], (some 70), some (68, true)⟩,
 ⟨(.callF 30), [.tmp 70], (some 71), some (68, true)⟩,
 ⟨(.bin .eql), [.tmp 71, .const (.int .u8 120)], (some 72), some (68, true)⟩,
 ⟨.pick, [.tmp 68, .tmp 72, .const (.bool false)], (some 73), none⟩,
 ⟨.move, [.tmp 73], (some 64), none⟩])
 (.cond (.tmp 64) (.seq (.seqR [⟨.move, [.const (.int .i64 16)], (some 1), none⟩])
 (.seqR [⟨.move, [.tmp 0], (some 74), none⟩,
 ⟨(.sliceStr true false), [.tmp 74, .const (.int .i64 2)], (some 75), none⟩,
 ⟨.move, [.tmp 75], (some 0), none⟩]))
 (.seq (.seqR [⟨.move, [.const (.int .i64 8)], (some 1), none⟩])
 (.seqR [⟨.move, [.tmp 0], (some 38), none⟩,
 ⟨(.sliceStr true false), [.tmp 38, .const (.int .i64 1)], (some 39), none⟩,
 ⟨.move, [.tmp 39], (some 0), none⟩])))))))))
 .skip)))
 (.seq (.seqR [⟨(.mkIface 58), [.const (.int .i64 3)], (some 24), none⟩,
 ⟨.move, [.const (.int .u64 0)], (some 6), none⟩,
 ⟨.move, [.tmp 24], (some 7), none⟩])
 .ret))))))
 (.seq (.seq (.seqR [⟨.move, [.tmp 2], (some 76), none⟩,
 ⟨(.bin .eql), [.tmp 76, .const (.int .i64 0)], (some 77), none⟩])
 (.cond (.tmp 77) (.seqR [⟨.move, [.const (.int .i64 64)], (some 2), none⟩])
 (.seq (.seqR [⟨.move, [.tmp 2], (some 78), none⟩,
 ⟨(.bin .lss), [.tmp 78, .const (.int .i64 0)], (some 79), none⟩,
 ⟨.move, [.tmp 79], (some 80), none⟩,
 ⟨.move, [.tmp 2], (some 81), some (80, false)⟩,
 ⟨(.bin .gtr), [.tmp 81, .const (.int .i64 64)], (some 82), some (80, false)⟩,
 ⟨.pick, [.tmp 80, .const (.bool true), .tmp 82], (some 83), none⟩])
 (.cond (.tmp 83) (.seq (.seqR [⟨(.mkIface 58), [.const (.int .i64 4)], (some 84), none⟩,
 ⟨.move, [.const (.int .u64 0)], (some 6), none⟩,
 ⟨.move, [.tmp 84], (some 7), none⟩])
 .ret)
 .skip))))
 (.seq (.seqR [⟨.move, [.const (.int .u64 0)], (some 10), none⟩])
 (.seq (.seq (.seqR [⟨.move, [.tmp 1], (some 85), none⟩])
 (.block 2 (.seq (.seqR [⟨(.bin .eql), [.tmp 85, .const (.int .i64 10)], (some 91), none⟩,
 ⟨.move, [.tmp 91], (some 90), none⟩])
 (.cond (.tmp 90) (.seqR [⟨.move, [.const (.int .u64 1844674407370955162)], (some 10), none⟩])
 (.seq (.seqR [⟨(.bin .eql), [.tmp 85, .const (.int .i64 16)], (some 93), none⟩,
 ⟨.move, [.tmp 93], (some 92), none⟩])
 (.cond (.tmp 92) (.seqR [⟨.move, [.const (.int .u64 1152921504606846976)], (some 10), none⟩])
 (.seqR [⟨.move, [.tmp 1], (some 86), none⟩,
 ⟨(.conv .u64), [.tmp 86], (some 87), none⟩,
 ⟨(.bin .quo), [.const (.int .u64 18446744073709551615), .tmp 87], (some 88), none⟩,
 ⟨(.bin .add), [.tmp 88, .const (.int .u64 1)], (some 89), none⟩,
 ⟨.move, [.tmp 89], (some 10), none⟩])))))))
 (.seq (.seqR [⟨.move, [.tmp 2], (some 94), none⟩,
 ⟨(.conv .u64), [.tmp 94], (some 95), none⟩,
 ⟨(.bin .shl), [.const (.int .u64 1), .tmp 95], (some 96), none⟩,
 ⟨(.bin .sub), [.tmp 96, .const (.int .u64 1)], (some 97), none⟩,
 ⟨.move, [.tmp 97], (some 11), none⟩])
 (.seq (.seqR [⟨.move, [.const (.bool false)], (some 12), none⟩])
 (.seq (.seqR [⟨.move, [.const (.int .u64 0)], (some 13), none⟩])
 (.seq (.seq .fail
 (.block 3 (.loop (.seq (.seqR [⟨(.bin .lss), [.tmp 101, .tmp 100], (some 102), none⟩])
 (.seq (.cond (.tmp 102) .skip
 (.exit 3))
 (.seq (.block 4 (.seq (.seqR [⟨(.indexAddrS 1), [.tmp 99, .tmp 101], (some 103), none⟩,
 ⟨(.load false 1), [.tmp 103], (some 104), none⟩,
 ⟨.move, [.tmp 104], (some 15), none⟩])
 (.seq (.seqR [⟨.move, [.const (.int .u8 0)], (some 16), none⟩])
 (.seq (.block 5 (.seq (.seqR [⟨.move, [.tmp 15], (some 107), none⟩,
 ⟨(.bin .eql), [.tmp 107, .const (.int .u8 95)], (some 108), none⟩,
 ⟨.move, [.tmp 108], (some 109), none⟩,
 ⟨.move, [.tmp 8], (some 110), some (109, true)⟩,
 ⟨.pick, [.tmp 109, .tmp 110, .const (.bool false)], (some 111), none⟩,
 ⟨.move, [.tmp 111], (some 106), none⟩])
 (.cond (.tmp 106) (.seq (.seqR [⟨.move, [.const (.bool true)], (some 12), none⟩])
 (.exit 4))
 (.seq (.seqR [⟨.move, [.tmp 15], (some 113), none⟩,
 ⟨(.bin .leq), [.const (.int .u8 48), .tmp 113], (some 114), none⟩,
 ⟨.move, [.tmp 114], (some 115), none⟩,
 ⟨.move, [.tmp 15], (some 116), some (115, true)⟩,
 ⟨(.bin .leq), [.tmp 116, .const (.int .u8 57)], (some 117), some (115, true)⟩,
 ⟨.pick, [.tmp 115, .tmp 117, .const (.bool false)], (some 118), none⟩,
 ⟨.move, [.tmp 118], (some 112), none⟩])
 (.cond (.tmp 112) (.seqR [⟨.move, [.tmp 15], (some 119), none⟩,
 ⟨(.bin .sub), [.tmp 119, .const (.int .u8 48)], (some 120), none⟩,
 ⟨.move, [.tmp 120], (some 16), none⟩])
 (.seq (.seqR [⟨.move, [.tmp 15], (some 122), none⟩,
 ⟨(.callF 30), [.tmp 122], (some 123), none⟩,
 ⟨(.bin .leq), [.const (.int .u8 97), .tmp 123], (some 124), none⟩,
 ⟨.move, [.tmp 124], (some 125), none⟩,
 ⟨.move, [.tmp 15], (some 126), some (125, true)⟩,
 ⟨(.callF 30), [.tmp 126], (some 127), some (125, true)⟩,
 ⟨(.bin .leq), [.tmp 127, .const (.int .u8 122)], (some 128), some (125, true)⟩,
 ⟨.pick, [.tmp 125, .tmp 128, .const (.bool false)], (some 129), none⟩,
 ⟨.move, [.tmp 129], (some 121), none⟩])
 (.cond (.tmp 121) (.seqR [⟨.move, [.tmp 15], (some 130), none⟩,
 ⟨(.callF 30), [.tmp 130], (some 131), none⟩,
 ⟨(.bin .sub), [.tmp 131, .const (.int .u8 97)], (some 132), none⟩,
 ⟨(.bin .add), [.tmp 132, .const (.int .u8 10)], (some 133), none⟩,
 ⟨.move, [.tmp 133], (some 16), none⟩])
 (.seq (.seqR [⟨(.mkIface 58), [.const (.int .i64 2)], (some 105), none⟩,
 ⟨.move, [.const (.int .u64 0)], (some 6), none⟩,
 ⟨.move, [.tmp 105], (some 7), none⟩])
 .ret))))))))
 (.seq (.seq (.seqR [⟨.move, [.tmp 16], (some 134), none⟩,
 ⟨.move, [.tmp 1], (some 135), none⟩,
 ⟨(.conv .u8), [.tmp 135], (some 136), none⟩,
 ⟨(.bin .geq), [.tmp 134, .tmp 136], (some 137), none⟩])
 (.cond (.tmp 137) (.seq (.seqR [⟨(.mkIface 58), [.const (.int .i64 2)], (some 138), none⟩,
 ⟨.move, [.const (.int .u64 0)], (some 6), none⟩,
 ⟨.move, [.tmp 138], (some 7), none⟩])
 .ret)
 .skip))
 (.seq (.seq (.seqR [⟨.move, [.tmp 13], (some 139), none⟩,
 ⟨.move, [.tmp 10], (some 140), none⟩,
 ⟨(.bin .geq), [.tmp 139, .tmp 140], (some 141), none⟩])
 (.cond (.tmp 141) (.seq (.seqR [⟨.move, [.tmp 11], (some 142), none⟩,
 ⟨(.mkIface 58), [.const (.int .i64 1)], (some 143), none⟩,
 ⟨.move, [.tmp 142], (some 6), none⟩,
 ⟨.move, [.tmp 143], (some 7), none⟩])
 .ret)
 .skip))
 (.seq (.seqR [⟨.move, [.tmp 13], (some 144), none⟩,
 ⟨.move, [.tmp 1], (some 145), none⟩,
 ⟨(.conv .u64), [.tmp 145], (some 146), none⟩,
 ⟨(.bin .mul), [.tmp 144, .tmp 146], (some 147), none⟩,
 ⟨.move, [.tmp 147], (some 13), none⟩])
 (.seq (.seqR [⟨.move, [.tmp 13], (some 148), none⟩,
 ⟨.move, [.tmp 16], (some 149), none⟩,
 ⟨(.conv .u64), [.tmp 149], (some 150), none⟩,
 ⟨(.bin .add), [.tmp 148, .tmp 150], (some 151), none⟩,
 ⟨.move, [.tmp 151], (some 17), none⟩])
 (.seq (.seq (.seqR [⟨.move, [.tmp 17], (some 152), none⟩,
 ⟨.move, [.tmp 13], (some 153), none⟩,
 ⟨(.bin .lss), [.tmp 152, .tmp 153], (some 154), none⟩,
 ⟨.move, [.tmp 154], (some 155), none⟩,
 ⟨.move, [.tmp 17], (some 156), some (155, false)⟩,
 ⟨.move, [.tmp 11], (some 157), some (155, false)⟩,
 ⟨(.bin .gtr), [.tmp 156, .tmp 157], (some 158), some (155, false)⟩,
 ⟨.pick, [.tmp 155, .const (.bool true), .tmp 158], (some 159), none⟩])
 (.cond (.tmp 159) (.seq (.seqR [⟨.move, [.tmp 11], (some 160), none⟩,
 ⟨(.mkIface 58), [.const (.int .i64 1)], (some 161), none⟩,
 ⟨.move, [.tmp 160], (some 6), none⟩,
 ⟨.move, [.tmp 161], (some 7), none⟩])
 .ret)
 .skip))
 (.seqR [⟨.move, [.tmp 17], (some 162), none⟩,
 ⟨.move, [.tmp 162], (some 13), none⟩]))))))))))
 (.seqR [⟨(.bin .add), [.tmp 101, .const (.int .i64 1)], (some 163), none⟩,
 ⟨.move, [.tmp 163], (some 101), none⟩])))))))
 (.seq (.seq (.seqR [⟨.move, [.tmp 12], (some 164), none⟩,
 ⟨.move, [.tmp 164], (some 165), none⟩,
 ⟨.move, [.tmp 9], (some 166), some (165, true)⟩,
 ⟨(.callF 31), [.tmp 166], (some 167), some (165, true)⟩,
 ⟨.not, [.tmp 167], (some 168), some (165, true)⟩,
 ⟨.pick, [.tmp 165, .tmp 168, .const (.bool false)], (some 169), none⟩])
 (.cond (.tmp 169) (.seq (.seqR [⟨(.mkIface 58), [.const (.int .i64 2)], (some 170), none⟩,
 ⟨.move, [.const (.int .u64 0)], (some 6), none⟩,
 ⟨.move, [.tmp 170], (some 7), none⟩])
 .ret)
 .skip))
 (.seq (.seqR [⟨.move, [.tmp 13], (some 171), none⟩,
 ⟨.move, [.tmp 171], (some 6), none⟩,
 ⟨.move, [.const .nilIface], (some 7), none⟩])
 .ret)))))))))))))), [.tmp 6, .tmp 7]⟩
theorem c22_ok : compFunc Tryd.prog Tryd.f22 = some c22 := by kernel_rfl
theorem c22_body : hasBody Tryd.prog 22 = true := hasBody_of Tryd.func22 (by kernel_rfl)
/-- strconv.toError -/
def c23 : PFn := ⟨43, Tr.ofList (List.replicate 43 undefA), (.seq (.seqR [⟨.move, [.const .nilIface], (some 10), none⟩])
 (.seq (.seq (.seqR [⟨.move, [.tmp 4], (some 11), none⟩])
 (.block 0 (.seq .fail
 (.cond (.tmp 12) (.seq (.seqR [⟨.move, [.tmp 0], (some 15), none⟩,
 ⟨.move, [.tmp 1], (some 16), none⟩,
 ⟨(.callF 32), [.tmp 15, .tmp 16], (some 17), none⟩,
 ⟨(.mkIface 62), [.tmp 17], (some 18), none⟩,
 ⟨.move, [.tmp 18], (some 10), none⟩])
 .ret)
 (.seq .fail
 (.cond (.tmp 19) (.seq (.seqR [⟨.move, [.tmp 0], (some 22), none⟩,
 ⟨.move, [.tmp 1], (some 23), none⟩,
 ⟨(.callF 33), [.tmp 22, .tmp 23], (some 24), none⟩,
 ⟨(.mkIface 62), [.tmp 24], (some 25), none⟩,
 ⟨.move, [.tmp 25], (some 10), none⟩])
 .ret)
 (.seq .fail
 (.cond (.tmp 26) (.seq (.seqR [⟨.move, [.tmp 0], (some 29), none⟩,
 ⟨.move, [.tmp 1], (some 30), none⟩,
 ⟨.move, [.tmp 2], (some 31), none⟩,
 ⟨(.callF 34), [.tmp 29, .tmp 30, .tmp 31], (some 32), none⟩,
 ⟨(.mkIface 62), [.tmp 32], (some 33), none⟩,
 ⟨.move, [.tmp 33], (some 10), none⟩])
 .ret)
 (.seq .fail
 (.cond (.tmp 34) (.seq (.seqR [⟨.move, [.tmp 0], (some 37), none⟩,
 ⟨.move, [.tmp 1], (some 38), none⟩,
 ⟨.move, [.tmp 3], (some 39), none⟩,
 ⟨(.callF 35), [.tmp 37, .tmp 38, .tmp 39], (some 40), none⟩,
 ⟨(.mkIface 62), [.tmp 40], (some 41), none⟩,
 ⟨.move, [.tmp 41], (some 10), none⟩])
 .ret)
 .skip))))))))))
 (.seq (.seqR [⟨.move, [.tmp 4], (some 42), none⟩,
 ⟨.move, [.tmp 42], (some 10), none⟩])
 .ret))), [.tmp 10]⟩
theorem c23_ok : compFunc Tryd.prog Tryd.f23 = some c23 := by kernel_rfl
theorem c23_body : hasBody Tryd.prog 23 = true := hasBody_of Tryd.func23 (by kernel_rfl)
/-- internal/strconv.FormatUint -/
def c24 : PFn := ⟨32, Tr.ofList (List.replicate 32 undefA), (.seq (.seqR [⟨.move, [.const (.str ⟨#[]⟩)], (some 4), none⟩])
 (.seq (.seq (.seqR [⟨.move, [.tmp 1], (some 9), none⟩,
 ⟨(.bin .eql), [.tmp 9, .const (.int .i64 10)], (some 10), none⟩])
 (.cond (.tmp 10) (.seq (.seq (.seqR [⟨.move, [.tmp 0], (some 11), none⟩,
 ⟨(.bin .lss), [.tmp 11, .const (.int .u64 100)], (some 12), none⟩])
 (.cond (.tmp 12) (.seq (.seqR [⟨.move, [.tmp 0], (some 13), none⟩,
 ⟨(.conv .i64), [.tmp 13], (some 14), none⟩,
 ⟨(.callF 36), [.tmp 14], (some 15), none⟩,
 ⟨.move, [.tmp 15], (some 4), none⟩])
 .ret)
 .skip))
 (.seq (.seqR [⟨(.new [(.int .u8 0), (.int .u8 0), (.int .u8 0), (.int .u8 0), (.int .u8 0), (.int .u8 0), (.int .u8 0), (.int .u8 0), (.int .u8 0), (.int .u8 0), (.int .u8 0), (.int .u8 0), (.int .u8 0), (.int .u8 0), (.int .u8 0), (.int .u8 0), (.int .u8 0), (.int .u8 0), (.int .u8 0), (.int .u8 0), (.int .u8 0), (.int .u8 0), (.int .u8 0), (.int .u8 0)]), [], (some 5), none⟩])
 (.seq (.seqR [⟨.move, [.tmp 0], (some 16), none⟩,
 ⟨(.callF 37), [.tmp 16], (some 17), none⟩,
 ⟨.move, [.tmp 17], (some 6), none⟩])
 (.seq (.seqR [⟨.move, [.tmp 6], (some 18), none⟩,
 ⟨(.slicePA 24 1 false true false), [.tmp 5, .tmp 18], (some 19), none⟩,
 ⟨.move, [.tmp 0], (some 20), none⟩,
 ⟨(.callF 38), [.tmp 19, .tmp 20], (some 21), none⟩])
 (.seq (.seqR [⟨.move, [.tmp 6], (some 22), none⟩,
 ⟨(.slicePA 24 1 false true false), [.tmp 5, .tmp 22], (some 23), none⟩,
 ⟨.bytesStr, [.tmp 23], (some 24), none⟩,
 ⟨.move, [.tmp 24], (some 4), none⟩])
 .ret)))))
 .skip))
 (.seq (.seqR [⟨.move, [.tmp 0], (some 26), none⟩,
 ⟨.move, [.tmp 1], (some 27), none⟩,
 ⟨(.callF 39), [.const (.slice none 0 0 false), .tmp 26, .tmp 27, .const (.bool false), .const (.bool false)], (some 28), none⟩,
 ⟨.move, [.tmp 28], (some 25), none⟩,
 ⟨(.extract 0), [.tmp 25], (some 29), none⟩,
 ⟨(.extract 1), [.tmp 25], (some 30), none⟩,
 ⟨.move, [.tmp 29], (some 7), none⟩,
 ⟨.move, [.tmp 30], (some 8), none⟩])
 (.seq (.seqR [⟨.move, [.tmp 8], (some 31), none⟩,
 ⟨.move, [.tmp 31], (some 4), none⟩])
 .ret)))), [.tmp 4]⟩
theorem c24_ok : compFunc Tryd.prog Tryd.f24 = some c24 := by kernel_rfl
theorem c24_body : hasBody Tryd.prog 24 = true := hasBody_of Tryd.func24 (by kernel_rfl)
/-- (*strings.Builder).Grow -/
def c25 : PFn := ⟨25, Tr.ofList (List.replicate 25 undefA), (.seq (.seqR [⟨.move, [.tmp 0], (some 4), none⟩,
 ⟨(.callF 40), [.tmp 4], (some 5), none⟩])
 (.seq (.seq (.seqR [⟨.move, [.tmp 1], (some 6), none⟩,
 ⟨(.bin .lss), [.tmp 6, .const (.int .i64 0)], (some 7), none⟩])
 (.cond (.tmp 7) .fail
 .skip))
 (.seq .fail
 (.cond (.tmp 21) (.seqR [⟨.move, [.tmp 0], (some 22), none⟩,
 ⟨.move, [.tmp 1], (some 23), none⟩,
 ⟨(.callF 41), [.tmp 22, .tmp 23], (some 24), none⟩])
 .skip)))), []⟩
theorem c25_ok : compFunc Tryd.prog Tryd.f25 = some c25 := by kernel_rfl
theorem c25_body : hasBody Tryd.prog 25 = true := hasBody_of Tryd.func25 (by kernel_rfl)
/-- (*strings.Builder).WriteString -/
def c26 : PFn := ⟨19, Tr.ofList (List.replicate 19 undefA), (.seq (.seqR [⟨.move, [.const (.int .i64 0)], (some 4), none⟩,
 ⟨.move, [.const .nilIface], (some 5), none⟩])
 (.seq (.seqR [⟨.move, [.tmp 0], (some 6), none⟩,
 ⟨(.callF 40), [.tmp 6], (some 7), none⟩])
 (.seq .fail
 (.seq (.seqR [⟨.move, [.tmp 1], (some 17), none⟩,
 ⟨.lenStr, [.tmp 17], (some 18), none⟩,
 ⟨.move, [.tmp 18], (some 4), none⟩,
 ⟨.move, [.const .nilIface], (some 5), none⟩])
 .ret)))), [.tmp 4, .tmp 5]⟩
theorem c26_ok : compFunc Tryd.prog Tryd.f26 = some c26 := by kernel_rfl
theorem c26_body : hasBody Tryd.prog 26 = true := hasBody_of Tryd.func26 (by kernel_rfl)
/-- (*strings.Builder).String -/
def c27 : PFn := ⟨14, Tr.ofList (List.replicate 14 undefA), (.seq (.seqR [⟨.move, [.const (.str ⟨#[]⟩)], (some 2), none⟩])
 (.seq .fail
 .ret)), [.tmp 2]⟩
theorem c27_ok : compFunc Tryd.prog Tryd.f27 = some c27 := by kernel_rfl
theorem c27_body : hasBody Tryd.prog 27 = true := hasBody_of Tryd.func27 (by kernel_rfl)
/-- strings.splitSeq -/
def c28 : PFn := ⟨8, Tr.ofList (List.replicate 8 undefA), (.seq (.seqR [⟨.box, [.tmp 0], (some 3), none⟩,
 ⟨.box, [.tmp 1], (some 4), none⟩,
 ⟨.box, [.tmp 2], (some 5), none⟩,
 ⟨.move, [.const .nilFunc], (some 6), none⟩])
 (.seq (.seqR [⟨(.mkFunc (.func 42) 0), [.tmp 4, .tmp 3, .tmp 5], (some 7), none⟩,
 ⟨.move, [.tmp 7], (some 6), none⟩])
 .ret)), [.tmp 6]⟩
theorem c28_ok : compFunc Tryd.prog Tryd.f28 = some c28 := by kernel_rfl
theorem c28_body : hasBody Tryd.prog 28 = true := hasBody_of Tryd.func28 (by kernel_rfl)
/-- strings.indexFunc -/
def c29 : PFn := ⟨21, Tr.ofList (List.replicate 21 undefA), (.seq (.seqR [⟨.move, [.const (.int .i64 0)], (some 6), none⟩])
 (.seq (.seq .fail
 (.block 0 (.loop (.seq .fail
 (.seq (.cond (.tmp 12) .skip
 (.exit 0))
 (.block 1 (.seq (.seqR [⟨(.extract 1), [.tmp 11], (some 13), none⟩,
 ⟨(.extract 2), [.tmp 11], (some 14), none⟩,
 ⟨.move, [.tmp 13], (some 7), none⟩,
 ⟨.move, [.tmp 14], (some 8), none⟩])
 (.seq (.seqR [⟨.move, [.tmp 1], (some 15), none⟩,
 ⟨.move, [.tmp 8], (some 16), none⟩,
 ⟨.callV, [.tmp 15, .tmp 16], (some 17), none⟩,
 ⟨.move, [.tmp 2], (some 18), none⟩,
 ⟨(.eqBool false), [.tmp 17, .tmp 18], (some 19), none⟩])
 (.cond (.tmp 19) (.seq (.seqR [⟨.move, [.tmp 7], (some 20), none⟩,
 ⟨.move, [.tmp 20], (some 6), none⟩])
 .ret)
 .skip)))))))))
 (.seq (.seqR [⟨.move, [.const (.int .i64 (-1))], (some 6), none⟩])
 .ret))), [.tmp 6]⟩
theorem c29_ok : compFunc Tryd.prog Tryd.f29 = some c29 := by kernel_rfl
theorem c29_body : hasBody Tryd.prog 29 = true := hasBody_of Tryd.func29 (by kernel_rfl)
/-- internal/strconv.lower -/
def c30 : PFn := ⟨5, Tr.ofList (List.replicate 5 undefA), (.seq (.seqR [⟨.move, [.const (.int .u8 0)], (some 2), none⟩])
 (.seq (.seqR [⟨.move, [.tmp 0], (some 3), none⟩,
 ⟨(.bin .or), [.tmp 3, .const (.int .u8 32)], (some 4), none⟩,
 ⟨.move, [.tmp 4], (some 2), none⟩])
 .ret)), [.tmp 2]⟩
theorem c30_ok : compFunc Tryd.prog Tryd.f30 = some c30 := by kernel_rfl
theorem c30_body : hasBody Tryd.prog 30 = true := hasBody_of Tryd.func30 (by kernel_rfl)
/-- internal/strconv.underscoreOK -/
def c31 : PFn := ⟨94, Tr.ofList (List.replicate 94 undefA), (.seq (.seqR [⟨.move, [.const (.bool false)], (some 2), none⟩])
 (.seq (.seqR [⟨.move, [.const (.int .i32 94)], (some 3), none⟩])
 (.seq (.seqR [⟨.move, [.const (.int .i64 0)], (some 4), none⟩])
 (.seq (.seq (.seqR [⟨.move, [.tmp 0], (some 6), none⟩,
 ⟨.lenStr, [.tmp 6], (some 7), none⟩,
 ⟨(.bin .geq), [.tmp 7, .const (.int .i64 1)], (some 8), none⟩,
 ⟨.move, [.tmp 8], (some 9), none⟩,
 ⟨.move, [.tmp 0], (some 10), some (9, true)⟩,
 ⟨.indexStr, [.tmp 10, .const (.int .i64 0)], (some 11), some (9, true)⟩,
 ⟨(.bin .eql), [.tmp 11, .const (.int .u8 45)], (some 12), some (9, true)⟩,
 ⟨.move, [.tmp 12], (some 13), some (9, true)⟩,
 ⟨.move, [.tmp 0], (some 14), some (13, false)⟩,
 ⟨.indexStr, [.tmp 14, .const (.int .i64 0)], (some 15), some (13, false)⟩,
 ⟨(.bin .eql), [.tmp 15, .const (.int .u8 43)], (some 16), some (13, false)⟩,
 ⟨.pick, [.tmp 13, .const (.bool true), .tmp 16], (some 17), some (9, true)⟩,
 ⟨.pick, [.tmp 9, .tmp 17, .const (.bool false)], (some 18), none⟩])
 (.cond (.tmp 18) (.seqR [⟨.move, [.tmp 0], (some 19), none⟩,
 ⟨(.sliceStr true false), [.tmp 19, .const (.int .i64 1)], (some 20), none⟩,
 ⟨.move, [.tmp 20], (some 0), none⟩])
 .skip))
 (.seq (.seqR [⟨.move, [.const (.bool false)], (some 5), none⟩])
 (.seq (.seq (.seqR [⟨.move, [.tmp 0], (some 21), none⟩,
 ⟨.lenStr, [.tmp 21], (some 22), none⟩,
 ⟨(.bin .geq), [.tmp 22, .const (.int .i64 2)], (some 23), none⟩,
 ⟨.move, [.tmp 23], (some 24), none⟩,
 ⟨.move, [.tmp 0], (some 25), some (24, true)⟩,
 ⟨.indexStr, [.tmp 25, .const (.int .i64 0)], (some 26), some (24, true)⟩,
 ⟨(.bin .eql), [.tmp 26, .const (.int .u8 48)], (some 27), some (24, true)⟩,
 ⟨.pick, [.tmp 24, .tmp 27, .const (.bool false)], (some 28), none⟩,
 ⟨.move, [.tmp 28], (some 29), none⟩,
 ⟨.move, [.tmp 0], (some 30), some (29, true)⟩,
 ⟨.indexStr, [.tmp 30, .const (.int .i64 1)], (some 31), some (29, true)⟩,
 ⟨(.callF 30), [.tmp 31], (some 32), some (29, true)⟩,
 ⟨(.bin .eql), [.tmp 32, .const (.int .u8 98)], (some 33), some (29, true)⟩,
 ⟨.move, [.tmp 33], (some 34), some (29, true)⟩,
 ⟨.move, [.tmp 0], (some 35), some (34, false)⟩,
 ⟨.indexStr, [.tmp 35, .const (.int .i64 1)], (some 36), some (34, false)⟩,
 ⟨(.callF 30), [.tmp 36], (some 37), some (34, false)⟩,
 ⟨(.bin .eql), [.tmp 37, .const (.int .u8 111)], (some 38), some (34, false)⟩,
 ⟨.pick, [.tmp 34, .const (.bool true), .tmp 38], (some 39), some (29, true)⟩,
 ⟨.move, [.tmp 39], (some 40), some (29, true)⟩,
 ⟨.move, [.tmp 0], (some 41), some (40, false)⟩,
 ⟨.indexStr, [.tmp 41, .const (.int .i64 1)], (some 42), some (40, false)⟩,
 ⟨(.callF 30), [.tmp 42], (some 43), some (40, false)⟩,
 ⟨(.bin .eql), [.tmp 43, .const (.int .u8 120)], (some 44), some (40, false)⟩,
 ⟨.pick, [.tmp 40, .const (.bool true), .tmp 44], (some 45), some (29, true)⟩,
 ⟨.pick, [.tmp 29, .tmp 45, .const (.bool false)], (some 46), none⟩])
 (.cond (.tmp 46) (.seq (.seqR [⟨.move, [.const (.int .i64 2)], (some 4), none⟩])
 (.seq (.seqR [⟨.move, [.const (.int .i32 48)], (some 3), none⟩])
 (.seqR [⟨.move, [.tmp 0], (some 47), none⟩,
 ⟨.indexStr, [.tmp 47, .const (.int .i64 1)], (some 48), none⟩,
 ⟨(.callF 30), [.tmp 48], (some 49), none⟩,
 ⟨(.bin .eql), [.tmp 49, .const (.int .u8 120)], (some 50), none⟩,
 ⟨.move, [.tmp 50], (some 5), none⟩])))
 .skip))
 (.seq (.block 0 (.loop (.seq (.seq (.seqR [⟨.move, [.tmp 4], (some 51), none⟩,
 ⟨.move, [.tmp 0], (some 52), none⟩,
 ⟨.lenStr, [.tmp 52], (some 53), none⟩,
 ⟨(.bin .lss), [.tmp 51, .tmp 53], (some 54), none⟩])
 (.cond (.tmp 54) .skip
 (.exit 0)))
 (.seq (.block 1 (.seq (.seq (.seqR [⟨.move, [.tmp 0], (some 57), none⟩,
 ⟨.move, [.tmp 4], (some 58), none⟩,
 ⟨.indexStr, [.tmp 57, .tmp 58], (some 59), none⟩,
 ⟨(.bin .leq), [.const (.int .u8 48), .tmp 59], (some 60), none⟩,
 ⟨.move, [.tmp 60], (some 61), none⟩,
 ⟨.move, [.tmp 0], (some 62), some (61, true)⟩,
 ⟨.move, [.tmp 4], (some 63), some (61, true)⟩,
 ⟨.indexStr, [.tmp 62, .tmp 63], (some 64), some (61, true)⟩,
 ⟨(.bin .leq), [.tmp 64, .const (.int .u8 57)], (some 65), some (61, true)⟩,
 ⟨.pick, [.tmp 61, .tmp 65, .const (.bool false)], (some 66), none⟩,
 ⟨.move, [.tmp 66], (some 67), none⟩,
 ⟨.move, [.tmp 5], (some 68), some (67, false)⟩,
 ⟨.move, [.tmp 68], (some 69), some (67, false)⟩,
 ⟨.move, [.tmp 0], (some 70), some (69, true)⟩,
 ⟨.move, [.tmp 4], (some 71), some (69, true)⟩,
 ⟨.indexStr, [.tmp 70, .tmp 71], (some 72), some (69, true)⟩,
 ⟨(.callF 30), [.tmp 72], (some 73), some (69, true)⟩,
 ⟨(.bin .leq), [.const (.int .u8 97), .tmp 73], (some 74), some (69, true)⟩,
 ⟨.pick, [.tmp 69, .tmp 74, .const (.bool false)], (some 75), some (67, false)⟩,
 ⟨.move, [.tmp 75], (some 76), some (67, false)⟩,
 ⟨.move, [.tmp 0], (some 77), some (76, true)⟩,
 ⟨.move, [.tmp 4], (some 78), some (76, true)⟩,
 ⟨.indexStr, [.tmp 77, .tmp 78], (some 79), some (76, true)⟩,
 ⟨(.callF 30), [.tmp 79], (some 80), some (76, true)⟩,
 ⟨(.bin .leq), [.tmp 80, .const (.int .u8 102)], (some 81), some (76, true)⟩,
 ⟨.pick, [.tmp 76, .tmp 81, .const (.bool false)], (some 82), some (67, false)⟩,
 ⟨.pick, [.tmp 67, .const (.bool true), .tmp 82], (some 83), none⟩])
 (.cond (.tmp 83) (.seq (.seqR [⟨.move, [.const (.int .i32 48)], (some 3), none⟩])
 (.exit 1))
 .skip))
 (.seq (.seq (.seqR [⟨.move, [.tmp 0], (some 84), none⟩,
 ⟨.move, [.tmp 4], (some 85), none⟩,
 ⟨.indexStr, [.tmp 84, .tmp 85], (some 86), none⟩,
 ⟨(.bin .eql), [.tmp 86, .const (.int .u8 95)], (some 87), none⟩])
 (.cond (.tmp 87) (.seq (.seq (.seqR [⟨.move, [.tmp 3], (some 88), none⟩,
 ⟨(.bin .neq), [.tmp 88, .const (.int .i32 48)], (some 89), none⟩])
 (.cond (.tmp 89) (.seq (.seqR [⟨.move, [.const (.bool false)], (some 2), none⟩])
 .ret)
 .skip))
 (.seq (.seqR [⟨.move, [.const (.int .i32 95)], (some 3), none⟩])
 (.exit 1)))
 .skip))
 (.seq (.seq (.seqR [⟨.move, [.tmp 3], (some 90), none⟩,
 ⟨(.bin .eql), [.tmp 90, .const (.int .i32 95)], (some 91), none⟩])
 (.cond (.tmp 91) (.seq (.seqR [⟨.move, [.const (.bool false)], (some 2), none⟩])
 .ret)
 .skip))
 (.seqR [⟨.move, [.const (.int .i32 33)], (some 3), none⟩])))))
 (.seqR [⟨.move, [.tmp 4], (some 55), none⟩,
 ⟨(.bin .add), [.tmp 55, .const (.int .i64 1)], (some 56), none⟩,
 ⟨.move, [.tmp 56], (some 4), none⟩])))))
 (.seq (.seqR [⟨.move, [.tmp 3], (some 92), none⟩,
 ⟨(.bin .neq), [.tmp 92, .const (.int .i32 95)], (some 93), none⟩,
 ⟨.move, [.tmp 93], (some 2), none⟩])
 .ret)))))))), [.tmp 2]⟩
theorem c31_ok : compFunc Tryd.prog Tryd.f31 = some c31 := by kernel_rfl
theorem c31_body : hasBody Tryd.prog 31 = true := hasBody_of Tryd.func31 (by kernel_rfl)
/-- strconv.syntaxError -/
def c32 : PFn := ⟨11, Tr.ofList (List.replicate 11 undefA), (.seq (.seqR [⟨.move, [.const (.ptr none)], (some 4), none⟩])
 (.seq (.drawR [⟨⟨.move, [.tmp 0], (some 5), none⟩, false, false, 0, 1⟩,
 ⟨⟨.move, [.tmp 1], (some 6), none⟩, false, false, 0, 0⟩,
 ⟨⟨(.callF 45), [.tmp 6], (some 7), none⟩, true, false, 0, 1⟩,
 ⟨⟨(.load false 1), [.const (.rptr (some ⟨0, 0, none⟩))], (some 8), none⟩, false, false, 0, 1⟩,
 ⟨⟨(.build [(.str ⟨#[]⟩), (.str ⟨#[]⟩), .nilIface] [(0, 1), (1, 1), (2, 1)]), [.tmp 5, .tmp 7, .tmp 8], (some 9), none⟩, false, false, 1, 1⟩,
 ⟨⟨.box, [.tmp 9], (some 10), none⟩, true, false, 1, 2⟩,
 ⟨⟨.move, [.tmp 10], (some 4), none⟩, false, false, 2, 2⟩])
 .ret)), [.tmp 4]⟩
theorem c32_ok : compFunc Tryd.prog Tryd.f32 = some c32 := by kernel_rfl
theorem c32_body : hasBody Tryd.prog 32 = true := hasBody_of Tryd.func32 (by kernel_rfl)
/-- strconv.rangeError -/
def c33 : PFn := ⟨11, Tr.ofList (List.replicate 11 undefA), (.seq (.seqR [⟨.move, [.const (.ptr none)], (some 4), none⟩])
 (.seq (.drawR [⟨⟨.move, [.tmp 0], (some 5), none⟩, false, false, 0, 1⟩,
 ⟨⟨.move, [.tmp 1], (some 6), none⟩, false, false, 0, 0⟩,
 ⟨⟨(.callF 45), [.tmp 6], (some 7), none⟩, true, false, 0, 1⟩,
 ⟨⟨(.load false 1), [.const (.rptr (some ⟨1, 0, none⟩))], (some 8), none⟩, false, false, 0, 1⟩,
 ⟨⟨(.build [(.str ⟨#[]⟩), (.str ⟨#[]⟩), .nilIface] [(0, 1), (1, 1), (2, 1)]), [.tmp 5, .tmp 7, .tmp 8], (some 9), none⟩, false, false, 1, 1⟩,
 ⟨⟨.box, [.tmp 9], (some 10), none⟩, true, false, 1, 2⟩,
 ⟨⟨.move, [.tmp 10], (some 4), none⟩, false, false, 2, 2⟩])
 .ret)), [.tmp 4]⟩
theorem c33_ok : compFunc Tryd.prog Tryd.f33 = some c33 := by kernel_rfl
theorem c33_body : hasBody Tryd.prog 33 = true := hasBody_of Tryd.func33 (by kernel_rfl)
/-- strconv.baseError -/
def c34 : PFn := ⟨16, Tr.ofList (List.replicate 16 undefA), (.seq (.seqR [⟨.move, [.const (.ptr none)], (some 6), none⟩])
 (.seq (.seqR [⟨.move, [.tmp 0], (some 7), none⟩,
 ⟨.move, [.tmp 1], (some 8), none⟩,
 ⟨(.callF 45), [.tmp 8], (some 9), none⟩,
 ⟨.move, [.tmp 2], (some 10), none⟩,
 ⟨(.callF 47), [.tmp 10], (some 11), none⟩,
 ⟨(.bin .add), [.const (.str ⟨#[105, 110, 118, 97, 108, 105, 100, 32, 98, 97, 115, 101, 32]⟩), .tmp 11], (some 12), none⟩,
 ⟨(.callF 46), [.tmp 12], (some 13), none⟩,
 ⟨(.build [(.str ⟨#[]⟩), (.str ⟨#[]⟩), .nilIface] [(0, 1), (1, 1), (2, 1)]), [.tmp 7, .tmp 9, .tmp 13], (some 14), none⟩,
 ⟨.box, [.tmp 14], (some 15), none⟩,
 ⟨.move, [.tmp 15], (some 6), none⟩])
 .ret)), [.tmp 6]⟩
theorem c34_ok : compFunc Tryd.prog Tryd.f34 = some c34 := by kernel_rfl
theorem c34_body : hasBody Tryd.prog 34 = true := hasBody_of Tryd.func34 (by kernel_rfl)
/-- strconv.bitSizeError -/
def c35 : PFn := ⟨16, Tr.ofList (List.replicate 16 undefA), (.seq (.seqR [⟨.move, [.const (.ptr none)], (some 6), none⟩])
 (.seq (.seqR [⟨.move, [.tmp 0], (some 7), none⟩,
 ⟨.move, [.tmp 1], (some 8), none⟩,
 ⟨(.callF 45), [.tmp 8], (some 9), none⟩,
 ⟨.move, [.tmp 2], (some 10), none⟩,
 ⟨(.callF 47), [.tmp 10], (some 11), none⟩,
 ⟨(.bin .add), [.const (.str ⟨#[105, 110, 118, 97, 108, 105, 100, 32, 98, 105, 116, 32, 115, 105, 122, 101, 32]⟩), .tmp 11], (some 12), none⟩,
 ⟨(.callF 46), [.tmp 12], (some 13), none⟩,
 ⟨(.build [(.str ⟨#[]⟩), (.str ⟨#[]⟩), .nilIface] [(0, 1), (1, 1), (2, 1)]), [.tmp 7, .tmp 9, .tmp 13], (some 14), none⟩,
 ⟨.box, [.tmp 14], (some 15), none⟩,
 ⟨.move, [.tmp 15], (some 6), none⟩])
 .ret)), [.tmp 6]⟩
theorem c35_ok : compFunc Tryd.prog Tryd.f35 = some c35 := by kernel_rfl
theorem c35_body : hasBody Tryd.prog 35 = true := hasBody_of Tryd.func35 (by kernel_rfl)
/-- internal/strconv.small -/
def c36 : PFn := ⟨15, Tr.ofList (List.replicate 15 undefA), (.seq (.seqR [⟨.move, [.const (.str ⟨#[]⟩)], (some 2), none⟩])
 (.seq (.seq (.seqR [⟨.move, [.tmp 0], (some 3), none⟩,
 ⟨(.bin .lss), [.tmp 3, .const (.int .i64 10)], (some 4), none⟩])
 (.cond (.tmp 4) (.seq (.seqR [⟨.move, [.tmp 0], (some 5), none⟩,
 ⟨.move, [.tmp 0], (some 6), none⟩,
 ⟨(.bin .add), [.tmp 6, .const (.int .i64 1)], (some 7), none⟩,
 ⟨(.sliceStr true true), [.const (.str ⟨#[48, 49, 50, 51, 52, 53, 54, 55, 56, 57, 97, 98, 99, 100, 101, 102, 103, 104, 105, 106, 107, 108, 109, 110, 111, 112, 113, 114, 115, 116, 117, 118, 119, 120, 121, 122]⟩), .tmp 5, .tmp 7], (some 8), none⟩,
 ⟨.move, [.tmp 8], (some 2), none⟩])
 .ret)
 .skip))
 (.seq (.seqR [⟨.move, [.tmp 0], (some 9), none⟩,
 ⟨(.bin .mul), [.tmp 9, .const (.int .i64 2)], (some 10), none⟩,
 ⟨.move, [.tmp 0], (some 11), none⟩,
 ⟨(.bin .mul), [.tmp 11, .const (.int .i64 2)], (some 12), none⟩,
 ⟨(.bin .add), [.tmp 12, .const (.int .i64 2)], (some 13), none⟩,
 ⟨(.sliceStr true true), [.const (.str ⟨#[48, 48, 48, 49, 48, 50, 48, 51, 48, 52, 48, 53, 48, 54, 48, 55, 48, 56, 48, 57, 49, 48, 49, 49, 49, 50, 49, 51, 49, 52, 49, 53, 49, 54, 49, 55, 49, 56, 49, 57, 50, 48, 50, 49, 50, 50, 50, 51, 50, 52, 50, 53, 50, 54, 50, 55, 50, 56, 50, 57, 51, 48, 51, 49, 51, 50, 51, 51, 51, 52, 51, 53, 51, 54, 51, 55, 51, 56, 51, 57, 52, 48, 52, 49, 52, 50, 52, 51, 52, 52, 52, 53, 52, 54, 52, 55, 52, 56, 52, 57, 53, 48, 53, 49, 53, 50, 53, 51, 53, 52, 53, 53, 53, 54, 53, 55, 53, 56, 53, 57, 54, 48, 54, 49, 54, 50, 54, 51, 54, 52, 54, 53, 54, 54, 54, 55, 54, 56, 54, 57, 55, 48, 55, 49, 55, 50, 55, 51, 55, 52, 55, 53, 55, 54, 55, 55, 55, 56, 55, 57, 56, 48, 56, 49, 56, 50, 56, 51, 56, 52, 56, 53, 56, 54, 56, 55, 56, 56, 56, 57, 57, 48, 57, 49, 57, 50, 57, 51, 57, 52, 57, 53, 57, 54, 57, 55, 57, 56, 57, 57]⟩), .tmp 10, .tmp 13], (some 14), none⟩,
 ⟨.move, [.tmp 14], (some 2), none⟩])
 .ret))), [.tmp 2]⟩
theorem c36_ok : compFunc Tryd.prog Tryd.f36 = some c36 := by kernel_rfl
theorem c36_body : hasBody Tryd.prog 36 = true := hasBody_of Tryd.func36 (by kernel_rfl)
/-- internal/strconv.numDigits -/
def c37 : PFn := ⟨15, Tr.ofList (List.replicate 15 undefA), (.seq (.seqR [⟨.move, [.const (.int .i64 0)], (some 2), none⟩])
 (.seq (.seqR [⟨.move, [.tmp 0], (some 4), none⟩,
 ⟨(.callF 49), [.tmp 4], (some 5), none⟩,
 ⟨(.callF 48), [.tmp 5], (some 6), none⟩,
 ⟨.move, [.tmp 6], (some 3), none⟩])
 (.seq (.seqR [⟨.move, [.tmp 3], (some 7), none⟩,
 ⟨.move, [.tmp 0], (some 8), none⟩,
 ⟨.move, [.tmp 3], (some 9), none⟩,
 ⟨(.indexAddrA 20 1), [.const (.rptr (some ⟨2, 0, none⟩)), .tmp 9], (some 10), none⟩,
 ⟨(.load false 1), [.tmp 10], (some 11), none⟩,
 ⟨(.bin .geq), [.tmp 8, .tmp 11], (some 12), none⟩,
 ⟨(.callF 50), [.tmp 12], (some 13), none⟩,
 ⟨(.bin .add), [.tmp 7, .tmp 13], (some 14), none⟩,
 ⟨.move, [.tmp 14], (some 2), none⟩])
 .ret))), [.tmp 2]⟩
theorem c37_ok : compFunc Tryd.prog Tryd.f37 = some c37 := by kernel_rfl
theorem c37_body : hasBody Tryd.prog 37 = true := hasBody_of Tryd.func37 (by kernel_rfl)
/-- internal/strconv.formatBase10 -/
def c38 : PFn := ⟨167, Tr.ofList (List.replicate 167 undefA), (.seq (.seqR [⟨.move, [.tmp 0], (some 17), none⟩,
 ⟨.lenS, [.tmp 17], (some 18), none⟩,
 ⟨.move, [.tmp 18], (some 4), none⟩])
 (.seq (.block 0 (.loop (.seq (.seq (.seqR [⟨.move, [.tmp 4], (some 19), none⟩,
 ⟨(.bin .geq), [.tmp 19, .const (.int .i64 8)], (some 20), none⟩])
 (.cond (.tmp 20) .skip
 (.exit 0)))
 (.block 1 (.seq (.seqR [⟨.move, [.tmp 1], (some 21), none⟩,
 ⟨(.bin .rem), [.tmp 21, .const (.int .u64 100000000)], (some 22), none⟩,
 ⟨(.conv .u32), [.tmp 22], (some 23), none⟩,
 ⟨.move, [.tmp 23], (some 5), none⟩])
 (.seq (.seqR [⟨.move, [.tmp 1], (some 24), none⟩,
 ⟨(.bin .quo), [.tmp 24, .const (.int .u64 100000000)], (some 25), none⟩,
 ⟨.move, [.tmp 25], (some 1), none⟩])
 (.seq (.seqR [⟨.move, [.tmp 5], (some 26), none⟩,
 ⟨(.bin .quo), [.tmp 26, .const (.int .u32 10000)], (some 27), none⟩,
 ⟨.move, [.tmp 5], (some 28), none⟩,
 ⟨(.bin .rem), [.tmp 28, .const (.int .u32 10000)], (some 29), none⟩,
 ⟨.move, [.tmp 27], (some 6), none⟩,
 ⟨.move, [.tmp 29], (some 7), none⟩])
 (.seq (.seqR [⟨.move, [.tmp 7], (some 30), none⟩,
 ⟨(.bin .quo), [.tmp 30, .const (.int .u32 100)], (some 31), none⟩,
 ⟨(.bin .mul), [.tmp 31, .const (.int .u32 2)], (some 32), none⟩,
 ⟨.move, [.tmp 7], (some 33), none⟩,
 ⟨(.bin .rem), [.tmp 33, .const (.int .u32 100)], (some 34), none⟩,
 ⟨(.bin .mul), [.tmp 34, .const (.int .u32 2)], (some 35), none⟩,
 ⟨.move, [.tmp 32], (some 8), none⟩,
 ⟨.move, [.tmp 35], (some 9), none⟩])
 (.seq (.seqR [⟨.move, [.tmp 6], (some 36), none⟩,
 ⟨(.bin .quo), [.tmp 36, .const (.int .u32 100)], (some 37), none⟩,
 ⟨(.bin .mul), [.tmp 37, .const (.int .u32 2)], (some 38), none⟩,
 ⟨.move, [.tmp 6], (some 39), none⟩,
 ⟨(.bin .rem), [.tmp 39, .const (.int .u32 100)], (some 40), none⟩,
 ⟨(.bin .mul), [.tmp 40, .const (.int .u32 2)], (some 41), none⟩,
 ⟨.move, [.tmp 38], (some 10), none⟩,
 ⟨.move, [.tmp 41], (some 11), none⟩])
 (.seq (.drawR [⟨⟨.move, [.tmp 0], (some 42), none⟩, false, false, 0, 0⟩,
 ⟨⟨.move, [.tmp 4], (some 43), none⟩, false, false, 0, 0⟩,
 ⟨⟨(.bin .sub), [.tmp 43, .const (.int .i64 1)], (some 44), none⟩, false, false, 0, 0⟩,
 ⟨⟨.move, [.tmp 0], (some 45), none⟩, false, false, 0, 1⟩,
 ⟨⟨.move, [.tmp 4], (some 46), none⟩, false, false, 0, 1⟩,
 ⟨⟨(.bin .sub), [.tmp 46, .const (.int .i64 2)], (some 47), none⟩, false, false, 0, 1⟩,
 ⟨⟨.move, [.tmp 9], (some 48), none⟩, false, false, 0, 0⟩,
 ⟨⟨(.bin .add), [.tmp 48, .const (.int .u32 1)], (some 49), none⟩, false, false, 0, 0⟩,
 ⟨⟨.indexStr, [.const (.str ⟨#[48, 48, 48, 49, 48, 50, 48, 51, 48, 52, 48, 53, 48, 54, 48, 55, 48, 56, 48, 57, 49, 48, 49, 49, 49, 50, 49, 51, 49, 52, 49, 53, 49, 54, 49, 55, 49, 56, 49, 57, 50, 48, 50, 49, 50, 50, 50, 51, 50, 52, 50, 53, 50, 54, 50, 55, 50, 56, 50, 57, 51, 48, 51, 49, 51, 50, 51, 51, 51, 52, 51, 53, 51, 54, 51, 55, 51, 56, 51, 57, 52, 48, 52, 49, 52, 50, 52, 51, 52, 52, 52, 53, 52, 54, 52, 55, 52, 56, 52, 57, 53, 48, 53, 49, 53, 50, 53, 51, 53, 52, 53, 53, 53, 54, 53, 55, 53, 56, 53, 57, 54, 48, 54, 49, 54, 50, 54, 51, 54, 52, 54, 53, 54, 54, 54, 55, 54, 56, 54, 57, 55, 48, 55, 49, 55, 50, 55, 51, 55, 52, 55, 53, 55, 54, 55, 55, 55, 56, 55, 57, 56, 48, 56, 49, 56, 50, 56, 51, 56, 52, 56, 53, 56, 54, 56, 55, 56, 56, 56, 57, 57, 48, 57, 49, 57, 50, 57, 51, 57, 52, 57, 53, 57, 54, 57, 55, 57, 56, 57, 57]⟩), .tmp 49], (some 50), none⟩, false, false, 0, 0⟩,
 ⟨⟨.move, [.tmp 9], (some 51), none⟩, false, false, 0, 1⟩,
 ⟨⟨.indexStr, [.const (.str ⟨#[48, 48, 48, 49, 48, 50, 48, 51, 48, 52, 48, 53, 48, 54, 48, 55, 48, 56, 48, 57, 49, 48, 49, 49, 49, 50, 49, 51, 49, 52, 49, 53, 49, 54, 49, 55, 49, 56, 49, 57, 50, 48, 50, 49, 50, 50, 50, 51, 50, 52, 50, 53, 50, 54, 50, 55, 50, 56, 50, 57, 51, 48, 51, 49, 51, 50, 51, 51, 51, 52, 51, 53, 51, 54, 51, 55, 51, 56, 51, 57, 52, 48, 52, 49, 52, 50, 52, 51, 52, 52, 52, 53, 52, 54, 52, 55, 52, 56, 52, 57, 53, 48, 53, 49, 53, 50, 53, 51, 53, 52, 53, 53, 53, 54, 53, 55, 53, 56, 53, 57, 54, 48, 54, 49, 54, 50, 54, 51, 54, 52, 54, 53, 54, 54, 54, 55, 54, 56, 54, 57, 55, 48, 55, 49, 55, 50, 55, 51, 55, 52, 55, 53, 55, 54, 55, 55, 55, 56, 55, 57, 56, 48, 56, 49, 56, 50, 56, 51, 56, 52, 56, 53, 56, 54, 56, 55, 56, 56, 56, 57, 57, 48, 57, 49, 57, 50, 57, 51, 57, 52, 57, 53, 57, 54, 57, 55, 57, 56, 57, 57]⟩), .tmp 51], (some 52), none⟩, false, false, 0, 1⟩,
 ⟨⟨(.indexAddrS 1), [.tmp 42, .tmp 44], (some 53), none⟩, false, false, 0, 0⟩,
 ⟨⟨(.store 1), [.tmp 53, .tmp 50], none, none⟩, true, false, 0, 1⟩,
 ⟨⟨(.indexAddrS 1), [.tmp 45, .tmp 47], (some 54), none⟩, false, false, 1, 1⟩,
 ⟨⟨(.store 1), [.tmp 54, .tmp 52], none, none⟩, true, false, 1, 2⟩])
 (.seq (.drawR [⟨⟨.move, [.tmp 0], (some 55), none⟩, false, false, 0, 0⟩,
 ⟨⟨.move, [.tmp 4], (some 56), none⟩, false, false, 0, 0⟩,
 ⟨⟨(.bin .sub), [.tmp 56, .const (.int .i64 3)], (some 57), none⟩, false, false, 0, 0⟩,
 ⟨⟨.move, [.tmp 0], (some 58), none⟩, false, false, 0, 1⟩,
 ⟨⟨.move, [.tmp 4], (some 59), none⟩, false, false, 0, 1⟩,
 ⟨⟨(.bin .sub), [.tmp 59, .const (.int .i64 4)], (some 60), none⟩, false, false, 0, 1⟩,
 ⟨⟨.move, [.tmp 8], (some 61), none⟩, false, false, 0, 0⟩,
 ⟨⟨(.bin .add), [.tmp 61, .const (.int .u32 1)], (some 62), none⟩, false, false, 0, 0⟩,
 ⟨⟨.indexStr, [.const (.str ⟨#[48, 48, 48, 49, 48, 50, 48, 51, 48, 52, 48, 53, 48, 54, 48, 55, 48, 56, 48, 57, 49, 48, 49, 49, 49, 50, 49, 51, 49, 52, 49, 53, 49, 54, 49, 55, 49, 56, 49, 57, 50, 48, 50, 49, 50, 50, 50, 51, 50, 52, 50, 53, 50, 54, 50, 55, 50, 56, 50, 57, 51, 48, 51, 49, 51, 50, 51, 51, 51, 52, 51, 53, 51, 54, 51, 55, 51, 56, 51, 57, 52, 48, 52, 49, 52, 50, 52, 51, 52, 52, 52, 53, 52, 54, 52, 55, 52, 56, 52, 57, 53, 48, 53, 49, 53, 50, 53, 51, 53, 52, 53, 53, 53, 54, 53, 55, 53, 56, 53, 57, 54, 48, 54, 49, 54, 50, 54, 51, 54, 52, 54, 53, 54, 54, 54, 55, 54, 56, 54, 57, 55, 48, 55, 49, 55, 50, 55, 51, 55, 52, 55, 53, 55, 54, 55, 55, 55, 56, 55, 57, 56, 48, 56, 49, 56, 50, 56, 51, 56, 52, 56, 53, 56, 54, 56, 55, 56, 56, 56, 57, 57, 48, 57, 49, 57, 50, 57, 51, 57, 52, 57, 53, 57, 54, 57, 55, 57, 56, 57, 57]⟩), .tmp 62], (some 63), none⟩, false, false, 0, 0⟩,
 ⟨⟨.move, [.tmp 8], (some 64), none⟩, false, false, 0, 1⟩,
 ⟨⟨.indexStr, [.const (.str ⟨#[48, 48, 48, 49, 48, 50, 48, 51, 48, 52, 48, 53, 48, 54, 48, 55, 48, 56, 48, 57, 49, 48, 49, 49, 49, 50, 49, 51, 49, 52, 49, 53, 49, 54, 49, 55, 49, 56, 49, 57, 50, 48, 50, 49, 50, 50, 50, 51, 50, 52, 50, 53, 50, 54, 50, 55, 50, 56, 50, 57, 51, 48, 51, 49, 51, 50, 51, 51, 51, 52, 51, 53, 51, 54, 51, 55, 51, 56, 51, 57, 52, 48, 52, 49, 52, 50, 52, 51, 52, 52, 52, 53, 52, 54, 52, 55, 52, 56, 52, 57, 53, 48, 53, 49, 53, 50, 53, 51, 53, 52, 53, 53, 53, 54, 53, 55, 53, 56, 53, 57, 54, 48, 54, 49, 54, 50, 54, 51, 54, 52, 54, 53, 54, 54, 54, 55, 54, 56, 54, 57, 55, 48, 55, 49, 55, 50, 55, 51, 55, 52, 55, 53, 55, 54, 55, 55, 55, 56, 55, 57, 56, 48, 56, 49, 56, 50, 56, 51, 56, 52, 56, 53, 56, 54, 56, 55, 56, 56, 56, 57, 57, 48, 57, 49, 57, 50, 57, 51, 57, 52, 57, 53, 57, 54, 57, 55, 57, 56, 57, 57]⟩), .tmp 64], (some 65), none⟩, false, false, 0, 1⟩,
 ⟨⟨(.indexAddrS 1), [.tmp 55, .tmp 57], (some 66), none⟩, false, false, 0, 0⟩,
 ⟨⟨(.store 1), [.tmp 66, .tmp 63], none, none⟩, true, false, 0, 1⟩,
 ⟨⟨(.indexAddrS 1), [.tmp 58, .tmp 60], (some 67), none⟩, false, false, 1, 1⟩,
 ⟨⟨(.store 1), [.tmp 67, .tmp 65], none, none⟩, true, false, 1, 2⟩])
 (.seq (.drawR [⟨⟨.move, [.tmp 0], (some 68), none⟩, false, false, 0, 0⟩,
 ⟨⟨.move, [.tmp 4], (some 69), none⟩, false, false, 0, 0⟩,
 ⟨⟨(.bin .sub), [.tmp 69, .const (.int .i64 5)], (some 70), none⟩, false, false, 0, 0⟩,
 ⟨⟨.move, [.tmp 0], (some 71), none⟩, false, false, 0, 1⟩,
 ⟨⟨.move, [.tmp 4], (some 72), none⟩, false, false, 0, 1⟩,
 ⟨⟨(.bin .sub), [.tmp 72, .const (.int .i64 6)], (some 73), none⟩, false, false, 0, 1⟩,
 ⟨⟨.move, [.tmp 11], (some 74), none⟩, false, false, 0, 0⟩,
 ⟨⟨(.bin .add), [.tmp 74, .const (.int .u32 1)], (some 75), none⟩, false, false, 0, 0⟩,
 ⟨⟨.indexStr, [.const (.str ⟨#[48, 48, 48, 49, 48, 50, 48, 51, 48, 52, 48, 53, 48, 54, 48, 55, 48, 56, 48, 57, 49, 48, 49, 49, 49, 50, 49, 51, 49, 52, 49, 53, 49, 54, 49, 55, 49, 56, 49, 57, 50, 48, 50, 49, 50, 50, 50, 51, 50, 52, 50, 53, 50, 54, 50, 55, 50, 56, 50, 57, 51, 48, 51, 49, 51, 50, 51, 51, 51, 52, 51, 53, 51, 54, 51, 55, 51, 56, 51, 57, 52, 48, 52, 49, 52, 50, 52, 51, 52, 52, 52, 53, 52, 54, 52, 55, 52, 56, 52, 57, 53, 48, 53, 49, 53, 50, 53, 51, 53, 52, 53, 53, 53, 54, 53, 55, 53, 56, 53, 57, 54, 48, 54, 49, 54, 50, 54, 51, 54, 52, 54, 53, 54, 54, 54, 55, 54, 56, 54, 57, 55, 48, 55, 49, 55, 50, 55, 51, 55, 52, 55, 53, 55, 54, 55, 55, 55, 56, 55, 57, 56, 48, 56, 49, 56, 50, 56, 51, 56, 52, 56, 53, 56, 54, 56, 55, 56, 56, 56, 57, 57, 48, 57, 49, 57, 50, 57, 51, 57, 52, 57, 53, 57, 54, 57, 55, 57, 56, 57, 57]⟩), .tmp 75], (some 76), none⟩, false, false, 0, 0⟩,
 ⟨⟨.move, [.tmp 11], (some 77), none⟩, false, false, 0, 1⟩,
 ⟨⟨.indexStr, [.const (.str ⟨#[48, 48, 48, 49, 48, 50, 48, 51, 48, 52, 48, 53, 48, 54, 48, 55, 48, 56, 48, 57, 49, 48, 49, 49, 49, 50, 49, 51, 49, 52, 49, 53, 49, 54, 49, 55, 49, 56, 49, 57, 50, 48, 50, 49, 50, 50, 50, 51, 50, 52, 50, 53, 50, 54, 50, 55, 50, 56, 50, 57, 51, 48, 51, 49, 51, 50, 51, 51, 51, 52, 51, 53, 51, 54, 51, 55, 51, 56, 51, 57, 52, 48, 52, 49, 52, 50, 52, 51, 52, 52, 52, 53, 52, 54, 52, 55, 52, 56, 52, 57, 53, 48, 53, 49, 53, 50, 53, 51, 53, 52, 53, 53, 53, 54, 53, 55, 53, 56, 53, 57, 54, 48, 54, 49, 54, 50, 54, 51, 54, 52, 54, 53, 54, 54, 54, 55, 54, 56, 54, 57, 55, 48, 55, 49, 55, 50, 55, 51, 55, 52, 55, 53, 55, 54, 55, 55, 55, 56, 55, 57, 56, 48, 56, 49, 56, 50, 56, 51, 56, 52, 56, 53, 56, 54, 56, 55, 56, 56, 56, 57, 57, 48, 57, 49, 57, 50, 57, 51, 57, 52, 57, 53, 57, 54, 57, 55, 57, 56, 57, 57]⟩), .tmp 77], (some 78), none⟩, false, false, 0, 1⟩,
 ⟨⟨(.indexAddrS 1), [.tmp 68, .tmp 70], (some 79), none⟩, false, false, 0, 0⟩,
 ⟨⟨(.store 1), [.tmp 79, .tmp 76], none, none⟩, true, false, 0, 1⟩,
 ⟨⟨(.indexAddrS 1), [.tmp 71, .tmp 73], (some 80), none⟩, false, false, 1, 1⟩,
 ⟨⟨(.store 1), [.tmp 80, .tmp 78], none, none⟩, true, false, 1, 2⟩])
 (.seq (.drawR [⟨⟨.move, [.tmp 0], (some 81), none⟩, false, false, 0, 0⟩,
 ⟨⟨.move, [.tmp 4], (some 82), none⟩, false, false, 0, 0⟩,
 ⟨⟨(.bin .sub), [.tmp 82, .const (.int .i64 7)], (some 83), none⟩, false, false, 0, 0⟩,
 ⟨⟨.move, [.tmp 0], (some 84), none⟩, false, false, 0, 1⟩,
 ⟨⟨.move, [.tmp 4], (some 85), none⟩, false, false, 0, 1⟩,
 ⟨⟨(.bin .sub), [.tmp 85, .const (.int .i64 8)], (some 86), none⟩, false, false, 0, 1⟩,
 ⟨⟨.move, [.tmp 10], (some 87), none⟩, false, false, 0, 0⟩,
 ⟨⟨(.bin .add), [.tmp 87, .const (.int .u32 1)], (some 88), none⟩, false, false, 0, 0⟩,
 ⟨⟨.indexStr, [.const (.str ⟨#[48, 48, 48, 49, 48, 50, 48, 51, 48, 52, 48, 53, 48, 54, 48, 55, 48, 56, 48, 57, 49, 48, 49, 49, 49, 50, 49, 51, 49, 52, 49, 53, 49, 54, 49, 55, 49, 56, 49, 57, 50, 48, 50, 49, 50, 50, 50, 51, 50, 52, 50, 53, 50, 54, 50, 55, 50, 56, 50, 57, 51, 48, 51, 49, 51, 50, 51, 51, 51, 52, 51, 53, 51, 54, 51, 55, 51, 56, 51, 57, 52, 48, 52, 49, 52, 50, 52, 51, 52, 52, 52, 53, 52, 54, 52, 55, 52, 56, 52, 57, 53, 48, 53, 49, 53, 50, 53, 51, 53, 52, 53, 53, 53, 54, 53, 55, 53, 56, 53, 57, 54, 48, 54, 49, 54, 50, 54, 51, 54, 52, 54, 53, 54, 54, 54, 55, 54, 56, 54, 57, 55, 48, 55, 49, 55, 50, 55, 51, 55, 52, 55, 53, 55, 54, 55, 55, 55, 56, 55, 57, 56, 48, 56, 49, 56, 50, 56, 51, 56, 52, 56, 53, 56, 54, 56, 55, 56, 56, 56, 57, 57, 48, 57, 49, 57, 50, 57, 51, 57, 52, 57, 53, 57, 54, 57, 55, 57, 56, 57, 57]⟩), .tmp 88], (some 89), none⟩, false, false, 0, 0⟩,
 ⟨⟨.move, [.tmp 10], (some 90), none⟩, false, false, 0, 1⟩,
 ⟨⟨.indexStr, [.const (.str ⟨#[48, 48, 48, 49, 48, 50, 48, 51, 48, 52, 48, 53, 48, 54, 48, 55, 48, 56, 48, 57, 49, 48, 49, 49, 49, 50, 49, 51, 49, 52, 49, 53, 49, 54, 49, 55, 49, 56, 49, 57, 50, 48, 50, 49, 50, 50, 50, 51, 50, 52, 50, 53, 50, 54, 50, 55, 50, 56, 50, 57, 51, 48, 51, 49, 51, 50, 51, 51, 51, 52, 51, 53, 51, 54, 51, 55, 51, 56, 51, 57, 52, 48, 52, 49, 52, 50, 52, 51, 52, 52, 52, 53, 52, 54, 52, 55, 52, 56, 52, 57, 53, 48, 53, 49, 53, 50, 53, 51, 53, 52, 53, 53, 53, 54, 53, 55, 53, 56, 53, 57, 54, 48, 54, 49, 54, 50, 54, 51, 54, 52, 54, 53, 54, 54, 54, 55, 54, 56, 54, 57, 55, 48, 55, 49, 55, 50, 55, 51, 55, 52, 55, 53, 55, 54, 55, 55, 55, 56, 55, 57, 56, 48, 56, 49, 56, 50, 56, 51, 56, 52, 56, 53, 56, 54, 56, 55, 56, 56, 56, 57, 57, 48, 57, 49, 57, 50, 57, 51, 57, 52, 57, 53, 57, 54, 57, 55, 57, 56, 57, 57]⟩), .tmp 90], (some 91), none⟩, false, false, 0, 1⟩,
 ⟨⟨(.indexAddrS 1), [.tmp 81, .tmp 83], (some 92), none⟩, false, false, 0, 0⟩,
 ⟨⟨(.store 1), [.tmp 92, .tmp 89], none, none⟩, true, false, 0, 1⟩,
 ⟨⟨(.indexAddrS 1), [.tmp 84, .tmp 86], (some 93), none⟩, false, false, 1, 1⟩,
 ⟨⟨(.store 1), [.tmp 93, .tmp 91], none, none⟩, true, false, 1, 2⟩])
 (.seqR [⟨.move, [.tmp 4], (some 94), none⟩,
 ⟨(.bin .sub), [.tmp 94, .const (.int .i64 8)], (some 95), none⟩,
 ⟨.move, [.tmp 95], (some 4), none⟩]))))))))))))))
 (.seq (.seqR [⟨.move, [.tmp 1], (some 96), none⟩,
 ⟨(.conv .u32), [.tmp 96], (some 97), none⟩,
 ⟨.move, [.tmp 97], (some 12), none⟩])
 (.seq (.seq (.seqR [⟨.move, [.tmp 4], (some 98), none⟩,
 ⟨(.bin .geq), [.tmp 98, .const (.int .i64 4)], (some 99), none⟩])
 (.cond (.tmp 99) (.seq (.seqR [⟨.move, [.tmp 12], (some 100), none⟩,
 ⟨(.bin .rem), [.tmp 100, .const (.int .u32 10000)], (some 101), none⟩,
 ⟨.move, [.tmp 101], (some 13), none⟩])
 (.seq (.seqR [⟨.move, [.tmp 12], (some 102), none⟩,
 ⟨(.bin .quo), [.tmp 102, .const (.int .u32 10000)], (some 103), none⟩,
 ⟨.move, [.tmp 103], (some 12), none⟩])
 (.seq (.seqR [⟨.move, [.tmp 13], (some 104), none⟩,
 ⟨(.bin .quo), [.tmp 104, .const (.int .u32 100)], (some 105), none⟩,
 ⟨(.bin .mul), [.tmp 105, .const (.int .u32 2)], (some 106), none⟩,
 ⟨.move, [.tmp 13], (some 107), none⟩,
 ⟨(.bin .rem), [.tmp 107, .const (.int .u32 100)], (some 108), none⟩,
 ⟨(.bin .mul), [.tmp 108, .const (.int .u32 2)], (some 109), none⟩,
 ⟨.move, [.tmp 106], (some 14), none⟩,
 ⟨.move, [.tmp 109], (some 15), none⟩])
 (.seq (.drawR [⟨⟨.move, [.tmp 0], (some 110), none⟩, false, false, 0, 0⟩,
 ⟨⟨.move, [.tmp 4], (some 111), none⟩, false, false, 0, 0⟩,
 ⟨⟨(.bin .sub), [.tmp 111, .const (.int .i64 1)], (some 112), none⟩, false, false, 0, 0⟩,
 ⟨⟨.move, [.tmp 0], (some 113), none⟩, false, false, 0, 1⟩,
 ⟨⟨.move, [.tmp 4], (some 114), none⟩, false, false, 0, 1⟩,
 ⟨⟨(.bin .sub), [.tmp 114, .const (.int .i64 2)], (some 115), none⟩, false, false, 0, 1⟩,
 ⟨⟨.move, [.tmp 15], (some 116), none⟩, false, false, 0, 0⟩,
 ⟨⟨(.bin .add), [.tmp 116, .const (.int .u32 1)], (some 117), none⟩, false, false, 0, 0⟩,
 ⟨⟨.indexStr, [.const (.str ⟨#[48, 48, 48, 49, 48, 50, 48, 51, 48, 52, 48, 53, 48, 54, 48, 55, 48, 56, 48, 57, 49, 48, 49, 49, 49, 50, 49, 51, 49, 52, 49, 53, 49, 54, 49, 55, 49, 56, 49, 57, 50, 48, 50, 49, 50, 50, 50, 51, 50, 52, 50, 53, 50, 54, 50, 55, 50, 56, 50, 57, 51, 48, 51, 49, 51, 50, 51, 51, 51, 52, 51, 53, 51, 54, 51, 55, 51, 56, 51, 57, 52, 48, 52, 49, 52, 50, 52, 51, 52, 52, 52, 53, 52, 54, 52, 55, 52, 56, 52, 57, 53, 48, 53, 49, 53, 50, 53, 51, 53, 52, 53, 53, 53, 54, 53, 55, 53, 56, 53, 57, 54, 48, 54, 49, 54, 50, 54, 51, 54, 52, 54, 53, 54, 54, 54, 55, 54, 56, 54, 57, 55, 48, 55, 49, 55, 50, 55, 51, 55, 52, 55, 53, 55, 54, 55, 55, 55, 56, 55, 57, 56, 48, 56, 49, 56, 50, 56, 51, 56, 52, 56, 53, 56, 54, 56, 55, 56, 56, 56, 57, 57, 48, 57, 49, 57, 50, 57, 51, 57, 52, 57, 53, 57, 54, 57, 55, 57, 56, 57, 57]⟩), .tmp 117], (some 118), none⟩, false, false, 0, 0⟩,
 ⟨⟨.move, [.tmp 15], (some 119), none⟩, false, false, 0, 1⟩,
 ⟨⟨.indexStr, [.const (.str ⟨#[48, 48, 48, 49, 48, 50, 48, 51, 48, 52, 48, 53, 48, 54, 48, 55, 48, 56, 48, 57, 49, 48, 49, 49, 49, 50, 49, 51, 49, 52, 49, 53, 49, 54, 49, 55, 49, 56, 49, 57, 50, 48, 50, 49, 50, 50, 50, 51, 50, 52, 50, 53, 50, 54, 50, 55, 50, 56, 50, 57, 51, 48, 51, 49, 51, 50, 51, 51, 51, 52, 51, 53, 51, 54, 51, 55, 51, 56, 51, 57, 52, 48, 52, 49, 52, 50, 52, 51, 52, 52, 52, 53, 52, 54, 52, 55, 52, 56, 52, 57, 53, 48, 53, 49, 53, 50, 53, 51, 53, 52, 53, 53, 53, 54, 53, 55, 53, 56, 53, 57, 54, 48, 54, 49, 54, 50, 54, 51, 54, 52, 54, 53, 54, 54, 54, 55, 54, 56, 54, 57, 55, 48, 55, 49, 55, 50, 55, 51, 55, 52, 55, 53, 55, 54, 55, 55, 55, 56, 55, 57, 56, 48, 56, 49, 56, 50, 56, 51, 56, 52, 56, 53, 56, 54, 56, 55, 56, 56, 56, 57, 57, 48, 57, 49, 57, 50, 57, 51, 57, 52, 57, 53, 57, 54, 57, 55, 57, 56, 57, 57]⟩), .tmp 119], (some 120), none⟩, false, false, 0, 1⟩,
 ⟨⟨(.indexAddrS 1), [.tmp 110, .tmp 112], (some 121), none⟩, false, false, 0, 0⟩,
 ⟨⟨(.store 1), [.tmp 121, .tmp 118], none, none⟩, true, false, 0, 1⟩,
 ⟨⟨(.indexAddrS 1), [.tmp 113, .tmp 115], (some 122), none⟩, false, false, 1, 1⟩,
 ⟨⟨(.store 1), [.tmp 122, .tmp 120], none, none⟩, true, false, 1, 2⟩])
 (.seq (.drawR [⟨⟨.move, [.tmp 0], (some 123), none⟩, false, false, 0, 0⟩,
 ⟨⟨.move, [.tmp 4], (some 124), none⟩, false, false, 0, 0⟩,
 ⟨⟨(.bin .sub), [.tmp 124, .const (.int .i64 3)], (some 125), none⟩, false, false, 0, 0⟩,
 ⟨⟨.move, [.tmp 0], (some 126), none⟩, false, false, 0, 1⟩,
 ⟨⟨.move, [.tmp 4], (some 127), none⟩, false, false, 0, 1⟩,
 ⟨⟨(.bin .sub), [.tmp 127, .const (.int .i64 4)], (some 128), none⟩, false, false, 0, 1⟩,
 ⟨⟨.move, [.tmp 14], (some 129), none⟩, false, false, 0, 0⟩,
 ⟨⟨(.bin .add), [.tmp 129, .const (.int .u32 1)], (some 130), none⟩, false, false, 0, 0⟩,
 ⟨⟨.indexStr, [.const (.str ⟨#[48, 48, 48, 49, 48, 50, 48, 51, 48, 52, 48, 53, 48, 54, 48, 55, 48, 56, 48, 57, 49, 48, 49, 49, 49, 50, 49, 51, 49, 52, 49, 53, 49, 54, 49, 55, 49, 56, 49, 57, 50, 48, 50, 49, 50, 50, 50, 51, 50, 52, 50, 53, 50, 54, 50, 55, 50, 56, 50, 57, 51, 48, 51, 49, 51, 50, 51, 51, 51, 52, 51, 53, 51, 54, 51, 55, 51, 56, 51, 57, 52, 48, 52, 49, 52, 50, 52, 51, 52, 52, 52, 53, 52, 54, 52, 55, 52, 56, 52, 57, 53, 48, 53, 49, 53, 50, 53, 51, 53, 52, 53, 53, 53, 54, 53, 55, 53, 56, 53, 57, 54, 48, 54, 49, 54, 50, 54, 51, 54, 52, 54, 53, 54, 54, 54, 55, 54, 56, 54, 57, 55, 48, 55, 49, 55, 50, 55, 51, 55, 52, 55, 53, 55, 54, 55, 55, 55, 56, 55, 57, 56, 48, 56, 49, 56, 50, 56, 51, 56, 52, 56, 53, 56, 54, 56, 55, 56, 56, 56, 57, 57, 48, 57, 49, 57, 50, 57, 51, 57, 52, 57, 53, 57, 54, 57, 55, 57, 56, 57, 57]⟩), .tmp 130], (some 131), none⟩, false, false, 0, 0⟩,
 ⟨⟨.move, [.tmp 14], (some 132), none⟩, false, false, 0, 1⟩,
 ⟨⟨.indexStr, [.const (.str ⟨#[48, 48, 48, 49, 48, 50, 48, 51, 48, 52, 48, 53, 48, 54, 48, 55, 48, 56, 48, 57, 49, 48, 49, 49, 49, 50, 49, 51, 49, 52, 49, 53, 49, 54, 49, 55, 49, 56, 49, 57, 50, 48, 50, 49, 50, 50, 50, 51, 50, 52, 50, 53, 50, 54, 50, 55, 50, 56, 50, 57, 51, 48, 51, 49, 51, 50, 51, 51, 51, 52, 51, 53, 51, 54, 51, 55, 51, 56, 51, 57, 52, 48, 52, 49, 52, 50, 52, 51, 52, 52, 52, 53, 52, 54, 52, 55, 52, 56, 52, 57, 53, 48, 53, 49, 53, 50, 53, 51, 53, 52, 53, 53, 53, 54, 53, 55, 53, 56, 53, 57, 54, 48, 54, 49, 54, 50, 54, 51, 54, 52, 54, 53, 54, 54, 54, 55, 54, 56, 54, 57, 55, 48, 55, 49, 55, 50, 55, 51, 55, 52, 55, 53, 55, 54, 55, 55, 55, 56, 55, 57, 56, 48, 56, 49, 56, 50, 56, 51, 56, 52, 56, 53, 56, 54, 56, 55, 56, 56, 56, 57, 57, 48, 57, 49, 57, 50, 57, 51, 57, 52, 57, 53, 57, 54, 57, 55, 57, 56, 57, 57]⟩), .tmp 132], (some 133), none⟩, false, false, 0, 1⟩,
 ⟨⟨(.indexAddrS 1), [.tmp 123, .tmp 125], (some 134), none⟩, false, false, 0, 0⟩,
 ⟨⟨(.store 1), [.tmp 134, .tmp 131], none, none⟩, true, false, 0, 1⟩,
 ⟨⟨(.indexAddrS 1), [.tmp 126, .tmp 128], (some 135), none⟩, false, false, 1, 1⟩,
 ⟨⟨(.store 1), [.tmp 135, .tmp 133], none, none⟩, true, false, 1, 2⟩])
 (.seqR [⟨.move, [.tmp 4], (some 136), none⟩,
 ⟨(.bin .sub), [.tmp 136, .const (.int .i64 4)], (some 137), none⟩,
 ⟨.move, [.tmp 137], (some 4), none⟩]))))))
 .skip))
 (.seq (.seq (.seqR [⟨.move, [.tmp 4], (some 138), none⟩,
 ⟨(.bin .geq), [.tmp 138, .const (.int .i64 2)], (some 139), none⟩])
 (.cond (.tmp 139) (.seq (.seqR [⟨.move, [.tmp 12], (some 140), none⟩,
 ⟨(.bin .rem), [.tmp 140, .const (.int .u32 100)], (some 141), none⟩,
 ⟨(.bin .mul), [.tmp 141, .const (.int .u32 2)], (some 142), none⟩,
 ⟨.move, [.tmp 142], (some 16), none⟩])
 (.seq (.seqR [⟨.move, [.tmp 12], (some 143), none⟩,
 ⟨(.bin .quo), [.tmp 143, .const (.int .u32 100)], (some 144), none⟩,
 ⟨.move, [.tmp 144], (some 12), none⟩])
 (.seq (.drawR [⟨⟨.move, [.tmp 0], (some 145), none⟩, false, false, 0, 0⟩,
 ⟨⟨.move, [.tmp 4], (some 146), none⟩, false, false, 0, 0⟩,
 ⟨⟨(.bin .sub), [.tmp 146, .const (.int .i64 1)], (some 147), none⟩, false, false, 0, 0⟩,
 ⟨⟨.move, [.tmp 0], (some 148), none⟩, false, false, 0, 1⟩,
 ⟨⟨.move, [.tmp 4], (some 149), none⟩, false, false, 0, 1⟩,
 ⟨⟨(.bin .sub), [.tmp 149, .const (.int .i64 2)], (some 150), none⟩, false, false, 0, 1⟩,
 ⟨⟨.move, [.tmp 16], (some 151), none⟩, false, false, 0, 0⟩,
 ⟨⟨(.bin .add), [.tmp 151, .const (.int .u32 1)], (some 152), none⟩, false, false, 0, 0⟩,
 ⟨⟨.indexStr, [.const (.str ⟨#[48, 48, 48, 49, 48, 50, 48, 51, 48, 52, 48, 53, 48, 54, 48, 55, 48, 56, 48, 57, 49, 48, 49, 49, 49, 50, 49, 51, 49, 52, 49, 53, 49, 54, 49, 55, 49, 56, 49, 57, 50, 48, 50, 49, 50, 50, 50, 51, 50, 52, 50, 53, 50, 54, 50, 55, 50, 56, 50, 57, 51, 48, 51, 49, 51, 50, 51, 51, 51, 52, 51, 53, 51, 54, 51, 55, 51, 56, 51, 57, 52, 48, 52, 49, 52, 50, 52, 51, 52, 52, 52, 53, 52, 54, 52, 55, 52, 56, 52, 57, 53, 48, 53, 49, 53, 50, 53, 51, 53, 52, 53, 53, 53, 54, 53, 55, 53, 56, 53, 57, 54, 48, 54, 49, 54, 50, 54, 51, 54, 52, 54, 53, 54, 54, 54, 55, 54, 56, 54, 57, 55, 48, 55, 49, 55, 50, 55, 51, 55, 52, 55, 53, 55, 54, 55, 55, 55, 56, 55, 57, 56, 48, 56, 49, 56, 50, 56, 51, 56, 52, 56, 53, 56, 54, 56, 55, 56, 56, 56, 57, 57, 48, 57, 49, 57, 50, 57, 51, 57, 52, 57, 53, 57, 54, 57, 55, 57, 56, 57, 57]⟩), .tmp 152], (some 153), none⟩, false, false, 0, 0⟩,
 ⟨⟨.move, [.tmp 16], (some 154), none⟩, false, false, 0, 1⟩,
 ⟨⟨.indexStr, [.const (.str ⟨#[48, 48, 48, 49, 48, 50, 48, 51, 48, 52, 48, 53, 48, 54, 48, 55, 48, 56, 48, 57, 49, 48, 49, 49, 49, 50, 49, 51, 49, 52, 49, 53, 49, 54, 49, 55, 49, 56, 49, 57, 50, 48, 50, 49, 50, 50, 50, 51, 50, 52, 50, 53, 50, 54, 50, 55, 50, 56, 50, 57, 51, 48, 51, 49, 51, 50, 51, 51, 51, 52, 51, 53, 51, 54, 51, 55, 51, 56, 51, 57, 52, 48, 52, 49, 52, 50, 52, 51, 52, 52, 52, 53, 52, 54, 52, 55, 52, 56, 52, 57, 53, 48, 53, 49, 53, 50, 53, 51, 53, 52, 53, 53, 53, 54, 53, 55, 53, 56, 53, 57, 54, 48, 54, 49, 54, 50, 54, 51, 54, 52, 54, 53, 54, 54, 54, 55, 54, 56, 54, 57, 55, 48, 55, 49, 55, 50, 55, 51, 55, 52, 55, 53, 55, 54, 55, 55, 55, 56, 55, 57, 56, 48, 56, 49, 56, 50, 56, 51, 56, 52, 56, 53, 56, 54, 56, 55, 56, 56, 56, 57, 57, 48, 57, 49, 57, 50, 57, 51, 57, 52, 57, 53, 57, 54, 57, 55, 57, 56, 57, 57]⟩), .tmp 154], (some 155), none⟩, false, false, 0, 1⟩,
 ⟨⟨(.indexAddrS 1), [.tmp 145, .tmp 147], (some 156), none⟩, false, false, 0, 0⟩,
 ⟨⟨(.store 1), [.tmp 156, .tmp 153], none, none⟩, true, false, 0, 1⟩,
 ⟨⟨(.indexAddrS 1), [.tmp 148, .tmp 150], (some 157), none⟩, false, false, 1, 1⟩,
 ⟨⟨(.store 1), [.tmp 157, .tmp 155], none, none⟩, true, false, 1, 2⟩])
 (.seqR [⟨.move, [.tmp 4], (some 158), none⟩,
 ⟨(.bin .sub), [.tmp 158, .const (.int .i64 2)], (some 159), none⟩,
 ⟨.move, [.tmp 159], (some 4), none⟩]))))
 .skip))
 (.seq (.seqR [⟨.move, [.tmp 4], (some 160), none⟩,
 ⟨(.bin .gtr), [.tmp 160, .const (.int .i64 0)], (some 161), none⟩])
 (.cond (.tmp 161) (.seqR [⟨.move, [.tmp 0], (some 162), none⟩,
 ⟨.move, [.tmp 12], (some 163), none⟩,
 ⟨(.bin .add), [.const (.int .u32 48), .tmp 163], (some 164), none⟩,
 ⟨(.conv .u8), [.tmp 164], (some 165), none⟩,
 ⟨(.indexAddrS 1), [.tmp 162, .const (.int .i64 0)], (some 166), none⟩,
 ⟨(.store 1), [.tmp 166, .tmp 165], none, none⟩])
 .skip))))))), []⟩
theorem c38_ok : compFunc Tryd.prog Tryd.f38 = some c38 := by kernel_rfl
theorem c38_body : hasBody Tryd.prog 38 = true := hasBody_of Tryd.func38 (by kernel_rfl)
/-- internal/strconv.formatBits -/
def c39 : PFn := ⟨102, Tr.ofList (List.replicate 102 undefA), (.seq (.seqR [⟨.move, [.const (.slice none 0 0 false)], (some 10), none⟩,
 ⟨.move, [.const (.str ⟨#[]⟩)], (some 11), none⟩])
 (.seq (.seq (.seqR [⟨.move, [.tmp 2], (some 19), none⟩,
 ⟨(.bin .lss), [.tmp 19, .const (.int .i64 2)], (some 20), none⟩,
 ⟨.move, [.tmp 20], (some 21), none⟩,
 ⟨.move, [.tmp 2], (some 22), some (21, false)⟩,
 ⟨(.bin .eql), [.tmp 22, .const (.int .i64 10)], (some 23), some (21, false)⟩,
 ⟨.pick, [.tmp 21, .const (.bool true), .tmp 23], (some 24), none⟩,
 ⟨.move, [.tmp 24], (some 25), none⟩,
 ⟨.move, [.tmp 2], (some 26), some (25, false)⟩,
 ⟨(.bin .gtr), [.tmp 26, .const (.int .i64 36)], (some 27), some (25, false)⟩,
 ⟨.pick, [.tmp 25, .const (.bool true), .tmp 27], (some 28), none⟩])
 (.cond (.tmp 28) .fail
 .skip))
 (.seq (.seqR [⟨(.new [(.int .u8 0), (.int .u8 0), (.int .u8 0), (.int .u8 0), (.int .u8 0), (.int .u8 0), (.int .u8 0), (.int .u8 0), (.int .u8 0), (.int .u8 0), (.int .u8 0), (.int .u8 0), (.int .u8 0), (.int .u8 0), (.int .u8 0), (.int .u8 0), (.int .u8 0), (.int .u8 0), (.int .u8 0), (.int .u8 0), (.int .u8 0), (.int .u8 0), (.int .u8 0), (.int .u8 0), (.int .u8 0), (.int .u8 0), (.int .u8 0), (.int .u8 0), (.int .u8 0), (.int .u8 0), (.int .u8 0), (.int .u8 0), (.int .u8 0), (.int .u8 0), (.int .u8 0), (.int .u8 0), (.int .u8 0), (.int .u8 0), (.int .u8 0), (.int .u8 0), (.int .u8 0), (.int .u8 0), (.int .u8 0), (.int .u8 0), (.int .u8 0), (.int .u8 0), (.int .u8 0), (.int .u8 0), (.int .u8 0), (.int .u8 0), (.int .u8 0), (.int .u8 0), (.int .u8 0), (.int .u8 0), (.int .u8 0), (.int .u8 0), (.int .u8 0), (.int .u8 0), (.int .u8 0), (.int .u8 0), (.int .u8 0), (.int .u8 0), (.int .u8 0), (.int .u8 0), (.int .u8 0)]), [], (some 12), none⟩])
 (.seq (.seqR [⟨.move, [.const (.int .i64 65)], (some 13), none⟩])
 (.seq (.seq (.seqR [⟨.move, [.tmp 3], (some 30), none⟩])
 (.cond (.tmp 30) (.seqR [⟨.move, [.tmp 1], (some 31), none⟩,
 ⟨(.unI true), [.tmp 31], (some 32), none⟩,
 ⟨.move, [.tmp 32], (some 1), none⟩])
 .skip))
 (.seq (.seq (.seqR [⟨.move, [.tmp 2], (some 33), none⟩,
 ⟨(.callF 51), [.tmp 33], (some 34), none⟩])
 (.cond (.tmp 34) (.seq (.seqR [⟨.move, [.tmp 2], (some 35), none⟩,
 ⟨(.conv .u64), [.tmp 35], (some 36), none⟩,
 ⟨(.callF 52), [.tmp 36], (some 37), none⟩,
 ⟨(.conv .u64), [.tmp 37], (some 38), none⟩,
 ⟨.move, [.tmp 38], (some 14), none⟩])
 (.seq (.seqR [⟨.move, [.tmp 2], (some 39), none⟩,
 ⟨(.conv .u64), [.tmp 39], (some 40), none⟩,
 ⟨.move, [.tmp 40], (some 15), none⟩])
 (.seq (.seqR [⟨.move, [.tmp 2], (some 41), none⟩,
 ⟨(.conv .u64), [.tmp 41], (some 42), none⟩,
 ⟨(.bin .sub), [.tmp 42, .const (.int .u64 1)], (some 43), none⟩,
 ⟨.move, [.tmp 43], (some 16), none⟩])
 (.seq (.block 0 (.loop (.seq (.seq (.seqR [⟨.move, [.tmp 1], (some 44), none⟩,
 ⟨.move, [.tmp 15], (some 45), none⟩,
 ⟨(.bin .geq), [.tmp 44, .tmp 45], (some 46), none⟩])
 (.cond (.tmp 46) .skip
 (.exit 0)))
 (.block 1 (.seq (.seqR [⟨.move, [.tmp 13], (some 47), none⟩,
 ⟨(.bin .sub), [.tmp 47, .const (.int .i64 1)], (some 48), none⟩,
 ⟨.move, [.tmp 48], (some 13), none⟩])
 (.seq (.seqR [⟨.move, [.tmp 13], (some 49), none⟩,
 ⟨.move, [.tmp 1], (some 50), none⟩,
 ⟨.move, [.tmp 16], (some 51), none⟩,
 ⟨(.bin .and), [.tmp 50, .tmp 51], (some 52), none⟩,
 ⟨.indexStr, [.const (.str ⟨#[48, 49, 50, 51, 52, 53, 54, 55, 56, 57, 97, 98, 99, 100, 101, 102, 103, 104, 105, 106, 107, 108, 109, 110, 111, 112, 113, 114, 115, 116, 117, 118, 119, 120, 121, 122]⟩), .tmp 52], (some 53), none⟩,
 ⟨(.indexAddrA 65 1), [.tmp 12, .tmp 49], (some 54), none⟩,
 ⟨(.store 1), [.tmp 54, .tmp 53], none, none⟩])
 (.seqR [⟨.move, [.tmp 1], (some 55), none⟩,
 ⟨.move, [.tmp 14], (some 56), none⟩,
 ⟨(.bin .shr), [.tmp 55, .tmp 56], (some 57), none⟩,
 ⟨.move, [.tmp 57], (some 1), none⟩])))))))
 (.seq (.seqR [⟨.move, [.tmp 13], (some 58), none⟩,
 ⟨(.bin .sub), [.tmp 58, .const (.int .i64 1)], (some 59), none⟩,
 ⟨.move, [.tmp 59], (some 13), none⟩])
 (.seqR [⟨.move, [.tmp 13], (some 60), none⟩,
 ⟨.move, [.tmp 1], (some 61), none⟩,
 ⟨.indexStr, [.const (.str ⟨#[48, 49, 50, 51, 52, 53, 54, 55, 56, 57, 97, 98, 99, 100, 101, 102, 103, 104, 105, 106, 107, 108, 109, 110, 111, 112, 113, 114, 115, 116, 117, 118, 119, 120, 121, 122]⟩), .tmp 61], (some 62), none⟩,
 ⟨(.indexAddrA 65 1), [.tmp 12, .tmp 60], (some 63), none⟩,
 ⟨(.store 1), [.tmp 63, .tmp 62], none, none⟩]))))))
 (.seq (.seqR [⟨.move, [.tmp 2], (some 64), none⟩,
 ⟨(.conv .u64), [.tmp 64], (some 65), none⟩,
 ⟨.move, [.tmp 65], (some 17), none⟩])
 (.seq (.block 2 (.loop (.seq (.seq (.seqR [⟨.move, [.tmp 1], (some 66), none⟩,
 ⟨.move, [.tmp 17], (some 67), none⟩,
 ⟨(.bin .geq), [.tmp 66, .tmp 67], (some 68), none⟩])
 (.cond (.tmp 68) .skip
 (.exit 2)))
 (.block 3 (.seq (.seqR [⟨.move, [.tmp 13], (some 69), none⟩,
 ⟨(.bin .sub), [.tmp 69, .const (.int .i64 1)], (some 70), none⟩,
 ⟨.move, [.tmp 70], (some 13), none⟩])
 (.seq (.seqR [⟨.move, [.tmp 1], (some 71), none⟩,
 ⟨.move, [.tmp 17], (some 72), none⟩,
 ⟨(.bin .quo), [.tmp 71, .tmp 72], (some 73), none⟩,
 ⟨.move, [.tmp 73], (some 18), none⟩])
 (.seq (.seqR [⟨.move, [.tmp 13], (some 74), none⟩,
 ⟨.move, [.tmp 1], (some 75), none⟩,
 ⟨.move, [.tmp 18], (some 76), none⟩,
 ⟨.move, [.tmp 17], (some 77), none⟩,
 ⟨(.bin .mul), [.tmp 76, .tmp 77], (some 78), none⟩,
 ⟨(.bin .sub), [.tmp 75, .tmp 78], (some 79), none⟩,
 ⟨.indexStr, [.const (.str ⟨#[48, 49, 50, 51, 52, 53, 54, 55, 56, 57, 97, 98, 99, 100, 101, 102, 103, 104, 105, 106, 107, 108, 109, 110, 111, 112, 113, 114, 115, 116, 117, 118, 119, 120, 121, 122]⟩), .tmp 79], (some 80), none⟩,
 ⟨(.indexAddrA 65 1), [.tmp 12, .tmp 74], (some 81), none⟩,
 ⟨(.store 1), [.tmp 81, .tmp 80], none, none⟩])
 (.seqR [⟨.move, [.tmp 18], (some 82), none⟩,
 ⟨.move, [.tmp 82], (some 1), none⟩]))))))))
 (.seq (.seqR [⟨.move, [.tmp 13], (some 83), none⟩,
 ⟨(.bin .sub), [.tmp 83, .const (.int .i64 1)], (some 84), none⟩,
 ⟨.move, [.tmp 84], (some 13), none⟩])
 (.seqR [⟨.move, [.tmp 13], (some 85), none⟩,
 ⟨.move, [.tmp 1], (some 86), none⟩,
 ⟨.indexStr, [.const (.str ⟨#[48, 49, 50, 51, 52, 53, 54, 55, 56, 57, 97, 98, 99, 100, 101, 102, 103, 104, 105, 106, 107, 108, 109, 110, 111, 112, 113, 114, 115, 116, 117, 118, 119, 120, 121, 122]⟩), .tmp 86], (some 87), none⟩,
 ⟨(.indexAddrA 65 1), [.tmp 12, .tmp 85], (some 88), none⟩,
 ⟨(.store 1), [.tmp 88, .tmp 87], none, none⟩]))))))
 (.seq (.seq (.seqR [⟨.move, [.tmp 3], (some 89), none⟩])
 (.cond (.tmp 89) (.seq (.seqR [⟨.move, [.tmp 13], (some 90), none⟩,
 ⟨(.bin .sub), [.tmp 90, .const (.int .i64 1)], (some 91), none⟩,
 ⟨.move, [.tmp 91], (some 13), none⟩])
 (.seqR [⟨.move, [.tmp 13], (some 92), none⟩,
 ⟨(.indexAddrA 65 1), [.tmp 12, .tmp 92], (some 93), none⟩,
 ⟨(.store 1), [.tmp 93, .const (.int .u8 45)], none, none⟩]))
 .skip))
 (.seq (.seq (.seqR [⟨.move, [.tmp 4], (some 94), none⟩])
 (.cond (.tmp 94) (.seq (.seqR [⟨.move, [.tmp 0], (some 95), none⟩,
 ⟨.move, [.tmp 13], (some 96), none⟩,
 ⟨(.slicePA 65 1 true false false), [.tmp 12, .tmp 96], (some 97), none⟩,
 ⟨(.append 1 1), [.tmp 95, .tmp 97], (some 98), none⟩,
 ⟨.move, [.tmp 98], (some 10), none⟩])
 .ret)
 .skip))
 (.seq (.seqR [⟨.move, [.tmp 13], (some 99), none⟩,
 ⟨(.slicePA 65 1 true false false), [.tmp 12, .tmp 99], (some 100), none⟩,
 ⟨.bytesStr, [.tmp 100], (some 101), none⟩,
 ⟨.move, [.tmp 101], (some 11), none⟩])
 .ret))))))))), [.tmp 10, .tmp 11]⟩
theorem c39_ok : compFunc Tryd.prog Tryd.f39 = some c39 := by kernel_rfl
theorem c39_body : hasBody Tryd.prog 39 = true := hasBody_of Tryd.func39 (by kernel_rfl)
/-- (*strings.Builder).copyCheck -/
def c40 : PFn := ⟨20, Tr.ofList (List.replicate 20 undefA), (.seq (.seqR [⟨.move, [.tmp 0], (some 2), none⟩,
 ⟨.nilCheck, [.tmp 2], (some 3), none⟩,
 ⟨(.fieldAddr 0), [.tmp 3], (some 4), none⟩,
 ⟨(.load false 1), [.tmp 4], (some 5), none⟩,
 ⟨(.eqPtr false), [.tmp 5, .const (.ptr none)], (some 6), none⟩])
 (.cond (.tmp 6) .fail
 (.seq (.seqR [⟨.move, [.tmp 0], (some 14), none⟩,
 ⟨.nilCheck, [.tmp 14], (some 15), none⟩,
 ⟨(.fieldAddr 0), [.tmp 15], (some 16), none⟩,
 ⟨(.load false 1), [.tmp 16], (some 17), none⟩,
 ⟨.move, [.tmp 0], (some 18), none⟩,
 ⟨(.eqPtr true), [.tmp 17, .tmp 18], (some 19), none⟩])
 (.cond (.tmp 19) .fail
 .skip)))), []⟩
theorem c40_ok : compFunc Tryd.prog Tryd.f40 = some c40 := by kernel_rfl
theorem c40_body : hasBody Tryd.prog 40 = true := hasBody_of Tryd.func40 (by kernel_rfl)
/-- (*strings.Builder).grow -/
def c41 : PFn := ⟨30, Tr.ofList (List.replicate 30 undefA), (.seq .fail
 (.seq (.seqR [⟨.move, [.tmp 4], (some 20), none⟩,
 ⟨.move, [.tmp 0], (some 21), none⟩,
 ⟨.nilCheck, [.tmp 21], (some 22), none⟩,
 ⟨(.fieldAddr 1), [.tmp 22], (some 23), none⟩,
 ⟨(.load false 1), [.tmp 23], (some 24), none⟩,
 ⟨(.copy 1), [.tmp 20, .tmp 24], (some 25), none⟩])
 (.seqR [⟨.move, [.tmp 0], (some 26), none⟩,
 ⟨.move, [.tmp 4], (some 27), none⟩,
 ⟨.nilCheck, [.tmp 26], (some 28), none⟩,
 ⟨(.fieldAddr 1), [.tmp 28], (some 29), none⟩,
 ⟨(.store 1), [.tmp 29, .tmp 27], none, none⟩]))), []⟩
theorem c41_ok : compFunc Tryd.prog Tryd.f41 = some c41 := by kernel_rfl
theorem c41_body : hasBody Tryd.prog 41 = true := hasBody_of Tryd.func41 (by kernel_rfl)
/-- strings.splitSeq$1 -/
def c42 : PFn := ⟨52, Tr.ofList (List.replicate 52 undefA), (.seq (.seq (.seqR [⟨(.load false 1), [.tmp 1], (some 9), none⟩,
 ⟨.lenStr, [.tmp 9], (some 10), none⟩,
 ⟨(.bin .eql), [.tmp 10, .const (.int .i64 0)], (some 11), none⟩])
 (.cond (.tmp 11) (.seq (.block 0 (.loop (.seq (.seq (.seqR [⟨(.load false 1), [.tmp 2], (some 12), none⟩,
 ⟨.lenStr, [.tmp 12], (some 13), none⟩,
 ⟨(.bin .gtr), [.tmp 13, .const (.int .i64 0)], (some 14), none⟩])
 (.cond (.tmp 14) .skip
 (.exit 0)))
 (.block 1 (.seq (.seqR [⟨(.load false 1), [.tmp 2], (some 16), none⟩,
 ⟨(.callF 43), [.tmp 16], (some 17), none⟩,
 ⟨.move, [.tmp 17], (some 15), none⟩,
 ⟨(.extract 0), [.tmp 15], (some 18), none⟩,
 ⟨(.extract 1), [.tmp 15], (some 19), none⟩,
 ⟨.move, [.tmp 18], (some 5), none⟩,
 ⟨.move, [.tmp 19], (some 6), none⟩])
 (.seq (.seq (.seqR [⟨.move, [.tmp 0], (some 20), none⟩,
 ⟨(.load false 1), [.tmp 2], (some 21), none⟩,
 ⟨.move, [.tmp 6], (some 22), none⟩,
 ⟨(.sliceStr false true), [.tmp 21, .tmp 22], (some 23), none⟩,
 ⟨.callV, [.tmp 20, .tmp 23], (some 24), none⟩,
 ⟨.not, [.tmp 24], (some 25), none⟩])
 (.cond (.tmp 25) .ret
 .skip))
 (.seqR [⟨(.load false 1), [.tmp 2], (some 26), none⟩,
 ⟨.move, [.tmp 6], (some 27), none⟩,
 ⟨(.sliceStr true false), [.tmp 26, .tmp 27], (some 28), none⟩,
 ⟨(.store 1), [.tmp 2, .tmp 28], none, none⟩])))))))
 .ret)
 .skip))
 (.seq (.block 2 (.loop (.block 3 (.seq (.seqR [⟨(.load false 1), [.tmp 2], (some 29), none⟩,
 ⟨(.load false 1), [.tmp 1], (some 30), none⟩,
 ⟨(.callF 44), [.tmp 29, .tmp 30], (some 31), none⟩,
 ⟨.move, [.tmp 31], (some 7), none⟩])
 (.seq (.seq (.seqR [⟨.move, [.tmp 7], (some 32), none⟩,
 ⟨(.bin .lss), [.tmp 32, .const (.int .i64 0)], (some 33), none⟩])
 (.cond (.tmp 33) (.exit 2)
 .skip))
 (.seq (.seqR [⟨(.load false 1), [.tmp 2], (some 34), none⟩,
 ⟨.move, [.tmp 7], (some 35), none⟩,
 ⟨(.load false 1), [.tmp 3], (some 36), none⟩,
 ⟨(.bin .add), [.tmp 35, .tmp 36], (some 37), none⟩,
 ⟨(.sliceStr false true), [.tmp 34, .tmp 37], (some 38), none⟩,
 ⟨.move, [.tmp 38], (some 8), none⟩])
 (.seq (.seq (.seqR [⟨.move, [.tmp 0], (some 39), none⟩,
 ⟨.move, [.tmp 8], (some 40), none⟩,
 ⟨.callV, [.tmp 39, .tmp 40], (some 41), none⟩,
 ⟨.not, [.tmp 41], (some 42), none⟩])
 (.cond (.tmp 42) .ret
 .skip))
 (.seqR [⟨(.load false 1), [.tmp 2], (some 43), none⟩,
 ⟨.move, [.tmp 7], (some 44), none⟩,
 ⟨(.load false 1), [.tmp 1], (some 45), none⟩,
 ⟨.lenStr, [.tmp 45], (some 46), none⟩,
 ⟨(.bin .add), [.tmp 44, .tmp 46], (some 47), none⟩,
 ⟨(.sliceStr true false), [.tmp 43, .tmp 47], (some 48), none⟩,
 ⟨(.store 1), [.tmp 2, .tmp 48], none, none⟩]))))))))
 (.seqR [⟨.move, [.tmp 0], (some 49), none⟩,
 ⟨(.load false 1), [.tmp 2], (some 50), none⟩,
 ⟨.callV, [.tmp 49, .tmp 50], (some 51), none⟩]))), []⟩
theorem c42_ok : compFunc Tryd.prog Tryd.f42 = some c42 := by kernel_rfl
theorem c42_body : hasBody Tryd.prog 42 = true := hasBody_of Tryd.func42 (by kernel_rfl)
/-- unicode/utf8.DecodeRuneInString -/
def c43 : PFn := ⟨19, Tr.ofList (List.replicate 19 undefA), (.seq (.seqR [⟨.move, [.const (.int .i32 0)], (some 2), none⟩,
 ⟨.move, [.const (.int .i64 0)], (some 3), none⟩])
 (.seq (.seq (.seqR [⟨.move, [.tmp 0], (some 4), none⟩,
 ⟨(.bin .neq), [.tmp 4, .const (.str ⟨#[]⟩)], (some 5), none⟩,
 ⟨.move, [.tmp 5], (some 6), none⟩,
 ⟨.move, [.tmp 0], (some 7), some (6, true)⟩,
 ⟨.indexStr, [.tmp 7, .const (.int .i64 0)], (some 8), some (6, true)⟩,
 ⟨(.bin .lss), [.tmp 8, .const (.int .u8 128)], (some 9), some (6, true)⟩,
 ⟨.pick, [.tmp 6, .tmp 9, .const (.bool false)], (some 10), none⟩])
 (.cond (.tmp 10) (.seq (.seqR [⟨.move, [.tmp 0], (some 11), none⟩,
 ⟨.indexStr, [.tmp 11, .const (.int .i64 0)], (some 12), none⟩,
 ⟨(.conv .i32), [.tmp 12], (some 13), none⟩,
 ⟨.move, [.tmp 13], (some 2), none⟩,
 ⟨.move, [.const (.int .i64 1)], (some 3), none⟩])
 .ret)
 (.seqR [⟨.move, [.tmp 0], (some 15), none⟩,
 ⟨(.callF 55), [.tmp 15], (some 16), none⟩,
 ⟨.move, [.tmp 16], (some 14), none⟩,
 ⟨(.extract 0), [.tmp 14], (some 17), none⟩,
 ⟨(.extract 1), [.tmp 14], (some 18), none⟩,
 ⟨.move, [.tmp 17], (some 2), none⟩,
 ⟨.move, [.tmp 18], (some 3), none⟩])))
 .ret)), [.tmp 2, .tmp 3]⟩
theorem c43_ok : compFunc Tryd.prog Tryd.f43 = some c43 := by kernel_rfl
theorem c43_body : hasBody Tryd.prog 43 = true := hasBody_of Tryd.func43 (by kernel_rfl)
end Go.Proofs.YtphdlmmllahgkaaDoor
