/- The table of the small machine's code. -/
import Derived.Test.YtphdlmmllahgkaaDoorC0
import Derived.Test.YtphdlmmllahgkaaDoorC1
namespace Go.Proofs.YtphdlmmllahgkaaDoor
open Go Go.Vx Go.Proofs
def codeL : List (Option PFn) := [none, none, none, some c3, none, some c5, some c6, some c7, some c8, some c9, some c10, none, none, none, none, some c15, some c16, some c17, some c18, some c19, none, some c21, some c22, some c23, some c24, some c25, some c26, some c27, none, some c29, some c30, some c31, some c32, some c33, some c34, some c35, some c36, some c37, some c38, some c39, some c40, some c41, none, none, none, some c45, some c46, some c47, some c48, some c49, some c50, some c51, some c52, none, none, none, none, some c57, some c58, some c59, none, none, none, none, some c64]
set_option maxRecDepth 100000 in
theorem codeL_ok : ListOk Tryd.prog 0 codeL := 
 ⟨⟨Tryd.f3, Tryd.func3, c3_ok, c3_body⟩, 
 ⟨⟨Tryd.f5, Tryd.func5, c5_ok, c5_body⟩, 
 ⟨⟨Tryd.f6, Tryd.func6, c6_ok, c6_body⟩, 
 ⟨⟨Tryd.f7, Tryd.func7, c7_ok, c7_body⟩, 
 ⟨⟨Tryd.f8, Tryd.func8, c8_ok, c8_body⟩, 
 ⟨⟨Tryd.f9, Tryd.func9, c9_ok, c9_body⟩, 
 ⟨⟨Tryd.f10, Tryd.func10, c10_ok, c10_body⟩, 
 ⟨⟨Tryd.f15, Tryd.func15, c15_ok, c15_body⟩, 
 ⟨⟨Tryd.f16, Tryd.func16, c16_ok, c16_body⟩, 
 ⟨⟨Tryd.f17, Tryd.func17, c17_ok, c17_body⟩, 
 ⟨⟨Tryd.f18, Tryd.func18, c18_ok, c18_body⟩, 
 ⟨⟨Tryd.f19, Tryd.func19, c19_ok, c19_body⟩, 
 ⟨⟨Tryd.f21, Tryd.func21, c21_ok, c21_body⟩, 
 ⟨⟨Tryd.f22, Tryd.func22, c22_ok, c22_body⟩, 
 ⟨⟨Tryd.f23, Tryd.func23, c23_ok, c23_body⟩, 
 ⟨⟨Tryd.f24, Tryd.func24, c24_ok, c24_body⟩, 
 ⟨⟨Tryd.f25, Tryd.func25, c25_ok, c25_body⟩, 
 ⟨⟨Tryd.f26, Tryd.func26, c26_ok, c26_body⟩, 
 ⟨⟨Tryd.f27, Tryd.func27, c27_ok, c27_body⟩, 
 ⟨⟨Tryd.f29, Tryd.func29, c29_ok, c29_body⟩, 
 ⟨⟨Tryd.f30, Tryd.func30, c30_ok, c30_body⟩, 
 ⟨⟨Tryd.f31, Tryd.func31, c31_ok, c31_body⟩, 
 ⟨⟨Tryd.f32, Tryd.func32, c32_ok, c32_body⟩, 
 ⟨⟨Tryd.f33, Tryd.func33, c33_ok, c33_body⟩, 
 ⟨⟨Tryd.f34, Tryd.func34, c34_ok, c34_body⟩, 
 ⟨⟨Tryd.f35, Tryd.func35, c35_ok, c35_body⟩, 
 ⟨⟨Tryd.f36, Tryd.func36, c36_ok, c36_body⟩, 
 ⟨⟨Tryd.f37, Tryd.func37, c37_ok, c37_body⟩, 
 ⟨⟨Tryd.f38, Tryd.func38, c38_ok, c38_body⟩, 
 ⟨⟨Tryd.f39, Tryd.func39, c39_ok, c39_body⟩, 
 ⟨⟨Tryd.f40, Tryd.func40, c40_ok, c40_body⟩, 
 ⟨⟨Tryd.f41, Tryd.func41, c41_ok, c41_body⟩, 
 ⟨⟨Tryd.f45, Tryd.func45, c45_ok, c45_body⟩, 
 ⟨⟨Tryd.f46, Tryd.func46, c46_ok, c46_body⟩, 
 ⟨⟨Tryd.f47, Tryd.func47, c47_ok, c47_body⟩, 
 ⟨⟨Tryd.f48, Tryd.func48, c48_ok, c48_body⟩, 
 ⟨⟨Tryd.f49, Tryd.func49, c49_ok, c49_body⟩, 
 ⟨⟨Tryd.f50, Tryd.func50, c50_ok, c50_body⟩, 
 ⟨⟨Tryd.f51, Tryd.func51, c51_ok, c51_body⟩, 
 ⟨⟨Tryd.f52, Tryd.func52, c52_ok, c52_body⟩, 
 ⟨⟨Tryd.f57, Tryd.func57, c57_ok, c57_body⟩, 
 ⟨⟨Tryd.f58, Tryd.func58, c58_ok, c58_body⟩, 
 ⟨⟨Tryd.f59, Tryd.func59, c59_ok, c59_body⟩, 
 ⟨⟨Tryd.f64, Tryd.func64, c64_ok, c64_body⟩, True.intro⟩⟩⟩⟩⟩⟩⟩⟩⟩⟩⟩⟩⟩⟩⟩⟩⟩⟩⟩⟩⟩⟩⟩⟩⟩⟩⟩⟩⟩⟩⟩⟩⟩⟩⟩⟩⟩⟩⟩⟩⟩⟩⟩⟩
def codeT : Tr (Option PFn) := Tr.ofList codeL
def code (f : FuncId) : Option PFn := (codeT.get f).join
theorem codeOk : CodeOk Tryd.prog code := codeOk_of codeL_ok
end Go.Proofs.YtphdlmmllahgkaaDoor
