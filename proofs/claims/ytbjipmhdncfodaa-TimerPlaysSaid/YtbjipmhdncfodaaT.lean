/- The table of the small machine's code. -/
import Derived.Test.YtbjipmhdncfodaaC0
import Derived.Test.YtbjipmhdncfodaaC1
namespace Go.Proofs.Ytbjipmhdncfodaa
open Go Go.Vx Go.Proofs
def codeL : List (Option PFn) := [none, none, none, none, some c4, some c5, some c6, some c7, some c8, some c9, some c10, some c11, some c12, some c13, some c14, some c15, some c16, some c17, some c18, some c19, some c20, some c21, some c22, some c23, some c24, some c25, some c26, some c27, some c28, some c29, some c30, some c31, some c32, some c33, some c34, some c35, some c36, some c37, some c38, some c39, some c40, some c41, some c42, some c43, some c44, some c45, some c46, some c47, some c48, some c49, some c50, some c51, some c52, some c53, some c54, some c55, none, none, none, none, none, none, none, none, none, none, none, none, none, none, none, none, some c72, some c73, some c74, some c75, some c76]
set_option maxRecDepth 100000 in
theorem codeL_ok : ListOk Try.prog 0 codeL := 
 ⟨⟨Try.f4, Try.func4, c4_ok, c4_body⟩, 
 ⟨⟨Try.f5, Try.func5, c5_ok, c5_body⟩, 
 ⟨⟨Try.f6, Try.func6, c6_ok, c6_body⟩, 
 ⟨⟨Try.f7, Try.func7, c7_ok, c7_body⟩, 
 ⟨⟨Try.f8, Try.func8, c8_ok, c8_body⟩, 
 ⟨⟨Try.f9, Try.func9, c9_ok, c9_body⟩, 
 ⟨⟨Try.f10, Try.func10, c10_ok, c10_body⟩, 
 ⟨⟨Try.f11, Try.func11, c11_ok, c11_body⟩, 
 ⟨⟨Try.f12, Try.func12, c12_ok, c12_body⟩, 
 ⟨⟨Try.f13, Try.func13, c13_ok, c13_body⟩, 
 ⟨⟨Try.f14, Try.func14, c14_ok, c14_body⟩, 
 ⟨⟨Try.f15, Try.func15, c15_ok, c15_body⟩, 
 ⟨⟨Try.f16, Try.func16, c16_ok, c16_body⟩, 
 ⟨⟨Try.f17, Try.func17, c17_ok, c17_body⟩, 
 ⟨⟨Try.f18, Try.func18, c18_ok, c18_body⟩, 
 ⟨⟨Try.f19, Try.func19, c19_ok, c19_body⟩, 
 ⟨⟨Try.f20, Try.func20, c20_ok, c20_body⟩, 
 ⟨⟨Try.f21, Try.func21, c21_ok, c21_body⟩, 
 ⟨⟨Try.f22, Try.func22, c22_ok, c22_body⟩, 
 ⟨⟨Try.f23, Try.func23, c23_ok, c23_body⟩, 
 ⟨⟨Try.f24, Try.func24, c24_ok, c24_body⟩, 
 ⟨⟨Try.f25, Try.func25, c25_ok, c25_body⟩, 
 ⟨⟨Try.f26, Try.func26, c26_ok, c26_body⟩, 
 ⟨⟨Try.f27, Try.func27, c27_ok, c27_body⟩, 
 ⟨⟨Try.f28, Try.func28, c28_ok, c28_body⟩, 
 ⟨⟨Try.f29, Try.func29, c29_ok, c29_body⟩, 
 ⟨⟨Try.f30, Try.func30, c30_ok, c30_body⟩, 
 ⟨⟨Try.f31, Try.func31, c31_ok, c31_body⟩, 
 ⟨⟨Try.f32, Try.func32, c32_ok, c32_body⟩, 
 ⟨⟨Try.f33, Try.func33, c33_ok, c33_body⟩, 
 ⟨⟨Try.f34, Try.func34, c34_ok, c34_body⟩, 
 ⟨⟨Try.f35, Try.func35, c35_ok, c35_body⟩, 
 ⟨⟨Try.f36, Try.func36, c36_ok, c36_body⟩, 
 ⟨⟨Try.f37, Try.func37, c37_ok, c37_body⟩, 
 ⟨⟨Try.f38, Try.func38, c38_ok, c38_body⟩, 
 ⟨⟨Try.f39, Try.func39, c39_ok, c39_body⟩, 
 ⟨⟨Try.f40, Try.func40, c40_ok, c40_body⟩, 
 ⟨⟨Try.f41, Try.func41, c41_ok, c41_body⟩, 
 ⟨⟨Try.f42, Try.func42, c42_ok, c42_body⟩, 
 ⟨⟨Try.f43, Try.func43, c43_ok, c43_body⟩, 
 ⟨⟨Try.f44, Try.func44, c44_ok, c44_body⟩, 
 ⟨⟨Try.f45, Try.func45, c45_ok, c45_body⟩, 
 ⟨⟨Try.f46, Try.func46, c46_ok, c46_body⟩, 
 ⟨⟨Try.f47, Try.func47, c47_ok, c47_body⟩, 
 ⟨⟨Try.f48, Try.func48, c48_ok, c48_body⟩, 
 ⟨⟨Try.f49, Try.func49, c49_ok, c49_body⟩, 
 ⟨⟨Try.f50, Try.func50, c50_ok, c50_body⟩, 
 ⟨⟨Try.f51, Try.func51, c51_ok, c51_body⟩, 
 ⟨⟨Try.f52, Try.func52, c52_ok, c52_body⟩, 
 ⟨⟨Try.f53, Try.func53, c53_ok, c53_body⟩, 
 ⟨⟨Try.f54, Try.func54, c54_ok, c54_body⟩, 
 ⟨⟨Try.f55, Try.func55, c55_ok, c55_body⟩, 
 ⟨⟨Try.f72, Try.func72, c72_ok, c72_body⟩, 
 ⟨⟨Try.f73, Try.func73, c73_ok, c73_body⟩, 
 ⟨⟨Try.f74, Try.func74, c74_ok, c74_body⟩, 
 ⟨⟨Try.f75, Try.func75, c75_ok, c75_body⟩, 
 ⟨⟨Try.f76, Try.func76, c76_ok, c76_body⟩, True.intro⟩⟩⟩⟩⟩⟩⟩⟩⟩⟩⟩⟩⟩⟩⟩⟩⟩⟩⟩⟩⟩⟩⟩⟩⟩⟩⟩⟩⟩⟩⟩⟩⟩⟩⟩⟩⟩⟩⟩⟩⟩⟩⟩⟩⟩⟩⟩⟩⟩⟩⟩⟩⟩⟩⟩⟩⟩
def codeT : Tr (Option PFn) := Tr.ofList codeL
def code (f : FuncId) : Option PFn := (codeT.get f).join
theorem codeOk : CodeOk Try.prog code := codeOk_of codeL_ok
end Go.Proofs.Ytbjipmhdncfodaa
