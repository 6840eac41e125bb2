/- The table of the small machine's code. -/
import Derived.Test.YtefcnhmbpkdlmaaC0
namespace Go.Proofs.Ytefcnhmbpkdlmaa
open Go Go.Vx Go.Proofs
def codeL : List (Option PFn) := [none, none, none, some c3, some c4, some c5, some c6, some c7, some c8, some c9, some c10, some c11, some c12, some c13, none, none, none, none, none, none, none, none, none, none, none, none, none, none, none, some c29, none, some c31, none, some c33, some c34, some c35, some c36, some c37, some c38, some c39, none, some c41, some c42, some c43]
set_option maxRecDepth 100000 in
theorem codeL_ok : ListOk Try.prog 0 codeL := 
 ⟨⟨Try.f3, Try.func3, c3_ok, c3_body⟩, 
 ⟨⟨Try.f4, Try.func4, c4_ok, c4_body⟩, 
 ⟨⟨Try.f5, Try.func5, c5_ok, c5_body⟩, 
 ⟨⟨Try.f6, Try.func6, c6_ok, c6_body⟩, 
 ⟨⟨Try.f7, Try.func7, c7_ok, c7_body⟩, 
 ⟨⟨Try.f8, Try.func8, c8_ok, c8_body⟩, 
 ⟨⟨Try.f9, Try.func9, c9_ok, c9_body⟩, 
 ⟨⟨Try.f10, Try.func10, c10_ok, c10_body⟩, 
 ⟨⟨Try.f11, Try.func11, c11_ok, c11_body⟩, 
 ⟨⟨Try.f12, Try.func12, c12_ok, c12_body⟩, 
 ⟨⟨Try.f13, Try.func13, c13_ok, c13_body⟩, 
 ⟨⟨Try.f29, Try.func29, c29_ok, c29_body⟩, 
 ⟨⟨Try.f31, Try.func31, c31_ok, c31_body⟩, 
 ⟨⟨Try.f33, Try.func33, c33_ok, c33_body⟩, 
 ⟨⟨Try.f34, Try.func34, c34_ok, c34_body⟩, 
 ⟨⟨Try.f35, Try.func35, c35_ok, c35_body⟩, 
 ⟨⟨Try.f36, Try.func36, c36_ok, c36_body⟩, 
 ⟨⟨Try.f37, Try.func37, c37_ok, c37_body⟩, 
 ⟨⟨Try.f38, Try.func38, c38_ok, c38_body⟩, 
 ⟨⟨Try.f39, Try.func39, c39_ok, c39_body⟩, 
 ⟨⟨Try.f41, Try.func41, c41_ok, c41_body⟩, 
 ⟨⟨Try.f42, Try.func42, c42_ok, c42_body⟩, 
 ⟨⟨Try.f43, Try.func43, c43_ok, c43_body⟩, True.intro⟩⟩⟩⟩⟩⟩⟩⟩⟩⟩⟩⟩⟩⟩⟩⟩⟩⟩⟩⟩⟩⟩⟩
def codeT : Tr (Option PFn) := Tr.ofList codeL
def code (f : FuncId) : Option PFn := (codeT.get f).join
theorem codeOk : CodeOk Try.prog code := codeOk_of codeL_ok
end Go.Proofs.Ytefcnhmbpkdlmaa
