/- The table of the small machine's code. -/
import Derived.Test.YtmaldkpkodcggaaC0
namespace Go.Proofs.Ytmaldkpkodcggaa
open Go Go.Vx Go.Proofs
def codeL : List (Option PFn) := [none, none, none, some c3, some c4, some c5, some c6, some c7, some c8, some c9, some c10, some c11, some c12, some c13, some c14, some c15, some c16, some c17, some c18, some c19, some c20, some c21, some c22, some c23, none, none, none, none, none, none, none, none, none, none, none, none, none, none, none, none, some c40, some c41, some c42, some c43]
set_option maxRecDepth 100000 in
theorem codeL_ok : ListOk Try.prog 0 codeL := 
 ⟨⟨Try.f3, Try.func3, c3_ok, c3_body⟩, 
 ⟨⟨Try.f4, Try.func4, c4_ok, c4_body⟩, 
 ⟨⟨Try.f5, Try.func5, c5_ok, c5_body⟩, 
 ⟨⟨Try.f6, Try.func6, c6_ok, c6_body⟩, 
 ⟨⟨Try.f7, Try.func7, c7_ok, c7_body⟩, 
 ⟨⟨Try.f8, Try.func8, c8_ok, c8_body⟩, 
 ⟨⟨Try.f9, Try.func9, c9_ok, c9_body⟩, 
 ⟨⟨Try.f10, Try.func10, c10_ok, c10_body⟩, 
 ⟨⟨Try.f11, Try.func11, c11_ok, c11_body⟩, 
 ⟨⟨Try.f12, Try.func12, c12_ok, c12_body⟩, 
 ⟨⟨Try.f13, Try.func13, c13_ok, c13_body⟩, 
 ⟨⟨Try.f14, Try.func14, c14_ok, c14_body⟩, 
 ⟨⟨Try.f15, Try.func15, c15_ok, c15_body⟩, 
 ⟨⟨Try.f16, Try.func16, c16_ok, c16_body⟩, 
 ⟨⟨Try.f17, Try.func17, c17_ok, c17_body⟩, 
 ⟨⟨Try.f18, Try.func18, c18_ok, c18_body⟩, 
 ⟨⟨Try.f19, Try.func19, c19_ok, c19_body⟩, 
 ⟨⟨Try.f20, Try.func20, c20_ok, c20_body⟩, 
 ⟨⟨Try.f21, Try.func21, c21_ok, c21_body⟩, 
 ⟨⟨Try.f22, Try.func22, c22_ok, c22_body⟩, 
 ⟨⟨Try.f23, Try.func23, c23_ok, c23_body⟩, 
 ⟨⟨Try.f40, Try.func40, c40_ok, c40_body⟩, 
 ⟨⟨Try.f41, Try.func41, c41_ok, c41_body⟩, 
 ⟨⟨Try.f42, Try.func42, c42_ok, c42_body⟩, 
 ⟨⟨Try.f43, Try.func43, c43_ok, c43_body⟩, True.intro⟩⟩⟩⟩⟩⟩⟩⟩⟩⟩⟩⟩⟩⟩⟩⟩⟩⟩⟩⟩⟩⟩⟩⟩⟩
def codeT : Tr (Option PFn) := Tr.ofList codeL
def code (f : FuncId) : Option PFn := (codeT.get f).join
theorem codeOk : CodeOk Try.prog code := codeOk_of codeL_ok
end Go.Proofs.Ytmaldkpkodcggaa
