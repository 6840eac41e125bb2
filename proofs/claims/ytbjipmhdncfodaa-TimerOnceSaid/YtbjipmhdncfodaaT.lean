/- The table of the small machine's code. -/
import Derived.Test.YtbjipmhdncfodaaC0
namespace Go.Proofs.Ytbjipmhdncfodaa
open Go Go.Vx Go.Proofs
def codeL : List (Option PFn) := [none, none, none, some c3, none, some c5, some c6, some c7, some c8, some c9, some c10, some c11, none, none, none, some c15, none, some c17, some c18, some c19, some c20, none, none, none, some c24, some c25, none, none, some c28, none, none, none, some c32, some c33, some c34, none, none, none, some c38, some c39, none, none, none, none, none, none, none, none, none, none, none, none, none, none, none, none, none, none, none, none, none, none, none, none, none, none, none, none, none, none, none, none, some c72, some c73, some c74, some c75, some c76]
set_option maxRecDepth 100000 in
theorem codeL_ok : ListOk Try.prog 0 codeL := 
 ⟨⟨Try.f3, Try.func3, c3_ok, c3_body⟩, 
 ⟨⟨Try.f5, Try.func5, c5_ok, c5_body⟩, 
 ⟨⟨Try.f6, Try.func6, c6_ok, c6_body⟩, 
 ⟨⟨Try.f7, Try.func7, c7_ok, c7_body⟩, 
 ⟨⟨Try.f8, Try.func8, c8_ok, c8_body⟩, 
 ⟨⟨Try.f9, Try.func9, c9_ok, c9_body⟩, 
 ⟨⟨Try.f10, Try.func10, c10_ok, c10_body⟩, 
 ⟨⟨Try.f11, Try.func11, c11_ok, c11_body⟩, 
 ⟨⟨Try.f15, Try.func15, c15_ok, c15_body⟩, 
 ⟨⟨Try.f17, Try.func17, c17_ok, c17_body⟩, 
 ⟨⟨Try.f18, Try.func18, c18_ok, c18_body⟩, 
 ⟨⟨Try.f19, Try.func19, c19_ok, c19_body⟩, 
 ⟨⟨Try.f20, Try.func20, c20_ok, c20_body⟩, 
 ⟨⟨Try.f24, Try.func24, c24_ok, c24_body⟩, 
 ⟨⟨Try.f25, Try.func25, c25_ok, c25_body⟩, 
 ⟨⟨Try.f28, Try.func28, c28_ok, c28_body⟩, 
 ⟨⟨Try.f32, Try.func32, c32_ok, c32_body⟩, 
 ⟨⟨Try.f33, Try.func33, c33_ok, c33_body⟩, 
 ⟨⟨Try.f34, Try.func34, c34_ok, c34_body⟩, 
 ⟨⟨Try.f38, Try.func38, c38_ok, c38_body⟩, 
 ⟨⟨Try.f39, Try.func39, c39_ok, c39_body⟩, 
 ⟨⟨Try.f72, Try.func72, c72_ok, c72_body⟩, 
 ⟨⟨Try.f73, Try.func73, c73_ok, c73_body⟩, 
 ⟨⟨Try.f74, Try.func74, c74_ok, c74_body⟩, 
 ⟨⟨Try.f75, Try.func75, c75_ok, c75_body⟩, 
 ⟨⟨Try.f76, Try.func76, c76_ok, c76_body⟩, True.intro⟩⟩⟩⟩⟩⟩⟩⟩⟩⟩⟩⟩⟩⟩⟩⟩⟩⟩⟩⟩⟩⟩⟩⟩⟩⟩
def codeT : Tr (Option PFn) := Tr.ofList codeL
def code (f : FuncId) : Option PFn := (codeT.get f).join
theorem codeOk : CodeOk Try.prog code := codeOk_of codeL_ok
end Go.Proofs.Ytbjipmhdncfodaa
