/- The closed runs of awake, and of a sort of nothing, by the small machine. -/
import Derived.Test.YtgjamfkmaccgaaaT
import Derived.Test.YtgjamfkmaccgaaaVx20
import Derived.KernelRfl
namespace Go.Proofs.Ytgjamfkmaccgaaa.diary
open Go Go.Vx
theorem awake_run (g : Addr → Option AV) : (callF noTbl code 100000 2000 4 [] ⟨.nil, 0, g⟩).map (·.1) = some (.bool true) := of_callFK (by kernel_rfl)
theorem nosort_run (g : Addr → Option AV) : (callF noTbl code 100000 2000 13 [.slice none 0 0 false, .func (.func 14) [] []] ⟨.nil, 0, g⟩).map (·.1) = some (.tuple []) := of_callFK (by kernel_rfl)
end Go.Proofs.Ytgjamfkmaccgaaa.diary
