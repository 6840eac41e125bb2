/- ExploreSame, the closed run of awake, by the small machine. -/
import Derived.Test.YtefcnhmbpkdlmabGreatDoorT
import Derived.Test.YtefcnhmbpkdlmabGreatDoorVx20
import Derived.KernelRfl
namespace Go.Proofs.YtefcnhmbpkdlmabGreatDoor.exploreSame
open Go Go.Vx
theorem awake_run (g : Addr → Option AV) : (callF noTbl code 100000 2000 4 [] ⟨.nil, 0, g⟩).map (·.1) = some (.bool true) := of_callFK (by kernel_rfl)
end Go.Proofs.YtefcnhmbpkdlmabGreatDoor.exploreSame
