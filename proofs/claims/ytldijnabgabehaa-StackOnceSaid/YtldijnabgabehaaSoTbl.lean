/- The calls whose answers are known: awake. -/
import Derived.Test.YtldijnabgabehaaT
import Derived.Test.YtldijnabgabehaaVx27
import Derived.Test.YtldijnabgabehaaVx20
import Derived.Test.YtldijnabgabehaaVx33
import Derived.KernelRfl
namespace Go.Proofs.Ytldijnabgabehaa.so
open Go Go.Vx
def noT : FuncId → List AV → AMem → Option (AV × AMem) := fun _ _ _ => none
def tbl0 (f : FuncId) (args : List AV) : Option AV :=
  if f = 4 then match args with
    | [] => some (.bool true)
    | _ => none
  else none
theorem awake_run (g : Addr → Option AV) : (callF noT code 100000 2000 4 [] ⟨.nil, 0, g⟩).map (·.1) = some (.bool true) := of_callFK (by kernel_rfl)
end Go.Proofs.Ytldijnabgabehaa.so
