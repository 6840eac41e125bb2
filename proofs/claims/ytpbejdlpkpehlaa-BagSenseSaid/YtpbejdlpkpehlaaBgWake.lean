/- The chapter's example, run. -/
import Derived.Test.YtpbejdlpkpehlaaBgTbl
namespace Go.Proofs.Ytpbejdlpkpehlaa.bag
open Go Go.Vx
theorem awake_run (g : Addr → Option AV) : (callF namedC code 100000 2000 6 [] ⟨.nil, 0, g⟩).map (·.1) = some (.bool true) := of_callFK (by kernel_rfl)
end Go.Proofs.Ytpbejdlpkpehlaa.bag
