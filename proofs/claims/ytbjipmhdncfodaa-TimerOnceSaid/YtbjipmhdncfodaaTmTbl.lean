/- The calls whose answers are known: awake alone. -/
import Derived.Test.YtbjipmhdncfodaaT
import Derived.Test.YtbjipmhdncfodaaVx28
import Derived.Test.YtbjipmhdncfodaaVx20
import Derived.KernelRfl
namespace Go.Proofs.Ytbjipmhdncfodaa.grf
open Go Go.Vx
def tbl0 (f : FuncId) (args : List AV) : Option AV :=
  if f = 5 then match args with
    | [] => some (.bool true)
    | _ => none
  else none
def tbl (f : FuncId) (args : List AV) (M : AMem) : Option (AV × AMem) := match tbl0 f args with
    | some r => some (r, M)
    | none => none
theorem tbl_none {f : FuncId} (h : f ≠ 5) (a : List AV) : ∀ M, tbl f a M = none := fun M => by
  unfold tbl tbl0
  rw [if_neg h]
theorem awake_run (g : Addr → Option AV) : (callF (fun _ _ _ => none) code 100000 2000 5 [] ⟨.nil, 0, g⟩).map (·.1) = some (.bool true) := of_callFK (by kernel_rfl)
end Go.Proofs.Ytbjipmhdncfodaa.grf
