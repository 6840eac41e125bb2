/- The calls whose answers are known: awake, and the library's Collect and SortFunc. -/
import Derived.Test.YtbjipmhdncfodaaT
import Derived.Test.YtbjipmhdncfodaaVx28
import Derived.Test.YtbjipmhdncfodaaVx30
import Derived.Test.YtbjipmhdncfodaaVx20
import Derived.KernelRfl
namespace Go.Proofs.Ytbjipmhdncfodaa.grf
open Go Go.Vx
def tbl0 (f : FuncId) (args : List AV) : Option AV :=
  if f = 5 then match args with
    | [] => some (.bool true)
    | _ => none
  else none
abbrev colX : FuncId → List AV → AMem → Option (AV × AMem) := collectX 29 31
abbrev srtX : FuncId → List AV → AMem → Option (AV × AMem) := sortP 30 28
def lib (f : FuncId) (args : List AV) (M : AMem) : Option (AV × AMem) := match colX f args M with
  | some q => some q
  | none => srtX f args M
def tbl (f : FuncId) (args : List AV) (M : AMem) : Option (AV × AMem) := match (match tbl0 f args with
    | some r => some (r, M)
    | none => none) with
  | some q => some q
  | none => lib f args M
theorem tbl_none {f : FuncId} (h : f ≠ 5 ∧ f ≠ 29 ∧ f ≠ 30) (a : List AV) : ∀ M, tbl f a M = none := fun M => by
  unfold tbl tbl0 lib colX srtX collectX sortP
  rw [if_neg h.1, if_neg h.2.1, if_neg h.2.2]
theorem awake_run (g : Addr → Option AV) : (callF (fun _ _ _ => none) code 100000 2000 5 [] ⟨.nil, 0, g⟩).map (·.1) = some (.bool true) := of_callFK (by kernel_rfl)
end Go.Proofs.Ytbjipmhdncfodaa.grf
