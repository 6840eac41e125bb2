/- The calls whose answers are known: awake, and the library's Sorted. -/
import Derived.Test.YtoddncakdnmloaaT
import Derived.Test.YtoddncakdnmloaaVx24
import Derived.Test.YtoddncakdnmloaaVx20
import Derived.KernelRfl
namespace Go.Proofs.Ytoddncakdnmloaa.stats
open Go Go.Vx
abbrev srt : FuncId → List AV → AMem → Option (AV × AMem) := sortedX 22 37
def tbl0 (f : FuncId) (args : List AV) : Option AV :=
  if f = 6 then match args with
    | [] => some (.bool true)
    | _ => none
  else none
def tbl (f : FuncId) (args : List AV) (M : AMem) : Option (AV × AMem) := match (match tbl0 f args with
    | some r => some (r, M)
    | none => none) with
  | some q => some q
  | none => srt f args M
theorem tbl_none {f : FuncId} (h : f ≠ 6 ∧ f ≠ 22) (a : List AV) : ∀ M, tbl f a M = none := fun M => by
  unfold tbl tbl0 srt sortedX
  rw [if_neg h.1, if_neg h.2]
theorem awake_run (g : Addr → Option AV) : (callF srt code 100000 2000 6 [] ⟨.nil, 0, g⟩).map (·.1) = some (.bool true) := of_callFK (by kernel_rfl)
end Go.Proofs.Ytoddncakdnmloaa.stats
