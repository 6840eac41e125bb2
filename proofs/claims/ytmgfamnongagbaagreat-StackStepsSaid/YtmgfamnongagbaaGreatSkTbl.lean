/- The calls whose answers are known: awake, and the library's Grow. -/
import Derived.Test.YtmgfamnongagbaaGreatT
import Derived.Test.YtmgfamnongagbaaGreatVx29
import Derived.Test.YtmgfamnongagbaaGreatVx20
import Derived.Test.YtmgfamnongagbaaGreatVx33
import Derived.KernelRfl
namespace Go.Proofs.YtmgfamnongagbaaGreat.stk
open Go Go.Vx
abbrev grw : FuncId → List AV → AMem → Option (AV × AMem) := growX 78
def tbl0 (f : FuncId) (args : List AV) : Option AV :=
  if f = 4 then match args with
    | [] => some (.bool true)
    | _ => none
  else none
def tbl (f : FuncId) (args : List AV) (M : AMem) : Option (AV × AMem) := match (match tbl0 f args with
    | some r => some (r, M)
    | none => none) with
  | some q => some q
  | none => grw f args M
theorem tbl_none {f : FuncId} (h : f ≠ 4 ∧ f ≠ 78) (a : List AV) : ∀ M, tbl f a M = none := fun M => by
  unfold tbl tbl0 grw growX
  rw [if_neg h.1, if_neg h.2]
theorem awake_run (g : Addr → Option AV) : (callF grw code 100000 2000 4 [] ⟨.nil, 0, g⟩).map (·.1) = some (.bool true) := of_callFK (by kernel_rfl)
end Go.Proofs.YtmgfamnongagbaaGreat.stk
