/-
  No cell of these rows narrows 'for every input' (looked for: loops, veiled, ifaces, maps, wideKeys, modest, calm, conditions, laid).
  DERIVED. THE GIVEN ROWS OF THIS SEAT. 3 by the template 'for every input the law returns true; each argument reads behind the call as it read before'; 0 by the template 'total and deterministic' (their statements: YtpbejdlpkpehlaaTotals.lean).
  GIVEN WITH THE SEED: the statements are not yours to turn. If you find one false, say at which input.
  Laid BY PROGRAM, IN A SANDBOX (cutbox-rows.mjs): the forced cells as the released guide's own fill.sh prints them over the translation 8d351a9839bd6360… (all of the seat's roots in one cut). By AI agents, Wed Nov 11 2026. No macro, syntax, notation, axiom, sorry.
-/
import Derived.Test.YtpbejdlpkpehlaaChecked
import GoSem.Claim
import GoSem.ClaimJoined
import GoSem.ClaimMapViews
import Derived.JoinedTies
import Derived.KernelRfl
namespace Go.Proofs.Ytpbejdlpkpehlaa
/- THE CELL 'sum', in the pinned program and in every row, IS THE sha256 OF THE DUMP (.gsa) THAT YtpbejdlpkpehlaaProg.lean LOADS. Nothing in Lean hashes anything: it is a label: what it is worth is what the hold of that sum in a sandbox is worth. -/
noncomputable def Try.pinned : Pinned := { name := "ytpbejdlpkpehlaa", sum := "8d351a9839bd636071685a5cf475e91b84c3ab42d884200193055e1218c8050f", checked := Try.checked }
namespace Rows
def none {H : Type} : Left H := { results := [], args := [] }

/-- 'coachyardlaw16.BagSense': WHATEVER THE INPUT: true; the input reads as it did. -/
def bagSenseSpec : ChangeSpec := { name := "bagSense", fn := fun _ => fun
  | [d] => { results := [.lit (.bool true)], args := [d] }
  | _ => none }
def bagSenseRow : OpenClaim := { program := "ytpbejdlpkpehlaa", sum := "8d351a9839bd636071685a5cf475e91b84c3ab42d884200193055e1218c8050f", func := "coachyard/coachyardlaw16.BagSense", spec := "bagSense", unfollowed := true, recurses := true, apart := false }
def BagSenseSaid : Prop := bagSenseRow.holds Try.pinned (OpenSpec.ofChange bagSenseSpec)

/-- ITS FALSE NEIGHBOUR: 'it returns false'. Refute it at one input. -/
def bagSenseWrong : ChangeSpec := { name := "bagSense", fn := fun _ => fun
  | [d] => { results := [.lit (.bool false)], args := [d] }
  | _ => none }
def BagSenseWrongFalsely : Prop := bagSenseRow.holds Try.pinned (OpenSpec.ofChange bagSenseWrong)

/-- 'coachyardlaw16.BagMore': WHATEVER THE INPUT: true; the input reads as it did. -/
def bagMoreSpec : ChangeSpec := { name := "bagMore", fn := fun _ => fun
  | [d1, d2, d3] => { results := [.lit (.bool true)], args := [d1, d2, d3] }
  | _ => none }
def bagMoreRow : OpenClaim := { program := "ytpbejdlpkpehlaa", sum := "8d351a9839bd636071685a5cf475e91b84c3ab42d884200193055e1218c8050f", func := "coachyard/coachyardlaw16.BagMore", spec := "bagMore", unfollowed := true, recurses := true, apart := false }
def BagMoreSaid : Prop := bagMoreRow.holds Try.pinned (OpenSpec.ofChange bagMoreSpec)

/-- ITS FALSE NEIGHBOUR: 'it returns false'. Refute it at one input. -/
def bagMoreWrong : ChangeSpec := { name := "bagMore", fn := fun _ => fun
  | [d1, d2, d3] => { results := [.lit (.bool false)], args := [d1, d2, d3] }
  | _ => none }
def BagMoreWrongFalsely : Prop := bagMoreRow.holds Try.pinned (OpenSpec.ofChange bagMoreWrong)

/-- 'coachyardlaw16.BagOrders': WHATEVER THE INPUT: true; the input reads as it did. -/
def bagOrdersSpec : ChangeSpec := { name := "bagOrders", fn := fun _ => fun
  | [d] => { results := [.lit (.bool true)], args := [d] }
  | _ => none }
def bagOrdersRow : OpenClaim := { program := "ytpbejdlpkpehlaa", sum := "8d351a9839bd636071685a5cf475e91b84c3ab42d884200193055e1218c8050f", func := "coachyard/coachyardlaw16.BagOrders", spec := "bagOrders", unfollowed := true, recurses := true, apart := false }
def BagOrdersSaid : Prop := bagOrdersRow.holds Try.pinned (OpenSpec.ofChange bagOrdersSpec)

/-- ITS FALSE NEIGHBOUR: 'it returns false'. Refute it at one input. -/
def bagOrdersWrong : ChangeSpec := { name := "bagOrders", fn := fun _ => fun
  | [d] => { results := [.lit (.bool false)], args := [d] }
  | _ => none }
def BagOrdersWrongFalsely : Prop := bagOrdersRow.holds Try.pinned (OpenSpec.ofChange bagOrdersWrong)

/- THE SECOND FORM. 'bulk': how many values and letters a reading holds, each counted each time it is reached (what is shared counts as often as it is met; a slice's spare places count too). A statement '..UptoSaid' is the law's where the arguments, and the package variables that the reading takes, are together of bulk at most 1048576: NARROWER than '..Said'. Prove '..Said' where nothing that the law and all that it calls make is longer than what came in: it says more and counts as full. Else prove '..UptoSaid'. A law counts once. -/
mutual
def uptoBulk {H : Type} : DataW H → Nat
  | .lit (.string bytes) => bytes.length + 1
  | .lit _ => 1
  | .nil => 1
  | .ptr d => uptoBulk d + 1
  | .slice elems spare => uptoBulkAll elems + uptoBulkAll spare + 1
  | .agg parts => uptoBulkAll parts + 1
  | .iface _ d => uptoBulk d + 1
  | .map entries => uptoBulkEntries entries + 1
  | .held _ => 1
def uptoBulkAll {H : Type} : List (DataW H) → Nat
  | [] => 0
  | d :: r => uptoBulk d + uptoBulkAll r
def uptoBulkEntries {H : Type} : List (Lit × DataW H) → Nat
  | [] => 0
  | x :: r => uptoBulkEntry x + uptoBulkEntries r
def uptoBulkEntry {H : Type} : Lit × DataW H → Nat
  | (.string bytes, d) => bytes.length + uptoBulk d + 1
  | (_, d) => uptoBulk d + 1
 end
def uptoSmall : (H : Type) → List (DataW H) → Bool := fun _ ds => decide (uptoBulkAll ds ≤ 1048576)
def OpenSpec.upto (s : _root_.Go.ChangeSpec) : _root_.Go.OpenSpec := { _root_.Go.OpenSpec.ofChange s with cond := some uptoSmall }

/-- 'coachyardlaw16.BagSense', WHERE WHAT IT READS IS OF BULK AT MOST 1048576: true; the input reads as it did. -/
def bagSenseUptoRow : OpenClaim := { program := "ytpbejdlpkpehlaa", sum := "8d351a9839bd636071685a5cf475e91b84c3ab42d884200193055e1218c8050f", func := "coachyard/coachyardlaw16.BagSense", spec := "bagSense", unfollowed := true, recurses := true, apart := false, narrowed := true }
def BagSenseUptoSaid : Prop := bagSenseUptoRow.holds Try.pinned (OpenSpec.upto bagSenseSpec)

/-- 'coachyardlaw16.BagMore', WHERE WHAT IT READS IS OF BULK AT MOST 1048576: true; the input reads as it did. -/
def bagMoreUptoRow : OpenClaim := { program := "ytpbejdlpkpehlaa", sum := "8d351a9839bd636071685a5cf475e91b84c3ab42d884200193055e1218c8050f", func := "coachyard/coachyardlaw16.BagMore", spec := "bagMore", unfollowed := true, recurses := true, apart := false, narrowed := true }
def BagMoreUptoSaid : Prop := bagMoreUptoRow.holds Try.pinned (OpenSpec.upto bagMoreSpec)

/-- 'coachyardlaw16.BagOrders', WHERE WHAT IT READS IS OF BULK AT MOST 1048576: true; the input reads as it did. -/
def bagOrdersUptoRow : OpenClaim := { program := "ytpbejdlpkpehlaa", sum := "8d351a9839bd636071685a5cf475e91b84c3ab42d884200193055e1218c8050f", func := "coachyard/coachyardlaw16.BagOrders", spec := "bagOrders", unfollowed := true, recurses := true, apart := false, narrowed := true }
def BagOrdersUptoSaid : Prop := bagOrdersUptoRow.holds Try.pinned (OpenSpec.upto bagOrdersSpec)

end Rows
end Go.Proofs.Ytpbejdlpkpehlaa
