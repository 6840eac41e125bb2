/-
  No cell of these rows narrows 'for every input' (looked for: loops, veiled, ifaces, maps, wideKeys, modest, calm, conditions, laid).
  DERIVED. THE GIVEN ROWS OF THIS SEAT. 2 by the template 'for every input the law returns true; each argument reads behind the call as it read before'; 0 by the template 'total and deterministic' (their statements: YtmaldkpkodcggaaTotals.lean).
  GIVEN WITH THE SEED: the statements are not yours to turn. If you find one false, say at which input.
  Laid BY PROGRAM, IN A SANDBOX (cutbox-rows.mjs): the forced cells as the released guide's own fill.sh prints them over the translation 20f0c79ed782d27d… (all of the seat's roots in one cut). By AI agents, Wed Nov 11 2026. No macro, syntax, notation, axiom, sorry.
-/
import Derived.Test.YtmaldkpkodcggaaChecked
import GoSem.Claim
import GoSem.ClaimJoined
import GoSem.ClaimMapViews
import Derived.JoinedTies
import Derived.KernelRfl
namespace Go.Proofs.Ytmaldkpkodcggaa
/- THE CELL 'sum', in the pinned program and in every row, IS THE sha256 OF THE DUMP (.gsa) THAT YtmaldkpkodcggaaProg.lean LOADS. Nothing in Lean hashes anything: it is a label: what it is worth is what the hold of that sum in a sandbox is worth. -/
noncomputable def Try.pinned : Pinned := { name := "ytmaldkpkodcggaa", sum := "20f0c79ed782d27d3e9b5eecb61eabe230a1cd0c320b180c4ce53c88c9671499", checked := Try.checked }
namespace Rows
def none {H : Type} : Left H := { results := [], args := [] }

/-- 'coachyardlaw25.GraphOften': WHATEVER THE INPUT: true; the input reads as it did. -/
def graphOftenSpec : ChangeSpec := { name := "graphOften", fn := fun _ => fun
  | [d1, d2] => { results := [.lit (.bool true)], args := [d1, d2] }
  | _ => none }
def graphOftenRow : OpenClaim := { program := "ytmaldkpkodcggaa", sum := "20f0c79ed782d27d3e9b5eecb61eabe230a1cd0c320b180c4ce53c88c9671499", func := "coachyard/coachyardlaw25.GraphOften", spec := "graphOften", unfollowed := true, recurses := true, apart := false }
def GraphOftenSaid : Prop := graphOftenRow.holds Try.pinned (OpenSpec.ofChange graphOftenSpec)

/-- ITS FALSE NEIGHBOUR: 'it returns false'. Refute it at one input. -/
def graphOftenWrong : ChangeSpec := { name := "graphOften", fn := fun _ => fun
  | [d1, d2] => { results := [.lit (.bool false)], args := [d1, d2] }
  | _ => none }
def GraphOftenWrongFalsely : Prop := graphOftenRow.holds Try.pinned (OpenSpec.ofChange graphOftenWrong)

/-- 'coachyardlaw25.GraphRanks': WHATEVER THE INPUT: true; the input reads as it did. -/
def graphRanksSpec : ChangeSpec := { name := "graphRanks", fn := fun _ => fun
  | [d] => { results := [.lit (.bool true)], args := [d] }
  | _ => none }
def graphRanksRow : OpenClaim := { program := "ytmaldkpkodcggaa", sum := "20f0c79ed782d27d3e9b5eecb61eabe230a1cd0c320b180c4ce53c88c9671499", func := "coachyard/coachyardlaw25.GraphRanks", spec := "graphRanks", unfollowed := true, recurses := true, apart := false }
def GraphRanksSaid : Prop := graphRanksRow.holds Try.pinned (OpenSpec.ofChange graphRanksSpec)

/-- ITS FALSE NEIGHBOUR: 'it returns false'. Refute it at one input. -/
def graphRanksWrong : ChangeSpec := { name := "graphRanks", fn := fun _ => fun
  | [d] => { results := [.lit (.bool false)], args := [d] }
  | _ => none }
def GraphRanksWrongFalsely : Prop := graphRanksRow.holds Try.pinned (OpenSpec.ofChange graphRanksWrong)

/- THE SECOND FORM. 'bulk': how many values and letters a reading holds, each counted each time it is reached (what is shared counts as often as it is met; a slice's spare places count too). A statement '..UptoSaid' is the law's where the arguments, and the package variables that the reading takes, are together of bulk at most 1048576: NARROWER than '..Said'. Prove '..Said' where nothing that the law and all that it calls make is longer than what came in: it says more and counts as full. Else prove '..UptoSaid'. A law counts once. -/
mutual
def uptoBulk {H : Type} : DataW H → Nat
  | .lit (.string bytes) => bytes.length + 1
  | .lit _ => 1
  | .nil => 1
  | .ptr d => uptoBulk d + 1
  | .slice elems spare => uptoBulkAll elems + uptoBulkAll spare + 1
  | .agg parts => uptoBulkAll parts + 1
  | .iface _ d => uptoBulk d + 1
  | .map entries => uptoBulkEntries entries + 1
  | .held _ => 1
def uptoBulkAll {H : Type} : List (DataW H) → Nat
  | [] => 0
  | d :: r => uptoBulk d + uptoBulkAll r
def uptoBulkEntries {H : Type} : List (Lit × DataW H) → Nat
  | [] => 0
  | x :: r => uptoBulkEntry x + uptoBulkEntries r
def uptoBulkEntry {H : Type} : Lit × DataW H → Nat
  | (.string bytes, d) => bytes.length + uptoBulk d + 1
  | (_, d) => uptoBulk d + 1
 end
def uptoSmall : (H : Type) → List (DataW H) → Bool := fun _ ds => decide (uptoBulkAll ds ≤ 1048576)
def OpenSpec.upto (s : _root_.Go.ChangeSpec) : _root_.Go.OpenSpec := { _root_.Go.OpenSpec.ofChange s with cond := some uptoSmall }

/-- 'coachyardlaw25.GraphOften', WHERE WHAT IT READS IS OF BULK AT MOST 1048576: true; the input reads as it did. -/
def graphOftenUptoRow : OpenClaim := { program := "ytmaldkpkodcggaa", sum := "20f0c79ed782d27d3e9b5eecb61eabe230a1cd0c320b180c4ce53c88c9671499", func := "coachyard/coachyardlaw25.GraphOften", spec := "graphOften", unfollowed := true, recurses := true, apart := false, narrowed := true }
def GraphOftenUptoSaid : Prop := graphOftenUptoRow.holds Try.pinned (OpenSpec.upto graphOftenSpec)

/-- 'coachyardlaw25.GraphRanks', WHERE WHAT IT READS IS OF BULK AT MOST 1048576: true; the input reads as it did. -/
def graphRanksUptoRow : OpenClaim := { program := "ytmaldkpkodcggaa", sum := "20f0c79ed782d27d3e9b5eecb61eabe230a1cd0c320b180c4ce53c88c9671499", func := "coachyard/coachyardlaw25.GraphRanks", spec := "graphRanks", unfollowed := true, recurses := true, apart := false, narrowed := true }
def GraphRanksUptoSaid : Prop := graphRanksUptoRow.holds Try.pinned (OpenSpec.upto graphRanksSpec)

end Rows
end Go.Proofs.Ytmaldkpkodcggaa
