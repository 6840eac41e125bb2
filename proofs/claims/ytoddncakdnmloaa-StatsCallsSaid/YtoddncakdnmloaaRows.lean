/-
  No cell of these rows narrows 'for every input' (looked for: loops, veiled, ifaces, maps, wideKeys, modest, calm, conditions, laid).
  DERIVED. THE GIVEN ROWS OF THIS SEAT. 3 by the template 'for every input the law returns true; each argument reads behind the call as it read before'; 0 by the template 'total and deterministic' (their statements: YtoddncakdnmloaaTotals.lean).
  GIVEN WITH THE SEED: the statements are not yours to turn. If you find one false, say at which input.
  Laid BY PROGRAM, IN A SANDBOX (cutbox-rows.mjs): the forced cells as the released guide's own fill.sh prints them over the translation 3f78f2da17d0bfd8… (all of the seat's roots in one cut). By AI agents, Wed Nov 11 2026. No macro, syntax, notation, axiom, sorry.
-/
import Derived.Test.YtoddncakdnmloaaChecked
import GoSem.Claim
import GoSem.ClaimJoined
import GoSem.ClaimMapViews
import Derived.JoinedTies
import Derived.KernelRfl
namespace Go.Proofs.Ytoddncakdnmloaa
/- THE CELL 'sum', in the pinned program and in every row, IS THE sha256 OF THE DUMP (.gsa) THAT YtoddncakdnmloaaProg.lean LOADS. Nothing in Lean hashes anything: it is a label: what it is worth is what the hold of that sum in a sandbox is worth. -/
noncomputable def Try.pinned : Pinned := { name := "ytoddncakdnmloaa", sum := "3f78f2da17d0bfd80a026fed5de9e3ec135dd0638550d8444eaf9819a0350e0d", checked := Try.checked }
namespace Rows
def none {H : Type} : Left H := { results := [], args := [] }

/-- 'coachyardlaw29.StatsOf': WHATEVER THE INPUT: true; the input reads as it did. -/
def statsOfSpec : ChangeSpec := { name := "statsOf", fn := fun _ => fun
  | [d] => { results := [.lit (.bool true)], args := [d] }
  | _ => none }
def statsOfRow : OpenClaim := { program := "ytoddncakdnmloaa", sum := "3f78f2da17d0bfd80a026fed5de9e3ec135dd0638550d8444eaf9819a0350e0d", func := "coachyard/coachyardlaw29.StatsOf", spec := "statsOf", unfollowed := true, recurses := true, apart := false }
def StatsOfSaid : Prop := statsOfRow.holds Try.pinned (OpenSpec.ofChange statsOfSpec)

/-- ITS FALSE NEIGHBOUR: 'it returns false'. Refute it at one input. -/
def statsOfWrong : ChangeSpec := { name := "statsOf", fn := fun _ => fun
  | [d] => { results := [.lit (.bool false)], args := [d] }
  | _ => none }
def StatsOfWrongFalsely : Prop := statsOfRow.holds Try.pinned (OpenSpec.ofChange statsOfWrong)

/-- 'coachyardlaw29.StatsLoad': WHATEVER THE INPUT: true; the input reads as it did. -/
def statsLoadSpec : ChangeSpec := { name := "statsLoad", fn := fun _ => fun
  | [d] => { results := [.lit (.bool true)], args := [d] }
  | _ => none }
def statsLoadRow : OpenClaim := { program := "ytoddncakdnmloaa", sum := "3f78f2da17d0bfd80a026fed5de9e3ec135dd0638550d8444eaf9819a0350e0d", func := "coachyard/coachyardlaw29.StatsLoad", spec := "statsLoad", unfollowed := true, recurses := true, apart := false }
def StatsLoadSaid : Prop := statsLoadRow.holds Try.pinned (OpenSpec.ofChange statsLoadSpec)

/-- ITS FALSE NEIGHBOUR: 'it returns false'. Refute it at one input. -/
def statsLoadWrong : ChangeSpec := { name := "statsLoad", fn := fun _ => fun
  | [d] => { results := [.lit (.bool false)], args := [d] }
  | _ => none }
def StatsLoadWrongFalsely : Prop := statsLoadRow.holds Try.pinned (OpenSpec.ofChange statsLoadWrong)

/-- 'coachyardlaw29.StatsCalls': WHATEVER THE INPUT: true; the input reads as it did. -/
def statsCallsSpec : ChangeSpec := { name := "statsCalls", fn := fun _ => fun
  | [d1, d2, d3] => { results := [.lit (.bool true)], args := [d1, d2, d3] }
  | _ => none }
def statsCallsRow : OpenClaim := { program := "ytoddncakdnmloaa", sum := "3f78f2da17d0bfd80a026fed5de9e3ec135dd0638550d8444eaf9819a0350e0d", func := "coachyard/coachyardlaw29.StatsCalls", spec := "statsCalls", unfollowed := true, recurses := true, apart := false }
def StatsCallsSaid : Prop := statsCallsRow.holds Try.pinned (OpenSpec.ofChange statsCallsSpec)

/-- ITS FALSE NEIGHBOUR: 'it returns false'. Refute it at one input. -/
def statsCallsWrong : ChangeSpec := { name := "statsCalls", fn := fun _ => fun
  | [d1, d2, d3] => { results := [.lit (.bool false)], args := [d1, d2, d3] }
  | _ => none }
def StatsCallsWrongFalsely : Prop := statsCallsRow.holds Try.pinned (OpenSpec.ofChange statsCallsWrong)

/- THE SECOND FORM. 'bulk': how many values and letters a reading holds, each counted each time it is reached (what is shared counts as often as it is met; a slice's spare places count too). A statement '..UptoSaid' is the law's where the arguments, and the package variables that the reading takes, are together of bulk at most 1048576: NARROWER than '..Said'. Prove '..Said' where nothing that the law and all that it calls make is longer than what came in: it says more and counts as full. Else prove '..UptoSaid'. A law counts once. -/
mutual
def uptoBulk {H : Type} : DataW H → Nat
  | .lit (.string bytes) => bytes.length + 1
  | .lit _ => 1
  | .nil => 1
  | .ptr d => uptoBulk d + 1
  | .slice elems spare => uptoBulkAll elems + uptoBulkAll spare + 1
  | .agg parts => uptoBulkAll parts + 1
  | .iface _ d => uptoBulk d + 1
  | .map entries => uptoBulkEntries entries + 1
  | .held _ => 1
def uptoBulkAll {H : Type} : List (DataW H) → Nat
  | [] => 0
  | d :: r => uptoBulk d + uptoBulkAll r
def uptoBulkEntries {H : Type} : List (Lit × DataW H) → Nat
  | [] => 0
  | x :: r => uptoBulkEntry x + uptoBulkEntries r
def uptoBulkEntry {H : Type} : Lit × DataW H → Nat
  | (.string bytes, d) => bytes.length + uptoBulk d + 1
  | (_, d) => uptoBulk d + 1
 end
def uptoSmall : (H : Type) → List (DataW H) → Bool := fun _ ds => decide (uptoBulkAll ds ≤ 1048576)
def OpenSpec.upto (s : _root_.Go.ChangeSpec) : _root_.Go.OpenSpec := { _root_.Go.OpenSpec.ofChange s with cond := some uptoSmall }

/-- 'coachyardlaw29.StatsOf', WHERE WHAT IT READS IS OF BULK AT MOST 1048576: true; the input reads as it did. -/
def statsOfUptoRow : OpenClaim := { program := "ytoddncakdnmloaa", sum := "3f78f2da17d0bfd80a026fed5de9e3ec135dd0638550d8444eaf9819a0350e0d", func := "coachyard/coachyardlaw29.StatsOf", spec := "statsOf", unfollowed := true, recurses := true, apart := false, narrowed := true }
def StatsOfUptoSaid : Prop := statsOfUptoRow.holds Try.pinned (OpenSpec.upto statsOfSpec)

/-- 'coachyardlaw29.StatsLoad', WHERE WHAT IT READS IS OF BULK AT MOST 1048576: true; the input reads as it did. -/
def statsLoadUptoRow : OpenClaim := { program := "ytoddncakdnmloaa", sum := "3f78f2da17d0bfd80a026fed5de9e3ec135dd0638550d8444eaf9819a0350e0d", func := "coachyard/coachyardlaw29.StatsLoad", spec := "statsLoad", unfollowed := true, recurses := true, apart := false, narrowed := true }
def StatsLoadUptoSaid : Prop := statsLoadUptoRow.holds Try.pinned (OpenSpec.upto statsLoadSpec)

/-- 'coachyardlaw29.StatsCalls', WHERE WHAT IT READS IS OF BULK AT MOST 1048576: true; the input reads as it did. -/
def statsCallsUptoRow : OpenClaim := { program := "ytoddncakdnmloaa", sum := "3f78f2da17d0bfd80a026fed5de9e3ec135dd0638550d8444eaf9819a0350e0d", func := "coachyard/coachyardlaw29.StatsCalls", spec := "statsCalls", unfollowed := true, recurses := true, apart := false, narrowed := true }
def StatsCallsUptoSaid : Prop := statsCallsUptoRow.holds Try.pinned (OpenSpec.upto statsCallsSpec)

end Rows
end Go.Proofs.Ytoddncakdnmloaa
