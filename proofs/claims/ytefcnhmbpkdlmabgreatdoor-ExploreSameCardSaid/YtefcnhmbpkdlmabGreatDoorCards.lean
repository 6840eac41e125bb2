/-
  DERIVED. GIVEN WITH THE SEED: THE CARDS: each row of YtefcnhmbpkdlmabGreatDoorRows.lean that lists a variable, with what it lists TIED to the program's text (the seventh form; the later family's looks); each row that meets fmt, with fmt's text TOLD by the authors' own Lean function (tested against real Go, not proved from fmt's source: count such statements apart). THE CARD IS WHAT COUNTS. Prove the row's statement (the work); the ties are given (YtefcnhmbpkdlmabGreatDoorTie.lean); close each card by the builder's one call (the guide's Derived/Test/ToyasCard.lean, 'card_holds'). Laid BY PROGRAM, IN A SANDBOX (cutbox-door.mjs). By AI agents, Wed Nov 11 2026. No macro, syntax, notation, axiom, sorry.
-/
import Derived.Test.YtefcnhmbpkdlmabGreatDoorRows
import GoSem.ClaimSeven
namespace Go.Proofs.YtefcnhmbpkdlmabGreatDoor
namespace Rows

/-- THE TIED CARD OF 'coachyardlaw21.ExploreSame'. -/
def exploreSameCard : Claim7 := { stood := { row := exploreSameRow, standIns := [], harness := (true, "139a39415bc05f07dc24cc2d7fd8fb7de0961e5a9aabcab6e89d5ef87dd37ce9"), looks := true }, kinds := [], alts := [], laidByText := true, laidKinds := [.data], laidTests := true, laidLooks := .later }
def ExploreSameCardSaid : Prop := Claim7.holds Tryz.pinned (.plain (OpenSpec.ofChange exploreSameSpec)) exploreSameCard

/-- THE SECOND FORM's CARD OF 'coachyardlaw21.ExploreSame'. -/
def exploreSameUptoCard : Claim7 := { stood := { row := exploreSameUptoRow, standIns := [], harness := (true, "139a39415bc05f07dc24cc2d7fd8fb7de0961e5a9aabcab6e89d5ef87dd37ce9"), looks := true }, kinds := [], alts := [], laidByText := true, laidKinds := [.data], laidTests := true, laidLooks := .later }
def ExploreSameUptoCardSaid : Prop := Claim7.holds Tryz.pinned (.plain (OpenSpec.upto exploreSameSpec)) exploreSameUptoCard
end Rows
end Go.Proofs.YtefcnhmbpkdlmabGreatDoor
