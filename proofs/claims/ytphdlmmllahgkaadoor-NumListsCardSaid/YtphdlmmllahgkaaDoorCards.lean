/-
  DERIVED. GIVEN WITH THE SEED: THE CARDS: each row of YtphdlmmllahgkaaDoorRows.lean that lists a variable, with what it lists TIED to the program's text (the seventh form; the later family's looks); each row that meets fmt, with fmt's text TOLD by the authors' own Lean function (tested against real Go, not proved from fmt's source: count such statements apart). THE CARD IS WHAT COUNTS. Prove the row's statement (the work); the ties are given (YtphdlmmllahgkaaDoorTie.lean); close each card by the builder's one call (the guide's Derived/Test/ToyasCard.lean, 'card_holds'). Laid BY PROGRAM, IN A SANDBOX (cutbox-door.mjs). By AI agents, Wed Nov 11 2026. No macro, syntax, notation, axiom, sorry.
-/
import Derived.Test.YtphdlmmllahgkaaDoorRows
import GoSem.ClaimSeven
namespace Go.Proofs.YtphdlmmllahgkaaDoor
namespace Rows

/-- THE TIED CARD OF 'coachyardlaw02.NumReads'. -/
def numReadsCard : Claim7 := { stood := { row := numReadsRow, standIns := [], harness := (true, "34b1ad82221d72b7f4ddd5a08bbe9f82110d239022564c01d0333c606bca657a"), looks := true }, kinds := [], alts := [], laidByText := true, laidKinds := [.data, .data, .data, .sentinel, .sentinel], laidTests := true, laidLooks := .later }
def NumReadsCardSaid : Prop := Claim7.holds Tryd.pinned (.plain (OpenSpec.ofChange numReadsSpec)) numReadsCard

/-- THE TIED CARD OF 'coachyardlaw02.NumLists'. -/
def numListsCard : Claim7 := { stood := { row := numListsRow, standIns := [], harness := (true, "34b1ad82221d72b7f4ddd5a08bbe9f82110d239022564c01d0333c606bca657a"), looks := true }, kinds := [], alts := [], laidByText := true, laidKinds := [.data, .data, .data, .data, .sentinel, .sentinel, .pinned], laidTests := true, laidLooks := .later }
def NumListsCardSaid : Prop := Claim7.holds Tryd.pinned (.plain (OpenSpec.ofChange numListsSpec)) numListsCard

/-- THE SECOND FORM's CARD OF 'coachyardlaw02.NumReads'. -/
def numReadsUptoCard : Claim7 := { stood := { row := numReadsUptoRow, standIns := [], harness := (true, "34b1ad82221d72b7f4ddd5a08bbe9f82110d239022564c01d0333c606bca657a"), looks := true }, kinds := [], alts := [], laidByText := true, laidKinds := [.data, .data, .data, .sentinel, .sentinel], laidTests := true, laidLooks := .later }
def NumReadsUptoCardSaid : Prop := Claim7.holds Tryd.pinned (.plain (OpenSpec.upto numReadsSpec)) numReadsUptoCard

/-- THE SECOND FORM's CARD OF 'coachyardlaw02.NumLists'. -/
def numListsUptoCard : Claim7 := { stood := { row := numListsUptoRow, standIns := [], harness := (true, "34b1ad82221d72b7f4ddd5a08bbe9f82110d239022564c01d0333c606bca657a"), looks := true }, kinds := [], alts := [], laidByText := true, laidKinds := [.data, .data, .data, .data, .sentinel, .sentinel, .pinned], laidTests := true, laidLooks := .later }
def NumListsUptoCardSaid : Prop := Claim7.holds Tryd.pinned (.plain (OpenSpec.upto numListsSpec)) numListsUptoCard
end Rows
end Go.Proofs.YtphdlmmllahgkaaDoor
