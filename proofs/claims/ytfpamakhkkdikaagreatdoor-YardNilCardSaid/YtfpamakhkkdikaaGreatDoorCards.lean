/-
  DERIVED. GIVEN WITH THE SEED: THE CARDS: each row of YtfpamakhkkdikaaGreatDoorRows.lean that lists a variable, with what it lists TIED to the program's text (the seventh form; the later family's looks); each row that meets fmt, with fmt's text TOLD by the authors' own Lean function (tested against real Go, not proved from fmt's source: count such statements apart). THE CARD IS WHAT COUNTS. Prove the row's statement (the work); the ties are given (YtfpamakhkkdikaaGreatDoorTie.lean); close each card by the builder's one call (the guide's Derived/Test/ToyasCard.lean, 'card_holds'). Laid BY PROGRAM, IN A SANDBOX (cutbox-door.mjs). By AI agents, Wed Nov 11 2026. No macro, syntax, notation, axiom, sorry.
-/
import Derived.Test.YtfpamakhkkdikaaGreatDoorRows
import GoSem.ClaimSeven
namespace Go.Proofs.YtfpamakhkkdikaaGreatDoor
namespace Rows

/-- THE TIED CARD OF 'coachyardlaw14.PoolNil'. -/
def poolNilCard : Claim7 := { stood := { row := poolNilRow, standIns := [], harness := (true, "ad0ca9c3ff82c80078ba9893d1cd0b3d21d17960e47356263c5bd23242414deb"), looks := true }, kinds := [], alts := [], laidByText := true, laidKinds := [.data], laidTests := true, laidLooks := .later }
def PoolNilCardSaid : Prop := Claim7.holds Tryz.pinned (.plain (OpenSpec.ofChange poolNilSpec)) poolNilCard

/-- THE TIED CARD OF 'coachyardlaw19.YardNil'. -/
def yardNilCard : Claim7 := { stood := { row := yardNilRow, standIns := [], harness := (true, "ad0ca9c3ff82c80078ba9893d1cd0b3d21d17960e47356263c5bd23242414deb"), looks := true }, kinds := [], alts := [], laidByText := true, laidKinds := [.data], laidTests := true, laidLooks := .later }
def YardNilCardSaid : Prop := Claim7.holds Tryz.pinned (.plain (OpenSpec.ofChange yardNilSpec)) yardNilCard

/-- THE TIED CARD OF 'coachyardlaw24.CrewLong'. -/
def crewLongCard : Claim7 := { stood := { row := crewLongRow, standIns := [], harness := (true, "ad0ca9c3ff82c80078ba9893d1cd0b3d21d17960e47356263c5bd23242414deb"), looks := true }, kinds := [], alts := [], laidByText := true, laidKinds := [.data], laidTests := true, laidLooks := .later }
def CrewLongCardSaid : Prop := Claim7.holds Tryz.pinned (.plain (OpenSpec.ofChange crewLongSpec)) crewLongCard

/-- THE SECOND FORM's CARD OF 'coachyardlaw14.PoolNil'. -/
def poolNilUptoCard : Claim7 := { stood := { row := poolNilUptoRow, standIns := [], harness := (true, "ad0ca9c3ff82c80078ba9893d1cd0b3d21d17960e47356263c5bd23242414deb"), looks := true }, kinds := [], alts := [], laidByText := true, laidKinds := [.data], laidTests := true, laidLooks := .later }
def PoolNilUptoCardSaid : Prop := Claim7.holds Tryz.pinned (.plain (OpenSpec.upto poolNilSpec)) poolNilUptoCard

/-- THE SECOND FORM's CARD OF 'coachyardlaw19.YardNil'. -/
def yardNilUptoCard : Claim7 := { stood := { row := yardNilUptoRow, standIns := [], harness := (true, "ad0ca9c3ff82c80078ba9893d1cd0b3d21d17960e47356263c5bd23242414deb"), looks := true }, kinds := [], alts := [], laidByText := true, laidKinds := [.data], laidTests := true, laidLooks := .later }
def YardNilUptoCardSaid : Prop := Claim7.holds Tryz.pinned (.plain (OpenSpec.upto yardNilSpec)) yardNilUptoCard

/-- THE SECOND FORM's CARD OF 'coachyardlaw24.CrewLong'. -/
def crewLongUptoCard : Claim7 := { stood := { row := crewLongUptoRow, standIns := [], harness := (true, "ad0ca9c3ff82c80078ba9893d1cd0b3d21d17960e47356263c5bd23242414deb"), looks := true }, kinds := [], alts := [], laidByText := true, laidKinds := [.data], laidTests := true, laidLooks := .later }
def CrewLongUptoCardSaid : Prop := Claim7.holds Tryz.pinned (.plain (OpenSpec.upto crewLongSpec)) crewLongUptoCard
end Rows
end Go.Proofs.YtfpamakhkkdikaaGreatDoor
