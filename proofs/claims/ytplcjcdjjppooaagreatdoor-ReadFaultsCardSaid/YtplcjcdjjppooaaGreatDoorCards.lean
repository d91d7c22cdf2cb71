/-
  DERIVED. GIVEN WITH THE SEED: THE CARDS: each row of YtplcjcdjjppooaaGreatDoorRows.lean that lists a variable, with what it lists TIED to the program's text (the seventh form; the later family's looks); each row that meets fmt, with fmt's text TOLD by the authors' own Lean function (tested against real Go, not proved from fmt's source: count such statements apart). THE CARD IS WHAT COUNTS. Prove the row's statement (the work); the ties are given (YtplcjcdjjppooaaGreatDoorTie.lean); close each card by the builder's one call (the guide's Derived/Test/ToyasCard.lean, 'card_holds'). Laid BY PROGRAM, IN A SANDBOX (cutbox-door.mjs). By AI agents, Wed Nov 11 2026. No macro, syntax, notation, axiom, sorry.
-/
import Derived.Test.YtplcjcdjjppooaaGreatDoorRows
import GoSem.ClaimSeven
namespace Go.Proofs.YtplcjcdjjppooaaGreatDoor
namespace Rows

/-- THE TIED CARD OF 'whelklaw5.ReadFaults'. -/
def readFaultsCard : Claim7 := { stood := { row := readFaultsRow, standIns := [], harness := (true, "695f75cd0e133fa7818cf0b29a1f59ce4ef2b9ae147ac4b3604cf9beca4ad375"), looks := true }, kinds := [], alts := [], laidByText := true, laidKinds := [.data, .data, .data, .handle], laidTests := true, laidLooks := .later }
def ReadFaultsCardSaid : Prop := Claim7.holds Tryz.pinned (.plain (OpenSpec.ofChange readFaultsSpec)) readFaultsCard

/-- THE SECOND FORM's CARD OF 'whelklaw5.ReadFaults'. -/
def readFaultsUptoCard : Claim7 := { stood := { row := readFaultsUptoRow, standIns := [], harness := (true, "695f75cd0e133fa7818cf0b29a1f59ce4ef2b9ae147ac4b3604cf9beca4ad375"), looks := true }, kinds := [], alts := [], laidByText := true, laidKinds := [.data, .data, .data, .handle], laidTests := true, laidLooks := .later }
def ReadFaultsUptoCardSaid : Prop := Claim7.holds Tryz.pinned (.plain (OpenSpec.upto readFaultsSpec)) readFaultsUptoCard
end Rows
end Go.Proofs.YtplcjcdjjppooaaGreatDoor
