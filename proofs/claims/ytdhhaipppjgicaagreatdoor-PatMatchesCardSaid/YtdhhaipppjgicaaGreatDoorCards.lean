/-
  DERIVED. GIVEN WITH THE SEED: THE CARDS: each row of YtdhhaipppjgicaaGreatDoorRows.lean that lists a variable, with what it lists TIED to the program's text (the seventh form; the later family's looks); each row that meets fmt, with fmt's text TOLD by the authors' own Lean function (tested against real Go, not proved from fmt's source: count such statements apart). THE CARD IS WHAT COUNTS. Prove the row's statement (the work); the ties are given (YtdhhaipppjgicaaGreatDoorTie.lean); close each card by the builder's one call (the guide's Derived/Test/ToyasCard.lean, 'card_holds'). Laid BY PROGRAM, IN A SANDBOX (cutbox-door.mjs). By AI agents, Wed Nov 11 2026. No macro, syntax, notation, axiom, sorry.
-/
import Derived.Test.YtdhhaipppjgicaaGreatDoorRows
import GoSem.ClaimSeven
namespace Go.Proofs.YtdhhaipppjgicaaGreatDoor
namespace Rows

/-- THE TIED CARD OF 'whelklaw11.PatMatches'. -/
def patMatchesCard : Claim7 := { stood := { row := patMatchesRow, standIns := [], harness := (true, "ff3e90d03d992cba68c06b3ea811042610df50b467eaef3c2e22e9bfb45be4c9"), looks := true }, kinds := [], alts := [], laidByText := true, laidKinds := [.data, .data, .data], laidTests := true, laidLooks := .later }
def PatMatchesCardSaid : Prop := Claim7.holds Tryz.pinned (.plain (OpenSpec.ofChange patMatchesSpec)) patMatchesCard

/-- THE TIED CARD OF 'whelklaw11.PatTwice'. -/
def patTwiceCard : Claim7 := { stood := { row := patTwiceRow, standIns := [], harness := (true, "ff3e90d03d992cba68c06b3ea811042610df50b467eaef3c2e22e9bfb45be4c9"), looks := true }, kinds := [], alts := [], laidByText := true, laidKinds := [.data, .data, .data], laidTests := true, laidLooks := .later }
def PatTwiceCardSaid : Prop := Claim7.holds Tryz.pinned (.plain (OpenSpec.ofChange patTwiceSpec)) patTwiceCard

/-- THE TIED CARD OF 'whelklaw11.PatWide'. -/
def patWideCard : Claim7 := { stood := { row := patWideRow, standIns := [], harness := (true, "ff3e90d03d992cba68c06b3ea811042610df50b467eaef3c2e22e9bfb45be4c9"), looks := true }, kinds := [], alts := [], laidByText := true, laidKinds := [.data, .data, .data], laidTests := true, laidLooks := .later }
def PatWideCardSaid : Prop := Claim7.holds Tryz.pinned (.plain (OpenSpec.ofChange patWideSpec)) patWideCard

/-- THE TIED CARD OF 'whelklaw11.PatBytes'. -/
def patBytesCard : Claim7 := { stood := { row := patBytesRow, standIns := [], harness := (true, "ff3e90d03d992cba68c06b3ea811042610df50b467eaef3c2e22e9bfb45be4c9"), looks := true }, kinds := [], alts := [], laidByText := true, laidKinds := [.data, .data, .data, .handle], laidTests := true, laidLooks := .later }
def PatBytesCardSaid : Prop := Claim7.holds Tryz.pinned (.plain (OpenSpec.ofChange patBytesSpec)) patBytesCard

/-- THE SECOND FORM's CARD OF 'whelklaw11.PatMatches'. -/
def patMatchesUptoCard : Claim7 := { stood := { row := patMatchesUptoRow, standIns := [], harness := (true, "ff3e90d03d992cba68c06b3ea811042610df50b467eaef3c2e22e9bfb45be4c9"), looks := true }, kinds := [], alts := [], laidByText := true, laidKinds := [.data, .data, .data], laidTests := true, laidLooks := .later }
def PatMatchesUptoCardSaid : Prop := Claim7.holds Tryz.pinned (.plain (OpenSpec.upto patMatchesSpec)) patMatchesUptoCard

/-- THE SECOND FORM's CARD OF 'whelklaw11.PatTwice'. -/
def patTwiceUptoCard : Claim7 := { stood := { row := patTwiceUptoRow, standIns := [], harness := (true, "ff3e90d03d992cba68c06b3ea811042610df50b467eaef3c2e22e9bfb45be4c9"), looks := true }, kinds := [], alts := [], laidByText := true, laidKinds := [.data, .data, .data], laidTests := true, laidLooks := .later }
def PatTwiceUptoCardSaid : Prop := Claim7.holds Tryz.pinned (.plain (OpenSpec.upto patTwiceSpec)) patTwiceUptoCard

/-- THE SECOND FORM's CARD OF 'whelklaw11.PatWide'. -/
def patWideUptoCard : Claim7 := { stood := { row := patWideUptoRow, standIns := [], harness := (true, "ff3e90d03d992cba68c06b3ea811042610df50b467eaef3c2e22e9bfb45be4c9"), looks := true }, kinds := [], alts := [], laidByText := true, laidKinds := [.data, .data, .data], laidTests := true, laidLooks := .later }
def PatWideUptoCardSaid : Prop := Claim7.holds Tryz.pinned (.plain (OpenSpec.upto patWideSpec)) patWideUptoCard

/-- THE SECOND FORM's CARD OF 'whelklaw11.PatBytes'. -/
def patBytesUptoCard : Claim7 := { stood := { row := patBytesUptoRow, standIns := [], harness := (true, "ff3e90d03d992cba68c06b3ea811042610df50b467eaef3c2e22e9bfb45be4c9"), looks := true }, kinds := [], alts := [], laidByText := true, laidKinds := [.data, .data, .data, .handle], laidTests := true, laidLooks := .later }
def PatBytesUptoCardSaid : Prop := Claim7.holds Tryz.pinned (.plain (OpenSpec.upto patBytesSpec)) patBytesUptoCard
end Rows
end Go.Proofs.YtdhhaipppjgicaaGreatDoor
