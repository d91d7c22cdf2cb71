/-
  DERIVED. GIVEN WITH THE SEED: THE CARDS: each row of YtnlknpeelpnbaaaGreatDoorRows.lean that lists a variable, with what it lists TIED to the program's text (the seventh form; the later family's looks); each row that meets fmt, with fmt's text TOLD by the authors' own Lean function (tested against real Go, not proved from fmt's source: count such statements apart). THE CARD IS WHAT COUNTS. Prove the row's statement (the work); the ties are given (YtnlknpeelpnbaaaGreatDoorTie.lean); close each card by the builder's one call (the guide's Derived/Test/ToyasCard.lean, 'card_holds'). Laid BY PROGRAM, IN A SANDBOX (cutbox-door.mjs). By AI agents, Wed Nov 11 2026. No macro, syntax, notation, axiom, sorry.
-/
import Derived.Test.YtnlknpeelpnbaaaGreatDoorRows
import GoSem.ClaimSeven
namespace Go.Proofs.YtnlknpeelpnbaaaGreatDoor
namespace Rows

/-- THE TIED CARD OF 'whelklaw5.ReadBytes'. -/
def readBytesCard : Claim7 := { stood := { row := readBytesRow, standIns := [], harness := (true, "c14aa5727697d8e7bb57567bfbceaaba5a08a6ab9a9dc9cdd49eca58e969f824"), looks := true }, kinds := [], alts := [], laidByText := true, laidKinds := [.data, .data, .data, .handle], laidTests := true, laidLooks := .later }
def ReadBytesCardSaid : Prop := Claim7.holds Tryz.pinned (.plain (OpenSpec.ofChange readBytesSpec)) readBytesCard

/-- THE TIED CARD OF 'whelklaw5.ReadBack'. -/
def readBackCard : Claim7 := { stood := { row := readBackRow, standIns := [], harness := (true, "c14aa5727697d8e7bb57567bfbceaaba5a08a6ab9a9dc9cdd49eca58e969f824"), looks := true }, kinds := [], alts := [], laidByText := true, laidKinds := [.data, .data, .data, .handle], laidTests := true, laidLooks := .later }
def ReadBackCardSaid : Prop := Claim7.holds Tryz.pinned (.plain (OpenSpec.ofChange readBackSpec)) readBackCard

/-- THE TIED CARD OF 'whelklaw5.ReadDepths'. -/
def readDepthsCard : Claim7 := { stood := { row := readDepthsRow, standIns := [], harness := (true, "c14aa5727697d8e7bb57567bfbceaaba5a08a6ab9a9dc9cdd49eca58e969f824"), looks := true }, kinds := [], alts := [], laidByText := true, laidKinds := [.data, .data, .data, .handle], laidTests := true, laidLooks := .later }
def ReadDepthsCardSaid : Prop := Claim7.holds Tryz.pinned (.plain (OpenSpec.ofChange readDepthsSpec)) readDepthsCard

/-- THE TIED CARD OF 'whelklaw5.ReadJoins'. -/
def readJoinsCard : Claim7 := { stood := { row := readJoinsRow, standIns := [], harness := (true, "c14aa5727697d8e7bb57567bfbceaaba5a08a6ab9a9dc9cdd49eca58e969f824"), looks := true }, kinds := [], alts := [], laidByText := true, laidKinds := [.data, .data, .data, .handle], laidTests := true, laidLooks := .later }
def ReadJoinsCardSaid : Prop := Claim7.holds Tryz.pinned (.plain (OpenSpec.ofChange readJoinsSpec)) readJoinsCard

/-- THE TIED CARD OF 'whelklaw5.ReadOpen'. -/
def readOpenCard : Claim7 := { stood := { row := readOpenRow, standIns := [], harness := (true, "c14aa5727697d8e7bb57567bfbceaaba5a08a6ab9a9dc9cdd49eca58e969f824"), looks := true }, kinds := [], alts := [], laidByText := true, laidKinds := [.data, .data, .data, .handle], laidTests := true, laidLooks := .later }
def ReadOpenCardSaid : Prop := Claim7.holds Tryz.pinned (.plain (OpenSpec.ofChange readOpenSpec)) readOpenCard

/-- THE TIED CARD OF 'whelklaw5.ReadCounts'. -/
def readCountsCard : Claim7 := { stood := { row := readCountsRow, standIns := [], harness := (true, "c14aa5727697d8e7bb57567bfbceaaba5a08a6ab9a9dc9cdd49eca58e969f824"), looks := true }, kinds := [], alts := [], laidByText := true, laidKinds := [.data, .data, .data, .handle], laidTests := true, laidLooks := .later }
def ReadCountsCardSaid : Prop := Claim7.holds Tryz.pinned (.plain (OpenSpec.ofChange readCountsSpec)) readCountsCard

/-- THE TIED CARD OF 'whelklaw5.ReadFaults'. -/
def readFaultsCard : Claim7 := { stood := { row := readFaultsRow, standIns := [], harness := (true, "c14aa5727697d8e7bb57567bfbceaaba5a08a6ab9a9dc9cdd49eca58e969f824"), looks := true }, kinds := [], alts := [], laidByText := true, laidKinds := [.data, .data, .data, .handle], laidTests := true, laidLooks := .later }
def ReadFaultsCardSaid : Prop := Claim7.holds Tryz.pinned (.plain (OpenSpec.ofChange readFaultsSpec)) readFaultsCard

/-- THE SECOND FORM's CARD OF 'whelklaw5.ReadBytes'. -/
def readBytesUptoCard : Claim7 := { stood := { row := readBytesUptoRow, standIns := [], harness := (true, "c14aa5727697d8e7bb57567bfbceaaba5a08a6ab9a9dc9cdd49eca58e969f824"), looks := true }, kinds := [], alts := [], laidByText := true, laidKinds := [.data, .data, .data, .handle], laidTests := true, laidLooks := .later }
def ReadBytesUptoCardSaid : Prop := Claim7.holds Tryz.pinned (.plain (OpenSpec.upto readBytesSpec)) readBytesUptoCard

/-- THE SECOND FORM's CARD OF 'whelklaw5.ReadBack'. -/
def readBackUptoCard : Claim7 := { stood := { row := readBackUptoRow, standIns := [], harness := (true, "c14aa5727697d8e7bb57567bfbceaaba5a08a6ab9a9dc9cdd49eca58e969f824"), looks := true }, kinds := [], alts := [], laidByText := true, laidKinds := [.data, .data, .data, .handle], laidTests := true, laidLooks := .later }
def ReadBackUptoCardSaid : Prop := Claim7.holds Tryz.pinned (.plain (OpenSpec.upto readBackSpec)) readBackUptoCard

/-- THE SECOND FORM's CARD OF 'whelklaw5.ReadDepths'. -/
def readDepthsUptoCard : Claim7 := { stood := { row := readDepthsUptoRow, standIns := [], harness := (true, "c14aa5727697d8e7bb57567bfbceaaba5a08a6ab9a9dc9cdd49eca58e969f824"), looks := true }, kinds := [], alts := [], laidByText := true, laidKinds := [.data, .data, .data, .handle], laidTests := true, laidLooks := .later }
def ReadDepthsUptoCardSaid : Prop := Claim7.holds Tryz.pinned (.plain (OpenSpec.upto readDepthsSpec)) readDepthsUptoCard

/-- THE SECOND FORM's CARD OF 'whelklaw5.ReadJoins'. -/
def readJoinsUptoCard : Claim7 := { stood := { row := readJoinsUptoRow, standIns := [], harness := (true, "c14aa5727697d8e7bb57567bfbceaaba5a08a6ab9a9dc9cdd49eca58e969f824"), looks := true }, kinds := [], alts := [], laidByText := true, laidKinds := [.data, .data, .data, .handle], laidTests := true, laidLooks := .later }
def ReadJoinsUptoCardSaid : Prop := Claim7.holds Tryz.pinned (.plain (OpenSpec.upto readJoinsSpec)) readJoinsUptoCard

/-- THE SECOND FORM's CARD OF 'whelklaw5.ReadOpen'. -/
def readOpenUptoCard : Claim7 := { stood := { row := readOpenUptoRow, standIns := [], harness := (true, "c14aa5727697d8e7bb57567bfbceaaba5a08a6ab9a9dc9cdd49eca58e969f824"), looks := true }, kinds := [], alts := [], laidByText := true, laidKinds := [.data, .data, .data, .handle], laidTests := true, laidLooks := .later }
def ReadOpenUptoCardSaid : Prop := Claim7.holds Tryz.pinned (.plain (OpenSpec.upto readOpenSpec)) readOpenUptoCard

/-- THE SECOND FORM's CARD OF 'whelklaw5.ReadCounts'. -/
def readCountsUptoCard : Claim7 := { stood := { row := readCountsUptoRow, standIns := [], harness := (true, "c14aa5727697d8e7bb57567bfbceaaba5a08a6ab9a9dc9cdd49eca58e969f824"), looks := true }, kinds := [], alts := [], laidByText := true, laidKinds := [.data, .data, .data, .handle], laidTests := true, laidLooks := .later }
def ReadCountsUptoCardSaid : Prop := Claim7.holds Tryz.pinned (.plain (OpenSpec.upto readCountsSpec)) readCountsUptoCard

/-- THE SECOND FORM's CARD OF 'whelklaw5.ReadFaults'. -/
def readFaultsUptoCard : Claim7 := { stood := { row := readFaultsUptoRow, standIns := [], harness := (true, "c14aa5727697d8e7bb57567bfbceaaba5a08a6ab9a9dc9cdd49eca58e969f824"), looks := true }, kinds := [], alts := [], laidByText := true, laidKinds := [.data, .data, .data, .handle], laidTests := true, laidLooks := .later }
def ReadFaultsUptoCardSaid : Prop := Claim7.holds Tryz.pinned (.plain (OpenSpec.upto readFaultsSpec)) readFaultsUptoCard
end Rows
end Go.Proofs.YtnlknpeelpnbaaaGreatDoor
