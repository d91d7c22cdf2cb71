/-
  DERIVED. GIVEN WITH THE SEED: THE CARDS: each row of YtpohgiinajfepaaDoorRows.lean that lists a variable, with what it lists TIED to the program's text (the seventh form; the later family's looks); each row that meets fmt, with fmt's text TOLD by the authors' own Lean function (tested against real Go, not proved from fmt's source: count such statements apart). THE CARD IS WHAT COUNTS. Prove the row's statement (the work); the ties are given (YtpohgiinajfepaaDoorTie.lean); close each card by the builder's one call (the guide's Derived/Test/ToyasCard.lean, 'card_holds'). Laid BY PROGRAM, IN A SANDBOX (cutbox-door.mjs). By AI agents, Wed Nov 11 2026. No macro, syntax, notation, axiom, sorry.
-/
import Derived.Test.YtpohgiinajfepaaDoorRows
import GoSem.ClaimSeven
namespace Go.Proofs.YtpohgiinajfepaaDoor
namespace Rows

/-- THE TIED CARD OF 'whelklaw4.LexBytes'. -/
def lexBytesCard : Claim7 := { stood := { row := lexBytesRow, standIns := [], harness := (true, "41ed655162c58f08dccbc67ed1b66264d2f5aded32ba8a6925aafa8e75d89ea7"), looks := true }, kinds := [], alts := [], laidByText := true, laidKinds := [.data, .data, .data, .handle], laidTests := true, laidLooks := .later }
def LexBytesCardSaid : Prop := Claim7.holds Tryd.pinned (.plain (OpenSpec.ofChange lexBytesSpec)) lexBytesCard

/-- THE TIED CARD OF 'whelklaw4.LexBack'. -/
def lexBackCard : Claim7 := { stood := { row := lexBackRow, standIns := [], harness := (true, "41ed655162c58f08dccbc67ed1b66264d2f5aded32ba8a6925aafa8e75d89ea7"), looks := true }, kinds := [], alts := [], laidByText := true, laidKinds := [.data, .data, .data, .handle], laidTests := true, laidLooks := .later }
def LexBackCardSaid : Prop := Claim7.holds Tryd.pinned (.plain (OpenSpec.ofChange lexBackSpec)) lexBackCard

/-- THE TIED CARD OF 'whelklaw4.LexValues'. -/
def lexValuesCard : Claim7 := { stood := { row := lexValuesRow, standIns := [], harness := (true, "41ed655162c58f08dccbc67ed1b66264d2f5aded32ba8a6925aafa8e75d89ea7"), looks := true }, kinds := [], alts := [], laidByText := true, laidKinds := [.data, .data, .data, .handle], laidTests := true, laidLooks := .later }
def LexValuesCardSaid : Prop := Claim7.holds Tryd.pinned (.plain (OpenSpec.ofChange lexValuesSpec)) lexValuesCard

/-- THE TIED CARD OF 'whelklaw4.LexLengths'. -/
def lexLengthsCard : Claim7 := { stood := { row := lexLengthsRow, standIns := [], harness := (true, "41ed655162c58f08dccbc67ed1b66264d2f5aded32ba8a6925aafa8e75d89ea7"), looks := true }, kinds := [], alts := [], laidByText := true, laidKinds := [.data, .data, .data, .handle], laidTests := true, laidLooks := .later }
def LexLengthsCardSaid : Prop := Claim7.holds Tryd.pinned (.plain (OpenSpec.ofChange lexLengthsSpec)) lexLengthsCard

/-- THE TIED CARD OF 'whelklaw4.LexBlanks'. -/
def lexBlanksCard : Claim7 := { stood := { row := lexBlanksRow, standIns := [], harness := (true, "41ed655162c58f08dccbc67ed1b66264d2f5aded32ba8a6925aafa8e75d89ea7"), looks := true }, kinds := [], alts := [], laidByText := true, laidKinds := [.data, .data, .data, .handle], laidTests := true, laidLooks := .later }
def LexBlanksCardSaid : Prop := Claim7.holds Tryd.pinned (.plain (OpenSpec.ofChange lexBlanksSpec)) lexBlanksCard

/-- THE SECOND FORM's CARD OF 'whelklaw4.LexBytes'. -/
def lexBytesUptoCard : Claim7 := { stood := { row := lexBytesUptoRow, standIns := [], harness := (true, "41ed655162c58f08dccbc67ed1b66264d2f5aded32ba8a6925aafa8e75d89ea7"), looks := true }, kinds := [], alts := [], laidByText := true, laidKinds := [.data, .data, .data, .handle], laidTests := true, laidLooks := .later }
def LexBytesUptoCardSaid : Prop := Claim7.holds Tryd.pinned (.plain (OpenSpec.upto lexBytesSpec)) lexBytesUptoCard

/-- THE SECOND FORM's CARD OF 'whelklaw4.LexBack'. -/
def lexBackUptoCard : Claim7 := { stood := { row := lexBackUptoRow, standIns := [], harness := (true, "41ed655162c58f08dccbc67ed1b66264d2f5aded32ba8a6925aafa8e75d89ea7"), looks := true }, kinds := [], alts := [], laidByText := true, laidKinds := [.data, .data, .data, .handle], laidTests := true, laidLooks := .later }
def LexBackUptoCardSaid : Prop := Claim7.holds Tryd.pinned (.plain (OpenSpec.upto lexBackSpec)) lexBackUptoCard

/-- THE SECOND FORM's CARD OF 'whelklaw4.LexValues'. -/
def lexValuesUptoCard : Claim7 := { stood := { row := lexValuesUptoRow, standIns := [], harness := (true, "41ed655162c58f08dccbc67ed1b66264d2f5aded32ba8a6925aafa8e75d89ea7"), looks := true }, kinds := [], alts := [], laidByText := true, laidKinds := [.data, .data, .data, .handle], laidTests := true, laidLooks := .later }
def LexValuesUptoCardSaid : Prop := Claim7.holds Tryd.pinned (.plain (OpenSpec.upto lexValuesSpec)) lexValuesUptoCard

/-- THE SECOND FORM's CARD OF 'whelklaw4.LexLengths'. -/
def lexLengthsUptoCard : Claim7 := { stood := { row := lexLengthsUptoRow, standIns := [], harness := (true, "41ed655162c58f08dccbc67ed1b66264d2f5aded32ba8a6925aafa8e75d89ea7"), looks := true }, kinds := [], alts := [], laidByText := true, laidKinds := [.data, .data, .data, .handle], laidTests := true, laidLooks := .later }
def LexLengthsUptoCardSaid : Prop := Claim7.holds Tryd.pinned (.plain (OpenSpec.upto lexLengthsSpec)) lexLengthsUptoCard

/-- THE SECOND FORM's CARD OF 'whelklaw4.LexBlanks'. -/
def lexBlanksUptoCard : Claim7 := { stood := { row := lexBlanksUptoRow, standIns := [], harness := (true, "41ed655162c58f08dccbc67ed1b66264d2f5aded32ba8a6925aafa8e75d89ea7"), looks := true }, kinds := [], alts := [], laidByText := true, laidKinds := [.data, .data, .data, .handle], laidTests := true, laidLooks := .later }
def LexBlanksUptoCardSaid : Prop := Claim7.holds Tryd.pinned (.plain (OpenSpec.upto lexBlanksSpec)) lexBlanksUptoCard
end Rows
end Go.Proofs.YtpohgiinajfepaaDoor
