/-
  DERIVED. GIVEN WITH THE SEED: THE CARDS: each row of YtnkmeafaggdfdaaDoorRows.lean that lists a variable, with what it lists TIED to the program's text (the seventh form; the later family's looks); each row that meets fmt, with fmt's text TOLD by the authors' own Lean function (tested against real Go, not proved from fmt's source: count such statements apart). THE CARD IS WHAT COUNTS. Prove the row's statement (the work); the ties are given (YtnkmeafaggdfdaaDoorTie.lean); close each card by the builder's one call (the guide's Derived/Test/ToyasCard.lean, 'card_holds'). Laid BY PROGRAM, IN A SANDBOX (cutbox-door.mjs). By AI agents, Wed Nov 11 2026. No macro, syntax, notation, axiom, sorry.
-/
import Derived.Test.YtnkmeafaggdfdaaDoorRows
import GoSem.ClaimSeven
namespace Go.Proofs.YtnkmeafaggdfdaaDoor
namespace Rows

/-- THE TIED CARD OF 'whelklaw3.ValuesWords'. -/
def valuesWordsCard : Claim7 := { stood := { row := valuesWordsRow, standIns := [], harness := (true, "298733b3c5957b6f518ff04831f3661ad0e75abb3f14754ed25f542080133d68"), looks := false }, kinds := [], alts := [], laidByText := true, laidKinds := [.data, .data, .data], laidTests := true, laidLooks := .later }
def ValuesWordsCardSaid : Prop := Claim7.holds Tryd.pinned (.plain (OpenSpec.ofChange valuesWordsSpec)) valuesWordsCard

/-- THE TIED CARD OF 'whelklaw3.ValuesRows'. -/
def valuesRowsCard : Claim7 := { stood := { row := valuesRowsRow, standIns := [], harness := (true, "298733b3c5957b6f518ff04831f3661ad0e75abb3f14754ed25f542080133d68"), looks := false }, kinds := [], alts := [], laidByText := true, laidKinds := [.data, .data, .data], laidTests := true, laidLooks := .later }
def ValuesRowsCardSaid : Prop := Claim7.holds Tryd.pinned (.plain (OpenSpec.ofChange valuesRowsSpec)) valuesRowsCard

/-- THE TIED CARD OF 'whelklaw3.ValuesThree'. -/
def valuesThreeCard : Claim7 := { stood := { row := valuesThreeRow, standIns := [], harness := (true, "298733b3c5957b6f518ff04831f3661ad0e75abb3f14754ed25f542080133d68"), looks := false }, kinds := [], alts := [], laidByText := true, laidKinds := [.data, .data, .data], laidTests := true, laidLooks := .later }
def ValuesThreeCardSaid : Prop := Claim7.holds Tryd.pinned (.plain (OpenSpec.ofChange valuesThreeSpec)) valuesThreeCard

/-- THE TIED CARD OF 'whelklaw3.ValuesMade'. -/
def valuesMadeCard : Claim7 := { stood := { row := valuesMadeRow, standIns := [], harness := (true, "298733b3c5957b6f518ff04831f3661ad0e75abb3f14754ed25f542080133d68"), looks := false }, kinds := [], alts := [], laidByText := true, laidKinds := [.data, .data, .data], laidTests := true, laidLooks := .later }
def ValuesMadeCardSaid : Prop := Claim7.holds Tryd.pinned (.plain (OpenSpec.ofChange valuesMadeSpec)) valuesMadeCard

/-- THE SECOND FORM's CARD OF 'whelklaw3.ValuesWords'. -/
def valuesWordsUptoCard : Claim7 := { stood := { row := valuesWordsUptoRow, standIns := [], harness := (true, "298733b3c5957b6f518ff04831f3661ad0e75abb3f14754ed25f542080133d68"), looks := false }, kinds := [], alts := [], laidByText := true, laidKinds := [.data, .data, .data], laidTests := true, laidLooks := .later }
def ValuesWordsUptoCardSaid : Prop := Claim7.holds Tryd.pinned (.plain (OpenSpec.upto valuesWordsSpec)) valuesWordsUptoCard

/-- THE SECOND FORM's CARD OF 'whelklaw3.ValuesRows'. -/
def valuesRowsUptoCard : Claim7 := { stood := { row := valuesRowsUptoRow, standIns := [], harness := (true, "298733b3c5957b6f518ff04831f3661ad0e75abb3f14754ed25f542080133d68"), looks := false }, kinds := [], alts := [], laidByText := true, laidKinds := [.data, .data, .data], laidTests := true, laidLooks := .later }
def ValuesRowsUptoCardSaid : Prop := Claim7.holds Tryd.pinned (.plain (OpenSpec.upto valuesRowsSpec)) valuesRowsUptoCard

/-- THE SECOND FORM's CARD OF 'whelklaw3.ValuesThree'. -/
def valuesThreeUptoCard : Claim7 := { stood := { row := valuesThreeUptoRow, standIns := [], harness := (true, "298733b3c5957b6f518ff04831f3661ad0e75abb3f14754ed25f542080133d68"), looks := false }, kinds := [], alts := [], laidByText := true, laidKinds := [.data, .data, .data], laidTests := true, laidLooks := .later }
def ValuesThreeUptoCardSaid : Prop := Claim7.holds Tryd.pinned (.plain (OpenSpec.upto valuesThreeSpec)) valuesThreeUptoCard

/-- THE SECOND FORM's CARD OF 'whelklaw3.ValuesMade'. -/
def valuesMadeUptoCard : Claim7 := { stood := { row := valuesMadeUptoRow, standIns := [], harness := (true, "298733b3c5957b6f518ff04831f3661ad0e75abb3f14754ed25f542080133d68"), looks := false }, kinds := [], alts := [], laidByText := true, laidKinds := [.data, .data, .data], laidTests := true, laidLooks := .later }
def ValuesMadeUptoCardSaid : Prop := Claim7.holds Tryd.pinned (.plain (OpenSpec.upto valuesMadeSpec)) valuesMadeUptoCard
end Rows
end Go.Proofs.YtnkmeafaggdfdaaDoor
