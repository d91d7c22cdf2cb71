/-
  DERIVED. GIVEN WITH THE SEED: THE CARDS: each row of YtngkdpiajikcjaaDoorRows.lean that lists a variable, with what it lists TIED to the program's text (the seventh form; the later family's looks); each row that meets fmt, with fmt's text TOLD by the authors' own Lean function (tested against real Go, not proved from fmt's source: count such statements apart). THE CARD IS WHAT COUNTS. Prove the row's statement (the work); the ties are given (YtngkdpiajikcjaaDoorTie.lean); close each card by the builder's one call (the guide's Derived/Test/ToyasCard.lean, 'card_holds'). Laid BY PROGRAM, IN A SANDBOX (cutbox-door.mjs). By AI agents, Wed Nov 11 2026. No macro, syntax, notation, axiom, sorry.
-/
import Derived.Test.YtngkdpiajikcjaaDoorRows
import GoSem.ClaimSeven
namespace Go.Proofs.YtngkdpiajikcjaaDoor
namespace Rows

/-- THE TIED CARD OF 'whelklaw1.NumbersAny'. -/
def numbersAnyCard : Claim7 := { stood := { row := numbersAnyRow, standIns := [], harness := (true, "11530804ee873770c3867b2717b6f64100dd70ec0c840b8e7327d78e296d922d"), looks := false }, kinds := [], alts := [], laidByText := true, laidKinds := [.data, .data, .data], laidTests := true, laidLooks := .later }
def NumbersAnyCardSaid : Prop := Claim7.holds Tryd.pinned (.plain (OpenSpec.ofChange numbersAnySpec)) numbersAnyCard

/-- THE TIED CARD OF 'whelklaw1.NumbersWords'. -/
def numbersWordsCard : Claim7 := { stood := { row := numbersWordsRow, standIns := [], harness := (true, "11530804ee873770c3867b2717b6f64100dd70ec0c840b8e7327d78e296d922d"), looks := false }, kinds := [], alts := [], laidByText := true, laidKinds := [.data, .data, .data], laidTests := true, laidLooks := .later }
def NumbersWordsCardSaid : Prop := Claim7.holds Tryd.pinned (.plain (OpenSpec.ofChange numbersWordsSpec)) numbersWordsCard

/-- THE TIED CARD OF 'whelklaw1.NumbersFuel'. -/
def numbersFuelCard : Claim7 := { stood := { row := numbersFuelRow, standIns := [], harness := (true, "11530804ee873770c3867b2717b6f64100dd70ec0c840b8e7327d78e296d922d"), looks := false }, kinds := [], alts := [], laidByText := true, laidKinds := [.data, .data, .data], laidTests := true, laidLooks := .later }
def NumbersFuelCardSaid : Prop := Claim7.holds Tryd.pinned (.plain (OpenSpec.ofChange numbersFuelSpec)) numbersFuelCard

/-- THE TIED CARD OF 'whelklaw1.NumbersParts'. -/
def numbersPartsCard : Claim7 := { stood := { row := numbersPartsRow, standIns := [], harness := (true, "11530804ee873770c3867b2717b6f64100dd70ec0c840b8e7327d78e296d922d"), looks := false }, kinds := [], alts := [], laidByText := true, laidKinds := [.data, .data, .data], laidTests := true, laidLooks := .later }
def NumbersPartsCardSaid : Prop := Claim7.holds Tryd.pinned (.plain (OpenSpec.ofChange numbersPartsSpec)) numbersPartsCard

/-- THE TIED CARD OF 'whelklaw1.NumbersEnds'. -/
def numbersEndsCard : Claim7 := { stood := { row := numbersEndsRow, standIns := [], harness := (true, "11530804ee873770c3867b2717b6f64100dd70ec0c840b8e7327d78e296d922d"), looks := false }, kinds := [], alts := [], laidByText := true, laidKinds := [.data, .data, .data], laidTests := true, laidLooks := .later }
def NumbersEndsCardSaid : Prop := Claim7.holds Tryd.pinned (.plain (OpenSpec.ofChange numbersEndsSpec)) numbersEndsCard

/-- THE TIED CARD OF 'whelklaw1.NumbersTurn'. -/
def numbersTurnCard : Claim7 := { stood := { row := numbersTurnRow, standIns := [], harness := (true, "11530804ee873770c3867b2717b6f64100dd70ec0c840b8e7327d78e296d922d"), looks := false }, kinds := [], alts := [], laidByText := true, laidKinds := [.data, .data, .data], laidTests := true, laidLooks := .later }
def NumbersTurnCardSaid : Prop := Claim7.holds Tryd.pinned (.plain (OpenSpec.ofChange numbersTurnSpec)) numbersTurnCard

/-- THE SECOND FORM's CARD OF 'whelklaw1.NumbersAny'. -/
def numbersAnyUptoCard : Claim7 := { stood := { row := numbersAnyUptoRow, standIns := [], harness := (true, "11530804ee873770c3867b2717b6f64100dd70ec0c840b8e7327d78e296d922d"), looks := false }, kinds := [], alts := [], laidByText := true, laidKinds := [.data, .data, .data], laidTests := true, laidLooks := .later }
def NumbersAnyUptoCardSaid : Prop := Claim7.holds Tryd.pinned (.plain (OpenSpec.upto numbersAnySpec)) numbersAnyUptoCard

/-- THE SECOND FORM's CARD OF 'whelklaw1.NumbersWords'. -/
def numbersWordsUptoCard : Claim7 := { stood := { row := numbersWordsUptoRow, standIns := [], harness := (true, "11530804ee873770c3867b2717b6f64100dd70ec0c840b8e7327d78e296d922d"), looks := false }, kinds := [], alts := [], laidByText := true, laidKinds := [.data, .data, .data], laidTests := true, laidLooks := .later }
def NumbersWordsUptoCardSaid : Prop := Claim7.holds Tryd.pinned (.plain (OpenSpec.upto numbersWordsSpec)) numbersWordsUptoCard

/-- THE SECOND FORM's CARD OF 'whelklaw1.NumbersFuel'. -/
def numbersFuelUptoCard : Claim7 := { stood := { row := numbersFuelUptoRow, standIns := [], harness := (true, "11530804ee873770c3867b2717b6f64100dd70ec0c840b8e7327d78e296d922d"), looks := false }, kinds := [], alts := [], laidByText := true, laidKinds := [.data, .data, .data], laidTests := true, laidLooks := .later }
def NumbersFuelUptoCardSaid : Prop := Claim7.holds Tryd.pinned (.plain (OpenSpec.upto numbersFuelSpec)) numbersFuelUptoCard

/-- THE SECOND FORM's CARD OF 'whelklaw1.NumbersParts'. -/
def numbersPartsUptoCard : Claim7 := { stood := { row := numbersPartsUptoRow, standIns := [], harness := (true, "11530804ee873770c3867b2717b6f64100dd70ec0c840b8e7327d78e296d922d"), looks := false }, kinds := [], alts := [], laidByText := true, laidKinds := [.data, .data, .data], laidTests := true, laidLooks := .later }
def NumbersPartsUptoCardSaid : Prop := Claim7.holds Tryd.pinned (.plain (OpenSpec.upto numbersPartsSpec)) numbersPartsUptoCard

/-- THE SECOND FORM's CARD OF 'whelklaw1.NumbersEnds'. -/
def numbersEndsUptoCard : Claim7 := { stood := { row := numbersEndsUptoRow, standIns := [], harness := (true, "11530804ee873770c3867b2717b6f64100dd70ec0c840b8e7327d78e296d922d"), looks := false }, kinds := [], alts := [], laidByText := true, laidKinds := [.data, .data, .data], laidTests := true, laidLooks := .later }
def NumbersEndsUptoCardSaid : Prop := Claim7.holds Tryd.pinned (.plain (OpenSpec.upto numbersEndsSpec)) numbersEndsUptoCard

/-- THE SECOND FORM's CARD OF 'whelklaw1.NumbersTurn'. -/
def numbersTurnUptoCard : Claim7 := { stood := { row := numbersTurnUptoRow, standIns := [], harness := (true, "11530804ee873770c3867b2717b6f64100dd70ec0c840b8e7327d78e296d922d"), looks := false }, kinds := [], alts := [], laidByText := true, laidKinds := [.data, .data, .data], laidTests := true, laidLooks := .later }
def NumbersTurnUptoCardSaid : Prop := Claim7.holds Tryd.pinned (.plain (OpenSpec.upto numbersTurnSpec)) numbersTurnUptoCard
end Rows
end Go.Proofs.YtngkdpiajikcjaaDoor
