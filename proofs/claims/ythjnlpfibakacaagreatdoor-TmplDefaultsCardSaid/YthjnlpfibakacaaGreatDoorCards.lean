/-
  DERIVED. GIVEN WITH THE SEED: THE CARDS: each row of YthjnlpfibakacaaGreatDoorRows.lean that lists a variable, with what it lists TIED to the program's text (the seventh form; the later family's looks); each row that meets fmt, with fmt's text TOLD by the authors' own Lean function (tested against real Go, not proved from fmt's source: count such statements apart). THE CARD IS WHAT COUNTS. Prove the row's statement (the work); the ties are given (YthjnlpfibakacaaGreatDoorTie.lean); close each card by the builder's one call (the guide's Derived/Test/ToyasCard.lean, 'card_holds'). Laid BY PROGRAM, IN A SANDBOX (cutbox-door.mjs). By AI agents, Wed Nov 11 2026. No macro, syntax, notation, axiom, sorry.
-/
import Derived.Test.YthjnlpfibakacaaGreatDoorRows
import GoSem.ClaimSeven
namespace Go.Proofs.YthjnlpfibakacaaGreatDoor
namespace Rows

/-- THE TIED CARD OF 'whelklaw9.TmplFills'. -/
def tmplFillsCard : Claim7 := { stood := { row := tmplFillsRow, standIns := [], harness := (true, "4bdc147249a5a3b61431d1097d4307cf0baa48dbe9e55efd73d3342c654a0b88"), looks := true }, kinds := [], alts := [], laidByText := true, laidKinds := [.data, .data, .data], laidTests := true, laidLooks := .later }
def TmplFillsCardSaid : Prop := Claim7.holds Tryz.pinned (.plain (OpenSpec.ofChange tmplFillsSpec)) tmplFillsCard

/-- THE TIED CARD OF 'whelklaw9.TmplDefaults'. -/
def tmplDefaultsCard : Claim7 := { stood := { row := tmplDefaultsRow, standIns := [], harness := (true, "4bdc147249a5a3b61431d1097d4307cf0baa48dbe9e55efd73d3342c654a0b88"), looks := true }, kinds := [], alts := [], laidByText := true, laidKinds := [.data, .data, .data], laidTests := true, laidLooks := .later }
def TmplDefaultsCardSaid : Prop := Claim7.holds Tryz.pinned (.plain (OpenSpec.ofChange tmplDefaultsSpec)) tmplDefaultsCard

/-- THE TIED CARD OF 'whelklaw9.TmplBytes'. -/
def tmplBytesCard : Claim7 := { stood := { row := tmplBytesRow, standIns := [], harness := (true, "4bdc147249a5a3b61431d1097d4307cf0baa48dbe9e55efd73d3342c654a0b88"), looks := true }, kinds := [], alts := [], laidByText := true, laidKinds := [.data, .data, .data, .handle], laidTests := true, laidLooks := .later }
def TmplBytesCardSaid : Prop := Claim7.holds Tryz.pinned (.plain (OpenSpec.ofChange tmplBytesSpec)) tmplBytesCard

/-- THE TIED CARD OF 'whelklaw9.TmplMany'. -/
def tmplManyCard : Claim7 := { stood := { row := tmplManyRow, standIns := [], harness := (true, "4bdc147249a5a3b61431d1097d4307cf0baa48dbe9e55efd73d3342c654a0b88"), looks := true }, kinds := [], alts := [], laidByText := true, laidKinds := [.data, .data, .data, .handle], laidTests := true, laidLooks := .later }
def TmplManyCardSaid : Prop := Claim7.holds Tryz.pinned (.plain (OpenSpec.ofChange tmplManySpec)) tmplManyCard

/-- THE SECOND FORM's CARD OF 'whelklaw9.TmplFills'. -/
def tmplFillsUptoCard : Claim7 := { stood := { row := tmplFillsUptoRow, standIns := [], harness := (true, "4bdc147249a5a3b61431d1097d4307cf0baa48dbe9e55efd73d3342c654a0b88"), looks := true }, kinds := [], alts := [], laidByText := true, laidKinds := [.data, .data, .data], laidTests := true, laidLooks := .later }
def TmplFillsUptoCardSaid : Prop := Claim7.holds Tryz.pinned (.plain (OpenSpec.upto tmplFillsSpec)) tmplFillsUptoCard

/-- THE SECOND FORM's CARD OF 'whelklaw9.TmplDefaults'. -/
def tmplDefaultsUptoCard : Claim7 := { stood := { row := tmplDefaultsUptoRow, standIns := [], harness := (true, "4bdc147249a5a3b61431d1097d4307cf0baa48dbe9e55efd73d3342c654a0b88"), looks := true }, kinds := [], alts := [], laidByText := true, laidKinds := [.data, .data, .data], laidTests := true, laidLooks := .later }
def TmplDefaultsUptoCardSaid : Prop := Claim7.holds Tryz.pinned (.plain (OpenSpec.upto tmplDefaultsSpec)) tmplDefaultsUptoCard

/-- THE SECOND FORM's CARD OF 'whelklaw9.TmplBytes'. -/
def tmplBytesUptoCard : Claim7 := { stood := { row := tmplBytesUptoRow, standIns := [], harness := (true, "4bdc147249a5a3b61431d1097d4307cf0baa48dbe9e55efd73d3342c654a0b88"), looks := true }, kinds := [], alts := [], laidByText := true, laidKinds := [.data, .data, .data, .handle], laidTests := true, laidLooks := .later }
def TmplBytesUptoCardSaid : Prop := Claim7.holds Tryz.pinned (.plain (OpenSpec.upto tmplBytesSpec)) tmplBytesUptoCard

/-- THE SECOND FORM's CARD OF 'whelklaw9.TmplMany'. -/
def tmplManyUptoCard : Claim7 := { stood := { row := tmplManyUptoRow, standIns := [], harness := (true, "4bdc147249a5a3b61431d1097d4307cf0baa48dbe9e55efd73d3342c654a0b88"), looks := true }, kinds := [], alts := [], laidByText := true, laidKinds := [.data, .data, .data, .handle], laidTests := true, laidLooks := .later }
def TmplManyUptoCardSaid : Prop := Claim7.holds Tryz.pinned (.plain (OpenSpec.upto tmplManySpec)) tmplManyUptoCard
end Rows
end Go.Proofs.YthjnlpfibakacaaGreatDoor
