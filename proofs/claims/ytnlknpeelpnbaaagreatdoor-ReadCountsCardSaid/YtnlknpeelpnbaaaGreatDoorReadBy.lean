/- A part of the proof of this folder's statement; it has no condition of its own. -/
import Derived.Test.YtnlknpeelpnbaaaGreatDoorReadNt
set_option linter.unusedVariables false
set_option linter.unusedSimpArgs false
set_option maxRecDepth 100000
namespace Go.Proofs.YtnlknpeelpnbaaaGreatDoorPe.Read
open Go Go.Proofs Go.Proofs.YtnlknpeelpnbaaaGreatDoorPe Go.Proofs.YtnlknpeelpnbaaaGreatDoorPe.ReadCode
def IsTrue (o : Option (PV × St)) : Prop := Good (fun v _ => v = .bool true) o
theorem IsTrue.ex {o : Option (PV × St)} (h : IsTrue o) : ∃ st, o = some (.bool true, st) := by
 obtain ⟨v, st, h, rfl⟩ := h
 exact ⟨st, h⟩
end Go.Proofs.YtnlknpeelpnbaaaGreatDoorPe.Read
