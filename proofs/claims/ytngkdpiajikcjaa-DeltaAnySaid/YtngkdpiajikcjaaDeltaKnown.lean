/- known() is true; what is given is so. -/
import Derived.Test.YtngkdpiajikcjaaDeltaInsts
set_option maxRecDepth 1000000
set_option linter.unusedVariables false
set_option linter.unusedSimpArgs false
namespace Go.Proofs.YtngkdpiajikcjaaPe.Delta
open Go Go.Proofs Go.Proofs.YtngkdpiajikcjaaPe Go.Proofs.YtngkdpiajikcjaaPe.DeltaCode

def isTrue : Option (PV × St) → Bool
  | some (.bool b, _) => b
  | _ => false
theorem isTrue_some {r : Option (PV × St)} (h : isTrue r = true) : ∃ st', r = some (.bool true, st') := by
  unfold isTrue at h
  split at h
  · rename_i b st; cases h; exact ⟨st, rfl⟩
  · cases h
theorem known_run : isTrue (evFE outE given 70 f_law18_known [] ⟨[], []⟩) = true := by kernel_rfl
theorem known_ok : ∃ st', callE outE given f_law18_known [] ⟨[], []⟩ = some (.bool true, st') := by
  obtain ⟨st', h⟩ := isTrue_some known_run
  exact ⟨st', (callE_some outE given).2 ⟨70, h⟩⟩
end Go.Proofs.YtngkdpiajikcjaaPe.Delta
