/- A part of the proof of this folder's statement; it has no condition of its own. -/
import Derived.Test.YtnlknpeelpnbaaaGreatDoorReadBy
set_option linter.unusedVariables false
set_option linter.unusedSimpArgs false
set_option maxRecDepth 100000
namespace Go.Proofs.YtnlknpeelpnbaaaGreatDoorPe.Read
open Go Go.Proofs Go.Proofs.YtnlknpeelpnbaaaGreatDoorPe Go.Proofs.YtnlknpeelpnbaaaGreatDoorPe.ReadCode
theorem scanM_sign {c : UInt8} {k : Int} (h : (c = 40 /\ k = 4) \/ (c = 41 /\ k = 5) \/ (c = 126 /\ k = 8)) (p : Nat) (r : List UInt8) : scanM p (c :: r) = match scanM (p + 1) r with
  | .error e => .error e
  | .ok l => .ok (⟨k, p, 0, []⟩ :: l) := by
 have hs : skipM false (c :: r) = c :: r := by
  rcases h with ⟨rfl, _⟩ | ⟨rfl, _⟩ | ⟨rfl, _⟩ <;> rfl
 have ho : oneM (c :: r) = .ok (⟨k, 0, []⟩, 1) := by
  rcases h with ⟨rfl, rfl⟩ | ⟨rfl, rfl⟩ | ⟨rfl, rfl⟩ <;> rfl
 rw [scanM_cons hs, ho]
 simp only [List.length_cons, Nat.sub_self, Nat.add_zero, List.drop_zero, Nat.zero_add]
 all_goals rfl
end Go.Proofs.YtnlknpeelpnbaaaGreatDoorPe.Read
