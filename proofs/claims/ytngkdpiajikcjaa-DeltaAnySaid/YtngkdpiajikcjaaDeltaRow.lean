/- THE ROWS of the laws of delta: what they share. -/
import Derived.Test.YtngkdpiajikcjaaPeLaw
import Derived.Test.YtngkdpiajikcjaaDeltaDLaws
import Derived.Test.YtngkdpiajikcjaaDeltaClone
import Derived.Test.YtngkdpiajikcjaaRows
import Derived.ProofKit
set_option maxRecDepth 1000000
set_option linter.unusedVariables false
namespace Go.Proofs.YtngkdpiajikcjaaPe.Delta
open Go Go.Proofs Go.Proofs.Ytngkdpiajikcjaa Go.RowKit Go.ChangeShapes Go.WideShapes Go.ChangeAt Go.Proofs.YtngkdpiajikcjaaPe Go.Proofs.YtngkdpiajikcjaaPe.DeltaCode

theorem own : ownKnob Try.prog.godebug = none := by kernel_rfl
theorem laidOut : laidOutB Try.prog = true := by kernel_rfl
theorem fits3 : Fits Try.prog (.int .i64) 3 := show Try.prog.underlying 3 = some (.int .i64) by kernel_rfl
theorem fits31 : Fits Try.prog (.sl (.int .i64)) 31 := ⟨3, by kernel_rfl, by kernel_rfl, fits3⟩
theorem fits22 : Fits Try.prog (.sl (.sl (.int .i64))) 22 := ⟨31, by kernel_rfl, by kernel_rfl, fits31⟩
theorem fits39 : Fits Try.prog (.sl (.sl (.sl (.int .i64)))) 39 := ⟨22, by kernel_rfl, by kernel_rfl, fits22⟩

/-- What the evaluator of expressions says, the evaluator of code says. -/
theorem lift {f : FuncId} {xs : List PV} (h : ∃ st', callE outE given f xs ⟨[], []⟩ = some (.bool true, st')) : ∃ st', call (fnsOf Try.prog sh outR) given f xs ⟨[], []⟩ = some (.bool true, st') := by
  obtain ⟨st', h⟩ := h
  refine ⟨st', callE_le outE given ?_ _ _ _ _ h⟩
  rw [← out_eq]
  exact out_ok.eok

theorem nums : ∀ {l : List PV}, (∀ y ∈ l, Typed (.int .i64) y) → ∃ a : List Int, l = el a
  | [], _ => ⟨[], rfl⟩
  | y :: l, h => by
    obtain ⟨n, rfl, _⟩ := h y (by simp)
    obtain ⟨a, rfl⟩ := nums (l := l) fun y hy => h y (by simp [hy])
    exact ⟨n :: a, rfl⟩
theorem rowsT : ∀ {l : List PV}, (∀ y ∈ l, Typed (.sl (.int .i64)) y) → ∃ a : List (List Int), l = a.map ints
  | [], _ => ⟨[], rfl⟩
  | y :: l, h => by
    obtain ⟨m, rfl, _, hm⟩ := h y (by simp)
    obtain ⟨b, rfl⟩ := nums hm
    obtain ⟨a, rfl⟩ := rowsT (l := l) fun y hy => h y (by simp [hy])
    exact ⟨b :: a, rfl⟩
end Go.Proofs.YtngkdpiajikcjaaPe.Delta
