/- More rules for reckoning: shared calls. -/
import Derived.Test.YtngkdpiajikcjaaDoorEcWp
set_option linter.unusedVariables false
namespace Go.Proofs.YtngkdpiajikcjaaDoorPe
open Go
variable {cl : CallF} {st : St} {f : FuncId}
@[go_sem] theorem C_calls {r : List Bool} {vs : List PV} : callsV cl r f vs st = onL (shutS r vs) fun as => cl f as st := by
  unfold callsV onL
  cases shutS r vs <;> rfl
@[go_sem] theorem H_nil {r : List Bool} : shutS r [] = some [] := by cases r <;> rfl
@[go_sem] theorem H_all {x : PV} {xs : List PV} : shutS [] (x :: xs) = some (x :: xs) := rfl
@[go_sem] theorem H_true {r : List Bool} {x : PV} {xs : List PV} : shutS (true :: r) (x :: xs) = onL (shutS r xs) fun ys => some (x :: ys) := by
  show (match shutS r xs with
    | some ys => some (x :: ys)
    | none => none) = _
  unfold onL
  cases shutS r xs <;> rfl
@[go_sem] theorem H_false {r : List Bool} {x : PV} {xs : List PV} : shutS (false :: r) (x :: xs) = onV (shutA shutN x) fun y => onL (shutS r xs) fun ys => some (y :: ys) := by
  show (match shutA shutN x, shutS r xs with
    | some y, some ys => some (y :: ys)
    | _, _ => none) = _
  unfold onL onV
  cases shutA shutN x <;> cases shutS r xs <;> rfl
end Go.Proofs.YtngkdpiajikcjaaDoorPe
