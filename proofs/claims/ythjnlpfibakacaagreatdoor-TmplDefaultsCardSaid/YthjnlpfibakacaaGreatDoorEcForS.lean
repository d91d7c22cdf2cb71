/- A part of the proof of this folder's statement; it has no condition of its own. -/
import Derived.Test.YthjnlpfibakacaaGreatDoorEcFor
set_option linter.unusedVariables false
namespace Go.Proofs.YthjnlpfibakacaaGreatDoorPe
open Go
section
variable {α : Type} {l m:List α}
@[go_sem] theorem bx_get {k : Nat} : (l ++ m)[l.length + k]? = m[k]? := by
 rw[List.getElem?_append_right (by omega),Nat.add_sub_cancel_left]
@[go_sem] theorem bx_get0 : (l ++ m)[l.length]? = m[0]? := by
 rw[List.getElem?_append_right (by omega),Nat.sub_self]
@[go_sem] theorem bx_set {k : Nat} {x : α} : (l ++ m).set (l.length + k) x = l ++ m.set k x := by
 rw[List.set_append_right _ _ (by omega),Nat.add_sub_cancel_left]
@[go_sem] theorem bx_set0 {x : α} : (l ++ m).set l.length x = l ++ m.set 0 x := by
 rw[List.set_append_right _ _ (by omega),Nat.sub_self]
end
attribute [go_sem] List.append_assoc List.length_append
end Go.Proofs.YthjnlpfibakacaaGreatDoorPe
