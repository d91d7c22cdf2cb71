/- A part of the proof of this folder's statement; it has no condition of its own. -/
import Derived.Test.YthjnlpfibakacaaGreatDoorEcOut
set_option linter.unusedVariables false
namespace Go.Proofs.YthjnlpfibakacaaGreatDoorPe
open Go
@[go_sem] theorem setAt_cons {n i : Nat} {l : List PV} {v : PV} {r : List (Nat × PV)} : setAt n l ((i, v) :: r) = if v.cells.length = n /\ i < l.length /\ v.cells.all PV.isCell = true then setAt n (l.set i v) r else none := rfl
@[go_sem] theorem setAt_nil {n : Nat} {l : List PV} : setAt n l [] = some l := rfl
@[go_sem] theorem toElems_eq {n len : Nat} {z : List PV} : toElems n z len = List.replicate len (if z.length = 1 /\ n = 1 then z.headD .undef else .agg z) := rfl
attribute [go_sem] List.zip_cons_cons List.zip_nil_left List.headD_cons
@[go_sem] theorem rep2 {x : PV} : List.replicate 2 x = [x, x] := rfl
@[go_sem] theorem rep3 {x : PV} : List.replicate 3 x = [x, x, x] := rfl
end Go.Proofs.YthjnlpfibakacaaGreatDoorPe
