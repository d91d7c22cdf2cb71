/- A part of the proof of this folder's statement; it has no condition of its own. -/
import Derived.Test.YthjnlpfibakacaaGreatDoorPeCore
namespace Go.Proofs.YthjnlpfibakacaaGreatDoorPe
open Go
def isPure:IOp->Bool
 |.mov _ | .smov _ | .nilchk _ | .pick .. | .build .. | .bin .. | .eqs .. | .not _ | .conv .. | .iface .. | .off .. | .field .. | .idx .. | .sidx .. | .mm .. | .ssub .. | .lsub .. | .ext .. | .len _ | .slen _ | .sdata _ | .mkfn .. => true
 |_=>false
def tmpsOf:List Opd->List Nat
 |[]=>[]
 |.t n::l=>n::tmpsOf l
 |.c _::l=>tmpsOf l
def looksO:IOp->Option (List Nat)
 |.mov x | .smov x | .nilchk x | .not x | .conv _ x | .iface _ x | .off _ x | .field _ _ x | .ext x _ | .len x | .slen x | .sdata x | .load _ x=>some (tmpsOf [x])
 |.pick c x y=>some (tmpsOf [c,x,y])
 |.build _ ps=>some (tmpsOf (ps.map (·.2.2)))
 |.mkfn _ as=>some (tmpsOf as)
 |.bin _ x y | .eqs _ _ x y | .idx _ x y | .sidx x y | .mm _ x y=>some (tmpsOf [x,y])
 |.ssub x lo hi=>some (tmpsOf ([x]++lo.toList++hi.toList))
 |.lsub _ x lo hi mx=>some (tmpsOf ([x]++lo.toList++hi.toList++mx.toList))
 |_=>none
end Go.Proofs.YthjnlpfibakacaaGreatDoorPe
