/- A part of the proof of this folder's statement; it has no condition of its own. -/
import Derived.Test.YtplcjcdjjppooaaGreatDoorFltBld
import Derived.Test.YtplcjcdjjppooaaGreatDoorFltNum
import Derived.Test.YtplcjcdjjppooaaGreatDoorFltGivt
set_option linter.unusedVariables false
set_option linter.unusedSimpArgs false
set_option maxRecDepth 100000
namespace Go.Proofs.YtplcjcdjjppooaaGreatDoorPe.Flt
open Go Go.Proofs.YtplcjcdjjppooaaGreatDoorPe Go.Proofs.YtplcjcdjjppooaaGreatDoorPe.FltCode
structure Vl where
 k:Int
 i:Int
 s:List UInt8
 deriving DecidableEq
def Vl.p (v:Vl):PV:=.agg [.int .i64 v.k,.int .i64 v.i,.str v.s]
def cmpI (a b:Int):Int:=if a<b then -1 else if a>b then 1 else 0
section
variable (given:FuncId->List PV->Option PV)
end
end Go.Proofs.YtplcjcdjjppooaaGreatDoorPe.Flt
set_option linter.unusedVariables false
set_option linter.unusedSimpArgs false
set_option maxRecDepth 1000000
namespace Go.Proofs.YtplcjcdjjppooaaGreatDoorPe.Flt
open Go Go.Proofs.YtplcjcdjjppooaaGreatDoorPe Go.Proofs.YtplcjcdjjppooaaGreatDoorPe.FltCode
def lex (p r:Int):Int:=if p=0 then r else p
def c3:List UInt8->List UInt8->Int
 |[],[]=>0
 |[],_::_ => -1
 |_::_,[]=>1
 |a::x,b::y=>lex (cmpI a.toNat b.toNat) (c3 x y)
end Go.Proofs.YtplcjcdjjppooaaGreatDoorPe.Flt
set_option linter.unusedVariables false
set_option linter.unusedSimpArgs false
set_option maxRecDepth 1000000
namespace Go.Proofs.YtplcjcdjjppooaaGreatDoorPe.Flt
open Go Go.Proofs.YtplcjcdjjppooaaGreatDoorPe Go.Proofs.YtplcjcdjjppooaaGreatDoorPe.FltCode
end Go.Proofs.YtplcjcdjjppooaaGreatDoorPe.Flt
set_option linter.unusedVariables false
set_option linter.unusedSimpArgs false
set_option maxRecDepth 1000000
namespace Go.Proofs.YtplcjcdjjppooaaGreatDoorPe.Flt
open Go Go.Proofs.YtplcjcdjjppooaaGreatDoorPe Go.Proofs.YtplcjcdjjppooaaGreatDoorPe.FltCode
end Go.Proofs.YtplcjcdjjppooaaGreatDoorPe.Flt
