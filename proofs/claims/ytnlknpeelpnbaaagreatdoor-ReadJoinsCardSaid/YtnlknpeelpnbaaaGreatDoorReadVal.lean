/- A part of the proof of this folder's statement; it has no condition of its own. -/
import Derived.Test.YtnlknpeelpnbaaaGreatDoorReadBld
import Derived.Test.YtnlknpeelpnbaaaGreatDoorReadNum
import Derived.Test.YtnlknpeelpnbaaaGreatDoorReadGivt
set_option linter.unusedVariables false
set_option linter.unusedSimpArgs false
set_option maxRecDepth 100000
namespace Go.Proofs.YtnlknpeelpnbaaaGreatDoorPe.Read
open Go Go.Proofs.YtnlknpeelpnbaaaGreatDoorPe Go.Proofs.YtnlknpeelpnbaaaGreatDoorPe.ReadCode
structure Vl where
 k:Int
 i:Int
 s:List UInt8
 deriving DecidableEq
def Vl.p (v:Vl):PV:=.agg [.int .i64 v.k,.int .i64 v.i,.str v.s]
def cmpI (a b:Int):Int:=if a<b then -1 else if a>b then 1 else 0
theorem idx_at {n:Nat} {l:List PV} {i:Nat} {e:PV} (h:l[i]? = some e) (hn:e.cells.length=n):evIdx n l (i:Int)=some (.ref e.cells):=by
 unfold evIdx
 rw[if_pos (Int.natCast_nonneg i),Int.toNat_natCast,h]
 simp only[hn,if_true]
section
variable (given:FuncId->List PV->Option PV)
end
end Go.Proofs.YtnlknpeelpnbaaaGreatDoorPe.Read
set_option linter.unusedVariables false
set_option linter.unusedSimpArgs false
set_option maxRecDepth 1000000
namespace Go.Proofs.YtnlknpeelpnbaaaGreatDoorPe.Read
open Go Go.Proofs.YtnlknpeelpnbaaaGreatDoorPe Go.Proofs.YtnlknpeelpnbaaaGreatDoorPe.ReadCode
def lex (p r:Int):Int:=if p=0 then r else p
def c3:List UInt8->List UInt8->Int
 |[],[]=>0
 |[],_::_ => -1
 |_::_,[]=>1
 |a::x,b::y=>lex (cmpI a.toNat b.toNat) (c3 x y)
def Vl.cells' (v:Vl):List PV:=[.int .i64 v.k,.int .i64 v.i,.str v.s]
end Go.Proofs.YtnlknpeelpnbaaaGreatDoorPe.Read
set_option linter.unusedVariables false
set_option linter.unusedSimpArgs false
set_option maxRecDepth 1000000
namespace Go.Proofs.YtnlknpeelpnbaaaGreatDoorPe.Read
open Go Go.Proofs.YtnlknpeelpnbaaaGreatDoorPe Go.Proofs.YtnlknpeelpnbaaaGreatDoorPe.ReadCode
def esc (c:UInt8):List UInt8:=if c=34\/c=92 then [92,c] else [c]
def escs (s:List UInt8):List UInt8:=s.flatMap esc
def quote (s:List UInt8):List UInt8:=34::(escs s++[34])
theorem code_eq {c:UInt8} {n:Nat} (hn:n<256):((c.toNat:Int)=(n:Int))=(c=UInt8.ofNat n):=toNat_eq hn
theorem drop_at {s:List UInt8} {n:Nat} {c:UInt8} (hc:s[n]? = some c):s.drop n=c::s.drop (n+1):=by
 obtain⟨hlt,rfl⟩:=List.getElem?_eq_some_iff.1 hc
 rw[List.drop_eq_getElem_cons hlt]
def textV (v:Vl):List UInt8:=if v.k=1 then text v.i else if v.k=3 then quote v.s else v.s
end Go.Proofs.YtnlknpeelpnbaaaGreatDoorPe.Read
