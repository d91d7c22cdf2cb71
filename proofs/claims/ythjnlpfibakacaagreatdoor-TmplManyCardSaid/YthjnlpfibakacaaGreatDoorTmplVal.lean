/- A part of the proof of this folder's statement; it has no condition of its own. -/
import Derived.Test.YthjnlpfibakacaaGreatDoorTmplBld
import Derived.Test.YthjnlpfibakacaaGreatDoorTmplNum
import Derived.Test.YthjnlpfibakacaaGreatDoorTmplGivt
set_option linter.unusedVariables false
set_option linter.unusedSimpArgs false
set_option maxRecDepth 100000
namespace Go.Proofs.YthjnlpfibakacaaGreatDoorPe.Tmpl
open Go Go.Proofs.YthjnlpfibakacaaGreatDoorPe Go.Proofs.YthjnlpfibakacaaGreatDoorPe.TmplCode
structure Vl where
 k:Int
 i:Int
 s:List UInt8
 deriving DecidableEq
def Vl.p (v:Vl):PV:=.agg [.int .i64 v.k,.int .i64 v.i,.str v.s]
def cmpI (a b:Int):Int:=if a<b then -1 else if a>b then 1 else 0
theorem idx_at {n:Nat} {l:List PV} {i:Nat} {e:PV} (h:l[i]? = some e) (hn:e.cells.length=n):evIdx n l (i:Int)=some (.ref e.cells):=by
 unfold evIdx
 rw[if_pos (Int.natCast_nonneg i),Int.toNat_natCast,h]
 simp only[hn,if_true]
section
variable (given:FuncId->List PV->Option PV)
theorem ofSym_ok {s:List UInt8} : ∃ st,callE efns given f_val_OfSym [.str s] ⟨[],[],[],[]⟩=some (Vl.p ⟨2,0,s⟩,st):=by
 refine⟨?_,?_⟩
 rotate_left
 ·rw[callE_fn efns given (c:=e_val_OfSym) rfl rfl]
  simp only[e_val_OfSym,go_sem,zip3,fillP]
  rfl
theorem ofSym_t {s:List UInt8}:tupV (callE efns given) (.call 0 f_val_OfSym) [.str s]=some (Vl.p ⟨2,0,s⟩):=by
 obtain⟨st,h⟩:=ofSym_ok given
 exact callV_of rfl h rfl
end
end Go.Proofs.YthjnlpfibakacaaGreatDoorPe.Tmpl
set_option linter.unusedVariables false
set_option linter.unusedSimpArgs false
set_option maxRecDepth 1000000
namespace Go.Proofs.YthjnlpfibakacaaGreatDoorPe.Tmpl
open Go Go.Proofs.YthjnlpfibakacaaGreatDoorPe Go.Proofs.YthjnlpfibakacaaGreatDoorPe.TmplCode
def lex (p r:Int):Int:=if p=0 then r else p
def c3:List UInt8->List UInt8->Int
 |[],[]=>0
 |[],_::_ => -1
 |_::_,[]=>1
 |a::x,b::y=>lex (cmpI a.toNat b.toNat) (c3 x y)
def Vl.cells' (v:Vl):List PV:=[.int .i64 v.k,.int .i64 v.i,.str v.s]
end Go.Proofs.YthjnlpfibakacaaGreatDoorPe.Tmpl
set_option linter.unusedVariables false
set_option linter.unusedSimpArgs false
set_option maxRecDepth 1000000
namespace Go.Proofs.YthjnlpfibakacaaGreatDoorPe.Tmpl
open Go Go.Proofs.YthjnlpfibakacaaGreatDoorPe Go.Proofs.YthjnlpfibakacaaGreatDoorPe.TmplCode
theorem code_eq {c:UInt8} {n:Nat} (hn:n<256):((c.toNat:Int)=(n:Int))=(c=UInt8.ofNat n):=toNat_eq hn
theorem drop_at {s:List UInt8} {n:Nat} {c:UInt8} (hc:s[n]? = some c):s.drop n=c::s.drop (n+1):=by
 obtain⟨hlt,rfl⟩:=List.getElem?_eq_some_iff.1 hc
 rw[List.drop_eq_getElem_cons hlt]
end Go.Proofs.YthjnlpfibakacaaGreatDoorPe.Tmpl
set_option linter.unusedVariables false
set_option linter.unusedSimpArgs false
set_option maxRecDepth 1000000
namespace Go.Proofs.YthjnlpfibakacaaGreatDoorPe.Tmpl
open Go Go.Proofs.YthjnlpfibakacaaGreatDoorPe Go.Proofs.YthjnlpfibakacaaGreatDoorPe.TmplCode
def Small (v:Vl):Prop:=I64 v.k/\I64 v.i/\v.s.length<=1100
end Go.Proofs.YthjnlpfibakacaaGreatDoorPe.Tmpl
