/- A part of the proof of this folder's statement; it has no condition of its own. -/
import Derived.Test.YthjnlpfibakacaaGreatDoorTmpfBld
import Derived.Test.YthjnlpfibakacaaGreatDoorTmpfNum
import Derived.Test.YthjnlpfibakacaaGreatDoorTmpfGivt
set_option linter.unusedVariables false
set_option linter.unusedSimpArgs false
set_option maxRecDepth 100000
namespace Go.Proofs.YthjnlpfibakacaaGreatDoorPe.Tmpf
open Go Go.Proofs.YthjnlpfibakacaaGreatDoorPe Go.Proofs.YthjnlpfibakacaaGreatDoorPe.TmpfCode
structure Vl where
 k:Int
 i:Int
 s:List UInt8
 deriving DecidableEq
def Vl.p (v:Vl):PV:=.agg [.int .i64 v.k,.int .i64 v.i,.str v.s]
def cmpI (a b:Int):Int:=if a<b then -1 else if a>b then 1 else 0
section
variable (given:FuncId->List PV->Option PV)
theorem rint_ok {i:Int} : ∃ st,callE efns given f_ref3_Int [.int .i64 i] ⟨[],[],[],[]⟩=some (Vl.p ⟨1,i,[]⟩,st):=by
 refine⟨?_,?_⟩
 rotate_left
 ·rw[callE_fn efns given (c:=e_ref3_Int) rfl rfl]
  simp only[e_ref3_Int,go_sem,zip3,fillP]
  rfl
theorem rint_t {i:Int}:tupV (callE efns given) (.call 0 f_ref3_Int) [.int .i64 i]=some (Vl.p ⟨1,i,[]⟩):=by
 obtain⟨st,h⟩:=rint_ok given
 exact callV_of rfl h rfl
theorem rsame_ok (v w:Vl) : ∃ st,callE efns given f_ref3_Same [v.p,w.p] ⟨[],[],[],[]⟩=some (.bool (decide (v=w)),st):=by
 refine⟨⟨[v.p.cells,w.p.cells],[],[T_ref3_Same_0,T_ref3_Same_0],[]⟩,?_⟩
 rw[callE_fn efns given (c:=e_ref3_Same) rfl rfl]
 obtain⟨k,i,s⟩:=v
 obtain⟨k',i',s'⟩:=w
 by_cases h1:k=k'
 ·subst h1
  by_cases h2:i=i'
  ·subst h2
   simp only[e_ref3_Same,Vl.p,go_sem]
   simp
  ·simp only[e_ref3_Same,Vl.p,go_sem,h2]
   simp[h2]
 ·simp only[e_ref3_Same,Vl.p,go_sem,h1]
  simp[h1]
theorem rsame_t (v w:Vl):tupV (callE efns given) (.call 0 f_ref3_Same) [v.p,w.p]=some (.bool (decide (v=w))):=by
 obtain⟨st,h⟩:=rsame_ok given v w
 exact callV_of rfl h rfl
end
end Go.Proofs.YthjnlpfibakacaaGreatDoorPe.Tmpf
set_option linter.unusedVariables false
set_option linter.unusedSimpArgs false
set_option maxRecDepth 1000000
namespace Go.Proofs.YthjnlpfibakacaaGreatDoorPe.Tmpf
open Go Go.Proofs.YthjnlpfibakacaaGreatDoorPe Go.Proofs.YthjnlpfibakacaaGreatDoorPe.TmpfCode
def lex (p r:Int):Int:=if p=0 then r else p
def c3:List UInt8->List UInt8->Int
 |[],[]=>0
 |[],_::_ => -1
 |_::_,[]=>1
 |a::x,b::y=>lex (cmpI a.toNat b.toNat) (c3 x y)
def Vl.cells' (v:Vl):List PV:=[.int .i64 v.k,.int .i64 v.i,.str v.s]
end Go.Proofs.YthjnlpfibakacaaGreatDoorPe.Tmpf
set_option linter.unusedVariables false
set_option linter.unusedSimpArgs false
set_option maxRecDepth 1000000
namespace Go.Proofs.YthjnlpfibakacaaGreatDoorPe.Tmpf
open Go Go.Proofs.YthjnlpfibakacaaGreatDoorPe Go.Proofs.YthjnlpfibakacaaGreatDoorPe.TmpfCode
theorem drop_at {s:List UInt8} {n:Nat} {c:UInt8} (hc:s[n]? = some c):s.drop n=c::s.drop (n+1):=by
 obtain⟨hlt,rfl⟩:=List.getElem?_eq_some_iff.1 hc
 rw[List.drop_eq_getElem_cons hlt]
end Go.Proofs.YthjnlpfibakacaaGreatDoorPe.Tmpf
set_option linter.unusedVariables false
set_option linter.unusedSimpArgs false
set_option maxRecDepth 1000000
namespace Go.Proofs.YthjnlpfibakacaaGreatDoorPe.Tmpf
open Go Go.Proofs.YthjnlpfibakacaaGreatDoorPe Go.Proofs.YthjnlpfibakacaaGreatDoorPe.TmpfCode
end Go.Proofs.YthjnlpfibakacaaGreatDoorPe.Tmpf
