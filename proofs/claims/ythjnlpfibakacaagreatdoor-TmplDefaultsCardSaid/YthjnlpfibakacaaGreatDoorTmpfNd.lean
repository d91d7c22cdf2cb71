/- A part of the proof of this folder's statement; it has no condition of its own. -/
import Derived.Test.YthjnlpfibakacaaGreatDoorTmpfLexR
import Derived.Test.YthjnlpfibakacaaGreatDoorEcOut2
set_option linter.unusedVariables false
set_option linter.unusedSimpArgs false
set_option maxRecDepth 100000
namespace Go.Proofs.YthjnlpfibakacaaGreatDoorPe.Tmpf
open Go Go.Proofs Go.Proofs.YthjnlpfibakacaaGreatDoorPe Go.Proofs.YthjnlpfibakacaaGreatDoorPe.TmpfCode
inductive Nd where
 |mk (k:Int) (pos:Int) (i:Int) (s:List UInt8) (kids:List Nd)
 deriving Inhabited
namespace Nd
def k:Nd->Int
 |.mk x _ _ _ _=>x
def pos:Nd->Int
 |.mk _ x _ _ _=>x
def i:Nd->Int
 |.mk _ _ x _ _=>x
def s:Nd->List UInt8
 |.mk _ _ _ x _=>x
def kids:Nd->List Nd
 |.mk _ _ _ _ x=>x
mutual
def p:Nd->PV
 |.mk k pos i s l=>.agg ([.int .i64 k,.int .i64 pos,.int .i64 i,.str s,.lst (ps l)])
def ps:List Nd->List PV
 |[]=>[]
 |x::l=>p x::ps l
end
theorem ps_eq : ∀ l:List Nd,ps l=l.map p
 |[]=>by simp[ps]
 |x::l=>by simp[ps,ps_eq l]
def cells (x:Nd):List PV:=[.int .i64 x.k,.int .i64 x.pos,.int .i64 x.i,.str x.s,.lst (x.kids.map Nd.p)]
theorem p_cells (x:Nd):x.p.cells=x.cells:=by
 cases x with
 |mk k pos i s l=>simp only[p,ps_eq]; rfl
theorem p_eq (x:Nd):x.p = .agg x.cells:=by
 cases x with
 |mk k pos i s l=>simp only[p,ps_eq]; rfl
mutual
def sz:Nd->Nat
 |.mk _ _ _ _ l=>szs l+1
def szs:List Nd->Nat
 |[]=>0
 |x::l=>sz x+szs l
end
mutual
def same:Nd->Nd->Bool
 |.mk k pos i s l,.mk k' pos' i' s' l'=>decide (k=k')&&decide (i=i')&&decide (s=s')&&sames l l'
def sames:List Nd->List Nd->Bool
 |[],[]=>true
 |x::l,y::m=>same x y&&sames l m
 |_,_=>false
end
mutual
theorem same_self : ∀ x:Nd,same x x=true
 |.mk k pos i s l=>by simp[same,sames_self l]
theorem sames_self : ∀ l:List Nd,sames l l=true
 |[]=>by simp[sames]
 |x::l=>by simp[sames,same_self x,sames_self l]
end
end Nd
theorem Nd.at_ {l:List Nd} {n:Nat} (h:n<l.length):evIdx 5 (l.map Nd.p) (n:Int)=some (.ref l[n].cells):=by
 rw[<- Nd.p_cells]
 exact idx_of (map_at h) (by rw[Nd.p_cells]; rfl)
end Go.Proofs.YthjnlpfibakacaaGreatDoorPe.Tmpf
set_option linter.unusedVariables false
set_option linter.unusedSimpArgs false
set_option maxRecDepth 100000
namespace Go.Proofs.YthjnlpfibakacaaGreatDoorPe.Tmpf
open Go Go.Proofs Go.Proofs.YthjnlpfibakacaaGreatDoorPe Go.Proofs.YthjnlpfibakacaaGreatDoorPe.TmpfCode
def NdQ (n:Nd) (v:PV):Prop := ∃ kv,v = .agg [.int .i64 n.k,.int .i64 n.pos,.int .i64 n.i,.str n.s,kv]/\SlV (n.kids.map Nd.p) kv
theorem NdQ.zero:NdQ (.mk 0 0 0 [] []) (.agg [.int .i64 0,.int .i64 0,.int .i64 0,.str [],.nils]):=⟨.nils,rfl,rfl⟩
end Go.Proofs.YthjnlpfibakacaaGreatDoorPe.Tmpf
set_option linter.unusedVariables false
set_option linter.unusedSimpArgs false
set_option maxRecDepth 100000
namespace Go.Proofs.YthjnlpfibakacaaGreatDoorPe.Tmpf
open Go Go.Proofs Go.Proofs.YthjnlpfibakacaaGreatDoorPe Go.Proofs.YthjnlpfibakacaaGreatDoorPe.TmpfCode
end Go.Proofs.YthjnlpfibakacaaGreatDoorPe.Tmpf
