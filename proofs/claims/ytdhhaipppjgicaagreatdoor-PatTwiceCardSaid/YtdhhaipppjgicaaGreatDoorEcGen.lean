/- A part of the proof of this folder's statement; it has no condition of its own. -/
import Derived.Test.YtdhhaipppjgicaaGreatDoorEcHs
set_option linter.unusedVariables false
set_option linter.unusedSimpArgs false
namespace Go.Proofs.YtdhhaipppjgicaaGreatDoorPe
open Go
@[go_sem] theorem B_mm {m : Bool} {k : IntKind} {a b : Int} : biV (.mm m) (.int k a) (.int k b) = some (.int k (if m then (if b > a then b else a) else (if b < a then b else a))) := by
 simp only[biV,mmV,if_true]
def Grew (a b:St):Prop := ∃ xs ys,b.boxes=a.boxes++xs/\b.bt=a.bt++ys/\b.rows=a.rows/\b.rt=a.rt/\xs.length=ys.length
theorem Grew.refl (a:St):Grew a a:=⟨[],[],by simp,by simp,rfl,rfl,rfl⟩
theorem Grew.trans {a b c:St} (h:Grew a b) (k:Grew b c):Grew a c:=by
 obtain⟨x1,y1,e1,e2,e3,e4,e5⟩:=h
 obtain⟨x2,y2,f1,f2,f3,f4,f5⟩:=k
 exact⟨x1++x2,y1++y2,by rw[f1,e1,List.append_assoc],by rw[f2,e2,List.append_assoc],f3.trans e3,f4.trans e4,by simp[e5,f5]⟩
theorem Grew.box (a:St) (x:List PV) (T:TypeId):Grew a ⟨a.boxes++[x],a.rows,a.bt++[T],a.rt⟩:=⟨[x],[T],rfl,rfl,rfl,rfl,rfl⟩
theorem Grew.get {a b:St} (h:Grew a b) {i:Nat} {x:List PV} (hi:a.boxes[i]? = some x):b.boxes[i]? = some x:=by
 obtain⟨xs,ys,e1,_⟩:=h
 rw[e1,List.getElem?_append_left (List.getElem?_eq_some_iff.1 hi).1,hi]
def ElemOk (ld:Option Nat) (n:Nat) (e:PV):Prop:=loadC ld e.cells=some e/\e.cells.length=n
theorem ElemOk.agg {n:Nat} {cs:List PV} (h:cs.length=n):ElemOk (some n) n (.agg cs):=by
 refine⟨?_,h⟩
 subst h
 simp[loadC,PV.cells]
@[go_sem] theorem callv_eq {cl : CallF} {f : FuncId} {cap vs : List PV} {st : St} : callvV cl (.func f cap) vs st = cl f (vs ++ cap) st := rfl
attribute [go_sem] List.cons_append List.nil_append
section
variable {efns:FuncId->Option EFunc} {given:FuncId->List PV->Option PV}
end
section
variable {α : Type} {efns:FuncId->Option EFunc} {given:FuncId->List PV->Option PV}
end
end Go.Proofs.YtdhhaipppjgicaaGreatDoorPe
