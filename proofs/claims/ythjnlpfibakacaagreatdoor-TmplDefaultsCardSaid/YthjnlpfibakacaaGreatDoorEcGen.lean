/- A part of the proof of this folder's statement; it has no condition of its own. -/
import Derived.Test.YthjnlpfibakacaaGreatDoorEcHs
set_option linter.unusedVariables false
set_option linter.unusedSimpArgs false
namespace Go.Proofs.YthjnlpfibakacaaGreatDoorPe
open Go
@[go_sem] theorem B_mm {m : Bool} {k : IntKind} {a b : Int} : biV (.mm m) (.int k a) (.int k b) = some (.int k (if m then (if b > a then b else a) else (if b < a then b else a))) := by
 simp only[biV,mmV,if_true]
def Grew (a b:St):Prop := ∃ xs ys,b.boxes=a.boxes++xs/\b.bt=a.bt++ys/\b.rows=a.rows/\b.rt=a.rt/\xs.length=ys.length
theorem Grew.refl (a:St):Grew a a:=⟨[],[],by simp,by simp,rfl,rfl,rfl⟩
theorem Grew.trans {a b c:St} (h:Grew a b) (k:Grew b c):Grew a c:=by
 obtain⟨x1,y1,e1,e2,e3,e4,e5⟩:=h
 obtain⟨x2,y2,f1,f2,f3,f4,f5⟩:=k
 exact⟨x1++x2,y1++y2,by rw[f1,e1,List.append_assoc],by rw[f2,e2,List.append_assoc],f3.trans e3,f4.trans e4,by simp[e5,f5]⟩
theorem Grew.box (a:St) (x:List PV) (T:TypeId):Grew a ⟨a.boxes++[x],a.rows,a.bt++[T],a.rt⟩:=⟨[x],[T],rfl,rfl,rfl,rfl,rfl⟩
theorem Grew.get {a b:St} (h:Grew a b) {i:Nat} {x:List PV} (hi:a.boxes[i]? = some x):b.boxes[i]? = some x:=by
 obtain⟨xs,ys,e1,_⟩:=h
 rw[e1,List.getElem?_append_left (List.getElem?_eq_some_iff.1 hi).1,hi]
def ElemOk (ld:Option Nat) (n:Nat) (e:PV):Prop:=loadC ld e.cells=some e/\e.cells.length=n
theorem ElemOk.agg {n:Nat} {cs:List PV} (h:cs.length=n):ElemOk (some n) n (.agg cs):=by
 refine⟨?_,h⟩
 subst h
 simp[loadC,PV.cells]
def idxP (p:PV->Bool):List PV->Option Nat
 |[]=>none
 |x::l=>if p x=true then some 0 else (idxP p l).map (· + 1)
def idxI:Option Nat->Int
 |some n=>n
 |none => -1
theorem idxP_drop {p:PV->Bool} {l:List PV} {n:Nat} (h : ∀ x∈l.take n,p x=false):idxP p l=(idxP p (l.drop n)).map (· + n):=by
 induction n generalizing l with
 |zero=>simp
 |succ n ih =>
  cases l with
  |nil=>simp[idxP]
  |cons x l =>
   have hx:=h x (by simp)
   have:=ih (l:=l) (fun y hy=>h y (by simp[hy]))
   simp only[idxP,hx,Bool.false_eq_true,if_false,List.drop_succ_cons,this,Option.map_map]
   congr 1
@[go_sem] theorem callv_eq {cl : CallF} {f : FuncId} {cap vs : List PV} {st : St} : callvV cl (.func f cap) vs st = cl f (vs ++ cap) st := rfl
attribute [go_sem] List.cons_append List.nil_append
def bIndexFunc (ld:Option Nat) (n:Nat):EC :=
 (.seq (.cond (.bi (.bin .lss) (.v 3) (.v 2))
 (.skip)
 (.exit 0))
 (.seq (.block 1 (.seq (.st [.eff (some 4) none (.callv (.v 1) (.cons (.un (.ld ld) (.bi (.idx n) (.v 0) (.v 3))) .nil))])
 (.cond (.v 4)
  (.ret [.e (.v 3)])
  (.skip))))
 (.st [.sets [(3,(.bi (.bin .add) (.v 3) (.c (.int .i64 1))))]])))
def eIndexFunc (ld:Option Nat) (n:Nat):EFunc:=⟨2,5,
 (.seq (.seq (.st [.sets [(2,(.un .len (.v 0))),(3,(.c (.int .i64 0)))]])
 (.block 0 (.loop [true,true,true,true,false] (bIndexFunc ld n))))
 (.ret [.e (.c (.int .i64 (-1)))]))⟩
section
variable {efns:FuncId->Option EFunc} {given:FuncId->List PV->Option PV}
theorem indexFunc_g {f g:FuncId} {ld:Option Nat} {n:Nat} (hf:efns f=some (eIndexFunc ld n)) {l cap:List PV} {p:PV->Bool} {st:St} (hl:l.length<4611686018427387904)
  (he : ∀ e∈l,ElemOk ld n e) (hp : ∀ st',Grew st st' -> ∀ e∈l,∃ st2,callE efns given g (e::cap) st'=some (.bool (p e),st2)/\Grew st' st2) :
  ∃ st',callE efns given f [.lst l,.func g cap] st=some (.int .i64 (idxI (idxP p l)),st')/\Grew st st':=by
 have key:Good (fun v st'=>v = .int .i64 (idxI (idxP p l))/\Grew st st') (callE efns given f [.lst l,.func g cap] st):=by
  rw[callE_fn efns given (c:=eIndexFunc ld n) hf rfl]
  simp only[eIndexFunc,go_sem]
  refine Good.for l.length (fun i fr st'=>fr=[.lst l,.func g cap,.int .i64 (l.length:Int),.int .i64 (i:Int),.undef]/\Grew st st' /\ ∀ x∈l.take i,p x=false) ?_ ?_ ?_
  ·rintro i fr st' hi ⟨rfl,hg,hh⟩ k hk
   have c1:((i:Int)<(l.length:Int))=True:=eq_true (by omega)
   obtain⟨h1,h2⟩:=he l[i] (List.getElem_mem hi)
   have hat:evIdx n l (i:Int)=some (.ref l[i].cells):=idx_of (List.getElem?_eq_getElem hi) h2
   obtain⟨st2,h3,h4⟩:=hp st' hg l[i] (List.getElem_mem hi)
   generalize l[i].cells=cs at hat h1 h2
   unfold loadC at h1
   cases hb:p l[i] with
   |true =>
    rw[hb] at h3
    simp only[bIndexFunc,go_sem,c1,hat,h1,h3]
    refine Good.done ⟨?_,hg.trans h4⟩
    rw[idxP_drop hh,List.drop_eq_getElem_cons hi,idxP,if_pos hb]
    simp[idxI]
   |false =>
    rw[hb] at h3
    simp only[bIndexFunc,go_sem,c1,hat,h1,h3,wrapN (n:=i) (by omega)]
    refine hk _ _ ⟨rfl,hg.trans h4,fun x hx => ?_⟩
    rw[take_succ_at hi,List.mem_append,List.mem_singleton] at hx
    rcases hx with hx|rfl
    ·exact hh x hx
    ·exact hb
  ·rintro fr st' ⟨rfl,hg,hh⟩ k
   simp only[bIndexFunc,go_sem,Int.lt_irrefl]
   refine Good.done ⟨?_,hg⟩
   rw[idxP_drop hh,List.drop_length]
   rfl
  ·exact⟨rfl,Grew.refl _,by simp⟩
 obtain⟨v,st',h,rfl,hg⟩:=key
 exact⟨st',h,hg⟩
end
section
variable {α : Type} {efns:FuncId->Option EFunc} {given:FuncId->List PV->Option PV}
end
end Go.Proofs.YthjnlpfibakacaaGreatDoorPe
