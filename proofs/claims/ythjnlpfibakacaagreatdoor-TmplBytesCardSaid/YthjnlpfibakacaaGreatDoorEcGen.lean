/- A part of the proof of this folder's statement; it has no condition of its own. -/
import Derived.Test.YthjnlpfibakacaaGreatDoorEcHs
set_option linter.unusedVariables false
set_option linter.unusedSimpArgs false
namespace Go.Proofs.YthjnlpfibakacaaGreatDoorPe
open Go
@[go_sem] theorem B_mm {m : Bool} {k : IntKind} {a b : Int} : biV (.mm m) (.int k a) (.int k b) = some (.int k (if m then (if b > a then b else a) else (if b < a then b else a))) := by
 simp only[biV,mmV,if_true]
def Grew (a b:St):Prop := ∃ xs ys,b.boxes=a.boxes++xs/\b.bt=a.bt++ys/\b.rows=a.rows/\b.rt=a.rt/\xs.length=ys.length
theorem Grew.refl (a:St):Grew a a:=⟨[],[],by simp,by simp,rfl,rfl,rfl⟩
theorem Grew.trans {a b c:St} (h:Grew a b) (k:Grew b c):Grew a c:=by
 obtain⟨x1,y1,e1,e2,e3,e4,e5⟩:=h
 obtain⟨x2,y2,f1,f2,f3,f4,f5⟩:=k
 exact⟨x1++x2,y1++y2,by rw[f1,e1,List.append_assoc],by rw[f2,e2,List.append_assoc],f3.trans e3,f4.trans e4,by simp[e5,f5]⟩
theorem Grew.box (a:St) (x:List PV) (T:TypeId):Grew a ⟨a.boxes++[x],a.rows,a.bt++[T],a.rt⟩:=⟨[x],[T],rfl,rfl,rfl,rfl,rfl⟩
theorem Grew.mk2 (a:St) (xs:List (List PV)) (ys:List TypeId) (h:xs.length=ys.length):Grew a ⟨a.boxes++xs,a.rows,a.bt++ys,a.rt⟩:=⟨xs,ys,rfl,rfl,rfl,rfl,h⟩
theorem Grew.get {a b:St} (h:Grew a b) {i:Nat} {x:List PV} (hi:a.boxes[i]? = some x):b.boxes[i]? = some x:=by
 obtain⟨xs,ys,e1,_⟩:=h
 rw[e1,List.getElem?_append_left (List.getElem?_eq_some_iff.1 hi).1,hi]
def ElemOk (ld:Option Nat) (n:Nat) (e:PV):Prop:=loadC ld e.cells=some e/\e.cells.length=n
theorem ElemOk.agg {n:Nat} {cs:List PV} (h:cs.length=n):ElemOk (some n) n (.agg cs):=by
 refine⟨?_,h⟩
 subst h
 simp[loadC,PV.cells]
def idxP (p:PV->Bool):List PV->Option Nat
 |[]=>none
 |x::l=>if p x=true then some 0 else (idxP p l).map (· + 1)
def idxI:Option Nat->Int
 |some n=>n
 |none => -1
theorem idxP_drop {p:PV->Bool} {l:List PV} {n:Nat} (h : ∀ x∈l.take n,p x=false):idxP p l=(idxP p (l.drop n)).map (· + n):=by
 induction n generalizing l with
 |zero=>simp
 |succ n ih =>
  cases l with
  |nil=>simp[idxP]
  |cons x l =>
   have hx:=h x (by simp)
   have:=ih (l:=l) (fun y hy=>h y (by simp[hy]))
   simp only[idxP,hx,Bool.false_eq_true,if_false,List.drop_succ_cons,this,Option.map_map]
   congr 1
@[go_sem] theorem callv_eq {cl : CallF} {f : FuncId} {cap vs : List PV} {st : St} : callvV cl (.func f cap) vs st = cl f (vs ++ cap) st := rfl
attribute [go_sem] List.cons_append List.nil_append
def bIndexFunc (ld:Option Nat) (n:Nat):EC :=
 (.seq (.cond (.bi (.bin .lss) (.v 3) (.v 2))
 (.skip)
 (.exit 0))
 (.seq (.block 1 (.seq (.st [.eff (some 4) none (.callv (.v 1) (.cons (.un (.ld ld) (.bi (.idx n) (.v 0) (.v 3))) .nil))])
 (.cond (.v 4)
  (.ret [.e (.v 3)])
  (.skip))))
 (.st [.sets [(3,(.bi (.bin .add) (.v 3) (.c (.int .i64 1))))]])))
def eIndexFunc (ld:Option Nat) (n:Nat):EFunc:=⟨2,5,
 (.seq (.seq (.st [.sets [(2,(.un .len (.v 0))),(3,(.c (.int .i64 0)))]])
 (.block 0 (.loop [true,true,true,true,false] (bIndexFunc ld n))))
 (.ret [.e (.c (.int .i64 (-1)))]))⟩
section
variable {efns:FuncId->Option EFunc} {given:FuncId->List PV->Option PV}
theorem indexFunc_g {f g:FuncId} {ld:Option Nat} {n:Nat} (hf:efns f=some (eIndexFunc ld n)) {l cap:List PV} {p:PV->Bool} {st:St} (hl:l.length<4611686018427387904)
  (he : ∀ e∈l,ElemOk ld n e) (hp : ∀ st',Grew st st' -> ∀ e∈l,∃ st2,callE efns given g (e::cap) st'=some (.bool (p e),st2)/\Grew st' st2) :
  ∃ st',callE efns given f [.lst l,.func g cap] st=some (.int .i64 (idxI (idxP p l)),st')/\Grew st st':=by
 have key:Good (fun v st'=>v = .int .i64 (idxI (idxP p l))/\Grew st st') (callE efns given f [.lst l,.func g cap] st):=by
  rw[callE_fn efns given (c:=eIndexFunc ld n) hf rfl]
  simp only[eIndexFunc,go_sem]
  refine Good.for l.length (fun i fr st'=>fr=[.lst l,.func g cap,.int .i64 (l.length:Int),.int .i64 (i:Int),.undef]/\Grew st st' /\ ∀ x∈l.take i,p x=false) ?_ ?_ ?_
  ·rintro i fr st' hi ⟨rfl,hg,hh⟩ k hk
   have c1:((i:Int)<(l.length:Int))=True:=eq_true (by omega)
   obtain⟨h1,h2⟩:=he l[i] (List.getElem_mem hi)
   have hat:evIdx n l (i:Int)=some (.ref l[i].cells):=idx_of (List.getElem?_eq_getElem hi) h2
   obtain⟨st2,h3,h4⟩:=hp st' hg l[i] (List.getElem_mem hi)
   generalize l[i].cells=cs at hat h1 h2
   unfold loadC at h1
   cases hb:p l[i] with
   |true =>
    rw[hb] at h3
    simp only[bIndexFunc,go_sem,c1,hat,h1,h3]
    refine Good.done ⟨?_,hg.trans h4⟩
    rw[idxP_drop hh,List.drop_eq_getElem_cons hi,idxP,if_pos hb]
    simp[idxI]
   |false =>
    rw[hb] at h3
    simp only[bIndexFunc,go_sem,c1,hat,h1,h3,wrapN (n:=i) (by omega)]
    refine hk _ _ ⟨rfl,hg.trans h4,fun x hx => ?_⟩
    rw[take_succ_at hi,List.mem_append,List.mem_singleton] at hx
    rcases hx with hx|rfl
    ·exact hh x hx
    ·exact hb
  ·rintro fr st' ⟨rfl,hg,hh⟩ k
   simp only[bIndexFunc,go_sem,Int.lt_irrefl]
   refine Good.done ⟨?_,hg⟩
   rw[idxP_drop hh,List.drop_length]
   rfl
  ·exact⟨rfl,Grew.refl _,by simp⟩
 obtain⟨v,st',h,rfl,hg⟩:=key
 exact⟨st',h,hg⟩
end
def bEqualFunc (n:Nat) (z:List PV) (T:TypeId):EC :=
 (.seq (.cond (.bi (.bin .lss) (.v 7) (.v 6))
 (.skip)
 (.exit 0))
 (.seq (.block 1 (.seq (.st [.eff (some 3) none (.zbox z T),
  .eff none none (.store n (.v 3) (.un (.ld (some n)) (.bi (.idx n) (.v 5) (.v 7))))])
 (.seq (.st [.eff (some 4) none (.zbox z T),
  .eff none none (.store n (.v 4) (.un (.ld (some n)) (.bi (.idx n) (.v 1) (.v 7))))])
 (.seq (.st [.eff (some 8) none (.load (some n) (.v 3)),
  .eff (some 9) none (.load (some n) (.v 4)),
  .eff (some 10) none (.callv (.v 2) (.cons (.v 8) (.cons (.v 9) .nil)))])
 (.cond (.un .not (.v 10))
  (.ret [.e (.c (.bool false))])
  (.skip))))))
 (.st [.sets [(7,(.bi (.bin .add) (.v 7) (.c (.int .i64 1))))]])))
def eEqualFunc (n:Nat) (z:List PV) (T:TypeId):EFunc:=⟨3,11,
 (.seq (.cond (.bi (.bin .neq) (.un .len (.v 0)) (.un .len (.v 1)))
 (.ret [.e (.c (.bool false))])
 (.skip))
 (.seq (.seq (.st [.sets [(5,(.v 0)),(6,(.un .len (.v 0))),(7,(.c (.int .i64 0)))]])
 (.block 0 (.loop [false,true,true,false,false,true,true,true,false,false,false] (bEqualFunc n z T))))
 (.ret [.e (.c (.bool true))])))⟩
section
variable {α : Type} {efns:FuncId->Option EFunc} {given:FuncId->List PV->Option PV}
def eqL (eq : α -> α -> Bool):List α -> List α -> Bool
 |[],[]=>true
 |x::l,y::m=>eq x y&&eqL eq l m
 |_,_=>false
theorem eqL_len {eq : α -> α -> Bool} : ∀ {l m:List α},eqL eq l m=true->l.length=m.length
 |[],[],_=>rfl
 |[],_::_,h=>by cases h
 |_::_,[],h=>by cases h
 |x::l,y::m,h=>by
  simp only[eqL,Bool.and_eq_true] at h
  simp[eqL_len h.2]
theorem eqL_eq [DecidableEq α] : ∀ {l m:List α},eqL (fun x y=>decide (x=y)) l m=decide (l=m)
 |[],[]=>by simp[eqL]
 |[],_::_=>by simp[eqL]
 |_::_,[]=>by simp[eqL]
 |x::l,y::m=>by simp[eqL,eqL_eq (l:=l)]
theorem equalFunc_g {f g:FuncId} {n:Nat} {z:List PV} {T:TypeId} (hf:efns f=some (eEqualFunc n z T)) (hz:z.length=n) {cs : α -> List PV} {eq : α -> α -> Bool} {l m:List α} {st:St} (hl:l.length<4611686018427387904)
  (hc : ∀ x,(cs x).length=n/\(cs x).all PV.isCell=true)
  (hp : ∀ st',Grew st st' -> ∀ x∈l,∀ y∈m,∃ st2,callE efns given g [.agg (cs x),.agg (cs y)] st'=some (.bool (eq x y),st2)/\Grew st' st2) :
  ∃ st',callE efns given f [.lst (l.map fun x=>.agg (cs x)),.lst (m.map fun x=>.agg (cs x)),.func g []] st=some (.bool (eqL eq l m),st')/\Grew st st':=by
 have key:Good (fun v st'=>v = .bool (eqL eq l m)/\Grew st st') (callE efns given f [.lst (l.map fun x=>.agg (cs x)),.lst (m.map fun x=>.agg (cs x)),.func g []] st):=by
  rw[callE_fn efns given (c:=eEqualFunc n z T) hf rfl]
  by_cases hlen:l.length=m.length
  ·have c0:((l.length:Int)=(m.length:Int))=True:=eq_true (by omega)
   simp only[eEqualFunc,go_sem,List.length_map,c0,ne_eq]
   refine Good.for l.length (fun i fr st'=>fr=[.undef,.lst (m.map fun x=>.agg (cs x)),.func g [],.undef,.undef,.lst (l.map fun x=>.agg (cs x)),.int .i64 (m.length:Int),.int .i64 (i:Int),.undef,.undef,.undef]/\Grew st st'/\eqL eq l m=eqL eq (l.drop i) (m.drop i)) ?_ ?_ ?_
   ·rintro i fr st' hi ⟨rfl,hg,hh⟩ k hk
    have hi':i<m.length:=by omega
    have c1:((i:Int)<(m.length:Int))=True:=eq_true (by omega)
    obtain⟨a1,a2⟩:=hc l[i]
    obtain⟨b1,b2⟩:=hc m[i]
    have hat1:evIdx n (l.map fun x=>.agg (cs x)) (i:Int)=some (.ref (cs l[i])):=idx_of (e:=.agg (cs l[i])) (map_at hi) a1
    have hat2:evIdx n (m.map fun x=>.agg (cs x)) (i:Int)=some (.ref (cs m[i])):=idx_of (e:=.agg (cs m[i])) (map_at hi') b1
    have hld : ∀ ds:List PV,ds.length=n->(match (some n:Option Nat) with|none=>ds.head? | some k=>if k<=ds.length then some (.agg (ds.take k)) else none)=some (.agg ds):=fun ds e=>by
     simp only
     rw[if_pos (by omega),List.take_of_length_le (by omega)]
    have hgr:Grew st ⟨st'.boxes++[cs l[i],cs m[i]],st'.rows,st'.bt++[T,T],st'.rt⟩:=hg.trans (Grew.mk2 st' _ _ rfl)
    obtain⟨st2,h3,h4⟩:=hp _ hgr l[i] (List.getElem_mem hi) m[i] (List.getElem_mem hi')
    have hd:eqL eq (l.drop i) (m.drop i)=(eq l[i] m[i]&&eqL eq (l.drop (i+1)) (m.drop (i+1))):=by
     rw[List.drop_eq_getElem_cons hi,List.drop_eq_getElem_cons hi',eqL]
    generalize cs l[i]=x at *
    generalize cs m[i]=y at *
    generalize eq l[i] m[i]=b at *
    have q1:=hld x a1
    have q2:=hld y b1
    have z1:List.drop n z=[]:=List.drop_eq_nil_of_le (by omega)
    have z2:(n<=z.length)=True:=eq_true (by omega)
    have z3:List.take n x=x:=List.take_of_length_le (by omega)
    have z4:List.take n y=y:=List.take_of_length_le (by omega)
    cases b with
    |true =>
     simp only[bEqualFunc,go_sem,c1,hat1,hat2,q1,q2,z1,z2,z3,z4,a1,a2,b1,b2,List.append_nil,Nat.le_refl,h3,wrapN (n:=i) (by omega)]
     refine hk _ _ ⟨rfl,hgr.trans h4,?_⟩
     rw[hh,hd,Bool.true_and]
    |false =>
     simp only[bEqualFunc,go_sem,c1,hat1,hat2,q1,q2,z1,z2,z3,z4,a1,a2,b1,b2,List.append_nil,Nat.le_refl,h3]
     refine Good.done ⟨?_,hgr.trans h4⟩
     rw[hh,hd,Bool.false_and]
   ·rintro fr st' ⟨rfl,hg,hh⟩ k
    have c1:((l.length:Int)<(m.length:Int))=False:=eq_false (by omega)
    simp only[bEqualFunc,go_sem,c1]
    refine Good.done ⟨?_,hg⟩
    rw[hh,List.drop_eq_nil_of_le (Nat.le_refl _),List.drop_eq_nil_of_le (by omega)]
    rfl
   ·exact⟨by rw[hlen]; rfl,Grew.refl _,rfl⟩
  ·have c0:((l.length:Int)=(m.length:Int))=False:=eq_false (by omega)
   have h5:eqL eq l m=false:=by
    cases h:eqL eq l m with
    |false=>rfl
    |true=>exact absurd (eqL_len h) hlen
   simp only[eEqualFunc,go_sem,List.length_map,c0,ne_eq,not_false_eq_true]
   exact Good.done ⟨by rw[h5],Grew.refl _⟩
 obtain⟨v,st',h,rfl,hg⟩:=key
 exact⟨st',h,hg⟩
end
end Go.Proofs.YthjnlpfibakacaaGreatDoorPe
