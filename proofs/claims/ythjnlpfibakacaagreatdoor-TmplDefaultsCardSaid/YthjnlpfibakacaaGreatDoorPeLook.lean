/- A part of the proof of this folder's statement; it has no condition of its own. -/
import Derived.Test.YthjnlpfibakacaaGreatDoorPePure0
set_option linter.unusedVariables false
set_option linter.unusedSimpArgs false
namespace Go.Proofs.YthjnlpfibakacaaGreatDoorPe
open Go
theorem mem_tmps {l:List Opd} {t:Nat}:t∈tmpsOf l ↔ Opd.t t∈l:=by
 induction l with
 |nil=>simp[tmpsOf]
 |cons x l ih =>
  cases x with
  |t n=>simp[tmpsOf,ih]
  |c v=>simp[tmpsOf,ih]
theorem ev_same {fr fr':Fr} {l:List Opd} (h : ∀ t∈tmpsOf l,fr.getD t .undef=fr'.getD t .undef) {x:Opd} (hx:x∈l):x.ev fr=x.ev fr':=by
 cases x with
 |t n=>exact h n (mem_tmps.2 hx)
 |c v=>rfl
theorem opt_same {fr fr':Fr} {o:Option Opd} (h : ∀ x∈o.toList,x.ev fr=x.ev fr'):o.map (·.ev fr)=o.map (·.ev fr'):=by
 cases o with
 |none=>rfl
 |some x=>simp[h x (by simp)]
theorem evOp_same {cl:CallF} {i:IOp} {ts:List Nat} (hl:looksO i=some ts) {fr fr':Fr} (h : ∀ t∈ts,fr.getD t .undef=fr'.getD t .undef) (st:St):evOp cl i fr st=evOp cl i fr' st:=by
 cases i with
 |build zs ps =>
  cases hl
  have e:ps.map (fun p=>(p.1,p.2.1,p.2.2.ev fr))=ps.map fun p=>(p.1,p.2.1,p.2.2.ev fr'):=List.map_congr_left fun p hp=>by rw[ev_same h (List.mem_map_of_mem hp)]
  simp only[evOp,e]
 |ssub x lo hi =>
  cases hl
  have e1:=ev_same h (x:=x) (by simp)
  have e2:=opt_same (fr:=fr) (fr':=fr') (o:=lo) fun y hy=>ev_same h (by simp at hy ⊢; simp[hy])
  have e3:=opt_same (fr:=fr) (fr':=fr') (o:=hi) fun y hy=>ev_same h (by simp at hy ⊢; simp[hy])
  simp only[evOp,e1,e2,e3]
 |lsub n x lo hi mx =>
  cases hl
  have e1:=ev_same h (x:=x) (by simp)
  have e2:=opt_same (fr:=fr) (fr':=fr') (o:=lo) fun y hy=>ev_same h (by simp at hy ⊢; simp[hy])
  have e3:=opt_same (fr:=fr) (fr':=fr') (o:=hi) fun y hy=>ev_same h (by simp at hy ⊢; simp[hy])
  have e:evLsub fr n x lo hi mx=evLsub fr' n x lo hi mx:=by
   cases mx with
   |none =>
    simp only[evLsub,e1,e2,e3]
    cases hsOf (x.ev fr') with
    |some q=>rfl
    |none=>cases slcOf (x.ev fr').nm <;> rfl
   |some m =>
    have e4:=ev_same h (x:=m) (by simp)
    have e5:(some m).map (·.ev fr)=(some m).map (·.ev fr'):=by simp only[Option.map_some,e4]
    simp only[evLsub,e1,e2,e3,e5]
    cases hsOf (x.ev fr') with
    |some q=>rfl
    |none=>cases slcOf (x.ev fr').nm <;> simp only[e4]
  simp only[evOp,e1,e]
 |mkfn f as =>
  cases hl
  have e:as.map (·.ev fr)=as.map (·.ev fr'):=List.map_congr_left fun p hp=>ev_same h hp
  simp only[evOp,e]
 |pick c x y =>
  cases hl
  have e1:=ev_same h (x:=c) (by simp)
  have e2:=ev_same h (x:=x) (by simp)
  have e3:=ev_same h (x:=y) (by simp)
  simp only[evOp,e1,e2,e3]
 |bin op x y =>
  cases hl
  have e1:=ev_same h (x:=x) (by simp)
  have e2:=ev_same h (x:=y) (by simp)
  simp only[evOp,e1,e2]
 |eqs k n x y =>
  cases hl
  have e1:=ev_same h (x:=x) (by simp)
  have e2:=ev_same h (x:=y) (by simp)
  simp only[evOp,e1,e2]
 |idx n x y =>
  cases hl
  have e1:=ev_same h (x:=x) (by simp)
  have e2:=ev_same h (x:=y) (by simp)
  simp only[evOp,e1,e2]
 |mm m x y =>
  cases hl
  have e1:=ev_same h (x:=x) (by simp)
  have e2:=ev_same h (x:=y) (by simp)
  simp only[evOp,e1,e2]
 |sidx x y =>
  cases hl
  have e1:=ev_same h (x:=x) (by simp)
  have e2:=ev_same h (x:=y) (by simp)
  simp only[evOp,e1,e2]
 |mov x=>cases hl; have e1:=ev_same h (x:=x) (by simp); simp only[evOp,e1]
 |smov x=>cases hl; have e1:=ev_same h (x:=x) (by simp); simp only[evOp,e1]
 |nilchk x=>cases hl; have e1:=ev_same h (x:=x) (by simp); simp only[evOp,e1]
 |not x=>cases hl; have e1:=ev_same h (x:=x) (by simp); simp only[evOp,e1]
 |conv k x=>cases hl; have e1:=ev_same h (x:=x) (by simp); simp only[evOp,e1]
 |iface t x=>cases hl; have e1:=ev_same h (x:=x) (by simp); simp only[evOp,e1]
 |off o x=>cases hl; have e1:=ev_same h (x:=x) (by simp); simp only[evOp,e1]
 |field n o x=>cases hl; have e1:=ev_same h (x:=x) (by simp); simp only[evOp,e1]
 |ext x j=>cases hl; have e1:=ev_same h (x:=x) (by simp); simp only[evOp,e1]
 |len x=>cases hl; have e1:=ev_same h (x:=x) (by simp); simp only[evOp,e1]
 |slen x=>cases hl; have e1:=ev_same h (x:=x) (by simp); simp only[evOp,e1]
 |sdata x=>cases hl; have e1:=ev_same h (x:=x) (by simp); simp only[evOp,e1]
 |load n x=>cases hl; have e1:=ev_same h (x:=x) (by simp); simp only[evOp,e1]
 |_=>cases hl
end Go.Proofs.YthjnlpfibakacaaGreatDoorPe
