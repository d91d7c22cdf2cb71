/- A part of the proof of this folder's statement; it has no condition of its own. -/
import Derived.Test.YthjnlpfibakacaaGreatDoorEcRow
set_option linter.unusedVariables false
set_option linter.unusedSimpArgs false
namespace Go.Proofs.YthjnlpfibakacaaGreatDoorPe
open Go Go.Proofs.YthjnlpfibakacaaGreatDoorW.PrintLast
def bitN (m i:Nat):Bool:=Nat.beq (Nat.land (Nat.shiftRight m i) 1) 1
def subN (d m:Nat):Bool:=Nat.beq (Nat.land d m) d
def offN (a b:Nat):Bool:=Nat.beq (Nat.land a b) 0
def maskN:List Nat->Nat
 |[]=>0
 |t::l=>Nat.lor (Nat.shiftLeft 1 t) (maskN l)
theorem bitN_eq (m i:Nat):bitN m i=m.testBit i:=by
 unfold bitN Nat.testBit
 rw[show Nat.shiftRight m i=m >>> i from rfl,show Nat.land (m >>> i) 1=(m >>> i) &&& 1 from rfl,Nat.and_comm,Nat.one_and_eq_mod_two]
 rcases Nat.mod_two_eq_zero_or_one (m >>> i) with h|h <;> rw[h] <;> rfl
theorem subN_iff {d m:Nat}:subN d m=true ↔ ∀ i,d.testBit i=true->m.testBit i=true:=by
 unfold subN
 rw[Nat.beq_eq]
 constructor
 ·intro h i hi
  have:=congrArg (fun x=>Nat.testBit x i) (show d &&& m=d from h)
  simp only[Nat.testBit_and,hi,Bool.true_and] at this
  exact this
 ·intro h
  show d &&& m=d
  apply Nat.eq_of_testBit_eq
  intro i
  rw[Nat.testBit_and]
  cases hi:d.testBit i with
  |false=>rfl
  |true=>rw[h i hi]; rfl
theorem offN_iff {a b:Nat}:offN a b=true ↔ ∀ i,a.testBit i=true->b.testBit i=true->False:=by
 unfold offN
 rw[Nat.beq_eq]
 constructor
 ·intro h i hi hb
  have:=congrArg (fun x=>Nat.testBit x i) (show a &&& b=0 from h)
  simp only[Nat.testBit_and,hi,hb,Bool.true_and,Nat.zero_testBit] at this
  cases this
 ·intro h
  show a &&& b=0
  apply Nat.eq_of_testBit_eq
  intro i
  rw[Nat.testBit_and,Nat.zero_testBit]
  cases hi:a.testBit i with
  |false=>rfl
  |true=>cases hb:b.testBit i with
   |false=>rfl
   |true=>exact (h i hi hb).elim
theorem one_shift (t i:Nat):(Nat.shiftLeft 1 t).testBit i=decide (t=i):=by
 show (1 <<< t).testBit i=_
 rw[Nat.one_shiftLeft,Nat.testBit_two_pow]
theorem maskN_bit : ∀ (l:List Nat) (i:Nat),(maskN l).testBit i=l.contains i
 |[],i=>by simp[maskN]
 |t::l,i=>by
  show (Nat.shiftLeft 1 t ||| maskN l).testBit i=_
  rw[Nat.testBit_or,one_shift,maskN_bit l i,List.contains_cons]
  by_cases h:t=i
  ·subst h; simp
  ·simp[h,Ne.symm h]
structure OpN where
 d:Nat
 l:Nat
 t:Nat
def depsOf (o:Oper):List Nat:=(o.after.toList.filter fun e=>Region.binds .any e).map (·.on)
def opN (ops:Array Oper) (o:Oper):OpN:=⟨maskN (depsOf o),maskN (o.looksAt ops),match o.dst with|some d=>Nat.shiftLeft 1 d|none=>0⟩
def rdyN (m:Nat):Nat->List OpN->List Nat
 |_,[]=>[]
 |i,x::r=>match bitN m i with
  |true=>rdyN m (i+1) r
  |false=>match subN x.d m with
   |true=>i::rdyN m (i+1) r
   |false=>rdyN m (i+1) r
def freeN (m i:Nat) (x:OpN):Nat->List OpN->Bool
 |_,[]=>true
 |j,y::r=>match Nat.beq j i||(bitN m j||(bitN y.d i||(offN x.t y.l&&(offN x.t y.t&&offN y.t x.l)))) with
  |true=>freeN m i x (j+1) r
  |false=>false
def closedN (m:Nat):Nat->List OpN->Bool
 |_,[]=>true
 |j,y::r=>match !bitN m j||subN y.d m with
  |true=>closedN m (j+1) r
  |false=>false
structure RelN (n:Nat) (l:Array Bool) (m:Nat):Prop where
 size:l.size=n
 bit : ∀ i,i<n->m.testBit i=l.getD i true
 none : ∀ i,n<=i->m.testBit i=false
theorem RelN.getD {n:Nat} {l:Array Bool} {m:Nat} (h:RelN n l m) (i:Nat):l.getD i false=m.testBit i:=by
 by_cases hi:i<n
 ·rw[h.bit i hi,Array.getD_eq_getD_getElem?,Array.getD_eq_getD_getElem?,Array.getElem?_eq_getElem (by rw[h.size]; exact hi)]
  rfl
 ·rw[h.none i (by omega),Array.getD_eq_getD_getElem?,Array.getElem?_eq_none (by rw[h.size]; omega)]
  rfl
theorem deps_sub {o:Oper} {l:Array Bool} {m n:Nat} (h:RelN n l m):subN (maskN (depsOf o)) m=o.after.all fun e => !Region.binds .any e||l.getD e.on false:=by
 rw[Bool.eq_iff_iff,subN_iff]
 constructor
 ·intro hh
  refine Array.all_eq_true_iff_forall_mem.2 fun e he => ?_
  cases hb:Region.binds .any e with
  |false=>rfl
  |true =>
   have:=hh e.on (by rw[maskN_bit]; exact List.contains_iff_mem.2 (List.mem_map.2 ⟨e,List.mem_filter.2 ⟨Array.mem_toList_iff.2 he,hb⟩,rfl⟩))
   rw[h.getD,this]; rfl
 ·intro hh i hi
  rw[maskN_bit] at hi
  obtain⟨e,he,rfl⟩:=List.mem_map.1 (List.contains_iff_mem.1 hi)
  obtain⟨he,hb⟩:=List.mem_filter.1 he
  have:=Array.all_eq_true_iff_forall_mem.1 hh e (Array.mem_toList_iff.1 he)
  rw[hb,h.getD] at this
  simpa using this
def rowsN (ops:Array Oper):List OpN:=ops.toList.map (opN ops)
theorem filter_range_succ {p:Nat->Bool} (k n:Nat):((List.range' k (n+1)).filter p)=if p k=true then k::(List.range' (k+1) n).filter p else (List.range' (k+1) n).filter p:=by
 rw[List.range'_succ,List.filter_cons]
theorem rdyN_go {ops:Array Oper} {l:Array Bool} {m:Nat} (h:RelN ops.size l m) : ∀ (os:List Oper) (k:Nat),k+os.length=ops.size->(∀ j (hj:j<os.length),ops[k+j]? = some os[j]) ->
  rdyN m k (os.map (opN ops))=(List.range' k os.length).filter fun i => !l.getD i true&&((ops[i]?).map (·.after.all fun e => !Region.binds .any e||l.getD e.on false)).getD false
 |[],k,_,_=>rfl
 |o::os,k,hk,ho=>by
  simp only[List.length_cons] at hk
  have h0:ops[k]? = some o:=ho 0 (Nat.succ_pos _)
  have ih:=rdyN_go h os (k+1) (by omega) (fun j hj=>by
   have:=ho (j+1) (Nat.succ_lt_succ hj)
   rw[show k+(j+1)=k+1+j by omega] at this
   exact this)
  rw[List.length_cons,filter_range_succ,List.map_cons]
  unfold rdyN
  rw[bitN_eq,h.bit k (by omega),ih,h0]
  simp only[Option.map_some,Option.getD_some]
  cases l.getD k true with
  |true=>simp
  |false =>
   simp only[Bool.not_false,Bool.true_and]
   have e:subN (opN ops o).d m=o.after.all fun e => !Region.binds .any e||l.getD e.on false:=deps_sub h
   rw[e]
   cases o.after.all fun e => !Region.binds .any e||l.getD e.on false <;> rfl
theorem rdyN_eq {ops:Array Oper} {l:Array Bool} {m:Nat} (h:RelN ops.size l m):rdyN m 0 (rowsN ops)=Region.ready .any ops l:=by
 unfold rowsN Region.ready
 rw[rdyN_go h ops.toList 0 (by simp) (fun j hj=>by simp),List.range_eq_range']
 simp
theorem dst_bit {o:Oper} {ops:Array Oper} {d:Nat}:(opN ops o).t.testBit d=true ↔ o.dst=some d:=by
 unfold opN
 cases o.dst with
 |none=>simp
 |some e =>
  show (Nat.shiftLeft 1 e).testBit d=true ↔ _
  rw[one_shift]
  simp
theorem apartN {ops:Array Oper} {x y:Oper} (h:(offN (opN ops x).t (opN ops y).l&&(offN (opN ops x).t (opN ops y).t&&offN (opN ops y).t (opN ops x).l))=true):x.apart ops y=true:=by
 rw[Bool.and_eq_true,Bool.and_eq_true] at h
 obtain⟨h1,h2,h3⟩:=h
 rw[offN_iff] at h1 h2 h3
 unfold Oper.apart
 rw[Bool.and_eq_true]
 constructor
 ·cases hx:x.dst with
  |none=>rfl
  |some d =>
   have hd:=dst_bit (ops:=ops).2 hx
   have n1:(y.looksAt ops).contains d=false:=by
    cases hc:(y.looksAt ops).contains d with
    |false=>rfl
    |true=>exact (h1 d hd (by show (maskN (y.looksAt ops)).testBit d=true; rw[maskN_bit]; exact hc)).elim
   have n2:y.dst≠some d:=fun e=>h2 d hd (dst_bit.2 e)
   show (!(y.looksAt ops).contains d&&y.dst != some d)=true
   rw[n1,Bool.not_false,Bool.true_and]
   exact bne_iff_ne.2 n2
 ·cases hy:y.dst with
  |none=>rfl
  |some d =>
   have hd:=dst_bit (ops:=ops).2 hy
   have n1:(x.looksAt ops).contains d=false:=by
    cases hc:(x.looksAt ops).contains d with
    |false=>rfl
    |true=>exact (h3 d hd (by show (maskN (x.looksAt ops)).testBit d=true; rw[maskN_bit]; exact hc)).elim
   show (!(x.looksAt ops).contains d)=true
   rw[n1]
   rfl
theorem freeN_go {ops:Array Oper} {l:Array Bool} {m i:Nat} {oi:Oper} (h:RelN ops.size l m) : ∀ (os:List Oper) (k:Nat),(∀ j (hj:j<os.length),ops[k+j]? = some os[j])->freeN m i (opN ops oi) k (os.map (opN ops))=true ->
  ∀ j,k<=j->j<k+os.length->(j==i||l.getD j true||match ops[j]? with
   |some oj=>oj.after.any (fun e=>Region.binds .any e&&e.on==i)||oi.apart ops oj
   |none=>true)=true
 |[],k,_,_,j,h1,h2=>by simp at h2; omega
 |o::os,k,ho,hf,j,h1,h2=>by
  rw[List.map_cons] at hf
  unfold freeN at hf
  split at hf
  ·rename_i hc
   by_cases hj:j=k
   ·subst hj
    have h0:ops[j]? = some o:=ho 0 (Nat.succ_pos _)
    rw[h0]
    simp only[Bool.or_eq_true] at hc ⊢
    rcases hc with hc|hc|hc|hc
    ·exact .inl (.inl (by simpa using (Nat.beq_eq ▸ hc:j=i)))
    ·rw[bitN_eq] at hc
     have:j<ops.size:=(Array.getElem?_eq_some_iff.1 h0).1
     rw[h.bit j this] at hc
     exact .inl (.inr hc)
    ·refine .inr (.inl ?_)
     rw[bitN_eq] at hc
     have hc':(maskN (depsOf o)).testBit i=true:=hc
     rw[maskN_bit] at hc'
     obtain⟨e,he,rfl⟩:=List.mem_map.1 (List.contains_iff_mem.1 hc')
     obtain⟨he,hb⟩:=List.mem_filter.1 he
     exact Array.any_eq_true'.2 ⟨e,Array.mem_toList_iff.1 he,by simp[hb]⟩
    ·exact .inr (.inr (apartN hc))
   ·exact freeN_go h os (k+1) (fun q hq=>by
     have:=ho (q+1) (Nat.succ_lt_succ hq)
     rw[show k+(q+1)=k+1+q by omega] at this
     exact this) hf j (by omega) (by simp only[List.length_cons] at h2; omega)
  ·cases hf
theorem freeN_ok {ops:Array Oper} {l:Array Bool} {m i:Nat} {oi:Oper} (h:RelN ops.size l m) (hi:ops[i]? = some oi) (hf:freeN m i (opN ops oi) 0 (rowsN ops)=true):Region.free .any ops l i=true:=by
 unfold Region.free
 rw[hi]
 refine List.all_eq_true.2 fun j hj => ?_
 exact freeN_go h ops.toList 0 (fun q hq=>by simp) hf j (Nat.zero_le _) (by simpa using List.mem_range.1 hj)
theorem closedN_go {ops:Array Oper} {l:Array Bool} {m:Nat} (h:RelN ops.size l m) : ∀ (os:List Oper) (k:Nat),(∀ j (hj:j<os.length),ops[k+j]? = some os[j])->closedN m k (os.map (opN ops))=true ->
  ∀ j,k<=j->j<k+os.length->(!l.getD j false||match ops[j]? with
   |some o=>o.after.all fun e => !Region.binds .any e||l.getD e.on false
   |none=>true)=true
 |[],k,_,_,j,h1,h2=>by simp at h2; omega
 |o::os,k,ho,hf,j,h1,h2=>by
  rw[List.map_cons] at hf
  unfold closedN at hf
  split at hf
  ·rename_i hc
   by_cases hj:j=k
   ·subst hj
    have h0:ops[j]? = some o:=ho 0 (Nat.succ_pos _)
    rw[h0]
    have e:subN (opN ops o).d m=o.after.all fun e => !Region.binds .any e||l.getD e.on false:=deps_sub h
    rw[bitN_eq,e,<- h.getD] at hc
    exact hc
   ·exact closedN_go h os (k+1) (fun q hq=>by
     have:=ho (q+1) (Nat.succ_lt_succ hq)
     rw[show k+(q+1)=k+1+q by omega] at this
     exact this) hf j (by omega) (by simp only[List.length_cons] at h2; omega)
  ·cases hf
theorem closedN_ok {ops:Array Oper} {l:Array Bool} {m:Nat} (h:RelN ops.size l m) (hf:closedN m 0 (rowsN ops)=true):Region.closedB .any ops l=true:=by
 unfold Region.closedB
 refine List.all_eq_true.2 fun j hj => ?_
 exact closedN_go h ops.toList 0 (fun q hq=>by simp) hf j (Nat.zero_le _) (by simpa using List.mem_range.1 hj)
theorem RelN.set {n:Nat} {l:Array Bool} {m i:Nat} (h:RelN n l m) (hi:i<n):RelN n (l.setIfInBounds i true) (Nat.lor m (Nat.shiftLeft 1 i)):=by
 refine⟨by simp[h.size],fun j hj => ?_,fun j hj => ?_⟩
 ·show (m ||| Nat.shiftLeft 1 i).testBit j=_
  rw[Nat.testBit_or,one_shift,h.bit j hj,Array.getD_eq_getD_getElem?,Array.getD_eq_getD_getElem?,Array.getElem?_setIfInBounds]
  by_cases e:i=j
  ·subst e
   rw[if_pos rfl,if_pos (by rw[h.size]; exact hi)]
   simp
  ·simp[e]
 ·show (m ||| Nat.shiftLeft 1 i).testBit j=_
  rw[Nat.testBit_or,one_shift,h.none j hj]
  simp
  omega
theorem RelN.start (n:Nat):RelN n (Array.replicate n false) 0:=by
 refine⟨by simp,fun i hi => ?_,fun i _=>by simp⟩
 rw[Array.getD_eq_getD_getElem?,Array.getElem?_replicate,if_pos hi]
 simp
def rowN (i:Nat) (R:List OpN):OpN:=(R[i]?).getD ⟨0,0,0⟩
def stepN (ops:Array Oper) (R:List OpN) (ds:List Nat) (flag i:Nat) (s:IOp) (m:Nat) (l:Unit->Array Bool) (dirty:List Nat) (ended:Bool):Bool :=
 match flag with
 |0=>isPure s&&(freeN m i (rowN i R) 0 R&&(!bitN m i&&subN (rowN i R).d m))
 |1=>isLoad s&&(cleanO s dirty&&(!ended&&(freeN m i (rowN i R) 0 R&&((!bitN m i&&subN (rowN i R).d m)&&(closedN m 0 R&&Region.lastB .any ops (l ()) ds i)))))
 |2=>(match rdyN m 0 R with|[j]=>Nat.beq j i|_=>false)&&(!isShared s&&(!ended && !ds.contains i))
 |3=>(match rdyN m 0 R with|[j]=>Nat.beq j i|_=>false)&&ds.contains i
 |_=>false
theorem rowN_at {ops:Array Oper} {i:Nat} {o:Oper} (h:ops[i]? = some o):rowN i (rowsN ops)=opN ops o:=by
 unfold rowN rowsN
 rw[List.getElem?_map,show ops.toList[i]? = some o by simpa using h]
 rfl
theorem stepN_ok {ops:Array Oper} (hs:Region.noSelect ops=true) {ds:List Nat} {flag i:Nat} {s:IOp} {l:Array Bool} {m:Nat} {dirty:List Nat} {ended:Bool} {o:Oper} (hm:RelN ops.size l m) (ho:ops[i]? = some o)
  (h:stepN ops (rowsN ops) ds flag i s m (fun _=>l) dirty ended=true):stepOk ops ds flag i s l dirty ended=true:=by
 have hi:i<ops.size:=(Array.getElem?_eq_some_iff.1 ho).1
 have hrd:(!bitN m i&&subN (rowN i (rowsN ops)).d m)=true->(Region.ready .any ops l).contains i=true:=by
  intro hh
  rw[Bool.and_eq_true,rowN_at ho,bitN_eq] at hh
  refine List.contains_iff_mem.2 (List.mem_filter.2 ⟨List.mem_range.2 hi,?_⟩)
  have e:subN (opN ops o).d m=o.after.all fun e => !Region.binds .any e||l.getD e.on false:=deps_sub hm
  rw[<- hm.bit i hi,ho,Option.map_some,Option.getD_some,<- e,hh.1,hh.2]
  rfl
 have hone:(match rdyN m 0 (rowsN ops) with|[j]=>Nat.beq j i|_=>false)=true->(Region.ready .any ops l==[i])=true:=by
  intro hh
  rw[rdyN_eq hm] at hh
  split at hh
  ·rename_i j hj
   rw[hj]
   have:j=i:=Nat.beq_eq ▸ hh
   rw[this]
   simp
  ·cases hh
 unfold stepN at h
 unfold stepOk
 split at h
 ·simp only[Bool.and_eq_true] at h
  obtain⟨h1,h2,h3⟩:=h
  rw[rowN_at ho] at h2
  simp only[anyB,h1,hs,freeN_ok hm ho h2,hrd (by simp[h3.1,h3.2]),Bool.true_and,beq_self_eq_true,Bool.and_true]
 ·simp only[Bool.and_eq_true] at h
  obtain⟨h1,h2,h3,h4,h5,h6,h7⟩:=h
  rw[rowN_at ho] at h4
  simp only[takeB,h1,h2,h3,hs,freeN_ok hm ho h4,hrd (by simp[h5.1,h5.2]),closedN_ok hm h6,h7,Bool.true_and,beq_self_eq_true,Bool.and_true]
 ·simp only[Bool.and_eq_true] at h
  obtain⟨h1,h2,h3,h4⟩:=h
  simp only[readyB,hone h1,h2,h3,h4,Bool.true_and,beq_self_eq_true,Bool.and_true]
 ·simp only[Bool.and_eq_true] at h
  obtain⟨h1,h2⟩:=h
  simp only[readyB,hone h1,h2,Bool.true_and,beq_self_eq_true,Bool.and_true]
 ·cases h
def cSchedN (P:Program) (sh:FuncId->Nat) (ops:Array Oper) (R:List OpN) (ds:List Nat) (pa:List (Nat × Nat)) (fin:Option Pn):STr->Bool->Nat->(Unit->Array Bool)->List Nat->Bool->Option Tree
 |.nil,m,k,l,_,_=>match m with
  |true=>none
  |false=>match rdyN k 0 R with
   |[]=>match fin with
    |none=>some .nil
    |some _=>none
   |_=>none
 |.alt t u,m,k,l,dirty,ended=>match m||(match rdyN k 0 R with
   |[]=>false
   |r=>r.all fun i=>(t.heads++u.heads).contains i) with
  |true=>match cSchedN P sh ops R ds pa fin t true k l dirty ended,cSchedN P sh ops R ds pa fin u true k l dirty ended with
   |some t',some u'=>some (.alt t' u')
   |_,_=>none
  |false=>none
 |.cons flag i r,m,k,l,dirty,ended=>match ops[i]? with
  |none=>none
  |some o=>match look i pa with
   |some v=>match cPap P sh ops flag v o with
    |some (s,q)=>if flag=3/\tailOk ops ds flag i false m (l ())=true then match cTail P sh ops ds fin r false ((l ()).setIfInBounds i true) (some q) with
      |some ss=>some (.cons s ss)
      |none=>none
     else none
    |none=>none
   |none=>match cSOp P sh ops flag o with
   |none=>none
   |some s=>match (if m then altOk ops ds flag i s.op ended else stepN ops R ds flag i s.op k l dirty ended) with
    |true=>match cSchedN P sh ops R ds pa fin r false (Nat.lor k (Nat.shiftLeft 1 i)) (fun _=>(l ()).setIfInBounds i true) (dirtyN o.dst (decide (flag<=1)&&cleanO s.op dirty) dirty) (ended||flag==3) with
     |some ss=>some (.cons s ss)
     |none=>none
    |false=>none
theorem cSchedN_ok {P:Program} {sh:FuncId->Nat} {ops:Array Oper} (hs:Region.noSelect ops=true) {ds:List Nat} {pa:List (Nat × Nat)} {fin:Option Pn} : ∀ (t:STr) (m:Bool) (k:Nat) (l:Array Bool) (dirty:List Nat) (ended:Bool) (r:Tree),RelN ops.size l k ->
  cSchedN P sh ops (rowsN ops) ds pa fin t m k (fun _=>l) dirty ended=some r->cSched P sh ops ds pa fin t m l dirty ended=some r
 |.nil,m,k,l,dirty,ended,r,hr,h=>by
  unfold cSchedN at h
  unfold cSched
  split at h
  ·cases h
  ·rw[rdyN_eq hr] at h
   split at h
   ·rename_i he
    rw[he]
    cases fin with
    |none=>cases h; rfl
    |some q=>cases h
   ·cases h
 |.alt t u,m,k,l,dirty,ended,r,hr,h=>by
  unfold cSchedN at h
  unfold cSched
  split at h
  ·rename_i hc
   have hc':(m||(!(Region.ready .any ops l==[])&&(Region.ready .any ops l).all fun i=>(t.heads++u.heads).contains i))=true:=by
    rw[rdyN_eq hr] at hc
    rw[Bool.or_eq_true] at hc ⊢
    rcases hc with hc|hc
    ·exact .inl hc
    ·refine .inr ?_
     split at hc
     ·cases hc
     ·rename_i r' hne
      rw[hc,Bool.and_true]
      cases hz:Region.ready .any ops l with
      |nil=>exact absurd hz hne
      |cons a b=>rfl
   rw[hc']
   simp only
   cases h1:cSchedN P sh ops (rowsN ops) ds pa fin t true k (fun _=>l) dirty ended with
   |none=>rw[h1] at h; cases h
   |some t' =>
    cases h2:cSchedN P sh ops (rowsN ops) ds pa fin u true k (fun _=>l) dirty ended with
    |none=>rw[h1,h2] at h; cases h
    |some u' =>
     rw[h1,h2] at h
     rw[cSchedN_ok hs t true k l dirty ended t' hr h1,cSchedN_ok hs u true k l dirty ended u' hr h2]
     exact h
  ·cases h
 |.cons flag i t,m,k,l,dirty,ended,r,hr,h=>by
  unfold cSchedN at h
  unfold cSched
  cases ho:ops[i]? with
  |none=>rw[ho] at h; cases h
  |some o =>
   rw[ho] at h
   simp only at h ⊢
   have hi:i<ops.size:=(Array.getElem?_eq_some_iff.1 ho).1
   cases hpa:look i pa with
   |some v=>rw[hpa] at h; exact h
   |none =>
   rw[hpa] at h
   simp only at h ⊢
   cases hc:cSOp P sh ops flag o with
   |none=>rw[hc] at h; cases h
   |some s =>
    rw[hc] at h
    simp only at h ⊢
    split at h
    ·rename_i hk
     have hk':(if m=true then altOk ops ds flag i s.op ended else stepOk ops ds flag i s.op l dirty ended)=true:=by
      cases m with
      |true=>simpa using hk
      |false=>simpa using stepN_ok hs hr ho (by simpa using hk)
     rw[if_pos hk']
     cases h1:cSchedN P sh ops (rowsN ops) ds pa fin t false (Nat.lor k (Nat.shiftLeft 1 i)) (fun _=>l.setIfInBounds i true) (dirtyN o.dst (decide (flag<=1)&&cleanO s.op dirty) dirty) (ended||flag==3) with
     |none=>rw[h1] at h; cases h
     |some ss =>
      rw[h1] at h
      rw[cSchedN_ok hs t false _ _ _ _ ss (hr.set hi) h1]
      exact h
    ·cases h
def forceN {α : Type} (n:Nat) (k:Nat -> α) : α :=
 match n with
 |0=>k 0
 |n+1=>k (n+1)
theorem forceN_eq {α : Type} (n:Nat) (k:Nat -> α):forceN n k=k n:=by cases n <;> rfl
def forceR {α : Type}:List OpN->(List OpN -> α) -> α
 |[],k=>k []
 |x::r,k=>forceN x.d fun d=>forceN x.l fun l=>forceN x.t fun t=>forceR r fun r=>k (⟨d,l,t⟩::r)
theorem forceR_eq {α : Type} : ∀ (r:List OpN) (k:List OpN -> α),forceR r k=k r
 |[],k=>rfl
 |x::r,k=>by
  unfold forceR
  rw[forceN_eq,forceN_eq,forceN_eq,forceR_eq r]
def regionN (P:Program) (sh:FuncId->Nat) (ops:Array Oper) (pa:List (Nat × Nat)) (fin:Option Pn) (t:STr):Option Tree :=
 match Region.noSelect ops with
 |true=>forceR (rowsN ops) fun R=>cSchedN P sh ops R t.lasts pa fin t false 0 (fun _=>Array.replicate ops.size false) [] false
 |false=>none
theorem regionN_ok {P:Program} {sh:FuncId->Nat} {ops:Array Oper} {pa:List (Nat × Nat)} {fin:Option Pn} {t:STr} {r:Tree} (h:regionN P sh ops pa fin t=some r):cSched P sh ops t.lasts pa fin t false (Array.replicate ops.size false) [] false=some r:=by
 unfold regionN at h
 split at h
 ·rename_i hs
  rw[forceR_eq] at h
  exact cSchedN_ok hs _ _ _ _ _ _ _ (RelN.start _) h
 ·cases h
def seqPN (P:Program) (sh:FuncId->Nat) (hs:Hints) (x y:Code):Option IC :=
 match hs.pe with
 |[]=>none
 |_::_=>seqP P sh hs x y
theorem seqPN_eq {P:Program} {sh:FuncId->Nat} {hs:Hints} {x y:Code}:seqPN P sh hs x y=seqP P sh hs x y:=by
 unfold seqPN
 split
 ·rename_i e
  unfold seqP
  split
  ·rw[e]
   rfl
  ·rfl
 ·rfl
def compN (P:Program) (sh:FuncId->Nat) (hs:Hints):Nat->Code->Option IC
 |_,.skip=>some .skip
 |_,.ret=>some .ret
 |_,.exit id=>some (.exit id)
 |_,.region id ops draw=>if draw then match look id hs.sched with
   |some r=>if r.depth=ops.size/\r.even=true then (regionN P sh ops (orNil (look id hs.pa)) none r).map .draw else none
   |none=>some failC
  else match look id hs.pa with
   |none=>(mapO (cSOp P sh ops 0) ops.toList).map .ops
   |some pa=>(cPOps P sh ops pa ops.toList.zipIdx none).map .ops
 |b,.seq x y=>match seqPN P sh hs x y with
  |some ic=>some ic
  |none=>match compN P sh hs b x,compN P sh hs b y with
   |some x',some y'=>some (seqI (chOf hs x) x' y')
   |_,_=>none
 |b,.cond c x y=>match cOpd c,compN P sh hs b x,compN P sh hs b y with
  |some c',some x',some y'=>some (.cond c' x' y')
  |_,_,_=>none
 |_,.block id x=>(compN P sh hs id x).map (.block id)
 |b,.loop x=>match look b hs.mask,compN P sh hs b x with
  |some m,some x'=>some (.loop m x')
  |_,_=>none
 |_,_=>some failC
theorem compN_ok {P:Program} {sh:FuncId->Nat} {hs:Hints} : ∀ (c:Code) (b:Nat) (r:IC),compN P sh hs b c=some r->comp P sh hs b c=some r
 |.skip,b,r,h=>h
 |.ret,b,r,h=>h
 |.exit id,b,r,h=>h
 |.region id ops draw,b,r,h=>by
  unfold compN at h
  unfold comp
  split at h
  ·rename_i hd
   rw[if_pos hd]
   split at h
   ·rename_i t ht
    rw[ht]
    simp only
    split at h
    ·rename_i hc
     rw[if_pos hc]
     cases h1:regionN P sh ops (orNil (look id hs.pa)) none t with
     |none=>rw[h1] at h; cases h
     |some t'=>rw[h1] at h; rw[regionN_ok h1]; exact h
    ·cases h
   ·rename_i ht
    rw[ht]
    exact h
  ·rename_i hd
   rw[if_neg hd]
   exact h
 |.seq x y,b,r,h=>by
  unfold compN at h
  unfold comp
  rw[seqPN_eq] at h
  cases h0:seqP P sh hs x y with
  |some ic=>rw[h0] at h; exact h
  |none =>
  rw[h0] at h
  simp only at h ⊢
  cases h1:compN P sh hs b x with
  |none=>rw[h1] at h; cases h
  |some x' =>
   cases h2:compN P sh hs b y with
   |none=>rw[h1,h2] at h; cases h
   |some y' =>
    rw[h1,h2] at h
    rw[compN_ok x b x' h1,compN_ok y b y' h2]
    exact h
 |.cond c x y,b,r,h=>by
  unfold compN at h
  unfold comp
  cases h0:cOpd c with
  |none=>rw[h0] at h; cases h
  |some c' =>
   cases h1:compN P sh hs b x with
   |none=>rw[h0,h1] at h; cases h
   |some x' =>
    cases h2:compN P sh hs b y with
    |none=>rw[h0,h1,h2] at h; cases h
    |some y' =>
     rw[h0,h1,h2] at h
     rw[compN_ok x b x' h1,compN_ok y b y' h2]
     exact h
 |.block id x,b,r,h=>by
  unfold compN at h
  unfold comp
  cases h1:compN P sh hs id x with
  |none=>rw[h1] at h; cases h
  |some x'=>rw[h1] at h; rw[compN_ok x id x' h1]; exact h
 |.loop x,b,r,h=>by
  unfold compN at h
  unfold comp
  cases h0:look b hs.mask with
  |none=>rw[h0] at h; cases h
  |some m =>
   cases h1:compN P sh hs b x with
   |none=>rw[h0,h1] at h; cases h
   |some x' =>
    rw[h0,h1] at h
    rw[compN_ok x b x' h1]
    exact h
 |.rangeFunc ..,b,r,h=>h
 |.scope ..,b,r,h=>h
 |.label ..,b,r,h=>h
 |.goto ..,b,r,h=>h
 |.refuse ..,b,r,h=>h
def compFN (P:Program) (sh:FuncId->Nat) (hs:Hints) (f:Func):Option IFunc :=
 match f.body,mapO (cRes P) f.results.toList with
 |some c,some rs=>match compN P (hs.sh sh) hs 0 c with
  |some b=>some ⟨f.ntmps,rs,b⟩
  |none=>none
 |_,_=>none
theorem compFN_ok {P:Program} {sh:FuncId->Nat} {hs:Hints} {f:Func} {r:IFunc} (h:compFN P sh hs f=some r):compF P sh hs f=some r:=by
 unfold compFN at h
 unfold compF
 cases h1:f.body with
 |none=>rw[h1] at h; cases h
 |some c =>
  cases h2:mapO (cRes P) f.results.toList with
  |none=>rw[h1,h2] at h; cases h
  |some rs =>
   rw[h1,h2] at h
   simp only at h ⊢
   cases h3:compN P (hs.sh sh) hs 0 c with
   |none=>rw[h3] at h; cases h
   |some b=>rw[h3] at h; rw[compN_ok c 0 b h3]; exact h
def rowBN (P:Program) (sh:FuncId->Nat) (r:ERow):Option EFunc:=(compFN P sh r.h r.f).bind (decF r.d r.np)
theorem rowB_of {P:Program} {sh:FuncId->Nat} {r:ERow} {e:EFunc} (h:rowBN P sh r=some e):rowB P sh r=some e:=by
 unfold rowBN at h
 unfold rowB
 cases h1:compFN P sh r.h r.f with
 |none=>rw[h1] at h; cases h
 |some c=>rw[h1] at h; rw[compFN_ok h1]; exact h
end Go.Proofs.YthjnlpfibakacaaGreatDoorPe
