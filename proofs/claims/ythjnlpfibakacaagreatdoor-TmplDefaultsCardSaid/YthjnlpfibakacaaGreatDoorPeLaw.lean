/- A part of the proof of this folder's statement; it has no condition of its own. -/
import Derived.Test.YthjnlpfibakacaaGreatDoorPeSound3
import Derived.ProofKit
import Derived.Deep.Strs
set_option linter.unusedVariables false
set_option linter.unusedSimpArgs false
namespace Go.Proofs.YthjnlpfibakacaaGreatDoorPe
open Go Go.RowKit Go.ChangeShapes
inductive Sh where
 |int (k:IntKind)
 |bool
 |str
 |sl (s:Sh)
 |st3 (a b c:Sh)
def Sh.n:Sh->Nat
 |.st3 _ _ _=>3
 |_=>1
def Fits (P:Program):Sh->TypeId->Prop
 |.int k,t=>P.underlying t=some (.int k)
 |.bool,t=>P.underlying t=some .bool
 |.str,t=>P.underlying t=some .string
 |.sl s,t => ∃ e,P.underlying t=some (.slice e)/\P.cellsOf e=s.n/\Fits P s e
 |.st3 a b c,t => ∃ f0 f1 f2,P.underlying t=some (.struct #[f0,f1,f2])/\(f0.offset=0/\f1.offset=1/\f2.offset=2)/\(P.cellsOf f0.type=1/\P.cellsOf f1.type=1/\P.cellsOf f2.type=1/\P.cellsOf t=3) /\
   (a.n=1/\b.n=1/\c.n=1)/\Fits P a f0.type/\Fits P b f1.type/\Fits P c f2.type
def Typed:Sh->PV->Prop
 |.int k,x => ∃ n,x = .int k n/\(Lit.int k n).wf=true
 |.bool,x => ∃ b,x = .bool b
 |.str,x => ∃ s:List UInt8,x = .str s/\s.length<=maxLen
 |.sl s,x => ∃ l,x = .lst l/\l.length<=maxLen /\ ∀ y∈l,Typed s y
 |.st3 a b c,x => ∃ p q r,x = .agg [p,q,r]/\Typed a p/\Typed b q/\Typed c r
theorem RepD.emptyL {F:Fix} {w:World} (a:Option Addr) (cap:Nat) (hn:a=none->cap=0):RepD F w (.lst []) (.slice a 0 cap) :=
 RepD.sl (l:=[]) (b:=0) (o:=0) (sz:=0) (vs:=fun _=>Go.undef) (.inl rfl) (Nat.zero_le _) ⟨fun h=>absurd rfl h,hn⟩ (fun i hi=>absurd hi (Nat.not_lt_zero _)) (fun i j hi=>absurd hi (Nat.not_lt_zero _)) (fun i hi=>absurd hi (Nat.not_lt_zero _))
def Old (w:World):Fix:=fun b _=>b<w.heap.size
theorem cells?_all {w:World} {base:Nat} {a:Addr} {n:Nat} {cs:List Value} (h:w.cells? base a n=some cs):cs.length=n /\ ∀ i,i<n->w.cell? (a.add i)=cs[i]? := by
 unfold World.cells? at h
 split at h
 ·have h1:(List.range n).mapM (fun i=>w.cell? (a.add i))=some cs:=h
  have key : ∀ (l:List Nat) (cs:List Value),l.mapM (fun i=>w.cell? (a.add i))=some cs->cs.length=l.length /\ ∀ i (hi:i<l.length),w.cell? (a.add l[i])=cs[i]? := by
   intro l
   induction l with
   |nil=>intro cs h; simp at h; subst h; exact⟨rfl,fun i hi=>absurd hi (Nat.not_lt_zero _)⟩
   |cons x l ih =>
    intro cs h
    rw[List.mapM_cons] at h
    cases hc:w.cell? (a.add x) with
    |none=>rw[hc] at h; cases h
    |some c =>
     rw[hc] at h
     cases hr:l.mapM (fun i=>w.cell? (a.add i)) with
     |none=>simp only[hr] at h; cases h
     |some r =>
      simp only[hr] at h
      cases h
      obtain⟨e,k⟩:=ih r hr
      refine⟨by simp[e],fun i hi => ?_⟩
      cases i with
      |zero=>simpa using hc
      |succ i=>simpa using k i (by simpa using hi)
  obtain⟨e,k⟩:=key _ _ h1
  rw[List.length_range] at e
  exact⟨e,fun i hi=>by have:=k i (by simpa using hi); simpa using this⟩
 ·cases h
theorem cell?_spot {w:World} {a:Addr} {c:Value} (h:w.cell? a=some c):a.spot=none/\a.block<w.heap.size:=by
 unfold World.cell? at h
 split at h
 ·rename_i hb
  split at h
  ·cases h
  ·rename_i hs
   exact⟨by simpa using hs,(Array.getElem?_eq_some_iff.1 hb).1⟩
 ·cases h
theorem read_ok {H:Type} {enc:TypeId × Value->H} {P:Program} {w:World} {sp:Nat->Bool} {held:Bool} : ∀ (s:Sh) (t:TypeId) (fuel:Nat) (cs:List Value) (d:DataW H × List MemPlace),Fits P s t->DataW.trod enc P w 0 sp held fuel t cs=some d ->
  ∃ v x,cs=v.cells.toList/\v.cells.size=s.n/\(∀ u∈cs,u.oneCell'=true)/\(s.n=1->v.cells = #[v]/\x.isCell=true)/\Typed s x/\RepD (Old w) w x v
 |.int k,t,fuel,cs,d,hf,h=>by
  obtain⟨n,rfl,_,hw⟩:=DataW.trod_int hf h
  exact⟨.int k n,.int k n,rfl,rfl,fun u hu=>by simp at hu; subst hu; rfl,fun _=>⟨rfl,rfl⟩,⟨n,rfl,hw⟩,.int k n⟩
 |.bool,t,fuel,cs,d,hf,h=>by
  obtain⟨b,rfl,_⟩:=DataW.trod_bool hf h
  exact⟨.bool b,.bool b,rfl,rfl,fun u hu=>by simp at hu; subst hu; rfl,fun _=>⟨rfl,rfl⟩,⟨b,rfl⟩,.bool b⟩
 |.str,t,fuel,cs,d,hf,h=>by
  obtain⟨⟨⟨s⟩⟩,rfl,_,hs⟩:=DataW.trod_string hf h
  exact⟨.string ⟨⟨s⟩⟩,.str s,rfl,rfl,fun u hu=>by simp at hu; subst hu; rfl,fun _=>⟨rfl,rfl⟩,⟨s,rfl,hs⟩,.str s⟩
 |.st3 a b c,t,fuel,cs,d,hf,h=>by
  obtain⟨f0,f1,f2,ht,⟨o0,o1,o2⟩,⟨c0,c1,c2,ct⟩,⟨n0,n1,n2⟩,g0,g1,g2⟩:=hf
  obtain⟨y0,y1,y2,n,_,hl,r0,r1,r2⟩:=Deep.trod_struct3 ht h
  rw[ct] at hl
  match cs,hl with
  |[v0,v1,v2],_ =>
   rw[o0,c0] at r0
   rw[o1,c1] at r1
   rw[o2,c2] at r2
   obtain⟨u0,x0,e0,_,s0,k0,t0,d0⟩:=read_ok a f0.type n _ _ g0 r0
   obtain⟨u1,x1,e1,_,s1,k1,t1,d1⟩:=read_ok b f1.type n _ _ g1 r1
   obtain⟨u2,x2,e2,_,s2,k2,t2,d2⟩:=read_ok c f2.type n _ _ g2 r2
   rw[(k0 n0).1] at e0
   rw[(k1 n1).1] at e1
   rw[(k2 n2).1] at e2
   simp only[List.drop_zero,List.take_succ_cons,List.take_zero,List.drop_succ_cons,List.cons.injEq,and_true] at e0 e1 e2 s0 s1 s2
   subst e0
   subst e1
   subst e2
   refine⟨.agg #[v0,v1,v2],.agg [x0,x1,x2],rfl,rfl,?_,(fun h=>by cases h),⟨x0,x1,x2,rfl,t0,t1,t2⟩,.agg rfl fun j hj => ?_⟩
   ·intro u hu
    simp only[List.mem_cons,List.not_mem_nil,or_false] at hu
    rcases hu with rfl|rfl|rfl
    ·exact s0 _ (by simp)
    ·exact s1 _ (by simp)
    ·exact s2 _ (by simp)
   ·match j,hj with
    |0,_=>exact d0
    |1,_=>exact d1
    |2,_=>exact d2
 |.sl s,t,fuel,cs,d,hf,h=>by
  obtain⟨e,he,hc,hs⟩:=hf
  have nil1 : ∀ (a:Option Addr) (cap:Nat),(a=none->cap=0) -> ∃ v x,[Value.slice a 0 cap]=v.cells.toList/\v.cells.size=(Sh.sl s).n/\(∀ u∈[Value.slice a 0 cap],u.oneCell'=true)/\((Sh.sl s).n=1->v.cells = #[v]/\x.isCell=true)/\Typed (.sl s) x/\RepD (Old w) w x v:=fun a cap ha =>
   ⟨.slice a 0 cap,.lst [],rfl,rfl,fun u hu=>by simp at hu; subst hu; rfl,fun _=>⟨rfl,rfl⟩,⟨[],rfl,Nat.zero_le _,fun y hy=>by cases hy⟩,RepD.emptyL _ _ ha⟩
  rcases DataW.trod_slice he h with ⟨rfl,_⟩|⟨a,len,cap,elems,rest,n,_,rfl,_,_,hl,hm,hlen,hel,_,_⟩
  ·exact nil1 none 0 fun _=>rfl
  ·rcases Nat.eq_zero_or_pos len with rfl|hpos
   ·exact nil1 (some a) cap fun h=>by cases h
   ·have each : ∀ i,∃ (v:Value) (x:PV),i<len->(∀ j,j<s.n->w.cell? ((a.add (i*s.n)).add j)=some (v.cells.getD j Go.undef)/\(v.cells.getD j Go.undef).oneCell'=true)/\v.cells.size=s.n/\Typed s x/\RepD (Old w) w x v:=by
     intro i
     by_cases hi:i<len
     ·have h1:=hel i hi
      rw[hc,List.getElem?_eq_getElem (by omega)] at h1
      obtain⟨cs,h2,h3⟩:=Option.bind_eq_some_iff.1 h1
      obtain⟨h4,h5⟩:=cells?_all h2
      obtain⟨v,x,e1,e2,e3,_,e5,e6⟩:=read_ok s e n _ _ hs h3
      refine⟨v,x,fun _=>⟨fun j hj => ?_,e2,e5,e6⟩⟩
      have h6:=h5 j hj
      have hj':j<v.cells.size:=by omega
      rw[e1,Array.getElem?_toList,Array.getElem?_eq_getElem hj'] at h6
      rw[Array.getD_eq_getD_getElem?,Array.getElem?_eq_getElem hj']
      exact⟨h6,e3 _ (by rw[e1]; exact Array.getElem_mem_toList hj')⟩
     ·exact⟨Go.undef,.undef,fun h=>absurd h hi⟩
    have hn0:0<s.n:=by cases s <;> simp[Sh.n]
    have h0:=((each 0).choose_spec.choose_spec hpos).1 0 hn0
    have hsp:=cell?_spot h0.1
    have ha0:(a.add (0*s.n)).add 0=a:=by simp[Addr.add]
    rw[ha0] at hsp
    obtain⟨b,o,spt⟩:=a
    obtain⟨e1,e2⟩:=hsp
    simp only at e1 e2
    subst e1
    let X:Nat->PV:=fun i=>(each i).choose_spec.choose
    let V:Nat->Value:=fun i=>(each i).choose
    have spec : ∀ i,i<len->(∀ j,j<s.n->w.cell? (((⟨b,o,none⟩:Addr).add (i*s.n)).add j)=some ((V i).cells.getD j Go.undef)/\((V i).cells.getD j Go.undef).oneCell'=true)/\(V i).cells.size=s.n/\Typed s (X i)/\RepD (Old w) w (X i) (V i):=fun i hi=>(each i).choose_spec.choose_spec hi
    have hadd : ∀ (o i:Nat),(⟨b,o,none⟩:Addr).add i=⟨b,o+i,none⟩:=by
     intro o i
     unfold Addr.add
     split
     ·rename_i h; subst h; rfl
     ·rfl
    have hlen':((List.range len).map X).length=len:=by simp
    have hR:=RepD.sl (F:=Old w) (w:=w) (x:=.lst ((List.range len).map X)) (l:=(List.range len).map X) (a:=some ⟨b,o,none⟩) (cap:=cap) (b:=b) (o:=o) (sz:=s.n) (vs:=V) (.inl rfl) (by rw[hlen']; exact hl) ⟨fun _=>rfl,fun h=>by cases h⟩
     (fun i hi=>by rw[hlen'] at hi; exact (spec i hi).2.1) (fun i j hi hj=>by
      rw[hlen'] at hi
      have h1:=(spec i hi).1 j hj
      rw[hadd,hadd] at h1
      exact⟨e2,h1⟩) (fun i hi=>by
      rw[hlen'] at hi
      simp only[List.getElem_map,List.getElem_range]
      exact (spec i hi).2.2.2)
    rw[hlen'] at hR
    refine⟨.slice (some ⟨b,o,none⟩) len cap,.lst ((List.range len).map X),rfl,rfl,fun u hu=>by simp at hu; subst hu; rfl,fun _=>⟨rfl,rfl⟩,⟨_,rfl,?_,?_⟩,hR⟩
    ·simp only[List.length_map,List.length_range]; omega
    ·intro y hy
     obtain⟨i,hi,rfl⟩:=List.mem_map.1 hy
     exact (spec i (by simpa using hi)).2.2.1
theorem arg_ok {H:Type} {enc:TypeId × Value->H} {P:Program} {w:World} {base:Nat} {s:Sh} {t:TypeId} {v:Value} {d:DataW H} {p:List MemPlace} (hf:Fits P s t) (hval:Value.okWide P w .any base t v) (h:DataW.Trod enc P w 0 (fun _=>true) true t v d p) :
  ∃ x,Typed s x/\RepD (Old w) w x v:=by
 obtain⟨fuel,h⟩:=h
 obtain⟨c,x,e1,e2,_,e4,e5,e6⟩:=read_ok s t fuel _ _ hf h
 have e1':v.cells=c.cells:=Array.toList_inj.1 e1
 have hv:v=c:=by
  by_cases hn:s.n=1
  ·have e7:=(e4 hn).1
   rw[e7] at e1'
   cases v with
   |agg cs =>
    exfalso
    cases s with
    |int k=>simp[Fits] at hf; simp[Value.okWide,Cell.okWide,Cell.ok,hf] at hval
    |bool=>simp[Fits] at hf; simp[Value.okWide,Cell.okWide,Cell.ok,hf] at hval
    |str=>simp[Fits] at hf; simp[Value.okWide,Cell.okWide,Cell.ok,hf] at hval
    |sl s=>obtain⟨e,he,_⟩:=hf; simp[Value.okWide,Cell.okWide,Cell.ok,he] at hval
    |st3 a b c=>cases hn
   |_=>simpa [Value.cells] using e1'
  ·cases s with
   |st3 a b d =>
    have h3:c.cells.size=3:=e2
    cases c with
    |agg cs =>
     cases v with
     |agg us=>simp only[Value.cells] at e1'; rw[e1']
     |_=>rw[<- e1'] at h3; simp[Value.cells] at h3
    |_=>simp[Value.cells] at h3
   |_=>exact absurd rfl hn
 subst hv
 exact⟨x,e5,e6⟩
theorem trodAll_stays {H:Type} {enc:TypeId × Value->H} {P:Program} (hl:laidOutB P=true) {W W':World} {sp:Nat->Bool} (hb:Below W.heap.size W W') : ∀ (ts:List TypeId) (vs:List Value) (ds:List (DataW H)) (p:List MemPlace),
  (∀ t∈ts,P.readableRec t=true/\t<P.types.size)->DataW.TrodAll enc P W 0 (fun _=>true) true ts vs ds p->(∀ x∈p,x.block<W.heap.size)->(∀ x∈p,sp x.block=true)->DataW.TrodAll enc P W' 0 sp true ts vs ds p
 |[],[],[],p,_,h,_,_=>h
 |[],[],_::_,p,_,h,_,_=>h.elim
 |[],_::_,_,p,_,h,_,_=>h.elim
 |_::_,[],_,p,_,h,_,_=>h.elim
 |_::_,_::_,[],p,_,h,_,_=>h.elim
 |t::ts,v::vs,d::ds,p,hr,h,hlt,hsp=>by
  obtain⟨q,r,h1,h2,rfl⟩:=h
  have ht:=hr t (by simp)
  exact⟨q,r,WideElems.Trod_stays hl ht.1 ht.2 h1 (fun x hx=>hb.same (hlt x (List.mem_append_left _ hx))) (fun x hx=>hsp x (List.mem_append_left _ hx)),
   trodAll_stays hl hb ts vs ds r (fun t ht=>hr t (List.mem_cons_of_mem _ ht)) h2 (fun x hx=>hlt x (List.mem_append_right _ hx)) (fun x hx=>hsp x (List.mem_append_right _ hx)),rfl⟩
theorem post_true {H:Type} {enc:TypeId × Value->H} {P:Program} {f:Func} {s:ChangeSpec} {apart fresh handsOn again:Bool} {W W':World} {args:Array Value} {ds gs:List (DataW H)} {before:List MemPlace} {tb:TypeId} (hl:laidOutB P=true)
  (hrd : ∀ t∈f.params.toList,P.readableRec t=true/\t<P.types.size) (hvars:s.vars=[]) (hres:f.resultTypes = #[tb]) (htb:P.underlying tb=some .bool)
  (hW:DataW.Whole enc P f.params.toList s.vars apart W args.toList ds gs before) (hfn:s.fn H (ds++gs)=⟨[.lit (.bool true)],ds,[]⟩) (hb:Below W.heap.size W W') :
  s.post enc P f apart fresh handsOn again W args (.bool true) W':=by
 have hlt:=hW.lt
 have hW':=hW
 obtain⟨p,q,hA,hV,rfl,hfz,hnd⟩:=hW
 rw[hvars] at hV
 obtain⟨rfl,rfl⟩:=trodVars_none hV
 have hargs : ∀ sp:Nat->Bool,(∀ x∈p,sp x.block=true)->DataW.TrodAll enc P W' 0 sp true f.params.toList args.toList ds p:=fun sp hsp =>
  trodAll_stays hl hb _ _ _ _ hrd hA (fun x hx=>hlt x (by simpa using hx)) hsp
 have hr1:((Value.bool true).resultList f.resultTypes.size)=[.bool true]:=by rw[hres]; rfl
 have hres' : ∀ (b:Nat) (sp:Nat->Bool) (hd:Bool),DataW.TrodAll enc P W' b sp hd f.resultTypes.toList ((Value.bool true).resultList f.resultTypes.size) [.lit (.bool true)] []:=fun b sp hd=>by
  rw[hr1,hres]
  exact trodAll_mk1 (shut_bool htb true)
 have hfz':W'.noneFrozen (p++[]):=by
  intro b off hp
  rw[hb.frozen (p:=⟨b,off,none⟩) (hlt _ hp)]
  exact hfz b off hp
 refine⟨ds,[],p++[],[],p,[],hW',by rw[hfn]; exact hres' _ _ _,by rw[hfn]; exact hargs _ (fun x hx=>by simpa using hlt x (by simpa using hx)),?_,hb.frame _,fun _=>⟨?_,?_⟩⟩
 ·rw[hvars]; rw[hfn]; exact rfl
 ·exact ok_one hres rfl (okWide_bool_mk htb true)
 ·refine⟨[.lit (.bool true)]++ds,[],p++[],⟨p,[],?_,?_,rfl,hfz',hnd⟩,fun x hx _=>hx⟩
  ·have:=trodAll_append (hargs (fun _=>true) (fun _ _=>rfl)) (hres' 0 (fun _=>true) true)
   simpa using this
  ·rw[hvars]; exact rfl
def FitsAll (P:Program):List Sh->List TypeId->Prop
 |[],[]=>True
 |s::ss,t::ts=>Fits P s t/\FitsAll P ss ts
 |_,_=>False
def TypedAll:List Sh->List PV->Prop
 |[],[]=>True
 |s::ss,x::xs=>Typed s x/\TypedAll ss xs
 |_,_=>False
theorem typed3 {s t u:Sh} : ∀ {xs:List PV},TypedAll [s,t,u] xs -> ∃ x y z,xs=[x,y,z]/\Typed s x/\Typed t y/\Typed u z
 |[x,y,z],h=>⟨x,y,z,rfl,h.1,h.2.1,h.2.2.1⟩
theorem args_ok {H:Type} {enc:TypeId × Value->H} {P:Program} {w:World} {base:Nat} : ∀ (ss:List Sh) (ts:List TypeId) (vs:List Value) (ds:List (DataW H)) (p:List MemPlace),FitsAll P ss ts ->
  (∀ (j:Nat) t v,ts[j]? = some t->vs[j]? = some v->Value.okWide P w .any base t v)->DataW.TrodAll enc P w 0 (fun _=>true) true ts vs ds p ->
  ds.length=ss.length /\ ∃ xs,TypedAll ss xs/\xs.length=vs.length /\ ∀ j (h:j<xs.length),RepD (Old w) w (xs[j]) (vs.getD j Go.undef)
 |[],[],[],[],p,_,_,h=>⟨rfl,[],trivial,rfl,fun j hj=>absurd hj (Nat.not_lt_zero _)⟩
 |[],[],[],_::_,p,_,_,h=>h.elim
 |[],[],_::_,_,p,_,_,h=>h.elim
 |[],_::_,_,_,p,hf,_,h=>hf.elim
 |_::_,[],_,_,p,hf,_,h=>hf.elim
 |_::_,_::_,[],_,p,_,_,h=>h.elim
 |_::_,_::_,_::_,[],p,_,_,h=>h.elim
 |s::ss,t::ts,v::vs,d::ds,p,hf,hval,h=>by
  obtain⟨q,r,h1,h2,rfl⟩:=h
  obtain⟨x,hx,hr⟩:=arg_ok hf.1 (hval 0 t v rfl rfl) h1
  obtain⟨hl,xs,k1,k2,k3⟩:=args_ok ss ts vs ds r hf.2 (fun j t v h1 h2=>hval (j+1) t v (by simpa using h1) (by simpa using h2)) h2
  refine⟨by simp[hl],x::xs,⟨hx,k1⟩,by simp[k2],fun j hj => ?_⟩
  cases j with
  |zero=>exact hr
  |succ j=>simpa using k3 j (by simpa using hj)
theorem law_contract {H:Type} {enc:TypeId × Value->H} {P:Program} {fns:FuncId->Option IFunc} {given:FuncId->List PV->Option PV} (hm:P.follows .mixedOrders=true) (hF:FnsOk P fns) (hl:laidOutB P=true)
  {f:FuncId} {fn:Func} {s:ChangeSpec} {apart fresh handsOn again:Bool} {tb:TypeId} {ss:List Sh} (hvars:s.vars=[]) (hfit:FitsAll P ss fn.params.toList) (hrd : ∀ t∈fn.params.toList,P.readableRec t=true/\t<P.types.size)
  (hres:fn.resultTypes = #[tb]) (htb:P.underlying tb=some .bool) (hfn : ∀ ds:List (DataW H),ds.length=ss.length->s.fn H ds=⟨[.lit (.bool true)],ds,[]⟩)
  (hlaw : ∀ xs,TypedAll ss xs -> ∃ st',call fns given f xs ⟨[],[],[],[]⟩=some (.bool true,st'))
  {W:World} (hG:GivenOk P W fns given) {base:Nat} {args:Array Value} {ds gs:List (DataW H)} {before:List MemPlace}
  (hval : ∀ (j:Nat) t v,fn.params[j]? = some t->args[j]? = some v->Value.okWide P W .any base t v) (hW:DataW.Whole enc P fn.params.toList s.vars apart W args.toList ds gs before) :
  Calls P f args W fun e W' => ∃ v,e = .returned v/\s.post enc P fn apart fresh handsOn again W args v W':=by
 have hW':=hW
 obtain⟨p,q,hA,hV,rfl,hfz,hnd⟩:=hW
 rw[hvars] at hV
 obtain⟨rfl,rfl⟩:=trodVars_none hV
 obtain⟨hlen,xs,k1,k2,k3⟩:=args_ok ss _ _ _ _ hfit (fun j t v h1 h2=>hval j t v (by simpa using h1) (by simpa using h2)) hA
 obtain⟨st',hcall⟩:=hlaw xs k1
 refine (call_calls hm hF hG (F:=Old W) (fun _ _ h=>h) (by simpa using k2.symm) (fun j hj => ?_) hcall).mono fun e w' hh => ?_
 ·have:=k3 j hj
  have hj':j<args.size:=by have:=k2; simp at this; omega
  rw[Array.getD_eq_getD_getElem?,Array.getElem?_eq_getElem hj']
  rw[List.getD_eq_getElem?_getD,List.getElem?_eq_getElem (by simpa using hj')] at this
  simpa using this
 ·obtain⟨v,G',rfl,hB,_,hr⟩:=hh
  obtain rfl:=hr.bool_inv
  exact⟨_,rfl,post_true hl hrd hvars hres htb hW' (by rw[List.append_nil]; exact hfn ds hlen) hB⟩
end Go.Proofs.YthjnlpfibakacaaGreatDoorPe
