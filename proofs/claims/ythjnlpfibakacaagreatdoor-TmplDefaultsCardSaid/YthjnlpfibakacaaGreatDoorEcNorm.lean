/- A part of the proof of this folder's statement; it has no condition of its own. -/
import Derived.Test.YthjnlpfibakacaaGreatDoorEcSound2
import Derived.Test.YthjnlpfibakacaaGreatDoorPeLook
set_option linter.unusedVariables false
set_option linter.unusedSimpArgs false
namespace Go.Proofs.YthjnlpfibakacaaGreatDoorPe
open Go
def Req (a b:Sch):Prop:=a.fr=b.fr/\a.st=b.st/\(a.wrote=[]->b.wrote=[])
theorem Req.refl (a:Sch):Req a a:=⟨rfl,rfl,id⟩
theorem Req.trans {a b c:Sch} (h:Req a b) (k:Req b c):Req a c:=⟨h.1.trans k.1,h.2.1.trans k.2.1,fun e=>k.2.2 (h.2.2 e)⟩
variable {cl:CallF} {st0:St}
theorem step_req {o:SOp} {a a' b:Sch} (h:schStep cl st0 o a=some a') (R:Req a b) : ∃ b',schStep cl st0 o b=some b'/\Req a' b':=by
 obtain⟨f,s,hd,wr⟩:=a
 obtain⟨f',s',hd',wr'⟩:=b
 obtain⟨e1,e2,e3⟩:=R
 simp only at e1 e2 e3
 subst e1
 subst e2
 unfold schStep at h ⊢
 simp only at h ⊢
 cases hw:wantedB f o.guard with
 |none=>rw[hw] at h; cases h
 |some w =>
  rw[hw] at h
  cases w with
  |false =>
   cases h
   exact⟨_,rfl,rfl,rfl,e3⟩
  |true =>
   simp only at h ⊢
   split at h
   ·rename_i v st' hv
    cases h
    refine⟨_,rfl,rfl,rfl,fun hn => ?_⟩
    simp only at hn ⊢
    split at hn
    ·rename_i h2
     rw[List.append_eq_nil_iff] at hn
     rw[if_pos h2,hn.1,e3 hn.2]
     rfl
    ·rename_i h2
     rw[if_neg h2,e3 hn]
   ·cases h
theorem same_req {a b a' b':Sch} (h:Sch.same a b=true) (R:Req a a') (S:Req b b'):Sch.same a' b'=true:=by
 have e:Sch.same a' b'=Sch.same a b:=by unfold Sch.same; rw[R.1,R.2.1,S.1,S.2.1]
 rw[e,h]
theorem sch_req : ∀ (t:Tree) {a a' b:Sch},evSch cl st0 t a=some a'->Req a b -> ∃ b',evSch cl st0 t b=some b'/\Req a' b'
 |.nil,a,a',b,h,R=>by cases h; exact⟨b,rfl,R⟩
 |.cons o t,a,a',b,h,R=>by
  rw[evSch_cons] at h
  obtain⟨m,h1,h2⟩:=Option.bind_eq_some_iff.1 h
  obtain⟨m',k1,R1⟩:=step_req h1 R
  obtain⟨b',k2,R2⟩:=sch_req t h2 R1
  exact⟨b',by rw[evSch_cons,k1]; exact k2,R2⟩
 |.alt t u,a,a',b,h,R=>by
  unfold evSch at h
  split at h
  ·rename_i p q hp hq
   split at h
   ·rename_i hs
    cases h
    obtain⟨p',k1,R1⟩:=sch_req t hp R
    obtain⟨q',k2,R2⟩:=sch_req u hq R
    refine⟨⟨p'.fr,p'.st,p'.held++q'.held,p'.wrote++q'.wrote⟩,?_,R1.1,R1.2.1,fun hn => ?_⟩
    ·unfold evSch
     rw[k1,k2]
     simp only
     rw[if_pos (same_req hs R1 R2)]
    ·simp only[List.append_eq_nil_iff] at hn ⊢
     exact⟨R1.2.2 hn.1,R2.2.2 hn.2⟩
   ·cases h
  ·cases h
theorem opd_set {x:Opd} {d:Nat} {v:PV} {fr:Fr} (h:(match x with | .t n=>n != d | .c _=>true)=true):x.ev (fr.set d v)=x.ev fr:=by
 cases x with
 |t n =>
  simp only[bne_iff_ne] at h
  simp only[Opd.ev,List.getD_eq_getElem?_getD]
  rw[List.getElem?_set_ne (fun e=>h e.symm)]
 |c v=>rfl
theorem parts_set {d:Nat} {v:PV} {fr:Fr} : ∀ {ps:List (Nat × Opd)},notIn d (ps.map (·.2))=true ->
  mapO (fun p:Nat × Opd=>(shutA shutN (p.2.ev (fr.set d v))).map fun v=>(p.1,v)) ps=mapO (fun p:Nat × Opd=>(shutA shutN (p.2.ev fr)).map fun v=>(p.1,v)) ps
 |[],_=>rfl
 |p::ps,h=>by
  simp only[notIn,List.map_cons,List.all_cons,Bool.and_eq_true] at h
  simp only[mapO,opd_set h.1]
  rw[parts_set (by simpa only[notIn] using h.2)]
theorem fill_set {d:Nat} {v:PV} {fr:Fr} : ∀ {ps:List (Nat × Nat × Opd)},notIn d (ps.map (·.2.2))=true ->
  ps.map (fun p=>(p.1,p.2.1,p.2.2.ev (fr.set d v)))=ps.map fun p=>(p.1,p.2.1,p.2.2.ev fr)
 |[],_=>rfl
 |p::ps,h=>by
  simp only[notIn,List.map_cons,List.all_cons,Bool.and_eq_true] at h
  simp only[List.map_cons,opd_set h.1]
  rw[fill_set (by simpa only[notIn] using h.2)]
theorem args_set {d:Nat} {v:PV} {fr:Fr} : ∀ {as:List Opd},notIn d as=true->as.map (·.ev (fr.set d v))=as.map (·.ev fr)
 |[],_=>rfl
 |x::as,h=>by
  simp only[notIn,List.all_cons,Bool.and_eq_true] at h
  simp only[List.map_cons,opd_set h.1]
  rw[args_set (by simpa only[notIn] using h.2)]
theorem op_set {op:IOp} {d:Nat} {v:PV} {fr:Fr} {st:St} (h:apartQ d op=true):evOp cl op (fr.set d v) st=evOp cl op fr st:=by
 unfold apartQ at h
 split at h
 ·rename_i l hl
  unfold usesQ at hl
  split at hl
  ·rfl
  ·rename_i zs ps
   cases hl
   have e:=fill_set (v:=v) (fr:=fr) h
   simp only[evOp,e]
  ·cases hl
   simp only[notIn,List.all_cons,List.all_nil,Bool.and_true,Bool.and_eq_true] at h
   simp only[evOp,opd_set h.1,opd_set h.2]
  ·rename_i n z len ps
   cases hl
   have e:=parts_set (v:=v) (fr:=fr) h
   simp only[evOp,e]
  ·cases hl
   simp only[notIn,List.all_cons,List.all_nil,Bool.and_true] at h
   simp only[evOp,opd_set h]
  ·cases hl
   simp only[notIn,List.all_cons,List.all_nil,Bool.and_true,Bool.and_eq_true] at h
   simp only[evOp,opd_set h.1,opd_set h.2]
  ·cases hl
   simp only[notIn,List.all_cons,List.all_nil,Bool.and_true,Bool.and_eq_true] at h
   simp only[evOp,opd_set h.1,opd_set h.2]
  ·split at hl
   ·cases hl
   ·cases hl
    have e:=args_set (v:=v) (fr:=fr) h
    simp only[evOp,e]
  ·cases hl
 ·cases h
theorem op_putF {op:IOp} {d:Option Nat} {v:PV} {fr:Fr} {st:St} (h:dstQ d op=true):evOp cl op (putF d v fr) st=evOp cl op fr st:=by
 cases d with
 |none=>rfl
 |some d=>exact op_set h
theorem putF_comm {d e:Option Nat} (h:neQ d e=true) (v w:PV) (fr:Fr):putF d v (putF e w fr)=putF e w (putF d v fr):=by
 cases d with
 |none=>rfl
 |some d=>cases e with
  |none=>rfl
  |some e =>
   simp only[neQ,bne_iff_ne] at h
   simp only[putF]
   exact List.set_comm _ _ (fun e'=>h e'.symm)
theorem flag2Q_ok {o:SOp} {fr:Fr} {wr:List Nat} (h:flag2Q o=true):(if o.flag=2 then wroteOf o fr++wr else wr)=wr:=by
 split
 ·rename_i h2
  have:isStoreQ o.op=false:=by
   unfold flag2Q at h
   cases hs:isStoreQ o.op with
   |false=>rfl
   |true=>rw[hs,h2] at h; cases h
  have e:wroteOf o fr=[]:=by
   unfold wroteOf
   split
   ·rename_i hop; rw[hop] at this; cases this
   ·rfl
  rw[e]
  rfl
 ·rfl
theorem op_still {op:IOp} {fr:Fr} {st st' s1:St} {v:PV} (h:stillQ op=true) (he:evOp cl op fr st=some (v,st')):st'=st/\evOp cl op fr s1=some (v,s1):=by
 unfold stillQ at h
 split at h
 ·simp only[evOp] at he ⊢
  obtain⟨l,h1,e⟩:=Option.map_eq_some_iff.1 he
  cases e
  exact⟨rfl,by rw[h1]; rfl⟩
 ·simp only[evOp] at he ⊢
  split at he
  ·rename_i qs hq
   obtain⟨l,h1,e⟩:=Option.map_eq_some_iff.1 he
   cases e
   exact⟨rfl,by rw[h1]; rfl⟩
  ·cases he
 ·simp only[evOp] at he ⊢
  cases he
  exact⟨rfl,rfl⟩
 ·simp only[evOp] at he ⊢
  obtain⟨l,h1,e⟩:=Option.map_eq_some_iff.1 he
  cases e
  exact⟨rfl,by rw[h1]; rfl⟩
 ·simp only[bne_iff_ne] at h
  simp only[evOp] at he ⊢
  split at he
  ·split at he
   ·rw[if_neg h] at he ⊢
    obtain⟨l,h1,e⟩:=Option.map_eq_some_iff.1 he
    cases e
    exact⟨rfl,by rw[h1]; rfl⟩
   ·cases he
  ·cases he
 ·cases h
theorem evAppend_boxes {n b:Nat} {T:TypeId} {x v:PV} {es:List PV} {bs bs':List (List PV)} {rows:List (Nat × Nat)} {bt bt' rt:List TypeId} {st':St} (h:evAppend n b T x es ⟨bs,rows,bt,rt⟩=some (v,st')) :
  st'.boxes=bs/\st'.bt=bt/\evAppend n b T x es ⟨bs',rows,bt',rt⟩=some (v,⟨bs',st'.rows,bt',st'.rt⟩):=by
 unfold evAppend at h ⊢
 split at h
 ·split at h <;> first|(cases h; exact⟨rfl,rfl,rfl⟩)|cases h
 ·split at h
  ·rename_i hz
   rw[if_pos hz]
   split at h
   ·split at h
    ·rename_i hc
     cases h
     refine⟨rfl,rfl,?_⟩
     simp only
     rw[if_pos hc]
    ·cases h
   ·split at h
    ·rename_i hc
     cases h
     refine⟨rfl,rfl,?_⟩
     simp only
     rw[if_pos hc]
    ·cases h
   ·cases h
  ·cases h
theorem box_row {i j:IOp} {fr:Fr} {st st1 st2:St} {v w:PV} (hi:boxQ i=true) (hj:rowQ j=true) (h1:evOp cl i fr st=some (v,st1)) (h2:evOp cl j fr st1=some (w,st2)) :
  ∃ sm,evOp cl j fr st=some (w,sm)/\evOp cl i fr sm=some (v,st2):=by
 unfold boxQ at hi
 split at hi
 ·rename_i zs T
  unfold rowQ at hj
  split at hj
  ·rename_i n b U x y
   obtain⟨bs,rows,bt,rt⟩:=st
   simp only[evOp] at h1 h2 ⊢
   cases h1
   split at h2
   ·rename_i es _
    obtain⟨e1,e2,e3⟩:=evAppend_boxes (bs':=bs) (bt':=bt) h2
    refine⟨_,e3,?_⟩
    obtain⟨b2,r2,t2,q2⟩:=st2
    simp only at e1 e2
    subst e1 e2
    rfl
   ·cases h2
  ·cases hj
 ·cases hi
theorem row_box {i j:IOp} {fr:Fr} {st st1 st2:St} {v w:PV} (hi:rowQ i=true) (hj:boxQ j=true) (h1:evOp cl i fr st=some (v,st1)) (h2:evOp cl j fr st1=some (w,st2)) :
  ∃ sm,evOp cl j fr st=some (w,sm)/\evOp cl i fr sm=some (v,st2):=by
 unfold boxQ at hj
 split at hj
 ·rename_i zs T
  unfold rowQ at hi
  split at hi
  ·rename_i n b U x y
   obtain⟨bs,rows,bt,rt⟩:=st
   simp only[evOp] at h1 h2 ⊢
   cases h2
   split at h1
   ·rename_i es _
    obtain⟨e1,e2,e3⟩:=evAppend_boxes (bs':=bs++[zs]) (bt':=bt++[T]) h1
    rw[e1,e2]
    exact⟨_,rfl,e3⟩
   ·cases h1
  ·cases hi
 ·cases hj
theorem swap0_ok {o p:SOp} {s s1 s2:Sch} (h:swapB0 o p=true) (hf:o.flag≠1) (hf':p.flag≠1) (h1:schStep cl st0 o s=some s1) (h2:schStep cl st0 p s1=some s2) :
  ∃ t1,schStep cl st0 p s=some t1 /\ ∃ t2,schStep cl st0 o t1=some t2/\Req s2 t2:=by
 obtain⟨fr,st,hd,wr⟩:=s
 simp only[swapB0,Bool.and_eq_true,Option.isNone_iff_eq_none] at h
 obtain⟨hg,hg',hs,⟨hne,ha,hb⟩,q1,q2⟩:=h
 unfold schStep at h1 h2 ⊢
 simp only[hg,hg',wantedB,hf,hf',if_false,flag2Q_ok q1,flag2Q_ok q2] at h1 h2 ⊢
 split at h1
 ·rename_i v st1 hv
  cases h1
  simp only at h2
  rw[op_putF hb] at h2
  split at h2
  ·rename_i v' st2 hv'
   cases h2
   have key : ∃ sm,evOp cl p.op fr st=some (v',sm)/\evOp cl o.op fr sm=some (v,st2):=by
    rcases Bool.or_eq_true _ _ |>.mp hs with hs|hs
    rotate_left
    ·rcases Bool.or_eq_true _ _ |>.mp hs with hs|hs
     ·rw[Bool.and_eq_true] at hs
      exact box_row hs.1 hs.2 hv hv'
     ·rw[Bool.and_eq_true] at hs
      exact row_box hs.1 hs.2 hv hv'
    rcases Bool.or_eq_true _ _ |>.mp hs with hs|hs
    ·obtain⟨rfl,_⟩:=op_still (s1:=st) hs hv
     exact⟨st2,hv',(op_still (s1:=st2) hs hv).2⟩
    ·obtain⟨rfl,k⟩:=op_still (s1:=st) hs hv'
     exact⟨st,k,hv⟩
   obtain⟨sm,k1,k2⟩:=key
   rw[k1]
   refine⟨_,rfl,?_⟩
   simp only
   rw[op_putF ha,k2]
   exact⟨_,rfl,(putF_comm hne _ _ _).symm,rfl,id⟩
  ·cases h2
 ·cases h1
theorem looks_st {op:IOp} {ts:List Nat} (hl:looksO op=some ts) {fr:Fr} {st st':St} {v:PV} (he:evOp cl op fr st=some (v,st')):st'=st:=by
 cases op with
 |load n x=>exact evOp_load_st (op:=.load n x) rfl he
 |_ =>
  first
   |(cases hl; done)
   |(simp only[evOp] at he; cases he; rfl)
   |(simp only[evOp] at he; obtain⟨_,_,e⟩:=Option.map_eq_some_iff.1 he; cases e; rfl)
   |(simp only[evOp] at he; (repeat' split at he) <;> first|(cases he; done)|(cases he; rfl)|(obtain⟨_,_,e⟩:=Option.map_eq_some_iff.1 he; cases e; rfl))
theorem looks_wrote {o:SOp} {ts:List Nat} (hl:looksO o.op=some ts) (fr:Fr):wroteOf o fr=[]:=by
 unfold wroteOf
 split
 ·rename_i hop; rw[hop] at hl; cases hl
 ·rfl
theorem look_step {o:SOp} {ts:List Nat} (hl:looksO o.op=some ts) (hf:o.flag≠1) {s s1:Sch} (h:schStep cl st0 o s=some s1) :
  ∃ x,s1=⟨putF o.dst x s.fr,s.st,s.held,s.wrote⟩ /\ ∀ s':Sch,s'.st=s.st->(∀ t∈usesS o ts,s.fr.getD t .undef=s'.fr.getD t .undef)->schStep cl st0 o s'=some ⟨putF o.dst x s'.fr,s'.st,s'.held,s'.wrote⟩:=by
 have hw : ∀ (fr:Fr) (wr:List Nat),(if o.flag=2 then wroteOf o fr++wr else wr)=wr:=by
  intro fr wr
  rw[looks_wrote hl]
  split <;> rfl
 have hgd : ∀ s':Sch,(∀ t∈usesS o ts,s.fr.getD t .undef=s'.fr.getD t .undef)->wantedB s.fr o.guard=wantedB s'.fr o.guard:=by
  intro s' hs'
  cases hg:o.guard with
  |none=>rfl
  |some g =>
   obtain⟨t,b⟩:=g
   have:=hs' t (by unfold usesS; rw[hg]; exact List.mem_cons_self)
   unfold wantedB
   simp only
   rw[this]
 have hsub : ∀ t∈ts,t∈usesS o ts:=by
  intro t ht
  unfold usesS
  split
  ·exact List.mem_cons_of_mem _ ht
  ·exact ht
 unfold schStep at h ⊢
 cases hwb:wantedB s.fr o.guard with
 |none=>rw[hwb] at h; cases h
 |some b =>
  rw[hwb] at h
  cases b with
  |false =>
   cases h
   refine⟨_,rfl,fun s' hs1 hs2 => ?_⟩
   rw[<- hgd s' hs2,hwb]
  |true =>
   simp only[hf,if_false,hw] at h ⊢
   split at h
   ·rename_i v st' hv
    cases h
    obtain rfl:=looks_st hl hv
    refine⟨v,rfl,fun s' hs1 hs2 => ?_⟩
    rw[<- hgd s' hs2,hwb]
    simp only
    rw[<- evOp_same (cl:=cl) hl (fr:=s.fr) (fr':=s'.fr) (fun t ht=>hs2 t (hsub t ht)) s'.st,hs1,hv]
   ·cases h
theorem freeOf_get {d:Option Nat} {l:List Nat} (h:freeOf d l=true) (x:PV) (fr:Fr) : ∀ t∈l,(putF d x fr).getD t .undef=fr.getD t .undef:=by
 intro t ht
 cases d with
 |none=>rfl
 |some d =>
  simp only[freeOf,Bool.not_eq_true'] at h
  have hne:d≠t:=by
   rintro rfl
   rw[List.contains_iff_mem.2 ht] at h
   cases h
  simp only[putF]
  rw[List.getD_eq_getElem?_getD,List.getElem?_set_ne hne,<- List.getD_eq_getElem?_getD]
theorem lookSwap_ok {o p:SOp} {s s1 s2:Sch} (h:lookSwap o p=true) (hf:o.flag≠1) (hf':p.flag≠1) (h1:schStep cl st0 o s=some s1) (h2:schStep cl st0 p s1=some s2) :
  ∃ t1,schStep cl st0 p s=some t1 /\ ∃ t2,schStep cl st0 o t1=some t2/\Req s2 t2:=by
 unfold lookSwap at h
 split at h
 ·rename_i ts us hts hus
  simp only[Bool.and_eq_true] at h
  obtain⟨hne,ha,hb⟩:=h
  obtain⟨x,rfl,k1⟩:=look_step hts hf h1
  obtain⟨y,rfl,k2⟩:=look_step hus hf' h2
  refine⟨_,k2 s rfl (freeOf_get hb x s.fr),_,k1 _ rfl (fun t ht=>(freeOf_get ha y s.fr t ht).symm),?_,rfl,id⟩
  exact (putF_comm hne _ _ _).symm
 ·cases h
theorem swap_ok {o p:SOp} {s s1 s2:Sch} (h:swapB o p=true) (h1:schStep cl st0 o s=some s1) (h2:schStep cl st0 p s1=some s2) :
  ∃ t1,schStep cl st0 p s=some t1 /\ ∃ t2,schStep cl st0 o t1=some t2/\Req s2 t2:=by
 simp only[swapB,Bool.and_eq_true,bne_iff_ne,Bool.or_eq_true] at h
 rcases h.2.2 with h3|h3
 ·exact swap0_ok h3 h.1 h.2.1 h1 h2
 ·exact lookSwap_ok h3 h.1 h.2.1 h1 h2
theorem pull_ok {o:SOp} : ∀ (b:Tree) {b':Tree} {s r:Sch},pullQ o b=some b'->evSch cl st0 (.cons o b') s=some r -> ∃ r',evSch cl st0 b s=some r'/\Req r r'
 |.nil,_,_,_,h,_=>by cases h
 |.alt _ _,_,_,_,h,_=>by cases h
 |.cons p b,b',s,r,h,he=>by
  unfold pullQ at h
  split at h
  ·rename_i h0
   cases h
   rw[sameO_eq h0] at he
   exact⟨r,he,Req.refl r⟩
  ·split at h
   ·rename_i h0
    split at h
    ·rename_i b2 hb
     cases h
     rw[evSch_cons] at he
     obtain⟨s1,h1,h2⟩:=Option.bind_eq_some_iff.1 he
     rw[evSch_cons] at h2
     obtain⟨s2,h3,h4⟩:=Option.bind_eq_some_iff.1 h2
     obtain⟨t1,k1,t2,k2,R⟩:=swap_ok h0 h1 h3
     obtain⟨r1,k3,R1⟩:=sch_req b2 h4 R
     obtain⟨r2,k4,R2⟩:=pull_ok b hb (s:=t1) (r:=r1) (by rw[evSch_cons,k2]; exact k3)
     exact⟨r2,by rw[evSch_cons,k1]; exact k4,R1.trans R2⟩
    ·cases h
   ·cases h
theorem sameT_ok : ∀ (a:Tree) {b:Tree} {s r:Sch},sameT a b=true->evSch cl st0 a s=some r -> ∃ r',evSch cl st0 b s=some r'/\Req r r'
 |.nil,.nil,s,r,_,he=>⟨r,he,Req.refl r⟩
 |.nil,.cons _ _,_,_,h,_=>by cases h
 |.nil,.alt _ _,_,_,h,_=>by cases h
 |.alt _ _,.nil,_,_,h,_=>by cases h
 |.alt _ _,.cons _ _,_,_,h,_=>by cases h
 |.alt _ _,.alt _ _,_,_,h,_=>by cases h
 |.cons o a,b,s,r,h,he=>by
  unfold sameT at h
  split at h
  ·rename_i b' hb
   rw[evSch_cons] at he
   obtain⟨s1,h1,h2⟩:=Option.bind_eq_some_iff.1 he
   obtain⟨r1,k1,R1⟩:=sameT_ok a h h2
   obtain⟨r2,k2,R2⟩:=pull_ok b hb (s:=s) (r:=r1) (by rw[evSch_cons,h1]; exact k1)
   exact⟨r2,k2,R1.trans R2⟩
  ·cases h
theorem Sch.same_of_eq {a b:Sch} (h1:a.fr=b.fr) (h2:a.st=b.st):Sch.same a b=true:=by
 unfold Sch.same
 rw[h1,h2,PV.sames_self,samesL_self]
 simp
theorem normT_ok : ∀ (t:Tree) {s r:Sch},evSch cl st0 (normT t) s=some r -> ∃ r',evSch cl st0 t s=some r'/\Req r r'
 |.nil,s,r,he=>⟨r,he,Req.refl r⟩
 |.cons o t,s,r,he=>by
  unfold normT at he
  rw[evSch_cons] at he
  obtain⟨s1,h1,h2⟩:=Option.bind_eq_some_iff.1 he
  obtain⟨r1,k1,R1⟩:=normT_ok t h2
  exact⟨r1,by rw[evSch_cons,h1]; exact k1,R1⟩
 |.alt t u,s,r,he=>by
  unfold normT altQ at he
  split at he
  ·rename_i hs
   obtain⟨r1,k1,R1⟩:=normT_ok t he
   obtain⟨r2,k2,R2⟩:=sameT_ok _ hs he
   obtain⟨r3,k3,R3⟩:=normT_ok u k2
   refine⟨⟨r1.fr,r1.st,r1.held++r3.held,r1.wrote++r3.wrote⟩,?_,R1.1,R1.2.1,fun hn => ?_⟩
   ·unfold evSch
    rw[k1,k3]
    simp only
    rw[if_pos (Sch.same_of_eq (R1.1.symm.trans (R2.trans R3).1) (R1.2.1.symm.trans (R2.trans R3).2.1))]
   ·simp only[List.append_eq_nil_iff]
    exact⟨R1.2.2 hn,(R2.trans R3).2.2 hn⟩
  ·unfold evSch at he
   split at he
   ·rename_i p q hp hq
    split at he
    ·rename_i hs
     cases he
     obtain⟨p',k1,R1⟩:=normT_ok t hp
     obtain⟨q',k2,R2⟩:=normT_ok u hq
     refine⟨⟨p'.fr,p'.st,p'.held++q'.held,p'.wrote++q'.wrote⟩,?_,R1.1,R1.2.1,fun hn => ?_⟩
     ·unfold evSch
      rw[k1,k2]
      simp only
      rw[if_pos (same_req hs R1 R2)]
     ·simp only[List.append_eq_nil_iff] at hn ⊢
      exact⟨R1.2.2 hn.1,R2.2.2 hn.2⟩
    ·cases he
   ·cases he
end Go.Proofs.YthjnlpfibakacaaGreatDoorPe
