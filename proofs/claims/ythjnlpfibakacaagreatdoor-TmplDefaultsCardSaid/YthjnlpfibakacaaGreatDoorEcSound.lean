/- A part of the proof of this folder's statement; it has no condition of its own. -/
import Derived.Test.YthjnlpfibakacaaGreatDoorEcDec
set_option linter.unusedVariables false
set_option linter.unusedSimpArgs false
namespace Go.Proofs.YthjnlpfibakacaaGreatDoorPe
open Go
structure HOk (h:DH):Prop where
 nd : ∀ (s s' t:Nat),h.sl[s]? = some t->h.sl[s']? = some t->s=s'
 lt : ∀ (s t:Nat),h.sl[s]? = some t->t<h.n
structure Inv (h:DH) (cl:CallF) (m:List (Nat × Exp)) (fr fr':Fr):Prop where
 len:fr.length=h.n
 len':fr'.length=h.sl.length
 s : ∀ (s t:Nat),h.sl[s]? = some t->(∀ e,(t,e) ∉ m)->fr'.getD s .undef=fr.getD t .undef
 m : ∀ t e,(t,e)∈m->evE cl fr' e=some (fr.getD t .undef)
def Def (cl:CallF) (fr':Fr) (l:List Exp):Prop := ∀ p∈l,∃ v,evE cl fr' p=some v
def Del (h:DH) (cl:CallF) (cur:Option (Fr × St)) (sy:Sy) (fr':Fr) (st:St):Prop :=
 fr'.length=h.sl.length/\(Def cl fr' sy.pend -> ∃ fr,cur=some (fr,st)/\Inv h cl sy.m fr fr')
section
variable {h:DH} {cl' cl:CallF} {fr fr':Fr} {m:List (Nat × Exp)}
theorem lookT_ok (I:Inv h cl' m fr fr') {t:Nat} {e:Exp} (hl:lookT h.sl m t=some e):evE cl' fr' e=some (fr.getD t .undef):=by
 unfold lookT at hl
 split at hl
 ·rename_i x hx
  cases hl
  exact I.m _ _ (lk_mem hx)
 ·rename_i hx
  obtain⟨s,hs,rfl⟩:=Option.map_eq_some_iff.1 hl
  unfold evE
  rw[I.s s t (slotOf_some hs) fun e=>lk_none hx]
theorem opdE_ok (I:Inv h cl' m fr fr') {x:Opd} {e:Exp} (hl:opdE h.sl m x=some e):evE cl' fr' e=some (x.ev fr):=by
 cases x with
 |t n=>exact lookT_ok I hl
 |c v=>cases hl; rfl
theorem strip1_ok {b:Bool} {g e:Exp} {c:PV} (hg:evE cl' fr' g=some c) (hb:guardV b c=some true):evE cl' fr' (strip1 b g e)=evE cl' fr' e:=by
 unfold strip1
 split
 ·rename_i b' g' e'
  split
  ·rename_i h
   simp only[Bool.and_eq_true,beq_iff_eq] at h
   obtain⟨rfl,h2⟩:=h
   obtain rfl:=Exp.eq_of_same h2
   conv=>rhs; unfold evE
   rw[hg]
   simp only[hb]
  ·rfl
 ·rfl
theorem strip_ok : ∀ {g:Exp} {b:Bool} {e:Exp} {c:PV},evE cl' fr' g=some c->guardV b c=some true->evE cl' fr' (strip b g e)=evE cl' fr' e:=by
 intro g
 induction g with
 |gd b' g' x ih1 ih2 =>
  intro b e c hg hb
  unfold strip
  unfold evE at hg
  split at hg
  ·rename_i c' hc'
   split at hg
   ·rename_i h1
    rw[ih2 hg hb,ih1 hc' h1]
   ·cases hg; cases hb
   ·cases hg
  ·cases hg
 |_=>intro b e c hg hb; unfold strip; exact strip1_ok hg hb
theorem evE_gd {b:Bool} {g e:Exp}:evE cl' fr' (.gd b g e)=(match evE cl' fr' g with
  |some c=>match guardV b c with
   |some true=>evE cl' fr' e
   |some false=>some (.tuple [])
   |none=>none
  |none=>none):=by
 conv=>lhs; unfold evE
 cases evE cl' fr' g with
 |none=>rfl
 |some c =>
  simp only
  cases guardV b c with
  |none=>rfl
  |some w=>cases w <;> rfl
theorem mkGd_ev : ∀ {g:Exp} {b:Bool} {e:Exp},evE cl' fr' (mkGd b g e)=evE cl' fr' (.gd b g e):=by
 intro g
 induction g with
 |gd b' g' x ih1 ih2 =>
  intro b e
  unfold mkGd
  rw[evE_gd,evE_gd,evE_gd,ih2,evE_gd]
  cases evE cl' fr' g' with
  |none=>rfl
  |some c =>
   simp only
   cases hg:guardV b' c with
   |none=>rfl
   |some w =>
    cases w with
    |true=>rfl
    |false=>rfl
 |_=>intro b e; rfl
theorem mkPick_ok {g a b:Exp} {c:Bool} {x y:PV} (hg:evE cl' fr' g=some (.bool c)) (ha:evE cl' fr' a=some x) (hb:evE cl' fr' b=some y):evE cl' fr' (mkPick g a b)=some (if c then x else y):=by
 unfold mkPick evE
 rw[hg]
 cases c with
 |true=>simp only[if_true]; rw[strip_ok hg rfl]; exact ha
 |false=>simp only[Bool.false_eq_true,if_false]; rw[strip_ok hg rfl]; exact hb
theorem mkPick_inv {g a b:Exp} {v:PV} (h:evE cl' fr' (mkPick g a b)=some v) : ∃ c,evE cl' fr' g=some (.bool c):=by
 unfold mkPick evE at h
 split at h
 ·rename_i hg; exact⟨_,hg⟩
 ·rename_i hg; exact⟨_,hg⟩
 ·cases h
theorem consE_ok {f:Opd->Option Exp} (hf : ∀ x e,f x=some e->evE cl' fr' e=some (x.ev fr)) : ∀ {xs:List Opd} {es:Exp},consE f xs=some es->evE cl' fr' es=some (.tuple (xs.map (·.ev fr)))
 |[],es,h=>by cases h; rfl
 |x::xs,es,h=>by
  unfold consE at h
  split at h
  ·rename_i e he
   split at h
   ·rename_i es' hes
    cases h
    unfold evE
    rw[hf x e he,consE_ok hf hes]
    rfl
   ·cases h
  ·cases h
theorem un1_ok {f:Opd->Option Exp} (hf : ∀ x e,f x=some e->evE cl' fr' e=some (x.ev fr)) {u:UOp} {x:Opd} {e:Exp} {v:PV} (h:un1 f u x=some e) (he:evE cl' fr' e=some v):unV u (x.ev fr)=some v:=by
 obtain⟨a,ha,rfl⟩:=Option.map_eq_some_iff.1 h
 unfold evE at he
 rw[hf x a ha] at he
 exact he
theorem bi2_ok {f:Opd->Option Exp} (hf : ∀ x e,f x=some e->evE cl' fr' e=some (x.ev fr)) {b:BOp} {x y:Opd} {e:Exp} {v:PV} (h:bi2 f b x y=some e) (he:evE cl' fr' e=some v):biV b (x.ev fr) (y.ev fr)=some v:=by
 unfold bi2 at h
 split at h
 ·rename_i a ha
  obtain⟨c,hc,rfl⟩:=Option.map_eq_some_iff.1 h
  unfold evE at he
  rw[hf x a ha,hf y c hc] at he
  exact he
 ·cases h
theorem optE_ok {f:Opd->Option Exp} (hf : ∀ x e,f x=some e->evE cl' fr' e=some (x.ev fr)) {o:Option Opd} {b:Bool} {e:Exp} (h:optE f o=some (b,e)) : ∃ v,evE cl' fr' e=some v/\optB b v=o.map (·.ev fr):=by
 cases o with
 |none=>cases h; exact⟨.undef,rfl,rfl⟩
 |some x =>
  obtain⟨a,ha,e⟩:=Option.map_eq_some_iff.1 h
  cases e
  exact⟨_,hf x _ ha,rfl⟩
theorem zip3_eq (ps:List (Nat × Nat × Opd)):zip3 (ps.map fun p=>(p.1,p.2.1)) ((ps.map (·.2.2)).map (·.ev fr))=ps.map fun p=>(p.1,p.2.1,p.2.2.ev fr):=by
 induction ps with
 |nil=>rfl
 |cons p ps ih=>simp only[List.map_cons,zip3]; rw[ih]
theorem bslice_parts (ps:List (Nat × Opd)):mapO (fun p:Nat × Opd=>(shutA shutN (p.2.ev fr)).map fun v=>(p.1,v)) ps=(mapO (shutA shutN) ((ps.map (·.2)).map (·.ev fr))).map fun ws=>(ps.map (·.1)).zip ws:=by
 induction ps with
 |nil=>rfl
 |cons p ps ih =>
  simp only[List.map_cons,mapO]
  rw[ih]
  cases shutA shutN (p.2.ev fr) with
  |none=>rfl
  |some y =>
   simp only[Option.map_some]
   cases mapO (shutA shutN) ((ps.map (·.2)).map (·.ev fr)) <;> rfl
theorem pureE_ok (hle:LeC cl' cl) {f:Opd->Option Exp} (hf : ∀ x e,f x=some e->evE cl' fr' e=some (x.ev fr)) {pl:Bool} {op:IOp} {e:Exp} (h:pureE f pl op=some e) {v:PV} (he:evE cl' fr' e=some v) (st:St):evOp cl op fr st=some (v,st):=by
 cases op with
 |mov x=>have:=hf x e h; rw[this] at he; cases he; rfl
 |smov x=>have:=un1_ok hf h he; simp only[unV,smovV] at this; simp only[evOp]; split at this <;> first|(rename_i e1; cases this; rw[e1])|cases this
 |nilchk x=>have:=un1_ok hf h he; simp only[unV,nilchkV] at this; simp only[evOp]; split at this <;> first|(rename_i e1; cases this; rw[e1])|cases this
 |not x=>have:=un1_ok hf h he; simp only[unV,notV] at this; simp only[evOp]; split at this <;> first|(rename_i e1; cases this; rw[e1])|cases this
 |conv k x=>have:=un1_ok hf h he; simp only[unV,convV] at this; simp only[evOp]; split at this <;> first|(rename_i e1; cases this; rw[e1])|cases this
 |tobytes x=>have:=un1_ok hf h he; simp only[unV,tobytesV] at this; simp only[evOp]; split at this <;> first|(rename_i e1; cases this; rw[e1])|cases this
 |tostr x =>
  have:=un1_ok hf h he
  simp only[unV,tostrV] at this
  simp only[evOp]
  split at this
  ·rename_i l hl
   rw[hl]
   obtain⟨s,hs,rfl⟩:=Option.map_eq_some_iff.1 this
   simp only[hs,Option.map_some]
  ·cases this
 |iface t x=>have:=un1_ok hf h he; cases this; rfl
 |off o x =>
  have:=un1_ok hf h he
  simp only[unV,offV] at this
  simp only[evOp]
  split at this
  ·rename_i e1; cases this; rw[e1]
  ·rename_i e1
   rw[e1]
   split at this
   ·rename_i hc; cases this; simp only[hc,if_true]
   ·cases this
  ·cases this
 |field n o x =>
  have:=un1_ok hf h he
  simp only[unV,fieldV] at this
  simp only[evOp]
  split at this
  ·rename_i e1; rw[e1]; simp only[this,Option.map_some]
  ·cases this
 |ext x i =>
  have:=un1_ok hf h he
  simp only[unV,extV] at this
  simp only[evOp]
  split at this
  ·rename_i e1; rw[e1]; simp only[this]
  ·cases this
 |len x=>have:=un1_ok hf h he; simp only[unV,lenV] at this; simp only[evOp]; split at this <;> first|(rename_i e1; cases this; rw[e1])|cases this
 |slen x=>have:=un1_ok hf h he; simp only[unV,slenV] at this; simp only[evOp]; split at this <;> first|(rename_i e1; cases this; rw[e1])|cases this
 |sdata x=>have:=un1_ok hf h he; simp only[unV] at this; simp only[evOp,this,Option.map_some]
 |load n x =>
  simp only[pureE] at h
  split at h
  ·have:=un1_ok hf h he
   simp only[unV,ldV] at this
   simp only[evOp]
   split at this
   ·rename_i e1; rw[e1]; simp only[this,Option.map_some]
   ·cases this
  ·cases h
 |bin op x y=>have:=bi2_ok hf h he; simp only[biV] at this; simp only[evOp,this,Option.map_some]
 |eqs k n x y =>
  have:=bi2_ok hf h he
  simp only[biV,eqsV] at this
  obtain⟨b,hb,rfl⟩:=Option.map_eq_some_iff.1 this
  simp only[evOp,hb,Option.map_some]
 |idx n x y =>
  have:=bi2_ok hf h he
  simp only[biV,idxV] at this
  simp only[evOp]
  split at this <;> first|(rename_i e1 e2; rw[e1,e2]; simp only[this,Option.map_some])|cases this
 |mm m x y =>
  have:=bi2_ok hf h he
  simp only[biV] at this
  simp only[evOp,this,Option.map_some]
 |sidx x y =>
  have:=bi2_ok hf h he
  simp only[biV,sidxV] at this
  simp only[evOp]
  split at this
  ·rename_i e1 e2
   rw[e1,e2]
   split at this
   ·rename_i h0
    simp only[h0,if_true]
    split at this
    ·rename_i b hb; cases this; simp only[hb]
    ·cases this
   ·cases this
  ·cases this
 |pidx n x y =>
  have:=bi2_ok hf h he
  simp only[biV] at this
  simp only[evOp,this,Option.map_some]
 |pick c x y =>
  simp only[pureE] at h
  split at h
  ·rename_i g hg
   split at h
   ·rename_i a ha
    obtain⟨b,hb,rfl⟩:=Option.map_eq_some_iff.1 h
    obtain⟨cc,hc⟩:=mkPick_inv he
    have:=mkPick_ok hc (hf x a ha) (hf y b hb)
    rw[this] at he
    cases he
    rw[hf c g hg] at hc
    simp only[evOp]
    rw[Option.some.inj hc]
   ·cases h
  ·cases h
 |ssub x lo hi =>
  simp only[pureE] at h
  split at h
  ·rename_i a ha
   split at h
   ·rename_i l b hb
    obtain⟨⟨k,c⟩,hc,rfl⟩:=Option.map_eq_some_iff.1 h
    obtain⟨v1,q1,q2⟩:=optE_ok hf hb
    obtain⟨v2,q3,q4⟩:=optE_ok hf hc
    simp only[evE,hf x a ha,q1,q3,q2,q4,ssubV] at he
    simp only[evOp]
    split at he
    ·rename_i s e1
     rw[e1]
     split at he
     ·rename_i h1 e2
      simp only[e2]
      split at he
      ·rename_i l1 e3; cases he; simp only[e3]
      ·cases he
     ·cases he
    ·cases he
   ·cases h
  ·cases h
 |lsub n x lo hi mx =>
  simp only[pureE] at h
  split at h
  ·rename_i a ha
   split at h
   ·rename_i l b hb
    split at h
    ·rename_i k c hc
     obtain⟨⟨q,d⟩,hd,rfl⟩:=Option.map_eq_some_iff.1 h
     obtain⟨v1,q1,q2⟩:=optE_ok hf hb
     obtain⟨v2,q3,q4⟩:=optE_ok hf hc
     obtain⟨v3,q5,q6⟩:=optE_ok hf hd
     simp only[evE,hf x a ha,q1,q3,q5,q2,q4,q6] at he
     have:evLsub fr n x lo hi mx=some v:=by
      rw[<- he]
      unfold evLsub lsubV
      cases mx with
      |none=>cases slcOf (x.ev fr).nm <;> rfl
      |some y=>cases slcOf (x.ev fr).nm <;> rfl
     simp only[evOp,this,Option.map_some]
    ·cases h
   ·cases h
  ·cases h
 |build zs ps =>
  obtain⟨es,hes,rfl⟩:=Option.map_eq_some_iff.1 h
  simp only[evE,consE_ok hf hes,tupleOf,tupV] at he
  rw[zip3_eq] at he
  simp only[evOp]
  obtain⟨cs,hcs,rfl⟩:=Option.map_eq_some_iff.1 he
  simp only[hcs,Option.map_some]
 |bslice n z len ps =>
  obtain⟨es,hes,rfl⟩:=Option.map_eq_some_iff.1 h
  simp only[evE,consE_ok hf hes,tupleOf,tupV] at he
  simp only[evOp,bslice_parts]
  split at he
  ·rename_i ws hws
   rw[hws]
   obtain⟨l,hl,rfl⟩:=Option.map_eq_some_iff.1 he
   simp only[Option.map_some,hl]
  ·cases he
 |mkfn fn xs =>
  obtain⟨es,hes,rfl⟩:=Option.map_eq_some_iff.1 h
  simp only[evE,consE_ok hf hes,tupleOf,tupV] at he
  cases he
  rfl
 |calli k fn xs =>
  simp only[pureE] at h
  split at h
  ·cases h
  ·rename_i hk
   obtain⟨es,hes,rfl⟩:=Option.map_eq_some_iff.1 h
   simp only[evE,consE_ok hf hes,tupleOf,tupV,callV] at he
   simp only[evOp]
   split at he
   ·rename_i as has
    rw[has]
    split at he
    ·rename_i r st' hr
     simp only[hle _ _ _ _ hr,hk,if_false,he,Option.map_some]
    ·cases he
   ·cases he
 |_=>cases h
theorem effE_ok (hle:LeC cl' cl) {f:Opd->Option Exp} (hf : ∀ x e,f x=some e->evE cl' fr' e=some (x.ev fr)) {op:IOp} {eop:EOp} {all:Exp} (h:effE f op=some (eop,all)) {st:St} {r:PV × St} (he:evEff cl' fr' st eop=some r):evOp cl op fr st=some r:=by
 cases op with
 |box n T x =>
  obtain⟨a,ha,e⟩:=Option.map_eq_some_iff.1 h
  cases e
  simp only[evEff,hf x _ ha,boxV] at he
  exact he
 |zbox zs T=>cases h; exact he
 |load n x =>
  obtain⟨a,ha,e⟩:=Option.map_eq_some_iff.1 h
  cases e
  simp only[evEff,hf x _ ha,loadV] at he
  simp only[evOp]
  exact he
 |store n x y =>
  simp only[effE] at h
  split at h
  ·rename_i a ha
   obtain⟨b,hb,e⟩:=Option.map_eq_some_iff.1 h
   cases e
   simp only[evEff,hf x _ ha,hf y _ hb,storeV] at he
   exact he
  ·cases h
 |append n bytes T x y =>
  simp only[effE] at h
  split at h
  ·rename_i a ha
   obtain⟨b,hb,e⟩:=Option.map_eq_some_iff.1 h
   cases e
   simp only[evEff,hf x _ ha,hf y _ hb,appendV] at he
   exact he
  ·cases h
 |happend n bytes T x y =>
  simp only[effE] at h
  split at h
  ·rename_i a ha
   obtain⟨b,hb,e⟩:=Option.map_eq_some_iff.1 h
   cases e
   simp only[evEff,hf x _ ha,hf y _ hb,happendV] at he
   exact he
  ·cases h
 |pappend n bytes T x y v =>
  simp only[effE] at h
  split at h
  ·rename_i a ha
   split at h
   ·rename_i b hb
    obtain⟨c,hc,e⟩:=Option.map_eq_some_iff.1 h
    cases e
    simp only[evEff,hf x _ ha,hf y _ hb,hf v _ hc] at he
    exact he
   ·cases h
  ·cases h
 |fill n x y =>
  simp only[effE] at h
  split at h
  ·rename_i a ha
   obtain⟨b,hb,e⟩:=Option.map_eq_some_iff.1 h
   cases e
   simp only[evEff,hf x _ ha,hf y _ hb] at he
   exact he
  ·cases h
 |bown n z len ps =>
  obtain⟨es,hes,e⟩:=Option.map_eq_some_iff.1 h
  cases e
  simp only[evEff,consE_ok hf hes,tupleOf,bownV] at he
  simp only[evOp]
  rw[bslice_parts]
  cases hws:mapO (shutA shutN) ((ps.map (·.2)).map (·.ev fr)) with
  |none=>rw[hws] at he; cases he
  |some ws =>
   rw[hws] at he
   exact he
 |mark x =>
  obtain⟨a,ha,e⟩:=Option.map_eq_some_iff.1 h
  cases e
  simp only[evEff,hf x _ ha] at he
  exact he
 |touns x =>
  obtain⟨a,ha,e⟩:=Option.map_eq_some_iff.1 h
  cases e
  simp only[evEff,hf x _ ha] at he
  exact he
 |fromuns n u x =>
  obtain⟨a,ha,e⟩:=Option.map_eq_some_iff.1 h
  cases e
  simp only[evEff,hf x _ ha] at he
  exact he
 |ustr T x y =>
  simp only[effE] at h
  split at h
  ·rename_i a ha
   obtain⟨b,hb,e⟩:=Option.map_eq_some_iff.1 h
   cases e
   simp only[evEff,hf x _ ha,hf y _ hb] at he
   exact he
  ·cases h
 |calli k fn xs =>
  simp only[effE] at h
  split at h
  ·rename_i hk
   obtain⟨es,hes,e⟩:=Option.map_eq_some_iff.1 h
   cases e
   simp only[evEff,consE_ok hf hes,tupleOf,calloV] at he
   simp only[evOp]
   split at he
   ·rename_i as has
    rw[show argF k=shutA shutN from by rw[hk]; rfl,has]
    split at he
    ·rename_i q st' hr
     simp only[hle _ _ _ _ hr,hk,if_true]
     exact he
    ·cases he
   ·cases he
  ·cases h
 |calls raw fn xs =>
  obtain⟨es,hes,e⟩:=Option.map_eq_some_iff.1 h
  cases e
  simp only[evEff,consE_ok hf hes,tupleOf,callsV] at he
  simp only[evOp]
  split at he
  ·rename_i as has
   rw[has]
   exact hle _ _ _ _ he
  ·cases he
 |callv x xs =>
  simp only[effE] at h
  split at h
  ·rename_i a ha
   obtain⟨es,hes,e⟩:=Option.map_eq_some_iff.1 h
   cases e
   simp only[evEff,hf x _ ha,consE_ok hf hes,tupleOf,callvV] at he
   simp only[evOp]
   split at he
   ·rename_i e1; rw[e1]; exact hle _ _ _ _ he
   ·cases he
  ·cases h
 |fail=>cases h; cases he
 |_=>cases h
theorem eff_all {f:Opd->Option Exp} {op:IOp} {eop:EOp} {all:Exp} (h:effE f op=some (eop,all)) {st:St} {r:PV × St} (he:evEff cl' fr' st eop=some r) : ∃ u,evE cl' fr' all=some u:=by
 cases op with
 |box n T x =>
  obtain⟨a,ha,e⟩:=Option.map_eq_some_iff.1 h
  cases e
  simp only[evEff] at he
  split at he
  ·rename_i q hq; exact⟨_,hq⟩
  ·cases he
 |zbox zs T=>cases h; exact⟨_,rfl⟩
 |load n x =>
  obtain⟨a,ha,e⟩:=Option.map_eq_some_iff.1 h
  cases e
  simp only[evEff] at he
  split at he
  ·rename_i q hq; exact⟨_,hq⟩
  ·cases he
 |store n x y =>
  simp only[effE] at h
  split at h
  ·obtain⟨b,hb,e⟩:=Option.map_eq_some_iff.1 h
   cases e
   simp only[evEff] at he
   split at he
   ·rename_i q hq
    split at he
    ·rename_i q' hq'; exact⟨.tuple [q,q'],by simp[evE,hq,hq',tupleOf]⟩
    ·cases he
   ·cases he
  ·cases h
 |append n bytes T x y =>
  simp only[effE] at h
  split at h
  ·obtain⟨b,hb,e⟩:=Option.map_eq_some_iff.1 h
   cases e
   simp only[evEff] at he
   split at he
   ·rename_i q hq
    split at he
    ·rename_i q' hq'; exact⟨.tuple [q,q'],by simp[evE,hq,hq',tupleOf]⟩
    ·cases he
   ·cases he
  ·cases h
 |happend n bytes T x y =>
  simp only[effE] at h
  split at h
  ·obtain⟨b,hb,e⟩:=Option.map_eq_some_iff.1 h
   cases e
   simp only[evEff] at he
   split at he
   ·rename_i q hq
    split at he
    ·rename_i q' hq'; exact⟨.tuple [q,q'],by simp[evE,hq,hq',tupleOf]⟩
    ·cases he
   ·cases he
  ·cases h
 |pappend n bytes T x y v =>
  simp only[effE] at h
  split at h
  ·split at h
   ·obtain⟨c,hc,e⟩:=Option.map_eq_some_iff.1 h
    cases e
    simp only[evEff] at he
    split at he
    ·rename_i q hq
     split at he
     ·rename_i q' hq'
      split at he
      ·rename_i q'' hq''; exact⟨.tuple [q,q',q''],by simp[evE,hq,hq',hq'',tupleOf]⟩
      ·cases he
     ·cases he
    ·cases he
   ·cases h
  ·cases h
 |fill n x y =>
  simp only[effE] at h
  split at h
  ·obtain⟨b,hb,e⟩:=Option.map_eq_some_iff.1 h
   cases e
   simp only[evEff] at he
   split at he
   ·rename_i q hq
    split at he
    ·rename_i q' hq'; exact⟨.tuple [q,q'],by simp[evE,hq,hq',tupleOf]⟩
    ·cases he
   ·cases he
  ·cases h
 |bown n z len ps =>
  obtain⟨es,hes,e⟩:=Option.map_eq_some_iff.1 h
  cases e
  simp only[evEff] at he
  split at he
  ·rename_i q hq; exact⟨_,tupleOf_some hq⟩
  ·cases he
 |mark x =>
  obtain⟨a,ha,e⟩:=Option.map_eq_some_iff.1 h
  cases e
  simp only[evEff] at he
  split at he
  ·rename_i q hq; exact⟨_,hq⟩
  ·cases he
 |touns x =>
  obtain⟨a,ha,e⟩:=Option.map_eq_some_iff.1 h
  cases e
  simp only[evEff] at he
  split at he
  ·rename_i q hq; exact⟨_,hq⟩
  ·cases he
 |fromuns n u x =>
  obtain⟨a,ha,e⟩:=Option.map_eq_some_iff.1 h
  cases e
  simp only[evEff] at he
  split at he
  ·rename_i q hq; exact⟨_,hq⟩
  ·cases he
 |ustr T x y =>
  simp only[effE] at h
  split at h
  ·obtain⟨b,hb,e⟩:=Option.map_eq_some_iff.1 h
   cases e
   simp only[evEff] at he
   split at he
   ·rename_i q hq
    split at he
    ·rename_i q' hq'; exact⟨.tuple [q,q'],by simp[evE,hq,hq',tupleOf]⟩
    ·cases he
   ·cases he
  ·cases h
 |calli k fn xs =>
  simp only[effE] at h
  split at h
  ·obtain⟨es,hes,e⟩:=Option.map_eq_some_iff.1 h
   cases e
   simp only[evEff] at he
   split at he
   ·rename_i q hq; exact⟨_,tupleOf_some hq⟩
   ·cases he
  ·cases h
 |calls raw fn xs =>
  obtain⟨es,hes,e⟩:=Option.map_eq_some_iff.1 h
  cases e
  simp only[evEff] at he
  split at he
  ·rename_i q hq; exact⟨_,tupleOf_some hq⟩
  ·cases he
 |callv x xs =>
  simp only[effE] at h
  split at h
  ·obtain⟨es,hes,e⟩:=Option.map_eq_some_iff.1 h
   cases e
   simp only[evEff] at he
   split at he
   ·rename_i q hq
    split at he
    ·rename_i q' hq'
     refine⟨.tuple (q::q'),?_⟩
     simp only[evE,hq,hq']
    ·cases he
   ·cases he
  ·cases h
 |fail=>cases h; cases he
 |_=>cases h
theorem getD_set_self {l:Fr} {i:Nat} {v:PV} (h:i<l.length):(l.set i v).getD i .undef=v:=by
 rw[List.getD_eq_getElem?_getD,List.getElem?_set_self h]; rfl
theorem getD_set_ne {l:Fr} {i j:Nat} {v:PV} (h:i≠j):(l.set i v).getD j .undef=l.getD j .undef:=by
 rw[List.getD_eq_getElem?_getD,List.getElem?_set_ne h,<- List.getD_eq_getElem?_getD]
theorem mem_dropT {t:Nat} {m:List (Nat × Exp)} {k:Nat} {e:Exp}:(k,e)∈dropT t m ↔ (k,e)∈m/\k≠t:=by
 unfold dropT
 simp[List.mem_filter]
theorem Inv.bind1 (I:Inv h cl' m fr fr') {d:Option Nat} (hd:inB h d=true) {e:Exp} {v:PV} (he:evE cl' fr' e=some v) {pend:List Exp}:Inv h cl' (Go.Proofs.YthjnlpfibakacaaGreatDoorPe.bind1 d e ⟨m,pend⟩).m (putF d v fr) fr':=by
 cases d with
 |none=>exact I
 |some t =>
  have ht:t<fr.length:=by rw[I.len]; simpa [inB] using hd
  refine⟨by simp[putF,I.len],I.len',fun s k hs hn => ?_,fun k x hx => ?_⟩
  ·simp only[Go.Proofs.YthjnlpfibakacaaGreatDoorPe.bind1,List.mem_cons,Prod.mk.injEq,not_or] at hn
   have hk:t≠k:=fun hk=>(hn e).1 ⟨hk.symm,rfl⟩
   simp only[putF]
   rw[getD_set_ne hk]
   exact I.s s k hs fun x hx=>(hn x).2 (mem_dropT.2 ⟨hx,fun hk'=>hk hk'.symm⟩)
  ·simp only[Go.Proofs.YthjnlpfibakacaaGreatDoorPe.bind1,List.mem_cons,Prod.mk.injEq] at hx
   simp only[putF]
   rcases hx with ⟨rfl,rfl⟩|hx
   ·rw[getD_set_self ht]; exact he
   ·rw[mem_dropT] at hx
    rw[getD_set_ne fun hk=>hx.2 hk.symm]
    exact I.m k x hx.1
theorem bind1_pend {d:Option Nat} {e:Exp} {sy:Sy} (hp:Def cl' fr' (Go.Proofs.YthjnlpfibakacaaGreatDoorPe.bind1 d e sy).pend):Def cl' fr' sy.pend /\ ∃ v,evE cl' fr' e=some v:=by
 unfold Go.Proofs.YthjnlpfibakacaaGreatDoorPe.bind1 at hp
 simp only at hp
 split at hp
 ·rename_i ha
  refine⟨hp,?_⟩
  cases e <;> first|(cases ha; done)|exact⟨_,rfl⟩
 ·exact⟨fun p h=>hp p (List.mem_cons_of_mem _ h),hp e (List.mem_cons_self ..)⟩
theorem wantedB_guard (fr:Fr) (t:Nat) (b:Bool):wantedB fr (some (t,b))=guardV b (fr.getD t .undef):=rfl
theorem dPure_run (hle:LeC cl' cl) {o:SOp} {sy sy':Sy} (hd:dPure h o sy=some sy') (hp:Def cl' fr' sy'.pend) :
  Def cl' fr' sy.pend /\ ∀ (fr:Fr),Inv h cl' sy.m fr fr' -> ∃ v,(wantedB fr o.guard=some true/\(∀ st,evOp cl o.op fr st=some (v,st))\/wantedB fr o.guard=some false/\v = .tuple [])/\Inv h cl' sy'.m (putF o.dst v fr) fr':=by
 unfold dPure at hd
 split at hd
 ·rename_i hb
  split at hd
  ·rename_i hg
   obtain⟨e,he,rfl⟩:=Option.map_eq_some_iff.1 hd
   obtain⟨h1,v,hv⟩:=bind1_pend hp
   refine⟨h1,fun fr I=>⟨v,.inl ⟨by rw[hg]; rfl,fun st=>pureE_ok hle (fun x e hx=>opdE_ok I hx) he hv st⟩,I.bind1 hb hv (pend:=sy.pend)⟩⟩
  ·rename_i gt b hg
   split at hd
   ·rename_i g hlg
    obtain⟨e,he,rfl⟩:=Option.map_eq_some_iff.1 hd
    obtain⟨h1,v,hv⟩:=bind1_pend hp
    refine⟨h1,fun fr I=>⟨v,?_,I.bind1 hb hv (pend:=sy.pend)⟩⟩
    have hgv:=lookT_ok I hlg
    rw[mkGd_ev] at hv
    unfold evE at hv
    rw[hgv] at hv
    simp only at hv
    rw[hg,wantedB_guard]
    split at hv
    ·rename_i h2
     refine .inl ⟨h2,fun st=>pureE_ok hle (fun x e hx => ?_) he hv st⟩
     obtain⟨e0,he0,rfl⟩:=Option.map_eq_some_iff.1 hx
     rw[strip_ok hgv h2]
     exact opdE_ok I he0
    ·rename_i h2; cases hv; exact .inr ⟨h2,rfl⟩
    ·cases hv
   ·cases hd
 ·cases hd
theorem dPure_ok (hle:LeC cl' cl) {o:SOp} {sy sy':Sy} (hd:dPure h o sy=some sy') {cur:Option (Fr × St)} {st:St} (D:Del h cl' cur sy fr' st):Del h cl' (cur.bind fun p=>evSOp cl o p.1 p.2) sy' fr' st:=by
 refine⟨D.1,fun hp => ?_⟩
 obtain⟨h1,h2⟩:=dPure_run hle hd hp
 obtain⟨fr,hc,I⟩:=D.2 h1
 obtain⟨v,h3,h4⟩:=h2 fr I
 refine⟨_,?_,h4⟩
 rw[hc]
 simp only[Option.bind_some,evSOp]
 rcases h3 with ⟨h5,h6⟩|⟨h5,h6⟩
 ·rw[h5]; simp only[h6 st]
 ·rw[h5,h6]
theorem evStmts_append (cl:CallF) : ∀ (a b:List EStmt) (fr:Fr) (st:St),evStmts cl (a++b) fr st=(evStmts cl a fr st).bind fun p=>evStmts cl b p.1 p.2
 |[],b,fr,st=>rfl
 |s::a,b,fr,st=>by
  simp only[List.cons_append,evStmts]
  cases evStmt cl s fr st with
  |none=>rfl
  |some q=>exact evStmts_append cl a b q.1 q.2
theorem evChks {l:List Exp} : ∀ {fr fr1:Fr} {st st1:St},evStmts cl' (l.map .chk) fr st=some (fr1,st1)->fr1=fr/\st1=st/\Def cl' fr l:=by
 induction l with
 |nil=>intro fr fr1 st st1 h; cases h; exact⟨rfl,rfl,fun p hp=>by cases hp⟩
 |cons e l ih =>
  intro fr fr1 st st1 h
  simp only[List.map_cons,evStmts,evStmt] at h
  split at h
  ·rename_i fr2 st2 h2
   split at h2
   ·rename_i v hv
    cases h2
    obtain⟨h3,h4,h5⟩:=ih h
    refine⟨h3,h4,fun p hp => ?_⟩
    cases hp with
    |head=>exact⟨v,hv⟩
    |tail _ hp=>exact h5 p hp
   ·cases h2
  ·cases h
theorem usesAny_false {ss:List Nat} {e:Exp} (hu:usesAny ss e=false) {fr fr1:Fr} (hs : ∀ s,s ∉ ss->fr1.getD s .undef=fr.getD s .undef):evE cl' fr1 e=evE cl' fr e:=by
 refine evE_congr fun s h1=>hs s fun hm => ?_
 unfold usesAny at hu
 rw[List.any_eq_false] at hu
 exact hu s hm h1
theorem ovs_spec {m:List (Nat × Exp)} : ∀ (l:List Nat) (k s:Nat) (e:Exp),(s,e)∈ovs m l k ↔ k<=s /\ ∃ t,l[s-k]? = some t/\lk t m=some e
 |[],k,s,e=>by simp[ovs]
 |t::l,k,s,e=>by
  have ih:=ovs_spec (m:=m) l (k+1) s e
  have step:(k+1<=s /\ ∃ t,l[s-(k+1)]? = some t/\lk t m=some e) ↔ (k<s /\ ∃ t',(t::l)[s-k]? = some t'/\lk t' m=some e):=by
   constructor
   ·rintro⟨h1,q,h2,h3⟩
    refine⟨h1,q,?_,h3⟩
    obtain⟨n,hn⟩ : ∃ n,s-k=n+1:=⟨s-(k+1),by omega⟩
    rw[hn,List.getElem?_cons_succ]
    rw[show s-(k+1)=n by omega] at h2
    exact h2
   ·rintro⟨h1,q,h2,h3⟩
    refine⟨h1,q,?_,h3⟩
    obtain⟨n,hn⟩ : ∃ n,s-k=n+1:=⟨s-(k+1),by omega⟩
    rw[hn,List.getElem?_cons_succ] at h2
    rw[show s-(k+1)=n by omega]
    exact h2
  unfold ovs
  split
  ·rename_i x hx
   rw[List.mem_cons,ih,step]
   constructor
   ·rintro (h1|⟨h1,h2⟩)
    ·cases h1; exact⟨Nat.le_refl _,t,by simp,hx⟩
    ·exact⟨Nat.le_of_lt h1,h2⟩
   ·rintro⟨h1,q,h2,h3⟩
    rcases Nat.lt_or_ge k s with h4|h4
    ·exact .inr ⟨h4,q,h2,h3⟩
    ·have:s=k:=by omega
     subst this
     simp at h2
     subst h2
     rw[hx] at h3; cases h3
     exact .inl rfl
  ·rename_i hx
   rw[ih,step]
   constructor
   ·rintro⟨h1,h2⟩; exact⟨Nat.le_of_lt h1,h2⟩
   ·rintro⟨h1,q,h2,h3⟩
    rcases Nat.lt_or_ge k s with h4|h4
    ·exact⟨h4,q,h2,h3⟩
    ·have:s=k:=by omega
     subst this
     simp at h2
     subst h2
     rw[hx] at h3; cases h3
theorem evSets_some : ∀ {l:List (Nat × Exp)} {r:List (Nat × PV)},evSets cl' fr' l=some r->(∀ s e,(s,e)∈l -> ∃ x,evE cl' fr' e=some x/\(s,x)∈r)/\(∀ s x,(s,x)∈r -> ∃ e,(s,e)∈l/\evE cl' fr' e=some x)
 |[],r,h=>by cases h; exact⟨fun s e hm=>(by cases hm),fun s e hm=>(by cases hm)⟩
 |(k,e)::l,r,h=>by
  unfold evSets at h
  split at h
  ·rename_i x hx
   split at h
   ·rename_i q hq
    cases h
    obtain⟨h1,h2⟩:=evSets_some hq
    refine⟨fun s e' hm => ?_,fun s x' hm => ?_⟩
    ·cases hm with
     |head=>exact⟨x,hx,.head _⟩
     |tail _ hm=>obtain⟨y,h3,h4⟩:=h1 s e' hm; exact⟨y,h3,.tail _ h4⟩
    ·cases hm with
     |head=>exact⟨e,.head _,hx⟩
     |tail _ hm=>obtain⟨y,h3,h4⟩:=h2 s x' hm; exact⟨y,.tail _ h3,h4⟩
   ·cases h
  ·cases h
theorem putAll_length : ∀ (r:List (Nat × PV)) (fr:Fr),(putAll r fr).length=fr.length
 |[],fr=>rfl
 |(s,x)::r,fr=>by unfold putAll; rw[putAll_length]; simp
theorem putAll_ne : ∀ {r:List (Nat × PV)} {fr:Fr} {s:Nat},(∀ x,(s,x) ∉ r)->(putAll r fr).getD s .undef=fr.getD s .undef
 |[],fr,s,h=>rfl
 |(k,x)::r,fr,s,h=>by
  unfold putAll
  rw[putAll_ne fun y hy=>h y (.tail _ hy)]
  exact getD_set_ne fun hk=>h x (by rw[hk]; exact .head _)
theorem putAll_eq : ∀ {r:List (Nat × PV)} {fr:Fr} {s:Nat} {x:PV},(∀ y,(s,y)∈r->y=x)->(s,x)∈r->s<fr.length->(putAll r fr).getD s .undef=x
 |[],fr,s,x,_,hm,_=>by cases hm
 |(k,z)::r,fr,s,x,hu,hm,hl=>by
  unfold putAll
  by_cases hr : ∃ y,(s,y)∈r
  ·obtain⟨y,hy⟩:=hr
   have:=hu y (.tail _ hy)
   subst this
   exact putAll_eq (fun y hy=>hu y (.tail _ hy)) hy (by simpa using hl)
  ·rw[putAll_ne fun y hy=>hr ⟨y,hy⟩]
   cases hm with
   |head=>exact getD_set_self hl
   |tail _ hm=>exact absurd ⟨x,hm⟩ hr
def Plain (h:DH) (m:List (Nat × Exp)):Prop := ∀ t e,(t,e)∈m->slotOf t h.sl=none
theorem flush_ok (hh:HOk h) {sy:Sy} {cur:Option (Fr × St)} {st st1:St} {fr1:Fr} (D:Del h cl' cur sy fr' st) (he:evStmts cl' (flush h sy).1 fr' st=some (fr1,st1)):st1=st/\Plain h (flush h sy).2.m/\Del h cl' cur (flush h sy).2 fr1 st:=by
 unfold flush at he ⊢
 simp only at he ⊢
 split at he
 ·rename_i hem
  cases he
  rw[if_pos hem]
  refine⟨rfl,fun t e hm => ?_,D⟩
  cases hso:slotOf t h.sl with
  |none=>rfl
  |some s =>
   exfalso
   cases hlk:lk t sy.m with
   |none=>exact lk_none hlk hm
   |some x =>
    have:=(ovs_spec (m:=sy.m) h.sl 0 s x).2 ⟨Nat.zero_le _,t,by simpa using slotOf_some hso,hlk⟩
    rw[List.isEmpty_iff.1 hem] at this
    cases this
 ·rename_i hem
  rw[if_neg hem]
  generalize hov:ovs sy.m h.sl 0=ov at he ⊢
  generalize hrest:(sy.pend.filter fun p => !(ov.any fun q=>Exp.same q.2 p||q.2.covers p))=rest at he ⊢
  rw[evStmts_append] at he
  obtain⟨⟨fr2,st2⟩,h1,h2⟩:=Option.bind_eq_some_iff.1 he
  obtain⟨rfl,rfl,h3⟩:=evChks h1
  simp only[evStmts,evStmt] at h2
  split at h2
  ·rename_i fr3 st3 h4
   cases h2
   split at h4
   ·rename_i r hr
    cases h4
    obtain⟨r1,r2⟩:=evSets_some hr
    have hmem : ∀ s e,(s,e)∈ov ↔ ∃ t,h.sl[s]? = some t/\lk t sy.m=some e:=fun s e=>by
     rw[<- hov,ovs_spec]; simp
    have huniq : ∀ s x y,(s,x)∈r->(s,y)∈r->y=x:=by
     intro s x y hx hy
     obtain⟨e1,a1,a2⟩:=r2 s x hx
     obtain⟨e2,b1,b2⟩:=r2 s y hy
     obtain⟨t1,c1,c2⟩:=(hmem s e1).1 a1
     obtain⟨t2,d1,d2⟩:=(hmem s e2).1 b1
     rw[c1] at d1; cases d1
     rw[c2] at d2; cases d2
     rw[a2] at b2; exact (Option.some.inj b2).symm
    have hne : ∀ s,s ∉ ov.map (·.1)->(putAll r fr2).getD s .undef=fr2.getD s .undef:=by
     intro s hs
     refine putAll_ne fun x hx=>hs ?_
     obtain⟨e1,a1,a2⟩:=r2 s x hx
     exact List.mem_map.2 ⟨_,a1,rfl⟩
    refine⟨rfl,fun t e hm=>by have:=(List.mem_filter.1 hm).2; simp only[Bool.and_eq_true,Option.isNone_iff_eq_none] at this; exact this.1,by rw[putAll_length]; exact D.1,fun hp => ?_⟩
    have hp0:Def cl' fr2 sy.pend:=by
     intro p hpm
     by_cases hc:(ov.any fun q=>Exp.same q.2 p||q.2.covers p)=true
     ·rw[List.any_eq_true] at hc
      obtain⟨⟨s,e⟩,hq,hc⟩:=hc
      obtain⟨x,hx,_⟩:=r1 s e hq
      simp only[Bool.or_eq_true] at hc
      rcases hc with hc|hc
      ·rw[<- Exp.eq_of_same hc]; exact⟨x,hx⟩
      ·exact covers_ok hc hx
     ·have hr0:p∈rest:=by
       rw[<- hrest,List.mem_filter]
       exact⟨hpm,by simpa using hc⟩
      by_cases hu:usesAny (ov.map (·.1)) p=true
      ·exact h3 p (List.mem_filter.2 ⟨hr0,hu⟩)
      ·have hu':usesAny (ov.map (·.1)) p=false:=by simpa using hu
       obtain⟨v,hv⟩:=hp p (List.mem_filter.2 ⟨hr0,by simp[hu']⟩)
       rw[usesAny_false hu' hne] at hv
       exact⟨v,hv⟩
    obtain⟨fr,hc,I⟩:=D.2 hp0
    refine⟨fr,hc,I.len,by rw[putAll_length]; exact I.len',fun s t hs _ => ?_,fun t e hm => ?_⟩
    ·cases hlk:lk t sy.m with
     |some e =>
      obtain⟨x,hx,hxr⟩:=r1 s e ((hmem s e).2 ⟨t,hs,hlk⟩)
      rw[putAll_eq (huniq s x · hxr ·) hxr (by rw[I.len']; exact (List.getElem?_eq_some_iff.1 hs).1)]
      have:=I.m t e (lk_mem hlk)
      rw[hx] at this
      exact Option.some.inj this
     |none =>
      rw[hne s fun hm => ?_]
      ·exact I.s s t hs fun e=>lk_none hlk
      ·obtain⟨⟨s',e⟩,hq,rfl⟩:=List.mem_map.1 hm
       obtain⟨t',c1,c2⟩:=(hmem _ e).1 hq
       rw[hs] at c1; cases c1
       rw[hlk] at c2; cases c2
    ·rw[List.mem_filter] at hm
     simp only[Bool.and_eq_true,Bool.not_eq_true'] at hm
     rw[usesAny_false hm.2.2 hne]
     exact I.m t e hm.1
   ·cases h4
  ·cases h2
theorem layS_ok (hh:HOk h) (d:Option Nat) {sy:Sy} {cur:Option (Fr × St)} {st st1:St} {fr1:Fr} (D:Del h cl' cur sy fr' st) (he:evStmts cl' (lay h d sy).1 fr' st=some (fr1,st1)):st1=st/\Del h cl' cur (lay h d sy).2 fr1 st:=by
 unfold lay at he ⊢
 split at he
 ·rename_i hi
  rw[if_pos hi]
  obtain⟨h1,_,h3⟩:=flush_ok hh D he
  exact⟨h1,h3⟩
 ·rename_i hi
  rw[if_neg hi]
  cases he
  exact⟨rfl,D⟩
theorem Inv.eff (hh:HOk h) (hpl:Plain h m) (I:Inv h cl' m fr fr') {d:Option Nat} (hd:inB h d=true) {v:PV} {ds:Option Nat} (hds:ds=dsOf h d) :
  Inv h cl' ((dropO d m).filter fun p => !usesAny ds.toList p.2) (putF d v fr) (putF ds v fr'):=by
 cases d with
 |none =>
  simp only[dsOf] at hds
  subst hds
  refine⟨I.len,I.len',fun s t hs hn=>I.s s t hs fun e hm=>hn e ?_,fun t e hm=>I.m t e (List.mem_filter.1 hm).1⟩
  rw[List.mem_filter]
  exact⟨hm,by simp[usesAny]⟩
 |some t =>
  simp only[dsOf,dropO] at hds ⊢
  have ht:t<fr.length:=by rw[I.len]; simpa [inB] using hd
  have hlen':(putF ds v fr').length=h.sl.length:=by cases ds <;> simp[putF,I.len']
  have hother : ∀ s,s ∉ ds.toList->(putF ds v fr').getD s .undef=fr'.getD s .undef:=by
   intro s hs
   cases ds with
   |none=>rfl
   |some k=>exact getD_set_ne fun hk=>hs (by simp[hk])
  refine⟨by simp[putF,I.len],hlen',fun s k hs hn => ?_,fun k e hm => ?_⟩
  ·by_cases hk:k=t
   ·subst hk
    simp only[putF]
    rw[getD_set_self ht]
    cases hso:slotOf k h.sl with
    |none=>exact absurd hs (slotOf_none hso)
    |some s' =>
     have:=hh.nd s s' k hs (slotOf_some hso)
     subst this
     rw[hds,hso]
     exact getD_set_self (by rw[I.len']; exact (List.getElem?_eq_some_iff.1 hs).1)
   ·rw[show putF (some t) v fr=fr.set t v from rfl]
    rw[getD_set_ne fun e=>hk e.symm,hother s fun hm => ?_]
    ·exact I.s s k hs fun e he=>slotOf_none (hpl k e he) hs
    ·rw[hds] at hm
     cases hso:slotOf t h.sl with
     |none=>rw[hso] at hm; simp at hm
     |some s' =>
      rw[hso] at hm
      simp at hm
      subst hm
      have:=slotOf_some hso
      rw[hs] at this
      exact hk (Option.some.inj this)
  ·rw[List.mem_filter,mem_dropT] at hm
   simp only[Bool.not_eq_true'] at hm
   rw[show putF (some t) v fr=fr.set t v from rfl]
   rw[getD_set_ne fun e=>hm.1.2 e.symm,usesAny_false hm.2 hother]
   exact I.m k e hm.1.1
end
end Go.Proofs.YthjnlpfibakacaaGreatDoorPe
