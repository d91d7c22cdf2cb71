/- A part of the proof of this folder's statement; it has no condition of its own. -/
import Derived.Test.YthjnlpfibakacaaGreatDoorEcSound
set_option linter.unusedVariables false
set_option linter.unusedSimpArgs false
namespace Go.Proofs.YthjnlpfibakacaaGreatDoorPe
open Go
theorem opdB_eq {x y:Opd} (h:opdB x y=true):x=y:=by
 cases x <;> cases y <;> simp only[opdB,beq_iff_eq,Bool.false_eq_true] at h
 ·rw[h]
 ·rw[PV.eq_of_same _ _ h]
theorem partsB_eq : ∀ {l m:List (Nat × Opd)},partsB l m=true->l=m
 |[],[],_=>rfl
 |[],_::_,h=>by cases h
 |_::_,[],h=>by cases h
 |(a,x)::l,(b,y)::m,h=>by
  simp only[partsB,Bool.and_eq_true,beq_iff_eq] at h
  rw[h.1,opdB_eq h.2.1,partsB_eq h.2.2]
theorem parts3B_eq : ∀ {l m:List (Nat × Nat × Opd)},parts3B l m=true->l=m
 |[],[],_=>rfl
 |[],_::_,h=>by cases h
 |_::_,[],h=>by cases h
 |(a,c,x)::l,(b,d,y)::m,h=>by
  simp only[parts3B,Bool.and_eq_true,beq_iff_eq] at h
  rw[h.1,h.2.1,opdB_eq h.2.2.1,parts3B_eq h.2.2.2]
theorem opdsB_eq : ∀ {l m:List Opd},opdsB l m=true->l=m
 |[],[],_=>rfl
 |[],_::_,h=>by cases h
 |_::_,[],h=>by cases h
 |x::l,y::m,h=>by
  simp only[opdsB,Bool.and_eq_true] at h
  rw[opdB_eq h.1,opdsB_eq h.2]
theorem sameQ_eq {o p:IOp} (h:sameQ o p=true):o=p:=by
 unfold sameQ at h
 split at h
 ·simp only[Bool.and_eq_true,beq_iff_eq] at h
  rw[h.1,h.2.1,h.2.2.1,opdB_eq h.2.2.2.1,opdB_eq h.2.2.2.2]
 ·simp only[Bool.and_eq_true,beq_iff_eq] at h
  rw[h.1,PV.eq_of_sames _ _ h.2.1,h.2.2.1,partsB_eq h.2.2.2]
 ·rw[opdB_eq h]
 ·simp only[Bool.and_eq_true,beq_iff_eq] at h
  rw[PV.eq_of_sames _ _ h.1,h.2]
 ·simp only[Bool.and_eq_true] at h
  rw[PV.eq_of_sames _ _ h.1,parts3B_eq h.2]
 ·simp only[Bool.and_eq_true,beq_iff_eq] at h
  rw[h.1,opdB_eq h.2.1,opdB_eq h.2.2]
 ·simp only[Bool.and_eq_true,beq_iff_eq] at h
  rw[h.1,opdB_eq h.2.1,opdB_eq h.2.2]
 ·simp only[Bool.and_eq_true,decide_eq_true_eq] at h
  rw[h.1,opdB_eq h.2]
 ·rw[opdB_eq h]
 ·simp only[Bool.and_eq_true,beq_iff_eq] at h
  rw[h.1,opdB_eq h.2]
 ·simp only[Bool.and_eq_true,beq_iff_eq,decide_eq_true_eq] at h
  rw[h.1,h.2.1,opdB_eq h.2.2]
 ·simp only[Bool.and_eq_true,beq_iff_eq] at h
  rw[h.1,opdB_eq h.2.1,opdB_eq h.2.2]
 ·simp only[Bool.and_eq_true,decide_eq_true_eq] at h
  rw[h.1,opdB_eq h.2.1,opdB_eq h.2.2]
 ·simp only[Bool.and_eq_true,beq_iff_eq] at h
  rw[h.1,h.2.1,opdB_eq h.2.2.1,opdB_eq h.2.2.2]
 ·rw[opdB_eq h]
 ·rw[opdB_eq h]
 ·simp only[Bool.and_eq_true] at h
  rw[opdB_eq h.1,opdB_eq h.2.1,opdB_eq h.2.2]
 ·simp only[Bool.and_eq_true,beq_iff_eq] at h
  rw[h.1,h.2.1,opdsB_eq h.2.2]
 ·simp only[Bool.and_eq_true,beq_iff_eq] at h
  rw[h.1,opdB_eq h.2]
 ·rw[opdB_eq h]
 ·simp only[Bool.and_eq_true,decide_eq_true_eq] at h
  rw[h.1,opdB_eq h.2]
 ·simp only[Bool.and_eq_true] at h
  rw[opdB_eq h.1,opdB_eq h.2]
 ·simp only[Bool.and_eq_true,beq_iff_eq] at h
  rw[h.1,opdB_eq h.2]
 ·cases h
theorem sameO_eq {o p:SOp} (h:sameO o p=true):o=p:=by
 obtain⟨f,d,g,i⟩:=o
 obtain⟨f',d',g',i'⟩:=p
 simp only[sameO,Bool.and_eq_true,beq_iff_eq,decide_eq_true_eq] at h
 obtain⟨rfl,rfl,rfl,h⟩:=h
 rw[sameQ_eq h]
section
variable {h:DH} {cl' cl:CallF}
theorem owed {ds:List Nat} {pend:List Exp} {q:Exp->Bool} {fr' fr2:Fr} (hq : ∀ p,q p=true -> ∃ v,evE cl' fr' p=some v)
  (hne : ∀ s,s ∉ ds->fr2.getD s .undef=fr'.getD s .undef) (h1:Def cl' fr' ((pend.filter fun p => !q p).filter (usesAny ds))) (h2:Def cl' fr2 ((pend.filter fun p => !q p).filter fun p => !usesAny ds p)):Def cl' fr' pend:=by
 intro p hp
 by_cases hc:q p=true
 ·exact hq p hc
 ·have hr:p∈pend.filter fun p => !q p:=List.mem_filter.2 ⟨hp,by simpa using hc⟩
  by_cases hu:usesAny ds p=true
  ·exact h1 p (List.mem_filter.2 ⟨hr,hu⟩)
  ·have hu':usesAny ds p=false:=by simpa using hu
   obtain⟨v,hv⟩:=h2 p (List.mem_filter.2 ⟨hr,by simp[hu']⟩)
   rw[usesAny_false hu' hne] at hv
   exact⟨v,hv⟩
theorem putF_ne {ds:Option Nat} {v:PV} {fr':Fr} (s:Nat) (hs:s ∉ ds.toList):(putF ds v fr').getD s .undef=fr'.getD s .undef:=by
 cases ds with
 |none=>rfl
 |some k=>exact getD_set_ne fun hk=>hs (by simp[hk])
theorem putF_length (d:Option Nat) (v:PV) (fr:Fr):(putF d v fr).length=fr.length:=by cases d <;> simp[putF]
theorem dEff_run (hh:HOk h) (hle:LeC cl' cl) {o:SOp} {sy sy':Sy} {ss:List EStmt} (hd:dEff h o sy=some (ss,sy')) {cur:Option (Fr × St)} {fr' fr1:Fr} {st st1:St} (D:Del h cl' cur sy fr' st) (he:evStmts cl' ss fr' st=some (fr1,st1)) :
  fr1.length=h.sl.length/\(Def cl' fr1 sy'.pend -> ∃ fr,cur=some (fr,st) /\ ∃ v,(wantedB fr o.guard=some true/\evOp cl o.op fr st=some (v,st1)\/wantedB fr o.guard=some false/\v = .tuple []/\st1=st)/\Inv h cl' sy'.m (putF o.dst v fr) fr1):=by
 unfold dEff at hd
 cases hfl:flush h sy with
 |mk s0 sy0 =>
 rw[hfl] at hd
 simp only at hd
 split at hd
 ·rename_i hin
  generalize hds:dsOf h o.dst=ds at hd
  have fl : ∀ {fr2:Fr} {st2:St},evStmts cl' s0 fr' st=some (fr2,st2)->st2=st/\Plain h sy0.m/\Del h cl' cur sy0 fr2 st:=by
   intro fr2 st2 h2
   have:=flush_ok hh D (fr1:=fr2) (st1:=st2) (by rw[hfl]; exact h2)
   rw[hfl] at this
   exact this
  split at hd
  ·rename_i hg
   split at hd
   ·rename_i op all hop
    cases hd
    rw[evStmts_append] at he
    obtain⟨⟨fr2,st2⟩,h1,h2⟩:=Option.bind_eq_some_iff.1 he
    obtain⟨rfl,hpl,D2⟩:=fl h1
    rw[evStmts_append] at h2
    obtain⟨⟨fr3,st3⟩,h3,h4⟩:=Option.bind_eq_some_iff.1 h2
    obtain⟨rfl,rfl,h5⟩:=evChks h3
    simp only[evStmts,evStmt] at h4
    split at h4
    ·rename_i fr4 st4 h6
     cases h4
     split at h6
     ·rename_i x st5 hx
      cases h6
      refine⟨by rw[putF_length]; exact D2.1,fun hp => ?_⟩
      obtain⟨u,hu⟩:=eff_all hop hx
      have hp0:Def cl' fr3 sy0.pend:=owed (q:=fun p=>Exp.same all p||all.covers p) (fun p hq=>by
       simp only[Bool.or_eq_true] at hq
       rcases hq with hq|hq
       ·rw[<- Exp.eq_of_same hq]; exact⟨u,hu⟩
       ·exact covers_ok hq hu) (fun s hs=>putF_ne s hs) h5 hp
      obtain⟨fr,hc,I⟩:=D2.2 hp0
      exact⟨fr,hc,x,.inl ⟨by rw[hg]; rfl,effE_ok hle (fun x e hx=>opdE_ok I hx) hop hx⟩,I.eff hh hpl hin hds.symm⟩
     ·cases h6
    ·cases h4
   ·cases hd
  ·rename_i gt b hg
   split at hd
   ·rename_i g hlg
    split at hd
    ·rename_i op all hop
     cases hd
     rw[evStmts_append] at he
     obtain⟨⟨fr2,st2⟩,h1,h2⟩:=Option.bind_eq_some_iff.1 he
     obtain⟨rfl,hpl,D2⟩:=fl h1
     rw[evStmts_append] at h2
     obtain⟨⟨fr3,st3⟩,h3,h4⟩:=Option.bind_eq_some_iff.1 h2
     obtain⟨rfl,rfl,h5⟩:=evChks h3
     simp only[evStmts,evStmt] at h4
     split at h4
     ·rename_i fr4 st4 h6
      cases h4
      split at h6
      ·rename_i c hc
       have all_def : ∀ {w:Bool},guardV b c=some w->(w=true -> ∃ u,evE cl' fr3 all=some u) -> ∃ u,evE cl' fr3 (mkGd b g all)=some u:=by
        intro w hw hu
        rw[mkGd_ev]
        unfold evE
        rw[hc]
        simp only[hw]
        cases w with
        |true=>exact hu rfl
        |false=>exact⟨_,rfl⟩
       have owe:(∃ u,evE cl' fr3 (mkGd b g all)=some u) -> ∀ v,Def cl' (putF ds v fr3) ((sy0.pend.filter fun p => !(Exp.same (mkGd b g all) p||(mkGd b g all).covers p)).filter fun p => !usesAny ds.toList p)->Def cl' fr3 sy0.pend:=by
        intro ⟨u,hu⟩ v hp
        exact owed (q:=fun p=>Exp.same (mkGd b g all) p||(mkGd b g all).covers p) (fun p hq=>by
         simp only[Bool.or_eq_true] at hq
         rcases hq with hq|hq
         ·rw[<- Exp.eq_of_same hq]; exact⟨u,hu⟩
         ·exact covers_ok hq hu) (fun s hs=>putF_ne s hs) h5 hp
       split at h6
       ·rename_i hgd
        split at h6
        ·rename_i x st5 hx
         cases h6
         refine⟨by rw[putF_length]; exact D2.1,fun hp => ?_⟩
         obtain⟨fr,hcur,I⟩:=D2.2 (owe (all_def hgd fun _=>eff_all hop hx) x hp)
         have hgv:=lookT_ok I hlg
         rw[hc] at hgv
         cases hgv
         refine⟨fr,hcur,x,.inl ⟨by rw[hg,wantedB_guard]; exact hgd,effE_ok hle (fun y e hy => ?_) hop hx⟩,I.eff hh hpl hin hds.symm⟩
         obtain⟨e0,he0,rfl⟩:=Option.map_eq_some_iff.1 hy
         rw[strip_ok hc hgd]
         exact opdE_ok I he0
        ·cases h6
       ·rename_i hgd
        cases h6
        refine⟨by rw[putF_length]; exact D2.1,fun hp => ?_⟩
        obtain⟨fr,hcur,I⟩:=D2.2 (owe (all_def hgd fun hw=>by cases hw) _ hp)
        have hgv:=lookT_ok I hlg
        rw[hc] at hgv
        cases hgv
        exact⟨fr,hcur,.tuple [],.inr ⟨by rw[hg,wantedB_guard]; exact hgd,rfl,rfl⟩,I.eff hh hpl hin hds.symm⟩
       ·cases h6
      ·cases h6
     ·cases h4
    ·cases hd
   ·cases hd
 ·cases hd
theorem dEff_ok (hh:HOk h) (hle:LeC cl' cl) {o:SOp} {sy sy':Sy} {ss:List EStmt} (hd:dEff h o sy=some (ss,sy')) {cur:Option (Fr × St)} {fr' fr1:Fr} {st st1:St} (D:Del h cl' cur sy fr' st) (he:evStmts cl' ss fr' st=some (fr1,st1)) :
  Del h cl' (cur.bind fun p=>evSOp cl o p.1 p.2) sy' fr1 st1:=by
 obtain⟨h1,h2⟩:=dEff_run hh hle hd D he
 refine⟨h1,fun hp => ?_⟩
 obtain⟨fr,hc,v,h3,I⟩:=h2 hp
 refine⟨_,?_,I⟩
 rw[hc]
 simp only[Option.bind_some,evSOp]
 rcases h3 with ⟨h5,h6⟩|⟨h5,h6,h7⟩
 ·rw[h5,h6]
 ·rw[h5,h6,h7]
theorem dStep_ok (hh:HOk h) (hle:LeC cl' cl) {o:SOp} {sy sy':Sy} {ss:List EStmt} (hd:dStep h o sy=some (ss,sy')) {cur:Option (Fr × St)} {fr' fr1:Fr} {st st1:St} (D:Del h cl' cur sy fr' st) (he:evStmts cl' ss fr' st=some (fr1,st1)) :
  Del h cl' (cur.bind fun p=>evSOp cl o p.1 p.2) sy' fr1 st1:=by
 unfold dStep at hd
 split at hd
 ·rename_i q hq
  have hd:lay h o.dst q=(ss,sy'):=Option.some.inj hd
  have D1:=dPure_ok hle hq D
  have:=layS_ok hh o.dst D1 (fr1:=fr1) (st1:=st1) (by rw[hd]; exact he)
  rw[hd] at this
  rw[this.1]
  exact this.2
 ·exact dEff_ok hh hle hd D he
theorem dOps_ok (hh:HOk h) (hle:LeC cl' cl) : ∀ (l:List SOp) {sy sy':Sy} {ss:List EStmt},dOps h l sy=some (ss,sy') -> ∀ {cur:Option (Fr × St)} {fr' fr1:Fr} {st st1:St},Del h cl' cur sy fr' st->evStmts cl' ss fr' st=some (fr1,st1) ->
  Del h cl' (cur.bind fun p=>evOps cl l p.1 p.2) sy' fr1 st1
 |[],sy,sy',ss,hd,cur,fr',fr1,st,st1,D,he=>by
  cases hd
  cases he
  have:(cur.bind fun p=>evOps cl [] p.1 p.2)=cur:=by cases cur <;> rfl
  rw[this]
  exact D
 |o::l,sy,sy',ss,hd,cur,fr',fr1,st,st1,D,he=>by
  unfold dOps at hd
  split at hd
  ·rename_i s1 sy1 h1
   split at hd
   ·rename_i s2 sy2 h2
    cases hd
    rw[evStmts_append] at he
    obtain⟨⟨fr2,st2⟩,h3,h4⟩:=Option.bind_eq_some_iff.1 he
    have D1:=dStep_ok hh hle h1 D h3
    have D2:=dOps_ok hh hle l h2 D1 h4
    have e:(cur.bind fun p=>evOps cl (o::l) p.1 p.2)=((cur.bind fun p=>evSOp cl o p.1 p.2).bind fun p=>evOps cl l p.1 p.2):=by
     cases cur with
     |none=>rfl
     |some p =>
      simp only[Option.bind_some,evOps]
      cases evSOp cl o p.1 p.2 <;> rfl
    rw[e]
    exact D2
   ·cases hd
  ·cases hd
theorem subM_mem {a b:List (Nat × Exp)} (hs:subM a b=true) {t:Nat} {e:Exp} (hm:(t,e)∈a):(t,e)∈b:=by
 have:=List.all_eq_true.1 hs _ hm
 rw[List.any_eq_true] at this
 obtain⟨⟨t',e'⟩,hq,hx⟩:=this
 simp only[Bool.and_eq_true,beq_iff_eq] at hx
 obtain⟨rfl,hx⟩:=hx
 rw[Exp.eq_of_same hx]
 exact hq
theorem subP_mem {a b:List Exp} (hs:subP a b=true) {e:Exp} (hm:e∈a):e∈b:=by
 have:=List.all_eq_true.1 hs _ hm
 rw[List.any_eq_true] at this
 obtain⟨e',hq,hx⟩:=this
 rw[Exp.eq_of_same hx]
 exact hq
theorem wrote_none {o:SOp} {fr:Fr} (ho:isStore o.op=false):wroteOf o fr=[]:=by
 unfold wroteOf
 split
 ·rename_i hop; rw[hop] at ho; cases ho
 ·rfl
theorem dPure_m {o:SOp} {sy sy':Sy} (hd:dPure h o sy=some sy') : ∃ e,sy'=Go.Proofs.YthjnlpfibakacaaGreatDoorPe.bind1 o.dst e sy:=by
 unfold dPure at hd
 split at hd
 ·split at hd
  ·obtain⟨e,_,rfl⟩:=Option.map_eq_some_iff.1 hd; exact⟨e,rfl⟩
  ·split at hd
   ·obtain⟨e,_,rfl⟩:=Option.map_eq_some_iff.1 hd; exact⟨_,rfl⟩
   ·cases hd
 ·cases hd
theorem dPure_dom {o:SOp} {sy sy':Sy} (hd:dPure h o sy=some sy') {t:Nat} (ht : ∃ e,(t,e)∈sy.m) : ∃ e,(t,e)∈sy'.m:=by
 obtain⟨e,rfl⟩:=dPure_m hd
 obtain⟨x,hx⟩:=ht
 unfold Go.Proofs.YthjnlpfibakacaaGreatDoorPe.bind1
 cases o.dst with
 |none=>exact⟨x,hx⟩
 |some k =>
  by_cases hk:t=k
  ·subst hk; exact⟨e,.head _⟩
  ·exact⟨x,.tail _ (mem_dropT.2 ⟨hx,hk⟩)⟩
theorem dPure_off {o:SOp} {sy sy':Sy} (hd:dPure h o sy=some sy') {t:Nat} (ht : ∀ e,(t,e) ∉ sy'.m) {v:PV} {fr:Fr}:(putF o.dst v fr).getD t .undef=fr.getD t .undef:=by
 obtain⟨e,rfl⟩:=dPure_m hd
 unfold Go.Proofs.YthjnlpfibakacaaGreatDoorPe.bind1 at ht
 cases hdst:o.dst with
 |none=>rfl
 |some k =>
  rw[hdst] at ht
  exact getD_set_ne fun hk=>ht e (by rw[hk]; exact .head _)
theorem dP_ok (hle:LeC cl' cl) (st0:St) : ∀ (tr:Tree) {sy sy':Sy},dP h tr sy=some sy' -> ∀ {fr':Fr},Def cl' fr' sy'.pend->Def cl' fr' sy.pend /\ ∀ (s:Sch),Inv h cl' sy.m s.fr fr' ->
  ∃ s',evSch cl st0 tr s=some s'/\s'.st=s.st/\(s.wrote=[]->s'.wrote=[])/\Inv h cl' sy'.m s'.fr fr'/\(∀ t,(∃ e,(t,e)∈sy.m) -> ∃ e,(t,e)∈sy'.m) /\ ∀ t,(∀ e,(t,e) ∉ sy'.m)->s'.fr.getD t .undef=s.fr.getD t .undef
 |.nil,sy,sy',hd,fr',hp=>by
  cases hd
  exact⟨hp,fun s I=>⟨s,rfl,rfl,id,I,fun _ h=>h,fun _ _=>rfl⟩⟩
 |.alt a b,sy,sy',hd,fr',hp=>by
  unfold dP at hd
  split at hd
  ·rename_i sa sb ha hb
   split at hd
   ·rename_i hs
    cases hd
    simp only[Bool.and_eq_true] at hs
    obtain⟨h1,h2⟩:=dP_ok hle st0 a ha hp
    obtain⟨_,h4⟩:=dP_ok hle st0 b hb (fr':=fr') fun p hp'=>hp p (subP_mem hs.2.2 hp')
    refine⟨h1,fun s I => ?_⟩
    obtain⟨s1,a1,a2,a3,a4,a5,a6⟩:=h2 s I
    obtain⟨s2,b1,b2,b3,b4,b5,b6⟩:=h4 s I
    have hfr:s1.fr=s2.fr:=by
     apply List.ext_getElem (by rw[a4.len,b4.len])
     intro i hi hi'
     have key:s1.fr.getD i .undef=s2.fr.getD i .undef:=by
      by_cases hin : ∃ e,(i,e)∈sy'.m
      ·obtain⟨e,he⟩:=hin
       have:=(a4.m i e he).symm.trans (b4.m i e (subM_mem hs.1 he))
       exact Option.some.inj this
      ·rw[a6 i fun e he=>hin ⟨e,he⟩,b6 i fun e he=>hin ⟨e,subM_mem hs.2.1 he⟩]
     rw[List.getD_eq_getElem?_getD,List.getD_eq_getElem?_getD,List.getElem?_eq_getElem hi,List.getElem?_eq_getElem hi'] at key
     exact key
    have hsame:Sch.same s1 s2=true:=by
     unfold Sch.same
     rw[hfr,a2,b2]
     simp[PV.sames_self,samesL_self]
    refine⟨⟨s1.fr,s1.st,s1.held++s2.held,s1.wrote++s2.wrote⟩,?_,a2,?_,a4,a5,a6⟩
    ·unfold evSch
     rw[a1,b1]
     simp only[hsame,if_true]
    ·intro hw; simp[a3 hw,b3 hw]
   ·cases hd
  ·cases hd
 |.cons o t,sy,sy',hd,fr',hp=>by
  unfold dP at hd
  split at hd
  ·cases hd
  ·rename_i hst
   split at hd
   ·rename_i sy1 h1
    obtain⟨h2,h3⟩:=dP_ok hle st0 t hd hp
    obtain⟨h4,h5⟩:=dPure_run hle h1 h2
    refine⟨h4,fun s I => ?_⟩
    obtain⟨v,h6,I1⟩:=h5 s.fr I
    have hdom : ∀ t,(∃ e,(t,e)∈sy.m) -> ∃ e,(t,e)∈sy1.m:=fun t ht=>dPure_dom h1 ht
    have hoff : ∀ t,(∀ e,(t,e) ∉ sy1.m)->(putF o.dst v s.fr).getD t .undef=s.fr.getD t .undef:=fun t ht=>dPure_off h1 ht
    have hst':isStore o.op=false:=by simpa using hst
    rcases h6 with ⟨h7,h8⟩|⟨h7,h8⟩
    ·obtain⟨s',c1,c2,c3,c4,c5,c6⟩:=h3 ⟨putF o.dst v s.fr,s.st,if o.flag=1 then heldOf o s.fr++s.held else s.held,if o.flag=2 then wroteOf o s.fr++s.wrote else s.wrote⟩ I1
     refine⟨s',?_,c2,fun hw=>c3 (by simp only[wrote_none hst',hw]; simp),c4,fun t ht=>c5 t (hdom t ht),fun t ht=>(c6 t ht).trans (hoff t fun e he => ?_)⟩
     ·unfold evSch
      rw[h7]
      simp only[h8]
      have:(if o.flag=1 then s.st else if o.flag=1 then st0 else s.st)=s.st:=by split <;> first|rfl|(rw[if_neg ‹_›])
      rw[this]
      exact c1
     ·obtain⟨e',he'⟩:=c5 t ⟨e,he⟩
      exact ht e' he'
    ·subst h8
     obtain⟨s',c1,c2,c3,c4,c5,c6⟩:=h3 ⟨putF o.dst (.tuple []) s.fr,s.st,s.held,s.wrote⟩ I1
     refine⟨s',?_,c2,c3,c4,fun t ht=>c5 t (hdom t ht),fun t ht=>(c6 t ht).trans (hoff t fun e he => ?_)⟩
     ·unfold evSch
      rw[h7]
      exact c1
     ·obtain⟨e',he'⟩:=c5 t ⟨e,he⟩
      exact ht e' he'
   ·cases hd
def DelT (h:DH) (cl:CallF) (st0:St) (cur:Option Sch) (sy:Sy) (mu:Bool) (fr':Fr) (st:St):Prop :=
 fr'.length=h.sl.length/\(mu=false->st=st0)/\(Def cl fr' sy.pend -> ∃ s,cur=some s/\s.st=st/\s.wrote=[]/\Inv h cl sy.m s.fr fr')
theorem evEff_load {fr':Fr} {st st1:St} {n:Option Nat} {x:Exp} {v:PV} (he:evEff cl' fr' st (.load n x)=some (v,st1)):st1=st:=by
 simp only[evEff] at he
 split at he
 ·unfold loadV at he
  split at he
  ·split at he
   ·obtain⟨y,_,e⟩:=Option.map_eq_some_iff.1 he; cases e; rfl
   ·cases he
  ·obtain⟨y,_,e⟩:=Option.map_eq_some_iff.1 he; cases e; rfl
  ·cases he
 ·cases he
theorem evOp_load_st {fr:Fr} {st st1:St} {op:IOp} {v:PV} (hl:isLd op=true) (he:evOp cl op fr st=some (v,st1)):st1=st:=by
 unfold isLd at hl
 split at hl
 ·simp only[evOp] at he
  split at he
  ·split at he
   ·obtain⟨y,_,e⟩:=Option.map_eq_some_iff.1 he; cases e; rfl
   ·cases he
  ·obtain⟨y,_,e⟩:=Option.map_eq_some_iff.1 he; cases e; rfl
  ·cases he
 ·cases hl
def schStep (cl:CallF) (st0:St) (o:SOp) (s:Sch):Option Sch :=
 match wantedB s.fr o.guard with
 |some true=>match evOp cl o.op s.fr (if o.flag=1 then st0 else s.st) with
  |some (v,st')=>some ⟨putF o.dst v s.fr,if o.flag=1 then s.st else st',if o.flag=1 then heldOf o s.fr++s.held else s.held,if o.flag=2 then wroteOf o s.fr++s.wrote else s.wrote⟩
  |none=>none
 |some false=>some ⟨putF o.dst (.tuple []) s.fr,s.st,s.held,s.wrote⟩
 |none=>none
theorem evSch_cons (cl:CallF) (st0:St) (o:SOp) (t:Tree) (s:Sch):evSch cl st0 (.cons o t) s=(schStep cl st0 o s).bind (evSch cl st0 t):=by
 unfold evSch schStep
 cases wantedB s.fr o.guard with
 |none=>rfl
 |some b =>
  cases b with
  |false=>rfl
  |true =>
   simp only
   cases evOp cl o.op s.fr (if o.flag=1 then st0 else s.st) <;> rfl
theorem evSch_bind (cl:CallF) (st0:St) (o:SOp) (t:Tree) (cur:Option Sch):(cur.bind fun s=>evSch cl st0 (.cons o t) s)=((cur.bind (schStep cl st0 o)).bind fun s=>evSch cl st0 t s):=by
 cases cur with
 |none=>rfl
 |some s=>exact evSch_cons cl st0 o t s
def quiet:EStmt->Bool
 |.sets _=>true
 |.chk _=>true
 |.eff _ _ (.load _ _)=>true
 |_=>false
theorem quiet_st {cl':CallF} : ∀ {ss:List EStmt},ss.all quiet=true -> ∀ {fr fr1:Fr} {st st1:St},evStmts cl' ss fr st=some (fr1,st1)->st1=st
 |[],_,fr,fr1,st,st1,he=>by cases he; rfl
 |s::ss,hq,fr,fr1,st,st1,he=>by
  simp only[List.all_cons,Bool.and_eq_true] at hq
  unfold evStmts at he
  split at he
  ·rename_i fr2 st2 h2
   have:=quiet_st hq.2 he
   subst this
   cases s with
   |sets l=>simp only[evStmt] at h2; split at h2 <;> cases h2; rfl
   |chk e=>simp only[evStmt] at h2; split at h2 <;> cases h2; rfl
   |swap x y=>exact absurd hq.1 (by simp[quiet])
   |eff d g op =>
    cases op with
    |load n x =>
     cases g with
     |none =>
      simp only[evStmt] at h2
      split at h2
      ·rename_i hx; cases h2; exact evEff_load hx
      ·cases h2
     |some g =>
      obtain⟨g,b⟩:=g
      simp only[evStmt] at h2
      split at h2
      ·split at h2
       ·split at h2
        ·rename_i hx; cases h2; exact evEff_load hx
        ·cases h2
       ·cases h2; rfl
       ·cases h2
      ·cases h2
    |_=>exact absurd hq.1 (by simp[quiet])
  ·cases he
theorem flush_quiet (sy:Sy):(flush h sy).1.all quiet=true:=by
 unfold flush
 simp only
 split
 ·rfl
 ·simp[List.all_append,quiet]
theorem effE_ld {f:Opd->Option Exp} {op:IOp} (hl:isLd op=true) {r:EOp × Exp} (he:effE f op=some r) : ∃ n x,r.1 = .load n x:=by
 cases op <;> first|(cases hl; done)|skip
 obtain⟨a,_,rfl⟩:=Option.map_eq_some_iff.1 he
 exact⟨_,_,rfl⟩
theorem dEff_st {o:SOp} {sy sy':Sy} {ss:List EStmt} (hd:dEff h o sy=some (ss,sy')) {fr' fr1:Fr} {st st1:St} (he:evStmts cl' ss fr' st=some (fr1,st1)) (hl:isLd o.op=true):st1=st:=by
 refine quiet_st ?_ he
 have hq:=flush_quiet (h:=h) sy
 unfold dEff at hd
 cases hfl:flush h sy with
 |mk s0 sy0 =>
 rw[hfl] at hd hq
 simp only at hd hq
 split at hd
 ·split at hd
  ·split at hd
   ·rename_i op all hop
    cases hd
    obtain⟨n,x,hx⟩:=effE_ld hl hop
    simp only at hx
    subst hx
    simp[List.all_append,hq,quiet]
   ·cases hd
  ·split at hd
   ·split at hd
    ·rename_i op all hop
     cases hd
     obtain⟨n,x,hx⟩:=effE_ld hl hop
     simp only at hx
     subst hx
     simp[List.all_append,hq,quiet]
    ·cases hd
   ·cases hd
 ·cases hd
theorem swapT_some {a b:Tree} {o p:SOp} (h:swapT a b=some (o,p)):a = .cons o (.cons p .nil)/\b = .cons p (.cons o .nil)/\o.flag=3/\p.flag=3/\o.guard=none/\p.guard=none/\o.dst=none/\p.dst=none:=by
 unfold swapT at h
 split at h
 ·split at h
  ·rename_i hc
   cases h
   simp only[Bool.and_eq_true,beq_iff_eq,Option.isNone_iff_eq_none] at hc
   obtain⟨h1,h2,h3,⟨h4,h5⟩,⟨h6,h7⟩,h8,h9⟩:=hc
   rw[<- sameO_eq h1,<- sameO_eq h2]
   exact⟨rfl,rfl,h4,h5,h6,h7,h8,h9⟩
  ·cases h
 ·cases h
theorem dSwap_run (hh:HOk h) (hle:LeC cl' cl) {o p:SOp} {sy sy':Sy} {ss:List EStmt} (hd:dSwap h o p sy=some (ss,sy')) {cur:Option (Fr × St)} {fr' fr1:Fr} {st st1:St} (D:Del h cl' cur sy fr' st) (he:evStmts cl' ss fr' st=some (fr1,st1)) :
  fr1.length=h.sl.length/\(Def cl' fr1 sy'.pend -> ∃ fr,cur=some (fr,st)/\Inv h cl' sy'.m fr fr1 /\ ∃ v1 s1 v2 w1 t1 w2,evOp cl o.op fr st=some (v1,s1)/\evOp cl p.op fr s1=some (v2,st1)/\evOp cl p.op fr st=some (w1,t1)/\evOp cl o.op fr t1=some (w2,st1)):=by
 unfold dSwap at hd
 cases hfl:flush h sy with
 |mk s0 sy0 =>
 rw[hfl] at hd
 simp only at hd
 split at hd
 ·rename_i op all op' all' hop hop'
  cases hd
  rw[evStmts_append] at he
  obtain⟨⟨fr2,st2⟩,h1,h2⟩:=Option.bind_eq_some_iff.1 he
  have:=flush_ok hh D (fr1:=fr2) (st1:=st2) (by rw[hfl]; exact h1)
  rw[hfl] at this
  obtain⟨rfl,hpl,D2⟩:=this
  simp only[evStmts,evStmt] at h2
  split at h2
  ·rename_i fr3 st3 h3
   cases h2
   unfold swapV at h3
   split at h3
   ·rename_i v1 s1 hx
    split at h3
    ·rename_i v2 s2 hy
     split at h3
     ·rename_i w1 t1 hz
      split at h3
      ·rename_i w2 t2 hw
       split at h3
       ·rename_i hsame
        obtain rfl:=sameSt_eq hsame
        cases h3
        refine⟨D2.1,fun hp => ?_⟩
        obtain⟨u,hu⟩:=eff_all hop hx
        obtain⟨u',hu'⟩:=eff_all hop' hz
        have hp0:Def cl' fr1 sy0.pend:=by
         intro r hr
         by_cases hc:((Exp.same all r||all.covers r)||(Exp.same all' r||all'.covers r))=true
         ·simp only[Bool.or_eq_true] at hc
          rcases hc with (hc|hc)|(hc|hc)
          ·rw[<- Exp.eq_of_same hc]; exact⟨u,hu⟩
          ·exact covers_ok hc hu
          ·rw[<- Exp.eq_of_same hc]; exact⟨u',hu'⟩
          ·exact covers_ok hc hu'
         ·exact hp r (List.mem_filter.2 ⟨hr,by simpa using hc⟩)
        obtain⟨fr,hc,I⟩:=D2.2 hp0
        have hf : ∀ x e,opdE h.sl sy0.m x=some e->evE cl' fr1 e=some (x.ev fr):=fun x e hx=>opdE_ok I hx
        exact⟨fr,hc,I,v1,s1,v2,w1,t1,w2,effE_ok hle hf hop hx,effE_ok hle hf hop' hy,effE_ok hle hf hop' hz,effE_ok hle hf hop hw⟩
       ·cases h3
      ·cases h3
     ·cases h3
    ·cases h3
   ·cases h3
  ·cases h2
 ·cases hd
theorem dT_ok (hh:HOk h) (hle:LeC cl' cl) (st0:St) : ∀ (tr:Tree) {sy sy':Sy} {mu:Bool} {ss:List EStmt},dT h tr sy mu=some (ss,sy') -> ∀ {cur:Option Sch} {fr' fr1:Fr} {st st1:St},DelT h cl' st0 cur sy mu fr' st->evStmts cl' ss fr' st=some (fr1,st1) ->
  fr1.length=h.sl.length/\(Def cl' fr1 sy'.pend -> ∃ s',(cur.bind fun s=>evSch cl st0 tr s)=some s'/\s'.st=st1/\s'.wrote=[]/\Inv h cl' sy'.m s'.fr fr1)
 |.nil,sy,sy',mu,ss,hd,cur,fr',fr1,st,st1,D,he=>by
  cases hd
  cases he
  refine⟨D.1,fun hp => ?_⟩
  obtain⟨s,h1,h2,h3,h4⟩:=D.2.2 hp
  exact⟨s,by rw[h1]; rfl,h2,h3,h4⟩
 |.alt a b,sy,sy',mu,ss,hd,cur,fr',fr1,st,st1,D,he=>by
  unfold dT at hd
  split at hd
  ·rename_i q hq
   cases hd
   cases he
   refine⟨D.1,fun hp => ?_⟩
   obtain⟨h1,h2⟩:=dP_ok hle st0 _ hq hp
   obtain⟨s,h3,h4,h5,h6⟩:=D.2.2 h1
   obtain⟨s',c1,c2,c3,c4,_⟩:=h2 s h6
   exact⟨s',by rw[h3]; exact c1,c2.trans h4,c3 h5,c4⟩
  ·split at hd
   ·rename_i o p hsw
    have D0:Del h cl' (cur.bind fun s=>if s.wrote=[] then some (s.fr,s.st) else none) sy fr' st:=⟨D.1,fun hp=>by
     obtain⟨s,a1,a2,a3,a4⟩:=D.2.2 hp
     exact⟨s.fr,by rw[a1,<- a2]; simp[a3],a4⟩⟩
    obtain⟨e1,e2⟩:=dSwap_run hh hle hd D0 he
    refine⟨e1,fun hp => ?_⟩
    obtain⟨fr,a1,I,v1,s1,v2,w1,t1,w2,k1,k2,k3,k4⟩:=e2 hp
    obtain⟨s,hcur,a1⟩:=Option.bind_eq_some_iff.1 a1
    split at a1
    ·rename_i hw0
     cases a1
     obtain⟨rfl,rfl,f1,f2,f3,f4,f5,f6⟩:=swapT_some hsw
     refine⟨⟨s.fr,st1,s.held++s.held,s.wrote++s.wrote⟩,?_,rfl,by rw[hw0]; rfl,I⟩
     rw[hcur]
     simp only[Option.bind_some,evSch,f1,f2,f3,f4,f5,f6,wantedB,show ¬ (3=1) by omega,show ¬ (3=2) by omega,if_false,k1,k2,k3,k4,putF]
     rw[if_pos]
     unfold Sch.same
     simp[PV.sames_self,samesL_self]
    ·cases a1
   ·cases hd
 |.cons o t,sy,sy',mu,ss,hd,cur,fr',fr1,st,st1,D,he=>by
  rw[evSch_bind]
  unfold dT at hd
  split at hd
  ·cases hd
  ·rename_i hst
   have hwr : ∀ (fr:Fr) (w:List Nat),w=[]->(if o.flag=2 then wroteOf o fr++w else w)=[]:=by
    intro fr w hw
    subst hw
    split
    ·rename_i hf
     have:isStore o.op=false:=by
      rw[hf] at hst
      simpa using hst
     rw[wrote_none this]; rfl
    ·rfl
   split at hd
   ·rename_i sy1 h1
    split at hd
    ·rename_i ss2 sy2 h2d
     cases hd
     rw[evStmts_append] at he
     obtain⟨⟨fr2,st2⟩,h3,h4⟩:=Option.bind_eq_some_iff.1 he
     have D1:DelT h cl' st0 (cur.bind (schStep cl st0 o)) sy1 mu fr' st:=by
      refine⟨D.1,D.2.1,fun hp => ?_⟩
      obtain⟨h2,h3⟩:=dPure_run hle h1 hp
      obtain⟨s,h4,h5,h6,h7⟩:=D.2.2 h2
      obtain⟨v,h8,I1⟩:=h3 s.fr h7
      rw[h4]
      simp only[Option.bind_some,schStep]
      rcases h8 with ⟨h9,h10⟩|⟨h9,h10⟩
      ·rw[h9]
       simp only[h10]
       refine⟨_,rfl,?_,hwr s.fr _ h6,I1⟩
       by_cases hf:o.flag=1
       ·simp only[hf,if_true]; exact h5
       ·simp only[hf,if_false]; exact h5
      ·subst h10
       rw[h9]
       exact⟨_,rfl,h5,h6,I1⟩
     have D0:Del h cl' ((cur.bind (schStep cl st0 o)).bind fun s=>if s.wrote=[] then some (s.fr,s.st) else none) sy1 fr' st:=⟨D1.1,fun hp=>by
      obtain⟨s,a1,a2,a3,a4⟩:=D1.2.2 hp
      exact⟨s.fr,by rw[a1,<- a2]; simp[a3],a4⟩⟩
     obtain⟨rfl,D2⟩:=layS_ok hh o.dst D0 h3
     refine dT_ok hh hle st0 t h2d (cur:=cur.bind (schStep cl st0 o)) ⟨D2.1,D.2.1,fun hp => ?_⟩ h4
     obtain⟨fr,a1,a2⟩:=D2.2 hp
     obtain⟨s,b1,b2⟩:=Option.bind_eq_some_iff.1 a1
     split at b2
     ·rename_i hw
      cases b2
      exact⟨s,b1,rfl,hw,a2⟩
     ·cases b2
    ·cases hd
   ·split at hd
    ·cases hd
    ·rename_i hmu
     split at hd
     ·cases hd
     ·rename_i hld
      split at hd
      ·rename_i s1 sy1 h1
       split at hd
       ·rename_i s2 sy2 h2
        cases hd
        rw[evStmts_append] at he
        obtain⟨⟨fr2,st2⟩,h3,h4⟩:=Option.bind_eq_some_iff.1 he
        have D0:Del h cl' (cur.bind fun s=>if s.wrote=[] then some (s.fr,s.st) else none) sy fr' st:=⟨D.1,fun hp=>by
         obtain⟨s,a1,a2,a3,a4⟩:=D.2.2 hp
         exact⟨s.fr,by rw[a1,<- a2]; simp[a3],a4⟩⟩
        obtain⟨e1,e2⟩:=dEff_run hh hle h1 D0 h3
        have hldst:isLd o.op=true->st2=st:=dEff_st h1 h3
        refine dT_ok hh hle st0 t h2 (cur:=cur.bind (schStep cl st0 o)) ⟨e1,fun hm => ?_,fun hp => ?_⟩ h4
        ·simp only[Bool.or_eq_false_iff,Bool.not_eq_false'] at hm
         rw[hldst hm.2]
         exact D.2.1 hm.1
        ·obtain⟨fr,a1,v,a2,a3⟩:=e2 hp
         obtain⟨s,hcur,a1⟩:=Option.bind_eq_some_iff.1 a1
         split at a1
         ·rename_i hw0
          cases a1
          rw[hcur]
          simp only[Option.bind_some,schStep]
          rcases a2 with ⟨b1,b2⟩|⟨b1,b2,b3⟩
          ·rw[b1]
           by_cases hf:o.flag=1
           ·have hm0:mu=false:=by simpa [hf] using hmu
            have hl1:isLd o.op=true:=by simpa [hf] using hld
            have hst0:=D.2.1 hm0
            simp only[hf,if_true]
            rw[<- hst0,b2]
            refine⟨_,rfl,(evOp_load_st hl1 b2).symm,?_,a3⟩
            have:=hwr s.fr s.wrote hw0
            rw[hf] at this
            exact this
           ·simp only[hf,if_false,b2]
            exact⟨_,rfl,rfl,hwr s.fr _ hw0,a3⟩
          ·subst b2
           rw[b1]
           exact⟨_,rfl,b3.symm,hw0,a3⟩
         ·cases a1
       ·cases hd
      ·cases hd
def Apt (s:Sch) (hl:Option (List Opd)) (mu:Bool):Prop :=
 (∀ b∈s.wrote,b ∉ s.held)/\(∀ l,hl=some l -> ∀ b∈s.held,∃ x∈l,∃ o,x.ev s.fr = .ptr b o)/\(s.wrote≠[]->mu=true)
def DelS (h:DH) (cl:CallF) (st0:St) (cur:Option Sch) (sy:Sy) (mu:Bool) (hl:Option (List Opd)) (fr':Fr) (st:St):Prop :=
 fr'.length=h.sl.length/\(mu=false->st=st0)/\(Def cl fr' sy.pend -> ∃ s,cur=some s/\s.st=st/\Apt s hl mu/\Inv h cl sy.m s.fr fr')
theorem notIn_ev {t:Nat} {l:List Opd} (hn:notIn t l=true) {x:Opd} (hx:x∈l) (v:PV) (fr:Fr):x.ev (putF (some t) v fr)=x.ev fr:=by
 have:=List.all_eq_true.1 hn x hx
 cases x with
 |t n =>
  have hne:n≠t:=by simpa using this
  exact getD_set_ne fun e=>hne e.symm
 |c v=>rfl
theorem held_step {o:SOp} {hl:Option (List Opd)} {held:List Nat} {fr:Fr} (v:PV) (h : ∀ l,hl=some l -> ∀ b∈held,∃ x∈l,∃ p,x.ev fr = .ptr b p) {more:List Nat} (hm : ∀ b∈more,∃ x p,addrO o.op=some x/\isLd o.op=true/\x.ev fr = .ptr b p) :
  ∀ l,heldN o hl=some l -> ∀ b∈more++held,∃ x∈l,∃ p,x.ev (putF o.dst v fr) = .ptr b p:=by
 intro l hN b hb
 have key : ∀ l',(if isLd o.op then (match hl,addrO o.op with
  |some l,some x=>some (x::l)
  |_,_=>none) else hl)=some l' -> ∃ x∈l',∃ p,x.ev fr = .ptr b p:=by
  intro l' hl'
  split at hl'
  ·split at hl'
   ·rename_i l0 x0 ha
    cases hl'
    rcases List.mem_append.1 hb with hb|hb
    ·obtain⟨x,p,h1,_,h3⟩:=hm b hb
     rw[ha] at h1
     cases h1
     exact⟨x0,List.mem_cons.2 (.inl rfl),p,h3⟩
    ·obtain⟨x,hx,p,hp⟩:=h _ rfl b hb
     exact⟨x,List.mem_cons.2 (.inr hx),p,hp⟩
   ·cases hl'
  ·rename_i hnl
   rcases List.mem_append.1 hb with hb|hb
   ·obtain⟨_,_,_,h2,_⟩:=hm b hb
    exact absurd h2 hnl
   ·exact h l' hl' b hb
 unfold heldN at hN
 split at hN
 ·rename_i l1 h1
  obtain⟨x,hx,p,hp⟩:=key l1 h1
  cases hd:o.dst with
  |none =>
   rw[hd] at hN
   cases hN
   exact⟨x,hx,p,hp⟩
  |some t =>
   rw[hd] at hN
   simp only at hN
   split at hN
   ·rename_i hn
    cases hN
    exact⟨x,hx,p,by rw[notIn_ev hn hx]; exact hp⟩
   ·cases hN
 ·cases hN
theorem heldOf_spec {o:SOp} {fr:Fr} : ∀ b∈heldOf o fr,∃ x p,addrO o.op=some x/\isLd o.op=true/\x.ev fr = .ptr b p:=by
 intro b hb
 unfold heldOf at hb
 split at hb
 ·rename_i n x hop
  split at hb
  ·rename_i c p he
   simp only[List.mem_singleton] at hb
   subst hb
   exact⟨x,p,by rw[hop]; rfl,by rw[hop]; rfl,he⟩
  ·cases hb
 ·cases hb
theorem pureHeld {cl:CallF} {o:SOp} {fr:Fr} {v:PV} (h : ∀ st,evOp cl o.op fr st=some (v,st)):heldOf o fr=[]:=by
 unfold heldOf
 split
 ·rename_i n x hop
  split
  ·rename_i c p he
   have:=h ⟨[],[],[],[]⟩
   rw[hop] at this
   simp only[evOp,he,List.getElem?_nil] at this
   cases this
  ·rfl
 ·rfl
theorem wroteOf_spec {o:SOp} {fr:Fr} : ∀ b∈wroteOf o fr,∃ x p,addrO o.op=some x/\x.ev fr = .ptr b p:=by
 intro b hb
 unfold wroteOf at hb
 split at hb
 ·rename_i n x y hop
  split at hb
  ·rename_i c p he
   simp only[List.mem_singleton] at hb
   subst hb
   exact⟨x,p,by rw[hop]; rfl,he⟩
  ·cases hb
 ·cases hb
noncomputable def pk (P:Sch->Prop) (cur:Option Sch):Option (Fr × St):=cur.bind fun s => @ite _ (P s) (Classical.propDecidable _) (some (s.fr,s.st)) none
theorem pk_some {P:Sch->Prop} {cur:Option Sch} {s:Sch} (h:cur=some s) (hp:P s):pk P cur=some (s.fr,s.st):=by
 rw[h]
 simp[pk,hp]
theorem pk_inv {P:Sch->Prop} {cur:Option Sch} {fr:Fr} {st:St} (h:pk P cur=some (fr,st)) : ∃ s,cur=some s/\P s/\s.fr=fr/\s.st=st:=by
 unfold pk at h
 obtain⟨s,h1,h2⟩:=Option.bind_eq_some_iff.1 h
 split at h2
 ·rename_i hp; cases h2; exact⟨s,h1,hp,rfl,rfl⟩
 ·cases h2
theorem dS_ok (hh:HOk h) (hle:LeC cl' cl) (st0:St) : ∀ (tr:Tree) {sy sy':Sy} {mu:Bool} {hl:Option (List Opd)} {ss:List EStmt},dS h tr sy mu hl=some (ss,sy') -> ∀ {cur:Option Sch} {fr' fr1:Fr} {st st1:St},DelS h cl' st0 cur sy mu hl fr' st ->
  evStmts cl' ss fr' st=some (fr1,st1) ->
  fr1.length=h.sl.length/\(Def cl' fr1 sy'.pend -> ∃ s',(cur.bind fun s=>evSch cl st0 tr s)=some s'/\s'.st=st1/\(∀ b∈s'.wrote,b ∉ s'.held)/\Inv h cl' sy'.m s'.fr fr1)
 |.nil,sy,sy',mu,hl,ss,hd,cur,fr',fr1,st,st1,D,he=>by
  cases hd
  cases he
  refine⟨D.1,fun hp => ?_⟩
  obtain⟨s,h1,h2,h3,h4⟩:=D.2.2 hp
  exact⟨s,by rw[h1]; rfl,h2,h3.1,h4⟩
 |.alt a b,sy,sy',mu,hl,ss,hd,cur,fr',fr1,st,st1,D,he=>by cases hd
 |.cons o t,sy,sy',mu,hl,ss,hd,cur,fr',fr1,st,st1,D,he=>by
  rw[evSch_bind]
  unfold dS at hd
  split at hd
  ·cases hd
  ·rename_i hst1
   split at hd
   ·
    rename_i hst2
    simp only[Bool.and_eq_true,beq_iff_eq] at hst2
    obtain⟨hso,hf2⟩:=hst2
    split at hd
    ·rename_i l x hax
     split at hd
     ·rename_i es hes
      split at hd
      ·rename_i s1 sy1 h1
       split at hd
       ·rename_i s2 sy2 h2
        cases hd
        rw[evStmts] at he
        split at he
        ·rename_i hc
         simp only[evStmt] at hc
         split at hc
         ·rename_i u hu
          cases hc
          rw[evStmts_append] at he
          obtain⟨⟨fr2,st2⟩,h3,h4⟩:=Option.bind_eq_some_iff.1 he
          have D0:Del h cl' (pk (fun s=>Apt s (some l) mu/\Inv h cl' sy.m s.fr fr') cur) sy fr' st:=⟨D.1,fun hp=>by
           obtain⟨s,a1,a2,a3,a4⟩:=D.2.2 hp
           exact⟨s.fr,by rw[pk_some a1 ⟨a3,a4⟩,a2],a4⟩⟩
          obtain⟨e1,e2⟩:=dEff_run hh hle h1 D0 h3
          refine dS_ok hh hle st0 t h2 (cur:=cur.bind (schStep cl st0 o)) ⟨e1,(fun hm=>by cases hm),fun hp => ?_⟩ h4
          obtain⟨fr,a1,v,a2,a3⟩:=e2 hp
          obtain⟨s,hcur,⟨⟨w1,w2,w3⟩,I⟩,rfl,hs⟩:=pk_inv a1
          rw[hcur]
          simp only[Option.bind_some,schStep]
          have hf1 : ¬ o.flag=1:=by omega
          have hnew : ∀ b∈wroteOf o s.fr,b ∉ s.held:=by
           intro b hb hh'
           obtain⟨x',p,h5,h6⟩:=wroteOf_spec b hb
           rw[hax] at h5
           cases h5
           obtain⟨y,hy,q,hq⟩:=w2 _ rfl b hh'
           have hce:=consE_ok (cl':=cl') (fr:=s.fr) (fr':=fr') (fun x e hx=>opdE_ok I hx) hes
           simp only[evE,hce,tupleOf,tupV,List.map_cons] at hu
           have hall:((l.map (·.ev s.fr)).all fun v => !ofBox b v)=true:=by
            split at hu
            ·rename_i hap
             simp only[h6,apartV] at hap
             exact hap
            ·cases hu
           have:=List.all_eq_true.1 hall (y.ev s.fr) (List.mem_map.2 ⟨y,hy,rfl⟩)
           rw[hq] at this
           simp[ofBox] at this
          rcases a2 with ⟨b1,b2⟩|⟨b1,b2,b3⟩
          ·rw[b1]
           have h21:((2:Nat)=1)=False:=by simp
           simp only[hf2,h21,if_false,if_true,hs,b2]
           refine⟨⟨putF o.dst v s.fr,st2,s.held,wroteOf o s.fr++s.wrote⟩,rfl,rfl,⟨fun b hb => ?_,?_,fun _=>rfl⟩,a3⟩
           ·rcases List.mem_append.1 hb with hb|hb
            ·exact hnew b hb
            ·exact w1 b hb
           ·have:=held_step (o:=o) v w2 (more:=[]) (fun b hb=>by cases hb)
            simpa using this
          ·subst b2
           rw[b1]
           refine⟨⟨putF o.dst (.tuple []) s.fr,s.st,s.held,s.wrote⟩,rfl,hs.trans b3.symm,⟨w1,?_,fun _=>rfl⟩,a3⟩
           have:=held_step (o:=o) (.tuple []) w2 (more:=[]) (fun b hb=>by cases hb)
           simpa using this
         ·cases hc
        ·cases he
       ·cases hd
      ·cases hd
     ·cases hd
    ·cases hd
   ·rename_i hst2
    have hwr:o.flag=2 -> ∀ fr:Fr,wroteOf o fr=[]:=by
     intro hf fr
     refine wrote_none ?_
     rw[hf] at hst2
     simpa using hst2
    split at hd
    ·rename_i sy1 h1
     split at hd
     ·rename_i ss2 sy2 h2d
      cases hd
      rw[evStmts_append] at he
      obtain⟨⟨fr2,st2⟩,h3,h4⟩:=Option.bind_eq_some_iff.1 he
      have D1:DelS h cl' st0 (cur.bind (schStep cl st0 o)) sy1 mu (heldN o hl) fr' st:=by
       refine⟨D.1,D.2.1,fun hp => ?_⟩
       obtain⟨h2,h3⟩:=dPure_run hle h1 hp
       obtain⟨s,h4,h5,⟨w1,w2,w3⟩,h7⟩:=D.2.2 h2
       obtain⟨v,h8,I1⟩:=h3 s.fr h7
       rw[h4]
       simp only[Option.bind_some,schStep]
       have hkeep : ∀ v:PV,∀ l,heldN o hl=some l -> ∀ b∈s.held,∃ x∈l,∃ p,x.ev (putF o.dst v s.fr) = .ptr b p:=fun v=>by
        have:=held_step (o:=o) v w2 (more:=[]) (fun b hb=>by cases hb)
        simpa using this
       rcases h8 with ⟨h9,h10⟩|⟨h9,h10⟩
       ·rw[h9]
        simp only[h10]
        have e1:(if o.flag=1 then heldOf o s.fr++s.held else s.held)=s.held:=by
         split
         ·rw[pureHeld h10]; rfl
         ·rfl
        have e2:(if o.flag=2 then wroteOf o s.fr++s.wrote else s.wrote)=s.wrote:=by
         split
         ·rename_i hf; rw[hwr hf]; rfl
         ·rfl
        rw[e1,e2]
        refine⟨_,rfl,?_,⟨w1,hkeep v,w3⟩,I1⟩
        by_cases hf:o.flag=1
        ·simp only[hf,if_true]; exact h5
        ·simp only[hf,if_false]; exact h5
       ·subst h10
        rw[h9]
        exact⟨_,rfl,h5,⟨w1,hkeep _,w3⟩,I1⟩
      have D0:Del h cl' (pk (fun s=>Apt s (heldN o hl) mu) (cur.bind (schStep cl st0 o))) sy1 fr' st:=⟨D1.1,fun hp=>by
       obtain⟨s,a1,a2,a3,a4⟩:=D1.2.2 hp
       exact⟨s.fr,by rw[pk_some a1 a3,a2],a4⟩⟩
      obtain⟨rfl,D2⟩:=layS_ok hh o.dst D0 h3
      refine dS_ok hh hle st0 t h2d (cur:=cur.bind (schStep cl st0 o)) ⟨D2.1,D.2.1,fun hp => ?_⟩ h4
      obtain⟨fr,a1,a2⟩:=D2.2 hp
      obtain⟨s,b1,b2,rfl,b4⟩:=pk_inv a1
      exact⟨s,b1,b4,b2,a2⟩
     ·cases hd
    ·split at hd
     ·cases hd
     ·rename_i hmu
      split at hd
      ·cases hd
      ·rename_i hld
       split at hd
       ·rename_i s1 sy1 h1
        split at hd
        ·rename_i s2 sy2 h2
         cases hd
         rw[evStmts_append] at he
         obtain⟨⟨fr2,st2⟩,h3,h4⟩:=Option.bind_eq_some_iff.1 he
         have D0:Del h cl' (pk (fun s=>Apt s hl mu) cur) sy fr' st:=⟨D.1,fun hp=>by
          obtain⟨s,a1,a2,a3,a4⟩:=D.2.2 hp
          exact⟨s.fr,by rw[pk_some a1 a3,a2],a4⟩⟩
         obtain⟨e1,e2⟩:=dEff_run hh hle h1 D0 h3
         have hldst:isLd o.op=true->st2=st:=dEff_st h1 h3
         refine dS_ok hh hle st0 t h2 (cur:=cur.bind (schStep cl st0 o)) ⟨e1,fun hm => ?_,fun hp => ?_⟩ h4
         ·simp only[Bool.or_eq_false_iff,Bool.not_eq_false'] at hm
          rw[hldst hm.2]
          exact D.2.1 hm.1
         ·obtain⟨fr,a1,v,a2,a3⟩:=e2 hp
          obtain⟨s,hcur,⟨w1,w2,w3⟩,rfl,hs⟩:=pk_inv a1
          rw[hcur]
          simp only[Option.bind_some,schStep]
          have e2':(if o.flag=2 then wroteOf o s.fr++s.wrote else s.wrote)=s.wrote:=by
           split
           ·rename_i hf; rw[hwr hf]; rfl
           ·rfl
          have w3':s.wrote≠[]->(mu || !isLd o.op)=true:=fun hw=>by rw[w3 hw]; rfl
          rcases a2 with ⟨b1,b2⟩|⟨b1,b2,b3⟩
          ·rw[b1]
           by_cases hf:o.flag=1
           ·have hm0:mu=false:=by simpa [hf] using hmu
            have hl1:isLd o.op=true:=by simpa [hf] using hld
            have hst0:=D.2.1 hm0
            have hw0:s.wrote=[]:=by
             rcases Classical.em (s.wrote=[]) with h|h
             ·exact h
             ·have:=w3 h; rw[hm0] at this; cases this
            simp only[hf,if_true]
            rw[<- hst0,b2]
            refine⟨⟨putF o.dst v s.fr,s.st,heldOf o s.fr++s.held,s.wrote⟩,rfl,hs.trans (evOp_load_st hl1 b2).symm,⟨?_,held_step (o:=o) v w2 heldOf_spec,?_⟩,a3⟩
            ·intro b hb
             rw[show s.wrote=[] from hw0] at hb
             cases hb
            ·intro hw
             exact absurd hw0 hw
           ·simp only[hf,if_false,hs,b2]
            rw[e2']
            refine⟨⟨putF o.dst v s.fr,st2,s.held,s.wrote⟩,rfl,rfl,⟨w1,?_,w3'⟩,a3⟩
            have:=held_step (o:=o) v w2 (more:=[]) (fun b hb=>by cases hb)
            simpa using this
          ·subst b2
           rw[b1]
           refine⟨⟨putF o.dst (.tuple []) s.fr,s.st,s.held,s.wrote⟩,rfl,hs.trans b3.symm,⟨w1,?_,w3'⟩,a3⟩
           have:=held_step (o:=o) (.tuple []) w2 (more:=[]) (fun b hb=>by cases hb)
           simpa using this
        ·cases hd
       ·cases hd
end
end Go.Proofs.YthjnlpfibakacaaGreatDoorPe
