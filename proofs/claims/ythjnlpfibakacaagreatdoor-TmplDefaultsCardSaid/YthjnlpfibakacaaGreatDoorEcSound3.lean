/- A part of the proof of this folder's statement; it has no condition of its own. -/
import Derived.Test.YthjnlpfibakacaaGreatDoorEcNorm
set_option linter.unusedVariables false
set_option linter.unusedSimpArgs false
namespace Go.Proofs.YthjnlpfibakacaaGreatDoorPe
open Go
theorem bothE_some {m:List Bool} {x y:ERs} {r:EX × Fr × St} (h:bothE m x y=some r) : ∃ f g s,x=some (.normal,f,s)/\y=some (.normal,g,s)/\r=(.normal,mask m f,s)/\mask m f=mask m g:=by
 unfold bothE at h
 split at h
 ·split at h
  ·rename_i hs
   cases h
   simp only[Bool.and_eq_true] at hs
   obtain rfl:=sameSt_eq hs.2
   exact⟨_,_,_,rfl,rfl,rfl,PV.eq_of_sames _ _ hs.1⟩
  ·cases h
 ·cases h
theorem bothE_eq {m:List Bool} {f g:Fr} {s:St} (h:mask m f=mask m g):bothE m (some (.normal,f,s)) (some (.normal,g,s))=some (.normal,mask m f,s):=by
 unfold bothE
 simp only
 rw[h,PV.sames_self,sameSt_self]
 rfl
def normOf:CRes->Option (Fr × St)
 |some (.normal,fr,st)=>some (fr,st)
 |_=>none
section
variable {h:DH} {cl' cl:CallF}
def Out (h:DH) (cl' cl:CallF) (rs:List ResV) (c:IC) (cur:Option (Fr × St)) (osy:Option Sy) (x:EX) (fr1:Fr) (st1:St):Prop :=
 match x with
 |.normal => ∃ sy',osy=some sy'/\Plain h sy'.m/\Del h cl' (cur.bind fun p=>normOf (evW cl c p.1 p.2)) sy' fr1 st1
 |.exit id => ∃ fr st fr2,cur=some (fr,st)/\evW cl c fr st=some (.exit id,fr2,st1)/\Inv h cl' [] fr2 fr1
 |.ret v => ∃ fr st fr2,cur=some (fr,st)/\evW cl c fr st=some (.ret,fr2,st1)/\resultsOf rs fr2 st1=some v
theorem preC_ok {l:List Exp} {c:EC} {n:Nat} {fr:Fr} {st:St} {r:EX × Fr × St} (he:evS cl' n (preC l c) fr st=some r):Def cl' fr l/\evS cl' n c fr st=some r:=by
 unfold preC at he
 split at he
 ·rename_i hl
  rw[List.isEmpty_iff.1 hl]
  exact⟨(fun p hp=>by cases hp),he⟩
 ·unfold evS at he
  split at he
  ·rename_i fr1 st1 h1
   unfold evS at h1
   split at h1
   ·rename_i fr2 st2 h2
    cases h1
    obtain⟨rfl,rfl,h3⟩:=evChks h2
    exact⟨h3,he⟩
   ·cases h1
  ·rename_i h1; unfold evS at h1; split at h1 <;> cases h1
  ·rename_i h1; unfold evS at h1; split at h1 <;> cases h1
  ·cases he
theorem Del.pend {cur:Option (Fr × St)} {sy:Sy} {fr':Fr} {st:St} (D:Del h cl' cur sy fr' st) (hp:Def cl' fr' sy.pend):Del h cl' cur ⟨sy.m,[]⟩ fr' st:=⟨D.1,fun _=>D.2 hp⟩
theorem close_ok {rs:List ResV} {c:IC} {p:EC × Option Sy} {cur:Option (Fr × St)} {n:Nat} {fr' fr1:Fr} {st st1:St} {x:EX} (ih : ∀ {x fr1 st1},evS cl' n p.1 fr' st=some (x,fr1,st1)->Out h cl' cl rs c cur p.2 x fr1 st1)
  (he:evS cl' n (close p).1 fr' st=some (x,fr1,st1)):Out h cl' cl rs c cur (close p).2 x fr1 st1:=by
 obtain⟨ec,osy⟩:=p
 cases osy with
 |none=>exact ih he
 |some sy =>
  simp only[close] at he ⊢
  by_cases hl:sy.pend.isEmpty=true
  ·rw[if_pos hl] at he ⊢
   exact ih he
  ·rw[if_neg hl] at he ⊢
   simp only at he ⊢
   unfold evS at he
   split at he
   ·rename_i fr2 st2 h1
    obtain⟨sy',e,hpl,D⟩:=ih h1
    cases e
    unfold evS at he
    split at he
    ·rename_i fr3 st3 h2
     cases he
     obtain⟨rfl,rfl,h3⟩:=evChks h2
     exact⟨_,rfl,hpl,D.pend h3⟩
    ·cases he
   ·rename_i h1; cases he; exact ih h1
   ·rename_i h1; cases he; exact ih h1
   ·cases he
theorem close_pend {p:EC × Option Sy} {sy:Sy} (hc:(close p).2=some sy):sy.pend=[]:=by
 obtain⟨ec,osy⟩:=p
 cases osy with
 |none=>cases hc
 |some s =>
  simp only[close] at hc
  split at hc
  ·rename_i hl; cases hc; exact List.isEmpty_iff.1 hl
  ·cases hc; rfl
theorem Inv.base {m:List (Nat × Exp)} {fr fr':Fr} (hp:Plain h m) (I:Inv h cl' m fr fr'):Inv h cl' [] fr fr' :=
 ⟨I.len,I.len',fun s t hs _=>I.s s t hs fun e he=>slotOf_none (hp t e he) hs,fun t e hm=>by cases hm⟩
theorem mapO_len {α β : Type} {f : α -> Option β} : ∀ {l:List α} {m:List β},mapO f l=some m->m.length=l.length /\ ∀ i (h:i<l.length) (h':i<m.length),f (l[i])=some (m[i])
 |[],m,h=>by cases h; exact⟨rfl,fun i h=>by cases h⟩
 |a::l,m,h=>by
  unfold mapO at h
  cases h1:f a with
  |none=>rw[h1] at h; cases h
  |some b =>
   rw[h1] at h
   cases h2:mapO f l with
   |none=>rw[h2] at h; cases h
   |some bs =>
    rw[h2] at h
    cases h
    obtain⟨e,k⟩:=mapO_len h2
    refine⟨by simp[e],fun i hi hi' => ?_⟩
    cases i with
    |zero=>exact h1
    |succ i=>exact k i (by simpa using hi) (by simpa using hi')
theorem resE_ok {m:List (Nat × Exp)} {fr fr':Fr} {st:St} (I:Inv h cl' m fr fr') : ∀ {rs:List ResV} {es:List ERes} {vs:List PV},mapO (resE h m) rs=some es->mapO (evRes cl' fr' st) es=some vs ->
  mapO (resOf fr st) rs=some vs /\ ∀ e∈es,∃ v,evE cl' fr' e.ex=some v
 |[],es,vs,h1,h2=>by cases h1; cases h2; exact⟨rfl,fun e he=>by cases he⟩
 |r::rs,es,vs,h1,h2=>by
  unfold mapO at h1
  split at h1
  ·rename_i e he
   split at h1
   ·rename_i es' hes
    cases h1
    unfold mapO at h2
    split at h2
    ·rename_i v hv
     split at h2
     ·rename_i vs' hvs
      cases h2
      obtain⟨k1,k2⟩:=resE_ok I hes hvs
      have key:resOf fr st r=some v /\ ∃ u,evE cl' fr' e.ex=some u:=by
       cases r with
       |tmp t =>
        obtain⟨x,hx,rfl⟩:=Option.map_eq_some_iff.1 he
        have:=lookT_ok I hx
        simp only[evRes] at hv
        rw[this] at hv
        exact⟨hv,_,this⟩
       |cell t k =>
        obtain⟨x,hx,rfl⟩:=Option.map_eq_some_iff.1 he
        have:=lookT_ok I hx
        simp only[evRes] at hv
        rw[this] at hv
        refine⟨?_,_,this⟩
        simp only[resOf]
        cases hq:fr.getD t .undef with
        |ptr b o=>rw[hq] at hv; exact hv
        |_=>rw[hq] at hv; cases hv
      refine⟨by unfold mapO; rw[key.1,k1],fun q hq => ?_⟩
      cases hq with
      |head=>exact key.2
      |tail _ hq=>exact k2 q hq
     ·cases h2
    ·cases h2
   ·cases h1
  ·cases h1
theorem resultsOf_eq (rs:List ResV) (fr:Fr) (st:St):resultsOf rs fr st=(mapO (resOf fr st) rs).map oneOf:=by
 unfold resultsOf
 cases mapO (resOf fr st) rs with
 |none=>rfl
 |some vs =>
  cases vs with
  |nil=>rfl
  |cons v vs=>cases vs <;> rfl
theorem dRet_ok {rs:List ResV} {sy:Sy} {ec:EC} (hd:dRet h rs sy=some ec) {cur:Option (Fr × St)} {n:Nat} {fr' fr1:Fr} {st st1:St} {x:EX} (D:Del h cl' cur sy fr' st) (he:evS cl' n ec fr' st=some (x,fr1,st1)) :
  ∃ v fr,x = .ret v/\st1=st/\cur=some (fr,st)/\resultsOf rs fr st=some v:=by
 unfold dRet at hd
 split at hd
 ·rename_i es hes
  cases hd
  obtain⟨h1,h2⟩:=preC_ok he
  unfold evS at h2
  split at h2
  ·rename_i v hv
   cases h2
   unfold evRets at hv
   obtain⟨vs,hvs,rfl⟩:=Option.map_eq_some_iff.1 hv
   have hex : ∀ e∈es,∃ v,evE cl' fr' e.ex=some v:=by
    intro e he
    obtain⟨i,hi,rfl⟩:=List.getElem_of_mem he
    obtain⟨e1,e2⟩:=mapO_len hvs
    have:=e2 i hi (by omega)
    cases hei:es[i] with
    |e x=>rw[hei] at this; exact⟨_,this⟩
    |cell x k =>
     rw[hei] at this
     simp only[evRes] at this
     split at this
     ·rename_i hx; exact⟨_,hx⟩
     ·cases this
   have hp:Def cl' fr' sy.pend:=by
    intro p hp
    by_cases hc:(es.any fun e=>Exp.same e.ex p||e.ex.covers p)=true
    ·rw[List.any_eq_true] at hc
     obtain⟨e,he,hc⟩:=hc
     obtain⟨u,hu⟩:=hex e he
     simp only[Bool.or_eq_true] at hc
     rcases hc with hc|hc
     ·rw[<- Exp.eq_of_same hc]; exact⟨u,hu⟩
     ·exact covers_ok hc hu
    ·exact h1 p (List.mem_filter.2 ⟨hp,by simpa using hc⟩)
   obtain⟨fr,hc,I⟩:=D.2 hp
   refine⟨_,fr,rfl,rfl,hc,?_⟩
   rw[resultsOf_eq,(resE_ok I hes hvs).1]
   rfl
  ·cases h2
 ·cases hd
theorem mask_getD : ∀ (m:List Bool) (l:Fr) (i:Nat),(mask m l).getD i .undef=if m.getD i false then l.getD i .undef else .undef
 |[],l,i=>by
  simp only[mask,List.getD_nil,Bool.false_eq_true,if_false]
  rw[List.getD_eq_getElem?_getD,List.getElem?_map]
  cases l[i]? <;> rfl
 |true::m,[],i=>by simp[mask]
 |false::m,[],i=>by simp[mask]
 |true::m,v::l,0=>by simp[mask]
 |false::m,v::l,0=>by simp[mask]
 |true::m,v::l,i+1=>by simpa [mask] using mask_getD m l i
 |false::m,v::l,i+1=>by simpa [mask] using mask_getD m l i
theorem mask_len : ∀ (m:List Bool) (l:Fr),(mask m l).length=l.length
 |[],l=>by simp[mask]
 |true::m,[]=>by simp[mask]
 |false::m,[]=>by simp[mask]
 |true::m,v::l=>by simp[mask,mask_len m l]
 |false::m,v::l=>by simp[mask,mask_len m l]
theorem Inv.masked {fr fr':Fr} (I:Inv h cl' [] fr fr') (m:List Bool):Inv h cl' [] (mask m fr) (mask (h.sl.map fun t=>m.getD t false) fr'):=by
 refine⟨by rw[mask_len]; exact I.len,by rw[mask_len]; exact I.len',fun s t hs _ => ?_,fun t e hm=>by cases hm⟩
 rw[mask_getD,mask_getD,I.s s t hs fun e he=>by cases he]
 have:(h.sl.map fun t=>m.getD t false).getD s false=m.getD t false:=by
  rw[List.getD_eq_getElem?_getD,List.getElem?_map,hs]; rfl
 rw[this]
theorem mkSt_ev {n:Nat} {l:List EStmt} {fr:Fr} {st:St}:evS cl' n (mkSt l) fr st=evS cl' n (.st l) fr st:=by
 unfold mkSt
 split
 ·rename_i hl; rw[List.isEmpty_iff.1 hl]; rfl
 ·rfl
theorem mkSeq_ev {n:Nat} {a b:EC} {fr:Fr} {st:St}:evS cl' n (mkSeq a b) fr st=evS cl' n (.seq a b) fr st:=by
 unfold mkSeq
 split
 ·rfl
 ·conv=>rhs; unfold evS
  cases evS cl' n a fr st with
  |none=>rfl
  |some q =>
   obtain⟨x,fr1,st1⟩:=q
   cases x <;> rfl
 ·rfl
theorem drawT_del (hh:HOk h) (hle:LeC cl' cl) {t:Tree} {sy sy1:Sy} {ss:List EStmt} (h1:dT h (normT t) sy false=some (ss,sy1)) {cur:Option (Fr × St)} {fr' fr3:Fr} {st st3:St} (D:Del h cl' cur sy fr' st) (h3:evStmts cl' ss fr' st=some (fr3,st3)) :
  Del h cl' (cur.bind fun p=>normOf (evW cl (.draw t) p.1 p.2)) sy1 fr3 st3:=by
 obtain⟨k1,k2⟩:=dT_ok hh hle st (normT t) h1 (cur:=cur.bind fun p => @ite _ (p.2=st) (Classical.propDecidable _) (some (⟨p.1,p.2,[],[]⟩:Sch)) none) ⟨D.1,fun _=>rfl,fun hp=>by
  obtain⟨fr,hc,I⟩:=D.2 hp
  exact⟨⟨fr,st,[],[]⟩,by rw[hc]; simp,rfl,rfl,I⟩⟩ h3
 refine⟨k1,fun hp => ?_⟩
 obtain⟨s',a1,a2,a3,a4⟩:=k2 hp
 obtain⟨s,b1,b2⟩:=Option.bind_eq_some_iff.1 a1
 obtain⟨⟨fr,st0⟩,c1,c2⟩:=Option.bind_eq_some_iff.1 b1
 split at c2
 ·rename_i c3
  cases c2
  simp only at c3
  subst c3
  obtain⟨s2,b3,R⟩:=normT_ok t b2
  refine⟨s'.fr,?_,a4⟩
  rw[c1]
  simp only[Option.bind_some,evW,evDraw]
  rw[b3]
  simp only[R.2.2 a3,List.all_nil,if_true]
  rw[<- R.1,<- R.2.1,a2]
  rfl
 ·cases c2
theorem drawS_del (hh:HOk h) (hle:LeC cl' cl) {t:Tree} {sy sy1:Sy} {ss:List EStmt} (h1:dS h t sy false (some [])=some (ss,sy1)) {cur:Option (Fr × St)} {fr' fr3:Fr} {st st3:St} (D:Del h cl' cur sy fr' st) (h3:evStmts cl' ss fr' st=some (fr3,st3)) :
  Del h cl' (cur.bind fun p=>normOf (evW cl (.draw t) p.1 p.2)) sy1 fr3 st3:=by
 obtain⟨k1,k2⟩:=dS_ok hh hle st t h1 (cur:=cur.bind fun p => @ite _ (p.2=st) (Classical.propDecidable _) (some (⟨p.1,p.2,[],[]⟩:Sch)) none) ⟨D.1,fun _=>rfl,fun hp=>by
  obtain⟨fr,hc,I⟩:=D.2 hp
  exact⟨⟨fr,st,[],[]⟩,by rw[hc]; simp,rfl,⟨(fun b hb=>by cases hb),(fun l _ b hb=>by cases hb),fun h=>absurd rfl h⟩,I⟩⟩ h3
 refine⟨k1,fun hp => ?_⟩
 obtain⟨s',a1,a2,a3,a4⟩:=k2 hp
 obtain⟨s,b1,b2⟩:=Option.bind_eq_some_iff.1 a1
 obtain⟨⟨fr,st0⟩,c1,c2⟩:=Option.bind_eq_some_iff.1 b1
 split at c2
 ·rename_i c3
  cases c2
  simp only at c3
  subst c3
  refine⟨s'.fr,?_,a4⟩
  rw[c1]
  have hall:s'.wrote.all (fun b => !s'.held.contains b)=true:=by
   rw[List.all_eq_true]
   intro b hb
   simpa using a3 b hb
  simp only[Option.bind_some,evW,evDraw,b2,hall,if_true,a2]
  rfl
 ·cases c2
theorem draw_del (hh:HOk h) (hle:LeC cl' cl) {t:Tree} {sy sy1:Sy} {ss:List EStmt} (h1:dD h t sy=some (ss,sy1)) {cur:Option (Fr × St)} {fr' fr3:Fr} {st st3:St} (D:Del h cl' cur sy fr' st) (h3:evStmts cl' ss fr' st=some (fr3,st3)) :
  Del h cl' (cur.bind fun p=>normOf (evW cl (.draw t) p.1 p.2)) sy1 fr3 st3:=by
 unfold dD at h1
 split at h1
 ·rename_i r hr
  cases h1
  exact drawT_del hh hle hr D h3
 ·exact drawS_del hh hle h1 D h3
theorem dec_ok (hh:HOk h) (hle:LeC cl' cl) {rs:List ResV} (n:Nat) : ∀ (c:IC) {sy:Sy} {ec:EC} {osy:Option Sy},dec h rs c sy=some (ec,osy) -> ∀ {cur:Option (Fr × St)} {fr' fr1:Fr} {st st1:St} {x:EX},Plain h sy.m->Del h cl' cur sy fr' st ->
  evS cl' n ec fr' st=some (x,fr1,st1)->Out h cl' cl rs c cur osy x fr1 st1:=by
 intro c
 induction c with
 |ops l =>
  intro sy ec osy hd cur fr' fr1 st st1 x hpl D he
  unfold dec at hd
  split at hd
  ·rename_i ss sy1 h1
   cases hd
   rw[mkSt_ev] at he
   unfold evS at he
   split at he
   ·rename_i fr2 st2 h2
    cases he
    rw[evStmts_append] at h2
    obtain⟨⟨fr3,st3⟩,h3,h4⟩:=Option.bind_eq_some_iff.1 h2
    have D1:=dOps_ok hh hle l h1 D h3
    obtain⟨rfl,hpl2,D2⟩:=flush_ok hh D1 h4
    refine⟨_,rfl,hpl2,?_⟩
    have e:(cur.bind fun p=>normOf (evW cl (.ops l) p.1 p.2))=cur.bind fun p=>evOps cl l p.1 p.2:=by
     cases cur with
     |none=>rfl
     |some p =>
      simp only[Option.bind_some,evW]
      cases evOps cl l p.1 p.2 <;> rfl
    rw[e]
    exact D2
   ·cases he
  ·cases hd
 |draw t =>
  intro sy ec osy hd cur fr' fr1 st st1 x hpl D he
  unfold dec at hd
  split at hd
  ·rename_i ss sy1 h1
   cases hd
   rw[mkSt_ev] at he
   unfold evS at he
   split at he
   ·rename_i fr2 st2 h2
    cases he
    rw[evStmts_append] at h2
    obtain⟨⟨fr3,st3⟩,h3,h4⟩:=Option.bind_eq_some_iff.1 h2
    have D1:=draw_del hh hle h1 D h3
    obtain⟨rfl,hpl2,D2⟩:=flush_ok hh D1 h4
    exact⟨_,rfl,hpl2,D2⟩
   ·cases he
  ·cases hd
 |seq a b iha ihb =>
  intro sy ec osy hd cur fr' fr1 st st1 x hpl D he
  have stop : ∀ {y:EX},y ≠ .normal -> ∀ {osy'},Out h cl' cl rs a cur osy' y fr1 st1->Out h cl' cl rs (.seq a b) cur osy y fr1 st1:=by
   intro y hy osy' ho
   cases y with
   |normal=>exact absurd rfl hy
   |exit id =>
    obtain⟨fr,st',fr2,h1,h2,h3⟩:=ho
    exact⟨fr,st',fr2,h1,by unfold evW; rw[h2],h3⟩
   |ret v =>
    obtain⟨fr,st',fr2,h1,h2,h3⟩:=ho
    exact⟨fr,st',fr2,h1,by unfold evW; rw[h2],h3⟩
  have hreg : ∀ {ss:List EStmt} {sy1:Sy},dReg h a sy=some (ss,sy1) -> ∀ {fr3:Fr} {st3:St},evStmts cl' ss fr' st=some (fr3,st3)->Del h cl' (cur.bind fun p=>normOf (evW cl a p.1 p.2)) sy1 fr3 st3:=by
   intro ss sy1 h1 fr3 st3 h3
   cases a with
   |ops l =>
    have D1:=dOps_ok hh hle l h1 D h3
    have e:(cur.bind fun p=>normOf (evW cl (.ops l) p.1 p.2))=cur.bind fun p=>evOps cl l p.1 p.2:=by
     cases cur with
     |none=>rfl
     |some p =>
      simp only[Option.bind_some,evW]
      cases evOps cl l p.1 p.2 <;> rfl
    rw[e]
    exact D1
   |draw t=>exact draw_del hh hle h1 D h3
   |_=>cases h1
  unfold dec at hd
  cases hb:retReg h b a sy with
  |some q =>
   obtain⟨ss,sy1⟩:=q
   rw[hb] at hd
   unfold retReg at hb
   split at hb
   ·obtain⟨r,hr,e⟩:=Option.map_eq_some_iff.1 hd
    cases e
    rw[mkSeq_ev] at he
    unfold evS at he
    rw[mkSt_ev] at he
    split at he
    ·rename_i fr2 st2 h2
     unfold evS at h2
     split at h2
     ·rename_i fr3 st3 h3
      cases h2
      obtain⟨v,fr,rfl,rfl,hc,hr⟩:=dRet_ok hr (hreg hb h3) he
      obtain⟨p,q1,q2⟩:=Option.bind_eq_some_iff.1 hc
      refine⟨p.1,p.2,fr,q1,?_,hr⟩
      unfold evW
      cases hq:evW cl a p.1 p.2 with
      |none=>rw[hq] at q2; cases q2
      |some z =>
       rw[hq] at q2
       obtain⟨y,fr4,st4⟩:=z
       cases y <;> first|(cases q2; rfl)|cases q2
     ·cases h2
    ·rename_i h2; unfold evS at h2; split at h2 <;> cases h2
    ·rename_i h2; unfold evS at h2; split at h2 <;> cases h2
    ·cases he
   ·cases hb
  |none =>
  rw[hb] at hd
  simp only at hd
  split at hd
  ·rename_i ea h1
   cases hd
   have:=iha h1 hpl D he
   cases x with
   |normal=>obtain⟨_,e,_⟩:=this; cases e
   |exit id=>exact stop (by simp) this
   |ret v=>exact stop (by simp) this
  ·rename_i ea sy1 h1
   split at hd
   ·rename_i eb r h2
    cases hd
    rw[mkSeq_ev] at he
    unfold evS at he
    split at he
    ·rename_i fr2 st2 h3
     obtain⟨_,e,hpl1,D1⟩:=iha h1 hpl D h3
     cases e
     have ho:=ihb h2 hpl1 D1 he
     have e : ∀ p:Fr × St,normOf (evW cl (.seq a b) p.1 p.2)=(normOf (evW cl a p.1 p.2)).bind fun p=>normOf (evW cl b p.1 p.2):=by
      intro p
      conv=>lhs; unfold evW
      cases evW cl a p.1 p.2 with
      |none=>rfl
      |some q =>
       obtain⟨y,fr3,st3⟩:=q
       cases y <;> rfl
     have e' : ∀ (y:IX) fr3 st3 (p:Fr × St),((some p:Option (Fr × St)).bind fun p=>normOf (evW cl a p.1 p.2))=some (fr3,st3)->evW cl (.seq a b) p.1 p.2=evW cl b fr3 st3:=by
      intro y fr3 st3 p hp
      simp only[Option.bind_some] at hp
      conv=>lhs; unfold evW
      cases hq:evW cl a p.1 p.2 with
      |none=>rw[hq] at hp; cases hp
      |some q =>
       rw[hq] at hp
       obtain⟨y,fr4,st4⟩:=q
       cases y <;> first|(cases hp; rfl)|cases hp
     cases x with
     |normal =>
      obtain⟨sy',k1,hpl2,k2⟩:=ho
      refine⟨sy',k1,hpl2,?_⟩
      have:(cur.bind fun p=>normOf (evW cl (.seq a b) p.1 p.2))=(cur.bind fun p=>normOf (evW cl a p.1 p.2)).bind fun p=>normOf (evW cl b p.1 p.2):=by
       cases cur with
       |none=>rfl
       |some p=>exact e p
      rw[this]
      exact k2
     |exit id =>
      obtain⟨fr,st',fr3,k1,k2,k3⟩:=ho
      obtain⟨p,q1,q2⟩:=Option.bind_eq_some_iff.1 k1
      exact⟨p.1,p.2,fr3,q1,by rw[e' .normal fr st' p q2]; exact k2,k3⟩
     |ret v =>
      obtain⟨fr,st',fr3,k1,k2,k3⟩:=ho
      obtain⟨p,q1,q2⟩:=Option.bind_eq_some_iff.1 k1
      exact⟨p.1,p.2,fr3,q1,by rw[e' .normal fr st' p q2]; exact k2,k3⟩
    ·rename_i h3; cases he; exact stop (by simp) (iha h1 hpl D h3)
    ·rename_i h3; cases he; exact stop (by simp) (iha h1 hpl D h3)
    ·cases he
   ·cases hd
  ·cases hd
 |cond c0 a b iha ihb =>
  intro sy ec osy hd cur fr' fr1 st st1 x hpl D he
  unfold dec at hd
  split at hd
  ·rename_i e hop
   split at hd
   ·rename_i p q hp hq
    cases hd
    obtain⟨h1,h2⟩:=preC_ok he
    unfold evS at h2
    split at h2
    ·rename_i t ht
     have hpd:Def cl' fr' sy.pend:=by
      intro r hr
      by_cases hc:(Exp.same e r||e.covers r)=true
      ·simp only[Bool.or_eq_true] at hc
       rcases hc with hc|hc
       ·rw[<- Exp.eq_of_same hc]; exact⟨_,ht⟩
       ·exact covers_ok hc ht
      ·exact h1 r (List.mem_filter.2 ⟨hr,by simpa using hc⟩)
     obtain⟨fr,hc,I⟩:=D.2 hpd
     have D0:Del h cl' cur ⟨sy.m,[]⟩ fr' st:=⟨D.1,fun _=>⟨fr,hc,I⟩⟩
     have hx:=opdE_ok I hop
     rw[ht] at hx
     have hx:c0.ev fr = .bool t:=(Option.some.inj hx).symm
     have lift : ∀ (d:IC) (r:EC × Option Sy),(if t then d=a/\r=p else d=b/\r=q)->Out h cl' cl rs d cur (close r).2 x fr1 st1->Out h cl' cl rs (.cond c0 a b) cur (joinS (close p).2 (close q).2) x fr1 st1:=by
      intro d r hdr ho
      have hev:evW cl (.cond c0 a b) fr st=evW cl d fr st:=by
       conv=>lhs; unfold evW
       rw[hx]
       cases t with
       |true=>simp only[if_true] at hdr ⊢; rw[hdr.1]
       |false=>simp only[Bool.false_eq_true,if_false] at hdr ⊢; rw[hdr.1]
      cases x with
      |normal =>
       obtain⟨sy',k1,hpl2,k2⟩:=ho
       have hsub : ∃ s,joinS (close p).2 (close q).2=some s/\s.pend=[] /\ ∀ t e,(t,e)∈s.m->(t,e)∈sy'.m:=by
        cases t with
        |true =>
         simp only[if_true] at hdr
         obtain⟨_,rfl⟩:=hdr
         rw[k1]
         cases hq2:(close q).2 with
         |none=>exact⟨sy',rfl,close_pend k1,fun _ _ h=>h⟩
         |some s2=>exact⟨_,rfl,rfl,fun t e hm=>(List.mem_filter.1 hm).1⟩
        |false =>
         simp only[Bool.false_eq_true,if_false] at hdr
         obtain⟨_,rfl⟩:=hdr
         rw[k1]
         cases hp2:(close p).2 with
         |none=>exact⟨sy',rfl,close_pend k1,fun _ _ h=>h⟩
         |some s2 =>
          refine⟨_,rfl,rfl,fun t e hm => ?_⟩
          obtain⟨_,hm⟩:=List.mem_filter.1 hm
          rw[List.any_eq_true] at hm
          obtain⟨⟨t',e'⟩,hq',hx'⟩:=hm
          simp only[Bool.and_eq_true,beq_iff_eq] at hx'
          obtain⟨rfl,hx'⟩:=hx'
          rw[Exp.eq_of_same hx']
          exact hq'
       obtain⟨s,q1,q2,q3⟩:=hsub
       refine⟨s,q1,fun t e hm=>hpl2 t e (q3 t e hm),k2.1,fun _ => ?_⟩
       obtain⟨fr2,a1,a2⟩:=k2.2 (by rw[close_pend k1]; intro p hp; cases hp)
       refine⟨fr2,?_,a2.len,a2.len',fun s' t' hs hn => ?_,fun t' e' hm=>a2.m t' e' (q3 t' e' hm)⟩
       ·rw[hc] at a1 ⊢
        simp only[Option.bind_some] at a1 ⊢
        rw[hev]
        exact a1
       ·exact a2.s s' t' hs fun e' he'=>slotOf_none (hpl2 t' e' he') hs
      |exit id =>
       obtain⟨fr2,st2,fr3,a1,a2,a3⟩:=ho
       rw[hc] at a1
       cases a1
       exact⟨fr,st,fr3,hc,by rw[hev]; exact a2,a3⟩
      |ret v =>
       obtain⟨fr2,st2,fr3,a1,a2,a3⟩:=ho
       rw[hc] at a1
       cases a1
       exact⟨fr,st,fr3,hc,by rw[hev]; exact a2,a3⟩
     cases t with
     |true =>
      simp only[if_true] at h2
      exact lift a p (by simp) (close_ok (fun h3=>iha hp hpl D0 h3) h2)
     |false =>
      simp only[Bool.false_eq_true,if_false] at h2
      exact lift b q (by simp) (close_ok (fun h3=>ihb hq hpl D0 h3) h2)
    ·cases h2
   ·cases hd
  ·cases hd
 |choose m d e T a b iha ihb =>
  intro sy ec osy hd cur fr' fr1 st st1 x hpl D he
  unfold dec at hd
  split at hd
  ·rename_i hcond
   simp only[Bool.and_eq_true,decide_eq_true_eq] at hcond
   obtain⟨⟨hdn,hen⟩,⟨hds,hes⟩,hmk⟩:=hcond
   split at hd
   ·rename_i p q hp hq
    split at hd
    ·rename_i hpo
     cases hd
     obtain⟨h1,h2⟩:=preC_ok he
     obtain⟨fr,hc,I⟩:=D.2 h1
     unfold evS at h2
     obtain⟨f,g,s,ha,hb,e1,e2⟩:=bothE_some h2
     cases e1
     have hlen:=I.len
     have hdl:slotOf d h.sl=none:=by simpa using hds
     have hel:slotOf e h.sl=none:=by simpa using hes
     have sub : ∀ t x,(t,x)∈dropT d (dropT e sy.m)->(t,x)∈sy.m/\t≠e/\t≠d:=fun t x hm=>by
      obtain⟨h1,h2⟩:=mem_dropT.1 hm
      obtain⟨h3,h4⟩:=mem_dropT.1 h1
      exact⟨h3,h4,h2⟩
     have hpl':Plain h (dropT d (dropT e sy.m)):=fun t x hm=>hpl t x (sub t x hm).1
     have Ib : ∀ bb,Inv h cl' (dropT d (dropT e sy.m)) (frPick d e bb fr st) fr':=by
      intro bb
      refine⟨by simp[frPick,hlen],I.len',fun s' t hs hn => ?_,fun t x hm => ?_⟩
      ·have h3:t≠d:=fun e=>slotOf_none hdl (e ▸ hs)
       have h4:t≠e:=fun e'=>slotOf_none hel (e' ▸ hs)
       have h5:=I.s s' t hs fun x hx=>slotOf_none (hpl t x hx) hs
       rw[h5]
       unfold frPick
       rw[getD_set_ne (fun e'=>h4 e'.symm),getD_set_ne (fun e'=>h3 e'.symm)]
      ·obtain⟨h3,h4,h5⟩:=sub t x hm
       rw[I.m t x h3]
       unfold frPick
       rw[getD_set_ne (fun e'=>h4 e'.symm),getD_set_ne (fun e'=>h5 e'.symm)]
     have run : ∀ (bb:Bool) (c:IC) (r:EC × Option Sy) (ff:Fr),(∀ {x fr1 st1},evS cl' n r.1 fr' (St.pick T st)=some (x,fr1,st1)->Out h cl' cl rs c (some (frPick d e bb fr st,St.pick T st)) r.2 x fr1 st1) ->
       evS cl' n (close r).1 fr' (St.pick T st)=some (.normal,ff,st1) -> ∃ fr2,evW cl c (frPick d e bb fr st) (St.pick T st)=some (.normal,fr2,st1)/\Inv h cl' [] fr2 ff:=by
      intro bb c r ff ih hr
      obtain⟨sy',k1,k2,k3⟩:=close_ok ih hr
      obtain⟨fr2,a1,a2⟩:=k3.2 (by rw[close_pend k1]; intro p hp; cases hp)
      refine⟨fr2,?_,a2.base k2⟩
      simp only[Option.bind_some] at a1
      cases hq:evW cl c (frPick d e bb fr st) (St.pick T st) with
      |none=>rw[hq] at a1; cases a1
      |some z =>
       rw[hq] at a1
       obtain⟨y,fr4,st4⟩:=z
       cases y <;> first|(cases a1; rfl)|cases a1
     have D0 : ∀ bb,Del h cl' (some (frPick d e bb fr st,St.pick T st)) ⟨dropT d (dropT e sy.m),[]⟩ fr' (St.pick T st):=fun bb=>⟨D.1,fun _=>⟨_,rfl,Ib bb⟩⟩
     obtain⟨fa,wa,Ia⟩:=run true a p f (fun h3=>iha hp hpl' (D0 true) h3) ha
     obtain⟨fb,wb,Ibb⟩:=run false b q g (fun h3=>ihb hq hpl' (D0 false) h3) hb
     have hmm:mask m fa=mask m fb:=by
      apply List.ext_getElem
      ·rw[mask_len,mask_len,Ia.len,Ibb.len]
      ·intro i hi1 hi2
       have h3:=mask_getD m fa i
       have h4:=mask_getD m fb i
       rw[List.getD_eq_getElem?_getD,List.getElem?_eq_getElem hi1] at h3
       rw[List.getD_eq_getElem?_getD,List.getElem?_eq_getElem hi2] at h4
       simp only[Option.getD_some] at h3 h4
       rw[h3,h4]
       cases hmi:m.getD i false with
       |false=>simp
       |true =>
        simp only[if_true]
        have hil:i<m.length:=by
         rcases Nat.lt_or_ge i m.length with h5|h5
         ·exact h5
         ·rw[List.getD_eq_getElem?_getD,List.getElem?_eq_none h5] at hmi; cases hmi
        have hmi':m[i]=true:=by
         rw[List.getD_eq_getElem?_getD,List.getElem?_eq_getElem hil] at hmi
         exact hmi
        have h5:=List.all_eq_true.1 hmk (m[i],i) (by
         rw[List.mem_iff_getElem?]
         exact⟨i,by rw[List.getElem?_zipIdx,List.getElem?_eq_getElem hil]; simp⟩)
        simp only[hmi',Bool.not_true,Bool.false_or] at h5
        obtain⟨sl,hsl⟩:=Option.isSome_iff_exists.1 h5
        have h6:=slotOf_some hsl
        have a1:=Ia.s sl i h6 (fun e he=>(by cases he))
        have a2:=Ibb.s sl i h6 (fun e he=>(by cases he))
        rw[<- a1,<- a2]
        have h7:(h.sl.map fun t=>m.getD t false).getD sl false=true:=by
         rw[List.getD_eq_getElem?_getD,List.getElem?_map,h6]
         simp only[Option.map_some,Option.getD_some]
         rw[hmi]
        have h8:=mask_getD (h.sl.map fun t=>m.getD t false) f sl
        have h9:=mask_getD (h.sl.map fun t=>m.getD t false) g sl
        rw[h7] at h8 h9
        simp only[if_true] at h8 h9
        rw[<- h8,<- h9,e2]
     refine⟨_,rfl,fun t x hm=>(by cases hm),(by rw[mask_len]; exact Ia.len'),fun _=>⟨mask m fa,?_,Ia.masked m⟩⟩
     rw[hc]
     simp only[Option.bind_some]
     unfold evW
     rw[if_pos ⟨by rw[hlen]; exact hdn,by rw[hlen]; exact hen⟩,wa,wb,both_eq hmm]
     rfl
    ·cases hd
   ·cases hd
  ·cases hd
 |block id a ih =>
  intro sy ec osy hd cur fr' fr1 st st1 x hpl D he
  unfold dec at hd
  split at hd
  ·rename_i p hp
   split at hd
   ·cases hd
    unfold evS at he
    cases h1:evS cl' n (close p).1 fr' st with
    |none=>rw[h1] at he; cases he
    |some q =>
     obtain⟨y,fr2,st2⟩:=q
     have ho:=close_ok (fun h3=>ih hp hpl D h3) h1
     rw[h1] at he
     cases y with
     |normal =>
      cases he
      obtain⟨sy',k1,k2,k3⟩:=ho
      refine⟨_,rfl,fun t e hm=>(by cases hm),k3.1,fun _ => ?_⟩
      obtain⟨fr3,a1,a2⟩:=k3.2 (by rw[close_pend k1]; intro p hp; cases hp)
      refine⟨fr3,?_,a2.base k2⟩
      obtain⟨q,b1,b2⟩:=Option.bind_eq_some_iff.1 a1
      rw[b1]
      simp only[Option.bind_some,evW]
      cases hq:evW cl a q.1 q.2 with
      |none=>rw[hq] at b2; cases b2
      |some z =>
       rw[hq] at b2
       obtain⟨y,fr4,st4⟩:=z
       cases y <;> first|(cases b2; rfl)|cases b2
     |ret v =>
      cases he
      obtain⟨fr3,st3,fr4,k1,k2,k3⟩:=ho
      exact⟨fr3,st3,fr4,k1,by unfold evW; rw[k2],k3⟩
     |exit i =>
      obtain⟨fr3,st3,fr4,k1,k2,k3⟩:=ho
      simp only at he
      split at he
      ·rename_i hi
       cases he
       refine⟨_,rfl,fun t e hm=>(by cases hm),k3.len',fun _=>⟨fr4,?_,k3⟩⟩
       rw[k1]
       simp only[Option.bind_some,evW,k2,hi,if_true]
       rfl
      ·rename_i hi
       cases he
       exact⟨fr3,st3,fr4,k1,by unfold evW; rw[k2]; simp only[hi,if_false],k3⟩
   ·cases hd
  ·cases hd
 |loop m a ih =>
  intro sy ec osy hd cur fr' fr1 st st1 x hpl D he
  unfold dec at hd
  split at hd
  ·split at hd
   ·rename_i p hp
    split at hd
    ·cases hd
     obtain⟨h1,h2⟩:=preC_ok he
     obtain⟨fr,hc,I⟩:=D.2 h1
     unfold evS at h2
     have key : ∀ (k:Nat) (fr fr':Fr) (st:St),Inv h cl' [] fr fr'->iterE (fun fr st=>roundE (h.sl.map fun t=>m.getD t false) (evS cl' n (close p).1 fr st)) k fr' st=some (x,fr1,st1) ->
       (match x with
        |.normal=>False
        |.exit id => ∃ fr2,loopW (fun fr st=>(evW cl a fr st).map fun r=>(r.1,if r.1 = .normal then mask m r.2.1 else r.2.1,r.2.2)) fr st=some (.exit id,fr2,st1)/\Inv h cl' [] fr2 fr1
        |.ret v => ∃ fr2,loopW (fun fr st=>(evW cl a fr st).map fun r=>(r.1,if r.1 = .normal then mask m r.2.1 else r.2.1,r.2.2)) fr st=some (.ret,fr2,st1)/\resultsOf rs fr2 st1=some v):=by
      intro k
      induction k with
      |zero=>intro fr fr' st I hk; cases hk
      |succ k ihk =>
       intro fr fr' st I hk
       unfold iterE at hk
       cases h3:evS cl' n (close p).1 fr' st with
       |none=>rw[h3] at hk; cases hk
       |some q =>
        obtain⟨y,fr2,st2⟩:=q
        rw[h3] at hk
        have ho:=close_ok (c:=a) (rs:=rs) (cur:=some (fr,st)) (cl:=cl) (fun h4=>ih hp (fun t e hm=>(by cases hm)) (⟨I.len',fun _=>⟨fr,rfl,I⟩⟩:Del h cl' (some (fr,st)) ⟨[],[]⟩ fr' st) h4) h3
        cases y with
        |normal =>
         simp only[roundE] at hk
         obtain⟨sy',k1,k2,k3⟩:=ho
         obtain⟨fr3,a1,a2⟩:=k3.2 (by rw[close_pend k1]; intro p hp; cases hp)
         simp only[Option.bind_some] at a1
         have:=ihk (mask m fr3) _ st2 ((a2.base k2).masked m) hk
         have hw:evW cl a fr st=some (.normal,fr3,st2):=by
          cases hq:evW cl a fr st with
          |none=>rw[hq] at a1; cases a1
          |some z =>
           rw[hq] at a1
           obtain⟨y,fr4,st4⟩:=z
           cases y <;> first|(cases a1; rfl)|cases a1
         cases x with
         |normal=>exact this
         |exit id =>
          obtain⟨fr4,b1,b2⟩:=this
          exact⟨fr4,by rw[loopW_eq,hw]; simp only[Option.map_some,if_true]; exact b1,b2⟩
         |ret v =>
          obtain⟨fr4,b1,b2⟩:=this
          exact⟨fr4,by rw[loopW_eq,hw]; simp only[Option.map_some,if_true]; exact b1,b2⟩
        |exit id =>
         simp only[roundE] at hk
         cases hk
         obtain⟨fr3,st3,fr4,k1,k2,k3⟩:=ho
         cases k1
         exact⟨fr4,by rw[loopW_eq,k2]; simp,k3⟩
        |ret v =>
         simp only[roundE] at hk
         cases hk
         obtain⟨fr3,st3,fr4,k1,k2,k3⟩:=ho
         cases k1
         exact⟨fr4,by rw[loopW_eq,k2]; simp,k3⟩
     have:=key n (mask m fr) _ st ((I.base hpl).masked m) h2
     cases x with
     |normal=>exact this.elim
     |exit id =>
      obtain⟨fr2,b1,b2⟩:=this
      exact⟨fr,st,fr2,hc,b1,b2⟩
     |ret v =>
      obtain⟨fr2,b1,b2⟩:=this
      exact⟨fr,st,fr2,hc,b1,b2⟩
    ·cases hd
   ·cases hd
  ·cases hd
 |exit id =>
  intro sy ec osy hd cur fr' fr1 st st1 x hpl D he
  unfold dec at hd
  split at hd
  ·cases hd
   obtain⟨h1,h2⟩:=preC_ok he
   obtain⟨fr,hc,I⟩:=D.2 h1
   cases h2
   exact⟨fr,st,fr,hc,rfl,I.base hpl⟩
  ·cases hd
 |ret =>
  intro sy ec osy hd cur fr' fr1 st st1 x hpl D he
  unfold dec at hd
  obtain⟨q,hq,e⟩:=Option.map_eq_some_iff.1 hd
  cases e
  obtain⟨v,fr,rfl,rfl,hc,hr⟩:=dRet_ok hq D he
  exact⟨fr,st1,fr,hc,rfl,hr⟩
 |skip =>
  intro sy ec osy hd cur fr' fr1 st st1 x hpl D he
  cases hd
  cases he
  refine⟨_,rfl,hpl,?_⟩
  have:(cur.bind fun p=>normOf (evW cl .skip p.1 p.2))=cur:=by cases cur <;> rfl
  rw[this]
  exact D
theorem nodupB_ok : ∀ {l:List Nat},nodupB l=true -> ∀ (s s' t:Nat),l[s]? = some t->l[s']? = some t->s=s'
 |[],_,s,s',t,h,_=>by simp at h
 |x::l,hn,s,s',t,h1,h2=>by
  simp only[nodupB,Bool.and_eq_true,Bool.not_eq_true'] at hn
  have hx:x ∉ l:=by simpa using hn.1
  cases s with
  |zero =>
   cases s' with
   |zero=>rfl
   |succ s' =>
    simp at h1 h2
    subst h1
    exact absurd (List.mem_of_getElem? h2) hx
  |succ s =>
   cases s' with
   |zero =>
    simp at h1 h2
    subst h2
    exact absurd (List.mem_of_getElem? h1) hx
   |succ s' =>
    simp at h1 h2
    rw[nodupB_ok hn.2 s s' t h1 h2]
theorem decF_ok (hle:LeC cl' cl) {np:Nat} {c:IFunc} {e:EFunc} (hd:decF h np c=some e) {args:List PV} (ha:args.length=e.np) {n:Nat} {st st1:St} {fr1:Fr} {v:PV} (he:evS cl' n e.body (startE e.nslots args) st=some (.ret v,fr1,st1)) :
  ∃ fr2,(evW cl c.body (args++List.replicate (c.ntmps-args.length) .undef) st=some (.ret,fr2,st1)\/evW cl c.body (args++List.replicate (c.ntmps-args.length) .undef) st=some (.normal,fr2,st1))/\resultsOf c.results fr2 st1=some v:=by
 unfold decF at hd
 split at hd
 ·rename_i hc
  simp only[Bool.and_eq_true,beq_iff_eq] at hc
  obtain⟨hn,hnd,htk,hlt⟩:=hc
  have hh:HOk h:=⟨nodupB_ok hnd,fun s t hs=>by
   have:=List.all_eq_true.1 hlt t (List.mem_of_getElem? hs)
   rw[hn]
   simpa using this⟩
  have start : ∀ k,k=h.sl.length->args.length=np->Inv h cl' [] (args++List.replicate (c.ntmps-args.length) .undef) (startE k args):=by
   intro k hk hnp
   have hnpl:np<=h.sl.length:=by
    have:=congrArg List.length htk
    simp at this
    omega
   have hle2:np<=c.ntmps:=by
    rcases Nat.eq_zero_or_pos np with h0|h0
    ·omega
    ·have:h.sl[np-1]? = some (np-1):=by
      have h1:(h.sl.take np)[np-1]? = (List.range np)[np-1]? := by rw[htk]
      rw[List.getElem?_take,if_pos (by omega),List.getElem?_range (by omega)] at h1
      exact h1
     have:=hh.lt _ _ this
     omega
   have getA : ∀ (m i:Nat),(args++List.replicate m PV.undef).getD i PV.undef=args.getD i PV.undef:=by
    intro m i
    rw[List.getD_eq_getElem?_getD,List.getD_eq_getElem?_getD]
    by_cases hi:i<args.length
    ·rw[List.getElem?_append_left hi]
    ·rw[List.getElem?_append_right (by omega),List.getElem?_eq_none (l:=args) (by omega),List.getElem?_replicate]
     split <;> rfl
   refine⟨by simp; omega,by simp[startE]; omega,fun s t hs _ => ?_,fun t e hm=>by cases hm⟩
   unfold startE
   rw[getA,getA]
   by_cases hs':s<np
   ·have h1:(h.sl.take np)[s]? = (List.range np)[s]? := by rw[htk]
    rw[List.getElem?_take,if_pos hs',List.getElem?_range hs',hs] at h1
    cases h1
    rfl
   ·have:np<=t:=by
     rcases Nat.lt_or_ge t np with h2|h2
     ·have h1:(h.sl.take np)[t]? = (List.range np)[t]? := by rw[htk]
      rw[List.getElem?_take,if_pos h2,List.getElem?_range h2] at h1
      have:=hh.nd s t t hs h1
      omega
     ·exact h2
    rw[List.getD_eq_getElem?_getD,List.getD_eq_getElem?_getD,List.getElem?_eq_none (by omega),List.getElem?_eq_none (by omega)]
  split at hd
  ·rename_i eb hb
   cases hd
   have:=dec_ok hh hle n c.body hb (cur:=some (_,st)) (fun t e hm=>(by cases hm)) ⟨(start _ rfl ha).len',fun _=>⟨_,rfl,start _ rfl ha⟩⟩ he
   obtain⟨fr,st2,fr2,k1,k2,k3⟩:=this
   cases k1
   exact⟨fr2,.inl k2,k3⟩
  ·rename_i eb sy hb
   split at hd
   ·rename_i r hr
    cases hd
    have step:=fun {x fr3 st3}=>dec_ok (x:=x) (fr1:=fr3) (st1:=st3) hh hle n c.body hb (cur:=some (_,st)) (fun t e hm=>(by cases hm)) ⟨(start _ rfl ha).len',fun _=>⟨_,rfl,start _ rfl ha⟩⟩
    rw[mkSeq_ev] at he
    unfold evS at he
    split at he
    ·rename_i fr3 st3 h3
     obtain⟨sy',k1,k2,k3⟩:=step h3
     cases k1
     obtain⟨v',fr4,e1,rfl,k4,k5⟩:=dRet_ok hr k3 he
     cases e1
     refine⟨fr4,.inr ?_,k5⟩
     simp only[Option.bind_some] at k4
     cases hq:evW cl c.body (args++List.replicate (c.ntmps-args.length) .undef) st with
     |none=>rw[hq] at k4; cases k4
     |some z =>
      rw[hq] at k4
      obtain⟨y,fr5,st5⟩:=z
      cases y <;> first|(cases k4; rfl)|cases k4
    ·cases he
    ·rename_i h3
     cases he
     obtain⟨fr,st2,fr2,k1,k2,k3⟩:=step h3
     cases k1
     exact⟨fr2,.inl k2,k3⟩
    ·cases he
   ·cases hd
  ·cases hd
 ·cases hd
end
def EOk (fns:FuncId->Option IFunc) (efns:FuncId->Option EFunc):Prop :=
 ∀ f,(∃ e c h np,efns f=some e/\fns f=some c/\decF h np c=some e)\/(efns f=none/\fns f=none)
theorem evFE_le {fns:FuncId->Option IFunc} {efns:FuncId->Option EFunc} (hE:EOk fns efns) (given:FuncId->List PV->Option PV) : ∀ k,LeC (evFE efns given k) (call fns given)
 |0=>fun f as st r h=>by cases h
 |k+1=>fun f as st r h=>by
  unfold evFE at h
  rcases hE f with ⟨e,c,hd,np,h1,h2,h3⟩|⟨h1,h2⟩
  ·rw[h1] at h
   simp only at h
   split at h
   ·rename_i ha
    split at h
    ·rename_i v fr1 st1 h4
     cases h
     rw[call_fn fns given h2]
     unfold callBody
     obtain⟨fr2,h5,h6⟩:=decF_ok (evFE_le hE given k) h3 ha h4
     rcases h5 with h5|h5
     ·rw[h5]; simp only[h6,Option.map_some]
     ·rw[h5]; simp only[h6,Option.map_some]
    ·cases h
   ·cases h
  ·rw[h1] at h
   simp only at h
   rw[call_given fns given h2]
   exact h
end Go.Proofs.YthjnlpfibakacaaGreatDoorPe
