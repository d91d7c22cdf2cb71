/- A part of the proof of this folder's statement; it has no condition of its own. -/
import Derived.Test.YthjnlpfibakacaaGreatDoorPeSound
set_option linter.unusedVariables false
set_option linter.unusedSimpArgs false
namespace Go.Proofs.YthjnlpfibakacaaGreatDoorPe
open Go Go.RowKit Go.Proofs.YthjnlpfibakacaaGreatDoorW.PrintLast
theorem Sim.drew {w1 w:World} {G:Gh} {st:St} (h:Sim w1 w G st):Sim w1 w.drew G st/\Nxt w1.heap.size G w G w.drew:=h.grow (Below.refl _ _).drew
theorem Clean.start {G:Gh} {w:World} {fr:Fr} {a:Act} (h:FrRel G w fr a):Clean G w [] fr a:=.of h.size h.defers fun i hi _=>h.rep i hi
theorem draw_okP {P:Program} {w0 w1 w:World} {cl:CallF} (hcl:CallOk P w0 cl) (hb:Below w0.heap.size w0 w1) (hm:P.follows .mixedOrders=true) {sh:FuncId->Nat} {ops:Array Oper} {id:Nat} {r:STr} {ss:Tree} {ds:List Nat} {pa:List (Nat × Nat)} {fin:Option Pn} {G:Gh} {st:St} {fr:Fr} {a:Act}
  {Q:Exit->Act->World->Prop} (hQp : ∀ c a w,¬ Q (.panic c) a w) (hlen:r.depth=ops.size) (hev:r.even=true) (hc:cSched P sh ops ds pa fin r false (Array.replicate ops.size false) [] false=some ss) (h:Sim w1 w G st) (hf:FrRel G w fr a) (H:List Nat) {Φ : Sch->Prop} (he:evSchP cl st Φ ss ⟨fr,st,[],[]⟩)
  (hΦ : ∀ sf,Φ sf->(∀ b∈sf.held,b∈H)/\(∀ b∈sf.wrote,b ∉ H) /\ ∀ G' a' w',PEnd w1.heap.size G w w1 fin sf G' a' w'->Q .normal a' w'):(Code.region id ops true).wp P Q a w:=by
 obtain⟨s,N⟩:=h.drew
 have hf':=hf.mono N
 refine start_ (n:=ops.size) (ds:=ds) (S:=Held st G w.drew H) (Array.replicate ops.size false) hm rfl rfl ⟨fun _ _ _=>rfl,fun _ _ _ _ _=>rfl⟩ fun hS => ?_
 rw[<- hlen]
 rw[<- hlen] at hc
 refine sch_ok (H:=H) hcl hb s hQp (Φ := Φ) (fun sf hsf=>⟨(hΦ sf hsf).1,(hΦ sf hsf).2.1,fun G' a' w' ⟨wi,N',s',f',p'⟩=>(hΦ sf hsf).2.2 G' a' w' ⟨wi,N.trans N',s',f',p'⟩⟩) r false ss _ [] false w.drew G ⟨fr,st,[],[]⟩ a hev hc (Nxt.refl _ _ _) s hf' (.start hf') (fun _=>hS) (fun _ b _ h=>h) he
theorem draw_ok {P:Program} {w0 w1 w:World} {cl:CallF} (hcl:CallOk P w0 cl) (hb:Below w0.heap.size w0 w1) (hm:P.follows .mixedOrders=true) {sh:FuncId->Nat} {ops:Array Oper} {id:Nat} {r:STr} {ss:Tree} {ds:List Nat} {pa:List (Nat × Nat)} {fin:Option Pn} {G:Gh} {st st':St} {fr fr':Fr} {a:Act}
  {Q:Exit->Act->World->Prop} (hQp : ∀ c a w,¬ Q (.panic c) a w) (hlen:r.depth=ops.size) (hev:r.even=true) (hc:cSched P sh ops ds pa fin r false (Array.replicate ops.size false) [] false=some ss) (h:Sim w1 w G st) (hf:FrRel G w fr a) (he:evDraw cl ss fr st=some (fr',st'))
  (hQ : ∀ a' w' G' wi,Nxt w1.heap.size G w G' wi->Sim w1 wi G' st'->FrRel G' wi fr' a'->PdOk fin wi w' G' fr' a'->Q .normal a' w'):(Code.region id ops true).wp P Q a w:=by
 unfold evDraw at he
 split at he
 ·rename_i sf hs
  split at he
  ·rename_i hd
   cases he
   have hd' : ∀ b∈sf.wrote,b ∉ sf.held:=fun b hb'=>by
    have:=List.all_eq_true.1 hd b hb'
    simpa using this
   refine draw_okP hcl hb hm hQp hlen hev hc h hf sf.held (Φ := fun s'=>s'.fr=sf.fr/\s'.st=sf.st/\(∀ b∈s'.held,b∈sf.held) /\ ∀ b∈s'.wrote,b∈sf.wrote) (evSchP_of _ _ _ hs fun s' e1 e2 e3 e4=>⟨e1,e2,e3,e4⟩) ?_
   rintro s' ⟨e1,e2,e3,e4⟩
   refine⟨e3,fun b hb'=>hd' b (e4 b hb'),fun G' a' w' ⟨wi,N',s2,f',p'⟩=>hQ a' w' G' wi N' (e2 ▸ s2) (e1 ▸ f') (e1 ▸ p')⟩
  ·cases he
 ·cases he
theorem pops_ok {P:Program} {w0 w1:World} {cl:CallF} (hcl:CallOk P w0 cl) (hb:Below w0.heap.size w0 w1) {sh:FuncId->Nat} {ops:Array Oper} {pa:List (Nat × Nat)} {Q:Exit->Act->World->Prop} :
  ∀ (l:List (Oper × Nat)) (ss:List SOp) (pd:Option Pn) (w wi:World) (G:Gh) (st st':St) (fr fr':Fr) (a:Act),cPOps P sh ops pa l pd=some ss->Sim w1 wi G st->FrRel G wi fr a->PdOk pd wi w G fr a->evOps cl ss fr st=some (fr',st') ->
   (∀ a' w' G',Nxt w1.heap.size G wi G' w'->Sim w1 w' G' st'->FrRel G' w' fr' a'->Q .normal a' w')->wpList P ops Q (l.map (·.1)) a w
 |[],ss,none,w,wi,G,st,st',fr,fr',a,hc,h,hf,hpd,he,hQ=>by
  cases hc
  cases he
  have hww:w=wi:=hpd
  subst hww
  exact wpList_nil (hQ _ _ G (Nxt.refl _ _ _) h hf)
 |[],ss,some q,w,wi,G,st,st',fr,fr',a,hc,h,hf,hpd,he,hQ=>by cases hc
 |(o,i)::l,ss,some q,w,wi,G,st,st',fr,fr',a,hc,h,hf,hpd,he,hQ=>by
  unfold cPOps at hc
  split at hc
  ·rename_i so pd' hso
   split at hc
   ·rename_i ss' hss
    cases hc
    obtain⟨k1,k2,k3,k4,_⟩:=cPend_kinds hso
    have hwant:Region.wanted o (yielded ops a.tmps)=true:=wanted_ok hf k1 rfl
    obtain⟨hh,hw,H⟩:=hpd
    unfold evOps evSOp at he
    rw[k2] at he
    simp only[wantedB] at he
    cases hev:evOp cl so.op fr st with
    |none=>rw[hev] at he; cases he
    |some zz =>
     obtain⟨z,st1⟩:=zz
     rw[hev] at he
     simp only at he
     rw[k3] at he
     refine wpList_step fun K hK => ?_
     rw[if_pos hwant]
     by_cases hp:isPureP so.op=true
     ·obtain⟨rfl,v,hv,hf',hpd'⟩:=cPend_pure (w1:=w1) hf hw H hso hp hev
      exact wp_value (hv w) (hK _ _ (pops_ok hcl hb l ss' pd' w wi G _ st' _ fr' _ hss h hf' hpd' he hQ))
     ·obtain⟨hd,w',wi',hrun,N',hs',hpd'⟩:=cPend_mem (P:=P) h hf hw H hso (by simpa using hp) hev
      rw[hd] at he
      unfold Oper.wp
      rw[hrun,Oper.upon_skip,hd]
      exact hK _ _ (pops_ok hcl hb l ss' pd' w' wi' G st1 st' _ fr' a hss hs' (hf.mono N') hpd' he fun a'' w'' G'' N''=>hQ a'' w'' G'' (N'.trans N''))
   ·cases hc
  ·cases hc
 |(o,i)::l,ss,none,w,wi,G,st,st',fr,fr',a,hc,h,hf,hpd,he,hQ=>by
  have hww:w=wi:=hpd
  subst hww
  unfold cPOps at hc
  split at hc
  ·rename_i v hv
   split at hc
   ·rename_i so q hso
    split at hc
    ·rename_i ss' hss
     cases hc
     have hsg:so.guard=none:=by
      unfold cPap at hso
      (repeat' split at hso) <;> first|(cases hso; done)|(cases hso; rfl)
     unfold evOps evSOp at he
     rw[hsg] at he
     simp only[wantedB] at he
     cases hev:evOp cl so.op fr st with
     |none=>rw[hev] at he; cases he
     |some zz =>
      obtain⟨z,st1⟩:=zz
      rw[hev] at he
      simp only at he
      obtain⟨k1,k2,k3,k4,r0,w',G',wi,hrun,N',s',hf',hpd⟩:=cPap_ok (P:=P) h hf hso hev
      rw[k3] at he
      have hwant:Region.wanted o (yielded ops a.tmps)=true:=wanted_ok hf k1 rfl
      refine wpList_step fun K hK => ?_
      rw[if_pos hwant]
      exact wp_value hrun (hK _ _ (pops_ok hcl hb l ss' (some q) w' wi G' st1 st' _ fr' _ hss s' hf' hpd he fun a'' w'' G'' N''=>hQ a'' w'' G'' (N'.trans N'')))
    ·cases hc
   ·cases hc
  ·split at hc
   ·rename_i so hso
    split at hc
    ·rename_i ss' hss
     cases hc
     obtain⟨c1,c2,c3,_⟩:=cSOp_some hso
     unfold evOps at he
     cases h3:evSOp cl so fr st with
     |none=>rw[h3] at he; cases he
     |some q =>
      obtain⟨fr1,st1⟩:=q
      rw[h3] at he
      simp only at he
      unfold evSOp at h3
      refine wpList_step fun K hK => ?_
      split at h3
      ·rename_i hw
       rw[if_pos (wanted_ok hf c2 hw)]
       cases h4:evOp cl so.op fr st with
       |none=>rw[h4] at h3; cases h3
       |some q =>
        obtain⟨v,st2⟩:=q
        rw[h4] at h3
        cases h3
        replace c1:=c1.resolve_right fun e=>by rw[e] at h4; cases h4
        refine op_ok hcl hb h hf c1 h4 fun v' w' G' N s' hf' _=>hK _ _ ?_
        rw[c3] at he
        exact pops_ok hcl hb l ss' none w' w' G' st1 st' _ fr' _ hss s' hf' rfl he fun a'' w'' G'' N' s'' hf''=>hQ a'' w'' G'' (N.trans N') s'' hf''
      ·rename_i hw
       rw[if_neg (by rw[wanted_ok hf c2 hw]; simp)]
       cases h3
       refine hK _ _ ?_
       rw[c3] at he
       exact pops_ok hcl hb l ss' none w w G st st' _ fr' _ hss h (hf.put o.dst undef_rep) rfl he hQ
      ·cases h3
    ·cases hc
   ·cases hc
theorem boolC_some {x:Opd} {b:Bool} (h:boolC x=some b):x = .c (.bool b):=by
 unfold boolC at h
 split at h
 ·cases h; rfl
 ·cases h
theorem stB_some {s:SOp} {d:Nat} {b:Bool} (h:stB s=some (d,b)):s=⟨2,none,none,.store 1 (.t d) (.c (.bool b))⟩:=by
 unfold stB at h
 split at h
 ·split at h
  ·rename_i hb
   cases h
   rw[boolC_some hb]
  ·cases h
 ·cases h
theorem ldB_some {s:SOp} {d e:Nat} (h:ldB s=some (d,e)):s=⟨2,some e,none,.load none (.t d)⟩:=by
 unfold ldB at h
 split at h
 ·cases h; rfl
 ·cases h
theorem wayB_some {t:Tree} {d e:Nat} {b c:Bool} (h:wayB t=some (d,b,c,e)) :
  t = .cons ⟨2,none,none,.store 1 (.t d) (.c (.bool b))⟩ (.cons ⟨2,none,none,.store 1 (.t d) (.c (.bool c))⟩ (.cons ⟨2,some e,none,.load none (.t d)⟩ .nil)):=by
 unfold wayB at h
 split at h
 ·split at h
  ·rename_i h1 h2 h3
   split at h
   ·rename_i hh
    obtain⟨rfl,rfl⟩:=hh
    cases h
    rw[stB_some h1,stB_some h2,ldB_some h3]
   ·cases h
  ·cases h
 ·cases h
theorem formCh_some {t:Tree} {d e:Nat} {T:TypeId} (h:formCh t=some (d,e,T)):d≠e /\ ∃ z u v b b' c,t = .cons ⟨2,some d,none,.zbox [z] T⟩ (.alt u v)/\wayB u=some (d,b,c,e)/\wayB v=some (d,b',!c,e):=by
 unfold formCh at h
 split at h
 ·split at h
  ·rename_i h1 h2
   split at h
   ·rename_i hh
    obtain⟨rfl,rfl,rfl,hne⟩:=hh
    cases h
    exact⟨hne,_,_,_,_,_,true,rfl,h1,h2⟩
   ·cases h
  ·rename_i h1 h2
   split at h
   ·rename_i hh
    obtain⟨rfl,rfl,rfl,hne⟩:=hh
    cases h
    exact⟨hne,_,_,_,_,_,false,rfl,h1,h2⟩
   ·cases h
  ·cases h
 ·cases h
theorem way_run {cl:CallF} {st0:St} {Φ : Sch->Prop} {u:Tree} {d e:Nat} {b c:Bool} (h:wayB u=some (d,b,c,e)) {fr:Fr} {bs:List (List PV)} {z:PV} {rows:List (Nat × Nat)} {bt rt:List TypeId} (hd:fr.getD d .undef = .ptr bs.length 0)
  (hΦ : ∀ s:Sch,s.fr=fr.set e (.bool c)->s.st=⟨bs++[[.bool c]],rows,bt,rt⟩->s.held=[] -> Φ s) (wr:List Nat):evSchP cl st0 Φ u ⟨fr,⟨bs++[[z]],rows,bt,rt⟩,[],wr⟩:=by
 rw[wayB_some h]
 have hg : ∀ q:PV,(bs++[[q]])[bs.length]? = some [q]:=fun q=>by simp
 have hset : ∀ q r:PV,(bs++[[q]]).set bs.length [r]=bs++[[r]]:=fun q r=>by simp
 simp only[evSchP,wantedB,evOp,Opd.ev,hd,hg,show ¬ (2=1) by omega,if_false,PV.cells,List.length_singleton,List.all_cons,List.all_nil,PV.isCell,Bool.and_true,Nat.zero_add,Nat.le_refl,and_self,if_true,putF,List.take_zero,List.drop_one,List.tail_cons,List.nil_append,List.append_nil,hset,
  List.drop_zero,loadC,List.head?_cons,Option.map_some]
 exact hΦ _ rfl rfl rfl
theorem Sim.forget {w1 w:World} {G:Gh} {bs:List (List PV)} {z:PV} {rows:List (Nat × Nat)} {bt rt:List TypeId} (h:Sim w1 w G ⟨bs++[[z]],rows,bt,rt⟩):Sim w1 w G ⟨bs++[[.undef]],rows,bt,rt⟩:=by
 have hal : ∀ c,Alive ⟨bs++[[.undef]],rows,bt,rt⟩ c->Alive ⟨bs++[[z]],rows,bt,rt⟩ c:=by
  rintro c ⟨x,l,hc⟩
  simp only at hc
  rw[List.getElem?_append] at hc
  by_cases hlt:c<bs.length
  ·rw[if_pos hlt] at hc
   exact⟨x,l,by simp only; rw[List.getElem?_append_left hlt]; exact hc⟩
  ·rw[if_neg hlt,List.getElem?_singleton] at hc
   split at hc
   ·rename_i h0
    have:c=bs.length:=by omega
    subst this
    exact⟨z,[],by simp⟩
   ·cases hc
 refine⟨h.below,fun c cs hcs => ?_,fun c k hc=>by have:=h.boxN c k hc; simpa using this,fun c d k hc hd ac ad=>h.boxI c d k hc hd (hal c ac) (hal d ad),h.row,h.rowN,h.rowL,h.rowI,h.apart,h.Fd,by have:=h.btN; simpa using this,h.rtN⟩
 simp only at hcs
 rw[List.getElem?_append] at hcs
 by_cases hlt:c<bs.length
 ·rw[if_pos hlt] at hcs
  exact⟨(h.box c cs (by simp only; rw[List.getElem?_append_left hlt]; exact hcs)).ex⟩
 ·rw[if_neg hlt,List.getElem?_singleton] at hcs
  split at hcs
  ·rename_i h0
   have:c=bs.length:=by omega
   subst this
   cases hcs
   obtain⟨k,us,U,f1,f2,f3,f4,f5,f6,f7⟩:=(h.box bs.length [z] (by simp)).ex
   exact⟨k,us,U,f1,f2,f3,f4,f5,fun j hj=>by
    have:j=0:=by simpa using hj
    subst this
    exact .d (.undef _),f7⟩
  ·cases hcs
theorem choose_ok {P:Program} {w0 w1 w:World} {cl:CallF} (hcl:CallOk P w0 cl) (hb:Below w0.heap.size w0 w1) (hm:P.follows .mixedOrders=true) {sh:FuncId->Nat} {ops:Array Oper} {id:Nat} {r:STr} {t:Tree} {ds:List Nat} {pa:List (Nat × Nat)} {G:Gh} {st:St} {fr:Fr} {a:Act} {d e:Nat} {T:TypeId}
  {Q:Exit->Act->World->Prop} (hQp : ∀ c a w,¬ Q (.panic c) a w) (hlen:r.depth=ops.size) (hev:r.even=true) (hc:cSched P sh ops ds pa none r false (Array.replicate ops.size false) [] false=some t) (hform:formCh t=some (d,e,T)) (h:Sim w1 w G st) (hf:FrRel G w fr a) (hd:d<fr.length) (he:e<fr.length)
  (hQ : ∀ bb a' w' G',Nxt w1.heap.size G w G' w'->Sim w1 w' G' (St.pick T st)->FrRel G' w' (frPick d e bb fr st) a'->Q .normal a' w'):(Code.region id ops true).wp P Q a w:=by
 obtain⟨hne,z,u,v,b,b',c,rfl,hu,hv⟩:=formCh_some hform
 obtain⟨bs,rows,bt,rt⟩:=st
 have hgd:(fr.set d (.ptr bs.length 0)).getD d .undef = .ptr bs.length 0:=by rw[List.getD_eq_getElem?_getD,List.getElem?_set_self hd]; rfl
 refine draw_okP hcl hb hm hQp hlen hev hc h hf [] (Φ := fun s=>s.held=[] /\ ∃ bb,s.fr=frPick d e bb fr ⟨bs,rows,bt,rt⟩/\s.st=⟨bs++[[.bool bb]],rows,bt++[T],rt⟩) ?_ ?_
 ·simp only[evSchP,wantedB,evOp,show ¬ (2=1) by omega,if_false,if_true,putF]
  exact⟨way_run hu hgd (fun s e1 e2 e3=>⟨e3,c,e1,e2⟩) _,way_run hv hgd (fun s e1 e2 e3=>⟨e3,!c,e1,e2⟩) _⟩
 ·rintro s ⟨e1,bb,e2,e3⟩
  refine⟨fun x hx=>by rw[e1] at hx; exact hx,fun _ _ h=>(by cases h),?_⟩
  rintro G' a' w' ⟨wi,N,s',f',p'⟩
  have hww:w'=wi:=p'
  subst hww
  rw[e3] at s'
  rw[e2] at f'
  exact hQ bb a' w' G' N s'.forget f'
theorem seqI_kinds (m:Option (List Bool)) (x y:IC):seqI m x y = .seq x y \/ ∃ m' t e a b d T,m=some m'/\x = .draw t/\y = .cond (.t e) a b/\formCh t=some (d,e,T)/\seqI m x y = .choose m' d e T a b:=by
 unfold seqI
 split
 ·exact .inl rfl
 ·split
  ·split
   ·rename_i hform
    split
    ·rename_i he
     subst he
     exact .inr ⟨_,_,_,_,_,_,_,rfl,rfl,rfl,hform,rfl⟩
    ·exact .inl rfl
   ·exact .inl rfl
  ·exact .inl rfl
theorem mask_length : ∀ (m:List Bool) (l:Fr),(mask m l).length=l.length
 |[],l=>by simp[mask]
 |true::m,[]=>by simp[mask]
 |false::m,[]=>by simp[mask]
 |true::m,v::l=>by simp[mask,mask_length m l]
 |false::m,v::l=>by simp[mask,mask_length m l]
theorem mask_get : ∀ (m:List Bool) (l:Fr) (i:Nat) (h:i<l.length),(mask m l)[i]'(by rw[mask_length]; exact h)=l[i]\/(mask m l)[i]'(by rw[mask_length]; exact h) = .undef
 |[],l,i,h=>.inr (by simp[mask])
 |true::m,[],i,h=>by cases h
 |false::m,[],i,h=>by cases h
 |true::m,v::l,0,h=>.inl (by simp[mask])
 |false::m,v::l,0,h=>.inr (by simp[mask])
 |true::m,v::l,i+1,h=>by simpa [mask] using mask_get m l i (by simpa using h)
 |false::m,v::l,i+1,h=>by simpa [mask] using mask_get m l i (by simpa using h)
theorem FrRel.mask {G:Gh} {w:World} {fr:Fr} {a:Act} (h:FrRel G w fr a) (m:List Bool):FrRel G w (mask m fr) a:=by
 refine⟨by rw[mask_length,h.size],h.defers,fun i hi => ?_⟩
 rw[mask_length] at hi
 rcases mask_get m fr i hi with e|e
 ·rw[e]; exact h.rep i hi
 ·rw[e]; exact .d (.undef _)
theorem least {J:Nat->Prop} : ∀ n k,k<=n->J k -> ∃ m,J m /\ ∀ k,J k->m<=k
 |0,k,hk,h=>⟨k,h,fun j _=>by omega⟩
 |n+1,k,hk,h=>by
  by_cases e : ∃ j,j<=n/\J j
  ·obtain⟨j,hj,h'⟩:=e
   exact least n j hj h'
  ·refine⟨k,h,fun j hj => ?_⟩
   rcases Nat.lt_or_ge n j with h'|h'
   ·omega
   ·exact absurd ⟨j,h',hj⟩ e
open Classical in
noncomputable def leastOf (J:Nat->Prop):Nat:=if h : ∃ m,J m /\ ∀ k,J k->m<=k then h.choose else 0
theorem leastOf_spec {J:Nat->Prop} {n:Nat} (h:J n):J (leastOf J) /\ ∀ k,J k->leastOf J<=k:=by
 have e:=least n n (Nat.le_refl n) h
 unfold leastOf
 rw[dif_pos e]
 exact e.choose_spec
theorem wp_rounds {P:Program} {Q:Exit->Act->World->Prop} {c:Code} (J:Nat->Act->World->Prop) (round : ∀ n a w,J n a w->c.wp P (Exit.then (fun a' w' => ∃ m,m<n/\J m a' w') Q) a w) {n:Nat} {a:Act} {w:World} (h:J n a w):(Code.loop c).wp P Q a w:=by
 refine wp_loop (fun a w => ∃ n,J n a w) (fun a w=>leastOf fun n=>J n a w) ⟨n,h⟩ fun a w hI => ?_
 obtain⟨m,hm⟩:=hI
 refine wp_mono (round _ a w (leastOf_spec (J:=fun n=>J n a w) hm).1) fun e a' w' hq => ?_
 cases e with
 |normal =>
  obtain⟨m',hlt,hJ⟩:=hq
  exact⟨⟨m',hJ⟩,Nat.lt_of_le_of_lt ((leastOf_spec (J:=fun n=>J n a' w') hJ).2 m' hJ) hlt⟩
 |exit id=>exact hq
 |goto l=>exact hq
 |ret=>exact hq
 |panic ch=>exact hq
 |outgrown=>exact hq
theorem Post.trans {w1 w w':World} {G G':Gh} {x:IX} {fr':Fr} {st':St} {e:Exit} {a':Act} {w'':World} (N:Nxt w1.heap.size G w G' w') (h:Post w1 w' G' x fr' st' e a' w''):Post w1 w G x fr' st' e a' w'':=by
 obtain⟨he,G'',N',s,hf⟩:=h
 exact⟨he,G'',N.trans N',s,hf⟩
theorem toExit_panic (x:IX) (c:List PanicEntry):x.toExit ≠ .panic c:=by cases x <;> simp[IX.toExit]
theorem comp_ok {P:Program} {w0 w1:World} {cl:CallF} (hcl:CallOk P w0 cl) (hb:Below w0.heap.size w0 w1) (hm:P.follows .mixedOrders=true) {sh:FuncId->Nat} {hs:Hints} (n:Nat) :
  ∀ (c:Code) (b:Nat) (ic:IC) (w:World) (G:Gh) (st st':St) (fr fr':Fr) (a:Act) (x:IX),comp P sh hs b c=some ic->Sim w1 w G st->FrRel G w fr a->evC cl n ic fr st=some (x,fr',st')->c.wp P (Post w1 w G x fr' st') a w:=by
 intro c
 induction c with
 |skip =>
  intro b ic w G st st' fr fr' a x hc h hf he
  cases hc
  cases he
  exact wp_skip ⟨rfl,G,Nxt.refl _ _ _,h,hf⟩
 |ret =>
  intro b ic w G st st' fr fr' a x hc h hf he
  cases hc
  cases he
  exact wp_ret ⟨rfl,G,Nxt.refl _ _ _,h,hf⟩
 |exit id =>
  intro b ic w G st st' fr fr' a x hc h hf he
  cases hc
  cases he
  exact wp_exit ⟨rfl,G,Nxt.refl _ _ _,h,hf⟩
 |region id ops draw =>
  intro b ic w G st st' fr fr' a x hc h hf he
  unfold comp at hc
  cases draw with
  |true =>
   simp only[if_true] at hc
   split at hc
   ·rename_i r hr
    split at hc
    ·rename_i hlen
     obtain⟨ss,hss,rfl⟩:=Option.map_eq_some_iff.1 hc
     unfold evC at he
     split at he
     ·rename_i fr1 st1 hd
      cases he
      refine draw_ok hcl hb hm (fun c a w hq=>absurd hq.1 (toExit_panic _ c).symm) hlen.1 hlen.2 hss h hf hd fun a' w' G' wi N s' hf' hpd => ?_
      have hww:w'=wi:=hpd
      subst hww
      exact⟨rfl,G',N,s',hf'⟩
     ·cases he
    ·cases hc
   ·cases hc
    simp[failC,evC,evOps,evSOp,wantedB,evOp] at he
  |false =>
   simp only[Bool.false_eq_true,if_false] at hc
   split at hc
   ·obtain⟨ss,hss,rfl⟩:=Option.map_eq_some_iff.1 hc
    unfold evC at he
    split at he
    ·rename_i fr1 st1 hd
     cases he
     exact wp_region_list (ops_ok hcl hb ops.toList ss w G st _ fr _ a hss h hf hd fun a' w' G' N s' hf'=>⟨rfl,G',N,s',hf'⟩)
    ·cases he
   ·obtain⟨ss,hss,rfl⟩:=Option.map_eq_some_iff.1 hc
    unfold evC at he
    split at he
    ·rename_i fr1 st1 hd
     cases he
     have:=pops_ok (Q:=Post w1 w G .normal _ _) hcl hb ops.toList.zipIdx ss none w w G st _ fr _ a hss h hf rfl hd fun a' w' G' N s' hf'=>⟨rfl,G',N,s',hf'⟩
     rw[List.zipIdx_map_fst] at this
     exact wp_region_list this
    ·cases he
 |seq p q ihp ihq =>
  intro b ic w G st st' fr fr' a x hc h hf he
  unfold comp at hc
  split at hc
  ·rename_i ic' hsp
   cases hc
   unfold seqP at hsp
   split at hsp
   ·rename_i id ops id2 ops2
    split at hsp
    ·rename_i pq hpq
     split at hsp
     ·rename_i r hr
      split at hsp
      ·rename_i hlen
       split at hsp
       ·rename_i t l ht hl
        cases hsp
        unfold evC at he
        cases h1:evC cl n (.draw t) fr st with
        |none=>rw[h1] at he; cases he
        |some tt =>
         obtain⟨y,fr1,st1⟩:=tt
         rw[h1] at he
         unfold evC at h1
         split at h1
         ·rename_i fr2 st2 hd
          cases h1
          simp only at he
          unfold evC at he
          split at he
          ·rename_i fr3 st3 hd3
           cases he
           refine wp_seq (draw_ok hcl hb hm (fun c a w hq=>absurd hq.1 (toExit_panic _ c).symm) hlen.1 hlen.2 ht h hf hd fun a' w' G' wi N s' hf' hpd => ?_)
           have:=pops_ok (Q:=Post w1 w G .normal _ _) hcl hb ops2.toList.zipIdx l (some pq) w' wi G' _ _ _ _ a' hl s' hf' hpd hd3 fun a'' w'' G'' N'' s'' hf''=>⟨rfl,G'',N.trans N'',s'',hf''⟩
           rw[List.zipIdx_map_fst] at this
           exact wp_region_list this
          ·cases he
         ·cases h1
       ·cases hsp
      ·cases hsp
     ·cases hsp
    ·cases hsp
   ·cases hsp
  split at hc
  ·rename_i p' q' hp hq
   cases hc
   rcases seqI_kinds (chOf hs p) p' q' with e0|⟨m,t,e,ca,cb,d,T,hch,rfl,rfl,hform,e0⟩
   rotate_left
   ·rw[e0] at he
    unfold evC at he
    split at he
    ·rename_i hde
     unfold both at he
     split at he
     ·rename_i f1 s1 f2 s2 ha hbb
      split at he
      ·rename_i hsame
       cases he
       simp only[Bool.and_eq_true] at hsame
       have hmk:=PV.eq_of_sames _ _ hsame.1
       have hst:=sameSt_eq hsame.2
       subst hst
       unfold chOf at hch
       split at hch
       ·rename_i id ops
        unfold comp at hp
        simp only[if_true] at hp
        split at hp
        ·rename_i r hr
         split at hp
         ·rename_i hlen
          obtain⟨t',ht',e1⟩:=Option.map_eq_some_iff.1 hp
          cases e1
          refine wp_seq (choose_ok hcl hb hm (fun c a w hq=>absurd hq.1 (toExit_panic _ c).symm) hlen.1 hlen.2 ht' hform h hf hde.1 hde.2 fun bb a' w' G' N s' hf' => ?_)
          have hge:(frPick d e bb fr st).getD e .undef = .bool bb:=by
           unfold frPick
           rw[List.getD_eq_getElem?_getD,List.getElem?_set_self (by simpa using hde.2)]
           rfl
          cases bb with
          |true =>
           refine wp_mono (ihq b _ w' G' _ _ _ f1 a' .normal hq s' hf' (by unfold evC; simp only[Opd.ev,hge,if_true]; exact ha)) fun e a'' w'' hp' => ?_
           obtain⟨rfl,G'',N'',s'',hf''⟩:=hp'
           exact⟨rfl,G'',N.trans N'',s'',hf''.mask m⟩
          |false =>
           refine wp_mono (ihq b _ w' G' _ _ _ f2 a' .normal hq s' hf' (by unfold evC; simp only[Opd.ev,hge,Bool.false_eq_true,if_false]; exact hbb)) fun e a'' w'' hp' => ?_
           obtain⟨rfl,G'',N'',s'',hf''⟩:=hp'
           exact⟨rfl,G'',N.trans N'',s'',by rw[hmk]; exact hf''.mask m⟩
         ·cases hp
        ·cases hp
       ·cases hch
      ·cases he
     ·cases he
    ·cases he
   rw[e0] at he
   unfold evC at he
   cases h1:evC cl n p' fr st with
   |none=>rw[h1] at he; cases he
   |some t =>
    obtain⟨y,fr1,st1⟩:=t
    rw[h1] at he
    refine wp_seq (wp_mono (ihp b p' w G st st1 fr fr1 a y hp h hf h1) fun e a' w' hpost => ?_)
    cases y with
    |normal =>
     simp only at he
     obtain⟨rfl,G',N,s,hf'⟩:=hpost
     exact wp_mono (ihq b q' w' G' st1 st' fr1 fr' a' x hq s hf' he) fun e a'' w'' h'=>h'.trans N
    |exit i =>
     simp only at he
     cases he
     obtain⟨rfl,r⟩:=hpost
     exact⟨rfl,r⟩
    |ret =>
     simp only at he
     cases he
     obtain⟨rfl,r⟩:=hpost
     exact⟨rfl,r⟩
  ·cases hc
 |cond c0 p q ihp ihq =>
  intro b ic w G st st' fr fr' a x hc h hf he
  unfold comp at hc
  split at hc
  ·rename_i c' p' q' hcc hp hq
   cases hc
   unfold evC at he
   split at he
   ·rename_i t ht
    have hv:=(cOpd_rep hf hcc)
    rw[ht] at hv
    refine wp_cond hv.bool_inv ?_
    cases t with
    |true=>exact ihp b p' w G st st' fr fr' a x hp h hf he
    |false=>exact ihq b q' w G st st' fr fr' a x hq h hf he
   ·cases he
  ·cases hc
 |block id p ih =>
  intro b ic w G st st' fr fr' a x hc h hf he
  unfold comp at hc
  obtain⟨p',hp,rfl⟩:=Option.map_eq_some_iff.1 hc
  unfold evC at he
  cases h1:evC cl n p' fr st with
  |none=>rw[h1] at he; cases he
  |some t =>
   obtain⟨y,fr1,st1⟩:=t
   rw[h1] at he
   refine wp_block (wp_mono (ih id p' w G st st1 fr fr1 a y hp h hf h1) fun e a' w' hpost => ?_)
   obtain⟨rfl,r⟩:=hpost
   cases y with
   |normal=>simp only at he; cases he; exact⟨rfl,r⟩
   |ret=>simp only at he; cases he; exact⟨rfl,r⟩
   |exit i =>
    simp only at he
    simp only[IX.toExit,Exit.inBlock]
    split at he
    ·rename_i e; cases he; rw[if_pos e]; exact⟨rfl,r⟩
    ·rename_i e; cases he; rw[if_neg e]; exact⟨rfl,r⟩
 |loop p ih =>
  intro b ic w G st st' fr fr' a x hc h hf he
  unfold comp at hc
  split at hc
  ·rename_i m p' hm' hp
   cases hc
   unfold evC at he
   refine wp_rounds (n:=n) (fun k a w' => ∃ G' fr1 st1,Nxt w1.heap.size G w G' w'/\Sim w1 w' G' st1/\FrRel G' w' fr1 a /\
    iter (fun fr st=>(evC cl n p' fr st).map fun r=>(r.1,if r.1 = .normal then mask m r.2.1 else r.2.1,r.2.2)) k fr1 st1=some (x,fr',st')) ?_ ⟨G,mask m fr,st,Nxt.refl _ _ _,h,hf.mask m,he⟩
   rintro k a w' ⟨G',fr1,st1,N,s,hf1,hk⟩
   cases k with
   |zero=>cases hk
   |succ k =>
    unfold iter at hk
    cases h1:evC cl n p' fr1 st1 with
    |none=>rw[h1] at hk; cases hk
    |some t =>
     obtain⟨y,fr2,st2⟩:=t
     rw[h1] at hk
     simp only[Option.map_some] at hk
     refine wp_mono (ih b p' w' G' st1 st2 fr1 fr2 a y hp s hf1 h1) fun e a' w'' hpost => ?_
     obtain⟨rfl,G'',N',s',hf'⟩:=hpost
     cases y with
     |normal =>
      simp only[if_true] at hk
      exact⟨k,Nat.lt_succ_self k,G'',mask m fr2,st2,N.trans N',s',hf'.mask m,hk⟩
     |exit i =>
      simp only[reduceCtorEq,if_false] at hk
      cases hk
      exact⟨rfl,G'',N.trans N',s',hf'⟩
     |ret =>
      simp only[reduceCtorEq,if_false] at hk
      cases hk
      exact⟨rfl,G'',N.trans N',s',hf'⟩
  ·cases hc
 |_ =>
  intro b ic w G st st' fr fr' a x hc h hf he
  cases hc
  simp[failC,evC,evOps,evSOp,wantedB,evOp] at he
end Go.Proofs.YthjnlpfibakacaaGreatDoorPe
