/- A part of the proof of this folder's statement; it has no condition of its own. -/
import Derived.Test.YthjnlpfibakacaaGreatDoorPeSound2
set_option linter.unusedVariables false
set_option linter.unusedSimpArgs false
namespace Go.Proofs.YthjnlpfibakacaaGreatDoorPe
open Go Go.RowKit Go.Proofs.YthjnlpfibakacaaGreatDoorW.PrintLast
def readR (tmps:Array Value):ResultVar->Sem Value
 |.tmp t=>pure (tmps.getD t undef)
 |.cell a t=>do loadVar t (<- asAddr (tmps.getD a undef))
theorem results_eq (fn:Func) (tmps:Array Value):results fn tmps=(do let vs <- fn.results.mapM (readR tmps); pure (if h:vs.size=1 then vs[0] else .tuple vs)):=by
 unfold results
 congr 1
theorem readR_ok {P:Program} {w1 w:World} {G:Gh} {st:St} {fr:Fr} {a:Act} (h:Sim w1 w G st) (hf:FrRel G w fr a) {r:ResultVar} {s:ResV} (hc:cRes P r=some s) {x:PV} (he:resOf fr st s=some x) :
  ∃ v,(readR a.tmps r).run P w = .ok v w/\Rep G w x v:=by
 cases r with
 |tmp t=>cases hc; cases he; exact⟨_,rfl,hf.get t⟩
 |cell t ty =>
  simp only[cRes] at hc
  obtain⟨m,hm,rfl⟩:=Option.map_eq_some_iff.1 hc
  simp only[resOf] at he
  have hev:evOp (fun _ _ _=>none) (.load m (.t t)) fr st=some (x,st):=by
   simp only[evOp,Opd.ev]
   split at he
   ·rename_i b o hb
    rw[hb]
    simp only
    split at he
    ·rename_i cs hcs
     simp only[he,Option.map_some]
    ·cases he
   ·cases he
  obtain⟨_,b,o,f,hv,hcell,hr,hrun,_⟩:=load_ok h hm (hf.get t) (y:=.t t) (fr:=fr) rfl hev
  refine⟨ldv m f,?_,hr⟩
  have:=hrun w hcell
  rw[hv] at this
  unfold readR
  simp only[hv]
  exact this
theorem mapM_ok {P:Program} {w:World} {G:Gh} {α β : Type} {f : α -> Sem Value} {c : α -> Option β} {g : β -> Option PV} (h : ∀ r s x,c r=some s->g s=some x -> ∃ v,(f r).run P w = .ok v w/\Rep G w x v) :
  ∀ (l:List α) (ss:List β) (xs:List PV),mapO c l=some ss->mapO g ss=some xs -> ∃ vs:List Value,(l.mapM f).run P w = .ok vs w/\Reps G w xs vs.toArray
 |[],ss,xs,h1,h2=>by cases h1; cases h2; exact⟨[],rfl,rfl,fun j hj=>absurd hj (Nat.not_lt_zero _)⟩
 |r::l,ss,xs,h1,h2=>by
  unfold mapO at h1
  cases e1:c r with
  |none=>rw[e1] at h1; cases h1
  |some s =>
   rw[e1] at h1
   cases e2:mapO c l with
   |none=>rw[e2] at h1; cases h1
   |some ss' =>
    rw[e2] at h1
    cases h1
    unfold mapO at h2
    cases e3:g s with
    |none=>rw[e3] at h2; cases h2
    |some x =>
     rw[e3] at h2
     cases e4:mapO g ss' with
     |none=>rw[e4] at h2; cases h2
     |some xs' =>
      rw[e4] at h2
      cases h2
      obtain⟨v,hv,hr⟩:=h r s x e1 e3
      obtain⟨vs,hvs,hrs⟩:=mapM_ok h l ss' xs' e2 e4
      refine⟨v::vs,?_,?_⟩
      ·rw[List.mapM_cons,Sem.run_bind,hv]
       show ((l.mapM f >>= fun vs=>pure (v::vs)).run P w)=_
       rw[Sem.run_bind,hvs]
       rfl
      ·have:=Reps.append (xs:=[x]) (A := #[v]) (G:=G) (w:=w) ⟨rfl,fun j hj=>by
        have:j=0:=by simpa using hj
        subst this
        exact hr⟩ hrs
       simpa using this
theorem results_ok {P:Program} {w1 w:World} {G:Gh} {st:St} {fr:Fr} {a:Act} (h:Sim w1 w G st) (hf:FrRel G w fr a) {fn:Func} {rs:List ResV} (hc:mapO (cRes P) fn.results.toList=some rs) {x:PV} (he:resultsOf rs fr st=some x) :
  ∃ v,(results fn a.tmps).run P w = .ok v w/\Rep G w x v:=by
 unfold resultsOf at he
 cases h1:mapO (resOf fr st) rs with
 |none=>rw[h1] at he; cases he
 |some xs =>
  rw[h1] at he
  obtain⟨vs,hvs,hrs⟩:=mapM_ok (f:=readR a.tmps) (fun r s x h2 h3=>readR_ok h hf h2 h3) fn.results.toList rs xs hc h1
  have hrun:(results fn a.tmps).run P w = .ok (if h:vs.toArray.size=1 then vs.toArray[0] else .tuple vs.toArray) w:=by
   rw[results_eq,Sem.run_bind]
   have:(fn.results.mapM (readR a.tmps)).run P w = .ok vs.toArray w:=by
    rw[Array.mapM_eq_mapM_toList,Sem.run_map,hvs]
    rfl
   rw[this]
   rfl
  refine⟨_,hrun,?_⟩
  have hsz:=hrs.1
  split at he
  ·rename_i v hv
   cases hv
   cases he
   have:vs.toArray.size=1:=by simpa using hsz
   rw[dif_pos this]
   have:=hrs.2 0 (by simp)
   rw[Array.getD_eq_getD_getElem?,Array.getElem?_eq_getElem (by omega)] at this
   exact this
  ·rename_i ys hne hys
   cases hys
   cases he
   have hn : ¬ vs.toArray.size=1:=by
    intro e
    have:xs.length=1:=by omega
    obtain⟨y,rfl⟩:=List.length_eq_one_iff.1 this
    exact hne y rfl
   rw[dif_neg hn]
   exact .tuple hsz hrs.2
  ·rename_i hne; cases hne
def FnsOk (P:Program) (fns:FuncId->Option IFunc):Prop :=
 ∀ f c, fns f = some c -> ∃ fn sh hs, P.funcs[f]? = some fn /\ (fn.name == "runtime.NumGoroutine") = false /\ compF P sh hs fn = some c
theorem Sim.wrote {w1 w w':World} {G:Gh} {st:St} (h:Sim w1 w G st) {b blk:Nat} {T:TypeId} {zs:Array Value} {ys:List PV} (hb:G.bx b=some blk) (hcell:w'.heap[blk]? = some (.cells zs T (0,0))) (hT:st.bt[b]? = some T) (hsz:zs.size=ys.length) (hbs:zs.size=G.bs b) (h0z:0<zs.size) (hab:Alive st b)
  (hr : ∀ j (h:j<ys.length),Rep G w' (ys[j]) (zs.getD j Go.undef)) (hoth : ∀ k,k<w.heap.size->k≠blk->w'.heap[k]? = w.heap[k]?) (hsize:w.heap.size<=w'.heap.size) (ho:w'.os=w.os/\w'.tape=w.tape/\w'.output=w.output) :
  Sim w1 w' G ⟨st.boxes.set b ys,st.rows,st.bt,st.rt⟩/\Nxt w1.heap.size G w G w':=by
 obtain⟨hlt,hge,hF⟩:=h.bx_lt hb
 have hst:st.boxes.length=(st.boxes.set b ys).length:=by simp
 have ht:Tr G.F w w':=fun c o hc=>cell_of_heap (hoth c (h.Fd c o hc) (fun e=>hF o (e ▸ hc)))
 have N:Nxt w1.heap.size G w G w':=⟨fun _ _ h=>h,fun _ _ h=>.inl h,fun _ _ h=>⟨h,rfl⟩,fun _=>Nat.le_refl _,fun _ _ _ h=>h,ht⟩
 have hal : ∀ c,Alive ⟨st.boxes.set b ys,st.rows,st.bt,st.rt⟩ c->Alive st c:=by
  rintro c ⟨x,l,hc⟩
  simp only at hc
  rw[List.getElem?_set] at hc
  split at hc
  ·rename_i e; subst e; exact hab
  ·exact⟨x,l,hc⟩
 refine⟨⟨⟨ho.1.trans h.below.os,ho.2.1.trans h.below.tape,ho.2.2.trans h.below.output,Nat.le_trans h.below.size hsize,fun k hk=>(hoth k (Nat.lt_of_lt_of_le hk h.below.size) (by omega)).trans (h.below.block k hk)⟩,fun c cs hcs => ?_,fun c k hk=>by rw[<- hst]; exact h.boxN c k hk,fun c d k hc hd ac ad=>h.boxI c d k hc hd (hal c ac) (hal d ad),fun r len n hrow => ?_,
  h.rowN,h.rowL,h.rowI,h.apart,fun c o hc=>Nat.lt_of_lt_of_le (h.Fd c o hc) hsize,by rw[<- hst]; exact h.btN,h.rtN⟩,N⟩
 ·have hcs':(st.boxes.set b ys)[c]? = some cs:=hcs
  rw[List.getElem?_set] at hcs'
  split at hcs'
  ·rename_i e
   subst e
   split at hcs'
   ·cases hcs'
    exact⟨blk,zs,T,hb,hge,hcell,Nat.le_of_eq hsz.symm,hF,hr,.inl ⟨hT,hsz⟩,hbs⟩
   ·cases hcs'
  ·rename_i e
   obtain⟨k,us,U,f1,f2,f3,f4,f5,f6,f7⟩:=(h.box c cs hcs').ex
   by_cases hk:k=blk
   ·subst hk
    cases cs with
    |cons x l=>exact absurd (h.boxI b c k hb f1 hab ⟨x,l,hcs'⟩) e
    |nil =>
     obtain⟨k2,us2,U2,g1,g2,g3,g4,g5,g6,g7,g8⟩:=(h.box b _ (List.getElem?_eq_getElem (h.boxN b k hb))).ex
     rw[hb] at g1
     cases g1
     rw[g3] at f3
     cases f3
     have e9:zs.size=us.size:=by rw[hbs,<- g8]
     refine⟨k,zs,T,f1,f2,hcell,Nat.zero_le _,f5,fun j hj=>absurd hj (Nat.not_lt_zero _),?_,by rw[e9]; exact f7.2⟩
     rcases f7.1 with ⟨_,h0⟩|h1
     ·have h00:us.size=0:=h0
      omega
     ·exact .inr h1
   ·exact⟨k,us,U,f1,f2,(hoth k (Array.getElem?_eq_some_iff.1 f3).1 hk).trans f3,f4,f5,fun j hj=>(f6 j hj).mono N,f7⟩
 ·obtain⟨f0,k,cap,us,U,fz,f1,f2,f3,f4⟩:=h.row r len n hrow
  exact⟨f0,k,cap,us,U,fz,f1,f2,(hoth k (Array.getElem?_eq_some_iff.1 f3).1 (fun e=>h.apart b r blk n cap hb (e ▸ f1))).trans f3,f4⟩
def WritesOk (P:Program) (w0:World) (fns:FuncId->Option IFunc) (given:FuncId->List PV->Option PV):Prop :=
 ∀ f x t r y,fns f=none->given f [x,.iface t (.own 0 [])]=some (.tuple [r,y])->FnOk P f /\ ∀ (w:World) (F:Fix) (v old:Value) (blk:Nat) (T:TypeId),(∀ b o,F b o->b<w.heap.size)->Below w0.heap.size w0 w->RepD F w x v ->
  w.heap[blk]? = some (.cells #[old] T (0,0))->(∀ o,¬ F blk o)->w0.heap.size<=blk ->
  Calls P f #[v,.iface t (.pointer (some ⟨blk,0,none⟩))] w fun e w' => ∃ u z,e = .returned u/\RepD F w' r u/\z.cells.size=1/\y ≠ .undef/\RepD F w' y z/\w'.heap[blk]? = some (.cells z.cells T (0,0))/\(∀ k,k<w.heap.size->k≠blk->w'.heap[k]? = w.heap[k]?)/\w.heap.size<=w'.heap.size /\
   (w'.os=w.os/\w'.tape=w.tape/\w'.output=w.output)
def KeepsOk (P:Program) (w0:World) (fns:FuncId->Option IFunc) (given:FuncId->List PV->Option PV):Prop :=
 ∀ f x t r,fns f=none->given f [x,.iface t (.own 0 [])]=some (.tuple [r])->FnOk P f /\ ∀ (w:World) (F:Fix) (v old:Value) (blk:Nat) (T:TypeId),(∀ b o,F b o->b<w.heap.size)->Below w0.heap.size w0 w->RepD F w x v ->
  w.heap[blk]? = some (.cells #[old] T (0,0))->(∀ o,¬ F blk o)->w0.heap.size<=blk ->
  Calls P f #[v,.iface t (.pointer (some ⟨blk,0,none⟩))] w fun e w' => ∃ u,e = .returned u/\RepD F w' r u/\Below w.heap.size w w'
def GivR (G:Gh) (w:World) (st:St) (r:PV) (v:Value):Prop :=
 match r with
 |.own q l=>l=[]/\st=⟨[],[(0,q % 65536)],[],[q / 65536]⟩/\Rep G w (.own 0 []) v
 |r=>RepD G.boxed w r v
theorem GivR.of {G:Gh} {w:World} {st:St} {r:PV} {v:Value} (h:RepD G.boxed w r v):GivR G w st r v:=by
 cases r with
 |own q l=>cases h with
  |sl hx=>rcases hx with hx|⟨hx,_⟩ <;> cases hx
 |_=>exact h
def GivenPlain (P:Program) (w0:World) (fns:FuncId->Option IFunc) (given:FuncId->List PV->Option PV):Prop :=
 ∀ f as r,fns f=none->given f as=some r->FnOk P f /\ ∀ (w:World) (F:Fix) vs,(∀ b o,F b o->b<w.heap.size)->Below w0.heap.size w0 w->vs.size=as.length->(∀ j (h:j<as.length),RepD F w (as[j]) (vs.getD j Go.undef)) ->
  Calls P f vs w fun e w' => ∃ v G1 st1,e = .returned v/\Nxt w.heap.size (Gh.base F) w G1 w'/\Sim w w' G1 st1/\GivR G1 w' st1 r v
def GivenOk (P:Program) (w0:World) (fns:FuncId->Option IFunc) (given:FuncId->List PV->Option PV):Prop:=GivenPlain P w0 fns given/\WritesOk P w0 fns given/\KeepsOk P w0 fns given
theorem GivenPlain.ok {P:Program} {w0:World} {fns:FuncId->Option IFunc} {given:FuncId->List PV->Option PV} (h:GivenPlain P w0 fns given) (hno : ∀ f x t l,given f [x,.iface t (.own 0 [])]≠some (.tuple l)):GivenOk P w0 fns given :=
 ⟨h,fun f x t r y _ hg=>absurd hg (hno f x t [r,y]),fun f x t r _ hg=>absurd hg (hno f x t [r])⟩
theorem given_plain {w w':World} {F:Fix} {r:PV} {v:Value} {e:Ending} (hF : ∀ b o,F b o->b<w.heap.size) (he:e = .returned v) (hB:Below w.heap.size w w') (hr:RepD F w' r v) :
  ∃ v G1 st1,e = .returned v/\Nxt w.heap.size (Gh.base F) w G1 w'/\Sim w w' G1 st1/\GivR G1 w' st1 r v:=by
 obtain⟨s,N⟩:=(Sim.base hF).grow hB
 exact⟨v,_,_,he,N,s,.of (hr.mono (fun b o h=>.inl h) (Tr.refl _ _))⟩
theorem reps_replicate {G:Gh} {w:World} (n:Nat):Reps G w (List.replicate n .undef) (Array.replicate n Go.undef) :=
 ⟨by simp,fun j hj=>by simp only[List.getElem_replicate]; exact .d (.undef _)⟩
theorem evF_ok {P:Program} {w0:World} {fns:FuncId->Option IFunc} {given:FuncId->List PV->Option PV} (hm:P.follows .mixedOrders=true) (hF:FnsOk P fns) (hG:GivenOk P w0 fns given) : ∀ k,CallOk P w0 (evF fns given k)
 |0=>fun f as st r st' h=>by cases h
 |k+1=>fun f as st r st' h=>by
  have ih:=evF_ok hm hF hG k
  unfold evF at h
  cases hfn:fns f with
  |some c =>
   rw[hfn] at h
   simp only at h
   obtain⟨fn,sh,hs,h1,h2,h3⟩:=hF f c hfn
   unfold compF at h3
   split at h3
   ·rename_i code rs hbody hrs
    split at h3
    ·rename_i b hcomp
     cases h3
     refine⟨⟨fn,h1,h2,by rw[hbody]; rfl⟩,fun w1 w G vs hb hsim hreps => ?_⟩
     refine calls_of_wp h1 hbody ?_
     have hfr:FrRel G w (as++List.replicate (fn.ntmps-as.length) .undef) { tmps:=vs++Array.replicate (fn.ntmps-vs.size) Go.undef,defers:=[] }:=by
      have:=hreps.append (reps_replicate (G:=G) (w:=w) (fn.ntmps-as.length))
      rw[hreps.1]
      exact⟨this.1,rfl,this.2⟩
     cases h4:evC (evF fns given k) k b (as++List.replicate (fn.ntmps-as.length) .undef) st with
     |none=>rw[h4] at h; cases h
     |some t =>
      obtain⟨x,fr',st1⟩:=t
      rw[h4] at h
      refine wp_mono (comp_ok ih hb hm k code 0 b w G st st1 _ fr' _ x hcomp hsim hfr h4) fun e a' w' hpost => ?_
      obtain⟨rfl,G',N,s,hf'⟩:=hpost
      cases x with
      |normal =>
       simp only at h
       obtain⟨y,hy,e⟩:=Option.map_eq_some_iff.1 h
       cases e
       obtain⟨v,hv,hr⟩:=results_ok s hf' hrs hy
       exact⟨hf'.defers,v,hv,v,G',rfl,N,s,hr⟩
      |ret =>
       simp only at h
       obtain⟨y,hy,e⟩:=Option.map_eq_some_iff.1 h
       cases e
       obtain⟨v,hv,hr⟩:=results_ok s hf' hrs hy
       exact⟨hf'.defers,v,hv,v,G',rfl,N,s,hr⟩
      |exit i=>cases h
    ·cases h3
   ·cases h3
  |none =>
   rw[hfn] at h
   simp only at h
   unfold givenV at h
   split at h
   ·rename_i x t b ha
    have hargs:as=[x,.iface t (.ptr b 0)]:=by
     unfold asArgs at ha
     split at ha
     ·cases ha; rfl
     ·cases ha
    subst hargs
    unfold asV at h
    split at h
    ·rename_i x' hx
     split at h
     ·rename_i r' y hg
      obtain⟨k1,k2⟩:=hG.2.1 f x' t r' y hfn hg
      split at h
      ·rename_i p hbx
       split at h
       ·rename_i hy
        cases h
        refine⟨k1,fun w1 w G vs hb hsim hreps => ?_⟩
        have r0:=hreps.2 0 (by simp)
        have r1:=hreps.2 1 (by simp)
        simp only[List.getElem_cons_zero,List.getElem_cons_succ] at r0 r1
        obtain⟨u1,e1,r2⟩:=r1.iface_inv
        obtain⟨blk,hbk,e2⟩:=r2.ptr_inv
        have hvs:vs = #[vs.getD 0 Go.undef,.iface t (.pointer (some ⟨blk,0,none⟩))]:=by
         have hs:vs.size=2:=hreps.1
         rw[<- e2,<- e1]
         apply Array.ext
         ·simpa using hs
         ·intro k hk hk'
          match k,hk with
          |0,hk=>simp[hk]
          |1,hk=>simp[hk]
          |k+2,hk=>omega
        rw[hvs]
        obtain⟨k0,us,T,f1,f2,f3,f40,f5,f6,f70,f8⟩:=(hsim.box b [p] hbx).ex
        rw[hbk] at f1
        cases f1
        obtain⟨f7,f4⟩:st.bt[b]? = some T/\us.size=1:=by
         rcases f70 with f70|f70
         ·exact f70
         ·exact absurd f70 hy.2.2
        have hus:us = #[us.getD 0 Go.undef]:=by
         apply Array.ext
         ·simpa using f4
         ·intro k hk hk'
          have:k=0:=by omega
          subst this
          simp[hk]
        rw[hus] at f3
        have hxr:RepD G.F w x' (vs.getD 0 Go.undef):=by
         unfold shutG at hx
         split at hx
         ·cases hx
          cases r0 with|d hx=>exact hx
         ·exact shutA_rep (G:=G) shutN r0 hx
        refine (k2 w G.F _ _ blk T hsim.Fd (hb.trans (hsim.below.mono hb.size)) hxr f3 f5 (Nat.le_trans hb.size f2)).mono fun e' w' hh => ?_
        obtain⟨u,z,rfl,g1,g2,g3,g4,g5,g6,g7,g8⟩:=hh
        obtain⟨c1,c2⟩:=g4.cells g3
        obtain⟨s',N⟩:=hsim.wrote (ys:=y.cells) (zs:=z.cells) hbk g5 f7 c1 (by rw[<- f8,f4]; exact g2) (by omega) ⟨_,_,hbx⟩ (fun j hj=>.d (c2 j hj)) g6 g7 g8
        exact⟨u,G,rfl,N,s',.d g1⟩
       ·cases h
      ·cases h
     ·rename_i r' hg
      obtain⟨k1,k2⟩:=hG.2.2 f x' t r' hfn hg
      split at h
      ·rename_i p hbx
       split at h
       ·rename_i hy
        cases h
        refine⟨k1,fun w1 w G vs hb hsim hreps => ?_⟩
        have r0:=hreps.2 0 (by simp)
        have r1:=hreps.2 1 (by simp)
        simp only[List.getElem_cons_zero,List.getElem_cons_succ] at r0 r1
        obtain⟨u1,e1,r2⟩:=r1.iface_inv
        obtain⟨blk,hbk,e2⟩:=r2.ptr_inv
        have hvs:vs = #[vs.getD 0 Go.undef,.iface t (.pointer (some ⟨blk,0,none⟩))]:=by
         have hs:vs.size=2:=hreps.1
         rw[<- e2,<- e1]
         apply Array.ext
         ·simpa using hs
         ·intro k hk hk'
          match k,hk with
          |0,hk=>simp[hk]
          |1,hk=>simp[hk]
          |k+2,hk=>omega
        rw[hvs]
        obtain⟨k0,us,T,f1,f2,f3,f40,f5,f6,f70,f8⟩:=(hsim.box b [p] hbx).ex
        rw[hbk] at f1
        cases f1
        obtain⟨f7,f4⟩:st.bt[b]? = some T/\us.size=1:=by
         rcases f70 with f70|f70
         ·exact f70
         ·exact absurd f70 hy
        have hus:us = #[us.getD 0 Go.undef]:=by
         apply Array.ext
         ·simpa using f4
         ·intro k hk hk'
          have:k=0:=by omega
          subst this
          simp[hk]
        rw[hus] at f3
        have hxr:RepD G.F w x' (vs.getD 0 Go.undef):=by
         unfold shutG at hx
         split at hx
         ·cases hx
          cases r0 with|d hx=>exact hx
         ·exact shutA_rep (G:=G) shutN r0 hx
        refine (k2 w G.F _ _ blk T hsim.Fd (hb.trans (hsim.below.mono hb.size)) hxr f3 f5 (Nat.le_trans hb.size f2)).mono fun e' w' hh => ?_
        obtain⟨u,rfl,g1,g2⟩:=hh
        obtain⟨s',N⟩:=hsim.grow g2
        exact⟨u,_,rfl,N,s',.d g1⟩
       ·cases h
      ·cases h
     ·cases h
    ·cases h
   ·split at h
    ·rename_i bs h1
     split at h
     ·rename_i y hy
      obtain⟨k1,k2⟩:=hG.1 f bs _ hfn hy
      refine⟨k1,fun w1 w G vs hb hsim hreps => ?_⟩
      obtain⟨e,kk⟩:=mapO_some h1
      have hsg : ∀ {x z:PV} {v:Value},Rep G w x v->shutG x=some z->RepD G.F w z v:=by
       intro x z v hx hz
       unfold shutG at hz
       split at hz
       ·cases hz
        cases hx with|d hx=>exact hx
       ·exact shutA_rep (G:=G) shutN hx hz
      refine (k2 w G.F vs hsim.Fd (hb.trans (hsim.below.mono hb.size)) (by rw[hreps.1,e]) fun j hj=>hsg (hreps.2 j (by omega)) (kk j (by omega) hj)).mono fun e' w' hh => ?_
      obtain⟨v,G1,st1,rfl,N,s,hr⟩:=hh
      obtain⟨N',s'⟩:=hsim.after N s
      unfold givAns at h
      split at h
      ·rename_i q l
       split at h
       ·cases h
        obtain⟨_,rfl,hr⟩:=hr
        obtain⟨ao,cap,rfl,hd,hl,hn⟩:=hr.own_inv
        obtain⟨e0,blk,cap',us,T,fz,e1,e2,e3,e4,e5,e6,e7⟩:=s.row 0 0 (q % 65536) rfl
        obtain⟨blk',n',f1,rfl,f3⟩:=hn e0.symm
        rw[e1] at f1
        cases f1
        have e7':q / 65536=T/\fz.2<=0*(q % 65536)\/q / 65536=tagT:=e7.imp (fun h=>⟨Option.some.inj h.1,h.2⟩) fun h=>Option.some.inj h
        obtain⟨s2,N2⟩:=s'.addRow (r:=st.rows.length) (blk:=blk) (n:=q % 65536) (cap:=cap) (len:=0) (T':=q / 65536) (st.rows++[(0,q % 65536)]) (st.rt++[q / 65536]) (Nat.le_trans hsim.below.size e2) e3 e4 e5
         (fun o ho hF=>hF.elim (e6 o ho) fun ⟨i,hi⟩=>s.apart i 0 blk (q % 65536) cap hi e1) (fun b k hb=>by have:=(hsim.bx_lt hb).1; omega) (fun t k m c _ hr=>by have:=(hsim.rw_lt hr).1; omega) ⟨.inl ⟨rfl,rfl⟩,e7'⟩ (.inl ⟨rfl,rfl⟩)
        refine⟨_,_,rfl,N'.trans N2,s2,?_⟩
        refine .own' rfl ?_ (by simp[Gh.addRow]) (fun _=>⟨blk,q % 65536,if_pos rfl,rfl,f3⟩)
        exact (hd.mono (fun b o hF=>.inl (.inl hF)) (Tr.refl _ _))
       ·cases h
      ·rename_i hno
       cases h
       refine⟨v,_,rfl,N',s',.d ?_⟩
       cases r with
       |own q l=>exact absurd rfl (hno q l)
       |_=>exact hr
     ·cases h
    ·cases h
theorem call_ok {P:Program} {w0:World} {fns:FuncId->Option IFunc} {given:FuncId->List PV->Option PV} (hm:P.follows .mixedOrders=true) (hF:FnsOk P fns) (hG:GivenOk P w0 fns given):CallOk P w0 (call fns given):=by
 intro f as st r st' h
 obtain⟨k,hk⟩:=(call_some fns given).1 h
 exact evF_ok hm hF hG k f as st r st' hk
theorem call_calls {P:Program} {w:World} {fns:FuncId->Option IFunc} {given:FuncId->List PV->Option PV} (hm:P.follows .mixedOrders=true) (hF:FnsOk P fns) (hG:GivenOk P w fns given) {f:FuncId} {as:List PV} {r:PV} {st':St} {F:Fix} {vs:Array Value}
  (hFd : ∀ b o,F b o->b<w.heap.size) (hsz:vs.size=as.length) (hr : ∀ j (h:j<as.length),RepD F w (as[j]) (vs.getD j Go.undef)) (he:call fns given f as ⟨[],[],[],[]⟩=some (r,st')) :
  Calls P f vs w fun e w' => ∃ v G',e = .returned v/\Below w.heap.size w w'/\Sim w w' G' st'/\Rep G' w' r v:=by
 refine ((call_ok hm hF hG f as _ r st' he).2 w w (Gh.base F) vs (Below.refl _ _) (.base hFd) ⟨hsz,fun j hj=>.d (hr j hj)⟩).mono fun e w' hh => ?_
 obtain⟨v,G',rfl,N,s,h⟩:=hh
 exact⟨v,G',rfl,s.below,s,h⟩
end Go.Proofs.YthjnlpfibakacaaGreatDoorPe
