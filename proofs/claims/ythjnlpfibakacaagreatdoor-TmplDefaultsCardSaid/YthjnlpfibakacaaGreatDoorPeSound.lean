/- A part of the proof of this folder's statement; it has no condition of its own. -/
import Derived.Test.YthjnlpfibakacaaGreatDoorPeHole
import Derived.Test.YthjnlpfibakacaaGreatDoorPeLook
import Derived.Test.YthjnlpfibakacaaGreatDoorPeLim
set_option linter.unusedVariables false
set_option linter.unusedSimpArgs false
namespace Go.Proofs.YthjnlpfibakacaaGreatDoorPe
open Go Go.RowKit Go.Proofs.YthjnlpfibakacaaGreatDoorW.PrintLast
theorem wanted_ok {G:Gh} {w:World} {fr:Fr} {a:Act} (hf:FrRel G w fr a) {ops:Array Oper} {o:Oper} {g:Option (Nat × Bool)} (hg:cGuard ops o.guard=some g) {b:Bool} (hb:wantedB fr g=some b):Region.wanted o (yielded ops a.tmps)=b:=by
 unfold cGuard at hg
 split at hg
 ·rename_i e
  cases hg
  cases hb
  simp[Region.wanted,e]
 ·rename_i j want e
  split at hg
  ·rename_i t ht
   cases hg
   unfold wantedB at hb
   simp only[Region.wanted,e,yielded]
   split at hb
   ·rename_i h; cases h
   ·rename_i t' want' h
    cases h
    have hr:=hf.get t
    split at hb
    ·rename_i c hc
     cases hb
     rw[hc] at hr
     have hv:=hr.bool_inv
     have hlt:t<fr.length:=by
      rcases Nat.lt_or_ge t fr.length with h|h
      ·exact h
      ·rw[List.getD_eq_getElem?_getD,List.getElem?_eq_none h] at hc; cases hc
     have hv':a.tmps[t]? = some (.bool c):=by
      rw[Array.getD_eq_getD_getElem?,Array.getElem?_eq_getElem (by rw[hf.size]; exact hlt)] at hv
      rw[Array.getElem?_eq_getElem (by rw[hf.size]; exact hlt)]
      exact congrArg some hv
     rw[ht]
     simp only[Option.bind_some,hv']
     cases c <;> cases want <;> rfl
    ·rename_i hc
     cases hb
     rw[hc] at hr
     obtain⟨vs,hv,hl,_⟩:=hr.tuple_inv
     rw[ht]
     simp only[Option.bind_some]
     cases hq:a.tmps[t]? with
     |none=>rfl
     |some v =>
      rw[Array.getD_eq_getD_getElem?,hq] at hv
      simp only[Option.getD_some] at hv
      subst hv
      rfl
    ·cases hb
  ·cases hg
theorem cSOp_some {P:Program} {sh:FuncId->Nat} {ops:Array Oper} {flag:Nat} {o:Oper} {s:SOp} (h:cSOp P sh ops flag o=some s):(cOp P sh o.op=some s.op\/s.op = .fail)/\cGuard ops o.guard=some s.guard/\s.dst=o.dst/\s.flag=flag:=by
 unfold cSOp at h
 split at h
 ·rename_i g h1
  split at h
  ·rename_i i h2
   cases h
   exact⟨.inl h2,h1,rfl,rfl⟩
  ·cases h
   exact⟨.inr rfl,h1,rfl,rfl⟩
 ·cases h
def IX.toExit:IX->Exit
 |.normal=>.normal
 |.exit i=>.exit i
 |.ret=>.ret
def Post (w1 w:World) (G:Gh) (x:IX) (fr':Fr) (st':St) (e:Exit) (a':Act) (w':World):Prop :=
 e=x.toExit /\ ∃ G',Nxt w1.heap.size G w G' w'/\Sim w1 w' G' st'/\FrRel G' w' fr' a'
theorem undef_rep {G:Gh} {w:World}:Rep G w (.tuple []) Go.undef:=.d (.tuple rfl fun j hj=>absurd hj (Nat.not_lt_zero _))
theorem ops_ok {P:Program} {w0 w1:World} {cl:CallF} (hcl:CallOk P w0 cl) (hb:Below w0.heap.size w0 w1) {sh:FuncId->Nat} {ops:Array Oper} {Q:Exit->Act->World->Prop} :
  ∀ (l:List Oper) (ss:List SOp) (w:World) (G:Gh) (st st':St) (fr fr':Fr) (a:Act),mapO (cSOp P sh ops 0) l=some ss->Sim w1 w G st->FrRel G w fr a->evOps cl ss fr st=some (fr',st') ->
   (∀ a' w' G',Nxt w1.heap.size G w G' w'->Sim w1 w' G' st'->FrRel G' w' fr' a'->Q .normal a' w')->wpList P ops Q l a w
 |[],ss,w,G,st,st',fr,fr',a,hc,h,hf,he,hQ=>by
  cases hc
  cases he
  exact wpList_nil (hQ _ _ G (Nxt.refl _ _ _) h hf)
 |o::l,ss,w,G,st,st',fr,fr',a,hc,h,hf,he,hQ=>by
  unfold mapO at hc
  cases h1:cSOp P sh ops 0 o with
  |none=>rw[h1] at hc; cases hc
  |some s =>
   rw[h1] at hc
   cases h2:mapO (cSOp P sh ops 0) l with
   |none=>rw[h2] at hc; cases hc
   |some ss' =>
    rw[h2] at hc
    cases hc
    obtain⟨c1,c2,c3,_⟩:=cSOp_some h1
    unfold evOps at he
    cases h3:evSOp cl s fr st with
    |none=>rw[h3] at he; cases he
    |some q =>
     obtain⟨fr1,st1⟩:=q
     rw[h3] at he
     simp only at he
     unfold evSOp at h3
     refine wpList_step fun K hK => ?_
     split at h3
     ·rename_i hw
      rw[if_pos (wanted_ok hf c2 hw)]
      cases h4:evOp cl s.op fr st with
      |none=>rw[h4] at h3; cases h3
      |some q =>
       obtain⟨v,st2⟩:=q
       rw[h4] at h3
       cases h3
       replace c1:=c1.resolve_right fun e=>by rw[e] at h4; cases h4
       refine op_ok hcl hb h hf c1 h4 fun v' w' G' N s' hf' _=>hK _ _ ?_
       rw[c3] at he
       exact ops_ok hcl hb l ss' w' G' st1 st' _ fr' _ h2 s' hf' he fun a'' w'' G'' N' s'' hf''=>hQ a'' w'' G'' (N.trans N') s'' hf''
     ·rename_i hw
      rw[if_neg (by rw[wanted_ok hf c2 hw]; simp)]
      cases h3
      refine hK _ _ ?_
      rw[c3] at he
      exact ops_ok hcl hb l ss' w G st st' _ fr' _ h2 h (hf.put o.dst undef_rep) he hQ
     ·cases h3
def hide (dirty:List Nat) (fr:Fr):Fr:=fr.zipIdx.map fun p=>if dirty.contains p.2 then .undef else p.1
theorem hide_length (dirty:List Nat) (fr:Fr):(hide dirty fr).length=fr.length:=by simp[hide]
theorem hide_get (dirty:List Nat) (fr:Fr) {i:Nat} (hi:i<fr.length):(hide dirty fr)[i]'(by rw[hide_length]; exact hi)=if dirty.contains i then .undef else fr[i]:=by
 simp[hide]
theorem hide_getD (dirty:List Nat) (fr:Fr) {i:Nat} (hi:dirty.contains i=false):(hide dirty fr).getD i .undef=fr.getD i .undef:=by
 by_cases h:i<fr.length
 ·rw[List.getD_eq_getElem?_getD,List.getElem?_eq_getElem (by rw[hide_length]; exact h),hide_get _ _ h,List.getD_eq_getElem?_getD,List.getElem?_eq_getElem h,hi]
  rfl
 ·rw[List.getD_eq_getElem?_getD,List.getElem?_eq_none (by rw[hide_length]; omega),List.getD_eq_getElem?_getD,List.getElem?_eq_none (by omega)]
def Clean (G0:Gh) (wr:World) (dirty:List Nat) (fr:Fr) (a:Act):Prop:=FrRel G0 wr (hide dirty fr) a
theorem Clean.of {G0:Gh} {wr:World} {dirty:List Nat} {fr:Fr} {a:Act} (hs:a.tmps.size=fr.length) (hd:a.defers=[]) (h : ∀ i (hi:i<fr.length),dirty.contains i=false->Rep G0 wr (fr[i]) (a.tmps.getD i Go.undef)):Clean G0 wr dirty fr a:=by
 refine⟨by rw[hide_length,hs],hd,fun i hi => ?_⟩
 rw[hide_length] at hi
 rw[hide_get _ _ hi]
 split
 ·exact .d (.undef _)
 ·rename_i hc; exact h i hi (by simpa using hc)
theorem Clean.at {G0:Gh} {wr:World} {dirty:List Nat} {fr:Fr} {a:Act} (h:Clean G0 wr dirty fr a) {i:Nat} (hi:i<fr.length) (hc:dirty.contains i=false):Rep G0 wr (fr[i]) (a.tmps.getD i Go.undef):=by
 have:=h.rep i (by rw[hide_length]; exact hi)
 rw[hide_get _ _ hi,hc] at this
 simpa using this
theorem Clean.put {G0:Gh} {wr:World} {dirty dirty':List Nat} {fr:Fr} {a:Act} (h:Clean G0 wr dirty fr a) (d:Option Nat) {x:PV} {v:Value}
  (hd : ∀ i,dirty'.contains i=false->(d=some i/\Rep G0 wr x v)\/(d≠some i/\dirty.contains i=false)):Clean G0 wr dirty' (putF d x fr) (a.put d v):=by
 have hsz:a.tmps.size=fr.length:=by have:=h.size; rw[hide_length] at this; exact this
 cases d with
 |none =>
  refine .of hsz h.defers fun i hi hc => ?_
  rcases hd i hc with ⟨h1,_⟩|⟨_,h2⟩
  ·cases h1
  ·exact h.at hi h2
 |some j =>
  refine .of (by simp[Act.put,putF,hsz]) h.defers fun i hi hc => ?_
  simp only[putF,List.length_set] at hi
  simp only[Act.put,putF]
  rcases hd i hc with ⟨h1,h2⟩|⟨h1,h2⟩
  ·cases h1
   rw[List.getElem_set_self,Array.getD_eq_getD_getElem?,Array.getElem?_setIfInBounds_self_of_lt (by omega)]
   exact h2
  ·have hij:j≠i:=fun e=>h1 (by rw[e])
   rw[List.getElem_set_ne hij,Array.getD_eq_getD_getElem?,Array.getElem?_setIfInBounds_ne hij,<- Array.getD_eq_getD_getElem?]
   exact h.at hi h2
def evSchP (cl:CallF) (st0:St) (Φ : Sch->Prop):Tree->Sch->Prop
 |.nil,s => Φ s
 |.alt t u,s=>evSchP cl st0 Φ t s/\evSchP cl st0 Φ u s
 |.cons o l,s=>match wantedB s.fr o.guard with
  |some true=>match evOp cl o.op s.fr (if o.flag=1 then st0 else s.st) with
   |some (v,st')=>evSchP cl st0 Φ l ⟨putF o.dst v s.fr,if o.flag=1 then s.st else st',if o.flag=1 then heldOf o s.fr++s.held else s.held,if o.flag=2 then wroteOf o s.fr++s.wrote else s.wrote⟩
   |none=>False
  |some false=>evSchP cl st0 Φ l ⟨putF o.dst (.tuple []) s.fr,s.st,s.held,s.wrote⟩
  |none=>False
theorem evSchP_of {cl:CallF} {st0:St} {Φ : Sch->Prop} : ∀ (l:Tree) (s sf:Sch),evSch cl st0 l s=some sf->(∀ s':Sch,s'.fr=sf.fr->s'.st=sf.st->(∀ b∈s'.held,b∈sf.held)->(∀ b∈s'.wrote,b∈sf.wrote) -> Φ s')->evSchP cl st0 Φ l s
 |.nil,s,sf,h,hΦ => by cases h; exact hΦ s rfl rfl (fun _ h=>h) fun _ h=>h
 |.alt t u,s,sf,h,hΦ => by
  unfold evSch at h
  split at h
  ·rename_i x y h1 h2
   split at h
   ·rename_i heq0
    have heq:=Sch.eq_of_same heq0
    cases h
    exact⟨evSchP_of t s x h1 fun s' e1 e2 e3 e4=>hΦ s' e1 e2 (fun b hb=>List.mem_append_left _ (e3 b hb)) fun b hb=>List.mem_append_left _ (e4 b hb),
     evSchP_of u s y h2 fun s' e1 e2 e3 e4=>hΦ s' (e1.trans heq.1.symm) (e2.trans heq.2.symm) (fun b hb=>List.mem_append_right _ (e3 b hb)) fun b hb=>List.mem_append_right _ (e4 b hb)⟩
   ·cases h
  ·cases h
 |.cons o l,s,sf,h,hΦ => by
  unfold evSch at h
  unfold evSchP
  cases hw:wantedB s.fr o.guard with
  |none=>rw[hw] at h; cases h
  |some b =>
   rw[hw] at h
   cases b with
   |false=>exact evSchP_of l _ sf h hΦ
   |true =>
    simp only at h ⊢
    cases he:evOp cl o.op s.fr (if o.flag=1 then st0 else s.st) with
    |none=>rw[he] at h; cases h
    |some q =>
     rw[he] at h
     exact evSchP_of l _ sf h hΦ
theorem evSchP_mem {cl:CallF} {st0:St} {Φ : Sch->Prop} : ∀ (l:Tree) (s:Sch),evSchP cl st0 Φ l s -> ∃ sf,Φ sf/\(∀ b∈s.held,b∈sf.held) /\ ∀ b∈s.wrote,b∈sf.wrote
 |.nil,s,h=>⟨s,h,fun _ h=>h,fun _ h=>h⟩
 |.alt t u,s,h=>evSchP_mem t s h.1
 |.cons o l,s,h=>by
  unfold evSchP at h
  split at h
  ·split at h
   ·obtain⟨sf,h0,h1,h2⟩:=evSchP_mem l _ h
    refine⟨sf,h0,fun b hb=>h1 b ?_,fun b hb=>h2 b ?_⟩
    ·simp only; split
     ·exact List.mem_append_right _ hb
     ·exact hb
    ·simp only; split
     ·exact List.mem_append_right _ hb
     ·exact hb
   ·exact h.elim
  ·have h':=evSchP_mem l _ h
   exact h'
  ·exact h.elim
def Held (st0:St) (G0:Gh) (wr:World) (H:List Nat) (w':World):Prop :=
 (∀ b o,G0.F b o->w'.cell? ⟨b,o,none⟩=wr.cell? ⟨b,o,none⟩) /\ ∀ b k,b∈H->Alive st0 b->G0.bx b=some k->w'.heap[k]? = wr.heap[k]?
def Goal (P:Program) (ops:Array Oper) (Q:Exit->Act->World->Prop) (S:World->Prop) (ds:List Nat) (t:STr) (m:Bool) (l:Array Bool) (a:Act) (w:World):Prop :=
 match m with
 |false=>wpAnyLast P .any ops Q S ds t.depth l a w
 |true => ∀ i∈t.heads,AllReadyL P .any ops Q S ds (t.depth-1) l a w [i]
theorem Goal.one {P:Program} {ops:Array Oper} {Q:Exit->Act->World->Prop} {S:World->Prop} {ds:List Nat} {flag i:Nat} {r:STr} {m:Bool} {l:Array Bool} {a:Act} {w:World} {o:Oper} (ho:ops[i]? = some o) (hd:i ∉ ds) (hr:m=false->readyB .any ops l (l.setIfInBounds i true) i=true)
  (h : ∀ K:Act->World->Prop,Shut (∀ a' w',S w'->(S w'->wpAnyLast P .any ops Q S ds r.depth (l.setIfInBounds i true) a' w')->K a' w')->if Region.wanted o (yielded ops a.tmps)=true then Oper.wp P o a w K Q else K (a.put o.dst undef) w):Goal P ops Q S ds (.cons flag i r) m l a w:=by
 cases m with
 |false=>exact one_ (l.setIfInBounds i true) ho rfl (hr rfl) hd h
 |true =>
  intro j hj
  have:j=i:=by simpa [STr.heads] using hj
  subst this
  exact AllReadyL.cons ho hd (fun K hK=>h K hK) AllReadyL.nil
theorem Goal.last {P:Program} {ops:Array Oper} {Q:Exit->Act->World->Prop} {S:World->Prop} {ds:List Nat} {flag i:Nat} {r:STr} {m:Bool} {l:Array Bool} {a:Act} {w:World} {o:Oper} (ho:ops[i]? = some o) (hd:i∈ds) (hr:m=false->readyB .any ops l (l.setIfInBounds i true) i=true)
  (h : ∀ K:Act->World->Prop,Shut (∀ a' w',wpAnyLast P .any ops Q S ds r.depth (l.setIfInBounds i true) a' w'->K a' w')->if Region.wanted o (yielded ops a.tmps)=true then Oper.wp P o a w K Q else K (a.put o.dst undef) w):Goal P ops Q S ds (.cons flag i r) m l a w:=by
 cases m with
 |false=>exact last_ (l.setIfInBounds i true) ho rfl (hr rfl) hd h
 |true =>
  intro j hj
  have:j=i:=by simpa [STr.heads] using hj
  subst this
  exact AllReadyL.cons_last ho hd (fun K hK=>h K hK) AllReadyL.nil
theorem Alive.append {bs:List (List PV)} {rows rows':List (Nat × Nat)} {bt bt' rt rt':List TypeId} {cs:List PV} {b:Nat} (h:Alive ⟨bs,rows,bt,rt⟩ b):Alive ⟨bs++[cs],rows',bt',rt'⟩ b:=by
 obtain⟨c,l,hc⟩:=h
 exact⟨c,l,by simp only at hc ⊢; rw[List.getElem?_append_left (List.getElem?_eq_some_iff.1 hc).1]; exact hc⟩
theorem Alive.rows {bs:List (List PV)} {rows rows':List (Nat × Nat)} {bt bt' rt rt':List TypeId} {b:Nat} (h:Alive ⟨bs,rows,bt,rt⟩ b):Alive ⟨bs,rows',bt',rt'⟩ b:=h
theorem evOp_alive {cl:CallF} {i:IOp} {fr:Fr} {st st':St} {z:PV} (hs:isShared i=false) (he:evOp cl i fr st=some (z,st')) {b:Nat} (h:Alive st b):Alive st' b:=by
 have key:st'.boxes=st.boxes->Alive st' b:=by
  intro e
  obtain⟨c,l,hc⟩:=h
  exact⟨c,l,by rw[e]; exact hc⟩
 cases i with
 |calls=>cases hs
 |callv=>cases hs
 |happend=>cases hs
 |pappend=>cases hs
 |fill=>cases hs
 |box n T x =>
  simp only[evOp] at he
  split at he
  ·cases he; exact h.append
  ·cases he
 |zbox zs T=>cases he; exact h.append
 |store n x y =>
  simp only[evOp] at he
  split at he
  ·rename_i b' o _
   split at he
   ·rename_i cs hcs
    split at he
    ·rename_i hc
     cases he
     obtain⟨c,l,hcb⟩:=h
     unfold Alive
     simp only
     rw[List.getElem?_set]
     by_cases e:b'=b
     ·subst e
      rw[if_pos rfl,if_pos (List.getElem?_eq_some_iff.1 hcs).1]
      rw[hcs] at hcb
      cases hcb
      generalize hq:((c::l).take o++((y.ev fr).cells++(c::l).drop (o+n)))=q
      cases q with
      |nil =>
       have h1:=congrArg List.length hq
       have h2:=hc.1
       have h3:=hc.2.1
       simp only[List.length_append,List.length_take,List.length_drop,List.length_cons,List.length_nil] at h1 h3
       omega
      |cons c' l'=>exact⟨c',l',rfl⟩
     ·rw[if_neg e]; exact⟨c,l,hcb⟩
    ·cases he
   ·cases he
  ·cases he
 |append n bytes T x y =>
  simp only[evOp] at he
  split at he
  ·unfold evAppend at he
   (repeat' split at he) <;> first|(cases he; done)|(cases he; exact key rfl)
  ·cases he
 |bown n z len ps =>
  simp only[evOp] at he
  (repeat' split at he) <;> first|(cases he; done)|(cases he; exact key rfl)
 |mark x =>
  simp only[evOp,markV] at he
  (repeat' split at he) <;> first|(cases he; done)|(cases he; exact key rfl)
 |touns x =>
  simp only[evOp,tounsV] at he
  (repeat' split at he) <;> first|(cases he; done)|(cases he; exact key rfl)
 |fromuns n u x =>
  simp only[evOp,fromunsV] at he
  (repeat' split at he) <;> first|(cases he; done)|(cases he; exact key rfl)
 |ustr T x y =>
  simp only[evOp,ustrV] at he
  (repeat' split at he) <;> first|(cases he; done)|(cases he; exact key rfl)|(obtain⟨_,_,e⟩:=Option.map_eq_some_iff.1 he; cases e; exact key rfl)
 |calli m f as =>
  simp only[evOp] at he
  (repeat' split at he) <;> first|(cases he; done)|(cases he; exact key rfl)|(obtain⟨_,_,e⟩:=Option.map_eq_some_iff.1 he; cases e; exact key rfl)
 |fail=>cases he
 |_ =>
  simp only[evOp] at he
  first
   |(cases he; exact key rfl)
   |(obtain⟨_,_,e⟩:=Option.map_eq_some_iff.1 he; cases e; exact key rfl)
   |((repeat' split at he) <;> first|(cases he; done)|(cases he; exact key rfl)|(obtain⟨_,_,e⟩:=Option.map_eq_some_iff.1 he; cases e; exact key rfl))
theorem STr.heads_pos : ∀ (q:STr),q.even=true -> ∀ i∈q.heads,0<q.depth:=by
 intro q
 induction q with
 |nil=>intro _ i hi; cases hi
 |cons f j q ih=>intro _ i hi; simp[STr.depth]
 |alt p q ihp ihq =>
  intro he i hi
  unfold STr.even at he
  simp only[Bool.and_eq_true,beq_iff_eq] at he
  simp only[STr.depth,he.2,if_true]
  rcases List.mem_append.1 hi with hi|hi
  ·rw[<- he.2]; exact ihp he.1.1 i hi
  ·exact ihq he.1.2 i hi
theorem Goal.alt {P:Program} {ops:Array Oper} {Q:Exit->Act->World->Prop} {S:World->Prop} {ds:List Nat} {t u:STr} {m:Bool} {l:Array Bool} {a:Act} {w:World} (h1:t.even=true) (h2:u.even=true) (h3:t.depth=u.depth)
  (hm:(m||(!(Region.ready .any ops l==[])&&(Region.ready .any ops l).all fun i=>(t.heads++u.heads).contains i))=true) (A:Goal P ops Q S ds t true l a w) (B:Goal P ops Q S ds u true l a w):Goal P ops Q S ds (.alt t u) m l a w:=by
 have C : ∀ i∈(STr.alt t u).heads,AllReadyL P .any ops Q S ds (t.depth-1) l a w [i]:=by
  intro i hi
  rcases List.mem_append.1 hi with hi|hi
  ·exact A i hi
  ·rw[h3]; exact B i hi
 have hdep:(STr.alt t u).depth=t.depth:=by simp only[STr.depth,h3,if_true]
 cases m with
 |true =>
  intro i hi
  rw[hdep]
  exact C i hi
 |false =>
  simp only[Bool.false_or,Bool.and_eq_true,Bool.not_eq_true',beq_eq_false_iff_ne,ne_eq] at hm
  show wpAnyLast P .any ops Q S ds (STr.alt t u).depth l a w
  rw[hdep]
  obtain⟨i0,hi0⟩:=List.exists_mem_of_ne_nil _ hm.1
  have hpos:0<t.depth:=by
   have h4:=List.all_eq_true.1 hm.2 i0 hi0
   have h5:i0∈t.heads++u.heads:=by simpa using h4
   rcases List.mem_append.1 h5 with h5|h5
   ·exact STr.heads_pos t h1 i0 h5
   ·rw[h3]; exact STr.heads_pos u h2 i0 h5
  obtain⟨n,hn⟩ : ∃ n,t.depth=n+1:=⟨t.depth-1,by omega⟩
  rw[hn] at C ⊢
  refine wpAnyLast_ready rfl hm.1 fun i hi => ?_
  have h4:=List.all_eq_true.1 hm.2 i hi
  exact C i (by simpa [STr.heads] using h4) i (List.mem_singleton_self _)
theorem step_kinds {ops:Array Oper} {ds:List Nat} {flag i:Nat} {s:IOp} {l:Array Bool} {dirty:List Nat} {ended m:Bool} (h:(if m then altOk ops ds flag i s ended else stepOk ops ds flag i s l dirty ended)=true) :
  (m=false/\flag=0/\isPure s=true/\anyB .any ops l (l.setIfInBounds i true) i=true) \/
  (m=false/\flag=1/\isLoad s=true/\cleanO s dirty=true/\ended=false/\takeB .any ops ds l (l.setIfInBounds i true) i=true) \/
  (flag=2/\(m=false->readyB .any ops l (l.setIfInBounds i true) i=true)/\isShared s=false/\ended=false/\i ∉ ds) \/
  (flag=3/\(m=false->readyB .any ops l (l.setIfInBounds i true) i=true)/\i∈ds):=by
 cases m with
 |false =>
  simp only[Bool.false_eq_true,if_false] at h
  unfold stepOk at h
  split at h
  ·simp only[Bool.and_eq_true] at h; exact .inl ⟨rfl,rfl,h.1,h.2⟩
  ·simp only[Bool.and_eq_true] at h; exact .inr (.inl ⟨rfl,rfl,h.1.1.1,h.1.1.2,by simpa using h.1.2,h.2⟩)
  ·simp only[Bool.and_eq_true] at h; exact .inr (.inr (.inl ⟨rfl,fun _=>h.1.1.1,by simpa using h.1.1.2,by simpa using h.1.2,by simpa using h.2⟩))
  ·simp only[Bool.and_eq_true] at h; exact .inr (.inr (.inr ⟨rfl,fun _=>h.1,by simpa using h.2⟩))
  ·cases h
 |true =>
  simp only[if_true] at h
  unfold altOk at h
  split at h
  ·simp only[Bool.and_eq_true] at h; exact .inr (.inr (.inl ⟨rfl,(fun h=>by cases h),by simpa using h.1.1,by simpa using h.1.2,by simpa using h.2⟩))
  ·exact .inr (.inr (.inr ⟨rfl,(fun h=>by cases h),by simpa using h⟩))
  ·cases h
theorem tailOk_kinds {ops:Array Oper} {ds:List Nat} {flag i:Nat} {pu m:Bool} {l:Array Bool} (h:tailOk ops ds flag i pu m l=true) :
  (m=false/\flag=0/\pu=true/\anyB .any ops l (l.setIfInBounds i true) i=true)\/(flag=3/\pu=false/\(m=false->readyB .any ops l (l.setIfInBounds i true) i=true)/\i∈ds):=by
 unfold tailOk at h
 split at h
 ·simp only[Bool.and_eq_true,Bool.not_eq_true'] at h
  exact .inl ⟨h.1,rfl,h.2.1,h.2.2⟩
 ·simp only[Bool.and_eq_true,Bool.not_eq_true',Bool.or_eq_true] at h
  refine .inr ⟨rfl,h.1,fun hm => ?_,by simpa using h.2.2⟩
  rcases h.2.1 with h1|h1
  ·rw[hm] at h1; cases h1
  ·exact h1
 ·cases h
def PEnd (B:Nat) (G0:Gh) (wr w1:World) (fin:Option Pn) (s:Sch) (G':Gh) (a':Act) (w':World):Prop :=
 ∃ wi,Nxt B G0 wr G' wi/\Sim w1 wi G' s.st/\FrRel G' wi s.fr a'/\PdOk fin wi w' G' s.fr a'
theorem tail_ok {P:Program} {w0 w1 wr:World} {cl:CallF} (hcl:CallOk P w0 cl) (hb:Below w0.heap.size w0 w1) {sh:FuncId->Nat} {ops:Array Oper} {ds:List Nat} {fin:Option Pn} {G0:Gh} {st0:St} {S:World->Prop}
  {Q:Exit->Act->World->Prop} (hQp : ∀ c a w,¬ Q (.panic c) a w) {Φ : Sch->Prop} (hΦ : ∀ sf,Φ sf -> ∀ G' a' w',PEnd w1.heap.size G0 wr w1 fin sf G' a' w'->Q .normal a' w') :
  ∀ (r:STr) (m:Bool) (ss:Tree) (l:Array Bool) (pd:Option Pn) (w wi:World) (G:Gh) (s:Sch) (a:Act),r.even=true->cTail P sh ops ds fin r m l pd=some ss->Nxt w1.heap.size G0 wr G wi->Sim w1 wi G s.st->FrRel G wi s.fr a->PdOk pd wi w G s.fr a ->
   evSchP cl st0 Φ ss s->Goal P ops Q S ds r m l a w
 |.nil,m,ss,l,pd,w,wi,G,s,a,hev0,hc,N,hs,hf,hpd,he=>by
  unfold cTail at hc
  split at hc
  ·rename_i hr
   cases hc
   obtain⟨hr,rfl⟩:=hr
   simp only[Bool.and_eq_true,Bool.not_eq_true'] at hr
   obtain⟨rfl,hr⟩:=hr
   exact done_ hr (hΦ s he G a w ⟨wi,N,hs,hf,hpd⟩)
  ·cases hc
 |.alt t u,m,ss,l,pd,w,wi,G,s,a,hev0,hc,N,hs,hf,hpd,he=>by
  unfold STr.even at hev0
  simp only[Bool.and_eq_true,beq_iff_eq] at hev0
  unfold cTail at hc
  split at hc
  ·rename_i hm
   split at hc
   ·rename_i t' u' ht hu
    cases hc
    have A:=tail_ok hcl hb hQp hΦ (S:=S) t true t' l pd w wi G s a hev0.1.1 ht N hs hf hpd he.1
    have B:=tail_ok hcl hb hQp hΦ (S:=S) u true u' l pd w wi G s a hev0.1.2 hu N hs hf hpd he.2
    exact Goal.alt hev0.1.1 hev0.1.2 hev0.2 hm A B
   ·cases hc
  ·cases hc
 |.cons flag i r,m,ss,l,pd,w,wi,G,s,a,hev0,hc,N,hs,hf,hpd,he=>by
  unfold STr.even at hev0
  unfold cTail at hc
  split at hc
  ·cases hc
  ·rename_i o ho
   cases pd with
   |some q =>
    simp only at hc
    split at hc
    ·rename_i so pd' hso
     split at hc
     ·rename_i hok
      split at hc
      ·rename_i ss' hss
       cases hc
       obtain⟨k1,k2,k3,k4,_⟩:=cPend_kinds hso
       have hwant:Region.wanted o (yielded ops a.tmps)=true:=wanted_ok hf k1 rfl
       obtain⟨h,hw,H⟩:=hpd
       unfold evSchP at he
       rw[k2] at he
       simp only[wantedB] at he
       rw[k3,k4] at he
       rcases tailOk_kinds hok with ⟨rfl,rfl,p1,p2⟩|⟨rfl,p1,p2,p3⟩
       ·simp only[Nat.zero_ne_one,if_false,show ¬ (0=2) by omega] at he
        cases hev:evOp cl so.op s.fr s.st with
        |none=>rw[hev] at he; exact he.elim
        |some zz =>
         obtain⟨z,st1⟩:=zz
         rw[hev] at he
         simp only at he
         obtain⟨rfl,v,hv,hf',hpd'⟩:=cPend_pure (w1:=w1) hf hw H hso p1 hev
         exact pure_ (l.setIfInBounds i true) ho rfl p2 (fun c a w hq=>absurd hq (hQp _ _ _)) (.inl ⟨hwant,hv⟩) rfl
          (tail_ok hcl hb hQp hΦ (S:=S) r false ss' (l.setIfInBounds i true) pd' w wi G ⟨putF o.dst z s.fr,s.st,s.held,s.wrote⟩ _ hev0 hss N hs hf' hpd' he)
       ·simp only[show ¬ (3=1) by omega,show ¬ (3=2) by omega,if_false] at he
        cases hev:evOp cl so.op s.fr s.st with
        |none=>rw[hev] at he; exact he.elim
        |some zz =>
         obtain⟨z,st1⟩:=zz
         rw[hev] at he
         simp only at he
         obtain⟨hd,w',wi',hrun,N',hs',hpd'⟩:=cPend_mem (P:=P) hs hf hw H hso p1 hev
         rw[hd] at he
         refine Goal.last ho p3 p2 fun K hK => ?_
         rw[if_pos hwant]
         unfold Oper.wp
         rw[hrun,Oper.upon_skip,hd]
         exact hK.out _ _ (tail_ok hcl hb hQp hΦ (S:=S) r false ss' (l.setIfInBounds i true) pd' w' wi' G ⟨s.fr,st1,s.held,s.wrote⟩ a hev0 hss (N.trans N') hs' (hf.mono N') hpd' he)
      ·cases hc
     ·cases hc
    ·cases hc
   |none =>
    simp only at hc
    have hww:w=wi:=hpd
    subst hww
    split at hc
    ·rename_i so hso
     split at hc
     ·rename_i hok
      split at hc
      ·rename_i ss' hss
       cases hc
       obtain⟨c1,c2,c3,c4⟩:=cSOp_some hso
       unfold evSchP at he
       cases hgd:wantedB s.fr so.guard with
       |none=>rw[hgd] at he; exact he.elim
       |some gb =>
        rw[hgd] at he
        have hwant:=wanted_ok hf c2 hgd
        rw[c3,c4] at he
        cases gb with
        |false =>
         simp only at he
         have hf':=hf.put o.dst (undef_rep (G:=G) (w:=w))
         have IH:=tail_ok hcl hb hQp hΦ (S:=S) r false ss' (l.setIfInBounds i true) none w w G ⟨putF o.dst (.tuple []) s.fr,s.st,s.held,s.wrote⟩ _ hev0 hss N hs hf' rfl he
         rcases tailOk_kinds hok with ⟨rfl,rfl,p1,p2⟩|⟨rfl,p1,p2,p3⟩
         ·exact pure_ (l.setIfInBounds i true) ho rfl p2 (fun c a w hq=>absurd hq (hQp _ _ _)) (.inr ⟨hwant,rfl⟩) rfl IH
         ·refine Goal.last ho p3 p2 fun K hK => ?_
          rw[if_neg (by rw[hwant]; simp)]
          exact hK.out _ _ IH
        |true =>
         simp only at he
         rcases tailOk_kinds hok with ⟨rfl,rfl,p1,p2⟩|⟨rfl,p1,p2,p3⟩
         ·simp only[Nat.zero_ne_one,if_false,show ¬ (0=2) by omega] at he
          cases hev:evOp cl so.op s.fr s.st with
          |none=>rw[hev] at he; exact he.elim
          |some zz =>
           obtain⟨z,st1⟩:=zz
           rw[hev] at he
           simp only at he
           replace c1:cOp P sh o.op=some so.op:=c1.resolve_right fun e=>by rw[e] at hev; simp[evOp] at hev
           obtain⟨rfl,v,hv,hr⟩:=pure_ok hf c1 p1 hev
           exact pure_ (l.setIfInBounds i true) ho rfl p2 (fun c a w hq=>absurd hq (hQp _ _ _)) (.inl ⟨hwant,hv⟩) rfl
            (tail_ok hcl hb hQp hΦ (S:=S) r false ss' (l.setIfInBounds i true) none w w G ⟨putF o.dst z s.fr,s.st,s.held,s.wrote⟩ _ hev0 hss N hs (hf.put o.dst hr) rfl he)
         ·simp only[show ¬ (3=1) by omega,show ¬ (3=2) by omega,if_false] at he
          cases hev:evOp cl so.op s.fr s.st with
          |none=>rw[hev] at he; exact he.elim
          |some zz =>
           obtain⟨z,st1⟩:=zz
           rw[hev] at he
           simp only at he
           replace c1:cOp P sh o.op=some so.op:=c1.resolve_right fun e=>by rw[e] at hev; simp[evOp] at hev
           refine Goal.last ho p3 p2 fun K hK => ?_
           rw[if_pos hwant]
           refine op_ok hcl hb hs hf c1 hev fun v' w' G' N' s' hf' _ => ?_
           exact hK.out _ _ (tail_ok hcl hb hQp hΦ (S:=S) r false ss' (l.setIfInBounds i true) none w' w' G' ⟨putF o.dst z s.fr,st1,s.held,s.wrote⟩ _ hev0 hss (N.trans N') s' hf' rfl he)
      ·cases hc
     ·cases hc
    ·cases hc
theorem sch_ok {P:Program} {w0 w1 wr:World} {cl:CallF} (hcl:CallOk P w0 cl) (hb:Below w0.heap.size w0 w1) {sh:FuncId->Nat} {ops:Array Oper} {ds:List Nat} {pa:List (Nat × Nat)} {fin:Option Pn} {G0:Gh} {st0:St} (h0:Sim w1 wr G0 st0) {H:List Nat}
  {Q:Exit->Act->World->Prop} (hQp : ∀ c a w,¬ Q (.panic c) a w) {Φ : Sch->Prop}
  (hΦ : ∀ sf,Φ sf->(∀ b∈sf.held,b∈H)/\(∀ b∈sf.wrote,b ∉ H) /\ ∀ G' a' w',PEnd w1.heap.size G0 wr w1 fin sf G' a' w'->Q .normal a' w') :
  ∀ (r:STr) (m:Bool) (ss:Tree) (l:Array Bool) (dirty:List Nat) (ended:Bool) (w:World) (G:Gh) (s:Sch) (a:Act),r.even=true->cSched P sh ops ds pa fin r m l dirty ended=some ss->Nxt w1.heap.size G0 wr G w->Sim w1 w G s.st->FrRel G w s.fr a->Clean G0 wr dirty s.fr a ->
   (ended=false->Held st0 G0 wr H w)->(ended=false -> ∀ b,b∈H->Alive st0 b->Alive s.st b)->evSchP cl st0 Φ ss s->Goal P ops Q (Held st0 G0 wr H) ds r m l a w
 |.nil,m,ss,l,dirty,ended,w,G,s,a,hev0,hc,N,hs,hf,hcln,hS,hal,he=>by
  unfold cSched at hc
  split at hc
  ·rename_i hr
   cases hc
   obtain⟨hr,rfl⟩:=hr
   simp only[Bool.and_eq_true,Bool.not_eq_true'] at hr
   obtain⟨rfl,hr⟩:=hr
   exact done_ hr ((hΦ s he).2.2 G a w ⟨w,N,hs,hf,rfl⟩)
  ·cases hc
 |.alt t u,m,ss,l,dirty,ended,w,G,s,a,hev0,hc,N,hs,hf,hcln,hS,hal,he=>by
  unfold STr.even at hev0
  simp only[Bool.and_eq_true,beq_iff_eq] at hev0
  unfold cSched at hc
  split at hc
  ·rename_i hm
   split at hc
   ·rename_i t' u' ht hu
    cases hc
    have A:=sch_ok hcl hb h0 (H:=H) hQp hΦ t true t' l dirty ended w G s a hev0.1.1 ht N hs hf hcln hS hal he.1
    have B:=sch_ok hcl hb h0 (H:=H) hQp hΦ u true u' l dirty ended w G s a hev0.1.2 hu N hs hf hcln hS hal he.2
    exact Goal.alt hev0.1.1 hev0.1.2 hev0.2 hm A B
   ·cases hc
  ·cases hc
 |.cons flag i r,m,ss,l,dirty,ended,w,G,s,a,hev0,hc,N,hs,hf,hcln,hS,hal,he=>by
  unfold STr.even at hev0
  unfold cSched at hc
  split at hc
  ·cases hc
  ·rename_i o ho
   split at hc
   ·rename_i v hv
    split at hc
    ·rename_i so q hso
     split at hc
     ·rename_i hok
      obtain⟨rfl,hok⟩:=hok
      split at hc
      ·rename_i ss' hss
       cases hc
       unfold evSchP at he
       have hsg:so.guard=none:=by
        unfold cPap at hso
        (repeat' split at hso) <;> first|(cases hso; done)|(cases hso; rfl)
       rw[hsg] at he
       simp only[wantedB] at he
       have hflag:so.flag=3:=by
        unfold cPap at hso
        (repeat' split at hso) <;> first|(cases hso; done)|(cases hso; rfl)
       simp only[hflag,show ¬ (3=1) by omega,show ¬ (3=2) by omega,if_false] at he
       cases hev:evOp cl so.op s.fr s.st with
       |none=>rw[hev] at he; exact he.elim
       |some zz =>
        obtain⟨z,st1⟩:=zz
        rw[hev] at he
        simp only at he
        obtain⟨k1,k2,k3,k4,r0,w',G',wi,hrun,N',s',hf',hpd⟩:=cPap_ok (P:=P) hs hf hso hev
        rw[k3] at he
        have hwant:Region.wanted o (yielded ops a.tmps)=true:=wanted_ok hf k1 rfl
        rcases tailOk_kinds hok with ⟨_,h03,_⟩|⟨_,_,p2,p3⟩
        ·cases h03
        refine Goal.last ho p3 p2 fun K hK => ?_
        rw[if_pos hwant]
        refine wp_value hrun ?_
        exact hK.out _ _ (tail_ok hcl hb hQp (fun sf hsf G' a' w' h=>(hΦ sf hsf).2.2 G' a' w' h) r false ss' (l.setIfInBounds i true) (some q) w' wi G' ⟨putF o.dst z s.fr,st1,s.held,s.wrote⟩ _ hev0 hss (N.trans N') s' hf' hpd he)
      ·cases hc
     ·cases hc
    ·cases hc
   split at hc
   ·cases hc
   ·rename_i so hso
    obtain⟨c1,c2,c3,c4⟩:=cSOp_some hso
    by_cases hok:(if m then altOk ops ds flag i so.op ended else stepOk ops ds flag i so.op l dirty ended)=true
    ·rw[if_pos hok] at hc
     split at hc
     ·rename_i ss' hss
      cases hc
      -- what the frame is behind a step that is clean,or is not
      have hclean : ∀ (z:PV) (v:Value),(flag<=1->cleanO so.op dirty=true->Rep G0 wr z v)->Clean G0 wr (dirtyN o.dst (decide (flag<=1)&&cleanO so.op dirty) dirty) (putF o.dst z s.fr) (a.put o.dst v):=by
       intro z v hz
       refine hcln.put o.dst fun j hj => ?_
       unfold dirtyN at hj
       cases hod:o.dst with
       |none=>rw[hod] at hj; exact .inr ⟨by simp,hj⟩
       |some d =>
        rw[hod] at hj
        simp only at hj
        split at hj
        ·rename_i hcf
         simp only[Bool.and_eq_true,decide_eq_true_eq] at hcf
         by_cases e:d=j
         ·subst e; exact .inl ⟨rfl,hz hcf.1 hcf.2⟩
         ·refine .inr ⟨by simpa using e,?_⟩
          rw[Bool.eq_false_iff] at hj ⊢
          intro hm
          refine hj ?_
          simp only[List.contains_iff_mem,List.mem_filter] at hm ⊢
          exact⟨hm,by simp; exact fun e'=>e e'.symm⟩
        ·refine .inr ⟨?_,?_⟩
         ·intro e; cases e
          rw[Bool.eq_false_iff] at hj
          exact hj (by simp)
         ·rw[Bool.eq_false_iff] at hj ⊢
          intro hm
          refine hj ?_
          simp only[List.contains_iff_mem] at hm ⊢
          exact List.mem_cons_of_mem _ hm
      have hdirty : ∀ ts,looksO so.op=some ts->cleanO so.op dirty=true -> ∀ t∈ts,(hide dirty s.fr).getD t .undef=s.fr.getD t .undef:=by
       intro ts hts hc t ht
       unfold cleanO at hc
       rw[hts] at hc
       simp only at hc
       have:=List.all_eq_true.1 hc t ht
       exact hide_getD _ _ (by simpa using this)
      have hlooks:cleanO so.op dirty=true -> ∃ ts,looksO so.op=some ts:=by
       intro hc
       unfold cleanO at hc
       split at hc
       ·rename_i ts hts; exact⟨ts,hts⟩
       ·cases hc
      unfold evSchP at he
      -- the guard
      cases hgd:wantedB s.fr so.guard with
      |none=>rw[hgd] at he; cases he
      |some gb =>
       rw[hgd] at he
       have hwant:=wanted_ok hf c2 hgd
       cases gb with
       |false =>
        simp only at he
        rw[c3] at he
        have hf':=hf.put o.dst (undef_rep (G:=G) (w:=w))
        have hcl2:=hclean (.tuple []) Go.undef fun _ _=>undef_rep
        have hal':(ended||flag==3)=false -> ∀ b,b∈H->Alive st0 b->Alive s.st b:=fun he=>hal (by simp only[Bool.or_eq_false_iff] at he; exact he.1)
        have IH:=fun hS'=>sch_ok hcl hb h0 hQp hΦ r false ss' (l.setIfInBounds i true) _ (ended||flag==3) w G ⟨putF o.dst (.tuple []) s.fr,s.st,s.held,s.wrote⟩ _ hev0 hss N hs hf' hcl2 hS' hal' he
        rcases step_kinds hok with ⟨rfl,rfl,k1,k2⟩|⟨rfl,rfl,k1,k2,k3,k4⟩|⟨rfl,k1,k2,k3,k4⟩|⟨rfl,k1,k2⟩
        ·exact pure_ (l.setIfInBounds i true) ho rfl k2 (fun c a w hq=>absurd hq (hQp _ _ _)) (.inr ⟨hwant,rfl⟩) rfl (IH fun he=>hS (by simpa using he))
        ·exact take_ (l.setIfInBounds i true) ho rfl k4 (fun c a w hq=>absurd hq (hQp _ _ _)) (.inr ⟨hwant,rfl⟩) (hS k3) rfl (IH fun he=>hS (by simpa using he))
        ·have hen:ended=false:=k3
         refine Goal.one ho k4 k1 fun K hK => ?_
         rw[if_neg (by rw[hwant]; simp)]
         exact hK.out _ _ (hS hen) fun _=>IH fun _=>hS hen
        ·refine Goal.last ho k2 k1 fun K hK => ?_
         rw[if_neg (by rw[hwant]; simp)]
         exact hK.out _ _ (IH fun he=>by simp at he)
       |true =>
        simp only at he
        replace c1:cOp P sh o.op=some so.op:=c1.resolve_right fun e=>by rw[e] at he; simp[evOp] at he
        rcases step_kinds hok with ⟨rfl,rfl,p1,p2⟩|⟨rfl,rfl,k1,k2,k3,k4⟩|⟨rfl,k1,k2,k3,k4⟩|⟨rfl,k1,k2⟩
        ·
         simp only[c4,Nat.zero_ne_one,if_false,show ¬ (0=2) by omega] at he
         cases hev:evOp cl so.op s.fr s.st with
         |none=>rw[hev] at he; exact he.elim
         |some q =>
          obtain⟨z,st1⟩:=q
          rw[hev] at he
          simp only at he
          obtain⟨rfl,v,hv,hr⟩:=pure_ok hf c1 p1 hev
          have hcl2:=hclean z v fun _ hc=>by
           obtain⟨ts,hts⟩:=hlooks hc
           have e:=evOp_same (cl:=cl) hts (fr:=hide dirty s.fr) (fr':=s.fr) (hdirty ts hts hc) s.st
           rw[hev] at e
           obtain⟨_,v',hv',hr'⟩:=pure_ok hcln c1 p1 e
           have:=(hv wr).symm.trans (hv' wr)
           cases this
           exact hr'
          rw[c3] at he
          exact pure_ (l.setIfInBounds i true) ho rfl p2 (fun c a w hq=>absurd hq (hQp _ _ _)) (.inl ⟨hwant,hv⟩) rfl
           (sch_ok hcl hb h0 hQp hΦ r false ss' (l.setIfInBounds i true) _ (ended||0==3) w G ⟨putF o.dst z s.fr,s.st,s.held,s.wrote⟩ _ hev0 hss N hs (hf.put o.dst hr) hcl2 (fun he=>hS (by simpa using he)) (fun he=>hal (by simpa using he)) he)
        ·
         have hen:ended=false:=k3
         simp only[c4,if_true,show ¬ (1=2) by omega,if_false] at he
         obtain⟨ts,hts⟩:=hlooks k2
         have e:=evOp_same (cl:=cl) hts (fr:=hide dirty s.fr) (fr':=s.fr) (hdirty ts hts k2) st0
         cases hev:evOp cl so.op s.fr st0 with
         |none=>rw[hev] at he; exact he.elim
         |some q =>
          obtain⟨z,st1⟩:=q
          rw[hev] at he e
          simp only at he
          have hheld : ∀ b∈heldOf so s.fr,b∈H:=fun b hb'=>by
           obtain⟨sf,h1,h2,h3⟩:=evSchP_mem _ _ he
           exact (hΦ sf h1).1 b (h2 b (List.mem_append_left _ hb'))
          cases hop:so.op with
          |load m y =>
           rw[hop] at c1 e hev
           obtain⟨t,x,hot,hlt,hx⟩ : ∃ t x,o.op = .load t x/\loadT P t=some m/\cOpd x=some y:=by
            cases hq:o.op with
            |load t x =>
             rw[hq] at c1
             simp only[cOp] at c1
             split at c1
             ·rename_i q1 q2
              cases c1
              exact⟨t,x,rfl,q1,q2⟩
             ·cases c1
            |call c =>
             exfalso
             rw[hq] at c1
             simp only[cOp,cCall] at c1
             (repeat' split at c1) <;> first|(cases c1; done)|(obtain⟨y,_,e'⟩:=Option.map_eq_some_iff.1 c1; cases e'; done)
            |_ =>
             exfalso
             rw[hq] at c1
             first
              |cases c1; done
              |(simp only[cOp] at c1; obtain⟨y,_,e'⟩:=Option.map_eq_some_iff.1 c1; cases e'; done)
              |(simp only[cOp] at c1; (repeat' split at c1) <;> first|(cases c1; done)|(obtain⟨y,_,e'⟩:=Option.map_eq_some_iff.1 c1; cases e'; done))
           obtain⟨_,b,q,f,hv,hcell,hr,hrun,hwhere⟩:=load_ok h0 hlt (cOpd_rep hcln hx) rfl e
           have hrunS : ∀ w',Held st0 G0 wr H w'->(execOp a.eval o).run P w' = .ok (.value (ldv m f)) w':=by
            intro w' hw'
            simp only[execOp,hot]
            rw[Sem.run_bind,hrun w' fun j hj => ?_]
            ·rfl
            ·rcases hwhere with ⟨bb,oo,e1,e2,e20⟩|hF
             ·have hin:bb∈H:=by
               refine hheld bb ?_
               unfold heldOf
               rw[hop]
               have e3:y.ev s.fr=y.ev (hide dirty s.fr):=by
                rw[hop] at hts
                exact ev_same (l:=[y]) (fun t ht=>(hdirty ts (by rw[hop]; exact hts) k2 t (by cases hts; exact ht)).symm) (by simp)
               simp only
               rw[e3,e1]
               simp
              have:=hw'.2 bb b hin (e20 (by omega)) e2
              rw[cell_of_heap this]
              exact hcell j hj
             ·rw[hw'.1 b (q+j) (hF j hj)]
              exact hcell j hj
           have hcl2:=hclean z (ldv m f) fun _ _=>hr
           rw[c3] at he
           exact take_ (l.setIfInBounds i true) ho rfl k4 (fun c a w hq=>absurd hq (hQp _ _ _)) (.inl ⟨hwant,hrunS⟩) (hS hen) rfl
            (sch_ok hcl hb h0 hQp hΦ r false ss' (l.setIfInBounds i true) _ (ended||1==3) w G ⟨putF o.dst z s.fr,s.st,heldOf so s.fr++s.held,s.wrote⟩ _ hev0 hss N hs (hf.put o.dst (hr.mono N)) hcl2 (fun _=>hS hen) (fun _=>hal hen) he)
          |_=>rw[hop] at k1; cases k1
        ·
         have hen:ended=false:=k3
         simp only[c4,show ¬ (2=1) by omega,if_false,if_true] at he
         cases hev:evOp cl so.op s.fr s.st with
         |none=>rw[hev] at he; exact he.elim
         |some q =>
          obtain⟨z,st1⟩:=q
          rw[hev] at he
          simp only at he
          have hwrote : ∀ b∈wroteOf so s.fr,b ∉ H:=fun b hb'=>by
           obtain⟨sf,h1,h2,h3⟩:=evSchP_mem _ _ he
           exact (hΦ sf h1).2.1 b (h3 b (List.mem_append_left _ hb'))
          rw[c3] at he
          refine Goal.one ho k4 k1 fun K hK => ?_
          rw[if_pos hwant]
          refine op_ok hcl hb hs hf c1 hev fun v' w' G' N' s' hf' hkeep => ?_
          have hcl2:=hclean z v' fun hfl _=>absurd hfl (by omega)
          have HELD:Held st0 G0 wr H w':=by
           refine⟨fun b o hF=>(N.trans N').tr b o hF,fun b k hbH hb0 hk => ?_⟩
           rw[hkeep b k ⟨?_,hal hen b hbH hb0⟩ (N.bx b k hk).1]
           ·exact (hS hen).2 b k hbH hb0 hk
           ·unfold keepsB
            split
            ·rename_i n' x' y' hop
             intro b' o' hb' e
             subst e
             refine hwrote b ?_ hbH
             unfold wroteOf
             rw[hop]
             simp only
             rw[hb']
             simp
            ·rename_i hop; rw[hop] at k2; cases k2
            ·rename_i hop; rw[hop] at k2; cases k2
            ·rename_i hop; rw[hop] at k2; cases k2
            ·trivial
          exact hK.out _ _ HELD fun _=>sch_ok hcl hb h0 hQp hΦ r false ss' (l.setIfInBounds i true) _ (ended||2==3) w' G' ⟨putF o.dst z s.fr,st1,s.held,wroteOf so s.fr++s.wrote⟩ _ hev0 hss (N.trans N') s' hf' hcl2 (fun _=>HELD) (fun _ b hb0 hb1=>evOp_alive k2 hev (hal hen b hb0 hb1)) he
        ·
         simp only[c4,show ¬ (3=1) by omega,show ¬ (3=2) by omega,if_false] at he
         cases hev:evOp cl so.op s.fr s.st with
         |none=>rw[hev] at he; exact he.elim
         |some q =>
          obtain⟨z,st1⟩:=q
          rw[hev] at he
          simp only at he
          rw[c3] at he
          refine Goal.last ho k2 k1 fun K hK => ?_
          rw[if_pos hwant]
          refine op_ok hcl hb hs hf c1 hev fun v' w' G' N' s' hf' _ => ?_
          have hcl2:=hclean z v' fun hfl _=>absurd hfl (by omega)
          exact hK.out _ _ (sch_ok hcl hb h0 hQp hΦ r false ss' (l.setIfInBounds i true) _ (ended||3==3) w' G' ⟨putF o.dst z s.fr,st1,s.held,s.wrote⟩ _ hev0 hss (N.trans N') s' hf' hcl2 (fun he=>by simp at he) (fun he=>by simp at he) he)
     ·cases hc
    ·rw[if_neg hok] at hc; cases hc
end Go.Proofs.YthjnlpfibakacaaGreatDoorPe
