/- A part of the proof of this folder's statement; it has no condition of its own. -/
import Derived.Test.YthjnlpfibakacaaGreatDoorTmpfRm
set_option linter.unusedVariables false
set_option linter.unusedSimpArgs false
set_option maxRecDepth 100000
namespace Go.Proofs.YthjnlpfibakacaaGreatDoorPe.Tmpf
open Go Go.Proofs Go.Proofs.YthjnlpfibakacaaGreatDoorPe Go.Proofs.YthjnlpfibakacaaGreatDoorPe.TmpfCode
end Go.Proofs.YthjnlpfibakacaaGreatDoorPe.Tmpf
set_option linter.unusedVariables false
set_option linter.unusedSimpArgs false
set_option maxRecDepth 100000
namespace Go.Proofs.YthjnlpfibakacaaGreatDoorPe.Tmpf
open Go Go.Proofs Go.Proofs.YthjnlpfibakacaaGreatDoorPe Go.Proofs.YthjnlpfibakacaaGreatDoorPe.TmpfCode
inductive Wf:Nd->Prop where
 |leaf (k pos i:Int) (s:List UInt8) (h:TokK ⟨k,i,s⟩) (h4 : ¬ k=4) (h5 : ¬ k=5) (h8 : ¬ k=8):Wf (.mk k pos i s [])
 |no (pos:Int) (k p i:Int) (s:List UInt8) (h:TokK ⟨k,i,s⟩) (h4 : ¬ k=4) (h5 : ¬ k=5) (h8 : ¬ k=8):Wf (.mk 8 pos 0 [] [.mk k p i s []])
 |list (pos:Int) (l:List Nd) (h : ∀ x,x∈l->Wf x):Wf (.mk 0 pos 0 [] l)
theorem Wf.kids {x:Nd} (h:Wf x) : ∀ y∈x.kids,Wf y:=by
 cases h with
 |leaf=>intro y hy; cases hy
 |no pos k p i s h h4 h5 h8 =>
  intro y hy
  simp only[Nd.kids,List.mem_singleton] at hy
  subst hy
  exact .leaf k p i s h h4 h5 h8
 |list pos l h=>exact h
end Go.Proofs.YthjnlpfibakacaaGreatDoorPe.Tmpf
set_option linter.unusedVariables false
set_option linter.unusedSimpArgs false
set_option maxRecDepth 100000
namespace Go.Proofs.YthjnlpfibakacaaGreatDoorPe.Tmpf
open Go Go.Proofs Go.Proofs.YthjnlpfibakacaaGreatDoorPe Go.Proofs.YthjnlpfibakacaaGreatDoorPe.TmpfCode
end Go.Proofs.YthjnlpfibakacaaGreatDoorPe.Tmpf
set_option linter.unusedVariables false
set_option linter.unusedSimpArgs false
set_option maxRecDepth 100000
namespace Go.Proofs.YthjnlpfibakacaaGreatDoorPe.Tmpf
open Go Go.Proofs Go.Proofs.YthjnlpfibakacaaGreatDoorPe Go.Proofs.YthjnlpfibakacaaGreatDoorPe.TmpfCode
def WfR (r:Rd):Prop:=(∀ x∈r.out,Wf x) /\ ∀ s∈r.stk,∀ x∈s.2,Wf x
theorem put_wf {x:Nd} {stk:Stk} {out:List Nd} {n m:Nat} (hx:Wf x) (h:WfR ⟨n,stk,out⟩):WfR ⟨m,(putM x stk out).1,(putM x stk out).2⟩:=by
 obtain⟨h1,h2⟩:=h
 cases stk with
 |nil =>
  refine⟨fun y hy => ?_,fun s hs=>(by cases hs)⟩
  rcases List.mem_append.1 hy with hy|hy
  ·exact h1 y hy
  ·rw[List.mem_singleton.1 hy]; exact hx
 |cons s r =>
  obtain⟨a,ks⟩:=s
  refine⟨h1,fun s hs y hy => ?_⟩
  rcases List.mem_cons.1 hs with rfl|hs
  ·rcases List.mem_append.1 hy with hy|hy
   ·exact h2 (a,ks) (List.mem_cons_self ..) y hy
   ·rw[List.mem_singleton.1 hy]; exact hx
  ·exact h2 s (List.mem_cons_of_mem _ hs) y hy
theorem step_wf {t:Tok} {ts:List Tok} {r:Rd} {q:Nat × Rd} (ht : ∀ u∈t::ts,TokK u.tk) (h:WfR r) (hq:stepM t ts r = .ok q):WfR q.2:=by
 obtain⟨n,stk,out⟩:=r
 have htk:=ht t (List.mem_cons_self ..)
 unfold stepM at hq
 split at hq
 ·split at hq
  ·cases hq
  ·split at hq
   ·cases hq
   ·rename_i u us
    have hu:=ht u (List.mem_cons_of_mem _ (List.mem_cons_self ..))
    split at hq
    ·cases hq
    ·rename_i hk
     split at hq
     ·cases hq
     ·cases hq
      exact put_wf (.no _ _ _ _ _ hu (fun e=>hk (.inl e)) (fun e=>hk (.inr (.inl e))) fun e=>hk (.inr (.inr e))) h
 ·rename_i h8
  split at hq
  ·split at hq
   ·cases hq
   ·split at hq
    ·cases hq
    ·cases hq
     refine⟨h.1,fun s hs y hy => ?_⟩
     rcases List.mem_cons.1 hs with rfl|hs
     ·cases hy
     ·exact h.2 s hs y hy
  ·rename_i h4
   split at hq
   ·split at hq
    ·cases hq
    ·rename_i a ks s hs
     simp only at hs
     subst hs
     cases hq
     exact put_wf (.list _ _ (h.2 (a,ks) (List.mem_cons_self ..))) (n:=n) ⟨h.1,fun s' hs'=>h.2 s' (List.mem_cons_of_mem _ hs')⟩
   ·rename_i h5
    split at hq
    ·cases hq
    ·cases hq
     exact put_wf (.leaf _ _ _ _ htk h4 h5 h8) h
theorem run_wf : ∀ (f:Nat) (l:List Tok) (r:Rd) (res:List Nd),(∀ t∈l,TokK t.tk)->WfR r->runM f l r = .ok res -> ∀ x∈res,Wf x
 |0,_,_,_,_,_,h=>by unfold runM at h; cases h
 |f+1,l,r,res,ht,hw,h=>by
  unfold runM at h
  cases l with
  |nil =>
   simp only at h
   unfold endM at h
   split at h
   ·cases h; exact hw.1
   ·cases h
  |cons t ts =>
   simp only at h
   split at h
   ·cases h
   ·rename_i q hq
    exact run_wf f _ q.2 res (fun u hu=>ht u (List.mem_of_mem_drop hu)) (step_wf ht hw hq) h
theorem readM_ok {b:List UInt8} {r:List Nd} (h:readM b = .ok r):(∀ x∈r,Wf x)/\Nd.szs r<=4096:=by
 unfold readM at h
 split at h
 ·cases h
 ·rename_i l hl
  have hk:=scanL_kind hl
  refine⟨?_,readL_sz h⟩
  rw[<- run_read fun t ht=>plain_of (hk t ht)] at h
  exact run_wf _ l _ r hk ⟨fun x hx=>(by cases hx),fun s hs=>(by cases hs)⟩ h
theorem node_err2 : ∀ (f:Nat),(∀ (deep:Nat) (l:List Tok) (n:Nat) (e:Int × Int),2*l.length<=f->l≠[]->nodeM f deep l n = .error e->2<=e.2/\e.2<=4 /\ ∃ t∈l,e.1=(t.pos:Int)) /\
  ∀ (deep pos:Nat) (i:Int) (s:List UInt8) (l:List Tok) (n:Nat) (acc:List Nd) (e:Int × Int),2*l.length+1<=f->kidsM f deep pos i s l n acc = .error e->2<=e.2/\e.2<=4/\(e.1=(pos:Int) \/ ∃ t∈l,e.1=(t.pos:Int))
 |0=>⟨fun deep l n e hf hne h=>absurd (List.eq_nil_of_length_eq_zero (by omega)) hne,fun deep pos i s l n acc e hf h=>(by omega)⟩
 |f+1=>by
  obtain⟨ih1,ih2⟩:=node_err2 f
  constructor
  ·intro deep l n e hf hne h
   unfold nodeM at h
   split at h
   ·exact absurd rfl hne
   ·rename_i t ts
    simp only[List.length_cons] at hf
    split at h
    ·cases h; exact⟨by simp,by simp,t,List.mem_cons_self ..,rfl⟩
    ·split at h
     ·cases h; exact⟨by simp,by simp,t,List.mem_cons_self ..,rfl⟩
     ·split at h
      ·split at h
       ·cases h; exact⟨by simp,by simp,t,List.mem_cons_self ..,rfl⟩
       ·split at h
        ·cases h; exact⟨by simp,by simp,t,List.mem_cons_self ..,rfl⟩
        ·split at h
         ·rename_i e' he
          cases h
          obtain⟨h1,h2,u,hu,h3⟩:=ih1 _ _ _ _ (by omega) (by simp) he
          exact⟨h1,h2,u,List.mem_cons_of_mem _ hu,h3⟩
         ·cases h
      ·split at h
       ·split at h
        ·cases h; exact⟨by simp,by simp,t,List.mem_cons_self ..,rfl⟩
        ·obtain⟨h1,h2,h3⟩:=ih2 _ _ _ _ _ _ _ _ (by omega) h
         refine⟨h1,h2,?_⟩
         rcases h3 with h3|⟨u,hu,h3⟩
         ·exact⟨t,List.mem_cons_self ..,h3⟩
         ·exact⟨u,List.mem_cons_of_mem _ hu,h3⟩
       ·cases h
  ·intro deep pos i s l n acc e hf h
   unfold kidsM at h
   split at h
   ·cases h; exact⟨by simp,by simp,.inl rfl⟩
   ·rename_i u us
    simp only[List.length_cons] at hf
    split at h
    ·cases h
    ·split at h
     ·rename_i e' he
      cases h
      obtain⟨h1,h2,h3⟩:=ih1 _ _ _ _ (by simp only[List.length_cons]; omega) (by simp) he
      exact⟨h1,h2,.inr h3⟩
     ·rename_i q hq
      obtain⟨⟨d,hd1,hd2,hd3⟩,_⟩:=(node_left _).1 _ _ _ _ hq
      have hl:q.2.1.length+d=us.length+1:=by
       rw[hd3,List.length_drop]
       simp only[List.length_cons] at hd2 ⊢
       omega
      obtain⟨h1,h2,h3⟩:=ih2 _ _ _ _ _ _ _ _ (by omega) h
      refine⟨h1,h2,?_⟩
      rcases h3 with h3|⟨x,hx,h3⟩
      ·exact .inl h3
      ·rw[hd3] at hx
       exact .inr ⟨x,List.mem_of_mem_drop hx,h3⟩
theorem readT_err : ∀ (f:Nat) (l:List Tok) (n:Nat) (acc:List Nd) (e:Int × Int),l.length+1<=f->readT f l n acc = .error e->2<=e.2/\e.2<=4 /\ ∃ t∈l,e.1=(t.pos:Int)
 |0,l,n,acc,e,hf,h=>by omega
 |f+1,l,n,acc,e,hf,h=>by
  unfold readT at h
  split at h
  ·cases h
  ·rename_i t ts
   split at h
   ·rename_i e' he
    cases h
    exact (node_err2 _).1 _ _ _ _ (Nat.le_refl _) (by simp) he
   ·rename_i q hq
    obtain⟨⟨d,hd1,hd2,hd3⟩,_⟩:=(node_left _).1 _ _ _ _ hq
    have hl:q.2.1.length+d=ts.length+1:=by
     rw[hd3,List.length_drop]
     simp only[List.length_cons] at hd2 ⊢
     omega
    simp only[List.length_cons] at hf
    obtain⟨h1,h2,x,hx,h3⟩:=readT_err f _ _ _ _ (by omega) h
    rw[hd3] at hx
    exact⟨h1,h2,x,List.mem_of_mem_drop hx,h3⟩
end Go.Proofs.YthjnlpfibakacaaGreatDoorPe.Tmpf
