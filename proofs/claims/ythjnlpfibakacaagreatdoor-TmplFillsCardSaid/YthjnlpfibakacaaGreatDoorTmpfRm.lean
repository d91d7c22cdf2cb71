/- A part of the proof of this folder's statement; it has no condition of its own. -/
import Derived.Test.YthjnlpfibakacaaGreatDoorTmpfNd
set_option linter.unusedVariables false
set_option linter.unusedSimpArgs false
set_option maxRecDepth 100000
namespace Go.Proofs.YthjnlpfibakacaaGreatDoorPe.Tmpf
open Go Go.Proofs Go.Proofs.YthjnlpfibakacaaGreatDoorPe Go.Proofs.YthjnlpfibakacaaGreatDoorPe.TmpfCode
abbrev Stk:=List (Nat × List Nd)
def leafN (t:Tok):Nd:=.mk t.k t.pos t.i t.s []
def putM (x:Nd):Stk->List Nd->Stk × List Nd
 |[],out=>([],out++[x])
 |(a,ks)::r,out=>((a,ks++[x])::r,out)
theorem putM_len (x:Nd) (stk:Stk) (out:List Nd):(putM x stk out).1.length=stk.length:=by cases stk <;> rfl
structure Rd where
 n:Nat
 stk:Stk
 out:List Nd
def stepM (t:Tok) (ts:List Tok) (r:Rd):Er (Nat × Rd) :=
 if t.k=8 then (if r.n+1>4096 then .error (t.pos,4) else match ts with
  |[]=>.error (t.pos,3)
  |u::us=>if u.k=4\/u.k=5\/u.k=8 then .error (t.pos,2) else if r.n+2>4096 then .error (u.pos,4)
   else .ok (2,⟨r.n+2,(putM (.mk 8 t.pos 0 [] [leafN u]) r.stk r.out).1,(putM (.mk 8 t.pos 0 [] [leafN u]) r.stk r.out).2⟩))
 else if t.k=4 then (if r.stk.length>=32 then .error (t.pos,4) else if r.n+1>4096 then .error (t.pos,4) else .ok (1,⟨r.n+1,(t.pos,[])::r.stk,r.out⟩))
 else if t.k=5 then (match r.stk with
  |[]=>.error (t.pos,2)
  |(a,ks)::s=>.ok (1,⟨r.n,(putM (.mk 0 a 0 [] ks) s r.out).1,(putM (.mk 0 a 0 [] ks) s r.out).2⟩))
 else if r.n+1>4096 then .error (t.pos,4) else .ok (1,⟨r.n+1,(putM (leafN t) r.stk r.out).1,(putM (leafN t) r.stk r.out).2⟩)
def endM (r:Rd):Er (List Nd) :=
 match r.stk with
 |[]=>.ok r.out
 |(a,_)::_=>.error (a,3)
def runM:Nat->List Tok->Rd->Er (List Nd)
 |0,_,_=>.error (0,3)
 |f+1,l,r=>match l with
  |[]=>endM r
  |t::ts=>match stepM t ts r with
   |.error e=>.error e
   |.ok q=>runM f ((t::ts).drop q.1) q.2
theorem node_fuel : ∀ f:Nat,(∀ (deep:Nat) (l:List Tok) (n:Nat),2*l.length<=f->nodeM (f+1) deep l n=nodeM f deep l n) /\
  ∀ (deep pos:Nat) (i:Int) (s:List UInt8) (l:List Tok) (n:Nat) (acc:List Nd),2*l.length+1<=f->kidsM (f+1) deep pos i s l n acc=kidsM f deep pos i s l n acc
 |0=>⟨fun deep l n h=>(by
   have:l=[]:=List.eq_nil_of_length_eq_zero (by omega)
   subst this
   unfold nodeM
   rfl),fun deep pos i s l n acc h=>(by omega)⟩
 |f+1=>by
  obtain⟨ih1,ih2⟩:=node_fuel f
  constructor
  ·intro deep l n h
   cases l with
   |nil=>unfold nodeM; rfl
   |cons t ts =>
    simp only[List.length_cons] at h
    have e:nodeM (f+1+1) deep (t::ts) n=(if t.k=5 then .error (t.pos,2) else if n+1>4096 then .error (t.pos,4)
      else if t.k=8 then (match ts with
       |[]=>.error (t.pos,3)
       |u::_=>if u.k=4\/u.k=5\/u.k=8 then .error (t.pos,2) else match nodeM (f+1) deep ts (n+1) with
        |.error e=>.error e
        |.ok q=>.ok (.mk 8 t.pos t.i t.s [q.1],q.2.1,q.2.2))
      else if t.k=4 then (if deep>=32 then .error (t.pos,4) else kidsM (f+1) deep t.pos t.i t.s ts (n+1) [])
      else .ok (.mk t.k t.pos t.i t.s [],ts,n+1)):=by
     conv=>lhs; unfold nodeM
     cases ts <;> rfl
    rw[e,ih1 deep ts (n+1) (by omega),ih2 deep t.pos t.i t.s ts (n+1) [] (by omega)]
    conv=>rhs; unfold nodeM
    cases ts <;> rfl
  ·intro deep pos i s l n acc h
   cases l with
   |nil=>unfold kidsM; rfl
   |cons u us =>
    simp only[List.length_cons] at h
    conv=>lhs; unfold kidsM
    conv=>rhs; unfold kidsM
    simp only
    rw[ih1 (deep+1) (u::us) n (by simp only[List.length_cons]; omega)]
    split
    ·rfl
    ·split
     ·rfl
     ·rename_i q hq
      obtain⟨⟨d,hd1,hd2,hd3⟩,_⟩:=(node_left _).1 _ _ _ _ hq
      have hl:q.2.1.length+d=us.length+1:=by
       rw[hd3,List.length_drop]
       simp only[List.length_cons] at hd2 ⊢
       omega
      exact ih2 _ _ _ _ _ _ _ (by omega)
def nodeN (deep:Nat) (l:List Tok) (n:Nat):Er (Nd × List Tok × Nat):=nodeM (2*l.length) deep l n
def kidsN (deep pos:Nat) (i:Int) (s:List UInt8) (l:List Tok) (n:Nat) (acc:List Nd):Er (Nd × List Tok × Nat):=kidsM (2*l.length+1) deep pos i s l n acc
theorem nodeN_of : ∀ (k:Nat) (deep:Nat) (l:List Tok) (n:Nat),nodeM (2*l.length+k) deep l n=nodeN deep l n
 |0,deep,l,n=>rfl
 |k+1,deep,l,n=>by
  rw[<- nodeN_of k deep l n]
  exact (node_fuel (2*l.length+k)).1 _ _ _ (by omega)
theorem kidsN_of : ∀ (k:Nat) (deep pos:Nat) (i:Int) (s:List UInt8) (l:List Tok) (n:Nat) (acc:List Nd),kidsM (2*l.length+1+k) deep pos i s l n acc=kidsN deep pos i s l n acc
 |0,_,_,_,_,_,_,_=>rfl
 |k+1,deep,pos,i,s,l,n,acc=>by
  rw[<- kidsN_of k deep pos i s l n acc]
  exact (node_fuel (2*l.length+1+k)).2 _ _ _ _ _ _ _ (by omega)
theorem nodeN_cons (deep:Nat) (t:Tok) (ts:List Tok) (n:Nat):nodeN deep (t::ts) n=if t.k=5 then .error (t.pos,2) else if n+1>4096 then .error (t.pos,4)
  else if t.k=8 then (match ts with
   |[]=>.error (t.pos,3)
   |u::_=>if u.k=4\/u.k=5\/u.k=8 then .error (t.pos,2) else match nodeN deep ts (n+1) with
    |.error e=>.error e
    |.ok q=>.ok (.mk 8 t.pos t.i t.s [q.1],q.2.1,q.2.2))
  else if t.k=4 then (if deep>=32 then .error (t.pos,4) else kidsN deep t.pos t.i t.s ts (n+1) [])
  else .ok (.mk t.k t.pos t.i t.s [],ts,n+1):=by
 have e:nodeN deep (t::ts) n=nodeM (2*ts.length+1+1) deep (t::ts) n:=rfl
 rw[e]
 conv=>lhs; unfold nodeM
 simp only
 rw[nodeN_of 1 deep ts (n+1)]
 rfl
theorem kidsN_nil (deep pos:Nat) (i:Int) (s:List UInt8) (n:Nat) (acc:List Nd):kidsN deep pos i s [] n acc = .error (pos,3):=by
 unfold kidsN kidsM
 rfl
theorem kidsN_cons (deep pos:Nat) (i:Int) (s:List UInt8) (u:Tok) (us:List Tok) (n:Nat) (acc:List Nd):kidsN deep pos i s (u::us) n acc=if u.k=5 then .ok (.mk 0 pos i s acc,us,n) else match nodeN (deep+1) (u::us) n with
  |.error e=>.error e
  |.ok q=>kidsN deep pos i s q.2.1 q.2.2 (acc++[q.1]):=by
 conv=>lhs; unfold kidsN kidsM
 simp only
 split
 ·rfl
 ·show (match nodeN (deep+1) (u::us) n with
   |.error e=>(.error e:Er (Nd × List Tok × Nat))
   |.ok q=>kidsM (2*(u::us).length) deep pos i s q.2.1 q.2.2 (acc++[q.1]))=_
  split
  ·rfl
  ·rename_i q hq
   obtain⟨⟨d,hd1,hd2,hd3⟩,_⟩:=(node_left _).1 _ _ _ _ hq
   have hl:q.2.1.length+d=us.length+1:=by
    rw[hd3,List.length_drop]
    simp only[List.length_cons] at hd2 ⊢
    omega
   obtain⟨k,hk⟩ : ∃ k,2*(u::us).length=2*q.2.1.length+1+k:=⟨2*(u::us).length-(2*q.2.1.length+1),by simp only[List.length_cons]; omega⟩
   rw[hk]
   exact kidsN_of k _ _ _ _ _ _ _
theorem readT_fuel : ∀ (f:Nat) (l:List Tok) (n:Nat) (acc:List Nd),l.length+1<=f->readT (f+1) l n acc=readT f l n acc
 |0,l,n,acc,h=>by omega
 |f+1,l,n,acc,h=>by
  conv=>lhs; unfold readT
  conv=>rhs; unfold readT
  cases l with
  |nil=>rfl
  |cons t ts =>
   simp only
   split
   ·rfl
   ·rename_i q hq
    obtain⟨⟨d,hd1,hd2,hd3⟩,_⟩:=(node_left _).1 _ _ _ _ hq
    have hl:q.2.1.length+d=ts.length+1:=by
     rw[hd3,List.length_drop]
     simp only[List.length_cons] at hd2 ⊢
     omega
    simp only[List.length_cons] at h
    exact readT_fuel f _ _ _ (by omega)
def readN (l:List Tok) (n:Nat) (acc:List Nd):Er (List Nd):=readT (l.length+1) l n acc
theorem readN_of : ∀ (k:Nat) (l:List Tok) (n:Nat) (acc:List Nd),readT (l.length+1+k) l n acc=readN l n acc
 |0,_,_,_=>rfl
 |k+1,l,n,acc=>by
  rw[<- readN_of k l n acc]
  exact readT_fuel (l.length+1+k) _ _ _ (by omega)
theorem readN_cons (t:Tok) (ts:List Tok) (n:Nat) (acc:List Nd):readN (t::ts) n acc=match nodeN 0 (t::ts) n with
  |.error e=>.error e
  |.ok q=>readN q.2.1 q.2.2 (acc++[q.1]):=by
 conv=>lhs; unfold readN readT
 show (match nodeN 0 (t::ts) n with
  |.error e=>(.error e:Er (List Nd))
  |.ok q=>readT (t::ts).length q.2.1 q.2.2 (acc++[q.1]))=_
 split
 ·rfl
 ·rename_i q hq
  obtain⟨⟨d,hd1,hd2,hd3⟩,_⟩:=(node_left _).1 _ _ _ _ hq
  have hl:q.2.1.length+d=ts.length+1:=by
   rw[hd3,List.length_drop]
   simp only[List.length_cons] at hd2 ⊢
   omega
  obtain⟨k,hk⟩ : ∃ k,(t::ts).length=q.2.1.length+1+k:=⟨(t::ts).length-(q.2.1.length+1),by simp only[List.length_cons]; omega⟩
  rw[hk]
  exact readN_of k _ _ _
def contM:Nat->Stk->List Nd->List Tok->Nat->Er (List Nd)
 |0,_,out,l,n=>readN l n out
 |k+1,(a,ks)::r,out,l,n=>match kidsN k a 0 [] l n ks with
  |.error e=>.error e
  |.ok q=>contM k (putM q.1 r out).1 (putM q.1 r out).2 q.2.1 q.2.2
 |_+1,[],_,_,_=>.error (0,3)
def Plain (t:Tok):Prop:=t.k=4\/t.k=5\/t.k=8->t.i=0/\t.s=[]
theorem plain_of {t:Tok} (h:TokK t.tk):Plain t:=by
 intro hk
 obtain⟨k,pos,i,s⟩:=t
 simp only[Tok.tk] at *
 cases h with
 |sign=>exact⟨rfl,rfl⟩
 |str=>omega
 |name _ _ hk2=>omega
 |int=>omega
 |sym=>omega
theorem cont_cons (stk:Stk) (out:List Nd) (t:Tok) (ts:List Tok) (n:Nat) (h5 : ¬ t.k=5):contM stk.length stk out (t::ts) n=match nodeN stk.length (t::ts) n with
  |.error e=>.error e
  |.ok q=>contM stk.length (putM q.1 stk out).1 (putM q.1 stk out).2 q.2.1 q.2.2:=by
 cases stk with
 |nil=>exact readN_cons t ts n out
 |cons x r =>
  obtain⟨a,ks⟩:=x
  show (match kidsN r.length a 0 [] (t::ts) n ks with
   |.error e=>(.error e:Er (List Nd))
   |.ok q=>contM r.length (putM q.1 r out).1 (putM q.1 r out).2 q.2.1 q.2.2)=_
  rw[kidsN_cons,if_neg h5]
  show _=match nodeN (r.length+1) (t::ts) n with
   |.error e=>(.error e:Er (List Nd))
   |.ok q=>contM (r.length+1) ((a,ks++[q.1])::r) out q.2.1 q.2.2
  cases nodeN (r.length+1) (t::ts) n with
  |error e=>rfl
  |ok q=>rfl
theorem run_cont : ∀ (m f:Nat) (l:List Tok) (r:Rd),l.length<=m->l.length+1<=f->(∀ t∈l,Plain t)->runM f l r=contM r.stk.length r.stk r.out l r.n:=by
 intro m
 induction m with
 |zero =>
  intro f l r h hf hp
  have:l=[]:=List.eq_nil_of_length_eq_zero (by omega)
  subst this
  obtain⟨f,rfl⟩ : ∃ q,f=q+1:=⟨f-1,by simp at hf; omega⟩
  unfold runM endM
  simp only
  obtain⟨n,stk,out⟩:=r
  cases stk with
  |nil=>rfl
  |cons x r=>obtain⟨a,ks⟩:=x; simp only[contM,List.length_cons,kidsN_nil]
 |succ m ih =>
  intro f l r h hf hp
  cases l with
  |nil=>exact ih f [] r (Nat.zero_le _) hf hp
  |cons t ts =>
   simp only[List.length_cons] at h hf
   obtain⟨f,rfl⟩ : ∃ q,f=q+1:=⟨f-1,by omega⟩
   obtain⟨n,stk,out⟩:=r
   have hpt:=hp t (List.mem_cons_self ..)
   have hpts : ∀ t∈ts,Plain t:=fun x hx=>hp x (List.mem_cons_of_mem _ hx)
   unfold runM
   simp only
   by_cases h5:t.k=5
   ·have h8 : ¬ t.k=8:=by omega
    have h4 : ¬ t.k=4:=by omega
    unfold stepM
    rw[if_neg h8,if_neg h4,if_pos h5]
    cases stk with
    |nil =>
     simp only[contM,List.length_nil,readN_cons,nodeN_cons,if_pos h5]
    |cons x s =>
     obtain⟨a,ks⟩:=x
     simp only[contM,List.length_cons,kidsN_cons,if_pos h5,List.drop_succ_cons,List.drop_zero]
     rw[ih f ts _ (by omega) (by omega) hpts,putM_len]
   ·rw[cont_cons _ _ _ _ _ h5,nodeN_cons,if_neg h5]
    unfold stepM
    simp only
    by_cases hn:n+1>4096
    ·by_cases h8:t.k=8
     ·simp only[if_pos hn,if_pos h8]
     ·by_cases h4:t.k=4
      ·by_cases hd:stk.length>=32
       ·simp only[if_pos hn,if_neg h8,if_pos h4,if_pos hd]
       ·simp only[if_pos hn,if_neg h8,if_pos h4,if_neg hd]
      ·simp only[if_pos hn,if_neg h8,if_neg h4,if_neg h5]
    ·rw[if_neg hn]
     by_cases h8:t.k=8
     ·rw[if_pos h8,if_pos h8,if_neg hn]
      obtain⟨ti,tse⟩:=hpt (.inr (.inr h8))
      cases ts with
      |nil=>rfl
      |cons u us =>
       simp only
       by_cases hu:u.k=4\/u.k=5\/u.k=8
       ·rw[if_pos hu,if_pos hu]
       ·rw[if_neg hu,if_neg hu,nodeN_cons,if_neg (fun h=>hu (.inr (.inl h)))]
        by_cases hn2:n+2>4096
        ·rw[if_pos hn2,if_pos (show n+1+1>4096 by omega)]
        ·rw[if_neg hn2,if_neg (show ¬ n+1+1>4096 by omega),if_neg (fun h=>hu (.inr (.inr h))),if_neg (fun h=>hu (.inl h)),ti,tse]
         simp only[List.drop_succ_cons,List.drop_zero]
         rw[ih f us _ (by simp only[List.length_cons] at h; omega) (by simp only[List.length_cons] at hf; omega) (fun x hx=>hpts x (List.mem_cons_of_mem _ hx)),putM_len]
         rfl
     ·rw[if_neg h8,if_neg h8]
      by_cases h4:t.k=4
      ·obtain⟨ti,tse⟩:=hpt (.inl h4)
       rw[if_pos h4,if_pos h4]
       by_cases hd:stk.length>=32
       ·simp only[if_pos hd,if_neg hn]
       ·simp only[if_neg hd,if_neg hn,ti,tse,List.drop_succ_cons,List.drop_zero]
        rw[ih f ts _ (by omega) (by omega) hpts]
        rfl
      ·simp only[if_neg h4,if_neg h5,if_neg hn,List.drop_succ_cons,List.drop_zero]
       rw[ih f ts _ (by omega) (by omega) hpts,putM_len]
       rfl
theorem run_read {l:List Tok} (hp : ∀ t∈l,Plain t):runM (l.length+1) l ⟨0,[],[]⟩=readL l:=run_cont _ _ l ⟨0,[],[]⟩ (Nat.le_refl _) (Nat.le_refl _) hp
end Go.Proofs.YthjnlpfibakacaaGreatDoorPe.Tmpf
