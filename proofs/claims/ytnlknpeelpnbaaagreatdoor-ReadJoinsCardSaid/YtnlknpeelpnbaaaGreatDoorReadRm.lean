/- A part of the proof of this folder's statement; it has no condition of its own. -/
import Derived.Test.YtnlknpeelpnbaaaGreatDoorReadNd
import Derived.Test.YtnlknpeelpnbaaaGreatDoorEcHs
set_option linter.unusedVariables false
set_option linter.unusedSimpArgs false
set_option maxRecDepth 100000
namespace Go.Proofs.YtnlknpeelpnbaaaGreatDoorPe.Read
open Go Go.Proofs Go.Proofs.YtnlknpeelpnbaaaGreatDoorPe Go.Proofs.YtnlknpeelpnbaaaGreatDoorPe.ReadCode
abbrev Stk:=List (Nat × List Nd)
def leafN (t:Tok):Nd:=.mk t.k t.pos t.i t.s []
def putM (x:Nd):Stk->List Nd->Stk × List Nd
 |[],out=>([],out++[x])
 |(a,ks)::r,out=>((a,ks++[x])::r,out)
theorem putM_len (x:Nd) (stk:Stk) (out:List Nd):(putM x stk out).1.length=stk.length:=by cases stk <;> rfl
structure Rd where
 n:Nat
 stk:Stk
 out:List Nd
def stepM (t:Tok) (ts:List Tok) (r:Rd):Er (Nat × Rd) :=
 if t.k=8 then (if r.n+1>4096 then .error (t.pos,4) else match ts with
  |[]=>.error (t.pos,3)
  |u::us=>if u.k=4\/u.k=5\/u.k=8 then .error (t.pos,2) else if r.n+2>4096 then .error (u.pos,4)
   else .ok (2,⟨r.n+2,(putM (.mk 8 t.pos 0 [] [leafN u]) r.stk r.out).1,(putM (.mk 8 t.pos 0 [] [leafN u]) r.stk r.out).2⟩))
 else if t.k=4 then (if r.stk.length>=32 then .error (t.pos,4) else if r.n+1>4096 then .error (t.pos,4) else .ok (1,⟨r.n+1,(t.pos,[])::r.stk,r.out⟩))
 else if t.k=5 then (match r.stk with
  |[]=>.error (t.pos,2)
  |(a,ks)::s=>.ok (1,⟨r.n,(putM (.mk 0 a 0 [] ks) s r.out).1,(putM (.mk 0 a 0 [] ks) s r.out).2⟩))
 else if r.n+1>4096 then .error (t.pos,4) else .ok (1,⟨r.n+1,(putM (leafN t) r.stk r.out).1,(putM (leafN t) r.stk r.out).2⟩)
def endM (r:Rd):Er (List Nd) :=
 match r.stk with
 |[]=>.ok r.out
 |(a,_)::_=>.error (a,3)
def runM:Nat->List Tok->Rd->Er (List Nd)
 |0,_,_=>.error (0,3)
 |f+1,l,r=>match l with
  |[]=>endM r
  |t::ts=>match stepM t ts r with
   |.error e=>.error e
   |.ok q=>runM f ((t::ts).drop q.1) q.2
theorem node_fuel : ∀ f:Nat,(∀ (deep:Nat) (l:List Tok) (n:Nat),2*l.length<=f->nodeM (f+1) deep l n=nodeM f deep l n) /\
  ∀ (deep pos:Nat) (i:Int) (s:List UInt8) (l:List Tok) (n:Nat) (acc:List Nd),2*l.length+1<=f->kidsM (f+1) deep pos i s l n acc=kidsM f deep pos i s l n acc
 |0=>⟨fun deep l n h=>(by
   have:l=[]:=List.eq_nil_of_length_eq_zero (by omega)
   subst this
   unfold nodeM
   rfl),fun deep pos i s l n acc h=>(by omega)⟩
 |f+1=>by
  obtain⟨ih1,ih2⟩:=node_fuel f
  constructor
  ·intro deep l n h
   cases l with
   |nil=>unfold nodeM; rfl
   |cons t ts =>
    simp only[List.length_cons] at h
    have e:nodeM (f+1+1) deep (t::ts) n=(if t.k=5 then .error (t.pos,2) else if n+1>4096 then .error (t.pos,4)
      else if t.k=8 then (match ts with
       |[]=>.error (t.pos,3)
       |u::_=>if u.k=4\/u.k=5\/u.k=8 then .error (t.pos,2) else match nodeM (f+1) deep ts (n+1) with
        |.error e=>.error e
        |.ok q=>.ok (.mk 8 t.pos t.i t.s [q.1],q.2.1,q.2.2))
      else if t.k=4 then (if deep>=32 then .error (t.pos,4) else kidsM (f+1) deep t.pos t.i t.s ts (n+1) [])
      else .ok (.mk t.k t.pos t.i t.s [],ts,n+1)):=by
     conv=>lhs; unfold nodeM
     cases ts <;> rfl
    rw[e,ih1 deep ts (n+1) (by omega),ih2 deep t.pos t.i t.s ts (n+1) [] (by omega)]
    conv=>rhs; unfold nodeM
    cases ts <;> rfl
  ·intro deep pos i s l n acc h
   cases l with
   |nil=>unfold kidsM; rfl
   |cons u us =>
    simp only[List.length_cons] at h
    conv=>lhs; unfold kidsM
    conv=>rhs; unfold kidsM
    simp only
    rw[ih1 (deep+1) (u::us) n (by simp only[List.length_cons]; omega)]
    split
    ·rfl
    ·split
     ·rfl
     ·rename_i q hq
      obtain⟨⟨d,hd1,hd2,hd3⟩,_⟩:=(node_left _).1 _ _ _ _ hq
      have hl:q.2.1.length+d=us.length+1:=by
       rw[hd3,List.length_drop]
       simp only[List.length_cons] at hd2 ⊢
       omega
      exact ih2 _ _ _ _ _ _ _ (by omega)
def nodeN (deep:Nat) (l:List Tok) (n:Nat):Er (Nd × List Tok × Nat):=nodeM (2*l.length) deep l n
def kidsN (deep pos:Nat) (i:Int) (s:List UInt8) (l:List Tok) (n:Nat) (acc:List Nd):Er (Nd × List Tok × Nat):=kidsM (2*l.length+1) deep pos i s l n acc
theorem nodeN_of : ∀ (k:Nat) (deep:Nat) (l:List Tok) (n:Nat),nodeM (2*l.length+k) deep l n=nodeN deep l n
 |0,deep,l,n=>rfl
 |k+1,deep,l,n=>by
  rw[<- nodeN_of k deep l n]
  exact (node_fuel (2*l.length+k)).1 _ _ _ (by omega)
theorem kidsN_of : ∀ (k:Nat) (deep pos:Nat) (i:Int) (s:List UInt8) (l:List Tok) (n:Nat) (acc:List Nd),kidsM (2*l.length+1+k) deep pos i s l n acc=kidsN deep pos i s l n acc
 |0,_,_,_,_,_,_,_=>rfl
 |k+1,deep,pos,i,s,l,n,acc=>by
  rw[<- kidsN_of k deep pos i s l n acc]
  exact (node_fuel (2*l.length+1+k)).2 _ _ _ _ _ _ _ (by omega)
theorem nodeN_cons (deep:Nat) (t:Tok) (ts:List Tok) (n:Nat):nodeN deep (t::ts) n=if t.k=5 then .error (t.pos,2) else if n+1>4096 then .error (t.pos,4)
  else if t.k=8 then (match ts with
   |[]=>.error (t.pos,3)
   |u::_=>if u.k=4\/u.k=5\/u.k=8 then .error (t.pos,2) else match nodeN deep ts (n+1) with
    |.error e=>.error e
    |.ok q=>.ok (.mk 8 t.pos t.i t.s [q.1],q.2.1,q.2.2))
  else if t.k=4 then (if deep>=32 then .error (t.pos,4) else kidsN deep t.pos t.i t.s ts (n+1) [])
  else .ok (.mk t.k t.pos t.i t.s [],ts,n+1):=by
 have e:nodeN deep (t::ts) n=nodeM (2*ts.length+1+1) deep (t::ts) n:=rfl
 rw[e]
 conv=>lhs; unfold nodeM
 simp only
 rw[nodeN_of 1 deep ts (n+1)]
 rfl
theorem kidsN_nil (deep pos:Nat) (i:Int) (s:List UInt8) (n:Nat) (acc:List Nd):kidsN deep pos i s [] n acc = .error (pos,3):=by
 unfold kidsN kidsM
 rfl
theorem kidsN_cons (deep pos:Nat) (i:Int) (s:List UInt8) (u:Tok) (us:List Tok) (n:Nat) (acc:List Nd):kidsN deep pos i s (u::us) n acc=if u.k=5 then .ok (.mk 0 pos i s acc,us,n) else match nodeN (deep+1) (u::us) n with
  |.error e=>.error e
  |.ok q=>kidsN deep pos i s q.2.1 q.2.2 (acc++[q.1]):=by
 conv=>lhs; unfold kidsN kidsM
 simp only
 split
 ·rfl
 ·show (match nodeN (deep+1) (u::us) n with
   |.error e=>(.error e:Er (Nd × List Tok × Nat))
   |.ok q=>kidsM (2*(u::us).length) deep pos i s q.2.1 q.2.2 (acc++[q.1]))=_
  split
  ·rfl
  ·rename_i q hq
   obtain⟨⟨d,hd1,hd2,hd3⟩,_⟩:=(node_left _).1 _ _ _ _ hq
   have hl:q.2.1.length+d=us.length+1:=by
    rw[hd3,List.length_drop]
    simp only[List.length_cons] at hd2 ⊢
    omega
   obtain⟨k,hk⟩ : ∃ k,2*(u::us).length=2*q.2.1.length+1+k:=⟨2*(u::us).length-(2*q.2.1.length+1),by simp only[List.length_cons]; omega⟩
   rw[hk]
   exact kidsN_of k _ _ _ _ _ _ _
theorem readT_fuel : ∀ (f:Nat) (l:List Tok) (n:Nat) (acc:List Nd),l.length+1<=f->readT (f+1) l n acc=readT f l n acc
 |0,l,n,acc,h=>by omega
 |f+1,l,n,acc,h=>by
  conv=>lhs; unfold readT
  conv=>rhs; unfold readT
  cases l with
  |nil=>rfl
  |cons t ts =>
   simp only
   split
   ·rfl
   ·rename_i q hq
    obtain⟨⟨d,hd1,hd2,hd3⟩,_⟩:=(node_left _).1 _ _ _ _ hq
    have hl:q.2.1.length+d=ts.length+1:=by
     rw[hd3,List.length_drop]
     simp only[List.length_cons] at hd2 ⊢
     omega
    simp only[List.length_cons] at h
    exact readT_fuel f _ _ _ (by omega)
def readN (l:List Tok) (n:Nat) (acc:List Nd):Er (List Nd):=readT (l.length+1) l n acc
theorem readN_of : ∀ (k:Nat) (l:List Tok) (n:Nat) (acc:List Nd),readT (l.length+1+k) l n acc=readN l n acc
 |0,_,_,_=>rfl
 |k+1,l,n,acc=>by
  rw[<- readN_of k l n acc]
  exact readT_fuel (l.length+1+k) _ _ _ (by omega)
theorem readN_cons (t:Tok) (ts:List Tok) (n:Nat) (acc:List Nd):readN (t::ts) n acc=match nodeN 0 (t::ts) n with
  |.error e=>.error e
  |.ok q=>readN q.2.1 q.2.2 (acc++[q.1]):=by
 conv=>lhs; unfold readN readT
 show (match nodeN 0 (t::ts) n with
  |.error e=>(.error e:Er (List Nd))
  |.ok q=>readT (t::ts).length q.2.1 q.2.2 (acc++[q.1]))=_
 split
 ·rfl
 ·rename_i q hq
  obtain⟨⟨d,hd1,hd2,hd3⟩,_⟩:=(node_left _).1 _ _ _ _ hq
  have hl:q.2.1.length+d=ts.length+1:=by
   rw[hd3,List.length_drop]
   simp only[List.length_cons] at hd2 ⊢
   omega
  obtain⟨k,hk⟩ : ∃ k,(t::ts).length=q.2.1.length+1+k:=⟨(t::ts).length-(q.2.1.length+1),by simp only[List.length_cons]; omega⟩
  rw[hk]
  exact readN_of k _ _ _
def contM:Nat->Stk->List Nd->List Tok->Nat->Er (List Nd)
 |0,_,out,l,n=>readN l n out
 |k+1,(a,ks)::r,out,l,n=>match kidsN k a 0 [] l n ks with
  |.error e=>.error e
  |.ok q=>contM k (putM q.1 r out).1 (putM q.1 r out).2 q.2.1 q.2.2
 |_+1,[],_,_,_=>.error (0,3)
def Plain (t:Tok):Prop:=t.k=4\/t.k=5\/t.k=8->t.i=0/\t.s=[]
theorem plain_of {t:Tok} (h:TokK t.tk):Plain t:=by
 intro hk
 obtain⟨k,pos,i,s⟩:=t
 simp only[Tok.tk] at *
 cases h with
 |sign=>exact⟨rfl,rfl⟩
 |str=>omega
 |name _ _ hk2=>omega
 |int=>omega
 |sym=>omega
theorem cont_cons (stk:Stk) (out:List Nd) (t:Tok) (ts:List Tok) (n:Nat) (h5 : ¬ t.k=5):contM stk.length stk out (t::ts) n=match nodeN stk.length (t::ts) n with
  |.error e=>.error e
  |.ok q=>contM stk.length (putM q.1 stk out).1 (putM q.1 stk out).2 q.2.1 q.2.2:=by
 cases stk with
 |nil=>exact readN_cons t ts n out
 |cons x r =>
  obtain⟨a,ks⟩:=x
  show (match kidsN r.length a 0 [] (t::ts) n ks with
   |.error e=>(.error e:Er (List Nd))
   |.ok q=>contM r.length (putM q.1 r out).1 (putM q.1 r out).2 q.2.1 q.2.2)=_
  rw[kidsN_cons,if_neg h5]
  show _=match nodeN (r.length+1) (t::ts) n with
   |.error e=>(.error e:Er (List Nd))
   |.ok q=>contM (r.length+1) ((a,ks++[q.1])::r) out q.2.1 q.2.2
  cases nodeN (r.length+1) (t::ts) n with
  |error e=>rfl
  |ok q=>rfl
theorem run_cont : ∀ (m f:Nat) (l:List Tok) (r:Rd),l.length<=m->l.length+1<=f->(∀ t∈l,Plain t)->runM f l r=contM r.stk.length r.stk r.out l r.n:=by
 intro m
 induction m with
 |zero =>
  intro f l r h hf hp
  have:l=[]:=List.eq_nil_of_length_eq_zero (by omega)
  subst this
  obtain⟨f,rfl⟩ : ∃ q,f=q+1:=⟨f-1,by simp at hf; omega⟩
  unfold runM endM
  simp only
  obtain⟨n,stk,out⟩:=r
  cases stk with
  |nil=>rfl
  |cons x r=>obtain⟨a,ks⟩:=x; simp only[contM,List.length_cons,kidsN_nil]
 |succ m ih =>
  intro f l r h hf hp
  cases l with
  |nil=>exact ih f [] r (Nat.zero_le _) hf hp
  |cons t ts =>
   simp only[List.length_cons] at h hf
   obtain⟨f,rfl⟩ : ∃ q,f=q+1:=⟨f-1,by omega⟩
   obtain⟨n,stk,out⟩:=r
   have hpt:=hp t (List.mem_cons_self ..)
   have hpts : ∀ t∈ts,Plain t:=fun x hx=>hp x (List.mem_cons_of_mem _ hx)
   unfold runM
   simp only
   by_cases h5:t.k=5
   ·have h8 : ¬ t.k=8:=by omega
    have h4 : ¬ t.k=4:=by omega
    unfold stepM
    rw[if_neg h8,if_neg h4,if_pos h5]
    cases stk with
    |nil =>
     simp only[contM,List.length_nil,readN_cons,nodeN_cons,if_pos h5]
    |cons x s =>
     obtain⟨a,ks⟩:=x
     simp only[contM,List.length_cons,kidsN_cons,if_pos h5,List.drop_succ_cons,List.drop_zero]
     rw[ih f ts _ (by omega) (by omega) hpts,putM_len]
   ·rw[cont_cons _ _ _ _ _ h5,nodeN_cons,if_neg h5]
    unfold stepM
    simp only
    by_cases hn:n+1>4096
    ·by_cases h8:t.k=8
     ·simp only[if_pos hn,if_pos h8]
     ·by_cases h4:t.k=4
      ·by_cases hd:stk.length>=32
       ·simp only[if_pos hn,if_neg h8,if_pos h4,if_pos hd]
       ·simp only[if_pos hn,if_neg h8,if_pos h4,if_neg hd]
      ·simp only[if_pos hn,if_neg h8,if_neg h4,if_neg h5]
    ·rw[if_neg hn]
     by_cases h8:t.k=8
     ·rw[if_pos h8,if_pos h8,if_neg hn]
      obtain⟨ti,tse⟩:=hpt (.inr (.inr h8))
      cases ts with
      |nil=>rfl
      |cons u us =>
       simp only
       by_cases hu:u.k=4\/u.k=5\/u.k=8
       ·rw[if_pos hu,if_pos hu]
       ·rw[if_neg hu,if_neg hu,nodeN_cons,if_neg (fun h=>hu (.inr (.inl h)))]
        by_cases hn2:n+2>4096
        ·rw[if_pos hn2,if_pos (show n+1+1>4096 by omega)]
        ·rw[if_neg hn2,if_neg (show ¬ n+1+1>4096 by omega),if_neg (fun h=>hu (.inr (.inr h))),if_neg (fun h=>hu (.inl h)),ti,tse]
         simp only[List.drop_succ_cons,List.drop_zero]
         rw[ih f us _ (by simp only[List.length_cons] at h; omega) (by simp only[List.length_cons] at hf; omega) (fun x hx=>hpts x (List.mem_cons_of_mem _ hx)),putM_len]
         rfl
     ·rw[if_neg h8,if_neg h8]
      by_cases h4:t.k=4
      ·obtain⟨ti,tse⟩:=hpt (.inl h4)
       rw[if_pos h4,if_pos h4]
       by_cases hd:stk.length>=32
       ·simp only[if_pos hd,if_neg hn]
       ·simp only[if_neg hd,if_neg hn,ti,tse,List.drop_succ_cons,List.drop_zero]
        rw[ih f ts _ (by omega) (by omega) hpts]
        rfl
      ·simp only[if_neg h4,if_neg h5,if_neg hn,List.drop_succ_cons,List.drop_zero]
       rw[ih f ts _ (by omega) (by omega) hpts,putM_len]
       rfl
theorem run_read {l:List Tok} (hp : ∀ t∈l,Plain t):runM (l.length+1) l ⟨0,[],[]⟩=readL l:=run_cont _ _ l ⟨0,[],[]⟩ (Nat.le_refl _) (Nat.le_refl _) hp
end Go.Proofs.YtnlknpeelpnbaaaGreatDoorPe.Read
set_option linter.unusedVariables false
set_option linter.unusedSimpArgs false
set_option maxRecDepth 100000
namespace Go.Proofs.YtnlknpeelpnbaaaGreatDoorPe.Read
open Go Go.Proofs Go.Proofs.YtnlknpeelpnbaaaGreatDoorPe Go.Proofs.YtnlknpeelpnbaaaGreatDoorPe.ReadCode
theorem sfault_t {p e:Int}:tupV (callE efns given) (.call 0 f_sexp_fault) [.int .i64 p,.int .i64 e]=some (errP [(sChar,p)] e):=by
 refine call_good (f:=f_sexp_fault) rfl ?_
 rw[callE_fn efns given (c:=e_sexp_fault) rfl rfl]
 simp only[e_sexp_fault,go_sem]
 exact Good.done rfl
theorem leaf_t {t:Tok}:tupV (callE efns given) (.call 0 f_sexp_leaf) [.agg t.cells']=some (.agg (leafN t).cells):=by
 refine call_good (f:=f_sexp_leaf) rfl ?_
 rw[callE_fn efns given (c:=e_sexp_leaf) rfl rfl]
 simp only[e_sexp_leaf,go_sem,Tok.cells']
 exact Good.done rfl
def srC (l:List Tok) (n:Nat) (ov uv:PV):List PV:=[.lst (l.map Tok.p),.int .i64 (n:Int),ov,uv]
theorem count_ok {l:List Tok} {n:Nat} {ov uv:PV} {t:Tok} {rest:List (List PV)} {rows:List (Nat × Nat)} {bt rt:List TypeId} (hn:n<=1000000) :
  callE efns given f_sexp_reader_count [.ptr 0 0,.agg t.cells'] ⟨srC l n ov uv::rest,rows,bt,rt⟩ =
   some (if n+1>4096 then errP [(sChar,(t.pos:Int))] 4 else .nili,⟨srC l (n+1) ov uv::(rest++[t.cells']),rows,bt++[T_sexp_reader_count_0],rt⟩):=by
 have hf:=fun p e=>sfault_t (p:=p) (e:=e)
 have w:=wrapN (n:=n) (by omega)
 rw[callE_fn efns given (c:=e_sexp_reader_count) rfl rfl]
 by_cases h:n+1>4096
 ·have c:(((n+1:Nat):Int)>4096)=True:=eq_true (by omega)
  rw[if_pos h]
  simp only[e_sexp_reader_count,go_sem,Tok.cells',srC,w,c,hf]
 ·have c:(((n+1:Nat):Int)>4096)=False:=eq_false (by omega)
  rw[if_neg h]
  simp only[e_sexp_reader_count,go_sem,Tok.cells',srC,w,c,hf]
end Go.Proofs.YtnlknpeelpnbaaaGreatDoorPe.Read
set_option linter.unusedVariables false
set_option linter.unusedSimpArgs false
set_option maxRecDepth 100000
namespace Go.Proofs.YtnlknpeelpnbaaaGreatDoorPe.Read
open Go Go.Proofs Go.Proofs.YtnlknpeelpnbaaaGreatDoorPe Go.Proofs.YtnlknpeelpnbaaaGreatDoorPe.ReadCode
theorem pappend_of {n b:Nat} {T:TypeId} {x z v u:PV} {st:St} {r:Option (PV × St)} (h:evAppend n b T x.nm [u] st=r) (hv:shutA shutN v=some u) (h1:z.cells.length=n) (h2:u.cells.length=n) (h3:u.cells.all PV.isCell=true) :
  evPappend n b T x (.full [z]) v st=r:=by
 unfold evPappend
 simp only[hv]
 rw[if_pos ⟨h1,h2,h3⟩]
 exact h
theorem pidx_of {n r:Nat} {l:List PV} {e:PV} {k:IntKind} (h:e.cells.length=n):pidxV n (.own r (l++[e])) (.int k (l.length:Int))=some (.ref e.cells):=by
 unfold pidxV
 simp only
 rw[if_pos (by simp)]
 unfold evIdx
 rw[if_pos (by omega)]
 simp[h]
theorem fill_of {cs:List PV} {y u:PV} (h:shutA shutN y=some u) (hc:u.cells=cs):fillV (.ref cs) y=some (.tuple []):=by
 unfold fillV
 simp only[h]
 rw[hc,if_pos (PV.sames_self _)]
def Nd.cellsX (x:Nd) (xv:PV):List PV:=[.int .i64 x.k,.int .i64 x.pos,.int .i64 x.i,.str x.s,xv]
theorem Nd.shut {x:Nd} {xv:PV} (h:shutA 5 xv=some (.lst (x.kids.map Nd.p))):shutA shutN (.agg (x.cellsX xv))=some (.agg x.cells):=shutA_agg (mS rfl (mS rfl (mS rfl (mS rfl (mS (f:=shutA 5) h mN)))))
theorem put_out {l:List Tok} {n:Nat} {ov uv:PV} {x:Nd} {xv:PV} {out:List Nd} {rest:List (List PV)} {rows:List (Nat × Nat)} {bt rt:List TypeId} (hx:shutA 5 xv=some (.lst (x.kids.map Nd.p))) (ho:unV .len ov=some (.int .i64 0))
  (hU:OutV 5 T_sexp_reader_put_0 (out.map Nd.p) uv rows rt) (hr:rt.length=rows.length) (hl:out.length<=1000000) :
  ∃ r rows' rt',callE efns given f_sexp_reader_put [.ptr 0 0,.agg (x.cellsX xv)] ⟨srC l n ov uv::rest,rows,bt,rt⟩ =
   some (.tuple [],⟨srC l n ov (.own r ((out++[x]).map Nd.p))::(rest++[x.cellsX xv]),rows',bt++[T_sexp_reader_put_0],rt'⟩) /\
   OutV 5 T_sexp_reader_put_0 ((out++[x]).map Nd.p) (.own r ((out++[x]).map Nd.p)) rows' rt'/\rt'.length=rows'.length/\rows.length<=rows'.length /\
   (∀ n2 T2 l2 x2,OutV n2 T2 l2 x2 rows rt->Unlike uv x2->OutV n2 T2 l2 x2 rows' rt'/\Unlike (.own r ((out++[x]).map Nd.p)) x2):=by
 obtain⟨r,rows',rt',h1,h2,h3,h4,h5⟩:=hU.app1o (b:=64) hr (e:=x.p) (by rw[Nd.p_cells]; rfl) (by simp; omega)
 rw[List.map_append,List.map_singleton]
 refine⟨r,rows',rt',?_,h2,h3,h4,h5⟩
 have hb:tupV (callE efns given) (.bslice 5 [.int .i64 0,.int .i64 0,.int .i64 0,.str [],.nils] 1 [0]) [.agg [.int .i64 0,.int .i64 0,.int .i64 0,.str [],.nils]]=some (.full [.agg [.int .i64 0,.int .i64 0,.int .i64 0,.str [],.lst []]]):=V_bs1 rfl rfl rfl
 have hp : ∀ bs bt,evPappend 5 64 T_sexp_reader_put_0 uv (.full [.agg [.int .i64 0,.int .i64 0,.int .i64 0,.str [],.lst []]]) (.agg (x.cellsX xv)) ⟨bs,rows,bt,rt⟩=some (.own r (out.map Nd.p++[.agg x.cells]),⟨bs,rows',bt,rt'⟩):=fun bs bt=>by
  refine pappend_of ?_ (Nd.shut hx) rfl rfl rfl
  rw[<- Nd.p_eq]
  exact h1 bs bt
 have hL:=hU.len
 rw[List.length_map] at hL
 have hi:biV (.pidx 5) (.own r (out.map Nd.p++[.agg x.cells])) (.int .i64 (out.length:Int))=some (.ref x.cells):=by
  have:=pidx_of (n:=5) (r:=r) (l:=out.map Nd.p) (e:=.agg x.cells) (k:=.i64) rfl
  rw[List.length_map] at this
  exact this
 have hf:fillV (.ref x.cells) (.agg (x.cellsX xv))=some (.tuple []):=fill_of (Nd.shut hx) rfl
 rw[callE_fn efns given (c:=e_sexp_reader_put) rfl rfl,Nd.p_eq]
 simp only[Nd.cells,Nd.cellsX] at hp hi hf ⊢
 simp only[e_sexp_reader_put,go_sem,srC,ho,hL,hb,hp,hi,hf,gt_iff_lt,Int.lt_irrefl]
theorem put_top {l:List Tok} {n j hb:Nat} {uv kv:PV} {x:Nd} {xv:PV} {ks:List Nd} {cs:List PV} {rest:List (List PV)} {rows:List (Nat × Nat)} {bt rt:List TypeId} (hx:shutA 5 xv=some (.lst (x.kids.map Nd.p))) (hB:rest[hb]? = some cs) (hc:j*5+5<=cs.length) (hkv:cs[j*5+4]? = some kv)
  (hU:OutV 5 T_sexp_reader_put_0 (ks.map Nd.p) kv rows rt) (hr:rt.length=rows.length) (hl:ks.length<=1000000) (hj:j<=1000000) :
  ∃ r rows' rt',callE efns given f_sexp_reader_put [.ptr 0 0,.agg (x.cellsX xv)] ⟨srC l n (.hs 5 (hb+1) 0 (j+1)) uv::rest,rows,bt,rt⟩ =
   some (.tuple [],⟨srC l n (.hs 5 (hb+1) 0 (j+1)) uv::(rest.set hb (cs.set (j*5+4) (.own r ((ks++[x]).map Nd.p)))++[x.cellsX xv,[.undef]]),rows',bt++[T_sexp_reader_put_0,T_sexp_reader_put_1],rt'⟩) /\
   OutV 5 T_sexp_reader_put_0 ((ks++[x]).map Nd.p) (.own r ((ks++[x]).map Nd.p)) rows' rt'/\rt'.length=rows'.length/\rows.length<=rows'.length /\
   (∀ n2 T2 l2 x2,OutV n2 T2 l2 x2 rows rt->Unlike kv x2->OutV n2 T2 l2 x2 rows' rt'/\Unlike (.own r ((ks++[x]).map Nd.p)) x2):=by
 obtain⟨r,rows',rt',h1,h2,h3,h4,h5⟩:=hU.app1o (b:=64) hr (e:=x.p) (by rw[Nd.p_cells]; rfl) (by simp; omega)
 rw[List.map_append,List.map_singleton]
 refine⟨r,rows',rt',?_,h2,h3,h4,h5⟩
 have hb':tupV (callE efns given) (.bslice 5 [.int .i64 0,.int .i64 0,.int .i64 0,.str [],.nils] 1 [0]) [.agg [.int .i64 0,.int .i64 0,.int .i64 0,.str [],.nils]]=some (.full [.agg [.int .i64 0,.int .i64 0,.int .i64 0,.str [],.lst []]]):=V_bs1 rfl rfl rfl
 have hb2:tupV (callE efns given) (.bslice 5 [.int .i64 0,.int .i64 0,.int .i64 0,.str [],.nils] 1 [0]) [.agg (x.cellsX xv)]=some (.full [.agg x.cells]):=V_bs1 (Nd.shut hx) rfl rfl
 rw[Nd.p_eq] at h1
 have hp : ∀ bs bt,evPappend 5 64 T_sexp_reader_put_0 kv (.full [.agg [.int .i64 0,.int .i64 0,.int .i64 0,.str [],.lst []]]) (.agg (x.cellsX xv)) ⟨bs,rows,bt,rt⟩=some (.own r (ks.map Nd.p++[.agg x.cells]),⟨bs,rows',bt,rt'⟩):=fun bs bt=>pappend_of (h1 bs bt) (Nd.shut hx) rfl rfl rfl
 have hL:=hU.len
 rw[List.length_map] at hL
 have hi:biV (.pidx 5) (.own r (ks.map Nd.p++[.agg x.cells])) (.int .i64 (ks.length:Int))=some (.ref x.cells):=by
  have:=pidx_of (n:=5) (r:=r) (l:=ks.map Nd.p) (e:=.agg x.cells) (k:=.i64) rfl
  rw[List.length_map] at this
  exact this
 have hf:fillV (.ref x.cells) (.agg (x.cellsX xv))=some (.tuple []):=fill_of (Nd.shut hx) rfl
 have hlt:hb<rest.length:=(List.getElem?_eq_some_iff.1 hB).1
 have hg : ∀ m,(rest++m)[hb]? = some cs:=fun m=>by rw[List.getElem?_append_left hlt]; exact hB
 have hs : ∀ m y,(rest++m).set hb y=rest.set hb y++m:=fun m y=>List.set_append_left _ _ hlt
 have c0:(((j+1:Nat):Int)>0)=True:=eq_true (by omega)
 have w1:IntKind.i64.wrap (((j+1:Nat):Int)-1)=(j:Int):=by rw[IntKind.wrap_i64]; omega
 have hI:evHidx 5 5 (hb+1) 0 (j+1) (j:Int)=some (.ptr (hb+1) (0+j*5)):=hs_at (Nat.lt_succ_self j)
 have hld:(cs.drop (j*5+4)).head? = some kv:=by
  rw[List.head?_drop]
  exact hkv
 have c1:(j*5+4+1<=cs.length)=True:=eq_true (by omega)
 have ht : ∀ y:PV,cs.take (j*5+4)++y::cs.drop (j*5+4+1)=cs.set (j*5+4) y:=fun y=>by
  rw[List.set_eq_take_append_cons_drop,if_pos (by omega)]
 have hx2:=hx
 simp only[go_sem] at hx2
 rw[callE_fn efns given (c:=e_sexp_reader_put) rfl rfl,Nd.p_eq]
 simp only[Nd.cells,Nd.cellsX] at hp hi hf h1 hb2 ⊢
 simp only[e_sexp_reader_put,go_sem,srC,hL,hb',hb2,hp,hi,hf,c0,w1,hI,hg,hs,hld,c1,ht,h1,hx2,St.pick]
end Go.Proofs.YtnlknpeelpnbaaaGreatDoorPe.Read
set_option linter.unusedVariables false
set_option linter.unusedSimpArgs false
set_option maxRecDepth 100000
namespace Go.Proofs.YtnlknpeelpnbaaaGreatDoorPe.Read
open Go Go.Proofs Go.Proofs.YtnlknpeelpnbaaaGreatDoorPe Go.Proofs.YtnlknpeelpnbaaaGreatDoorPe.ReadCode
def cellsS:Stk->List PV->List PV
 |(a,_)::s,kv::kvs=>cellsS s kvs++[.int .i64 0,.int .i64 (a:Int),.int .i64 0,.str [],kv]
 |_,_=>[]
inductive KvI (rows:List (Nat × Nat)) (rt:List TypeId):Stk->List PV->Prop where
 |nil:KvI rows rt [] []
 |cons {a:Nat} {ks:List Nd} {kv:PV} {s:Stk} {kvs:List PV} (h:OutV 5 T_sexp_reader_put_0 (ks.map Nd.p) kv rows rt) (t:KvI rows rt s kvs):KvI rows rt ((a,ks)::s) (kv::kvs)
theorem KvI.len {rows:List (Nat × Nat)} {rt:List TypeId} {s:Stk} {kvs:List PV} (h:KvI rows rt s kvs):(cellsS s kvs).length=s.length*5:=by
 induction h with
 |nil=>rfl
 |cons _ _ ih=>simp only[cellsS,List.length_append,List.length_cons,List.length_nil,ih]; omega
theorem KvI.keep {rows rows':List (Nat × Nat)} {rt rt':List TypeId} {s:Stk} {kvs:List PV} {x x':PV} (h:KvI rows rt s kvs) (hu : ∀ y∈kvs,Unlike x y)
  (hk : ∀ n2 T2 l2 x2,OutV n2 T2 l2 x2 rows rt->Unlike x x2->OutV n2 T2 l2 x2 rows' rt'/\Unlike x' x2):KvI rows' rt' s kvs /\ ∀ y∈kvs,Unlike x' y:=by
 induction h with
 |nil=>exact⟨.nil,fun y hy=>by cases hy⟩
 |@cons a ks kv s kvs h t ih =>
  obtain⟨i1,i2⟩:=ih fun y hy=>hu y (List.mem_cons_of_mem _ hy)
  obtain⟨j1,j2⟩:=hk _ _ _ _ h (hu kv (List.mem_cons_self ..))
  refine⟨.cons j1 i1,fun y hy => ?_⟩
  rcases List.mem_cons.1 hy with rfl|hy
  ·exact j2
  ·exact i2 y hy
def HsI (s:Stk) (kvs:List PV) (ov:PV) (rest:List (List PV)) (bt:List TypeId):Prop :=
 (s=[]/\ov = .nils) \/ ∃ hb cs,ov = .hs 5 (hb+1) 0 s.length/\rest[hb]? = some cs/\bt[hb+1]? = some hsT/\0<cs.length/\s.length*5<=cs.length/\cs.take (s.length*5)=cellsS s kvs
theorem HsI.len {s:Stk} {kvs:List PV} {ov:PV} {rest:List (List PV)} {bt:List TypeId} (h:HsI s kvs ov rest bt):unV .len ov=some (.int .i64 (s.length:Int)):=by
 rcases h with ⟨rfl,rfl⟩|⟨hb,cs,rfl,_⟩ <;> rfl
theorem HsI.grow {s:Stk} {kvs:List PV} {ov:PV} {rest more:List (List PV)} {bt mt:List TypeId} (h:HsI s kvs ov rest bt):HsI s kvs ov (rest++more) (bt++mt):=by
 rcases h with h|⟨hb,cs,h1,h2,h3,h4⟩
 ·exact .inl h
 ·exact .inr ⟨hb,cs,h1,by rw[List.getElem?_append_left (List.getElem?_eq_some_iff.1 h2).1]; exact h2,by rw[List.getElem?_append_left (List.getElem?_eq_some_iff.1 h3).1]; exact h3,h4⟩
def RdI (l:List Tok) (i:Nat) (r:Rd) (st:St):Prop := ∃ ov uv rest rows bt rt kvs,st=⟨srC l r.n ov uv::rest,rows,bt,rt⟩/\rt.length=rows.length/\bt.length=rest.length+1 /\
 OutV 5 T_sexp_reader_put_0 (r.out.map Nd.p) uv rows rt/\KvI rows rt r.stk kvs/\(uv::kvs).Pairwise Unlike/\HsI r.stk kvs ov rest bt/\r.out.length<=i/\(∀ f∈r.stk,f.2.length<=i)/\r.n<=4096/\r.stk.length<=32
theorem put_ok {l:List Tok} {i:Nat} {r:Rd} {st:St} {x:Nd} {xv:PV} (hx:shutA 5 xv=some (.lst (x.kids.map Nd.p))) (h:RdI l i r st) (hi:i<=100000) :
  ∃ st',callE efns given f_sexp_reader_put [.ptr 0 0,.agg (x.cellsX xv)] st=some (.tuple [],st')/\RdI l (i+1) ⟨r.n,(putM x r.stk r.out).1,(putM x r.stk r.out).2⟩ st':=by
 obtain⟨n,stk,out⟩:=r
 obtain⟨ov,uv,rest,rows,bt,rt,kvs,rfl,hr,hbt,hU,hK,hP,hH,ho,hs,hn,hd⟩:=h
 simp only at *
 rw[List.pairwise_cons] at hP
 cases hK with
 |nil =>
  obtain⟨r,rows',rt',h1,h2,h3,h4,h5⟩:=put_out (l:=l) (n:=n) (x:=x) (rest:=rest) (bt:=bt) hx hH.len hU hr (by omega)
  refine⟨_,h1,_,_,_,_,_,_,[],rfl,h3,by simp[hbt],h2,.nil,by simp,hH.grow,by simp[putM]; omega,fun f hf=>(by cases hf),hn,by simp[putM]⟩
 |@cons a ks kv s kvs hkv t =>
  rcases hH with ⟨hH,_⟩|⟨hb,cs,rfl,h2,h3,h4,h40,h5⟩
  ·cases hH
  rw[List.pairwise_cons] at hP
  have hlen:=t.len
  simp only[List.length_cons] at h40 h5
  have hd':=hd
  simp only[List.length_cons] at hd'
  have e0:cs=cellsS s kvs++[.int .i64 0,.int .i64 (a:Int),.int .i64 0,.str [],kv]++cs.drop ((s.length+1)*5):=by
   conv=>lhs; rw[<- List.take_append_drop ((s.length+1)*5) cs,h5]
   rfl
  have ekv:cs[s.length*5+4]? = some kv:=by
   rw[e0,List.append_assoc,List.getElem?_append_right (by omega),hlen,Nat.add_sub_cancel_left]
   rfl
  have hks:=hs (a,ks) (List.mem_cons_self ..)
  obtain⟨r,rows',rt',k1,k2,k3,k4,k5⟩:=put_top (l:=l) (n:=n) (uv:=uv) (x:=x) (bt:=bt) hx h2 (by omega) ekv hkv hr (by simp only at hks; omega) (by omega)
  obtain⟨t1,t2⟩:=t.keep hP.2.1 k5
  obtain⟨u1,u2⟩:=k5 _ _ _ _ hU (hP.1 kv (List.mem_cons_self ..)).symm
  have hlt:hb<rest.length:=(List.getElem?_eq_some_iff.1 h2).1
  refine⟨_,k1,_,_,_,_,_,_,.own r ((ks++[x]).map Nd.p)::kvs,rfl,k3,by simp[hbt],u1,.cons k2 t1,?_,?_,by simp[putM]; omega,fun f hf => ?_,hn,hd⟩
  ·rw[List.pairwise_cons,List.pairwise_cons]
   refine⟨fun y hy => ?_,t2,hP.2.2⟩
   rcases List.mem_cons.1 hy with rfl|hy
   ·exact u2.symm
   ·exact hP.1 y (List.mem_cons_of_mem _ hy)
  ·refine .inr ⟨hb,cs.set (s.length*5+4) (.own r ((ks++[x]).map Nd.p)),rfl,?_,by rw[List.getElem?_append_left (List.getElem?_eq_some_iff.1 h3).1]; exact h3,by simpa using h4,by simpa [putM] using h40,?_⟩
   ·rw[List.getElem?_append_left (by simpa using hlt),List.getElem?_set_self hlt]
   ·show (cs.set (s.length*5+4) _).take ((s.length+1)*5)=cellsS s kvs++[.int .i64 0,.int .i64 (a:Int),.int .i64 0,.str [],_]
    rw[e0,List.append_assoc,List.set_append_right _ _ (by omega),hlen,Nat.add_sub_cancel_left]
    have:(s.length+1)*5=(cellsS s kvs).length+5:=by omega
    rw[this,List.take_length_add_append]
    rfl
  ·rcases List.mem_cons.1 hf with rfl|hf
   ·simp only[List.length_append,List.length_singleton]; simp only at hks; omega
   ·have:=hs f (List.mem_cons_of_mem _ hf); omega
end Go.Proofs.YtnlknpeelpnbaaaGreatDoorPe.Read
set_option linter.unusedVariables false
set_option linter.unusedSimpArgs false
set_option maxRecDepth 100000
namespace Go.Proofs.YtnlknpeelpnbaaaGreatDoorPe.Read
open Go Go.Proofs Go.Proofs.YtnlknpeelpnbaaaGreatDoorPe Go.Proofs.YtnlknpeelpnbaaaGreatDoorPe.ReadCode
theorem errP_iface (p e:Int):errP [(sChar,p)] e = .iface Errs.tF (.ref [.str sChar,.int .i64 p,.iface Errs.tE (.int .i64 e)]):=rfl
def StepQ (l:List Tok) (i:Nat) (res:Er (Nat × Rd)) (o:Option (PV × St)):Prop :=
 match res with
 |.error e => ∃ d:Int,Good (fun v _=>v = .tuple [.int .i64 d,errP [(sChar,e.1)] e.2]) o
 |.ok q => ∃ st',o=some (.tuple [.int .i64 (q.1:Int),.nili],st')/\RdI l (i+q.1) q.2 st'
theorem step_leaf {l:List Tok} {i:Nat} {r:Rd} {st:St} {t:Tok} {ts:List Tok} (h:RdI l i r st) (hi:i<l.length) (hi2:i<=100000) (ht:l[i]=t) (h8 : ¬ t.k=8) (h4 : ¬ t.k=4) (h5 : ¬ t.k=5) :
  StepQ l i (stepM t ts r) (callE efns given f_sexp_reader_step [.ptr 0 0,.int .i64 (i:Int)] st):=by
 obtain⟨n,stk,out⟩:=r
 obtain⟨ov,uv,rest,rows,bt,rt,kvs,rfl,hr,hbt,hU,hK,hP,hH,ho,hs,hn,hd⟩:=h
 simp only at *
 have hT:=tok_at' hi
 rw[ht] at hT
 have hcnt:=count_ok (l:=l) (n:=n) (ov:=ov) (uv:=uv) (t:=t) (rest:=rest++[t.cells']) (rows:=rows) (bt:=bt++[T_sexp_reader_step_1]) (rt:=rt) (by omega)
 have hleaf:=leaf_t (t:=t)
 unfold stepM
 rw[if_neg h8,if_neg h4,if_neg h5,callE_fn efns given (c:=e_sexp_reader_step) rfl rfl]
 simp only
 by_cases hc:n+1>4096
 ·rw[if_pos hc] at hcnt ⊢
  refine⟨0,?_⟩
  rw[errP_iface] at hcnt ⊢
  simp only[srC,Tok.cells',List.append_assoc,List.cons_append,List.nil_append] at hcnt hT ⊢
  simp only[e_sexp_reader_step,go_sem,hT,eq_false h8,eq_false h4,eq_false h5,hcnt]
  exact Good.done rfl
 ·rw[if_neg hc] at hcnt ⊢
  obtain⟨st',h1,h2⟩:=put_ok (l:=l) (i:=i) (r:=⟨n+1,stk,out⟩) (st:=⟨srC l (n+1) ov uv::(rest++[t.cells',t.cells']),rows,bt++[T_sexp_reader_step_1,T_sexp_reader_count_0],rt⟩) (x:=leafN t) (xv:=.lst ((leafN t).kids.map Nd.p)) rfl
   ⟨ov,uv,_,rows,_,rt,kvs,rfl,hr,by simp[hbt],hU,hK,hP,hH.grow,ho,hs,by simp only; omega,hd⟩ hi2
  refine⟨st',?_,h2⟩
  simp only[srC,Tok.cells',Nd.cells,Nd.cellsX,List.append_assoc,List.cons_append,List.nil_append] at hcnt hT h1 hleaf ⊢
  simp only[e_sexp_reader_step,go_sem,hT,eq_false h8,eq_false h4,eq_false h5,hcnt,hleaf,h1]
theorem open_ok {s:Stk} {kvs:List PV} {ov:PV} {rest:List (List PV)} {bt rt:List TypeId} {rows:List (Nat × Nat)} {A:List PV} {a:Nat} (h:HsI s kvs ov rest bt) (hbt:bt.length=rest.length+1) (hl:s.length<=32) :
  ∃ rest',happendV 5 64 ov (.full [.agg [.int .i64 0,.int .i64 0,.int .i64 0,.str [],.lst []]]) ⟨A::rest,rows,bt,rt⟩ =
    some (.hs 5 (rest.length+1) 0 (s.length+1),⟨A::(rest'++[cellsS s kvs++[.int .i64 0,.int .i64 0,.int .i64 0,.str [],.lst []]]),rows,bt++[hsT],rt⟩)/\rest'.length=rest.length/\s.length*5=(cellsS s kvs).length:=by
 have hz:szAll 5 [.agg [.int .i64 0,.int .i64 0,.int .i64 0,.str [],.lst []]]=true:=rfl
 rcases h with ⟨rfl,rfl⟩|⟨hb,cs,rfl,h2,h3,h4,h5,h6⟩
 ·refine⟨rest,?_,rfl,rfl⟩
  rw[happend_nil hz (by simp)]
  rfl
 ·refine⟨rest.set hb [],?_,by simp,by rw[<- h6,List.length_take]; omega⟩
  rw[happend_hs (cs:=cs) (by simpa using h2) hz h5 h4 h3 (by simp; omega),h6]
  rfl
theorem step_open {l:List Tok} {i:Nat} {r:Rd} {st:St} {t:Tok} {ts:List Tok} (h:RdI l i r st) (hi:i<l.length) (hi2:i<=100000) (ht:l[i]=t) (h4:t.k=4) :
  StepQ l i (stepM t ts r) (callE efns given f_sexp_reader_step [.ptr 0 0,.int .i64 (i:Int)] st):=by
 obtain⟨n,stk,out⟩:=r
 obtain⟨ov,uv,rest,rows,bt,rt,kvs,rfl,hr,hbt,hU,hK,hP,hH,ho,hs,hn,hd⟩:=h
 simp only at *
 have h8 : ¬ t.k=8:=by omega
 have hT:=tok_at' hi
 rw[ht] at hT
 have hcnt:=count_ok (l:=l) (n:=n) (ov:=ov) (uv:=uv) (t:=t) (rest:=rest++[t.cells']) (rows:=rows) (bt:=bt++[T_sexp_reader_step_1]) (rt:=rt) (by omega)
 have hL:=hH.len
 have hf:=fun p e=>sfault_t (p:=p) (e:=e)
 unfold stepM
 rw[if_neg h8,if_pos h4,callE_fn efns given (c:=e_sexp_reader_step) rfl rfl]
 simp only
 by_cases h32:stk.length>=32
 ·have c0:((stk.length:Int)>=32)=True:=eq_true (by omega)
  rw[if_pos h32]
  refine⟨0,?_⟩
  simp only[srC,Tok.cells'] at hT ⊢
  simp only[e_sexp_reader_step,go_sem,hT,eq_false h8,eq_true h4,hL,c0,hf]
  exact Good.done rfl
 have c0:((stk.length:Int)>=32)=False:=eq_false (by omega)
 rw[if_neg h32]
 by_cases hc:n+1>4096
 ·rw[if_pos hc] at hcnt ⊢
  refine⟨0,?_⟩
  rw[errP_iface] at hcnt ⊢
  simp only[srC,Tok.cells',List.append_assoc,List.cons_append,List.nil_append] at hcnt hT ⊢
  simp only[e_sexp_reader_step,go_sem,hT,eq_false h8,eq_true h4,hL,c0,hcnt]
  exact Good.done rfl
 ·rw[if_neg hc] at hcnt ⊢
  have hH2:HsI stk kvs ov (rest++[t.cells',t.cells']) (bt++[T_sexp_reader_step_1,T_sexp_reader_count_0]):=hH.grow
  obtain⟨rest',ha,hl',hcl⟩:=open_ok (A:=srC l (n+1) ov uv) (rt:=rt) (rows:=rows) (a:=t.pos) hH2 (by simp[hbt]) hd
  have hb':tupV (callE efns given) (.bslice 5 [.int .i64 0,.int .i64 0,.int .i64 0,.str [],.nils] 1 [0]) [.agg [.int .i64 0,.int .i64 0,.int .i64 0,.str [],.nils]]=some (.full [.agg [.int .i64 0,.int .i64 0,.int .i64 0,.str [],.lst []]]):=V_bs1 rfl rfl rfl
  have hI:evHidx 5 5 ((rest++[t.cells',t.cells']).length+1) 0 (stk.length+1) (stk.length:Int)=some (.ptr ((rest++[t.cells',t.cells']).length+1) (0+stk.length*5)):=hs_at (Nat.lt_succ_self _)
  rw[<- hl'] at ha hI
  have c1:(stk.length*5+5<=(cellsS stk kvs).length+5)=True:=eq_true (by omega)
  have e1 : ∀ z:List PV,(cellsS stk kvs++z).take (stk.length*5)=cellsS stk kvs:=fun z=>by rw[hcl,List.take_left']; rfl
  have e2 : ∀ a b c d e:PV,(cellsS stk kvs++[a,b,c,d,e]).drop (stk.length*5+5)=[]:=fun a b c d e=>List.drop_eq_nil_of_le (by simp; omega)
  refine⟨⟨srC l (n+1) (.hs 5 (rest'.length+1) 0 (stk.length+1)) uv::(rest'++[cellsS stk kvs++[.int .i64 0,.int .i64 (t.pos:Int),.int .i64 0,.str [],.nils]]),rows,bt++[T_sexp_reader_step_1,T_sexp_reader_count_0]++[hsT],rt⟩,?_,?_⟩
  ·simp only[srC,Tok.cells',List.append_assoc,List.cons_append,List.nil_append] at hcnt hT ha hI ⊢
   simp only[e_sexp_reader_step,go_sem,hT,eq_false h8,eq_true h4,hL,c0,hcnt,hb',ha,hI,c1,e1,e2]
  ·refine⟨_,_,_,_,_,_,.nils::kvs,rfl,hr,by simp[hbt,hl'],hU,.cons .nils hK,?_,?_,by simp only; omega,fun f hf => ?_,by simp only; omega,by simp; omega⟩
   ·rw[List.pairwise_cons] at hP ⊢
    refine⟨fun y hy => ?_,List.pairwise_cons.2 ⟨fun y _=>.nils,hP.2⟩⟩
    rcases List.mem_cons.1 hy with rfl|hy
    ·exact Unlike.nils.symm
    ·exact hP.1 y hy
   ·refine .inr ⟨rest'.length,cellsS stk kvs++[.int .i64 0,.int .i64 (t.pos:Int),.int .i64 0,.str [],.nils],rfl,by simp,?_,by simp,by simp; omega,?_⟩
    ·rw[List.getElem?_append_right (by simp[hbt,hl']),hl']
     simp[hbt]
    ·rw[List.take_of_length_le (by simp; omega)]
     rfl
   ·rcases List.mem_cons.1 hf with rfl|hf
    ·exact Nat.zero_le _
    ·have:=hs f hf; omega
theorem step_close {l:List Tok} {i:Nat} {r:Rd} {st:St} {t:Tok} {ts:List Tok} (h:RdI l i r st) (hi:i<l.length) (hi2:i<=100000) (ht:l[i]=t) (h5:t.k=5) :
  StepQ l i (stepM t ts r) (callE efns given f_sexp_reader_step [.ptr 0 0,.int .i64 (i:Int)] st):=by
 obtain⟨n,stk,out⟩:=r
 obtain⟨ov,uv,rest,rows,bt,rt,kvs,rfl,hr,hbt,hU,hK,hP,hH,ho,hs,hn,hd⟩:=h
 simp only at *
 have h8 : ¬ t.k=8:=by omega
 have h4 : ¬ t.k=4:=by omega
 have hT:=tok_at' hi
 rw[ht] at hT
 have hL:=hH.len
 have hf:=fun p e=>sfault_t (p:=p) (e:=e)
 unfold stepM
 rw[if_neg h8,if_neg h4,if_pos h5,callE_fn efns given (c:=e_sexp_reader_step) rfl rfl]
 simp only
 cases hK with
 |nil =>
  have hL:unV .len ov=some (.int .i64 0):=hL
  have w:IntKind.i64.wrap ((0:Int)-1) = -1:=by decide
  have c0:((-1:Int)<0)=True:=eq_true (by decide)
  refine⟨0,?_⟩
  simp only[srC,Tok.cells'] at hT ⊢
  simp only[e_sexp_reader_step,go_sem,hT,eq_false h8,eq_false h4,eq_true h5,hL,w,c0,hf]
  exact Good.done rfl
 |@cons a ks kv s kvs hkv tl =>
  rcases hH with ⟨hH,_⟩|⟨hb,cs,rfl,k2,k3,k4,k5,k6⟩
  ·cases hH
  rw[List.pairwise_cons,List.pairwise_cons] at hP
  simp only[List.length_cons] at k5 k6 hd hL
  have hlen:=tl.len
  have e0:cs=cellsS s kvs++[.int .i64 0,.int .i64 (a:Int),.int .i64 0,.str [],kv]++cs.drop ((s.length+1)*5):=by
   conv=>lhs; rw[<- List.take_append_drop ((s.length+1)*5) cs,k6]
   rfl
  have e1:cs.take (s.length*5)=cellsS s kvs:=by
   rw[e0,List.append_assoc,<- hlen,List.take_left']
   rfl
  have e2:cs.drop (s.length*5) = .int .i64 0 :: .int .i64 (a:Int) :: .int .i64 0 :: .str []::kv::cs.drop ((s.length+1)*5):=by
   conv=>lhs; rw[e0,List.append_assoc,<- hlen,List.drop_left']
   rfl
  have hlt:hb<rest.length:=(List.getElem?_eq_some_iff.1 k2).1
  have hg : ∀ m,(rest++m)[hb]? = some cs:=fun m=>by rw[List.getElem?_append_left hlt]; exact k2
  have w1:IntKind.i64.wrap (((s.length+1:Nat):Int)-1)=(s.length:Int):=by rw[IntKind.wrap_i64]; omega
  have c0:((s.length:Int)<0)=False:=eq_false (by omega)
  have hI:evHidx 5 5 (hb+1) 0 (s.length+1) (s.length:Int)=some (.ptr (hb+1) (0+s.length*5)):=hs_at (Nat.lt_succ_self _)
  have hS:lsubV 5 (.hs 5 (hb+1) 0 (s.length+1)) none (some (.int .i64 (s.length:Int))) none=some (.hs 5 (hb+1) 0 s.length):=lsub_hs (Nat.le_succ _)
  obtain⟨st',h1,h2⟩:=put_ok (l:=l) (i:=i) (r:=⟨n,s,out⟩) (st:=⟨srC l n (.hs 5 (hb+1) 0 s.length) uv::(rest++[t.cells',[.int .i64 0,.int .i64 (a:Int),.int .i64 0,.str [],kv]]),rows,bt++[T_sexp_reader_step_1,T_sexp_reader_step_0],rt⟩) (x:=.mk 0 a 0 [] ks) (xv:=kv) (hkv.shutA 4)
   ⟨_,uv,_,rows,_,rt,kvs,rfl,hr,by simp[hbt],hU,tl,by rw[List.pairwise_cons]; exact⟨fun y hy=>hP.1 y (List.mem_cons_of_mem _ hy),hP.2.2⟩,
    .inr ⟨hb,cs,rfl,hg _,by rw[List.getElem?_append_left (List.getElem?_eq_some_iff.1 k3).1]; exact k3,k4,by simp only; omega,e1⟩,ho,fun f hf=>hs f (List.mem_cons_of_mem _ hf),hn,by simp only; omega⟩ hi2
  refine⟨st',?_,h2⟩
  simp only[srC,Tok.cells',Nd.cellsX,Nd.k,Nd.pos,Nd.i,Nd.s,List.append_assoc,List.cons_append,List.nil_append] at hT h1 ⊢
  simp only[e_sexp_reader_step,go_sem,hT,eq_false h8,eq_false h4,eq_true h5,w1,c0,hI,hg,e2,hkv.cells,hkv.cell,hS,h1]
end Go.Proofs.YtnlknpeelpnbaaaGreatDoorPe.Read
set_option linter.unusedVariables false
set_option linter.unusedSimpArgs false
set_option maxRecDepth 100000
namespace Go.Proofs.YtnlknpeelpnbaaaGreatDoorPe.Read
open Go Go.Proofs Go.Proofs.YtnlknpeelpnbaaaGreatDoorPe Go.Proofs.YtnlknpeelpnbaaaGreatDoorPe.ReadCode
def NotQ (l:List Tok) (i:Nat) (res:Er (Nat × Rd)) (o:Option (PV × St)):Prop :=
 match res with
 |.error e=>Good (fun v _=>v=errP [(sChar,e.1)] e.2) o
 |.ok q => ∃ st',o=some (.nili,st')/\RdI l (i+q.1) q.2 st'
theorem errGood {p e:Int} {st:St}:Good (fun v _=>v=errP [(sChar,p)] e) (some (.iface Errs.tF (.ref [.str sChar,.int .i64 p,.iface Errs.tE (.int .i64 e)]),st)):=Good.done rfl
theorem not_ok {l:List Tok} {i:Nat} {r:Rd} {st:St} {t:Tok} (h:RdI l i r st) (hi:i<l.length) (hi2:i<=100000) (ht:l[i]=t) (h8:t.k=8) :
  NotQ l i (stepM t (l.drop (i+1)) r) (callE efns given f_sexp_reader_not [.ptr 0 0,.agg t.cells',.int .i64 (i:Int)] st):=by
 obtain⟨n,stk,out⟩:=r
 obtain⟨ov,uv,rest,rows,bt,rt,kvs,rfl,hr,hbt,hU,hK,hP,hH,ho,hs,hn,hd⟩:=h
 simp only at *
 have hf:=fun p e=>sfault_t (p:=p) (e:=e)
 have hcnt:=count_ok (l:=l) (n:=n) (ov:=ov) (uv:=uv) (t:=t) (rest:=rest++[t.cells']) (rows:=rows) (bt:=bt++[T_sexp_reader_not_0]) (rt:=rt) (by omega)
 unfold stepM
 rw[if_pos h8,callE_fn efns given (c:=e_sexp_reader_not) rfl rfl]
 simp only
 by_cases hc:n+1>4096
 ·rw[if_pos hc] at hcnt ⊢
  rw[errP_iface] at hcnt
  simp only[srC,Tok.cells',List.append_assoc,List.cons_append,List.nil_append] at hcnt ⊢
  simp only[e_sexp_reader_not,go_sem,hcnt]
  exact errGood
 rw[if_neg hc] at hcnt ⊢
 have w1:IntKind.i64.wrap ((i:Int)+1)=((i+1:Nat):Int):=wrapN (by omega)
 by_cases he:i+1<l.length
 ·have hd1:=List.drop_eq_getElem_cons he
  have hT:=tok_at' he
  generalize l[i+1]=u at hd1 hT
  rw[hd1]
  simp only
  have c1:(((i+1:Nat):Int)>=(l.length:Int))=False:=eq_false (by omega)
  by_cases hu:u.k=4\/u.k=5\/u.k=8
  ·rw[if_pos hu]
   simp only[srC,Tok.cells',List.append_assoc,List.cons_append,List.nil_append] at hcnt hT ⊢
   by_cases u4:u.k=4
   ·simp only[e_sexp_reader_not,go_sem,hcnt,w1,List.length_map,c1,hT,eq_true u4,hf]
    exact Good.done rfl
   ·by_cases u5:u.k=5
    ·simp only[e_sexp_reader_not,go_sem,hcnt,w1,List.length_map,c1,hT,eq_false u4,eq_true u5,hf]
     exact Good.done rfl
    ·have u8:u.k=8:=by omega
     simp only[e_sexp_reader_not,go_sem,hcnt,w1,List.length_map,c1,hT,eq_false u4,eq_false u5,eq_true u8,hf]
     exact Good.done rfl
  ·rw[if_neg hu]
   have u4 : ¬ u.k=4:=fun h=>hu (.inl h)
   have u5 : ¬ u.k=5:=fun h=>hu (.inr (.inl h))
   have u8 : ¬ u.k=8:=fun h=>hu (.inr (.inr h))
   have hcnt2:=count_ok (l:=l) (n:=n+1) (ov:=ov) (uv:=uv) (t:=u) (rest:=rest++[t.cells',t.cells',u.cells']) (rows:=rows) (bt:=bt++[T_sexp_reader_not_0,T_sexp_reader_count_0,T_sexp_reader_not_0]) (rt:=rt) (by omega)
   by_cases hc2:n+2>4096
   ·rw[if_pos (show n+1+1>4096 from hc2),errP_iface] at hcnt2
    rw[if_pos hc2]
    simp only[srC,Tok.cells',List.append_assoc,List.cons_append,List.nil_append] at hcnt hcnt2 hT ⊢
    simp only[e_sexp_reader_not,go_sem,hcnt,hcnt2,w1,List.length_map,c1,hT,eq_false u4,eq_false u5,eq_false u8]
    exact errGood
   ·rw[if_neg (show ¬ n+1+1>4096 from hc2)] at hcnt2
    rw[if_neg hc2]
    have hleaf:=leaf_t (t:=u)
    have hbs:tupV (callE efns given) (.bslice 5 [.int .i64 0,.int .i64 0,.int .i64 0,.str [],.nils] 1 [0]) [.agg (leafN u).cells]=some (.full [.agg (leafN u).cells]):=V_bs1 rfl rfl rfl
    obtain⟨st',h1,h2⟩:=put_ok (l:=l) (i:=i) (r:=⟨n+2,stk,out⟩) (st:=⟨srC l (n+1+1) ov uv::(rest++[t.cells',t.cells',u.cells',u.cells']),rows,bt++[T_sexp_reader_not_0,T_sexp_reader_count_0,T_sexp_reader_not_0,T_sexp_reader_count_0],rt⟩)
     (x:=.mk 8 t.pos 0 [] [leafN u]) (xv:=.full [.agg (leafN u).cells]) (by rw[<- Nd.p_eq]; rfl)
     ⟨ov,uv,_,rows,_,rt,kvs,rfl,hr,by simp[hbt],hU,hK,hP,hH.grow,ho,hs,by simp only; omega,hd⟩ hi2
    refine⟨st',?_,?_⟩
    ·simp only[srC,Tok.cells',Nd.cells,Nd.cellsX,Nd.k,Nd.pos,Nd.i,Nd.s,List.append_assoc,List.cons_append,List.nil_append] at hcnt hcnt2 hT h1 hleaf hbs ⊢
     simp only[e_sexp_reader_not,go_sem,hcnt,hcnt2,w1,List.length_map,c1,hT,eq_false u4,eq_false u5,eq_false u8,hleaf,hbs,h1]
    ·obtain⟨ov',uv',rest',rows',bt',rt',kvs',e1,e2,e3,e4,e5,e6,e7,e8,e9,e10⟩:=h2
     exact⟨ov',uv',rest',rows',bt',rt',kvs',e1,e2,e3,e4,e5,e6,e7,by simp only at e8 ⊢; omega,fun f hf=>by have:=e9 f hf; omega,e10⟩
 ·have c1:(((i+1:Nat):Int)>=(l.length:Int))=True:=eq_true (by omega)
  rw[List.drop_eq_nil_of_le (by omega)]
  simp only
  simp only[srC,Tok.cells',List.append_assoc,List.cons_append,List.nil_append] at hcnt ⊢
  simp only[e_sexp_reader_not,go_sem,hcnt,w1,List.length_map,c1,hf]
  exact Good.done rfl
theorem step_not {l:List Tok} {i:Nat} {r:Rd} {st:St} {t:Tok} (h:RdI l i r st) (hi:i<l.length) (hi2:i<=100000) (ht:l[i]=t) (h8:t.k=8) :
  StepQ l i (stepM t (l.drop (i+1)) r) (callE efns given f_sexp_reader_step [.ptr 0 0,.int .i64 (i:Int)] st):=by
 obtain⟨n,stk,out⟩:=r
 have hT:=tok_at' hi
 rw[ht] at hT
 obtain⟨ov,uv,rest,rows,bt,rt,kvs,rfl,hr,hbt,hU,hK,hP,hH,ho,hs,hn,hd⟩:=h
 have hN:=not_ok (l:=l) (i:=i) (r:=⟨n,stk,out⟩) (st:=⟨srC l n ov uv::(rest++[t.cells']),rows,bt++[T_sexp_reader_step_1],rt⟩) (t:=t)
  ⟨ov,uv,_,rows,_,rt,kvs,rfl,hr,by simp[hbt],hU,hK,hP,hH.grow,ho,hs,hn,hd⟩ hi hi2 ht h8
 have hq : ∀ q,stepM t (l.drop (i+1)) ⟨n,stk,out⟩ = .ok q->q.1=2:=fun q hq=>by
  unfold stepM at hq
  rw[if_pos h8] at hq
  split at hq
  ·cases hq
  ·split at hq
   ·cases hq
   ·split at hq
    ·cases hq
    ·split at hq
     ·cases hq
     ·cases hq; rfl
 rw[callE_fn efns given (c:=e_sexp_reader_step) rfl rfl]
 cases hs:stepM t (l.drop (i+1)) ⟨n,stk,out⟩ with
 |error e =>
  rw[hs] at hN
  obtain⟨v,st',hN,rfl⟩:=hN
  refine⟨2,?_⟩
  rw[errP_iface] at hN ⊢
  simp only[srC,Tok.cells'] at hN hT ⊢
  simp only[e_sexp_reader_step,go_sem,hT,eq_true h8,hN]
  exact Good.done rfl
 |ok q =>
  rw[hs] at hN
  obtain⟨st',hN,hR⟩:=hN
  refine⟨st',?_,hR⟩
  rw[hq q hs]
  simp only[srC,Tok.cells'] at hN hT ⊢
  simp only[e_sexp_reader_step,go_sem,hT,eq_true h8,hN]
theorem step_ok {l:List Tok} {i:Nat} {r:Rd} {st:St} (h:RdI l i r st) (hi:i<l.length) (hi2:i<=100000) :
  StepQ l i (stepM l[i] (l.drop (i+1)) r) (callE efns given f_sexp_reader_step [.ptr 0 0,.int .i64 (i:Int)] st):=by
 by_cases h8:l[i].k=8
 ·exact step_not h hi hi2 rfl h8
 by_cases h4:l[i].k=4
 ·exact step_open h hi hi2 rfl h4
 by_cases h5:l[i].k=5
 ·exact step_close h hi hi2 rfl h5
 ·exact step_leaf h hi hi2 rfl h8 h4 h5
end Go.Proofs.YtnlknpeelpnbaaaGreatDoorPe.Read
set_option linter.unusedVariables false
set_option linter.unusedSimpArgs false
set_option maxRecDepth 100000
namespace Go.Proofs.YtnlknpeelpnbaaaGreatDoorPe.Read
open Go Go.Proofs Go.Proofs.YtnlknpeelpnbaaaGreatDoorPe Go.Proofs.YtnlknpeelpnbaaaGreatDoorPe.ReadCode
def sreadV:Er (List Nd)->PV
 |.ok l=>.tuple [.lst (l.map Nd.p),.nili]
 |.error e=>.tuple [.lst [],errP [(sChar,e.1)] e.2]
theorem step_one {t:Tok} {ts:List Tok} {r:Rd} {q:Nat × Rd} (h:stepM t ts r = .ok q):q.1=1\/q.1=2:=by
 unfold stepM at h
 split at h
 ·split at h
  ·cases h
  ·split at h
   ·cases h
   ·split at h
    ·cases h
    ·split at h
     ·cases h
     ·cases h; exact .inr rfl
 ·split at h
  ·split at h
   ·cases h
   ·split at h
    ·cases h
    ·cases h; exact .inl rfl
  ·split at h
   ·split at h
    ·cases h
    ·cases h; exact .inl rfl
   ·split at h
    ·cases h
    ·cases h; exact .inl rfl
theorem sread_t (b:List UInt8):tupV (callE efns given) (.call 0 f_sexp_Read) [.lst (byts b)]=some (sreadV (readM b)):=by
 have hs:=scan_t b
 refine call_good (f:=f_sexp_Read) rfl ?_
 rw[callE_fn efns given (c:=e_sexp_Read) rfl rfl]
 unfold readM
 have hf:=fun p e=>sfault_t (p:=p) (e:=e)
 cases h1:scanL b with
 |error q =>
  rw[h1] at hs
  simp only[scanV,faultV] at hs
  simp only[e_sexp_Read,go_sem,hs]
  exact Good.done rfl
 |ok l =>
  rw[h1] at hs
  simp only[scanV] at hs
  have hl:l.length<=65536:=by
   have:=scanL_len h1
   omega
  have hp : ∀ t∈l,Plain t:=fun t ht=>plain_of (scanL_kind h1 t ht)
  simp only[e_sexp_Read,go_sem,hs]
  generalize hL:readL l=L
  rw[<- run_read hp] at hL
  refine Good.loop (fun a:Nat=>l.length-a) (fun a fr st => ∃ r f,fr=[.undef,.lst (l.map Tok.p),.ptr 0 0,.int .i64 (a:Int)]++List.replicate 8 .undef/\RdI l a r st/\(l.drop a).length+1<=f/\L=runM f (l.drop a) r) ?_ 0 ?_
  ·rintro a fr st ⟨r,f,rfl,hR,hf1,he⟩ K hK
   obtain⟨f,rfl⟩ : ∃ q,f=q+1:=⟨f-1,by omega⟩
   unfold runM at he
   by_cases ha:a<l.length
   ·have c1:((a:Int)<(l.length:Int))=True:=eq_true (by omega)
    have hst:=step_ok hR ha (by omega)
    have hd:=List.drop_eq_getElem_cons ha
    rw[hd] at he hf1
    simp only at he
    cases hm:stepM l[a] (l.drop (a+1)) r with
    |error e =>
     rw[hm] at hst he
     obtain⟨d,v,st',hst,rfl⟩:=hst
     rw[errP_iface] at hst
     simp only[b_sexp_Read_0,go_sem,List.length_map,c1,hst]
     exact Good.done (by rw[he]; rfl)
    |ok q =>
     rw[hm] at hst he
     obtain⟨st',hst,hR'⟩:=hst
     have hq:=step_one hm
     have w1:IntKind.i64.wrap ((a:Int)+(q.1:Int))=((a+q.1:Nat):Int):=by rw[IntKind.wrap_i64]; omega
     simp only[b_sexp_Read_0,go_sem,List.length_map,c1,hst,w1]
     refine hK (a+q.1) _ _ (by omega) ⟨q.2,f,rfl,hR',?_,?_⟩
     ·simp only[List.length_cons,List.length_drop] at hf1 ⊢
      omega
     ·rw[he,<- hd]
      simp only
      rw[List.drop_drop]
   ·have c1:((a:Int)<(l.length:Int))=False:=eq_false (by omega)
    rw[List.drop_eq_nil_of_le (i:=a) (by omega)] at he
    simp only at he
    obtain⟨n,stk,out⟩:=r
    obtain⟨ov,uv,rest,rows,bt,rt,kvs,rfl,hr,hbt,hU,hK2,hP,hH,ho,hs,hn,hd⟩:=hR
    have hLn:=hH.len
    simp only at *
    unfold endM at he
    cases hK2 with
    |nil =>
     have hLn:unV .len ov=some (.int .i64 0):=hLn
     simp only[b_sexp_Read_0,go_sem,List.length_map,c1,srC,hLn,gt_iff_lt,Int.lt_irrefl]
     refine Good.done ?_
     rw[he]
     exact ret_tup (mS (hU.shutR _ _) (mS rfl mN))
    |@cons p ks kv s kvs hkv tl =>
     rcases hH with ⟨hH,_⟩|⟨hb,cs,rfl,k2,k3,k4,k5,k6⟩
     ·cases hH
     simp only[List.length_cons] at k5 k6 hd
     have hlen:=tl.len
     have e0:cs=cellsS s kvs++[.int .i64 0,.int .i64 (p:Int),.int .i64 0,.str [],kv]++cs.drop ((s.length+1)*5):=by
      conv=>lhs; rw[<- List.take_append_drop ((s.length+1)*5) cs,k6]
      rfl
     have e2:(cs.drop (s.length*5+1)).head? = some (.int .i64 (p:Int)):=by
      rw[List.head?_drop,e0,List.append_assoc,List.getElem?_append_right (by omega),hlen,Nat.add_sub_cancel_left]
      rfl
     have w1:IntKind.i64.wrap (((s.length+1:Nat):Int)-1)=(s.length:Int):=by rw[IntKind.wrap_i64]; omega
     have c0:(((s.length+1:Nat):Int)>0)=True:=eq_true (by omega)
     have hI:evHidx 5 5 (hb+1) 0 (s.length+1) (s.length:Int)=some (.ptr (hb+1) (0+s.length*5)):=hs_at (Nat.lt_succ_self _)
     simp only[b_sexp_Read_0,go_sem,List.length_map,c1,srC,c0,w1,hI,k2,e2,hf]
     exact Good.done (by rw[he]; rfl)
  ·refine⟨⟨0,[],[]⟩,l.length+1,rfl,⟨.nils,.nils,[],[],[T_sexp_Read_0],[],[],rfl,rfl,rfl,.nils,.nil,by simp,.inl ⟨rfl,rfl⟩,by simp,fun f hf=>(by cases hf),by simp,by simp⟩,by simp,hL.symm⟩
end Go.Proofs.YtnlknpeelpnbaaaGreatDoorPe.Read
set_option maxRecDepth 1000000
namespace Go.Proofs.YtnlknpeelpnbaaaGreatDoorPe.Read
open Go Go.Proofs Go.Proofs.YtnlknpeelpnbaaaGreatDoorPe Go.Proofs.YtnlknpeelpnbaaaGreatDoorPe.ReadCode
theorem known_t:tupV (callE efns given) (.call 0 f_law5_known) []=some (.bool true):=run_t (k:=100) (by kernel_rfl)
end Go.Proofs.YtnlknpeelpnbaaaGreatDoorPe.Read
