/- A part of the proof of this folder's statement; it has no condition of its own. -/
import Derived.Test.YtnlknpeelpnbaaaGreatDoorReadSc
set_option linter.unusedVariables false
set_option linter.unusedSimpArgs false
set_option maxRecDepth 100000
namespace Go.Proofs.YtnlknpeelpnbaaaGreatDoorPe.Read
open Go Go.Proofs Go.Proofs.YtnlknpeelpnbaaaGreatDoorPe Go.Proofs.YtnlknpeelpnbaaaGreatDoorPe.ReadCode
theorem tw_front {p:UInt8->Bool} (h10:p 10=false) : ∀ (s r:List UInt8),(s++10::r).takeWhile p=s.takeWhile p
 |[],r=>by simp[h10]
 |c::s,r=>by
  rw[List.cons_append,List.takeWhile_cons,List.takeWhile_cons,tw_front h10 s r]
theorem star_front {s r:List UInt8}:isStar (s++10::r)=isStar s:=by
 cases s with
 |nil=>rfl
 |cons=>rfl
theorem name_front (s r:List UInt8):nameM (s++10::r)=nameM s:=by
 unfold nameM
 rw[tw_front (by decide)]
theorem str_front : ∀ (s acc:List UInt8) (n:Nat) (r:List UInt8) (t:List UInt8 × Nat),strM s acc n = .ok t->strM (s++r) acc n = .ok t
 |[],acc,n,r,t,h=>by cases h
 |[c],acc,n,r,t,h=>by
  unfold strM at h
  show strM (c::r) acc n=_
  unfold strM
  split at h
  ·rename_i hc
   rw[if_pos hc]
   exact h
  ·split at h
   ·cases h
   ·cases h
 |c::d::s,acc,n,r,t,h=>by
  unfold strM at h
  show strM (c::d::(s++r)) acc n=_
  unfold strM
  split at h
  ·rename_i hc
   rw[if_pos hc]
   exact h
  ·rename_i hc
   rw[if_neg hc]
   split at h
   ·rename_i hd
    rw[if_pos hd]
    exact str_front s _ _ r t h
   ·rename_i hd
    rw[if_neg hd]
    exact str_front (d::s) _ _ r t h
theorem one_front {c:UInt8} {s r:List UInt8} {t:Tk × Nat} (h:oneM (c::s) = .ok t):oneM (c::s++10::r) = .ok t:=by
 rw[List.cons_append,oneM_cons]
 rw[oneM_cons] at h
 split at h
 ·rename_i hc; rw[if_pos hc]; exact h
 rename_i h1; rw[if_neg h1]
 split at h
 ·rename_i hc; rw[if_pos hc]; exact h
 rename_i h2; rw[if_neg h2]
 split at h
 ·rename_i hc; rw[if_pos hc]; exact h
 rename_i h3; rw[if_neg h3]
 split at h
 ·rename_i hc
  rw[if_pos hc]
  split at h
  ·cases h
  ·rename_i t' ht
   rw[str_front _ _ _ (10::r) _ ht]
   exact h
 rename_i h4; rw[if_neg h4]
 split at h
 ·rename_i hc
  rw[if_pos hc]
  unfold varM at h ⊢
  rw[star_front]
  split at h
  ·rename_i hst
   rw[if_pos hst]
   obtain⟨s',rfl⟩:=isStar_iff.1 hst
   simp only[List.cons_append,List.drop_succ_cons,List.drop_zero] at h ⊢
   rw[name_front]
   split at h
   ·cases h
   ·rename_i t' ht
    have hl:=(nameM_le ht).2.1
    have e:(s'++10::r).drop t'.length=s'.drop t'.length++10::r:=List.drop_append_of_le_length hl
    rw[e,star_front]
    exact h
  ·rename_i hst
   rw[if_neg hst,name_front]
   exact h
 ·rename_i h5
  rw[if_neg h5]
  rw[<- List.cons_append]
  unfold wordM at h ⊢
  rw[tw_front (by decide)]
  exact h
theorem skip_front : ∀ (s:List UInt8) (b:Bool) (r:List UInt8),skipM b (s++10::r)=if skipM b s=[] then skipM false r else skipM b s++10::r
 |[],true,r=>by
  show skipM true (10::r)=_
  rw[skipM_t,if_pos rfl]
  rfl
 |[],false,r=>by
  show skipM false (10::r)=_
  rw[skipM_f,if_pos (by decide)]
  rfl
 |c::s,true,r=>by
  rw[List.cons_append,skipM_t,skipM_t]
  split
  ·exact skip_front s false r
  ·exact skip_front s true r
 |c::s,false,r=>by
  rw[List.cons_append,skipM_f,skipM_f]
  split
  ·exact skip_front s false r
  ·split
   ·exact skip_front s true r
   ·rw[if_neg (by simp)]
    rfl
theorem scan_front : ∀ (m:Nat) (s:List UInt8) (n:Nat) (l:List Tok) (r:List UInt8),s.length<=m->scanM n s = .ok l->scanM n (s++10::r)=ahead l (scanM (n+s.length+1) r):=by
 intro m
 induction m with
 |zero =>
  intro s n l r hm h
  have:s=[]:=List.eq_nil_of_length_eq_zero (by omega)
  subst this
  rw[scanM_nil rfl] at h
  cases h
  obtain⟨l,h1,h2⟩:=blank_scan (c:=10) (by decide) n
  cases l with
  |nil=>exact h2 r
  |cons=>cases h1
 |succ m ih =>
  intro s n l r hm h
  have hf:=skip_front s false r
  cases hs:skipM false s with
  |nil =>
   rw[scanM_nil hs] at h
   cases h
   rw[hs,if_pos rfl] at hf
   have hl:=skipM_le r false
   rw[scanM_eq (p:=n) (q:=n+s.length+1) hf (by simp only[List.length_append,List.length_cons]; omega)]
   cases scanM (n+s.length+1) r <;> rfl
  |cons c s' =>
   have hle:=skipM_le s false
   rw[hs,List.length_cons] at hle
   rw[hs,if_neg (by simp)] at hf
   rw[scanM_cons hs] at h
   rw[scanM_cons (r:=s'++10::r) hf]
   split at h
   ·cases h
   ·rename_i t ht
    have ht2:=one_front (r:=r) ht
    rw[List.cons_append] at ht2
    have hd:=oneM_le (t:=t.1) (m:=t.2) ht
    simp only[List.length_cons] at hd
    rw[ht2]
    simp only
    split at h
    ·cases h
    ·rename_i l' hl'
     cases h
     have e1:n+((s++10::r).length-((s'++10::r).length+1))=n+(s.length-(s'.length+1)):=by
      simp only[List.length_append,List.length_cons]; omega
     have e2:(s'++10::r).drop (t.2-1)=s'.drop (t.2-1)++10::r:=List.drop_append_of_le_length (by omega)
     rw[e1,e2,ih _ _ _ r (by rw[List.length_drop]; omega) hl']
     have e3:n+(s.length-(s'.length+1))+(t.2-1+1)+(s'.drop (t.2-1)).length+1=n+s.length+1:=by
      rw[List.length_drop]; omega
     rw[e3]
     cases scanM (n+s.length+1) r <;> rfl
theorem scan_shift : ∀ (m:Nat) (s:List UInt8) (n d:Nat),s.length<=m->scanM (n+d) s=match scanM n s with
  |.error e=>.error (e.1+d,e.2)
  |.ok l=>.ok (l.map fun t=>⟨t.k,t.pos+d,t.i,t.s⟩):=by
 intro m
 induction m with
 |zero =>
  intro s n d hm
  have:s=[]:=List.eq_nil_of_length_eq_zero (by omega)
  subst this
  rw[scanM_nil rfl,scanM_nil rfl]
  rfl
 |succ m ih =>
  intro s n d hm
  cases hs:skipM false s with
  |nil =>
   rw[scanM_nil hs,scanM_nil hs]
   rfl
  |cons c s' =>
   have hle:=skipM_le s false
   rw[hs,List.length_cons] at hle
   rw[scanM_cons hs,scanM_cons hs]
   have e0:n+d+(s.length-(s'.length+1))=n+(s.length-(s'.length+1))+d:=by omega
   rw[e0]
   cases oneM (c::s') with
   |error e=>rfl
   |ok t =>
    simp only
    have e1:n+(s.length-(s'.length+1))+d+(t.2-1+1)=n+(s.length-(s'.length+1))+(t.2-1+1)+d:=by omega
    rw[e1,ih _ _ d (by rw[List.length_drop]; omega)]
    cases scanM (n+(s.length-(s'.length+1))+(t.2-1+1)) (s'.drop (t.2-1)) <;> rfl
theorem step_front {t:Tok} {ts m:List Tok} {r:Rd} {q:Nat × Rd} (h:stepM t ts r = .ok q):stepM t (ts++m) r = .ok q/\q.1<=ts.length+1/\q.2.n<=r.n+q.1:=by
 unfold stepM at h ⊢
 split at h
 ·rename_i h8
  rw[if_pos h8]
  split at h
  ·cases h
  ·rename_i hc
   rw[if_neg hc]
   cases ts with
   |nil=>cases h
   |cons u us =>
    simp only[List.cons_append] at h ⊢
    split at h
    ·cases h
    ·rename_i hk
     rw[if_neg hk]
     split at h
     ·cases h
     ·rename_i hc2
      rw[if_neg hc2]
      cases h
      exact⟨rfl,by simp,by simp⟩
 ·rename_i h8
  rw[if_neg h8]
  split at h
  ·rename_i h4
   rw[if_pos h4]
   split at h
   ·cases h
   ·rename_i hl
    rw[if_neg hl]
    split at h
    ·cases h
    ·rename_i hc
     rw[if_neg hc]
     cases h
     exact⟨rfl,by simp,by simp⟩
  ·rename_i h4
   rw[if_neg h4]
   split at h
   ·rename_i h5
    rw[if_pos h5]
    split at h
    ·cases h
    ·rename_i hs
     cases h
     exact⟨rfl,by simp,by simp⟩
   ·rename_i h5
    rw[if_neg h5]
    split at h
    ·cases h
    ·rename_i hc
     rw[if_neg hc]
     cases h
     exact⟨rfl,by simp,by simp⟩
theorem run_front : ∀ (f:Nat) (l:List Tok) (r:Rd) (res:List Nd),runM f l r = .ok res -> ∃ n k,n<=r.n+l.length/\k<=l.length /\ ∀ m g,runM (k+g) (l++m) r=runM g m ⟨n,[],res⟩
 |0,_,_,_,h=>by unfold runM at h; cases h
 |f+1,l,r,res,h=>by
  unfold runM at h
  cases l with
  |nil =>
   obtain⟨n,stk,out⟩:=r
   simp only at h
   unfold endM at h
   split at h
   ·rename_i hs
    simp only at hs
    subst hs
    cases h
    exact⟨n,0,by simp,Nat.le_refl _,fun m g=>by rw[Nat.zero_add]; rfl⟩
   ·cases h
  |cons t ts =>
   simp only at h
   split at h
   ·cases h
   ·rename_i q hq
    obtain⟨_,hq1,hq2⟩:=step_front (m:=[]) hq
    have hq3:=step_one hq
    obtain⟨n,k,h1,h2,h3⟩:=run_front f _ q.2 res h
    rw[List.length_drop,List.length_cons] at h1 h2
    refine⟨n,k+1,by simp only[List.length_cons]; omega,by simp only[List.length_cons]; omega,fun m g => ?_⟩
    have e:k+1+g=k+g+1:=by omega
    rw[e]
    show (match stepM t (ts++m) r with
     |.error e=>(.error e:Er (List Nd))
     |.ok q=>runM (k+g) ((t::(ts++m)).drop q.1) q.2)=_
    rw[(step_front hq).1]
    simp only
    rw[<- h3 m g,<- List.cons_append,List.drop_append_of_le_length (by simpa using hq1)]
theorem relT_shift (d:Nat) : ∀ l:List Tok,RelT (fun p q=>q=p+(d:Int)) l (l.map fun t=>⟨t.k,t.pos+d,t.i,t.s⟩)
 |[]=>.nil
 |t::l=>.cons rfl (by simp) (relT_shift d l)
theorem read_joins {a b:List UInt8} {x y:List Nd} (ha:a.length<=1000) (hb:b.length<=1000) (hx:readM a = .ok x) (hy:readM b = .ok y) :
  ∃ y',readM (a++10::b) = .ok (x++y')/\RelL (fun p q=>q=p+((a.length+1:Nat):Int)) y y':=by
 unfold readM at hx hy
 split at hx
 ·cases hx
 rename_i la hla
 split at hy
 ·cases hy
 rename_i lb hlb
 have hka:=scanL_kind hla
 have hkb:=scanL_kind hlb
 have hna:=(scanL_len hla).1
 have hnb:=(scanL_len hlb).1
 rw[<- run_read fun t ht=>plain_of (hka t ht)] at hx
 rw[<- run_read fun t ht=>plain_of (hkb t ht)] at hy
 have sa:scanM 0 a = .ok la:=by
  unfold scanL at hla
  rw[if_neg (by omega)] at hla
  exact hla
 have sb:scanM 0 b = .ok lb:=by
  unfold scanL at hlb
  rw[if_neg (by omega)] at hlb
  exact hlb
 have hsh:=scan_shift _ b 0 (a.length+1) (Nat.le_refl _)
 rw[sb] at hsh
 have hsc:=scan_front _ a 0 la b (Nat.le_refl _) sa
 have e0:0+a.length+1=0+(a.length+1):=by omega
 rw[e0,hsh] at hsc
 have hL:scanL (a++10::b) = .ok (la++lb.map fun t=>⟨t.k,t.pos+(a.length+1),t.i,t.s⟩):=by
  unfold scanL
  rw[if_neg (by simp only[List.length_append,List.length_cons]; omega)]
  exact hsc
 obtain⟨n,k,h1,h2,h3⟩:=run_front _ la ⟨0,[],[]⟩ x hx
 have hrel:=relT_shift (a.length+1) lb
 generalize hlb2:(lb.map fun t=>(⟨t.k,t.pos+(a.length+1),t.i,t.s⟩:Tok))=lb2 at hL hrel
 have hlb3:lb2.length=lb.length:=by rw[<- hlb2,List.length_map]
 simp only at h1
 obtain⟨y',r1,r2⟩:=run_rel (o:=x) (d:=n) _ lb lb2 ⟨0,[],[]⟩ ⟨n,[],x⟩ y ⟨by simp,.nil,[],by simp,.nil⟩ hrel (.inr (by simp only; omega)) hy
 refine⟨y',?_,r2⟩
 unfold readM
 rw[hL]
 simp only
 have hkk:=scanL_kind hL
 rw[<- run_read fun t ht=>plain_of (hkk t ht)]
 have hpb : ∀ t∈lb2,Plain t:=fun t ht=>plain_of (hkk t (List.mem_append_right _ ht))
 obtain⟨g,hg⟩ : ∃ g,(la++lb2).length+1=k+(lb2.length+1+g):=⟨la.length-k,by rw[List.length_append]; omega⟩
 rw[hg,h3,run_cont _ _ lb2 ⟨n,[],x⟩ (Nat.le_refl _) (by omega) hpb,<- run_cont _ (lb2.length+1) lb2 ⟨n,[],x⟩ (Nat.le_refl _) (Nat.le_refl _) hpb,hlb3]
 exact r1
def PosR (N:Nat) (r:Rd):Prop:=(∀ x∈r.out,0<=x.pos/\x.pos<=N) /\ ∀ s∈r.stk,s.1<=N
theorem put_pos {N:Nat} {x:Nd} {stk:Stk} {out:List Nd} {n m:Nat} (hx:0<=x.pos/\x.pos<=N) (h:PosR N ⟨n,stk,out⟩):PosR N ⟨m,(putM x stk out).1,(putM x stk out).2⟩:=by
 obtain⟨h1,h2⟩:=h
 cases stk with
 |nil =>
  refine⟨fun y hy => ?_,fun s hs=>(by cases hs)⟩
  rcases List.mem_append.1 hy with hy|hy
  ·exact h1 y hy
  ·rw[List.mem_singleton.1 hy]; exact hx
 |cons s r =>
  obtain⟨a,ks⟩:=s
  refine⟨h1,fun s hs => ?_⟩
  rcases List.mem_cons.1 hs with rfl|hs
  ·exact h2 (a,ks) (List.mem_cons_self ..)
  ·exact h2 s (List.mem_cons_of_mem _ hs)
theorem step_pos {N:Nat} {t:Tok} {ts:List Tok} {r:Rd} {q:Nat × Rd} (ht:t.pos<=N) (h:PosR N r) (hq:stepM t ts r = .ok q):PosR N q.2:=by
 obtain⟨n,stk,out⟩:=r
 have hp:0<=(t.pos:Int)/\(t.pos:Int)<=N:=by omega
 unfold stepM at hq
 split at hq
 ·split at hq
  ·cases hq
  ·split at hq
   ·cases hq
   ·split at hq
    ·cases hq
    ·split at hq
     ·cases hq
     ·cases hq
      exact put_pos hp h
 ·split at hq
  ·split at hq
   ·cases hq
   ·split at hq
    ·cases hq
    ·cases hq
     refine⟨h.1,fun s hs => ?_⟩
     rcases List.mem_cons.1 hs with rfl|hs
     ·exact ht
     ·exact h.2 s hs
  ·split at hq
   ·split at hq
    ·cases hq
    ·rename_i a ks s hs
     simp only at hs
     subst hs
     cases hq
     have ha:=h.2 (a,ks) (List.mem_cons_self ..)
     simp only at ha
     exact put_pos (n:=n) ⟨by simp[Nd.pos],by simp only[Nd.pos]; omega⟩ ⟨h.1,fun s' hs'=>h.2 s' (List.mem_cons_of_mem _ hs')⟩
   ·split at hq
    ·cases hq
    ·cases hq
     exact put_pos hp h
theorem run_pos {N:Nat} : ∀ (f:Nat) (l:List Tok) (r:Rd) (res:List Nd),(∀ t∈l,t.pos<=N)->PosR N r->runM f l r = .ok res -> ∀ x∈res,0<=x.pos/\x.pos<=N
 |0,_,_,_,_,_,h=>by unfold runM at h; cases h
 |f+1,l,r,res,ht,hw,h=>by
  unfold runM at h
  cases l with
  |nil =>
   simp only at h
   unfold endM at h
   split at h
   ·cases h; exact hw.1
   ·cases h
  |cons t ts =>
   simp only at h
   split at h
   ·cases h
   ·rename_i q hq
    exact run_pos f _ q.2 res (fun u hu=>ht u (List.mem_of_mem_drop hu)) (step_pos (ht t (List.mem_cons_self ..)) hw hq) h
theorem read_pos {b:List UInt8} {r:List Nd} {v:Nd} (hb:b.length<=1000) (h:readM b = .ok r) (hv:v∈r):0<=v.pos/\v.pos<=1000:=by
 unfold readM at h
 split at h
 ·cases h
 ·rename_i l hl
  have hk:=scanL_kind hl
  rw[<- run_read fun t ht=>plain_of (hk t ht)] at h
  unfold scanL at hl
  rw[if_neg (by omega)] at hl
  have hp:=(scanM_pos _ b 0 (Nat.le_refl _)).2 _ hl
  exact run_pos (N:=1000) _ l _ r (fun t ht=>by have:=hp t ht; omega) ⟨fun x hx=>(by cases hx),fun s hs=>(by cases hs)⟩ h v hv
theorem sames_symm : ∀ (m:Nat) {l k:List Nd},Nd.szs l<=m->Nd.sames l k=true->Nd.sames k l=true
 |_,[],[],_,_=>rfl
 |0,x::l,y::k,h,_=>by simp only[Nd.szs] at h; rw[Nd.sz_eq] at h; omega
 |m+1,x::l,y::k,h,hs=>by
  simp only[Nd.szs] at h
  simp only[Nd.sames,Bool.and_eq_true] at hs ⊢
  have h1:=hs.1
  rw[Nd.same_eq] at h1 ⊢
  simp only[Bool.and_eq_true,decide_eq_true_eq] at h1 ⊢
  obtain⟨⟨⟨e1,e2⟩,e3⟩,e4⟩:=h1
  have hz:=Nd.sz_eq x
  exact⟨⟨⟨⟨e1.symm,e2.symm⟩,e3.symm⟩,sames_symm m (by omega) e4⟩,sames_symm m (by omega) hs.2⟩
 |_,[],_::_,_,hs=>by simp[Nd.sames] at hs
 |_,_::_,[],_,hs=>by simp[Nd.sames] at hs
theorem same_symm {x y:Nd} (h:Nd.same x y=true):Nd.same y x=true:=by
 rw[Nd.same_eq] at h ⊢
 simp only[Bool.and_eq_true,decide_eq_true_eq] at h ⊢
 obtain⟨⟨⟨e1,e2⟩,e3⟩,e4⟩:=h
 exact⟨⟨⟨e1.symm,e2.symm⟩,e3.symm⟩,sames_symm _ (Nat.le_refl _) e4⟩
theorem joins_law (a b:List UInt8):IsTrue (callE efns given f_law5_ReadJoins [.lst (byts a),.lst (byts b)] ⟨[],[],[],[]⟩):=by
 rw[callE_fn efns given (c:=e_law5_ReadJoins) rfl rfl]
 have hk:=known_t
 by_cases ha:a.length>1000
 ·have c0:((a.length:Int)>1000)=True:=eq_true (by omega)
  simp only[e_law5_ReadJoins,go_sem,hk,byts_length,c0]
  exact Good.done rfl
 have c0:((a.length:Int)>1000)=False:=eq_false (by omega)
 by_cases hb:b.length>1000
 ·have c1:((b.length:Int)>1000)=True:=eq_true (by omega)
  simp only[e_law5_ReadJoins,go_sem,hk,byts_length,c0,c1]
  exact Good.done rfl
 have c1:((b.length:Int)>1000)=False:=eq_false (by omega)
 have r1:=read_t a
 have r2:=read_t b
 cases hx:readM a with
 |error e =>
  obtain⟨p,e⟩:=e
  obtain⟨e1,_⟩:=readM_err hx
  have d0:(e=0)=False:=eq_false (by simp only at e1; omega)
  rw[hx] at r1
  simp only[readV,wrongV] at r1
  cases hy:readM b with
  |error e' =>
   rw[hy] at r2
   simp only[readV,wrongV] at r2
   simp only[e_law5_ReadJoins,go_sem,hk,byts_length,c0,c1,r1,r2,d0,ne_eq]
   exact Good.done rfl
  |ok y =>
   rw[hy] at r2
   simp only[readV,noneW] at r2
   simp only[e_law5_ReadJoins,go_sem,hk,byts_length,c0,c1,r1,r2,d0,ne_eq]
   exact Good.done rfl
 |ok x =>
  rw[hx] at r1
  simp only[readV,noneW] at r1
  cases hy:readM b with
  |error e =>
   obtain⟨p,e⟩:=e
   obtain⟨e1,_⟩:=readM_err hy
   have d0:(e=0)=False:=eq_false (by simp only at e1; omega)
   rw[hy] at r2
   simp only[readV,wrongV] at r2
   simp only[e_law5_ReadJoins,go_sem,hk,byts_length,c0,c1,r1,r2,d0,ne_eq]
   exact Good.done rfl
  |ok y =>
   rw[hy] at r2
   simp only[readV,noneW] at r2
   obtain⟨y',hj,hrel⟩:=read_joins (by omega) (by omega) hx hy
   have hs:=sread_t (a++10::b)
   rw[hj] at hs
   simp only[sreadV] at hs
   have hlen:=hrel.len
   obtain⟨_,hz⟩:=readM_ok hj
   obtain⟨_,hzy⟩:=readM_ok hy
   have hzl:=Nd.len_sz (x++y')
   have hpos2:=fun v hv=>read_pos (v:=v) (by omega) hy hv
   rw[List.length_append] at hzl
   have ht1:=btostr a
   have ht2:=btostr b
   have htb:unV .tobytes (.str (a++10::b))=some (.lst (byts (a++10::b))):=rfl
   have c2:(a.length+1<=4611686018427387904)=True:=eq_true (by omega)
   have c3:(a.length+1+b.length<=4611686018427387904)=True:=eq_true (by omega)
   have w1:IntKind.i64.wrap ((x.length:Int)+(y.length:Int))=((x++y').length:Int):=by
    rw[IntKind.wrap_i64,List.length_append]; omega
   have eA:a++[10]++b=a++10::b:=by simp
   simp only[e_law5_ReadJoins,go_sem,hk,byts_length,c0,c1,r1,r2,ht1,ht2,c2,c3,htb,hs,w1,List.length_map,ne_eq,List.length_cons,List.length_nil,List.nil_append]
   refine Good.for (x++y').length (fun n fr st=>fr=[.lst (byts a),.undef,.lst (x.map Nd.p),.undef,.lst (y.map Nd.p),.undef,.lst ((x++y').map Nd.p),.int .i64 (n:Int),.undef,.undef,.undef,.undef,.undef] /\ ∃ bs bt,st=⟨bs,[],bt,[]⟩) ?_ ?_ ?_
   ·rintro n fr st hn ⟨rfl,bs,bt,rfl⟩ k hk'
    have q1:((n:Int)<((x.length+y'.length:Nat):Int))=True:=eq_true (by rw[List.length_append] at hn; omega)
    have hat:=Nd.at_ hn
    have hxz:=Nd.sz_mem (List.getElem_mem hn)
    rw[List.length_append] at hn
    by_cases hnx:n<x.length
    ·have q2:((n:Int)<(x.length:Int))=True:=eq_true (by omega)
     have q3:((n:Int)>=(x.length:Int))=False:=eq_false (by omega)
     have hat2:=Nd.at_ hnx
     rw[List.getElem_append_left hnx] at hat hxz
     generalize x[n]=u at hat hat2 hxz
     have t1:=of_t _ u (Nat.le_refl _) (by omega)
     have t2:=places_t (x:=u) (by omega)
     rw[Nd.p_eq] at t1 t2
     simp only[Nd.cells] at t1 t2 hat hat2
     simp only[b_law5_ReadJoins_0,go_sem,List.length_map,q1,q2,q3,hat,hat2,t1,t2,wrapN (n:=n) (by omega)]
     exact hk' _ _ ⟨rfl,_,_,rfl⟩
    ·have q2:((n:Int)<(x.length:Int))=False:=eq_false (by omega)
     have q3:((n:Int)>=(x.length:Int))=True:=eq_true (by omega)
     have hm:n-x.length<y.length:=by omega
     have hm2:n-x.length<y'.length:=by omega
     have hat2:=Nd.at_ hm
     have w2:IntKind.i64.wrap ((n:Int)-(x.length:Int))=((n-x.length:Nat):Int):=by rw[IntKind.wrap_i64]; omega
     rw[List.getElem_append_right (by omega)] at hat hxz
     obtain⟨hsm,hpos⟩:=hrel.at hm hm2
     generalize y'[n-x.length]=u at hat hxz hsm hpos
     generalize hv:y[n-x.length]=v at hat2 hsm hpos
     have t1:=of_t _ u (Nat.le_refl _) (by omega)
     have hsm2:Nd.same u v=true:=same_symm hsm
     have t2:=nsame_t _ u v (Nat.le_refl _) (by omega)
     rw[hsm2] at t2
     have w3:IntKind.i64.wrap (IntKind.i64.wrap (v.pos+(a.length:Int))+1)=u.pos:=by
      have:=hpos2 v (by rw[<- hv]; exact List.getElem_mem hm)
      rw[hpos,IntKind.wrap_i64,IntKind.wrap_i64]; omega
     have c9:(u.pos=u.pos)=True:=eq_true rfl
     rw[Nd.p_eq] at t1
     rw[Nd.p_eq,Nd.p_eq] at t2
     simp only[Nd.cells] at t1 t2 hat hat2
     simp only[b_law5_ReadJoins_0,go_sem,byts_length,List.length_map,q1,q2,q3,w2,hat,hat2,t1,t2,w3,c9,ne_eq,wrapN (n:=n) (by omega)]
     exact hk' _ _ ⟨rfl,_,_,rfl⟩
   ·rintro fr st ⟨rfl,bs,bt,rfl⟩ k
    simp only[b_law5_ReadJoins_0,go_sem,List.length_map,Int.lt_irrefl]
    exact Good.done rfl
   ·exact⟨rfl,_,_,rfl⟩
end Go.Proofs.YtnlknpeelpnbaaaGreatDoorPe.Read
