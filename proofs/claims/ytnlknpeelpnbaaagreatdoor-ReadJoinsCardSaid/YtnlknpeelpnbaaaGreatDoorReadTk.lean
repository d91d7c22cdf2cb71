/- A part of the proof of this folder's statement; it has no condition of its own. -/
import Derived.Test.YtnlknpeelpnbaaaGreatDoorReadBy
set_option linter.unusedVariables false
set_option linter.unusedSimpArgs false
set_option maxRecDepth 100000
namespace Go.Proofs.YtnlknpeelpnbaaaGreatDoorPe.Read
open Go Go.Proofs Go.Proofs.YtnlknpeelpnbaaaGreatDoorPe Go.Proofs.YtnlknpeelpnbaaaGreatDoorPe.ReadCode
inductive RelL (P:Int->Int->Prop):List Nd->List Nd->Prop where
 |nil:RelL P [] []
 |cons {x y:Nd} {l m:List Nd} (h:Nd.same x y=true) (hp:P x.pos y.pos) (t:RelL P l m):RelL P (x::l) (y::m)
theorem RelL.snoc {P:Int->Int->Prop} {l m:List Nd} (h:RelL P l m) {x y:Nd} (hx:Nd.same x y=true) (hp:P x.pos y.pos):RelL P (l++[x]) (m++[y]):=by
 induction h with
 |nil=>exact .cons hx hp .nil
 |cons h p _ ih=>exact .cons h p ih
theorem RelL.len {P:Int->Int->Prop} {l m:List Nd} (h:RelL P l m):l.length=m.length:=by
 induction h with
 |nil=>rfl
 |cons _ _ _ ih=>simp[ih]
theorem RelL.at {P:Int->Int->Prop} {l m:List Nd} (h:RelL P l m) : ∀ {n:Nat} (h1:n<l.length) (h2:n<m.length),Nd.same l[n] m[n]=true/\P l[n].pos m[n].pos:=by
 induction h with
 |nil=>intro n h1; cases h1
 |cons hs hp _ ih =>
  intro n h1 h2
  cases n with
  |zero=>exact⟨hs,hp⟩
  |succ n=>exact ih (Nat.lt_of_succ_lt_succ h1) (Nat.lt_of_succ_lt_succ h2)
inductive RelS (P:Int->Int->Prop):Stk->Stk->Prop where
 |nil:RelS P [] []
 |cons {a b:Nat} {ks ms:List Nd} {r s:Stk} (hp:P (a:Int) (b:Int)) (h:Nd.sames ks ms=true) (t:RelS P r s):RelS P ((a,ks)::r) ((b,ms)::s)
inductive RelT (P:Int->Int->Prop):List Tok->List Tok->Prop where
 |nil:RelT P [] []
 |cons {t u:Tok} {l m:List Tok} (h:u.tk=t.tk) (hp:P (t.pos:Int) (u.pos:Int)) (r:RelT P l m):RelT P (t::l) (u::m)
theorem RelS.len {P:Int->Int->Prop} {l m:Stk} (h:RelS P l m):l.length=m.length:=by
 induction h with
 |nil=>rfl
 |cons _ _ _ ih=>simp[ih]
theorem RelT.drop {P:Int->Int->Prop} {l m:List Tok} (h:RelT P l m) : ∀ d,RelT P (l.drop d) (m.drop d):=by
 induction h with
 |nil=>intro d; simp; exact .nil
 |cons h p r ih =>
  intro d
  cases d with
  |zero=>exact .cons h p r
  |succ d=>exact ih d
theorem sames_snoc : ∀ {l m:List Nd} {x y:Nd},Nd.sames l m=true->Nd.same x y=true->Nd.sames (l++[x]) (m++[y])=true
 |[],[],x,y,_,h=>by simp[Nd.sames,h]
 |a::l,b::m,x,y,h,h2=>by
  simp only[Nd.sames,Bool.and_eq_true] at h
  simp only[List.cons_append,Nd.sames,Bool.and_eq_true]
  exact⟨h.1,sames_snoc h.2 h2⟩
 |[],b::m,_,_,h,_=>by simp[Nd.sames] at h
 |a::l,[],_,_,h,_=>by simp[Nd.sames] at h
def RelR (P:Int->Int->Prop) (o:List Nd) (d:Nat) (r s:Rd):Prop:=s.n=r.n+d/\RelS P r.stk s.stk /\ ∃ m,s.out=o++m/\RelL P r.out m
theorem put_rel {P:Int->Int->Prop} {o:List Nd} {d n n2:Nat} {a b:Stk} {u v:List Nd} {x y:Nd} (hx:Nd.same x y=true) (hp:P x.pos y.pos) (h:RelS P a b) (hm : ∃ m,v=o++m/\RelL P u m) (hn:n2=n+d) :
  RelR P o d ⟨n,(putM x a u).1,(putM x a u).2⟩ ⟨n2,(putM y b v).1,(putM y b v).2⟩:=by
 obtain⟨m,rfl,hm⟩:=hm
 cases h with
 |nil=>exact⟨hn,.nil,m++[y],by simp[putM],hm.snoc hx hp⟩
 |cons hp' h t=>exact⟨hn,.cons hp' (sames_snoc h hx) t,m,rfl,hm⟩
theorem leaf_same {t u:Tok} (h:u.tk=t.tk):Nd.same (leafN t) (leafN u)=true:=by
 unfold Tok.tk at h
 simp only[Tk.mk.injEq] at h
 obtain⟨h1,h2,h3⟩:=h
 simp[leafN,Nd.same,Nd.sames,h1,h2,h3]
theorem step_rel {P:Int->Int->Prop} {o:List Nd} {d:Nat} {t u:Tok} {ts us:List Tok} {r s:Rd} {q:Nat × Rd} (hr:RelR P o d r s) (ht:RelT P (t::ts) (u::us)) (hd:d=0\/s.n+(ts.length+1)<=4096) (hq:stepM t ts r = .ok q) :
  ∃ q',stepM u us s = .ok (q.1,q')/\RelR P o d q.2 q'/\q.2.n<=r.n+q.1:=by
 obtain⟨n,stk,out⟩:=r
 obtain⟨n2,stk2,out2⟩:=s
 obtain⟨hn,hS,hm⟩:=hr
 simp only at hn hS hm hd
 cases ht with
 |cons h hp hrest =>
 have hk:u.k=t.k:=congrArg Tk.k h
 unfold stepM at hq ⊢
 simp only at hq ⊢
 rw[hk]
 split at hq
 ·rename_i h8
  rw[if_pos h8]
  split at hq
  ·cases hq
  ·rename_i hc
   rw[if_neg (by omega)]
   cases hrest with
   |nil=>cases hq
   |@cons t2 u2 l2 m2 h2 hp2 hr2 =>
    have hk2:u2.k=t2.k:=congrArg Tk.k h2
    simp only at hq ⊢
    rw[hk2]
    split at hq
    ·cases hq
    ·rename_i hk3
     rw[if_neg hk3]
     split at hq
     ·cases hq
     ·rename_i hc2
      rw[if_neg (by simp only[List.length_cons] at hd; omega)]
      cases hq
      refine⟨_,rfl,put_rel (by simp[Nd.same,Nd.sames,leaf_same h2]) hp hS hm (by omega),by simp⟩
 ·rename_i h8
  rw[if_neg h8]
  split at hq
  ·rename_i h4
   rw[if_pos h4,<- hS.len]
   split at hq
   ·cases hq
   ·rename_i hl
    rw[if_neg hl]
    split at hq
    ·cases hq
    ·rw[if_neg (by omega)]
     cases hq
     exact⟨_,rfl,⟨by simp only; omega,.cons hp (by simp[Nd.sames]) hS,hm⟩,by simp⟩
  ·rename_i h4
   rw[if_neg h4]
   split at hq
   ·rename_i h5
    rw[if_pos h5]
    cases hS with
    |nil=>cases hq
    |cons hp' h' t' =>
     cases hq
     exact⟨_,rfl,put_rel (by simp[Nd.same,h']) hp' t' hm hn,by simp⟩
   ·rename_i h5
    rw[if_neg h5]
    split at hq
    ·cases hq
    ·rw[if_neg (by omega)]
     cases hq
     exact⟨_,rfl,put_rel (leaf_same h) hp hS hm (by omega),by simp⟩
theorem run_rel {P:Int->Int->Prop} {o:List Nd} {d:Nat} : ∀ (f:Nat) (l m:List Tok) (r s:Rd) (res:List Nd),RelR P o d r s->RelT P l m->(d=0\/s.n+l.length<=4096)->runM f l r = .ok res -> ∃ res',runM f m s = .ok (o++res')/\RelL P res res'
 |0,_,_,_,_,_,_,_,_,h=>by unfold runM at h; cases h
 |f+1,l,m,r,s,res,hr,ht,hd,h=>by
  unfold runM at h ⊢
  cases ht with
  |nil =>
   obtain⟨n,stk,out⟩:=r
   obtain⟨n2,stk2,out2⟩:=s
   obtain⟨hn,hS,m,hm,hL⟩:=hr
   simp only at h hS hm hL ⊢
   unfold endM at h ⊢
   cases hS with
   |nil =>
    cases h
    exact⟨m,by simp only; rw[hm],hL⟩
   |cons=>cases h
  |@cons t u ts us h1 hp hrest =>
   simp only at h ⊢
   split at h
   ·cases h
   ·rename_i q hq
    obtain⟨q',e1,e2,e3⟩:=step_rel hr (.cons h1 hp hrest) (by simpa using hd) hq
    rw[e1]
    simp only
    have hq1:=step_one hq
    refine run_rel f _ _ q.2 q' res e2 (RelT.drop (.cons h1 hp hrest) q.1) ?_ h
    rcases hd with hd|hd
    ·exact .inl hd
    ·have hn:=hr.1
     have hn2:=e2.1
     have hl:q.1<=ts.length+1:=by
      rcases hq1 with e|e
      ·omega
      ·have:ts≠[]:=by
        rintro rfl
        unfold stepM at hq
        split at hq
        ·split at hq
         ·cases hq
         ·cases hq
        ·split at hq
         ·split at hq
          ·cases hq
          ·split at hq
           ·cases hq
           ·cases hq; cases e
         ·split at hq
          ·split at hq
           ·cases hq
           ·cases hq; cases e
          ·split at hq
           ·cases hq
           ·cases hq; cases e
       have:=List.length_pos_iff.2 this
       omega
     simp only[List.length_cons] at hd
     refine .inr ?_
     rw[List.length_drop,List.length_cons]
     omega
end Go.Proofs.YtnlknpeelpnbaaaGreatDoorPe.Read
