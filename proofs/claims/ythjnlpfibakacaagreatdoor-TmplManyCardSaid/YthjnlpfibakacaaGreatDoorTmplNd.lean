/- A part of the proof of this folder's statement; it has no condition of its own. -/
import Derived.Test.YthjnlpfibakacaaGreatDoorTmplLexR
import Derived.Test.YthjnlpfibakacaaGreatDoorEcOut2
set_option linter.unusedVariables false
set_option linter.unusedSimpArgs false
set_option maxRecDepth 100000
namespace Go.Proofs.YthjnlpfibakacaaGreatDoorPe.Tmpl
open Go Go.Proofs Go.Proofs.YthjnlpfibakacaaGreatDoorPe Go.Proofs.YthjnlpfibakacaaGreatDoorPe.TmplCode
inductive Nd where
 |mk (k:Int) (pos:Int) (i:Int) (s:List UInt8) (kids:List Nd)
 deriving Inhabited
namespace Nd
def k:Nd->Int
 |.mk x _ _ _ _=>x
def pos:Nd->Int
 |.mk _ x _ _ _=>x
def i:Nd->Int
 |.mk _ _ x _ _=>x
def s:Nd->List UInt8
 |.mk _ _ _ x _=>x
def kids:Nd->List Nd
 |.mk _ _ _ _ x=>x
mutual
def p:Nd->PV
 |.mk k pos i s l=>.agg ([.int .i64 k,.int .i64 pos,.int .i64 i,.str s,.lst (ps l)])
def ps:List Nd->List PV
 |[]=>[]
 |x::l=>p x::ps l
end
theorem ps_eq : ∀ l:List Nd,ps l=l.map p
 |[]=>by simp[ps]
 |x::l=>by simp[ps,ps_eq l]
def cells (x:Nd):List PV:=[.int .i64 x.k,.int .i64 x.pos,.int .i64 x.i,.str x.s,.lst (x.kids.map Nd.p)]
theorem p_cells (x:Nd):x.p.cells=x.cells:=by
 cases x with
 |mk k pos i s l=>simp only[p,ps_eq]; rfl
theorem p_eq (x:Nd):x.p = .agg x.cells:=by
 cases x with
 |mk k pos i s l=>simp only[p,ps_eq]; rfl
mutual
def sz:Nd->Nat
 |.mk _ _ _ _ l=>szs l+1
def szs:List Nd->Nat
 |[]=>0
 |x::l=>sz x+szs l
end
theorem sz_eq (x:Nd):x.sz=szs x.kids+1:=by cases x; simp only[sz,kids]
theorem len_sz : ∀ l:List Nd,l.length<=szs l
 |[]=>Nat.le_refl _
 |y::l=>by
  rw[szs,List.length_cons]
  have:=len_sz l
  have:1<=y.sz:=by rw[sz_eq]; omega
  omega
theorem szs_append : ∀ l m:List Nd,szs (l++m)=szs l+szs m
 |[],m=>by simp[szs]
 |x::l,m=>by rw[List.cons_append,szs,szs,szs_append l m]; omega
mutual
def same:Nd->Nd->Bool
 |.mk k pos i s l,.mk k' pos' i' s' l'=>decide (k=k')&&decide (i=i')&&decide (s=s')&&sames l l'
def sames:List Nd->List Nd->Bool
 |[],[]=>true
 |x::l,y::m=>same x y&&sames l m
 |_,_=>false
end
mutual
theorem same_self : ∀ x:Nd,same x x=true
 |.mk k pos i s l=>by simp[same,sames_self l]
theorem sames_self : ∀ l:List Nd,sames l l=true
 |[]=>by simp[sames]
 |x::l=>by simp[sames,same_self x,sames_self l]
end
end Nd
def sChar:List UInt8:=[99,104,97,114]
def wrongV (pos e:Int):PV:=.agg [.lst [.agg [.str sChar,.int .i64 pos]],.int .i64 e]
def headM (n:Nd):List UInt8:=if n.k=0 then (match n.kids with
 |x::_=>if x.k=2 then x.s else []
 |[]=>[]) else []
def valM (n:Nd):Option Vl:=if n.k=1\/n.k=2\/n.k=3 then some ⟨n.k,n.i,n.s⟩ else none
def valV:Option Vl->PV
 |some v=>.tuple [v.p,.bool true]
 |none=>.tuple [Vl.p ⟨0,0,[]⟩,.bool false]
theorem at_t {p e:Int}:tupV (callE efns given) (.call 0 f_ref5_At) [.str sChar,.int .i64 p,.int .i64 e]=some (wrongV p e):=by
 refine call_good (f:=f_ref5_At) rfl ?_
 rw[callE_fn efns given (c:=e_ref5_At) rfl rfl]
 simp only[e_ref5_At,go_sem,V_bs1]
 exact Good.done rfl
theorem Nd.at_ {l:List Nd} {n:Nat} (h:n<l.length):evIdx 5 (l.map Nd.p) (n:Int)=some (.ref l[n].cells):=by
 rw[<- Nd.p_cells]
 exact idx_of (map_at h) (by rw[Nd.p_cells]; rfl)
theorem Nd.at0 {x:Nd} {l:List Nd}:evIdx 5 (x.p::l.map Nd.p) 0=some (.ref x.cells):=Nd.at_ (l:=x::l) (n:=0) (Nat.succ_pos _)
end Go.Proofs.YthjnlpfibakacaaGreatDoorPe.Tmpl
set_option linter.unusedVariables false
set_option linter.unusedSimpArgs false
set_option maxRecDepth 100000
namespace Go.Proofs.YthjnlpfibakacaaGreatDoorPe.Tmpl
open Go Go.Proofs Go.Proofs.YthjnlpfibakacaaGreatDoorPe Go.Proofs.YthjnlpfibakacaaGreatDoorPe.TmplCode
abbrev Er (α : Type):=Except (Int × Int) α
mutual
def nodeM:Nat->Nat->List Tok->Nat->Er (Nd × List Tok × Nat)
 |0,_,_,_=>.error (0,3)
 |f+1,deep,l,n=>match l with
  |[]=>.error (0,3)
  |t::ts=>if t.k=5 then .error (t.pos,2) else if n+1>4096 then .error (t.pos,4)
   else if t.k=8 then (match ts with
    |[]=>.error (t.pos,3)
    |u::_=>if u.k=4\/u.k=5\/u.k=8 then .error (t.pos,2) else match nodeM f deep ts (n+1) with
     |.error e=>.error e
     |.ok q=>.ok (.mk 8 t.pos t.i t.s [q.1],q.2.1,q.2.2))
   else if t.k=4 then (if deep>=32 then .error (t.pos,4) else kidsM f deep t.pos t.i t.s ts (n+1) [])
   else .ok (.mk t.k t.pos t.i t.s [],ts,n+1)
def kidsM:Nat->Nat->Nat->Int->List UInt8->List Tok->Nat->List Nd->Er (Nd × List Tok × Nat)
 |0,_,_,_,_,_,_,_=>.error (0,3)
 |f+1,deep,pos,i,s,l,n,acc=>match l with
  |[]=>.error (pos,3)
  |u::us=>if u.k=5 then .ok (.mk 0 pos i s acc,us,n) else match nodeM f (deep+1) (u::us) n with
   |.error e=>.error e
   |.ok q=>kidsM f deep pos i s q.2.1 q.2.2 (acc++[q.1])
end
def readT:Nat->List Tok->Nat->List Nd->Er (List Nd)
 |0,_,_,_=>.error (0,3)
 |f+1,l,n,acc=>match l with
  |[]=>.ok acc
  |t::ts=>match nodeM (2*(t::ts).length) 0 (t::ts) n with
   |.error e=>.error e
   |.ok q=>readT f q.2.1 q.2.2 (acc++[q.1])
theorem node_left : ∀ (f:Nat),(∀ (deep:Nat) (l:List Tok) (n:Nat) (q:Nd × List Tok × Nat),nodeM f deep l n = .ok q->(∃ d,0<d/\d<=l.length/\q.2.1=l.drop d)/\n+q.1.sz<=q.2.2/\(n<=4096->q.2.2<=4096)) /\
  ∀ (deep pos:Nat) (i:Int) (s:List UInt8) (l:List Tok) (n:Nat) (acc:List Nd) (q:Nd × List Tok × Nat),kidsM f deep pos i s l n acc = .ok q->(∃ d,0<d/\d<=l.length/\q.2.1=l.drop d)/\n+q.1.sz<=q.2.2+Nd.szs acc+1/\(n<=4096->q.2.2<=4096)
 |0=>⟨fun deep l n q h=>(by unfold nodeM at h; cases h),fun deep pos i s l n acc q h=>(by unfold kidsM at h; cases h)⟩
 |f+1=>by
  obtain⟨ih1,ih2⟩:=node_left f
  constructor
  ·intro deep l n q h
   unfold nodeM at h
   split at h
   ·cases h
   ·rename_i t ts
    split at h
    ·cases h
    ·split at h
     ·cases h
     ·rename_i hn
      split at h
      ·split at h
       ·cases h
       ·split at h
        ·cases h
        ·split at h
         ·cases h
         ·rename_i q' hq'
          cases h
          obtain⟨⟨d,h1,h2,h3⟩,h4,h5⟩:=ih1 _ _ _ _ hq'
          refine⟨⟨d+1,by omega,by simp only[List.length_cons] at h2 ⊢; omega,?_⟩,?_,fun _=>h5 (by omega)⟩
          ·show q'.2.1=_
           rw[h3,List.drop_succ_cons]
          ·show n+(Nd.mk 8 t.pos t.i t.s [q'.1]).sz<=q'.2.2
           simp only[Nd.sz,Nd.szs]
           omega
      ·split at h
       ·split at h
        ·cases h
        ·obtain⟨⟨d,h1,h2,h3⟩,h4,h5⟩:=ih2 _ _ _ _ _ _ _ _ h
         refine⟨⟨d+1,by omega,by simp only[List.length_cons]; omega,by rw[h3,List.drop_succ_cons]⟩,?_,fun _=>h5 (by omega)⟩
         simp only[Nd.szs] at h4
         omega
       ·cases h
        refine⟨⟨1,by omega,by simp,rfl⟩,?_,fun _=>by show n+1<=4096; omega⟩
        simp[Nd.sz,Nd.szs]
  ·intro deep pos i s l n acc q h
   unfold kidsM at h
   split at h
   ·cases h
   ·rename_i u us
    split at h
    ·cases h
     refine⟨⟨1,by omega,by simp,rfl⟩,?_,fun h=>h⟩
     simp only[Nd.sz]
     omega
    ·split at h
     ·cases h
     ·rename_i q' hq'
      obtain⟨⟨d,h1,h2,h3⟩,h4,h5⟩:=ih1 _ _ _ _ hq'
      obtain⟨⟨d',h1',h2',h3'⟩,h4',h5'⟩:=ih2 _ _ _ _ _ _ _ _ h
      rw[h3] at h2' h3'
      rw[List.length_drop] at h2'
      refine⟨⟨d+d',by omega,by omega,by rw[h3',List.drop_drop]⟩,?_,fun hn=>h5' (h5 hn)⟩
      rw[Nd.szs_append] at h4'
      simp only[Nd.szs] at h4'
      omega
def NdQ (n:Nd) (v:PV):Prop := ∃ kv,v = .agg [.int .i64 n.k,.int .i64 n.pos,.int .i64 n.i,.str n.s,kv]/\SlV (n.kids.map Nd.p) kv
theorem tok_at' {l:List Tok} {n:Nat} (h:n<l.length):evIdx 4 (l.map Tok.p) (n:Int)=some (.ref l[n].cells'):=idx_of (e:=l[n].p) (map_at h) rfl
theorem NdQ.zero:NdQ (.mk 0 0 0 [] []) (.agg [.int .i64 0,.int .i64 0,.int .i64 0,.str [],.nils]):=⟨.nils,rfl,rfl⟩
theorem NdQ.shut {n:Nd} {v:PV} (h:NdQ n v):shutA shutN v=some n.p:=by
 obtain⟨kv,rfl,hk⟩:=h
 rw[Nd.p_eq]
 exact shutA_agg (mS rfl (mS rfl (mS rfl (mS rfl (mS (hk.shutA _) mN)))))
end Go.Proofs.YthjnlpfibakacaaGreatDoorPe.Tmpl
set_option linter.unusedVariables false
set_option linter.unusedSimpArgs false
set_option maxRecDepth 100000
namespace Go.Proofs.YthjnlpfibakacaaGreatDoorPe.Tmpl
open Go Go.Proofs Go.Proofs.YthjnlpfibakacaaGreatDoorPe Go.Proofs.YthjnlpfibakacaaGreatDoorPe.TmplCode
def readL (l:List Tok):Er (List Nd):=readT (l.length+1) l 0 []
def readM (b:List UInt8):Er (List Nd):=match scanL b with
 |.error q=>.error (q.1,q.2)
 |.ok l=>readL l
theorem readT_ok : ∀ (f:Nat) (l:List Tok) (n:Nat) (acc r:List Nd),readT f l n acc = .ok r->n+Nd.szs r<=4096+Nd.szs acc+n/\(n<=4096->n+Nd.szs r<=4096+Nd.szs acc)
 |0,_,_,_,_,h=>by unfold readT at h; cases h
 |f+1,l,n,acc,r,h=>by
  unfold readT at h
  split at h
  ·cases h; constructor <;> omega
  ·rename_i t ts
   split at h
   ·cases h
   ·rename_i q hq
    obtain⟨_,h2,h3⟩:=(node_left _).1 _ _ _ _ hq
    obtain⟨h4,h5⟩:=readT_ok f _ _ _ _ h
    rw[Nd.szs_append] at h4 h5
    simp only[Nd.szs] at h4 h5
    constructor
    ·by_cases hn:n<=4096
     ·have:=h5 (h3 hn); omega
     ·exfalso
      have:nodeM (2*(t::ts).length) 0 (t::ts) n = .ok q:=hq
      rw[show 2*(t::ts).length=(2*ts.length+1)+1 by simp; omega] at this
      unfold nodeM at this
      simp only at this
      split at this
      ·cases this
      ·rw[if_pos (by omega)] at this
       cases this
    ·intro hn
     have:=h5 (h3 hn)
     omega
theorem readL_sz {l:List Tok} {r:List Nd} (h:readL l = .ok r):Nd.szs r<=4096:=by
 have:=(readT_ok _ _ _ _ _ h).2 (Nat.zero_le _)
 simp only[Nd.szs] at this
 omega
end Go.Proofs.YthjnlpfibakacaaGreatDoorPe.Tmpl
