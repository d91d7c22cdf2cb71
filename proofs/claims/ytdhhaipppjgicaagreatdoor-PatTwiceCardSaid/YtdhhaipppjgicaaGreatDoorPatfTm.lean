/- A part of the proof of this folder's statement; it has no condition of its own. -/
import Derived.Test.YtdhhaipppjgicaaGreatDoorPatfNd
import Derived.Test.YtdhhaipppjgicaaGreatDoorPatfNt
import Derived.Test.YtdhhaipppjgicaaGreatDoorPatfVal
import Derived.Test.YtdhhaipppjgicaaGreatDoorEcGen
import Derived.Test.YtdhhaipppjgicaaGreatDoorPatfLexR
import Derived.Test.YtdhhaipppjgicaaGreatDoorPatfBy
set_option linter.unusedVariables false
set_option linter.unusedSimpArgs false
set_option maxRecDepth 100000
namespace Go.Proofs.YtdhhaipppjgicaaGreatDoorPe.Patf
open Go Go.Proofs Go.Proofs.YtdhhaipppjgicaaGreatDoorPe Go.Proofs.YtdhhaipppjgicaaGreatDoorPe.PatfCode
structure Sl where
 name:List UInt8
 d:Vl
 deriving DecidableEq
structure Tm where
 name:List UInt8
 slots:List Sl
 deriving DecidableEq
def Sl.cells (s:Sl):List PV:=[.str s.name,.int .i64 s.d.k,.int .i64 s.d.i,.str s.d.s]
def Sl.p (s:Sl):PV:=.agg [.str s.name,.int .i64 s.d.k,.int .i64 s.d.i,.str s.d.s]
def Tm.cells (t:Tm):List PV:=[.str t.name,.lst (t.slots.map Sl.p)]
def Tm.p (t:Tm):PV:=.agg [.str t.name,.lst (t.slots.map Sl.p)]
end Go.Proofs.YtdhhaipppjgicaaGreatDoorPe.Patf
set_option linter.unusedVariables false
set_option linter.unusedSimpArgs false
set_option maxRecDepth 100000
namespace Go.Proofs.YtdhhaipppjgicaaGreatDoorPe.Patf
open Go Go.Proofs Go.Proofs.YtdhhaipppjgicaaGreatDoorPe Go.Proofs.YtdhhaipppjgicaaGreatDoorPe.PatfCode
theorem cmpS_zero {a b:List UInt8}:(cmpS a b=0)=(a=b):=by
 rw[cmpS_eq]
 have key : ∀ a b:List UInt8,c3 a b=0 ↔ a=b:=by
  intro a
  induction a with
  |nil=>intro b; cases b <;> simp[c3]
  |cons x a ih =>
   intro b
   cases b with
   |nil=>simp[c3]
   |cons y b =>
    unfold c3 lex
    rcases cmpI_spec x.toNat y.toNat with ⟨q,h⟩|⟨q,h⟩|⟨q,h⟩
    ·rw[h]; simp; intro e; subst e; omega
    ·have:=u8_eq q
     subst this
     rw[h]; simp[ih]
    ·rw[h]; simp; intro e; subst e; omega
 exact propext (key a b)
theorem cmpI_zero {a b:Int}:(cmpI a b=0)=(a=b):=by
 rcases cmpI_spec a b with ⟨q,h⟩|⟨q,h⟩|⟨q,h⟩
 ·rw[h]; simp; omega
 ·rw[h]; simp[q]
 ·rw[h]; simp; omega
theorem cmpV_zero {v w:Vl}:(cmpV v w=0)=(v=w):=by
 have e:(v=w)=(v.k=w.k/\v.i=w.i/\v.s=w.s):=by
  cases v; cases w; simp
 rw[e,<- cmpI_zero (a:=v.k),<- cmpI_zero (a:=v.i),<- cmpS_zero (a:=v.s)]
 unfold cmpV
 simp only[orM]
 by_cases h1:cmpI v.k w.k=0
 ·by_cases h2:cmpI v.i w.i=0
  ·by_cases h3:cmpS v.s w.s=0
   ·simp[h1,h2,h3]
   ·simp[h1,h2,h3]
  ·simp[h1,h2]
 ·simp[h1]
theorem vsame_t (v w:Vl):tupV (callE efns given) (.call 0 f_val_Same) [v.p,w.p]=some (.bool (decide (v=w))):=by
 rw[show decide (v=w)=decide (cmpV v w=0) from by simp only[cmpV_zero]]
 exact same_t given v w
end Go.Proofs.YtdhhaipppjgicaaGreatDoorPe.Patf
set_option linter.unusedVariables false
set_option linter.unusedSimpArgs false
set_option maxRecDepth 100000
namespace Go.Proofs.YtdhhaipppjgicaaGreatDoorPe.Patf
open Go Go.Proofs Go.Proofs.YtdhhaipppjgicaaGreatDoorPe Go.Proofs.YtdhhaipppjgicaaGreatDoorPe.PatfCode
end Go.Proofs.YtdhhaipppjgicaaGreatDoorPe.Patf
set_option linter.unusedVariables false
set_option linter.unusedSimpArgs false
set_option maxRecDepth 100000
namespace Go.Proofs.YtdhhaipppjgicaaGreatDoorPe.Patf
open Go Go.Proofs Go.Proofs.YtdhhaipppjgicaaGreatDoorPe Go.Proofs.YtdhhaipppjgicaaGreatDoorPe.PatfCode
theorem Nd.pl (l:List Nd):l.map (fun x=>PV.agg x.cells)=l.map Nd.p:=List.map_congr_left fun x _=>(Nd.p_eq x).symm
end Go.Proofs.YtdhhaipppjgicaaGreatDoorPe.Patf
set_option linter.unusedVariables false
set_option linter.unusedSimpArgs false
set_option maxRecDepth 100000
namespace Go.Proofs.YtdhhaipppjgicaaGreatDoorPe.Patf
open Go Go.Proofs Go.Proofs.YtdhhaipppjgicaaGreatDoorPe Go.Proofs.YtdhhaipppjgicaaGreatDoorPe.PatfCode
end Go.Proofs.YtdhhaipppjgicaaGreatDoorPe.Patf
set_option linter.unusedVariables false
set_option linter.unusedSimpArgs false
set_option maxRecDepth 100000
namespace Go.Proofs.YtdhhaipppjgicaaGreatDoorPe.Patf
open Go Go.Proofs Go.Proofs.YtdhhaipppjgicaaGreatDoorPe Go.Proofs.YtdhhaipppjgicaaGreatDoorPe.PatfCode
end Go.Proofs.YtdhhaipppjgicaaGreatDoorPe.Patf
set_option linter.unusedVariables false
set_option linter.unusedSimpArgs false
set_option maxRecDepth 100000
namespace Go.Proofs.YtdhhaipppjgicaaGreatDoorPe.Patf
open Go Go.Proofs Go.Proofs.YtdhhaipppjgicaaGreatDoorPe Go.Proofs.YtdhhaipppjgicaaGreatDoorPe.PatfCode
end Go.Proofs.YtdhhaipppjgicaaGreatDoorPe.Patf
set_option linter.unusedVariables false
set_option linter.unusedSimpArgs false
set_option maxRecDepth 100000
namespace Go.Proofs.YtdhhaipppjgicaaGreatDoorPe.Patf
open Go Go.Proofs Go.Proofs.YtdhhaipppjgicaaGreatDoorPe Go.Proofs.YtdhhaipppjgicaaGreatDoorPe.PatfCode
structure Ts where
 slot:Nat
 no:Bool
 var:List UInt8
 v:Vl
 deriving DecidableEq
structure Pt where
 t:List UInt8
 tests:List Ts
 deriving DecidableEq
def zV:Vl:=⟨0,0,[]⟩
def Ts.cells (x:Ts):List PV:=[.int .i64 (x.slot:Int),.bool x.no,.str x.var,.int .i64 x.v.k,.int .i64 x.v.i,.str x.v.s]
def Ts.p (x:Ts):PV:=.agg [.int .i64 (x.slot:Int),.bool x.no,.str x.var,.int .i64 x.v.k,.int .i64 x.v.i,.str x.v.s]
def Pt.p (p:Pt):PV:=.agg [.str p.t,.lst (p.tests.map Ts.p)]
structure Bi where
 n:List UInt8
 v:Vl
 deriving DecidableEq
def Bi.p (b:Bi):PV:=.agg [.str b.n,.int .i64 b.v.k,.int .i64 b.v.i,.str b.v.s]
def Bi.cells (b:Bi):List PV:=[.str b.n,.int .i64 b.v.k,.int .i64 b.v.i,.str b.v.s]
def lastB (s:List UInt8):List Bi->Option Vl
 |[]=>none
 |b::l=>match lastB s l with
  |some v=>some v
  |none=>if b.n=s then some b.v else none
def stepB (vals:List Vl) (out:List Bi) (x:Ts):Option (List Bi) :=
 match vals[x.slot]? with
 |none=>none
 |some v=>if x.var=[] then (if decide (v=x.v)=x.no then none else some out) else
  match lastB x.var out with
  |some w=>if decide (v=w)=x.no then none else some out
  |none=>if x.no=true then none else some (out++[⟨x.var,v⟩])
def stepsB (vals:List Vl):List Ts->List Bi->Option (List Bi)
 |[],out=>some out
 |x::l,out=>match stepB vals out x with
  |none=>none
  |some out'=>stepsB vals l out'
def matchM (p:Pt) (t:List UInt8) (vals:List Vl) (env:List Bi):Option (List Bi):=if t=p.t then stepsB vals p.tests env else none
end Go.Proofs.YtdhhaipppjgicaaGreatDoorPe.Patf
set_option linter.unusedVariables false
set_option linter.unusedSimpArgs false
set_option maxRecDepth 100000
namespace Go.Proofs.YtdhhaipppjgicaaGreatDoorPe.Patf
open Go Go.Proofs Go.Proofs.YtdhhaipppjgicaaGreatDoorPe Go.Proofs.YtdhhaipppjgicaaGreatDoorPe.PatfCode
@[go_sem] theorem bx_cons {α : Type} {x : α} {l : List α} {n k : Nat} : (x :: l)[n + (k + 1)]? = l[n + k]? := by rw [<- Nat.add_assoc, List.getElem?_cons_succ]
@[go_sem] theorem bx_cset {α : Type} {x y : α} {l : List α} {n k : Nat} : (x :: l).set (n + (k + 1)) y = x :: l.set (n + k) y := by rw [<- Nat.add_assoc, List.set_cons_succ]
end Go.Proofs.YtdhhaipppjgicaaGreatDoorPe.Patf
set_option linter.unusedVariables false
set_option linter.unusedSimpArgs false
set_option maxRecDepth 100000
namespace Go.Proofs.YtdhhaipppjgicaaGreatDoorPe.Patf
open Go Go.Proofs Go.Proofs.YtdhhaipppjgicaaGreatDoorPe Go.Proofs.YtdhhaipppjgicaaGreatDoorPe.PatfCode
end Go.Proofs.YtdhhaipppjgicaaGreatDoorPe.Patf
set_option linter.unusedVariables false
set_option linter.unusedSimpArgs false
set_option maxRecDepth 100000
namespace Go.Proofs.YtdhhaipppjgicaaGreatDoorPe.Patf
open Go Go.Proofs Go.Proofs.YtdhhaipppjgicaaGreatDoorPe Go.Proofs.YtdhhaipppjgicaaGreatDoorPe.PatfCode
end Go.Proofs.YtdhhaipppjgicaaGreatDoorPe.Patf
set_option linter.unusedVariables false
set_option linter.unusedSimpArgs false
set_option maxRecDepth 100000
namespace Go.Proofs.YtdhhaipppjgicaaGreatDoorPe.Patf
open Go Go.Proofs Go.Proofs.YtdhhaipppjgicaaGreatDoorPe Go.Proofs.YtdhhaipppjgicaaGreatDoorPe.PatfCode
structure Fa where
 id:Int
 t:List UInt8
 vals:List Vl
def Fa.p (f:Fa):PV:=.agg [.int .i64 f.id,.str f.t,.lst (f.vals.map Vl.p)]
def atV:Option Vl->PV
 |some v=>.tuple [.agg [.int .i64 v.k,.int .i64 v.i,.str v.s],.bool true]
 |none=>.tuple [.agg [.int .i64 0,.int .i64 0,.str []],.bool false]
theorem vl_at {l:List Vl} {i:Nat} {v:Vl} (h:l[i]? = some v):evIdx 3 (l.map Vl.p) (i:Int)=some (.ref [.int .i64 v.k,.int .i64 v.i,.str v.s]):=idx_of (e:=v.p) (by simp[h]) rfl
theorem pat_t (f:Fa) (i:Nat):tupV (callE efns given) (.call 0 f_pat_at) [f.p,.int .i64 (i:Int)]=some (atV f.vals[i]?):=by
 refine call_good (f:=f_pat_at) rfl ?_
 rw[callE_fn efns given (c:=e_pat_at) rfl rfl]
 have c1:((i:Int)<0)=False:=eq_false (by omega)
 cases h:f.vals[i]? with
 |none =>
  have c2:((i:Int)>=(f.vals.length:Int))=True:=eq_true (by have:=List.getElem?_eq_none_iff.1 h; omega)
  simp only[e_pat_at,go_sem,Fa.p,c1,c2,List.length_map]
  exact Good.done rfl
 |some v =>
  have c2:((i:Int)>=(f.vals.length:Int))=False:=eq_false (by have:=(List.getElem?_eq_some_iff.1 h).1; omega)
  have hat:=vl_at h
  simp only[e_pat_at,go_sem,Fa.p,c1,c2,List.length_map,hat]
  exact Good.done rfl
def toBd (b:Bi):Get.Bd:=(b.n,b.v.k,b.v.i,b.v.s)
theorem toBd_p (l:List Bi):(l.map toBd).map Get.bdP=l.map Bi.p:=by rw[List.map_map]; rfl
theorem getM_last (s:List UInt8) : ∀ l:List Bi,Get.getR (Get.getM s (l.map toBd))=atV (lastB s l)/\(Get.getM s (l.map toBd)=none ↔ lastB s l=none)
 |[]=>⟨rfl,by simp[Get.getM,lastB]⟩
 |b::l=>by
  obtain⟨h1,h2⟩:=getM_last s l
  rw[List.map_cons,Get.getM,lastB]
  cases hm:Get.getM s (l.map toBd) with
  |some c =>
   cases hl:lastB s l with
   |none=>rw[hl,hm] at h2; exact absurd (h2.2 rfl) (by simp)
   |some v =>
    rw[hm,hl] at h1
    exact⟨h1,by simp⟩
  |none =>
   rw[h2.1 hm]
   simp only
   by_cases hn:b.n=s
   ·rw[if_pos (show (toBd b).1=s from hn),if_pos hn]
    exact⟨rfl,by simp⟩
   ·rw[if_neg (show ¬ (toBd b).1=s from hn),if_neg hn]
    exact⟨rfl,by simp⟩
theorem pget_t {n:Nat} {T:TypeId} {l:List Bi} {x:PV} {rows:List (Nat × Nat)} {rt:List TypeId} (s:List UInt8) (h:OutV n T (l.map Bi.p) x rows rt) (hl:l.length<=17592186043904) :
  tupV (callE efns given) (.call 0 f_eval_Get) [x,.str s]=some (atV (lastB s l)):=by
 rw[V_call,argF_0,mapO_two (show shutA shutN x=_ from h.shutA 5) (d:=.str s) rfl]
 show onS (callE efns given f_eval_Get [.lst (l.map Bi.p),.str s] ⟨[],[],[],[]⟩) _=_
 rw[callE_given efns given rfl]
 have e:givenV given f_eval_Get [.lst (l.map Bi.p),.str s] ⟨[],[],[],[]⟩=match given f_eval_Get [.lst (l.map Bi.p),.str s] with
   |some r=>givAns r ⟨[],[],[],[]⟩
   |none=>none:=rfl
 rw[e,given_get]
 have hj:Get.getG [.lst (l.map Bi.p),.str s]=some (atV (lastB s l)):=by
  unfold Get.getG
  simp only
  rw[<- toBd_p,Get.bindsOf_map]
  simp only[List.length_map]
  rw[if_pos hl,(getM_last s l).1]
 rw[hj]
 cases lastB s l <;> rfl
def EnvV (l:List Bi) (e:PV):Prop:=(e = .nils/\l=[])\/(e = .emp/\l=[])\/(e = .emc/\l=[])\/(e = .lst (l.map Bi.p)/\l≠[])
theorem EnvV.k {l:List Bi} {e:PV} (h:EnvV l e):shutK e=some e:=by
 rcases h with ⟨rfl,_⟩|⟨rfl,_⟩|⟨rfl,_⟩|⟨rfl,_⟩ <;> rfl
theorem EnvV.o {l:List Bi} {e:PV} (h:EnvV l e):shutO e=some e:=by
 rcases h with ⟨rfl,_⟩|⟨rfl,_⟩|⟨rfl,_⟩|⟨rfl,_⟩ <;> rfl
theorem bi_sz (l:List Bi):szAll 4 (l.map Bi.p)=true:=List.all_eq_true.2 fun e he=>by
 obtain⟨x,_,rfl⟩:=List.mem_map.1 he
 rfl
theorem pclone_t {l:List Bi} {e:PV} (h:EnvV l e) (hl:l.length<=100000) :
  ∃ r st0 out rows rt,callE efns given f_slices_Clone_eval_Bind_eval_Bind [e] ⟨[],[],[],[]⟩=some (r,st0)/\(∀ bs bt,takeO ⟨bs,[],bt,[]⟩ st0 r=some (out,⟨bs,rows,bt,rt⟩))/\OutV 4 T_pat_Pattern_Match_0 (l.map Bi.p) out rows rt/\rt.length=rows.length:=by
 have key : ∃ r st0,callE efns given f_slices_Clone_eval_Bind_eval_Bind [e] ⟨[],[],[],[]⟩=some (r,st0)/\((r = .nils/\l=[])\/(r = .emp/\l=[])\/(r = .own 0 (l.map Bi.p)/\st0=⟨[],[(l.length,4)],[],[T_pat_Pattern_Match_0]⟩)):=by
  rw[callE_fn efns given (c:=e_slices_Clone_eval_Bind_eval_Bind) rfl rfl]
  rcases h with ⟨rfl,h2⟩|⟨rfl,h2⟩|⟨rfl,h2⟩|⟨rfl,h2⟩
  ·simp only[e_slices_Clone_eval_Bind_eval_Bind,go_sem]
   exact⟨_,_,rfl,.inl ⟨rfl,h2⟩⟩
  ·simp only[e_slices_Clone_eval_Bind_eval_Bind,go_sem]
   exact⟨_,_,rfl,.inr (.inl ⟨rfl,h2⟩)⟩
  ·simp only[e_slices_Clone_eval_Bind_eval_Bind,go_sem]
   exact⟨_,_,rfl,.inr (.inl ⟨rfl,h2⟩)⟩
  ·cases l with
   |nil=>exact absurd rfl h2
   |cons b l =>
    have hz:=bi_sz (b::l)
    have c1:((0+(((l.map Bi.p).length)+1))*(48+1)<=70368744177664)=True:=eq_true (by simp at hl ⊢; omega)
    have q:biV (.eqs 3 false) (.lst (b.p::l.map Bi.p)) .nils=some (.bool false):=rfl
    simp only[List.map_cons] at hz ⊢
    have ap : ∀ bs rows bt rt,evAppend 4 48 T_slices_Clone_eval_Bind_eval_Bind_0 (.full []) (b.p::l.map Bi.p) ⟨bs,rows,bt,rt⟩=some (.own rows.length (b.p::l.map Bi.p),⟨bs,rows++[((b.p::l.map Bi.p).length,4)],bt,rt++[T_slices_Clone_eval_Bind_eval_Bind_0]⟩):=by
     intro bs rows bt rt
     rw[A_full,hz,if_pos rfl,if_pos ⟨by simp at hl ⊢; omega,rfl⟩]
     simp
    simp only[e_slices_Clone_eval_Bind_eval_Bind,go_sem,q,ap]
    exact⟨_,_,rfl,.inr (.inr ⟨rfl,by simp⟩)⟩
 obtain⟨r,st0,h1,h2⟩:=key
 rcases h2 with ⟨rfl,rfl⟩|⟨rfl,rfl⟩|⟨rfl,rfl⟩
 ·exact⟨_,_,.full [],[],[],h1,fun _ _=>rfl,.inl ⟨rfl,rfl⟩,rfl⟩
 ·exact⟨_,_,.full [],[],[],h1,fun _ _=>rfl,.inl ⟨rfl,rfl⟩,rfl⟩
 ·refine⟨_,_,.own 0 (l.map Bi.p),[(l.length,4)],[T_pat_Pattern_Match_0],h1,fun bs bt => ?_,.inr ⟨0,rfl,by simp,rfl⟩,rfl⟩
  show (if l.length=(l.map Bi.p).length then _ else none)=_
  rw[if_pos (by simp)]
  rfl
theorem pclip_t {l:List Bi} {x:PV} {n:Nat} {T:TypeId} {rows:List (Nat × Nat)} {rt:List TypeId} (h:OutV n T (l.map Bi.p) x rows rt) (hl:l.length<4611686018427387904):tupV (callE efns given) (.call 1 f_slices_Clip_eval_Bind_eval_Bind) [x]=some (.full (l.map Bi.p)):=by
 refine callV_of («as» := [.lst (l.map Bi.p)]) (r:=.full (l.map Bi.p)) (st:=⟨[],[],[],[]⟩) (mS (h.shutA 5) mN) ?_ rfl
 rw[callE_fn efns given (c:=e_slices_Clip_eval_Bind_eval_Bind) rfl rfl]
 have hs:lsubV 4 (.lst (l.map Bi.p)) none (some (.int .i64 (l.length:Int))) (some (.int .i64 (l.length:Int)))=some (.full (l.map Bi.p)):=by
  have e1:sizesOk 4 0 (l.map Bi.p)=true:=by unfold sizesOk; simp
  have b1:bnd (some (.int .i64 (l.length:Int))) l.length l.length=some l.length:=by simp[bnd]
  simp only[lsubV,hsOf,n_lst,slcOf,List.length_map,b1,show bnd none l.length 0=some 0 from rfl,e1,if_true,List.drop_zero]
  rw[show l.length=(l.map Bi.p).length from by simp,List.take_length]
 simp only[e_slices_Clip_eval_Bind_eval_Bind,go_sem,List.length_map,hs]
def Ret3 (r:PV):PV->St->Prop:=fun v st=>shutR true st shutN v=some r
theorem call_good3 {cl:CallF} {f:FuncId} {vs ws:List PV} {r:PV} (h1:mapO (argF 3) vs=some ws) (h2:Good (Ret3 r) (cl f ws ⟨[],[],[],[]⟩)):tupV cl (.call 3 f) vs=some r:=by
 obtain⟨v,st,h2,h3⟩:=h2
 exact callV_of h1 h2 h3
def matchV:Option (List Bi)->PV
 |some l=>.tuple [.full (l.map Bi.p),.bool true]
 |none=>.tuple [.full [],.bool false]
theorem pmatch_t (p:Pt) (f:Fa) {env:List Bi} {e:PV} (he:EnvV env e) (hl:env.length<=10000) (hp:p.tests.length<=10000) :
  tupV (callE efns given) (.call 3 f_pat_Pattern_Match) [p.p,f.p,e]=some (matchV (matchM p f.t f.vals env)):=by
 refine call_good3 (f:=f_pat_Pattern_Match) (ws:=[p.p,f.p,e]) (by rw[argF_3]; exact mS rfl (mS rfl (mS he.k mN))) ?_
 rw[callE_fn efns given (c:=e_pat_Pattern_Match) rfl rfl]
 unfold matchM
 by_cases ht:f.t=p.t
 ·rw[if_pos ht]
  obtain⟨r0,st0,out0,rows0,rt0,q1,q2,q3,q4⟩:=pclone_t he (by omega)
  simp only[e_pat_Pattern_Match,go_sem,Pt.p,Fa.p,eq_true ht,ne_eq,he.o,q1,q2,List.length_map]
  refine Good.for p.tests.length (fun i fr st => ∃ out rows rt rest bts o,fr=[.undef,.undef,.undef,.undef,.ptr 1 0,out]++List.replicate 7 .undef++[.lst (p.tests.map Ts.p),.int .i64 (p.tests.length:Int),.int .i64 (i:Int)]++List.replicate 14 .undef /\
   st=⟨[[.str p.t,.lst (p.tests.map Ts.p)],[.int .i64 f.id,.str f.t,.lst (f.vals.map Vl.p)]]++rest,rows,bts,rt⟩ /\
   OutV 4 T_pat_Pattern_Match_0 (o.map Bi.p) out rows rt/\rt.length=rows.length/\o.length<=10000+i/\stepsB f.vals p.tests env=stepsB f.vals (p.tests.drop i) o) ?_ ?_ ?_
  ·rintro i fr st hi ⟨out,rows,rt,rest,bts,o,rfl,rfl,hO,hr,hol,hh⟩ k hk
   have c1:((i:Int)<(p.tests.length:Int))=True:=eq_true (by omega)
   have hat:evIdx 6 (p.tests.map Ts.p) (i:Int)=some (.ref p.tests[i].cells):=idx_of (e:=p.tests[i].p) (map_at hi) rfl
   rw[List.drop_eq_getElem_cons hi,stepsB] at hh
   generalize p.tests[i]=x at hat hh
   have ha:=pat_t f x.slot
   have fin:stepsB f.vals p.tests env=none -> ∀ st,Good (Ret3 (matchV (stepsB f.vals p.tests env))) (some (.tuple [.nils,.bool false],st)):=fun h st=>by rw[h]; exact Good.done rfl
   have go:stepsB f.vals p.tests env=stepsB f.vals (p.tests.drop (i+1)) o -> ∀ rest' bts',Good (Ret3 (matchV (stepsB f.vals p.tests env))) (k ([.undef,.undef,.undef,.undef,.ptr 1 0,out]++List.replicate 7 .undef++[.lst (p.tests.map Ts.p),.int .i64 (p.tests.length:Int),.int .i64 ((i+1:Nat):Int)]++List.replicate 14 .undef)
     ⟨[[.str p.t,.lst (p.tests.map Ts.p)],[.int .i64 f.id,.str f.t,.lst (f.vals.map Vl.p)]]++rest',rows,bts',rt⟩):=fun h rest' bts'=>hk _ _ ⟨out,rows,rt,rest',bts',o,rfl,rfl,hO,hr,by omega,h⟩
   unfold stepB at hh
   cases hv:f.vals[x.slot]? with
   |none =>
    rw[hv] at ha hh
    simp only[Fa.p,atV] at ha
    simp only[b_pat_Pattern_Match_0,go_sem,c1,hat,Ts.cells,ha]
    exact fin hh _
   |some v =>
    rw[hv] at ha hh
    simp only[Fa.p,atV] at ha
    simp only at hh
    by_cases hx:x.var=[]
    ·rw[if_pos hx] at hh
     have hs:=vsame_t v x.v
     generalize hd:decide (v=x.v)=d at hs hh
     simp only[Vl.p] at hs
     by_cases hd2:d=x.no
     ·rw[if_pos hd2] at hh
      have hd3:(d==x.no)=true:=by simp[hd2]
      simp only[b_pat_Pattern_Match_0,go_sem,c1,hat,Ts.cells,ha,eq_true hx,ne_eq,hs,hd3]
      exact fin hh _
     ·rw[if_neg hd2] at hh
      have hd3:(d==x.no)=false:=by simp[hd2]
      simp only[b_pat_Pattern_Match_0,go_sem,c1,hat,Ts.cells,ha,eq_true hx,ne_eq,hs,hd3,wrapN (n:=i) (by omega)]
      exact go hh _ _
    ·rw[if_neg hx] at hh
     have hg:=pget_t x.var hO (by omega)
     cases hb:lastB x.var o with
     |some w =>
      rw[hb] at hg hh
      simp only[atV] at hg
      simp only at hh
      have hs:=vsame_t v w
      generalize hd:decide (v=w)=d at hs hh
      simp only[Vl.p] at hs
      by_cases hd2:d=x.no
      ·rw[if_pos hd2] at hh
       have hd3:(d==x.no)=true:=by simp[hd2]
       simp only[b_pat_Pattern_Match_0,go_sem,c1,hat,Ts.cells,ha,eq_false hx,ne_eq,hg,hs,hd3]
       exact fin hh _
      ·rw[if_neg hd2] at hh
       have hd3:(d==x.no)=false:=by simp[hd2]
       simp only[b_pat_Pattern_Match_0,go_sem,c1,hat,Ts.cells,ha,eq_false hx,ne_eq,hg,hs,hd3,wrapN (n:=i) (by omega)]
       exact go hh _ _
     |none =>
      rw[hb] at hg hh
      simp only[atV] at hg
      simp only at hh
      cases hno:x.no with
      |true =>
       rw[hno,if_pos rfl] at hh
       simp only[b_pat_Pattern_Match_0,go_sem,c1,hat,Ts.cells,ha,eq_false hx,ne_eq,hg,hno]
       exact fin hh _
      |false =>
       rw[hno,if_neg (by simp)] at hh
       obtain⟨out',rows',rt',ap,hO',hr',_⟩:=hO.app1 (b:=48) hr (e:=Bi.p ⟨x.var,v⟩) rfl (by simp; omega)
       simp only[Bi.p] at ap
       simp only[b_pat_Pattern_Match_0,go_sem,c1,hat,Ts.cells,ha,eq_false hx,ne_eq,hg,hno,ap,wrapN (n:=i) (by omega)]
       refine hk _ _ ⟨out',rows',rt',_,_,o++[⟨x.var,v⟩],rfl,rfl,?_,hr',by simp; omega,hh⟩
       rw[List.map_append,List.map_singleton]
       exact hO'
  ·rintro fr st ⟨out,rows,rt,rest,bts,o,rfl,rfl,hO,hr,hol,hh⟩ k
   have hc:=pclip_t hO (by omega)
   simp only[b_pat_Pattern_Match_0,go_sem,Int.lt_irrefl,hc]
   refine Good.done ?_
   rw[List.drop_length] at hh
   rw[hh]
   rfl
  ·exact⟨_,_,_,[],_,env,rfl,rfl,q3,q4,by omega,rfl⟩
 ·rw[if_neg ht]
  simp only[e_pat_Pattern_Match,go_sem,Pt.p,Fa.p,eq_false ht,ne_eq]
  exact Good.done rfl
end Go.Proofs.YtdhhaipppjgicaaGreatDoorPe.Patf
set_option linter.unusedVariables false
set_option linter.unusedSimpArgs false
set_option maxRecDepth 100000
namespace Go.Proofs.YtdhhaipppjgicaaGreatDoorPe.Patf
open Go Go.Proofs Go.Proofs.YtdhhaipppjgicaaGreatDoorPe Go.Proofs.YtdhhaipppjgicaaGreatDoorPe.PatfCode
end Go.Proofs.YtdhhaipppjgicaaGreatDoorPe.Patf
set_option linter.unusedVariables false
set_option linter.unusedSimpArgs false
set_option maxRecDepth 100000
namespace Go.Proofs.YtdhhaipppjgicaaGreatDoorPe.Patf
open Go Go.Proofs Go.Proofs.YtdhhaipppjgicaaGreatDoorPe Go.Proofs.YtdhhaipppjgicaaGreatDoorPe.PatfCode
end Go.Proofs.YtdhhaipppjgicaaGreatDoorPe.Patf
set_option linter.unusedVariables false
set_option linter.unusedSimpArgs false
set_option maxRecDepth 100000
namespace Go.Proofs.YtdhhaipppjgicaaGreatDoorPe.Patf
open Go Go.Proofs Go.Proofs.YtdhhaipppjgicaaGreatDoorPe Go.Proofs.YtdhhaipppjgicaaGreatDoorPe.PatfCode
end Go.Proofs.YtdhhaipppjgicaaGreatDoorPe.Patf
set_option linter.unusedVariables false
set_option linter.unusedSimpArgs false
set_option maxRecDepth 100000
namespace Go.Proofs.YtdhhaipppjgicaaGreatDoorPe.Patf
open Go Go.Proofs Go.Proofs.YtdhhaipppjgicaaGreatDoorPe Go.Proofs.YtdhhaipppjgicaaGreatDoorPe.PatfCode
theorem EnvV.sl {l:List Bi} {e:PV} (h:EnvV l e):SlV (l.map Bi.p) e:=by
 rcases h with ⟨rfl,rfl⟩|⟨rfl,rfl⟩|⟨rfl,rfl⟩|⟨rfl,_⟩ <;> rfl
theorem ptwon_t (a b:Int):tupV (callE efns given) (.call 0 f_law11_two) [.int .i64 a,.int .i64 b]=some (.lst [Vl.p ⟨1,a,[]⟩,Vl.p ⟨1,b,[]⟩]):=by
 refine call_good (f:=f_law11_two) rfl ?_
 rw[callE_fn efns given (c:=e_law11_two) rfl rfl]
 have h1:tupV (callE efns given) (.call 0 f_ref3_Int) [.int .i64 a]=some (Vl.p ⟨1,a,[]⟩):=rint_t given
 have h2:tupV (callE efns given) (.call 0 f_ref3_Int) [.int .i64 b]=some (Vl.p ⟨1,b,[]⟩):=rint_t given
 simp only[Vl.p] at h1 h2
 simp only[e_law11_two,go_sem,h1,h2]
 exact Good.done rfl
end Go.Proofs.YtdhhaipppjgicaaGreatDoorPe.Patf
set_option linter.unusedVariables false
set_option linter.unusedSimpArgs false
set_option maxRecDepth 100000
namespace Go.Proofs.YtdhhaipppjgicaaGreatDoorPe.Patf
open Go Go.Proofs Go.Proofs.YtdhhaipppjgicaaGreatDoorPe Go.Proofs.YtdhhaipppjgicaaGreatDoorPe.PatfCode
def sP:List UInt8:=[112]
def sX:List UInt8:=[120]
theorem twice_law (a b:Int) (no:Bool):IsTrue (callE efns given f_law11_PatTwice [.int .i64 a,.int .i64 b,.bool no] ⟨[],[],[],[]⟩):=by
 rw[callE_fn efns given (c:=e_law11_PatTwice) rfl rfl]
 have hk:=known_t
 have ht:=ptwon_t a b
 have hm:=pmatch_t ⟨sP,[⟨0,false,sX,zV⟩,⟨1,no,sX,zV⟩]⟩ ⟨0,sP,[⟨1,a,[]⟩,⟨1,b,[]⟩]⟩ (env:=[]) (e:=.nils) (.inl ⟨rfl,rfl⟩) (by simp) (by simp)
 have hm':tupV (callE efns given) (.call 3 f_pat_Pattern_Match) [.agg [.str [112],.full [.agg [.int .i64 0,.bool false,.str [120],.int .i64 0,.int .i64 0,.str []],.agg [.int .i64 1,.bool no,.str [120],.int .i64 0,.int .i64 0,.str []]]],
   .agg [.int .i64 0,.str [112],.lst [Vl.p ⟨1,a,[]⟩,Vl.p ⟨1,b,[]⟩]],.nils]=some (matchV (if decide ((⟨1,b,[]⟩:Vl)=⟨1,a,[]⟩)=no then none else some [⟨sX,⟨1,a,[]⟩⟩])):=by
  rw[<- show matchM ⟨sP,[⟨0,false,sX,zV⟩,⟨1,no,sX,zV⟩]⟩ sP [⟨1,a,[]⟩,⟨1,b,[]⟩] []=(if decide ((⟨1,b,[]⟩:Vl)=⟨1,a,[]⟩)=no then none else some [⟨sX,⟨1,a,[]⟩⟩]) from ?_,<- hm]
  ·exact tup_shut (by rw[argF_3]; rfl)
  ·simp only[matchM,if_true,stepsB,stepB,List.getElem?_cons_zero,List.getElem?_cons_succ,sX,List.cons_ne_nil,reduceCtorEq,if_false,lastB,Bool.false_eq_true,List.nil_append]
   split <;> simp_all
 have hd:decide ((⟨1,b,[]⟩:Vl)=⟨1,a,[]⟩)=decide (b=a):=by simp
 rw[hd] at hm'
 have hat:evIdx 4 [PV.agg [.str [120],.int .i64 1,.int .i64 a,.str []]] 0=some (.ref [.str [120],.int .i64 1,.int .i64 a,.str []]):=rfl
 simp only[Vl.p] at ht hm'
 by_cases h:a=b
 ·subst h
  rw[decide_eq_true rfl] at hm'
  cases no with
  |true =>
   simp only[if_true,matchV] at hm'
   simp only[e_law11_PatTwice,go_sem,hk,ht,hm',List.map_nil]
   exact Good.done rfl
  |false =>
   simp only[Bool.true_eq_false,if_false,matchV,List.map_cons,List.map_nil,Bi.p,sX] at hm'
   simp only[e_law11_PatTwice,go_sem,hk,ht,hm',hat]
   exact Good.done rfl
 ·rw[decide_eq_false (fun e=>h e.symm)] at hm'
  cases no with
  |false =>
   simp only[if_true,matchV] at hm'
   simp only[e_law11_PatTwice,go_sem,hk,ht,hm',List.map_nil,eq_false h]
   exact Good.done rfl
  |true =>
   simp only[Bool.false_eq_true,if_false,matchV,List.map_cons,List.map_nil,Bi.p,sX] at hm'
   simp only[e_law11_PatTwice,go_sem,hk,ht,hm',hat,eq_false h]
   exact Good.done rfl
end Go.Proofs.YtdhhaipppjgicaaGreatDoorPe.Patf
set_option linter.unusedVariables false
set_option linter.unusedSimpArgs false
set_option maxRecDepth 100000
namespace Go.Proofs.YtdhhaipppjgicaaGreatDoorPe.Patf
open Go Go.Proofs Go.Proofs.YtdhhaipppjgicaaGreatDoorPe Go.Proofs.YtdhhaipppjgicaaGreatDoorPe.PatfCode
end Go.Proofs.YtdhhaipppjgicaaGreatDoorPe.Patf
set_option linter.unusedVariables false
set_option linter.unusedSimpArgs false
set_option maxRecDepth 100000
namespace Go.Proofs.YtdhhaipppjgicaaGreatDoorPe.Patf
open Go Go.Proofs Go.Proofs.YtdhhaipppjgicaaGreatDoorPe Go.Proofs.YtdhhaipppjgicaaGreatDoorPe.PatfCode
end Go.Proofs.YtdhhaipppjgicaaGreatDoorPe.Patf
