/- A part of the proof of this folder's statement; it has no condition of its own. -/
import Derived.Test.YtdhhaipppjgicaaGreatDoorPatfNd
import Derived.Test.YtdhhaipppjgicaaGreatDoorPatfNt
import Derived.Test.YtdhhaipppjgicaaGreatDoorPatfVal
import Derived.Test.YtdhhaipppjgicaaGreatDoorEcGen
import Derived.Test.YtdhhaipppjgicaaGreatDoorPatfLexR
import Derived.Test.YtdhhaipppjgicaaGreatDoorPatfBy
set_option linter.unusedVariables false
set_option linter.unusedSimpArgs false
set_option maxRecDepth 100000
namespace Go.Proofs.YtdhhaipppjgicaaGreatDoorPe.Patf
open Go Go.Proofs Go.Proofs.YtdhhaipppjgicaaGreatDoorPe Go.Proofs.YtdhhaipppjgicaaGreatDoorPe.PatfCode
structure Sl where
 name:List UInt8
 d:Vl
 deriving DecidableEq
structure Tm where
 name:List UInt8
 slots:List Sl
 deriving DecidableEq
def Sl.cells (s:Sl):List PV:=[.str s.name,.int .i64 s.d.k,.int .i64 s.d.i,.str s.d.s]
def Sl.p (s:Sl):PV:=.agg [.str s.name,.int .i64 s.d.k,.int .i64 s.d.i,.str s.d.s]
def Tm.cells (t:Tm):List PV:=[.str t.name,.lst (t.slots.map Sl.p)]
def Tm.p (t:Tm):PV:=.agg [.str t.name,.lst (t.slots.map Sl.p)]
def nilW:Vl:=⟨2,0,[110,105,108]⟩
def placeL (s:List UInt8):List Sl->Option Nat
 |[]=>none
 |x::l=>if x.name=s then some 0 else (placeL s l).map (· + 1)
end Go.Proofs.YtdhhaipppjgicaaGreatDoorPe.Patf
set_option linter.unusedVariables false
set_option linter.unusedSimpArgs false
set_option maxRecDepth 100000
namespace Go.Proofs.YtdhhaipppjgicaaGreatDoorPe.Patf
open Go Go.Proofs Go.Proofs.YtdhhaipppjgicaaGreatDoorPe Go.Proofs.YtdhhaipppjgicaaGreatDoorPe.PatfCode
theorem cmpS_zero {a b:List UInt8}:(cmpS a b=0)=(a=b):=by
 rw[cmpS_eq]
 have key : ∀ a b:List UInt8,c3 a b=0 ↔ a=b:=by
  intro a
  induction a with
  |nil=>intro b; cases b <;> simp[c3]
  |cons x a ih =>
   intro b
   cases b with
   |nil=>simp[c3]
   |cons y b =>
    unfold c3 lex
    rcases cmpI_spec x.toNat y.toNat with ⟨q,h⟩|⟨q,h⟩|⟨q,h⟩
    ·rw[h]; simp; intro e; subst e; omega
    ·have:=u8_eq q
     subst this
     rw[h]; simp[ih]
    ·rw[h]; simp; intro e; subst e; omega
 exact propext (key a b)
theorem cmpI_zero {a b:Int}:(cmpI a b=0)=(a=b):=by
 rcases cmpI_spec a b with ⟨q,h⟩|⟨q,h⟩|⟨q,h⟩
 ·rw[h]; simp; omega
 ·rw[h]; simp[q]
 ·rw[h]; simp; omega
theorem cmpV_zero {v w:Vl}:(cmpV v w=0)=(v=w):=by
 have e:(v=w)=(v.k=w.k/\v.i=w.i/\v.s=w.s):=by
  cases v; cases w; simp
 rw[e,<- cmpI_zero (a:=v.k),<- cmpI_zero (a:=v.i),<- cmpS_zero (a:=v.s)]
 unfold cmpV
 simp only[orM]
 by_cases h1:cmpI v.k w.k=0
 ·by_cases h2:cmpI v.i w.i=0
  ·by_cases h3:cmpS v.s w.s=0
   ·simp[h1,h2,h3]
   ·simp[h1,h2,h3]
  ·simp[h1,h2]
 ·simp[h1]
theorem vsame_t (v w:Vl):tupV (callE efns given) (.call 0 f_val_Same) [v.p,w.p]=some (.bool (decide (v=w))):=by
 rw[show decide (v=w)=decide (cmpV v w=0) from by simp only[cmpV_zero]]
 exact same_t given v w
end Go.Proofs.YtdhhaipppjgicaaGreatDoorPe.Patf
set_option linter.unusedVariables false
set_option linter.unusedSimpArgs false
set_option maxRecDepth 100000
namespace Go.Proofs.YtdhhaipppjgicaaGreatDoorPe.Patf
open Go Go.Proofs Go.Proofs.YtdhhaipppjgicaaGreatDoorPe Go.Proofs.YtdhhaipppjgicaaGreatDoorPe.PatfCode
end Go.Proofs.YtdhhaipppjgicaaGreatDoorPe.Patf
set_option linter.unusedVariables false
set_option linter.unusedSimpArgs false
set_option maxRecDepth 100000
namespace Go.Proofs.YtdhhaipppjgicaaGreatDoorPe.Patf
open Go Go.Proofs Go.Proofs.YtdhhaipppjgicaaGreatDoorPe Go.Proofs.YtdhhaipppjgicaaGreatDoorPe.PatfCode
theorem Nd.pl (l:List Nd):l.map (fun x=>PV.agg x.cells)=l.map Nd.p:=List.map_congr_left fun x _=>(Nd.p_eq x).symm
end Go.Proofs.YtdhhaipppjgicaaGreatDoorPe.Patf
set_option linter.unusedVariables false
set_option linter.unusedSimpArgs false
set_option maxRecDepth 100000
namespace Go.Proofs.YtdhhaipppjgicaaGreatDoorPe.Patf
open Go Go.Proofs Go.Proofs.YtdhhaipppjgicaaGreatDoorPe Go.Proofs.YtdhhaipppjgicaaGreatDoorPe.PatfCode
theorem placeL_drop {s:List UInt8} {l:List Sl} {n:Nat} (h : ∀ x∈l.take n,x.name≠s):placeL s l=(placeL s (l.drop n)).map (· + n):=by
 induction n generalizing l with
 |zero=>simp
 |succ n ih =>
  cases l with
  |nil=>simp[placeL]
  |cons x l =>
   have hx:=h x (by simp)
   have:=ih (l:=l) (fun y hy=>h y (by simp[hy]))
   simp only[placeL,hx,if_false,List.drop_succ_cons,this,Option.map_map]
   congr 1
theorem rslot_t (t:Tm) (s:List UInt8) (hl:t.slots.length<4611686018427387904):tupV (callE efns given) (.call 0 f_ref9_Template_Slot) [t.p,.str s]=some (.int .i64 (idxI (placeL s t.slots))):=by
 refine call_good (f:=f_ref9_Template_Slot) rfl ?_
 rw[callE_fn efns given (c:=e_ref9_Template_Slot) rfl rfl]
 simp only[e_ref9_Template_Slot,go_sem,Tm.p]
 refine Good.for t.slots.length (fun i fr st=>fr=[.undef,.str s,.ptr 0 0,.int .i64 (i:Int),.undef,.undef]/\st=⟨[[.str t.name,.lst (t.slots.map Sl.p)]],[],[T_ref9_Template_Slot_0],[]⟩ /\ ∀ x∈t.slots.take i,x.name≠s) ?_ ?_ ?_
 ·rintro i fr st hi ⟨rfl,rfl,hh⟩ k hk
  have c1:((i:Int)<(t.slots.length:Int))=True:=eq_true (by omega)
  have hat:evIdx 4 (t.slots.map Sl.p) (i:Int)=some (.ref t.slots[i].cells):=idx_of (e:=t.slots[i].p) (map_at hi) rfl
  by_cases h:t.slots[i].name=s
  ·simp only[b_ref9_Template_Slot_0,go_sem,List.length_map,c1,hat,Sl.cells,eq_true h]
   refine Good.done ?_
   rw[placeL_drop hh,List.drop_eq_getElem_cons hi,placeL,if_pos h]
   simp[idxI]
   rfl
  ·simp only[b_ref9_Template_Slot_0,go_sem,List.length_map,c1,hat,Sl.cells,eq_false h,wrapN (n:=i) (by omega)]
   refine hk _ _ ⟨rfl,rfl,fun x hx => ?_⟩
   rw[take_succ_at hi,List.mem_append,List.mem_singleton] at hx
   rcases hx with hx|rfl
   ·exact hh x hx
   ·exact h
 ·rintro fr st ⟨rfl,rfl,hh⟩ k
  simp only[b_ref9_Template_Slot_0,go_sem,List.length_map,Int.lt_irrefl]
  refine Good.done ?_
  rw[placeL_drop hh,List.drop_length]
  rfl
 ·exact⟨rfl,rfl,by simp⟩
theorem rsymv_t (s:List UInt8):tupV (callE efns given) (.call 0 f_ref3_Sym) [.str s]=some (Vl.p ⟨2,0,s⟩):=rsym_t given
theorem rvsame_t (v w:Vl):tupV (callE efns given) (.call 0 f_ref3_Same) [v.p,w.p]=some (.bool (decide (v=w))):=rsame_t given v w
end Go.Proofs.YtdhhaipppjgicaaGreatDoorPe.Patf
set_option linter.unusedVariables false
set_option linter.unusedSimpArgs false
set_option maxRecDepth 100000
namespace Go.Proofs.YtdhhaipppjgicaaGreatDoorPe.Patf
open Go Go.Proofs Go.Proofs.YtdhhaipppjgicaaGreatDoorPe Go.Proofs.YtdhhaipppjgicaaGreatDoorPe.PatfCode
end Go.Proofs.YtdhhaipppjgicaaGreatDoorPe.Patf
set_option linter.unusedVariables false
set_option linter.unusedSimpArgs false
set_option maxRecDepth 100000
namespace Go.Proofs.YtdhhaipppjgicaaGreatDoorPe.Patf
open Go Go.Proofs Go.Proofs.YtdhhaipppjgicaaGreatDoorPe Go.Proofs.YtdhhaipppjgicaaGreatDoorPe.PatfCode
end Go.Proofs.YtdhhaipppjgicaaGreatDoorPe.Patf
set_option linter.unusedVariables false
set_option linter.unusedSimpArgs false
set_option maxRecDepth 100000
namespace Go.Proofs.YtdhhaipppjgicaaGreatDoorPe.Patf
open Go Go.Proofs Go.Proofs.YtdhhaipppjgicaaGreatDoorPe Go.Proofs.YtdhhaipppjgicaaGreatDoorPe.PatfCode
structure Ts where
 slot:Nat
 no:Bool
 var:List UInt8
 v:Vl
 deriving DecidableEq
structure Pt where
 t:List UInt8
 tests:List Ts
 deriving DecidableEq
def zV:Vl:=⟨0,0,[]⟩
def Ts.cells (x:Ts):List PV:=[.int .i64 (x.slot:Int),.bool x.no,.str x.var,.int .i64 x.v.k,.int .i64 x.v.i,.str x.v.s]
def Ts.p (x:Ts):PV:=.agg [.int .i64 (x.slot:Int),.bool x.no,.str x.var,.int .i64 x.v.k,.int .i64 x.v.i,.str x.v.s]
def Pt.p (p:Pt):PV:=.agg [.str p.t,.lst (p.tests.map Ts.p)]
def findT (s:List UInt8):List Tm->Option Tm
 |[]=>none
 |t::l=>if t.name=s then some t else findT s l
def coreM (no:Bool) (n:Nd):Option Ts:=if n.k=6 then some ⟨0,no,n.s,zV⟩ else (valM n).map fun v=>⟨0,no,[],v⟩
def termM (n:Nd):Option Ts:=if n.k=8 then (match n.kids with
 |[x]=>coreM true x
 |_=>none) else coreM false n
def hasS (i:Nat) (l:List Ts):Bool:=l.any fun x=>decide (x.slot=i)
def slotE (t:Tm) (ts:List Ts) (s:List UInt8) (y:Nd):Except Int Ts :=
 match placeL s t.slots with
 |none=>.error 5
 |some i=>if hasS i ts=true then .error 6 else match termM y with
  |none=>.error 2
  |some x=>.ok { x with slot:=i }
def testM (t:Tm) (ts:List Ts) (n:Nd):Except Int Ts :=
 if headM n=[] then .error 2 else match n.kids with
  |[_,y]=>slotE t ts (headM n) y
  |_=>.error 2
def testsM (t:Tm):List Nd->List Ts->Except (Int × Int) (List Ts)
 |[],ts=>.ok ts
 |x::l,ts=>match testM t ts x with
  |.error e=>.error (x.pos,e)
  |.ok y=>testsM t l (ts++[y])
def patM (l:List Tm) (n:Nd):Except (Int × Int) Pt :=
 if headM n=[] then .error (n.pos,2) else match findT (headM n) l with
  |none=>.error (n.pos,5)
  |some t=>(testsM t (n.kids.drop 1) []).map fun ts=>⟨headM n,ts⟩
theorem findT_mem {s:List UInt8} : ∀ {l:List Tm} {t:Tm},findT s l=some t->t∈l
 |[],t,h=>by cases h
 |x::l,t,h=>by
  unfold findT at h
  split at h
  ·cases h; simp
  ·exact List.mem_cons_of_mem _ (findT_mem h)
theorem testM_err {t:Tm} {ts:List Ts} {n:Nd} {e:Int} (h:testM t ts n = .error e):1<=e/\e<=11:=by
 unfold testM at h
 split at h
 ·cases h; decide
 ·split at h
  ·unfold slotE at h
   split at h
   ·cases h; decide
   ·split at h
    ·cases h; decide
    ·split at h
     ·cases h; decide
     ·cases h
  ·cases h; decide
theorem testsM_len {t:Tm} : ∀ (l:List Nd) (ts r:List Ts),testsM t l ts = .ok r->r.length=ts.length+l.length
 |[],ts,r,h=>by cases h; simp
 |x::l,ts,r,h=>by
  simp only[testsM] at h
  split at h
  ·cases h
  ·rw[testsM_len l _ _ h]
   simp
   omega
structure Bi where
 n:List UInt8
 v:Vl
 deriving DecidableEq
def Bi.p (b:Bi):PV:=.agg [.str b.n,.int .i64 b.v.k,.int .i64 b.v.i,.str b.v.s]
def Bi.cells (b:Bi):List PV:=[.str b.n,.int .i64 b.v.k,.int .i64 b.v.i,.str b.v.s]
def lastB (s:List UInt8):List Bi->Option Vl
 |[]=>none
 |b::l=>match lastB s l with
  |some v=>some v
  |none=>if b.n=s then some b.v else none
def stepB (vals:List Vl) (out:List Bi) (x:Ts):Option (List Bi) :=
 match vals[x.slot]? with
 |none=>none
 |some v=>if x.var=[] then (if decide (v=x.v)=x.no then none else some out) else
  match lastB x.var out with
  |some w=>if decide (v=w)=x.no then none else some out
  |none=>if x.no=true then none else some (out++[⟨x.var,v⟩])
def stepsB (vals:List Vl):List Ts->List Bi->Option (List Bi)
 |[],out=>some out
 |x::l,out=>match stepB vals out x with
  |none=>none
  |some out'=>stepsB vals l out'
def matchM (p:Pt) (t:List UInt8) (vals:List Vl) (env:List Bi):Option (List Bi):=if t=p.t then stepsB vals p.tests env else none
def aloneT (vals:List Vl) (x:Ts):Bool :=
 match vals[x.slot]? with
 |none=>false
 |some v => !(decide (x.var=[])&&(decide (v=x.v)==x.no))
def aloneM (p:Pt) (t:List UInt8) (vals:List Vl):Bool:=decide (t=p.t)&&p.tests.all (aloneT vals)
end Go.Proofs.YtdhhaipppjgicaaGreatDoorPe.Patf
set_option linter.unusedVariables false
set_option linter.unusedSimpArgs false
set_option maxRecDepth 100000
namespace Go.Proofs.YtdhhaipppjgicaaGreatDoorPe.Patf
open Go Go.Proofs Go.Proofs.YtdhhaipppjgicaaGreatDoorPe Go.Proofs.YtdhhaipppjgicaaGreatDoorPe.PatfCode
@[go_sem] theorem bx_cons {α : Type} {x : α} {l : List α} {n k : Nat} : (x :: l)[n + (k + 1)]? = l[n + k]? := by rw [<- Nat.add_assoc, List.getElem?_cons_succ]
@[go_sem] theorem bx_cset {α : Type} {x y : α} {l : List α} {n k : Nat} : (x :: l).set (n + (k + 1)) y = x :: l.set (n + k) y := by rw [<- Nat.add_assoc, List.set_cons_succ]
def placeT (s:List UInt8):List Tm->Option Nat
 |[]=>none
 |t::l=>if t.name=s then some 0 else (placeT s l).map (· + 1)
theorem placeT_some {s:List UInt8} : ∀ {l:List Tm} {i:Nat},placeT s l=some i -> ∃ t,l[i]? = some t/\findT s l=some t
 |[],i,h=>by cases h
 |x::l,i,h=>by
  unfold placeT at h
  unfold findT
  split at h
  ·rename_i e
   cases h
   exact⟨x,rfl,if_pos e⟩
  ·rename_i e
   obtain⟨j,hj,rfl⟩:=Option.map_eq_some_iff.1 h
   obtain⟨y,h1,h2⟩:=placeT_some hj
   exact⟨y,by simpa using h1,by rw[if_neg e]; exact h2⟩
theorem placeT_none {s:List UInt8} : ∀ {l:List Tm},placeT s l=none->findT s l=none
 |[],_=>rfl
 |x::l,h=>by
  unfold placeT at h
  unfold findT
  split at h
  ·cases h
  ·rename_i e
   rw[if_neg e]
   exact placeT_none (Option.map_eq_none_iff.1 h)
def NoN (n:Nd):Prop := ∀ x,n.k=8->n.kids=[x] -> ¬ x.k=8
end Go.Proofs.YtdhhaipppjgicaaGreatDoorPe.Patf
set_option linter.unusedVariables false
set_option linter.unusedSimpArgs false
set_option maxRecDepth 100000
namespace Go.Proofs.YtdhhaipppjgicaaGreatDoorPe.Patf
open Go Go.Proofs Go.Proofs.YtdhhaipppjgicaaGreatDoorPe Go.Proofs.YtdhhaipppjgicaaGreatDoorPe.PatfCode
def zPt:Pt:=⟨[],[]⟩
def patR (name:List UInt8) (t:Tm) (l:List Nd) (ts:List Ts):Except (Int × Int) Pt:=(testsM t l ts).map fun ts=>⟨name,ts⟩
theorem patR_cons {name:List UInt8} {t:Tm} {y:Nd} {l:List Nd} {ts:List Ts}:patR name t (y::l) ts=match testM t ts y with
  |.error e=>.error (y.pos,e)
  |.ok x=>patR name t l (ts++[x]):=by
 unfold patR
 rw[testsM]
 cases testM t ts y <;> rfl
def NoN2 (n:Nd):Prop := ∀ x∈n.kids,∀ y∈x.kids,NoN y
end Go.Proofs.YtdhhaipppjgicaaGreatDoorPe.Patf
set_option linter.unusedVariables false
set_option linter.unusedSimpArgs false
set_option maxRecDepth 100000
namespace Go.Proofs.YtdhhaipppjgicaaGreatDoorPe.Patf
open Go Go.Proofs Go.Proofs.YtdhhaipppjgicaaGreatDoorPe Go.Proofs.YtdhhaipppjgicaaGreatDoorPe.PatfCode
end Go.Proofs.YtdhhaipppjgicaaGreatDoorPe.Patf
set_option linter.unusedVariables false
set_option linter.unusedSimpArgs false
set_option maxRecDepth 100000
namespace Go.Proofs.YtdhhaipppjgicaaGreatDoorPe.Patf
open Go Go.Proofs Go.Proofs.YtdhhaipppjgicaaGreatDoorPe Go.Proofs.YtdhhaipppjgicaaGreatDoorPe.PatfCode
structure Fa where
 id:Int
 t:List UInt8
 vals:List Vl
def Fa.p (f:Fa):PV:=.agg [.int .i64 f.id,.str f.t,.lst (f.vals.map Vl.p)]
def atV:Option Vl->PV
 |some v=>.tuple [.agg [.int .i64 v.k,.int .i64 v.i,.str v.s],.bool true]
 |none=>.tuple [.agg [.int .i64 0,.int .i64 0,.str []],.bool false]
theorem vl_at {l:List Vl} {i:Nat} {v:Vl} (h:l[i]? = some v):evIdx 3 (l.map Vl.p) (i:Int)=some (.ref [.int .i64 v.k,.int .i64 v.i,.str v.s]):=idx_of (e:=v.p) (by simp[h]) rfl
theorem pat_t (f:Fa) (i:Nat):tupV (callE efns given) (.call 0 f_pat_at) [f.p,.int .i64 (i:Int)]=some (atV f.vals[i]?):=by
 refine call_good (f:=f_pat_at) rfl ?_
 rw[callE_fn efns given (c:=e_pat_at) rfl rfl]
 have c1:((i:Int)<0)=False:=eq_false (by omega)
 cases h:f.vals[i]? with
 |none =>
  have c2:((i:Int)>=(f.vals.length:Int))=True:=eq_true (by have:=List.getElem?_eq_none_iff.1 h; omega)
  simp only[e_pat_at,go_sem,Fa.p,c1,c2,List.length_map]
  exact Good.done rfl
 |some v =>
  have c2:((i:Int)>=(f.vals.length:Int))=False:=eq_false (by have:=(List.getElem?_eq_some_iff.1 h).1; omega)
  have hat:=vl_at h
  simp only[e_pat_at,go_sem,Fa.p,c1,c2,List.length_map,hat]
  exact Good.done rfl
def toBd (b:Bi):Get.Bd:=(b.n,b.v.k,b.v.i,b.v.s)
theorem toBd_p (l:List Bi):(l.map toBd).map Get.bdP=l.map Bi.p:=by rw[List.map_map]; rfl
theorem getM_last (s:List UInt8) : ∀ l:List Bi,Get.getR (Get.getM s (l.map toBd))=atV (lastB s l)/\(Get.getM s (l.map toBd)=none ↔ lastB s l=none)
 |[]=>⟨rfl,by simp[Get.getM,lastB]⟩
 |b::l=>by
  obtain⟨h1,h2⟩:=getM_last s l
  rw[List.map_cons,Get.getM,lastB]
  cases hm:Get.getM s (l.map toBd) with
  |some c =>
   cases hl:lastB s l with
   |none=>rw[hl,hm] at h2; exact absurd (h2.2 rfl) (by simp)
   |some v =>
    rw[hm,hl] at h1
    exact⟨h1,by simp⟩
  |none =>
   rw[h2.1 hm]
   simp only
   by_cases hn:b.n=s
   ·rw[if_pos (show (toBd b).1=s from hn),if_pos hn]
    exact⟨rfl,by simp⟩
   ·rw[if_neg (show ¬ (toBd b).1=s from hn),if_neg hn]
    exact⟨rfl,by simp⟩
theorem pget_t {n:Nat} {T:TypeId} {l:List Bi} {x:PV} {rows:List (Nat × Nat)} {rt:List TypeId} (s:List UInt8) (h:OutV n T (l.map Bi.p) x rows rt) (hl:l.length<=17592186043904) :
  tupV (callE efns given) (.call 0 f_eval_Get) [x,.str s]=some (atV (lastB s l)):=by
 rw[V_call,argF_0,mapO_two (show shutA shutN x=_ from h.shutA 5) (d:=.str s) rfl]
 show onS (callE efns given f_eval_Get [.lst (l.map Bi.p),.str s] ⟨[],[],[],[]⟩) _=_
 rw[callE_given efns given rfl]
 have e:givenV given f_eval_Get [.lst (l.map Bi.p),.str s] ⟨[],[],[],[]⟩=match given f_eval_Get [.lst (l.map Bi.p),.str s] with
   |some r=>givAns r ⟨[],[],[],[]⟩
   |none=>none:=rfl
 rw[e,given_get]
 have hj:Get.getG [.lst (l.map Bi.p),.str s]=some (atV (lastB s l)):=by
  unfold Get.getG
  simp only
  rw[<- toBd_p,Get.bindsOf_map]
  simp only[List.length_map]
  rw[if_pos hl,(getM_last s l).1]
 rw[hj]
 cases lastB s l <;> rfl
def EnvV (l:List Bi) (e:PV):Prop:=(e = .nils/\l=[])\/(e = .emp/\l=[])\/(e = .emc/\l=[])\/(e = .lst (l.map Bi.p)/\l≠[])
theorem EnvV.k {l:List Bi} {e:PV} (h:EnvV l e):shutK e=some e:=by
 rcases h with ⟨rfl,_⟩|⟨rfl,_⟩|⟨rfl,_⟩|⟨rfl,_⟩ <;> rfl
theorem EnvV.o {l:List Bi} {e:PV} (h:EnvV l e):shutO e=some e:=by
 rcases h with ⟨rfl,_⟩|⟨rfl,_⟩|⟨rfl,_⟩|⟨rfl,_⟩ <;> rfl
theorem bi_sz (l:List Bi):szAll 4 (l.map Bi.p)=true:=List.all_eq_true.2 fun e he=>by
 obtain⟨x,_,rfl⟩:=List.mem_map.1 he
 rfl
theorem pclone_t {l:List Bi} {e:PV} (h:EnvV l e) (hl:l.length<=100000) :
  ∃ r st0 out rows rt,callE efns given f_slices_Clone_eval_Bind_eval_Bind [e] ⟨[],[],[],[]⟩=some (r,st0)/\(∀ bs bt,takeO ⟨bs,[],bt,[]⟩ st0 r=some (out,⟨bs,rows,bt,rt⟩))/\OutV 4 T_pat_Pattern_Match_0 (l.map Bi.p) out rows rt/\rt.length=rows.length:=by
 have key : ∃ r st0,callE efns given f_slices_Clone_eval_Bind_eval_Bind [e] ⟨[],[],[],[]⟩=some (r,st0)/\((r = .nils/\l=[])\/(r = .emp/\l=[])\/(r = .own 0 (l.map Bi.p)/\st0=⟨[],[(l.length,4)],[],[T_pat_Pattern_Match_0]⟩)):=by
  rw[callE_fn efns given (c:=e_slices_Clone_eval_Bind_eval_Bind) rfl rfl]
  rcases h with ⟨rfl,h2⟩|⟨rfl,h2⟩|⟨rfl,h2⟩|⟨rfl,h2⟩
  ·simp only[e_slices_Clone_eval_Bind_eval_Bind,go_sem]
   exact⟨_,_,rfl,.inl ⟨rfl,h2⟩⟩
  ·simp only[e_slices_Clone_eval_Bind_eval_Bind,go_sem]
   exact⟨_,_,rfl,.inr (.inl ⟨rfl,h2⟩)⟩
  ·simp only[e_slices_Clone_eval_Bind_eval_Bind,go_sem]
   exact⟨_,_,rfl,.inr (.inl ⟨rfl,h2⟩)⟩
  ·cases l with
   |nil=>exact absurd rfl h2
   |cons b l =>
    have hz:=bi_sz (b::l)
    have c1:((0+(((l.map Bi.p).length)+1))*(48+1)<=70368744177664)=True:=eq_true (by simp at hl ⊢; omega)
    have q:biV (.eqs 3 false) (.lst (b.p::l.map Bi.p)) .nils=some (.bool false):=rfl
    simp only[List.map_cons] at hz ⊢
    have ap : ∀ bs rows bt rt,evAppend 4 48 T_slices_Clone_eval_Bind_eval_Bind_0 (.full []) (b.p::l.map Bi.p) ⟨bs,rows,bt,rt⟩=some (.own rows.length (b.p::l.map Bi.p),⟨bs,rows++[((b.p::l.map Bi.p).length,4)],bt,rt++[T_slices_Clone_eval_Bind_eval_Bind_0]⟩):=by
     intro bs rows bt rt
     rw[A_full,hz,if_pos rfl,if_pos ⟨by simp at hl ⊢; omega,rfl⟩]
     simp
    simp only[e_slices_Clone_eval_Bind_eval_Bind,go_sem,q,ap]
    exact⟨_,_,rfl,.inr (.inr ⟨rfl,by simp⟩)⟩
 obtain⟨r,st0,h1,h2⟩:=key
 rcases h2 with ⟨rfl,rfl⟩|⟨rfl,rfl⟩|⟨rfl,rfl⟩
 ·exact⟨_,_,.full [],[],[],h1,fun _ _=>rfl,.inl ⟨rfl,rfl⟩,rfl⟩
 ·exact⟨_,_,.full [],[],[],h1,fun _ _=>rfl,.inl ⟨rfl,rfl⟩,rfl⟩
 ·refine⟨_,_,.own 0 (l.map Bi.p),[(l.length,4)],[T_pat_Pattern_Match_0],h1,fun bs bt => ?_,.inr ⟨0,rfl,by simp,rfl⟩,rfl⟩
  show (if l.length=(l.map Bi.p).length then _ else none)=_
  rw[if_pos (by simp)]
  rfl
theorem pclip_t {l:List Bi} {x:PV} {n:Nat} {T:TypeId} {rows:List (Nat × Nat)} {rt:List TypeId} (h:OutV n T (l.map Bi.p) x rows rt) (hl:l.length<4611686018427387904):tupV (callE efns given) (.call 1 f_slices_Clip_eval_Bind_eval_Bind) [x]=some (.full (l.map Bi.p)):=by
 refine callV_of («as» := [.lst (l.map Bi.p)]) (r:=.full (l.map Bi.p)) (st:=⟨[],[],[],[]⟩) (mS (h.shutA 5) mN) ?_ rfl
 rw[callE_fn efns given (c:=e_slices_Clip_eval_Bind_eval_Bind) rfl rfl]
 have hs:lsubV 4 (.lst (l.map Bi.p)) none (some (.int .i64 (l.length:Int))) (some (.int .i64 (l.length:Int)))=some (.full (l.map Bi.p)):=by
  have e1:sizesOk 4 0 (l.map Bi.p)=true:=by unfold sizesOk; simp
  have b1:bnd (some (.int .i64 (l.length:Int))) l.length l.length=some l.length:=by simp[bnd]
  simp only[lsubV,hsOf,n_lst,slcOf,List.length_map,b1,show bnd none l.length 0=some 0 from rfl,e1,if_true,List.drop_zero]
  rw[show l.length=(l.map Bi.p).length from by simp,List.take_length]
 simp only[e_slices_Clip_eval_Bind_eval_Bind,go_sem,List.length_map,hs]
def Ret3 (r:PV):PV->St->Prop:=fun v st=>shutR true st shutN v=some r
theorem call_good3 {cl:CallF} {f:FuncId} {vs ws:List PV} {r:PV} (h1:mapO (argF 3) vs=some ws) (h2:Good (Ret3 r) (cl f ws ⟨[],[],[],[]⟩)):tupV cl (.call 3 f) vs=some r:=by
 obtain⟨v,st,h2,h3⟩:=h2
 exact callV_of h1 h2 h3
def matchV:Option (List Bi)->PV
 |some l=>.tuple [.full (l.map Bi.p),.bool true]
 |none=>.tuple [.full [],.bool false]
theorem stepB_len {vals:List Vl} {out out':List Bi} {x:Ts} (h:stepB vals out x=some out'):out'.length<=out.length+1:=by
 unfold stepB at h
 split at h
 ·cases h
 ·split at h
  ·split at h
   ·cases h
   ·cases h; omega
  ·split at h
   ·split at h
    ·cases h
    ·cases h; omega
   ·split at h
    ·cases h
    ·cases h; simp
theorem pmatch_t (p:Pt) (f:Fa) {env:List Bi} {e:PV} (he:EnvV env e) (hl:env.length<=10000) (hp:p.tests.length<=10000) :
  tupV (callE efns given) (.call 3 f_pat_Pattern_Match) [p.p,f.p,e]=some (matchV (matchM p f.t f.vals env)):=by
 refine call_good3 (f:=f_pat_Pattern_Match) (ws:=[p.p,f.p,e]) (by rw[argF_3]; exact mS rfl (mS rfl (mS he.k mN))) ?_
 rw[callE_fn efns given (c:=e_pat_Pattern_Match) rfl rfl]
 unfold matchM
 by_cases ht:f.t=p.t
 ·rw[if_pos ht]
  obtain⟨r0,st0,out0,rows0,rt0,q1,q2,q3,q4⟩:=pclone_t he (by omega)
  simp only[e_pat_Pattern_Match,go_sem,Pt.p,Fa.p,eq_true ht,ne_eq,he.o,q1,q2,List.length_map]
  refine Good.for p.tests.length (fun i fr st => ∃ out rows rt rest bts o,fr=[.undef,.undef,.undef,.undef,.ptr 1 0,out]++List.replicate 7 .undef++[.lst (p.tests.map Ts.p),.int .i64 (p.tests.length:Int),.int .i64 (i:Int)]++List.replicate 14 .undef /\
   st=⟨[[.str p.t,.lst (p.tests.map Ts.p)],[.int .i64 f.id,.str f.t,.lst (f.vals.map Vl.p)]]++rest,rows,bts,rt⟩ /\
   OutV 4 T_pat_Pattern_Match_0 (o.map Bi.p) out rows rt/\rt.length=rows.length/\o.length<=10000+i/\stepsB f.vals p.tests env=stepsB f.vals (p.tests.drop i) o) ?_ ?_ ?_
  ·rintro i fr st hi ⟨out,rows,rt,rest,bts,o,rfl,rfl,hO,hr,hol,hh⟩ k hk
   have c1:((i:Int)<(p.tests.length:Int))=True:=eq_true (by omega)
   have hat:evIdx 6 (p.tests.map Ts.p) (i:Int)=some (.ref p.tests[i].cells):=idx_of (e:=p.tests[i].p) (map_at hi) rfl
   rw[List.drop_eq_getElem_cons hi,stepsB] at hh
   generalize p.tests[i]=x at hat hh
   have ha:=pat_t f x.slot
   have fin:stepsB f.vals p.tests env=none -> ∀ st,Good (Ret3 (matchV (stepsB f.vals p.tests env))) (some (.tuple [.nils,.bool false],st)):=fun h st=>by rw[h]; exact Good.done rfl
   have go:stepsB f.vals p.tests env=stepsB f.vals (p.tests.drop (i+1)) o -> ∀ rest' bts',Good (Ret3 (matchV (stepsB f.vals p.tests env))) (k ([.undef,.undef,.undef,.undef,.ptr 1 0,out]++List.replicate 7 .undef++[.lst (p.tests.map Ts.p),.int .i64 (p.tests.length:Int),.int .i64 ((i+1:Nat):Int)]++List.replicate 14 .undef)
     ⟨[[.str p.t,.lst (p.tests.map Ts.p)],[.int .i64 f.id,.str f.t,.lst (f.vals.map Vl.p)]]++rest',rows,bts',rt⟩):=fun h rest' bts'=>hk _ _ ⟨out,rows,rt,rest',bts',o,rfl,rfl,hO,hr,by omega,h⟩
   unfold stepB at hh
   cases hv:f.vals[x.slot]? with
   |none =>
    rw[hv] at ha hh
    simp only[Fa.p,atV] at ha
    simp only[b_pat_Pattern_Match_0,go_sem,c1,hat,Ts.cells,ha]
    exact fin hh _
   |some v =>
    rw[hv] at ha hh
    simp only[Fa.p,atV] at ha
    simp only at hh
    by_cases hx:x.var=[]
    ·rw[if_pos hx] at hh
     have hs:=vsame_t v x.v
     generalize hd:decide (v=x.v)=d at hs hh
     simp only[Vl.p] at hs
     by_cases hd2:d=x.no
     ·rw[if_pos hd2] at hh
      have hd3:(d==x.no)=true:=by simp[hd2]
      simp only[b_pat_Pattern_Match_0,go_sem,c1,hat,Ts.cells,ha,eq_true hx,ne_eq,hs,hd3]
      exact fin hh _
     ·rw[if_neg hd2] at hh
      have hd3:(d==x.no)=false:=by simp[hd2]
      simp only[b_pat_Pattern_Match_0,go_sem,c1,hat,Ts.cells,ha,eq_true hx,ne_eq,hs,hd3,wrapN (n:=i) (by omega)]
      exact go hh _ _
    ·rw[if_neg hx] at hh
     have hg:=pget_t x.var hO (by omega)
     cases hb:lastB x.var o with
     |some w =>
      rw[hb] at hg hh
      simp only[atV] at hg
      simp only at hh
      have hs:=vsame_t v w
      generalize hd:decide (v=w)=d at hs hh
      simp only[Vl.p] at hs
      by_cases hd2:d=x.no
      ·rw[if_pos hd2] at hh
       have hd3:(d==x.no)=true:=by simp[hd2]
       simp only[b_pat_Pattern_Match_0,go_sem,c1,hat,Ts.cells,ha,eq_false hx,ne_eq,hg,hs,hd3]
       exact fin hh _
      ·rw[if_neg hd2] at hh
       have hd3:(d==x.no)=false:=by simp[hd2]
       simp only[b_pat_Pattern_Match_0,go_sem,c1,hat,Ts.cells,ha,eq_false hx,ne_eq,hg,hs,hd3,wrapN (n:=i) (by omega)]
       exact go hh _ _
     |none =>
      rw[hb] at hg hh
      simp only[atV] at hg
      simp only at hh
      cases hno:x.no with
      |true =>
       rw[hno,if_pos rfl] at hh
       simp only[b_pat_Pattern_Match_0,go_sem,c1,hat,Ts.cells,ha,eq_false hx,ne_eq,hg,hno]
       exact fin hh _
      |false =>
       rw[hno,if_neg (by simp)] at hh
       obtain⟨out',rows',rt',ap,hO',hr',_⟩:=hO.app1 (b:=48) hr (e:=Bi.p ⟨x.var,v⟩) rfl (by simp; omega)
       simp only[Bi.p] at ap
       simp only[b_pat_Pattern_Match_0,go_sem,c1,hat,Ts.cells,ha,eq_false hx,ne_eq,hg,hno,ap,wrapN (n:=i) (by omega)]
       refine hk _ _ ⟨out',rows',rt',_,_,o++[⟨x.var,v⟩],rfl,rfl,?_,hr',by simp; omega,hh⟩
       rw[List.map_append,List.map_singleton]
       exact hO'
  ·rintro fr st ⟨out,rows,rt,rest,bts,o,rfl,rfl,hO,hr,hol,hh⟩ k
   have hc:=pclip_t hO (by omega)
   simp only[b_pat_Pattern_Match_0,go_sem,Int.lt_irrefl,hc]
   refine Good.done ?_
   rw[List.drop_length] at hh
   rw[hh]
   rfl
  ·exact⟨_,_,_,[],_,env,rfl,rfl,q3,q4,by omega,rfl⟩
 ·rw[if_neg ht]
  simp only[e_pat_Pattern_Match,go_sem,Pt.p,Fa.p,eq_false ht,ne_eq]
  exact Good.done rfl
theorem palone_t (p:Pt) (f:Fa) (hp:p.tests.length<=10000):tupV (callE efns given) (.call 0 f_pat_Pattern_Alone) [p.p,f.p]=some (.bool (aloneM p f.t f.vals)):=by
 refine call_good (f:=f_pat_Pattern_Alone) rfl ?_
 rw[callE_fn efns given (c:=e_pat_Pattern_Alone) rfl rfl]
 unfold aloneM
 by_cases ht:f.t=p.t
 ·rw[decide_eq_true ht,Bool.true_and]
  simp only[e_pat_Pattern_Alone,go_sem,Pt.p,Fa.p,eq_true ht,ne_eq,List.length_map]
  refine Good.for p.tests.length (fun i fr st => ∃ rest bts,fr=[.undef,.undef,.undef,.ptr 1 0]++List.replicate 4 .undef++[.lst (p.tests.map Ts.p),.int .i64 (p.tests.length:Int),.int .i64 (i:Int)]++List.replicate 12 .undef /\
   st=⟨[[.str p.t,.lst (p.tests.map Ts.p)],[.int .i64 f.id,.str f.t,.lst (f.vals.map Vl.p)]]++rest,[],bts,[]⟩/\p.tests.all (aloneT f.vals)=(p.tests.drop i).all (aloneT f.vals)) ?_ ?_ ?_
  ·rintro i fr st hi ⟨rest,bts,rfl,rfl,hh⟩ k hk
   have c1:((i:Int)<(p.tests.length:Int))=True:=eq_true (by omega)
   have hat:evIdx 6 (p.tests.map Ts.p) (i:Int)=some (.ref p.tests[i].cells):=idx_of (e:=p.tests[i].p) (map_at hi) rfl
   rw[List.drop_eq_getElem_cons hi,List.all_cons] at hh
   generalize p.tests[i]=x at hat hh
   have ha:=pat_t f x.slot
   have fin:p.tests.all (aloneT f.vals)=false -> ∀ st,Good (Ret (.bool (p.tests.all (aloneT f.vals)))) (some (.bool false,st)):=fun h st=>by rw[h]; exact Good.done rfl
   cases hv:f.vals[x.slot]? with
   |none =>
    rw[hv] at ha
    rw[show aloneT f.vals x=false from by unfold aloneT; rw[hv],Bool.false_and] at hh
    simp only[Fa.p,atV] at ha
    simp only[b_pat_Pattern_Alone_0,go_sem,c1,hat,Ts.cells,ha]
    exact fin hh _
   |some v =>
    rw[hv] at ha
    rw[show aloneT f.vals x = !(decide (x.var=[])&&(decide (v=x.v)==x.no)) from by unfold aloneT; rw[hv]] at hh
    simp only[Fa.p,atV] at ha
    by_cases hx:x.var=[]
    ·have hs:=vsame_t v x.v
     generalize hd:decide (v=x.v)=d at hs hh
     simp only[Vl.p] at hs
     rw[decide_eq_true hx,Bool.true_and] at hh
     by_cases hd2:d=x.no
     ·have hd3:(d==x.no)=true:=by simp[hd2]
      rw[hd3] at hh
      simp only[b_pat_Pattern_Alone_0,go_sem,c1,hat,Ts.cells,ha,eq_true hx,ne_eq,hs,hd3]
      rw[Bool.not_true,Bool.false_and] at hh
      exact fin hh _
     ·have hd3:(d==x.no)=false:=by simp[hd2]
      rw[hd3] at hh
      simp only[b_pat_Pattern_Alone_0,go_sem,c1,hat,Ts.cells,ha,eq_true hx,ne_eq,hs,hd3,wrapN (n:=i) (by omega)]
      rw[Bool.not_false,Bool.true_and] at hh
      exact hk _ _ ⟨_,_,rfl,rfl,hh⟩
    ·rw[decide_eq_false hx,Bool.false_and] at hh
     simp only[b_pat_Pattern_Alone_0,go_sem,c1,hat,Ts.cells,ha,eq_false hx,ne_eq,wrapN (n:=i) (by omega)]
     rw[Bool.not_false,Bool.true_and] at hh
     exact hk _ _ ⟨_,_,rfl,rfl,hh⟩
  ·rintro fr st ⟨rest,bts,rfl,rfl,hh⟩ k
   simp only[b_pat_Pattern_Alone_0,go_sem,Int.lt_irrefl]
   refine Good.done ?_
   rw[hh,List.drop_length]
   rfl
  ·exact⟨[],_,rfl,rfl,rfl⟩
 ·rw[decide_eq_false ht,Bool.false_and]
  simp only[e_pat_Pattern_Alone,go_sem,Pt.p,Fa.p,eq_false ht,ne_eq]
  exact Good.done rfl
end Go.Proofs.YtdhhaipppjgicaaGreatDoorPe.Patf
set_option linter.unusedVariables false
set_option linter.unusedSimpArgs false
set_option maxRecDepth 100000
namespace Go.Proofs.YtdhhaipppjgicaaGreatDoorPe.Patf
open Go Go.Proofs Go.Proofs.YtdhhaipppjgicaaGreatDoorPe Go.Proofs.YtdhhaipppjgicaaGreatDoorPe.PatfCode
end Go.Proofs.YtdhhaipppjgicaaGreatDoorPe.Patf
set_option linter.unusedVariables false
set_option linter.unusedSimpArgs false
set_option maxRecDepth 100000
namespace Go.Proofs.YtdhhaipppjgicaaGreatDoorPe.Patf
open Go Go.Proofs Go.Proofs.YtdhhaipppjgicaaGreatDoorPe Go.Proofs.YtdhhaipppjgicaaGreatDoorPe.PatfCode
theorem Good.forF {cl:CallF} {m:List Bool} {a:EC} {K:EX->Fr->St->Option (PV × St)} {Q:PV->St->Prop} {fr:Fr} {st:St} (N:Nat) (F:Nat->Fr)
  (hstep : ∀ n,n<N -> ∀ k:Fr->St->Option (PV × St),Good Q (k (F (n+1)) st)->Good Q (runE cl a (F n) st (seqK (fun fr st=>k (mask m fr) st) K)))
  (hend : ∀ k:Fr->St->Option (PV × St),Good Q (runE cl a (F N) st (seqK (fun fr st=>k (mask m fr) st) K))) (h:fr=F 0):Good Q (runL cl m a fr st K):=by
 refine Good.for N (fun n fr st'=>fr=F n/\st'=st) ?_ ?_ ⟨h,rfl⟩
 ·rintro n fr st' hn ⟨rfl,rfl⟩ k hk
  exact hstep n hn k (hk _ _ ⟨rfl,rfl⟩)
 ·rintro fr st' ⟨rfl,rfl⟩ k
  exact hend k
theorem placeT_drop {s:List UInt8} {l:List Tm} {n:Nat} (h : ∀ x∈l.take n,x.name≠s):placeT s l=(placeT s (l.drop n)).map (· + n):=by
 induction n generalizing l with
 |zero=>simp
 |succ n ih =>
  cases l with
  |nil=>simp[placeT]
  |cons x l =>
   have hx:=h x (by simp)
   have:=ih (l:=l) (fun y hy=>h y (by simp[hy]))
   simp only[placeT,hx,if_false,List.drop_succ_cons,this,Option.map_map]
   congr 1
theorem tm_at {l:List Tm} {i:Nat} (hi:i<l.length):evIdx 2 (l.map Tm.p) (i:Int)=some (.ref [.str l[i].name,.lst (l[i].slots.map Sl.p)]):=idx_of (e:=l[i].p) (map_at hi) rfl
theorem ts_at {l:List Ts} {i:Nat} (hi:i<l.length):evIdx 6 (l.map Ts.p) (i:Int)=some (.ref [.int .i64 (l[i].slot:Int),.bool l[i].no,.str l[i].var,.int .i64 l[i].v.k,.int .i64 l[i].v.i,.str l[i].v.s]):=idx_of (e:=l[i].p) (map_at hi) rfl
theorem rfind_t (s:List UInt8) (l:List Tm) (hl:l.length<4611686018427387904):tupV (callE efns given) (.call 0 f_ref9_Find) [.lst (l.map Tm.p),.str s]=some (.int .i64 (idxI (placeT s l))):=by
 refine call_good (f:=f_ref9_Find) rfl ?_
 rw[callE_fn efns given (c:=e_ref9_Find) rfl rfl]
 simp only[e_ref9_Find,go_sem]
 refine Good.for l.length (fun i fr st=>fr=[.lst (l.map Tm.p),.str s,.int .i64 (i:Int)]/\st=⟨[],[],[],[]⟩ /\ ∀ x∈l.take i,x.name≠s) ?_ ?_ ?_
 ·rintro i fr st hi ⟨rfl,rfl,hh⟩ k hk
  have c1:((i:Int)<(l.length:Int))=True:=eq_true (by omega)
  have hat:=tm_at hi
  by_cases hx:l[i].name=s
  ·simp only[b_ref9_Find_0,go_sem,List.length_map,c1,hat,eq_true hx]
   refine Good.done ?_
   rw[placeT_drop hh,List.drop_eq_getElem_cons hi,placeT,if_pos hx]
   simp[idxI]
   rfl
  ·simp only[b_ref9_Find_0,go_sem,List.length_map,c1,hat,eq_false hx,wrapN (n:=i) (by omega)]
   refine hk _ _ ⟨rfl,rfl,fun x hx' => ?_⟩
   rw[take_succ_at hi,List.mem_append,List.mem_singleton] at hx'
   rcases hx' with hx'|rfl
   ·exact hh x hx'
   ·exact hx
 ·rintro fr st ⟨rfl,rfl,hh⟩ k
  simp only[b_ref9_Find_0,go_sem,List.length_map,Int.lt_irrefl]
  refine Good.done ?_
  rw[placeT_drop hh,List.drop_length]
  rfl
 ·exact⟨rfl,rfl,by simp⟩
theorem rterm0_t (n:Nd) (h8 : ¬ n.k=8) (no:Bool) : ∃ (x:Ts) (b:Bool),tupV (callE efns given) (.call 0 f_ref11_term) [n.p]=some (.tuple [x.p,.bool b])/\x.slot=0/\x.no=false/\coreM no n=if b=true then some { x with no:=no } else none:=by
 have h8':(n.k=8)=False:=eq_false h8
 have run : ∀ (x:Ts) (b:Bool),Good (Ret (.tuple [x.p,.bool b])) (callE efns given f_ref11_term [n.p] ⟨[],[],[],[]⟩)->x.slot=0->x.no=false->coreM no n=(if b=true then some { x with no:=no } else none) ->
   ∃ (x:Ts) (b:Bool),tupV (callE efns given) (.call 0 f_ref11_term) [n.p]=some (.tuple [x.p,.bool b])/\x.slot=0/\x.no=false/\coreM no n=if b=true then some { x with no:=no } else none :=
  fun x b h1 h2 h3 h4=>⟨x,b,call_good (f:=f_ref11_term) (by rw[Nd.p_eq]; rfl) h1,h2,h3,h4⟩
 by_cases h6:n.k=6
 ·refine run ⟨0,false,n.s,zV⟩ true ?_ rfl rfl (by simp[coreM,h6])
  rw[callE_fn efns given (c:=e_ref11_term) rfl rfl,Nd.p_eq]
  simp only[e_ref11_term,go_sem,Nd.cells,eq_true h6,h8']
  exact Good.done rfl
 ·have hv:=value_t n
  rw[Nd.p_eq] at hv
  cases hm:valM n with
  |none =>
   rw[hm] at hv
   simp only[Nd.cells,valV,Vl.p] at hv
   refine run ⟨0,false,[],zV⟩ false ?_ rfl rfl (by simp[coreM,h6,hm])
   rw[callE_fn efns given (c:=e_ref11_term) rfl rfl,Nd.p_eq]
   simp only[e_ref11_term,go_sem,Nd.cells,eq_false h6,h8',hv]
   exact Good.done rfl
  |some w =>
   rw[hm] at hv
   simp only[Nd.cells,valV,Vl.p] at hv
   refine run ⟨0,false,[],w⟩ true ?_ rfl rfl (by simp[coreM,h6,hm])
   rw[callE_fn efns given (c:=e_ref11_term) rfl rfl,Nd.p_eq]
   simp only[e_ref11_term,go_sem,Nd.cells,eq_false h6,h8',hv]
   exact Good.done rfl
theorem rterm_t (n:Nd) (hn:NoN n) : ∃ (x:Ts) (b:Bool),tupV (callE efns given) (.call 0 f_ref11_term) [n.p]=some (.tuple [x.p,.bool b])/\x.slot=0/\termM n=if b=true then some x else none:=by
 by_cases h8:n.k=8
 ·have h8':(n.k=8)=True:=eq_true h8
  have run : ∀ (x:Ts) (b:Bool),Good (Ret (.tuple [x.p,.bool b])) (callE efns given f_ref11_term [n.p] ⟨[],[],[],[]⟩)->x.slot=0->termM n=(if b=true then some x else none) ->
    ∃ (x:Ts) (b:Bool),tupV (callE efns given) (.call 0 f_ref11_term) [n.p]=some (.tuple [x.p,.bool b])/\x.slot=0/\termM n=if b=true then some x else none :=
   fun x b h1 h2 h3=>⟨x,b,call_good (f:=f_ref11_term) (by rw[Nd.p_eq]; rfl) h1,h2,h3⟩
  match hk:n.kids with
  |[x] =>
   obtain⟨y,b,q1,q2,q3,q4⟩:=rterm0_t x (hn x h8 hk) true
   have hat:evIdx 5 [x.p] 0=some (.ref x.cells):=Nd.at_ (l:=[x]) (n:=0) (by simp)
   refine run { y with no:=true } b ?_ q2 (by unfold termM; rw[if_pos h8,hk]; exact q4)
   rw[callE_fn efns given (c:=e_ref11_term) rfl rfl,Nd.p_eq]
   rw[Nd.p_eq] at q1
   simp only[Nd.cells,Ts.p] at hat q1
   simp only[e_ref11_term,go_sem,Nd.cells,h8',hk,List.map_cons,List.map_nil,hat,q1]
   exact Good.done rfl
  |[] =>
   have hv:=value_t n
   have hm:valM n=none:=by unfold valM; rw[if_neg (by omega)]
   rw[Nd.p_eq,hm] at hv
   refine run ⟨0,false,[],zV⟩ false ?_ rfl (by simp[termM,h8,hk])
   rw[callE_fn efns given (c:=e_ref11_term) rfl rfl,Nd.p_eq]
   simp only[Nd.cells,valV,Vl.p,hk,h8,List.map_nil] at hv
   simp only[e_ref11_term,go_sem,Nd.cells,hk,h8,List.map_nil,hv]
   exact Good.done rfl
  |a::b::l =>
   have hv:=value_t n
   have hm:valM n=none:=by unfold valM; rw[if_neg (by omega)]
   rw[Nd.p_eq,hm] at hv
   refine run ⟨0,false,[],zV⟩ false ?_ rfl (by simp[termM,h8,hk])
   rw[callE_fn efns given (c:=e_ref11_term) rfl rfl,Nd.p_eq]
   have c1:(((l.length+2:Nat):Int)=1)=False:=eq_false (by omega)
   simp only[Nd.cells,valV,Vl.p,hk,h8,List.map_cons] at hv
   simp only[e_ref11_term,go_sem,Nd.cells,hk,h8,List.map_cons,List.length_map,hv,c1]
   exact Good.done rfl
 ·obtain⟨y,b,q1,q2,q3,q4⟩:=rterm0_t n h8 false
  refine⟨y,b,q1,q2,?_⟩
  unfold termM
  rw[if_neg h8,q4]
  obtain⟨slot,no,var,v⟩:=y
  simp only at q3
  subst q3
  rfl
def rpparseV:Except (Int × Int) Pt->PV
 |.ok p=>.tuple [p.p,noneW]
 |.error q=>.tuple [zPt.p,wrongV q.1 q.2]
theorem has_take {i:Nat} {l:List Ts} {j:Nat} (hj:j<l.length):hasS i (l.take (j+1))=(hasS i (l.take j)||decide (l[j].slot=i)):=by
 unfold hasS
 rw[take_succ_at hj,List.any_append]
 simp
theorem placeT_find {s:List UInt8} {l:List Tm} {t:Tm} (h:findT s l=some t) : ∃ (i:Nat) (hi:i<l.length),placeT s l=some i/\l[i]=t:=by
 cases hp:placeT s l with
 |none=>rw[placeT_none hp] at h; cases h
 |some i =>
  obtain⟨t',h1,h2⟩:=placeT_some hp
  rw[h] at h2
  cases h2
  obtain⟨hi,h3⟩:=List.getElem?_eq_some_iff.1 h1
  exact⟨i,hi,rfl,h3⟩
theorem placeT_nf {s:List UInt8} {l:List Tm} (h:findT s l=none):placeT s l=none:=by
 cases hp:placeT s l with
 |none=>rfl
 |some i =>
  obtain⟨t',h1,h2⟩:=placeT_some hp
  rw[h] at h2
  cases h2
theorem rpparse_t (n:Nd) (tl:List Tm) (hn:NoN2 n) (hl:n.kids.length<=100000) (htl:tl.length<4611686018427387904) (hts : ∀ t∈tl,t.slots.length<4611686018427387904) :
  tupV (callE efns given) (.call 0 f_ref11_Parse) [n.p,.lst (tl.map Tm.p)]=some (rpparseV (patM tl n)):=by
 have hh:=head_t n
 have hf:=fun p e=>at_t (p:=p) (e:=e)
 simp only[Nd.p_eq n] at hh ⊢
 refine call_good (f:=f_ref11_Parse) rfl ?_
 simp only[Nd.cells] at hh
 simp only[sChar,wrongV] at hf
 unfold patM
 by_cases h1:headM n=[]
 ·have h1':(headM n=[])=True:=eq_true h1
  rw[if_pos h1]
  rw[callE_fn efns given (c:=e_ref11_Parse) rfl rfl]
  simp only[e_ref11_Parse,go_sem,Nd.cells,hh,hf,h1']
  exact Good.done rfl
 ·have h1':(headM n=[])=False:=eq_false h1
  have hfi:=rfind_t (headM n) tl htl
  rw[if_neg h1]
  cases ht:findT (headM n) tl with
  |none =>
   rw[placeT_nf ht] at hfi
   simp only[idxI] at hfi
   rw[callE_fn efns given (c:=e_ref11_Parse) rfl rfl]
   simp only[e_ref11_Parse,go_sem,Nd.cells,hh,hf,h1',hfi]
   exact Good.done rfl
  |some t =>
   obtain⟨ti,hti,hpl,hte⟩:=placeT_find ht
   have htat:=tm_at hti
   rw[hte] at htat
   rw[hpl] at hfi
   simp only[idxI] at hfi
   have c0:((ti:Int)<0)=False:=eq_false (by omega)
   match hk:n.kids with
   |[]=>exact absurd (by unfold headM; rw[hk]; split <;> rfl) h1
   |a::l =>
    rw[hk] at hh hl
    have hnn : ∀ x∈l,∀ y∈x.kids,NoN y:=fun x hx=>hn x (by rw[hk]; exact List.mem_cons_of_mem _ hx)
    simp only[List.map_cons] at hh
    simp only[List.length_cons] at hl
    have hsl:=hts t (findT_mem ht)
    rw[callE_fn efns given (c:=e_ref11_Parse) rfl rfl]
    simp only[e_ref11_Parse,go_sem,Nd.cells,hk,hh,hf,h1',hfi,c0,List.map_cons]
    generalize hnm:headM n=nm at *
    show Good (Ret (rpparseV (patR nm t l []))) _
    refine Good.for l.length (fun i fr st => ∃ out rows rt rest bts ts,fr=[.undef,.lst (tl.map Tm.p),.ptr 0 0,.ptr 1 0,.ptr 2 0,.undef,.int .i64 (ti:Int),.ptr 3 0,.int .i64 ((i+1:Nat):Int)]++List.replicate 26 .undef /\
     st=⟨[[.int .i64 n.k,.int .i64 n.pos,.int .i64 n.i,.str n.s,.lst (a.p::l.map Nd.p)],[.str [],.nils],[.nils,.int .i64 0],[.str nm,out]]++rest,rows,bts,rt⟩ /\
     OutV 6 T_ref11_Parse_0 (ts.map Ts.p) out rows rt/\rt.length=rows.length/\ts.length=i/\patR nm t l []=patR nm t (l.drop i) ts) ?_ ?_ ?_
    ·rintro i fr st hi ⟨out,rows,rt,rest,bts,ts,rfl,rfl,hO,hr,htl,he⟩ k hk2
     have c2:(((i+1:Nat):Int)<((l.length+1:Nat):Int))=True:=eq_true (by omega)
     have hy:=hnn l[i] (List.getElem_mem hi)
     rw[List.drop_eq_getElem_cons hi,patR_cons] at he
     have hat2:evIdx 5 (a.p::l.map Nd.p) ((i+1:Nat):Int)=some (.ref l[i].cells):=by
      have:=Nd.at_ (l:=a::l) (n:=i+1) (by simp; omega)
      simpa using this
     generalize l[i]=y at hy he hat2
     have h6:=head_t y
     rw[Nd.p_eq] at h6
     simp only[Nd.cells] at h6 hat2
     unfold testM at he
     have fin : ∀ e:Int,patR nm t l [] = .error (y.pos,e) -> ∀ st,Good (Ret (rpparseV (patR nm t l []))) (some (.tuple [.agg [.str [],.nils],.agg [.lst [.agg [.str [99,104,97,114],.int .i64 y.pos]],.int .i64 e]],st)):=fun e h st=>by rw[h]; exact Good.done rfl
     by_cases hy0:headM y=[]
     ·rw[if_pos hy0] at he
      simp only[b_ref11_Parse_1,go_sem,List.length_map,c2,hat2,h6,eq_true hy0,hf,ne_eq]
      exact fin 2 he _
     ·rw[if_neg hy0] at he
      match hyk:y.kids with
      |[]=>exact absurd (by unfold headM; rw[hyk]; split <;> rfl) hy0
      |[b] =>
       rw[hyk] at he h6 hat2
       simp only[List.map_cons,List.map_nil] at h6 hat2
       simp only[b_ref11_Parse_1,go_sem,List.length_map,c2,hat2,h6,eq_false hy0,hf,ne_eq]
       exact fin 2 he _
      |b::c::d::m =>
       rw[hyk] at he h6 hat2
       simp only[List.map_cons] at h6 hat2
       have c3:(((m.length+3:Nat):Int)=2)=False:=eq_false (by omega)
       simp only[b_ref11_Parse_1,go_sem,List.length_map,c2,hat2,h6,eq_false hy0,hf,ne_eq,c3]
       exact fin 2 he _
      |[b,c] =>
       rw[hyk] at he h6 hat2
       simp only[List.map_cons,List.map_nil] at h6 hat2
       simp only at he
       have hat4:evIdx 5 [b.p,c.p] 1=some (.ref c.cells):=Nd.at_ (l:=[b,c]) (n:=1) (by simp)
       have h7:=rslot_t t (headM y) hsl
       obtain⟨x,bt,h8,hx0,h9⟩:=rterm_t c (hy c (by rw[hyk]; simp))
       rw[Nd.p_eq] at h8
       simp only[Nd.cells,Tm.p,Ts.p,hx0] at h7 h8 hat4
       unfold slotE at he
       cases hp:placeL (headM y) t.slots with
       |none =>
        rw[hp] at he h7
        simp only[idxI] at h7
        simp only at he
        simp only[b_ref11_Parse_1,go_sem,List.length_map,c2,hat2,h6,eq_false hy0,hf,ne_eq,htat,h7]
        exact fin 5 he _
       |some j =>
        rw[hp] at he h7
        simp only[idxI] at h7
        simp only at he
        have c4:((j:Int)<0)=False:=eq_false (by omega)
        have ho:=hO.len
        rw[List.length_map] at ho
        have hstep : ∀ (e0:Int) (n:Nat),n<ts.length->biV (.idx 6) out (.int .i64 (n:Int))=evIdx 6 (ts.map Ts.p) (n:Int):=fun e0 n hn=>hO.idx (by simpa using hn)
        have fr1 : ∀ (e0:Int) (n:Nat) (hn:n<ts.length),(if hasS j (ts.take (n+1))=true then (6:Int) else e0)=if ts[n].slot=j then 6 else if hasS j (ts.take n)=true then 6 else e0:=by
         intro e0 n hn
         rw[has_take hn]
         by_cases hh:ts[n].slot=j
         ·simp[hh]
         ·simp[hh]
        cases bt with
        |false =>
         simp only[Bool.false_eq_true,if_false] at h9
         rw[h9] at he
         simp only[b_ref11_Parse_1,go_sem,List.length_map,c2,hat2,h6,eq_false hy0,hf,ne_eq,htat,h7,c4,hat4,h8]
         refine Good.forF ts.length (fun n=>[.undef,.lst (tl.map Tm.p),.ptr 0 0,.ptr 1 0,.ptr 2 0,.undef,.int .i64 (ti:Int),.ptr 3 0,.int .i64 ((i+1:Nat):Int),.ptr (rest.length+4) 0,.int .i64 (if hasS j (ts.take n)=true then 6 else 2),.ptr (rest.length+5) 0,.undef,.int .i64 (n:Int)]++List.replicate 21 .undef) ?_ ?_ rfl
         ·intro n hn k hk
          have c5:((n:Int)<(ts.length:Int))=True:=eq_true (by omega)
          have hat5:=ts_at hn
          rw[fr1 2 n hn] at hk
          by_cases hh:ts[n].slot=j
          ·have c6:((ts[n].slot:Int)=(j:Int))=True:=eq_true (by omega)
           rw[if_pos hh] at hk
           simp only[b_ref11_Parse_0,go_sem,ho,c5,hstep 2 n hn,hat5,c6,wrapN (n:=n) (by omega)]
           exact hk
          ·have c6:((ts[n].slot:Int)=(j:Int))=False:=eq_false (by omega)
           rw[if_neg hh] at hk
           simp only[b_ref11_Parse_0,go_sem,ho,c5,hstep 2 n hn,hat5,c6,wrapN (n:=n) (by omega)]
           exact hk
         ·intro k
          rw[List.take_length]
          cases hh6:hasS j ts with
          |true =>
           rw[hh6] at he
           simp only[if_true] at he
           simp only[b_ref11_Parse_0,go_sem,ho,Int.lt_irrefl,ne_eq,hf]
           exact fin 6 he _
          |false =>
           rw[hh6] at he
           simp only[Bool.false_eq_true,if_false] at he
           simp only[b_ref11_Parse_0,go_sem,ho,Int.lt_irrefl,ne_eq,hf]
           exact fin 2 he _
        |true =>
         simp only[if_true] at h9
         rw[h9] at he
         simp only[b_ref11_Parse_1,go_sem,List.length_map,c2,hat2,h6,eq_false hy0,hf,ne_eq,htat,h7,c4,hat4,h8]
         refine Good.forF ts.length (fun n=>[.undef,.lst (tl.map Tm.p),.ptr 0 0,.ptr 1 0,.ptr 2 0,.undef,.int .i64 (ti:Int),.ptr 3 0,.int .i64 ((i+1:Nat):Int),.ptr (rest.length+4) 0,.int .i64 (if hasS j (ts.take n)=true then 6 else 0),.ptr (rest.length+5) 0,.undef,.int .i64 (n:Int)]++List.replicate 21 .undef) ?_ ?_ rfl
         ·intro n hn k hk
          have c5:((n:Int)<(ts.length:Int))=True:=eq_true (by omega)
          have hat5:=ts_at hn
          rw[fr1 0 n hn] at hk
          by_cases hh:ts[n].slot=j
          ·have c6:((ts[n].slot:Int)=(j:Int))=True:=eq_true (by omega)
           rw[if_pos hh] at hk
           simp only[b_ref11_Parse_0,go_sem,ho,c5,hstep 2 n hn,hat5,c6,wrapN (n:=n) (by omega)]
           exact hk
          ·have c6:((ts[n].slot:Int)=(j:Int))=False:=eq_false (by omega)
           rw[if_neg hh] at hk
           simp only[b_ref11_Parse_0,go_sem,ho,c5,hstep 2 n hn,hat5,c6,wrapN (n:=n) (by omega)]
           exact hk
         ·intro k
          rw[List.take_length]
          cases hh6:hasS j ts with
          |true =>
           rw[hh6] at he
           simp only[if_true] at he
           simp only[b_ref11_Parse_0,go_sem,ho,Int.lt_irrefl,ne_eq,hf]
           exact fin 6 he _
          |false =>
           rw[hh6] at he
           simp only[Bool.false_eq_true,if_false] at he
           obtain⟨out',rows',rt',ap,hO',hr',_⟩:=hO.app1 (b:=64) hr (e:=Ts.p { x with slot:=j }) rfl (by simp; omega)
           simp only[Ts.p] at ap
           simp only[b_ref11_Parse_0,go_sem,ho,Int.lt_irrefl,ne_eq,hf,ap,hO'.cells,hO'.cell,wrapN (n:=i+1) (by omega)]
           refine hk2 _ _ ⟨out',rows',rt',_,_,ts++[{ x with slot:=j }],rfl,rfl,?_,hr',by simp[htl],he⟩
           rw[List.map_append,List.map_singleton]
           exact hO'
    ·rintro fr st ⟨out,rows,rt,rest,bts,ts,rfl,rfl,hO,hr,ht,he⟩ k
     have c2:(((l.length+1:Nat):Int)<((l.length+1:Nat):Int))=False:=eq_false (by omega)
     simp only[b_ref11_Parse_1,go_sem,List.length_map,c2,Int.lt_irrefl,hO.cells,hO.cell]
     refine Good.done ?_
     rw[List.drop_length] at he
     rw[he]
     exact ret_tup (mS (shutR_agg (mS rfl (mS (hO.shutR _ _) mN))) (mS rfl mN))
    ·exact⟨.nils,[],[],[],_,[],by simp,rfl,.nils,rfl,rfl,rfl⟩
end Go.Proofs.YtdhhaipppjgicaaGreatDoorPe.Patf
set_option linter.unusedVariables false
set_option linter.unusedSimpArgs false
set_option maxRecDepth 100000
namespace Go.Proofs.YtdhhaipppjgicaaGreatDoorPe.Patf
open Go Go.Proofs Go.Proofs.YtdhhaipppjgicaaGreatDoorPe Go.Proofs.YtdhhaipppjgicaaGreatDoorPe.PatfCode
theorem pto_t (p:Pt) (hl:p.tests.length<=100000):tupV (callE efns given) (.call 0 f_law11_To) [p.p]=some p.p:=by
 refine call_good (f:=f_law11_To) rfl ?_
 rw[callE_fn efns given (c:=e_law11_To) rfl rfl]
 simp only[e_law11_To,go_sem,Pt.p]
 refine Good.for p.tests.length (fun n fr st => ∃ out rows rt rest bts,fr=[.undef,.ptr 0 0,.ptr 1 0,.ptr 2 0,.int .i64 (n:Int)]++List.replicate 11 .undef /\
  st=⟨[[.str p.t,.lst (p.tests.map Ts.p)],[.str [],.nils],[.str p.t,out]]++rest,rows,bts,rt⟩/\OutV 6 T_law11_To_0 ((p.tests.take n).map Ts.p) out rows rt/\rt.length=rows.length) ?_ ?_ ?_
 ·rintro n fr st hn ⟨out,rows,rt,rest,bts,rfl,rfl,hO,hr⟩ k hk
  have c1:((n:Int)<(p.tests.length:Int))=True:=eq_true (by omega)
  have hat:=ts_at hn
  obtain⟨out',rows',rt',ap,hO',hr',_⟩:=hO.app1 (b:=64) hr (e:=p.tests[n].p) rfl (by simp; omega)
  simp only[Ts.p] at ap
  simp only[b_law11_To_0,go_sem,hat,List.length_map,c1,ap,hO'.cells,hO'.cell,wrapN (n:=n) (by omega)]
  refine hk _ _ ⟨out',rows',rt',_,_,rfl,rfl,?_,hr'⟩
  rw[take_succ_at hn,List.map_append,List.map_singleton]
  exact hO'
 ·rintro fr st ⟨out,rows,rt,rest,bts,rfl,rfl,hO,hr⟩ k
  simp only[b_law11_To_0,go_sem,List.length_map,Int.lt_irrefl,hO.cells,hO.cell]
  refine Good.done ?_
  rw[List.take_length] at hO
  exact ret_agg (mS rfl (mS (hO.shutR _ _) mN))
 ·exact⟨.nils,[],[],[],_,rfl,rfl,.nils,rfl⟩
def twoT:List Tm:=[⟨[112],[⟨[97],nilW⟩,⟨[98],nilW⟩]⟩,⟨[113],[⟨[97],nilW⟩]⟩]
theorem ptwo_t:tupV (callE efns given) (.call 0 f_law11_Two) []=some (.lst (twoT.map Tm.p)):=by
 refine call_good (f:=f_law11_Two) rfl ?_
 rw[callE_fn efns given (c:=e_law11_Two) rfl rfl]
 have h:=rsymv_t [110,105,108]
 simp only[Vl.p] at h
 simp only[e_law11_Two,go_sem,h]
 exact Good.done rfl
theorem twoT_slots : ∀ t∈twoT,t.slots.length<=2:=by
 intro t ht
 simp only[twoT,List.mem_cons,List.not_mem_nil,or_false] at ht
 rcases ht with rfl|rfl <;> simp
end Go.Proofs.YtdhhaipppjgicaaGreatDoorPe.Patf
set_option linter.unusedVariables false
set_option linter.unusedSimpArgs false
set_option maxRecDepth 100000
namespace Go.Proofs.YtdhhaipppjgicaaGreatDoorPe.Patf
open Go Go.Proofs Go.Proofs.YtdhhaipppjgicaaGreatDoorPe Go.Proofs.YtdhhaipppjgicaaGreatDoorPe.PatfCode
theorem lastB_snoc (s:List UInt8) (b:Bi) : ∀ l:List Bi,lastB s (l++[b])=if b.n=s then some b.v else lastB s l
 |[]=>by
  simp only[List.nil_append,lastB]
 |c::l=>by
  rw[List.cons_append,lastB,lastB_snoc s b l]
  by_cases h:b.n=s
  ·simp[h]
  ·simp only[h,if_false,lastB]
theorem lastB_take {s:List UInt8} {l:List Bi} : ∀ (d:Nat),d<=l.length->(∀ x∈l.drop (l.length-d),x.n≠s)->lastB s l=lastB s (l.take (l.length-d))
 |0,_,_=>by simp
 |d+1,hd,h=>by
  have hm:l.length-(d+1)<l.length:=by omega
  have e:l.length-d=l.length-(d+1)+1:=by omega
  have hdr:l.drop (l.length-(d+1))=l[l.length-(d+1)]::l.drop (l.length-d):=by rw[e]; exact List.drop_eq_getElem_cons hm
  have ih:=lastB_take (s:=s) (l:=l) d (by omega) (fun x hx=>h x (by rw[hdr]; exact List.mem_cons_of_mem _ hx))
  rw[ih,e,take_succ_at hm,lastB_snoc,if_neg (h _ (by rw[hdr]; exact List.mem_cons_self ..))]
theorem bi_at {l:List Bi} {i:Nat} (hi:i<l.length):evIdx 4 (l.map Bi.p) (i:Int)=some (.ref [.str l[i].n,.int .i64 l[i].v.k,.int .i64 l[i].v.i,.str l[i].v.s]):=idx_of (e:=l[i].p) (map_at hi) rfl
theorem rget_t (l:List Bi) (s:List UInt8) (hl:l.length<4611686018427387904):tupV (callE efns given) (.call 0 f_ref7_Get) [.lst (l.map Bi.p),.str s]=some (atV (lastB s l)):=by
 refine call_good (f:=f_ref7_Get) rfl ?_
 rw[callE_fn efns given (c:=e_ref7_Get) rfl rfl]
 simp only[e_ref7_Get,go_sem,List.length_map,IntWalk.i64_in (n:=(l.length:Int)-1) (by omega)]
 refine Good.for l.length (fun n fr st=>fr=[.lst (l.map Bi.p),.str s,.ptr 0 0,.int .i64 (((l.length-n:Nat):Int)-1)]/\st=⟨[[.int .i64 0,.int .i64 0,.str []]],[],[T_ref7_Get_0],[]⟩ /\ ∀ x∈l.drop (l.length-n),x.n≠s) ?_ ?_ ?_
 ·rintro n fr st hn ⟨rfl,rfl,hh⟩ k hk
  obtain⟨m,hm⟩ : ∃ m,l.length-n=m+1:=⟨l.length-n-1,by omega⟩
  have hm':l.length-(n+1)=m:=by omega
  have e1:(((m+1:Nat):Int)-1)=(m:Int):=by omega
  have hml:m<l.length:=by omega
  have c1:((m:Int)>=0)=True:=eq_true (by omega)
  have hat:=bi_at hml
  rw[hm,e1]
  rw[hm'] at hk
  rw[hm] at hh
  by_cases hx:l[m].n=s
  ·have hr:=lastB_take (s:=s) (l:=l) n (by omega) (by rw[hm]; exact hh)
   rw[hm,take_succ_at hml,lastB_snoc,if_pos hx] at hr
   simp only[b_ref7_Get_0,go_sem,c1,hat,eq_true hx]
   refine Good.done ?_
   rw[hr]
   rfl
  ·simp only[b_ref7_Get_0,go_sem,c1,hat,eq_false hx,IntWalk.i64_in (n:=(m:Int)-1) (by omega)]
   refine hk _ _ ⟨rfl,rfl,fun x hx' => ?_⟩
   rw[List.drop_eq_getElem_cons hml] at hx'
   rcases List.mem_cons.1 hx' with rfl|hx'
   ·exact hx
   ·exact hh x hx'
 ·rintro fr st ⟨rfl,rfl,hh⟩ k
  rw[Nat.sub_self] at hh ⊢
  have hr:=lastB_take (s:=s) (l:=l) l.length (Nat.le_refl _) (by rw[Nat.sub_self]; exact hh)
  rw[Nat.sub_self,List.take_zero] at hr
  have c1:(((0:Nat):Int)-1>=0)=False:=eq_false (by omega)
  simp only[b_ref7_Get_0,go_sem,c1,show ((0:Int)-1>=0)=False from eq_false (by omega)]
  refine Good.done ?_
  rw[hr]
  rfl
 ·exact⟨by simp,rfl,by simp⟩
def rmatchV:Option (List Bi)->PV
 |some l=>.tuple [.lst (l.map Bi.p),.bool true]
 |none=>.tuple [.lst [],.bool false]
theorem rmatch_t (p:Pt) (f:Fa) (env:List Bi) (hl:env.length<=10000) (hp:p.tests.length<=10000) :
  tupV (callE efns given) (.call 0 f_ref11_Pattern_Match) [p.p,f.p,.lst (env.map Bi.p)]=some (rmatchV (matchM p f.t f.vals env)):=by
 refine call_good (f:=f_ref11_Pattern_Match) rfl ?_
 rw[callE_fn efns given (c:=e_ref11_Pattern_Match) rfl rfl]
 unfold matchM
 by_cases ht:f.t=p.t
 ·rw[if_pos ht]
  have hO0:OutV 4 T_ref11_Pattern_Match_0 [] .emp [] []:=.inl ⟨rfl,rfl⟩
  obtain⟨o1,r1,t1,a1,hO1,hr1,_⟩:=hO0.app (b:=48) rfl (es:=env.map Bi.p) (bi_sz env) (by simp; omega)
  simp only[go_sem] at a1
  simp only[e_ref11_Pattern_Match,go_sem,Pt.p,Fa.p,eq_true ht,ne_eq,a1,List.length_map]
  refine Good.for p.tests.length (fun i fr st => ∃ out rows rt rest bts o,fr=[.undef,.undef,.undef,.ptr 0 0,.ptr 1 0,out,.int .i64 (i:Int)]++List.replicate 26 .undef /\
   st=⟨[[.str p.t,.lst (p.tests.map Ts.p)],[.int .i64 f.id,.str f.t,.lst (f.vals.map Vl.p)]]++rest,rows,bts,rt⟩ /\
   OutV 4 T_ref11_Pattern_Match_0 (o.map Bi.p) out rows rt/\rt.length=rows.length/\o.length<=10000+i/\stepsB f.vals p.tests env=stepsB f.vals (p.tests.drop i) o) ?_ ?_ ?_
  ·rintro i fr st hi ⟨out,rows,rt,rest,bts,o,rfl,rfl,hO,hr,hol,hh⟩ k hk
   have c1:((i:Int)<(p.tests.length:Int))=True:=eq_true (by omega)
   have hat:=ts_at hi
   rw[List.drop_eq_getElem_cons hi,stepsB] at hh
   generalize p.tests[i]=x at hat hh
   have c2:((x.slot:Int)<0)=False:=eq_false (by omega)
   have fin:stepsB f.vals p.tests env=none -> ∀ st,Good (Ret (rmatchV (stepsB f.vals p.tests env))) (some (.tuple [.nils,.bool false],st)):=fun h st=>by rw[h]; exact Good.done rfl
   have go:stepsB f.vals p.tests env=stepsB f.vals (p.tests.drop (i+1)) o -> ∀ rest' bts',Good (Ret (rmatchV (stepsB f.vals p.tests env))) (k ([.undef,.undef,.undef,.ptr 0 0,.ptr 1 0,out,.int .i64 ((i+1:Nat):Int)]++List.replicate 26 .undef)
     ⟨[[.str p.t,.lst (p.tests.map Ts.p)],[.int .i64 f.id,.str f.t,.lst (f.vals.map Vl.p)]]++rest',rows,bts',rt⟩):=fun h rest' bts'=>hk _ _ ⟨out,rows,rt,rest',bts',o,rfl,rfl,hO,hr,by omega,h⟩
   unfold stepB at hh
   cases hv:f.vals[x.slot]? with
   |none =>
    rw[hv] at hh
    have c3:((x.slot:Int)>=(f.vals.length:Int))=True:=eq_true (by have:=List.getElem?_eq_none_iff.1 hv; omega)
    simp only[b_ref11_Pattern_Match_0,go_sem,List.length_map,c1,hat,c2,c3]
    exact fin hh _
   |some v =>
    rw[hv] at hh
    have c3:((x.slot:Int)>=(f.vals.length:Int))=False:=eq_false (by have:=(List.getElem?_eq_some_iff.1 hv).1; omega)
    have ha:=vl_at hv
    simp only at hh
    by_cases hx:x.var=[]
    ·rw[if_pos hx] at hh
     have hs:=rvsame_t v x.v
     generalize hd:decide (v=x.v)=d at hs hh
     simp only[Vl.p] at hs
     by_cases hd2:d=x.no
     ·rw[if_pos hd2] at hh
      have hd3:(d==x.no)=true:=by simp[hd2]
      simp only[b_ref11_Pattern_Match_0,go_sem,List.length_map,c1,hat,c2,c3,ha,eq_true hx,ne_eq,hs,hd3]
      exact fin hh _
     ·rw[if_neg hd2] at hh
      have hd3:(d==x.no)=false:=by simp[hd2]
      simp only[b_ref11_Pattern_Match_0,go_sem,List.length_map,c1,hat,c2,c3,ha,eq_true hx,ne_eq,hs,hd3,wrapN (n:=i) (by omega)]
      exact go hh _ _
    ·rw[if_neg hx] at hh
     have hg:tupV (callE efns given) (.call 0 f_ref7_Get) [out,.str x.var]=some (atV (lastB x.var o)):=by
      rw[<- rget_t o x.var (by omega)]
      exact tup_shut (by rw[argF_0]; exact (mS (hO.shutA _) (mS rfl mN)).trans rfl)
     cases hb:lastB x.var o with
     |some w =>
      rw[hb] at hg hh
      simp only[atV] at hg
      simp only at hh
      have hs:=rvsame_t v w
      generalize hd:decide (v=w)=d at hs hh
      simp only[Vl.p] at hs
      by_cases hd2:d=x.no
      ·rw[if_pos hd2] at hh
       have hd3:(d==x.no)=true:=by simp[hd2]
       simp only[b_ref11_Pattern_Match_0,go_sem,List.length_map,c1,hat,c2,c3,ha,eq_false hx,ne_eq,hg,hs,hd3]
       exact fin hh _
      ·rw[if_neg hd2] at hh
       have hd3:(d==x.no)=false:=by simp[hd2]
       simp only[b_ref11_Pattern_Match_0,go_sem,List.length_map,c1,hat,c2,c3,ha,eq_false hx,ne_eq,hg,hs,hd3,wrapN (n:=i) (by omega)]
       exact go hh _ _
     |none =>
      rw[hb] at hg hh
      simp only[atV] at hg
      simp only at hh
      cases hno:x.no with
      |true =>
       rw[hno,if_pos rfl] at hh
       simp only[b_ref11_Pattern_Match_0,go_sem,List.length_map,c1,hat,c2,c3,ha,eq_false hx,ne_eq,hg,hno]
       exact fin hh _
      |false =>
       rw[hno,if_neg (by simp)] at hh
       obtain⟨out',rows',rt',ap,hO',hr',_⟩:=hO.app1 (b:=48) hr (e:=Bi.p ⟨x.var,v⟩) rfl (by simp; omega)
       simp only[Bi.p] at ap
       simp only[b_ref11_Pattern_Match_0,go_sem,List.length_map,c1,hat,c2,c3,ha,eq_false hx,ne_eq,hg,hno,ap,wrapN (n:=i) (by omega)]
       refine hk _ _ ⟨out',rows',rt',_,_,o++[⟨x.var,v⟩],rfl,rfl,?_,hr',by simp; omega,hh⟩
       rw[List.map_append,List.map_singleton]
       exact hO'
  ·rintro fr st ⟨out,rows,rt,rest,bts,o,rfl,rfl,hO,hr,hol,hh⟩ k
   simp only[b_ref11_Pattern_Match_0,go_sem,List.length_map,Int.lt_irrefl]
   refine Good.done ?_
   rw[List.drop_length] at hh
   rw[hh]
   exact ret_tup (mS (hO.shutR _ _) (mS rfl mN))
  ·exact⟨_,_,_,[],_,env,rfl,rfl,hO1,hr1,by omega,rfl⟩
 ·rw[if_neg ht]
  simp only[e_ref11_Pattern_Match,go_sem,Pt.p,Fa.p,eq_false ht,ne_eq]
  exact Good.done rfl
theorem ralone_t (p:Pt) (f:Fa) (hp:p.tests.length<=10000):tupV (callE efns given) (.call 0 f_ref11_Pattern_Alone) [p.p,f.p]=some (.bool (aloneM p f.t f.vals)):=by
 refine call_good (f:=f_ref11_Pattern_Alone) rfl ?_
 rw[callE_fn efns given (c:=e_ref11_Pattern_Alone) rfl rfl]
 unfold aloneM
 by_cases ht:f.t=p.t
 ·rw[decide_eq_true ht,Bool.true_and]
  simp only[e_ref11_Pattern_Alone,go_sem,Pt.p,Fa.p,eq_true ht,ne_eq,List.length_map]
  refine Good.for p.tests.length (fun i fr st => ∃ rest bts,fr=[.undef,.undef,.ptr 0 0,.ptr 1 0,.int .i64 (i:Int)]++List.replicate 22 .undef /\
   st=⟨[[.str p.t,.lst (p.tests.map Ts.p)],[.int .i64 f.id,.str f.t,.lst (f.vals.map Vl.p)]]++rest,[],bts,[]⟩/\p.tests.all (aloneT f.vals)=(p.tests.drop i).all (aloneT f.vals)) ?_ ?_ ?_
  ·rintro i fr st hi ⟨rest,bts,rfl,rfl,hh⟩ k hk
   have c1:((i:Int)<(p.tests.length:Int))=True:=eq_true (by omega)
   have hat:=ts_at hi
   rw[List.drop_eq_getElem_cons hi,List.all_cons] at hh
   generalize p.tests[i]=x at hat hh
   have c2:((x.slot:Int)<0)=False:=eq_false (by omega)
   have fin:p.tests.all (aloneT f.vals)=false -> ∀ st,Good (Ret (.bool (p.tests.all (aloneT f.vals)))) (some (.bool false,st)):=fun h st=>by rw[h]; exact Good.done rfl
   cases hv:f.vals[x.slot]? with
   |none =>
    rw[show aloneT f.vals x=false from by unfold aloneT; rw[hv],Bool.false_and] at hh
    have c3:((x.slot:Int)>=(f.vals.length:Int))=True:=eq_true (by have:=List.getElem?_eq_none_iff.1 hv; omega)
    simp only[b_ref11_Pattern_Alone_0,go_sem,List.length_map,c1,hat,c2,c3]
    exact fin hh _
   |some v =>
    rw[show aloneT f.vals x = !(decide (x.var=[])&&(decide (v=x.v)==x.no)) from by unfold aloneT; rw[hv]] at hh
    have c3:((x.slot:Int)>=(f.vals.length:Int))=False:=eq_false (by have:=(List.getElem?_eq_some_iff.1 hv).1; omega)
    have ha:=vl_at hv
    by_cases hx:x.var=[]
    ·have hs:=rvsame_t v x.v
     generalize hd:decide (v=x.v)=d at hs hh
     simp only[Vl.p] at hs
     rw[decide_eq_true hx,Bool.true_and] at hh
     by_cases hd2:d=x.no
     ·have hd3:(d==x.no)=true:=by simp[hd2]
      rw[hd3,Bool.not_true,Bool.false_and] at hh
      simp only[b_ref11_Pattern_Alone_0,go_sem,List.length_map,c1,hat,c2,c3,ha,eq_true hx,ne_eq,hs,hd3]
      exact fin hh _
     ·have hd3:(d==x.no)=false:=by simp[hd2]
      rw[hd3,Bool.not_false,Bool.true_and] at hh
      simp only[b_ref11_Pattern_Alone_0,go_sem,List.length_map,c1,hat,c2,c3,ha,eq_true hx,ne_eq,hs,hd3,wrapN (n:=i) (by omega)]
      exact hk _ _ ⟨_,_,rfl,rfl,hh⟩
    ·rw[decide_eq_false hx,Bool.false_and,Bool.not_false,Bool.true_and] at hh
     simp only[b_ref11_Pattern_Alone_0,go_sem,List.length_map,c1,hat,c2,c3,eq_false hx,ne_eq,wrapN (n:=i) (by omega)]
     exact hk _ _ ⟨_,_,rfl,rfl,hh⟩
  ·rintro fr st ⟨rest,bts,rfl,rfl,hh⟩ k
   simp only[b_ref11_Pattern_Alone_0,go_sem,List.length_map,Int.lt_irrefl]
   refine Good.done ?_
   rw[hh,List.drop_length]
   rfl
  ·exact⟨[],_,rfl,rfl,rfl⟩
 ·rw[decide_eq_false ht,Bool.false_and]
  simp only[e_ref11_Pattern_Alone,go_sem,Pt.p,Fa.p,eq_false ht,ne_eq]
  exact Good.done rfl
theorem EnvV.sl {l:List Bi} {e:PV} (h:EnvV l e):SlV (l.map Bi.p) e:=by
 rcases h with ⟨rfl,rfl⟩|⟨rfl,rfl⟩|⟨rfl,rfl⟩|⟨rfl,_⟩ <;> rfl
theorem binds_t (l:List Bi) (hl:l.length<=100000):tupV (callE efns given) (.call 0 f_law8_Binds) [.lst (l.map Bi.p)]=some (.lst (l.map Bi.p)):=by
 refine call_good (f:=f_law8_Binds) rfl ?_
 rw[callE_fn efns given (c:=e_law8_Binds) rfl rfl]
 simp only[e_law8_Binds,go_sem]
 refine Good.for l.length (fun n fr st => ∃ out rows rt,fr=[.lst (l.map Bi.p),out,.int .i64 (n:Int),.undef]/\st=⟨[],rows,[],rt⟩/\OutV 4 T_law8_Binds_0 ((l.take n).map Bi.p) out rows rt/\rt.length=rows.length) ?_ ?_ ?_
 ·rintro n fr st hn ⟨out,rows,rt,rfl,rfl,hO,hr⟩ k hk
  have c1:((n:Int)<(l.length:Int))=True:=eq_true (by omega)
  have hat:=bi_at hn
  obtain⟨out',rows',rt',ap,hO',hr',_⟩:=hO.app1 (b:=48) hr (e:=l[n].p) rfl (by simp; omega)
  simp only[Bi.p] at ap
  simp only[b_law8_Binds_0,go_sem,hat,List.length_map,c1,ap,wrapN (n:=n) (by omega)]
  refine hk _ _ ⟨out',rows',rt',rfl,rfl,?_,hr'⟩
  rw[take_succ_at hn,List.map_append,List.map_singleton]
  exact hO'
 ·rintro fr st ⟨out,rows,rt,rfl,rfl,hO,hr⟩ k
  simp only[b_law8_Binds_0,go_sem,List.length_map,Int.lt_irrefl]
  refine Good.done ?_
  rw[List.take_length] at hO
  exact hO.shutR _ _
 ·exact⟨.nils,[],[],rfl,rfl,.nils,rfl⟩
theorem same8_t (l:List Bi) (hl:l.length<4611686018427387904):tupV (callE efns given) (.call 0 f_law8_Same) [.lst (l.map Bi.p),.lst (l.map Bi.p)]=some (.bool true):=by
 refine call_good (f:=f_law8_Same) rfl ?_
 rw[callE_fn efns given (c:=e_law8_Same) rfl rfl]
 simp only[e_law8_Same,go_sem,List.length_map,ne_eq]
 refine Good.for l.length (fun n fr st=>fr=[.lst (l.map Bi.p),.lst (l.map Bi.p),.int .i64 (n:Int)]/\st=⟨[],[],[],[]⟩) ?_ ?_ ?_
 ·rintro n fr st hn ⟨rfl,rfl⟩ k hk
  have c1:((n:Int)<(l.length:Int))=True:=eq_true (by omega)
  have hat:=bi_at hn
  have hv:=rvsame_t l[n].v l[n].v
  rw[decide_eq_true rfl] at hv
  simp only[Vl.p] at hv
  simp only[b_law8_Same_0,go_sem,hat,List.length_map,c1,ne_eq,hv,wrapN (n:=n) (by omega)]
  exact hk _ _ ⟨rfl,rfl⟩
 ·rintro fr st ⟨rfl,rfl⟩ k
  simp only[b_law8_Same_0,go_sem,List.length_map,Int.lt_irrefl]
  exact Good.done rfl
 ·exact⟨rfl,rfl⟩
theorem right8_t (l:List Bi) (hs : ∀ b∈l,b.v.s.length<=9223372036854775807) : ∃ b,tupV (callE efns given) (.call 0 f_law8_Right) [.lst (l.map Bi.p)]=some (.bool b)/\(b=true->l.length<=30):=by
 by_cases hl:l.length>30
 ·have c0:((l.length:Int)>30)=True:=eq_true (by omega)
  refine⟨false,?_,fun h=>by cases h⟩
  refine call_good (f:=f_law8_Right) rfl ?_
  rw[callE_fn efns given (c:=e_law8_Right) rfl rfl]
  simp only[e_law8_Right,go_sem,List.length_map,c0]
  exact Good.done rfl
 ·have c0:((l.length:Int)>30)=False:=eq_false (by omega)
  have key:Good (RetQ fun r => ∃ b,r = .bool b) (callE efns given f_law8_Right [.lst (l.map Bi.p)] ⟨[],[],[],[]⟩):=by
   rw[callE_fn efns given (c:=e_law8_Right) rfl rfl]
   simp only[e_law8_Right,go_sem,List.length_map,c0]
   refine Good.for l.length (fun n fr st=>fr=[.lst (l.map Bi.p),.int .i64 (n:Int),.undef]/\st=⟨[],[],[],[]⟩) ?_ ?_ ?_
   ·rintro n fr st hn ⟨rfl,rfl⟩ k hk
    have c1:((n:Int)<(l.length:Int))=True:=eq_true (by omega)
    have hat:=bi_at hn
    have hb:=rightM_t l[n].v (hs _ (List.getElem_mem hn))
    generalize rightM l[n].v=b at hb
    simp only[Vl.p] at hb
    have fin : ∀ st,Good (RetQ fun r => ∃ b,r = .bool b) (some (.bool false,st)):=fun st=>Good.done ⟨_,rfl,_,rfl⟩
    cases b with
    |false =>
     simp only[b_law8_Right_1,go_sem,hat,List.length_map,c1,hb]
     exact fin _
    |true =>
     by_cases h1:l[n].n.length<=100
     ·have c2:((l[n].n.length:Int)>100)=False:=eq_false (by omega)
      simp only[b_law8_Right_1,go_sem,hat,List.length_map,c1,hb,c2]
      refine Good.for n (fun m fr st=>fr=[.lst (l.map Bi.p),.int .i64 (n:Int),.int .i64 (m:Int)]/\st=⟨[],[],[],[]⟩) ?_ ?_ ?_
      ·rintro m fr st hm ⟨rfl,rfl⟩ k2 hk2
       have c3:((m:Int)<(n:Int))=True:=eq_true (by omega)
       have hat2:=bi_at (l:=l) (i:=m) (by omega)
       by_cases h2:l[m].n=l[n].n
       ·simp only[b_law8_Right_0,go_sem,hat,hat2,c3,eq_true h2]
        exact fin _
       ·simp only[b_law8_Right_0,go_sem,hat,hat2,c3,eq_false h2,wrapN (n:=m) (by omega)]
        exact hk2 _ _ ⟨rfl,rfl⟩
      ·rintro fr st ⟨rfl,rfl⟩ k2
       simp only[b_law8_Right_0,go_sem,Int.lt_irrefl,wrapN (n:=n) (by omega)]
       exact hk _ _ ⟨rfl,rfl⟩
      ·exact⟨rfl,rfl⟩
     ·have c2:((l[n].n.length:Int)>100)=True:=eq_true (by omega)
      simp only[b_law8_Right_1,go_sem,hat,List.length_map,c1,hb,c2]
      exact fin _
   ·rintro fr st ⟨rfl,rfl⟩ k
    simp only[b_law8_Right_1,go_sem,List.length_map,Int.lt_irrefl]
    exact Good.done ⟨_,rfl,_,rfl⟩
   ·exact⟨rfl,rfl⟩
  obtain⟨r,h1,b,rfl⟩:=call_someG (vs:=[.lst (l.map Bi.p)]) rfl key
  exact⟨b,h1,fun _=>by omega⟩
theorem of10_t (f:Fa):tupV (callE efns given) (.call 0 f_law10_Of) [.lst [f.p]]=some (.lst [f.p]):=by
 refine call_good (f:=f_law10_Of) rfl ?_
 rw[callE_fn efns given (c:=e_law10_Of) rfl rfl]
 have hat:evIdx 3 [f.p] 0=some (.ref [.int .i64 f.id,.str f.t,.lst (f.vals.map Vl.p)]):=idx_of (l:=[f.p]) (i:=0) (e:=f.p) rfl rfl
 obtain⟨o1,r1,t1,a1,hO1,hr1,_⟩:=(OutV.nils (n:=3) (T:=T_law10_Of_0) (rows:=[]) (rt:=[])).app1 (b:=48) rfl (e:=f.p) rfl (by decide)
 simp only[Fa.p] at hat a1
 simp only[go_sem] at a1
 have hl:=hO1.len
 simp only[e_law10_Of,go_sem]
 rw[runL_1]
 simp only[b_law10_Of_0,go_sem,Fa.p,hat,a1,show IntKind.i64.wrap (0+1)=1 from rfl,show IntKind.i64.wrap 1=1 from rfl]
 rw[runL_1]
 simp only[b_law10_Of_0,go_sem]
 exact Good.done (hO1.shutR _ _)
end Go.Proofs.YtdhhaipppjgicaaGreatDoorPe.Patf
set_option linter.unusedVariables false
set_option linter.unusedSimpArgs false
set_option maxRecDepth 100000
namespace Go.Proofs.YtdhhaipppjgicaaGreatDoorPe.Patf
open Go Go.Proofs Go.Proofs.YtdhhaipppjgicaaGreatDoorPe Go.Proofs.YtdhhaipppjgicaaGreatDoorPe.PatfCode
end Go.Proofs.YtdhhaipppjgicaaGreatDoorPe.Patf
set_option linter.unusedVariables false
set_option linter.unusedSimpArgs false
set_option maxRecDepth 100000
namespace Go.Proofs.YtdhhaipppjgicaaGreatDoorPe.Patf
open Go Go.Proofs Go.Proofs.YtdhhaipppjgicaaGreatDoorPe Go.Proofs.YtdhhaipppjgicaaGreatDoorPe.PatfCode
theorem Wf.noN {x:Nd} (h:Wf x):NoN x:=by
 intro y h8 hk
 cases h with
 |leaf k pos i s h h4 h5 hn8=>exact absurd h8 hn8
 |no pos k p i s h h4 h5 hn8 =>
  simp only[Nd.kids,List.cons.injEq,and_true] at hk
  subst hk
  exact hn8
 |list=>simp[Nd.k] at h8
theorem Wf.noN2 {x:Nd} (h:Wf x):NoN2 x:=fun y hy z hz=>((h.kids y hy).kids z hz).noN
theorem testsM_err {M:Nat} {t:Tm} : ∀ (l:List Nd) (ts:List Ts) (e:Int × Int),(∀ x∈l,PosOk M x)->testsM t l ts = .error e->1<=e.2/\e.2<=11/\0<=e.1/\e.1<=M
 |[],ts,e,_,h=>by cases h
 |x::l,ts,e,hl,h=>by
  have hx:=(hl x (List.mem_cons_self ..)).pos
  simp only[testsM] at h
  split at h
  ·rename_i e' he
   cases h
   exact⟨(testM_err he).1,(testM_err he).2,hx.1,hx.2⟩
  ·exact testsM_err l _ e (fun y hy=>hl y (List.mem_cons_of_mem _ hy)) h
theorem patM_err {M:Nat} {l:List Tm} {n:Nd} {e:Int × Int} (hn:PosOk M n) (h:patM l n = .error e):1<=e.2/\e.2<=11/\0<=e.1/\e.1<=M:=by
 have hp:=hn.pos
 unfold patM at h
 split at h
 ·cases h; exact⟨by simp only; omega,by simp only; omega,hp.1,hp.2⟩
 ·split at h
  ·cases h; exact⟨by simp only; omega,by simp only; omega,hp.1,hp.2⟩
  ·rename_i t _
   cases hs:testsM t (n.kids.drop 1) [] with
   |error q =>
    rw[hs] at h
    cases h
    exact testsM_err _ _ _ (fun y hy=>hn.kids y (List.mem_of_mem_drop hy)) hs
   |ok r=>rw[hs] at h; cases h
theorem patM_len {l:List Tm} {n:Nd} {p:Pt} (h:patM l n = .ok p):p.tests.length<=n.kids.length:=by
 unfold patM at h
 split at h
 ·cases h
 ·split at h
  ·cases h
  ·rename_i t _
   cases hs:testsM t (n.kids.drop 1) [] with
   |error q=>rw[hs] at h; cases h
   |ok r =>
    rw[hs] at h
    cases h
    have:=testsM_len _ _ _ hs
    simp at this ⊢
    omega
end Go.Proofs.YtdhhaipppjgicaaGreatDoorPe.Patf
set_option linter.unusedVariables false
set_option linter.unusedSimpArgs false
set_option maxRecDepth 100000
namespace Go.Proofs.YtdhhaipppjgicaaGreatDoorPe.Patf
open Go Go.Proofs Go.Proofs.YtdhhaipppjgicaaGreatDoorPe Go.Proofs.YtdhhaipppjgicaaGreatDoorPe.PatfCode
theorem matches_law (b:List UInt8) (f:Fa) {env:List Bi} {e:PV} (he:EnvV env e) (hf : ∀ v∈f.vals,v.s.length<=9223372036854775807) (hb : ∀ x∈env,x.v.s.length<=9223372036854775807) :
  IsTrue (callE efns given f_law11_PatMatches [.lst (byts b),f.p,e] ⟨[],[],[],[]⟩):=by
 rw[callE_fn efns given (c:=e_law11_PatMatches) rfl rfl]
 have hk:=known_t
 by_cases h1:b.length>2000
 ·have c1:((b.length:Int)>2000)=True:=eq_true (by omega)
  simp only[e_law11_PatMatches,go_sem,Fa.p,hk,byts_length,c1]
  exact Good.done rfl
 have c1:((b.length:Int)>2000)=False:=eq_false (by omega)
 by_cases h2:f.vals.length>20
 ·have c2:((f.vals.length:Int)>20)=True:=eq_true (by omega)
  simp only[e_law11_PatMatches,go_sem,Fa.p,hk,byts_length,List.length_map,c1,c2]
  exact Good.done rfl
 have c2:((f.vals.length:Int)>20)=False:=eq_false (by omega)
 by_cases h3:f.t.length>100
 ·have c3:((f.t.length:Int)>100)=True:=eq_true (by omega)
  simp only[e_law11_PatMatches,go_sem,Fa.p,hk,byts_length,List.length_map,c1,c2,c3]
  exact Good.done rfl
 have c3:((f.t.length:Int)>100)=False:=eq_false (by omega)
 obtain⟨rb,hr,hrl⟩:=right8_t env hb
 have hr':tupV (callE efns given) (.call 0 f_law8_Right) [e]=some (.bool rb):=by
  rw[<- hr]
  exact tup_shut (by rw[argF_0]; exact (mS (he.sl.shutA _) mN).trans rfl)
 cases rb with
 |false =>
  simp only[e_law11_PatMatches,go_sem,Fa.p,hk,byts_length,List.length_map,c1,c2,c3,hr']
  exact Good.done rfl
 |true =>
  have hel:=hrl rfl
  simp only[e_law11_PatMatches,go_sem,Fa.p,hk,byts_length,List.length_map,c1,c2,c3,hr']
  refine Good.for f.vals.length (fun n fr st=>fr=[.lst (byts b),.undef,e,.ptr 0 0,.int .i64 (n:Int)]++List.replicate 30 .undef/\st=⟨[[.int .i64 f.id,.str f.t,.lst (f.vals.map Vl.p)]],[],[T_law11_PatMatches_0],[]⟩) ?_ ?_ ?_
  ·rintro n fr st hn ⟨rfl,rfl⟩ k hk2
   have c4:((n:Int)<(f.vals.length:Int))=True:=eq_true (by omega)
   have hat:=vl_at (l:=f.vals) (i:=n) (v:=f.vals[n]) (List.getElem?_eq_getElem hn)
   have hq:=rightM_t f.vals[n] (hf _ (List.getElem_mem hn))
   generalize rightM f.vals[n]=q at hq
   simp only[Vl.p] at hq
   cases q with
   |false =>
    simp only[b_law11_PatMatches_0,go_sem,List.length_map,c4,hat,hq]
    exact Good.done rfl
   |true =>
    simp only[b_law11_PatMatches_0,go_sem,List.length_map,c4,hat,hq,wrapN (n:=n) (by omega)]
    exact hk2 _ _ ⟨rfl,rfl⟩
  ·rintro fr st ⟨rfl,rfl⟩ k
   have h4:=read_t b
   cases hm:readM b with
   |error er =>
    obtain⟨p,er⟩:=er
    obtain⟨e1,e2,e3,e4,e5⟩:=readM_err hm
    have hne : ¬ er=0:=by simp only at e1; omega
    rw[hm] at h4
    simp only[readV,wrongV] at h4
    simp only[b_law11_PatMatches_0,go_sem,List.length_map,Int.lt_irrefl,h4,eq_false hne,ne_eq]
    exact Good.done rfl
   |ok l =>
    obtain⟨hw,hsz⟩:=readM_ok hm
    have hps:=readM_pos hm
    rw[hm] at h4
    simp only[readV,noneW] at h4
    cases l with
    |nil =>
     simp only[b_law11_PatMatches_0,go_sem,List.length_map,Int.lt_irrefl,h4,ne_eq,List.map_nil]
     exact Good.done rfl
    |cons x l =>
     have hwx:=hw x (List.mem_cons_self ..)
     have hpx:=hps x (List.mem_cons_self ..)
     have hxs:x.sz<=4096:=by simp only[Nd.szs] at hsz; omega
     have hkl:x.kids.length<=4096:=by have:=Nd.sz_eq x; have:=Nd.len_sz x.kids; omega
     have hslots : ∀ t∈twoT,t.slots.length<4611686018427387904:=fun t ht=>by have:=twoT_slots t ht; omega
     have t0:=ptwo_t
     have t3:=rpparse_t x twoT hwx.noN2 (by omega) (by decide) hslots
     have hat:evIdx 5 (x.p::l.map Nd.p) 0=some (.ref x.cells):=Nd.at_ (l:=x::l) (n:=0) (by simp)
     have c0:(((l.length+1:Nat):Int)=0)=False:=eq_false (by omega)
     rw[Nd.p_eq] at t3
     simp only[Nd.cells] at t3 hat
     cases ht:patM twoT x with
     |error er =>
      obtain⟨e1,e2,e3,e4⟩:=patM_err hpx ht
      have hne : ¬ er.2=0:=by omega
      rw[ht] at t3
      generalize twoT.map Tm.p=TW at *
      simp only[rpparseV,zPt,Pt.p,List.map_nil,wrongV,sChar] at t3
      simp only[b_law11_PatMatches_0,go_sem,List.length_map,Int.lt_irrefl,h4,ne_eq,List.map_cons,c0,hat,t0,t3,eq_false hne]
      exact Good.done rfl
     |ok p =>
      have hpl:p.tests.length<=4096:=by have:=patM_len ht; omega
      have q1:=pto_t p (by omega)
      have q2:tupV (callE efns given) (.call 0 f_law10_Of) [.full [f.p]]=some (.lst [f.p]):=by
       rw[<- of10_t f]
       exact tup_shut (by rw[argF_0]; rfl)
      have q3:=pmatch_t p f he (by omega) (by omega)
      have q4:=rmatch_t p f env (by omega) (by omega)
      have q5:tupV (callE efns given) (.call 0 f_law8_Binds) [e]=some (.lst (env.map Bi.p)):=by
       rw[<- binds_t env (by omega)]
       exact tup_shut (by rw[argF_0]; exact (mS (he.sl.shutA _) mN).trans rfl)
      have q6:=palone_t p f (by omega)
      have q7:=ralone_t p f (by omega)
      have hfat:evIdx 3 [f.p] 0=some (.ref [.int .i64 f.id,.str f.t,.lst (f.vals.map Vl.p)]):=idx_of (l:=[f.p]) (i:=0) (e:=f.p) rfl rfl
      rw[ht] at t3
      generalize twoT.map Tm.p=TW at *
      generalize hA:aloneM p f.t f.vals=A at *
      simp only[rpparseV,Pt.p,noneW,Fa.p] at t3 q1 q2 q3 q4 q5 q6 q7 hfat
      cases hmm:matchM p f.t f.vals env with
      |none =>
       have q8:tupV (callE efns given) (.call 0 f_law8_Same) [.full [],.lst []]=some (.bool true):=by
        rw[<- same8_t [] (by simp)]
        exact tup_shut (by rw[argF_0]; rfl)
       rw[hmm] at q3 q4
       simp only[matchV,rmatchV] at q3 q4
       simp only[b_law11_PatMatches_0,go_sem,List.length_map,Int.lt_irrefl,h4,ne_eq,List.map_cons,c0,hat,t0,t3,q1,q2,q3,q4,q5,q6,q7,q8,hfat]
       exact Good.done rfl
      |some o =>
       have hol:o.length<4611686018427387904:=by
        have : ∀ (l:List Ts) (a o:List Bi),stepsB f.vals l a=some o->o.length<=a.length+l.length:=by
         intro l
         induction l with
         |nil=>intro a o h; cases h; simp
         |cons y l ih =>
          intro a o h
          unfold stepsB at h
          split at h
          ·cases h
          ·rename_i a' ha'
           have:=ih _ _ h
           have:=stepB_len ha'
           simp
           omega
        unfold matchM at hmm
        split at hmm
        ·have:=this _ _ _ hmm
         omega
        ·cases hmm
       have q8:tupV (callE efns given) (.call 0 f_law8_Same) [.full (o.map Bi.p),.lst (o.map Bi.p)]=some (.bool true):=by
        rw[<- same8_t o hol]
        exact tup_shut (by rw[argF_0]; rfl)
       rw[hmm] at q3 q4
       simp only[matchV,rmatchV] at q3 q4
       simp only[b_law11_PatMatches_0,go_sem,List.length_map,Int.lt_irrefl,h4,ne_eq,List.map_cons,c0,hat,t0,t3,q1,q2,q3,q4,q5,q6,q7,q8,hfat]
       exact Good.done rfl
  ·exact⟨rfl,rfl⟩
end Go.Proofs.YtdhhaipppjgicaaGreatDoorPe.Patf
