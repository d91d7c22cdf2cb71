/- A part of the proof of this folder's statement; it has no condition of its own. -/
import Derived.Test.YtdhhaipppjgicaaGreatDoorPatxNd
import Derived.Test.YtdhhaipppjgicaaGreatDoorPatxNt
import Derived.Test.YtdhhaipppjgicaaGreatDoorPatxVal
import Derived.Test.YtdhhaipppjgicaaGreatDoorEcGen
import Derived.Test.YtdhhaipppjgicaaGreatDoorPatxLexR
import Derived.Test.YtdhhaipppjgicaaGreatDoorPatxBy
set_option linter.unusedVariables false
set_option linter.unusedSimpArgs false
set_option maxRecDepth 100000
namespace Go.Proofs.YtdhhaipppjgicaaGreatDoorPe.Patx
open Go Go.Proofs Go.Proofs.YtdhhaipppjgicaaGreatDoorPe Go.Proofs.YtdhhaipppjgicaaGreatDoorPe.PatxCode
structure Sl where
 name:List UInt8
 d:Vl
 deriving DecidableEq
structure Tm where
 name:List UInt8
 slots:List Sl
 deriving DecidableEq
def Sl.cells (s:Sl):List PV:=[.str s.name,.int .i64 s.d.k,.int .i64 s.d.i,.str s.d.s]
def Sl.p (s:Sl):PV:=.agg [.str s.name,.int .i64 s.d.k,.int .i64 s.d.i,.str s.d.s]
def Tm.cells (t:Tm):List PV:=[.str t.name,.lst (t.slots.map Sl.p)]
def Tm.p (t:Tm):PV:=.agg [.str t.name,.lst (t.slots.map Sl.p)]
def nilW:Vl:=⟨2,0,[110,105,108]⟩
def placeL (s:List UInt8):List Sl->Option Nat
 |[]=>none
 |x::l=>if x.name=s then some 0 else (placeL s l).map (· + 1)
def mayM (t:List Sl) (s:Option Sl):Int :=
 match s with
 |none=>2
 |some s=>if (placeL s.name t).isSome=true then 6 else if 16<=t.length then 4 else 0
def symN (s:List UInt8):Nd:=.mk 2 0 0 s []
def listN (l:List Nd):Nd:=.mk 0 0 0 [] l
def leafV (v:Vl):Nd:=.mk v.k 0 v.i v.s []
def Sl.Ok (s:Sl):Prop:=goodM s.name=true/\(s.d.k=1\/s.d.k=2\/s.d.k=3)
def OkL:List Sl->List Sl->Prop
 |_,[]=>True
 |t,s::l=>s.Ok/\mayM t (some s)=0/\OkL (t++[s]) l
structure Tm.Ok (t:Tm):Prop where
 name:goodM t.name=true
 slots:OkL [] t.slots
end Go.Proofs.YtdhhaipppjgicaaGreatDoorPe.Patx
set_option linter.unusedVariables false
set_option linter.unusedSimpArgs false
set_option maxRecDepth 100000
namespace Go.Proofs.YtdhhaipppjgicaaGreatDoorPe.Patx
open Go Go.Proofs Go.Proofs.YtdhhaipppjgicaaGreatDoorPe Go.Proofs.YtdhhaipppjgicaaGreatDoorPe.PatxCode
theorem cmpS_zero {a b:List UInt8}:(cmpS a b=0)=(a=b):=by
 rw[cmpS_eq]
 have key : ∀ a b:List UInt8,c3 a b=0 ↔ a=b:=by
  intro a
  induction a with
  |nil=>intro b; cases b <;> simp[c3]
  |cons x a ih =>
   intro b
   cases b with
   |nil=>simp[c3]
   |cons y b =>
    unfold c3 lex
    rcases cmpI_spec x.toNat y.toNat with ⟨q,h⟩|⟨q,h⟩|⟨q,h⟩
    ·rw[h]; simp; intro e; subst e; omega
    ·have:=u8_eq q
     subst this
     rw[h]; simp[ih]
    ·rw[h]; simp; intro e; subst e; omega
 exact propext (key a b)
theorem cmpI_zero {a b:Int}:(cmpI a b=0)=(a=b):=by
 rcases cmpI_spec a b with ⟨q,h⟩|⟨q,h⟩|⟨q,h⟩
 ·rw[h]; simp; omega
 ·rw[h]; simp[q]
 ·rw[h]; simp; omega
theorem cmpV_zero {v w:Vl}:(cmpV v w=0)=(v=w):=by
 have e:(v=w)=(v.k=w.k/\v.i=w.i/\v.s=w.s):=by
  cases v; cases w; simp
 rw[e,<- cmpI_zero (a:=v.k),<- cmpI_zero (a:=v.i),<- cmpS_zero (a:=v.s)]
 unfold cmpV
 simp only[orM]
 by_cases h1:cmpI v.k w.k=0
 ·by_cases h2:cmpI v.i w.i=0
  ·by_cases h3:cmpS v.s w.s=0
   ·simp[h1,h2,h3]
   ·simp[h1,h2,h3]
  ·simp[h1,h2]
 ·simp[h1]
theorem vsame_t (v w:Vl):tupV (callE efns given) (.call 0 f_val_Same) [v.p,w.p]=some (.bool (decide (v=w))):=by
 rw[show decide (v=w)=decide (cmpV v w=0) from by simp only[cmpV_zero]]
 exact same_t given v w
theorem sl_ok {l:List Sl} : ∀ e∈l.map Sl.p,ElemOk (some 4) 4 e:=fun e he=>by
 obtain⟨x,_,rfl⟩:=List.mem_map.1 he
 exact ElemOk.agg rfl
def slName:PV->List UInt8->Bool
 |.agg (.str n::_),s=>decide (n=s)
 |_,_=>false
theorem idxP_place (s:List UInt8) : ∀ l:List Sl,idxP (fun e=>slName e s) (l.map Sl.p)=placeL s l
 |[]=>rfl
 |x::l=>by
  have h:=idxP_place s l
  simp only[List.map_cons,idxP,placeL,h]
  simp only[Sl.p,slName,decide_eq_true_eq]
theorem tidx_t {l:List Sl} {s:List UInt8} {st:St} {b:Nat} (hb:st.boxes[b]? = some [.str s]) (hl:l.length<4611686018427387904) :
  ∃ st',callE efns given f_slices_IndexFunc_tmpl_Slot_tmpl_Slot [.lst (l.map Sl.p),.func f_tmpl_Template_Slot_1 [.ptr b 0]] st=some (.int .i64 (idxI (placeL s l)),st')/\Grew st st':=by
 have:=indexFunc_g (efns:=efns) (given:=given) (f:=f_slices_IndexFunc_tmpl_Slot_tmpl_Slot) (g:=f_tmpl_Template_Slot_1) (ld:=some 4) (n:=4) rfl (l:=l.map Sl.p) (cap:=[.ptr b 0]) (p:=fun e=>slName e s) (st:=st) (by simpa using hl) sl_ok ?_
 ·rw[idxP_place] at this
  exact this
 ·intro st' hg e he
  obtain⟨x,_,rfl⟩:=List.mem_map.1 he
  have hb':=hg.get hb
  have key:Good (fun v st2=>v = .bool (slName x.p s)/\Grew st' st2) (callE efns given f_tmpl_Template_Slot_1 [x.p,.ptr b 0] st'):=by
   rw[callE_fn efns given (c:=e_tmpl_Template_Slot_1) rfl rfl]
   have hb2:(st'.boxes++[x.cells])[b]? = some [.str s]:=(Grew.box st' x.cells T_tmpl_Template_Slot_1_0).get hb'
   simp only[Sl.cells] at hb2
   simp only[e_tmpl_Template_Slot_1,go_sem,Sl.p,hb2]
   exact Good.done ⟨rfl,Grew.box st' _ _⟩
  obtain⟨v,st2,h,rfl,hg2⟩:=key
  exact⟨st2,h,hg2⟩
def placeV (o:Option Nat):PV :=
 match o with
 |some i=>.tuple [.int .i64 (i:Int),.bool true]
 |none=>.tuple [.int .i64 0,.bool false]
theorem tslot_t (t:Tm) (s:List UInt8) (hl:t.slots.length<4611686018427387904):tupV (callE efns given) (.call 0 f_tmpl_Template_Slot) [t.p,.str s]=some (placeV (placeL s t.slots)):=by
 refine call_good (f:=f_tmpl_Template_Slot) rfl ?_
 rw[callE_fn efns given (c:=e_tmpl_Template_Slot) rfl rfl]
 obtain⟨st',h,_⟩:=tidx_t (l:=t.slots) (s:=s) (st:=⟨[t.cells,[.str s]],[],[T_tmpl_Template_Slot_0,T_tmpl_Template_Slot_1],[]⟩) (b:=1) rfl hl
 simp only[Tm.cells] at h
 cases hp:placeL s t.slots with
 |none =>
  rw[hp] at h
  simp only[idxI] at h
  simp only[e_tmpl_Template_Slot,go_sem,Tm.p,h]
  exact Good.done rfl
 |some i =>
  rw[hp] at h
  simp only[idxI] at h
  have c1:((0:Int)>(i:Int))=False:=eq_false (by omega)
  have c2:((i:Int)>=0)=True:=eq_true (by omega)
  simp only[e_tmpl_Template_Slot,go_sem,Tm.p,h,c1,c2]
  exact Good.done rfl
end Go.Proofs.YtdhhaipppjgicaaGreatDoorPe.Patx
set_option linter.unusedVariables false
set_option linter.unusedSimpArgs false
set_option maxRecDepth 100000
namespace Go.Proofs.YtdhhaipppjgicaaGreatDoorPe.Patx
open Go Go.Proofs Go.Proofs.YtdhhaipppjgicaaGreatDoorPe Go.Proofs.YtdhhaipppjgicaaGreatDoorPe.PatxCode
end Go.Proofs.YtdhhaipppjgicaaGreatDoorPe.Patx
set_option linter.unusedVariables false
set_option linter.unusedSimpArgs false
set_option maxRecDepth 100000
namespace Go.Proofs.YtdhhaipppjgicaaGreatDoorPe.Patx
open Go Go.Proofs Go.Proofs.YtdhhaipppjgicaaGreatDoorPe Go.Proofs.YtdhhaipppjgicaaGreatDoorPe.PatxCode
theorem Nd.pl (l:List Nd):l.map (fun x=>PV.agg x.cells)=l.map Nd.p:=List.map_congr_left fun x _=>(Nd.p_eq x).symm
def rawL (v:PV):PV:=.agg [.int .i64 0,.int .i64 0,.int .i64 0,.str [],v]
theorem listN_p (l:List Nd):(listN l).p=rawL (.lst (l.map Nd.p)):=by rw[Nd.p_eq]; rfl
end Go.Proofs.YtdhhaipppjgicaaGreatDoorPe.Patx
set_option linter.unusedVariables false
set_option linter.unusedSimpArgs false
set_option maxRecDepth 100000
namespace Go.Proofs.YtdhhaipppjgicaaGreatDoorPe.Patx
open Go Go.Proofs Go.Proofs.YtdhhaipppjgicaaGreatDoorPe Go.Proofs.YtdhhaipppjgicaaGreatDoorPe.PatxCode
theorem placeL_drop {s:List UInt8} {l:List Sl} {n:Nat} (h : ∀ x∈l.take n,x.name≠s):placeL s l=(placeL s (l.drop n)).map (· + n):=by
 induction n generalizing l with
 |zero=>simp
 |succ n ih =>
  cases l with
  |nil=>simp[placeL]
  |cons x l =>
   have hx:=h x (by simp)
   have:=ih (l:=l) (fun y hy=>h y (by simp[hy]))
   simp only[placeL,hx,if_false,List.drop_succ_cons,this,Option.map_map]
   congr 1
theorem rslot_t (t:Tm) (s:List UInt8) (hl:t.slots.length<4611686018427387904):tupV (callE efns given) (.call 0 f_ref9_Template_Slot) [t.p,.str s]=some (.int .i64 (idxI (placeL s t.slots))):=by
 refine call_good (f:=f_ref9_Template_Slot) rfl ?_
 rw[callE_fn efns given (c:=e_ref9_Template_Slot) rfl rfl]
 simp only[e_ref9_Template_Slot,go_sem,Tm.p]
 refine Good.for t.slots.length (fun i fr st=>fr=[.undef,.str s,.ptr 0 0,.int .i64 (i:Int),.undef,.undef]/\st=⟨[[.str t.name,.lst (t.slots.map Sl.p)]],[],[T_ref9_Template_Slot_0],[]⟩ /\ ∀ x∈t.slots.take i,x.name≠s) ?_ ?_ ?_
 ·rintro i fr st hi ⟨rfl,rfl,hh⟩ k hk
  have c1:((i:Int)<(t.slots.length:Int))=True:=eq_true (by omega)
  have hat:evIdx 4 (t.slots.map Sl.p) (i:Int)=some (.ref t.slots[i].cells):=idx_of (e:=t.slots[i].p) (map_at hi) rfl
  by_cases h:t.slots[i].name=s
  ·simp only[b_ref9_Template_Slot_0,go_sem,List.length_map,c1,hat,Sl.cells,eq_true h]
   refine Good.done ?_
   rw[placeL_drop hh,List.drop_eq_getElem_cons hi,placeL,if_pos h]
   simp[idxI]
   rfl
  ·simp only[b_ref9_Template_Slot_0,go_sem,List.length_map,c1,hat,Sl.cells,eq_false h,wrapN (n:=i) (by omega)]
   refine hk _ _ ⟨rfl,rfl,fun x hx => ?_⟩
   rw[take_succ_at hi,List.mem_append,List.mem_singleton] at hx
   rcases hx with hx|rfl
   ·exact hh x hx
   ·exact h
 ·rintro fr st ⟨rfl,rfl,hh⟩ k
  simp only[b_ref9_Template_Slot_0,go_sem,List.length_map,Int.lt_irrefl]
  refine Good.done ?_
  rw[placeL_drop hh,List.drop_length]
  rfl
 ·exact⟨rfl,rfl,by simp⟩
theorem rsymv_t (s:List UInt8):tupV (callE efns given) (.call 0 f_ref3_Sym) [.str s]=some (Vl.p ⟨2,0,s⟩):=rsym_t given
theorem rvsame_t (v w:Vl):tupV (callE efns given) (.call 0 f_ref3_Same) [v.p,w.p]=some (.bool (decide (v=w))):=rsame_t given v w
end Go.Proofs.YtdhhaipppjgicaaGreatDoorPe.Patx
set_option linter.unusedVariables false
set_option linter.unusedSimpArgs false
set_option maxRecDepth 100000
namespace Go.Proofs.YtdhhaipppjgicaaGreatDoorPe.Patx
open Go Go.Proofs Go.Proofs.YtdhhaipppjgicaaGreatDoorPe Go.Proofs.YtdhhaipppjgicaaGreatDoorPe.PatxCode
end Go.Proofs.YtdhhaipppjgicaaGreatDoorPe.Patx
set_option linter.unusedVariables false
set_option linter.unusedSimpArgs false
set_option maxRecDepth 100000
namespace Go.Proofs.YtdhhaipppjgicaaGreatDoorPe.Patx
open Go Go.Proofs Go.Proofs.YtdhhaipppjgicaaGreatDoorPe Go.Proofs.YtdhhaipppjgicaaGreatDoorPe.PatxCode
theorem to_t : ∀ (m:Nat) (x:Nd),x.sz<=m->m<=1000000->tupV (callE efns given) (.call 0 f_law5_To) [x.p]=some x.p:=by
 intro m
 induction m with
 |zero=>intro x h; rw[Nd.sz_eq] at h; omega
 |succ m ih =>
  intro x hm hle
  have hkl:=Nd.len_sz x.kids
  have hsz:=Nd.sz_eq x
  rw[Nd.p_eq]
  refine call_good (f:=f_law5_To) rfl ?_
  rw[callE_fn efns given (c:=e_law5_To) rfl rfl]
  simp only[e_law5_To,go_sem,Nd.cells]
  refine Good.for x.kids.length (fun n fr st => ∃ out rows rt,fr=[.undef,.ptr 0 0,.ptr 1 0,.ptr 2 0,.int .i64 (n:Int),.undef,.undef,.undef,.undef,.undef,.undef,.undef,.undef,.undef] /\
   st=⟨[x.cells,[.int .i64 0,.int .i64 0,.int .i64 0,.str [],.nils],[.int .i64 x.k,.int .i64 x.pos,.int .i64 x.i,.str x.s,out]],rows,[T_law5_To_1,T_law5_To_0,T_law5_To_0],rt⟩ /\
   OutV 5 T_law5_To_0 ((x.kids.take n).map Nd.p) out rows rt/\rt.length=rows.length) ?_ ?_ ?_
  ·rintro n fr st hn ⟨out,rows,rt,rfl,rfl,hO,hr⟩ k hk
   have c1:((n:Int)<(x.kids.length:Int))=True:=eq_true (by omega)
   have hs:=ih x.kids[n] (by have:=Nd.sz_kid (List.getElem_mem hn); omega) (by omega)
   rw[Nd.p_eq] at hs
   obtain⟨out',rows',rt',ap,hO',hr',_⟩:=hO.app1 (b:=64) hr (e:=.agg x.kids[n].cells) rfl (by simp; omega)
   have hat:=Nd.at_ hn
   have hb:tupV (callE efns given) (.bslice 5 [.int .i64 0,.int .i64 0,.int .i64 0,.str [],.nils] 1 [0]) [.agg x.kids[n].cells]=some (.full [.agg x.kids[n].cells]):=V_bs1 rfl rfl rfl
   simp only[Nd.cells] at hs ap hat hb
   simp only[b_law5_To_0,go_sem,Nd.cells,hat,List.length_map,c1,hs,hb,ap,hO'.cells,hO'.cell,wrapN (n:=n) (by omega)]
   refine hk _ _ ⟨out',rows',rt',rfl,rfl,?_,hr'⟩
   rw[take_succ_at hn,List.map_append,List.map_singleton,Nd.p_eq]
   exact hO'
  ·rintro fr st ⟨out,rows,rt,rfl,rfl,hO,hr⟩ k
   simp only[b_law5_To_0,go_sem,Nd.cells,List.length_map,Int.lt_irrefl,hO.cells,hO.cell]
   refine Good.done ?_
   rw[List.take_length] at hO
   exact ret_agg (mS rfl (mS rfl (mS rfl (mS rfl (mS (hO.shutR _ _) mN)))))
  ·exact⟨.nils,[],[],rfl,rfl,.nils,rfl⟩
theorem tto_t (t:Tm) (hl:t.slots.length<=100000):tupV (callE efns given) (.call 0 f_law9_To) [t.p]=some t.p:=by
 refine call_good (f:=f_law9_To) rfl ?_
 rw[callE_fn efns given (c:=e_law9_To) rfl rfl]
 simp only[e_law9_To,go_sem,Tm.p]
 refine Good.for t.slots.length (fun n fr st => ∃ out rows rt bts,fr=[.undef,.ptr 0 0,.ptr 1 0,.ptr 2 0,.int .i64 (n:Int),.undef,.undef,.undef,.undef,.undef,.undef,.undef] /\
  st=⟨[[.str t.name,.lst (t.slots.map Sl.p)],[.str [],.nils],[.str t.name,out]],rows,bts,rt⟩ /\
  OutV 4 T_law9_To_0 ((t.slots.take n).map Sl.p) out rows rt/\rt.length=rows.length) ?_ ?_ ?_
 ·rintro n fr st hn ⟨out,rows,rt,bts,rfl,rfl,hO,hr⟩ k hk
  have c1:((n:Int)<(t.slots.length:Int))=True:=eq_true (by omega)
  have hat:evIdx 4 (t.slots.map Sl.p) (n:Int)=some (.ref t.slots[n].cells):=idx_of (e:=t.slots[n].p) (map_at hn) rfl
  obtain⟨out',rows',rt',ap,hO',hr',_⟩:=hO.app1 (b:=48) hr (e:=.agg t.slots[n].cells) rfl (by simp; omega)
  have hb:tupV (callE efns given) (.bslice 4 [.str [],.int .i64 0,.int .i64 0,.str []] 1 [0]) [.agg t.slots[n].cells]=some (.full [.agg t.slots[n].cells]):=V_bs1 rfl rfl rfl
  simp only[Sl.cells] at ap hat hb
  simp only[b_law9_To_0,go_sem,hat,List.length_map,c1,hb,ap,hO'.cells,hO'.cell,wrapN (n:=n) (by omega)]
  refine hk _ _ ⟨out',rows',rt',_,rfl,rfl,?_,hr'⟩
  rw[take_succ_at hn,List.map_append,List.map_singleton]
  exact hO'
 ·rintro fr st ⟨out,rows,rt,bts,rfl,rfl,hO,hr⟩ k
  simp only[b_law9_To_0,go_sem,List.length_map,Int.lt_irrefl,hO.cells,hO.cell]
  refine Good.done ?_
  rw[List.take_length] at hO
  exact ret_agg (mS rfl (mS (hO.shutR _ _) mN))
 ·exact⟨.nils,[],[],_,rfl,rfl,.nils,rfl⟩
theorem rsymn_t (s:List UInt8):tupV (callE efns given) (.call 0 f_ref5_Sym) [.str s]=some (symN s).p:=by
 refine call_good (f:=f_ref5_Sym) rfl ?_
 rw[callE_fn efns given (c:=e_ref5_Sym) rfl rfl]
 simp only[e_ref5_Sym,go_sem]
 exact Good.done rfl
theorem rofn_t (v:Vl):tupV (callE efns given) (.call 0 f_ref5_Of) [v.p]=some (leafV v).p:=by
 refine call_good (f:=f_ref5_Of) rfl ?_
 rw[callE_fn efns given (c:=e_ref5_Of) rfl rfl]
 simp only[e_ref5_Of,go_sem,Vl.p]
 exact Good.done rfl
theorem rl_t (l:List Nd):tupV (callE efns given) (.call 0 f_ref5_L) [.lst (l.map Nd.p)]=some (listN l).p:=by
 refine call_good (f:=f_ref5_L) rfl ?_
 rw[callE_fn efns given (c:=e_ref5_L) rfl rfl]
 simp only[e_ref5_L,go_sem]
 refine Good.done ?_
 rw[Nd.p_eq]
 rfl
theorem rlv_t {l:List Nd} {v:PV} (h:SlV (l.map Nd.p) v):tupV (callE efns given) (.call 0 f_ref5_L) [v]=some (listN l).p:=by
 rw[<- rl_t]
 exact tup_shut (by rw[argF_0]; exact (mS (h.shutA _) mN).trans rfl)
end Go.Proofs.YtdhhaipppjgicaaGreatDoorPe.Patx
set_option linter.unusedVariables false
set_option linter.unusedSimpArgs false
set_option maxRecDepth 100000
namespace Go.Proofs.YtdhhaipppjgicaaGreatDoorPe.Patx
open Go Go.Proofs Go.Proofs.YtdhhaipppjgicaaGreatDoorPe Go.Proofs.YtdhhaipppjgicaaGreatDoorPe.PatxCode
structure Ts where
 slot:Nat
 no:Bool
 var:List UInt8
 v:Vl
 deriving DecidableEq
structure Pt where
 t:List UInt8
 tests:List Ts
 deriving DecidableEq
def zV:Vl:=⟨0,0,[]⟩
def Ts.cells (x:Ts):List PV:=[.int .i64 (x.slot:Int),.bool x.no,.str x.var,.int .i64 x.v.k,.int .i64 x.v.i,.str x.v.s]
def Ts.p (x:Ts):PV:=.agg [.int .i64 (x.slot:Int),.bool x.no,.str x.var,.int .i64 x.v.k,.int .i64 x.v.i,.str x.v.s]
def Pt.p (p:Pt):PV:=.agg [.str p.t,.lst (p.tests.map Ts.p)]
def findT (s:List UInt8):List Tm->Option Tm
 |[]=>none
 |t::l=>if t.name=s then some t else findT s l
def coreM (no:Bool) (n:Nd):Option Ts:=if n.k=6 then some ⟨0,no,n.s,zV⟩ else (valM n).map fun v=>⟨0,no,[],v⟩
def termM (n:Nd):Option Ts:=if n.k=8 then (match n.kids with
 |[x]=>coreM true x
 |_=>none) else coreM false n
def hasS (i:Nat) (l:List Ts):Bool:=l.any fun x=>decide (x.slot=i)
def slotE (t:Tm) (ts:List Ts) (s:List UInt8) (y:Nd):Except Int Ts :=
 match placeL s t.slots with
 |none=>.error 5
 |some i=>if hasS i ts=true then .error 6 else match termM y with
  |none=>.error 2
  |some x=>.ok { x with slot:=i }
def testM (t:Tm) (ts:List Ts) (n:Nd):Except Int Ts :=
 if headM n=[] then .error 2 else match n.kids with
  |[_,y]=>slotE t ts (headM n) y
  |_=>.error 2
def testsM (t:Tm):List Nd->List Ts->Except (Int × Int) (List Ts)
 |[],ts=>.ok ts
 |x::l,ts=>match testM t ts x with
  |.error e=>.error (x.pos,e)
  |.ok y=>testsM t l (ts++[y])
def patM (l:List Tm) (n:Nd):Except (Int × Int) Pt :=
 if headM n=[] then .error (n.pos,2) else match findT (headM n) l with
  |none=>.error (n.pos,5)
  |some t=>(testsM t (n.kids.drop 1) []).map fun ts=>⟨headM n,ts⟩
def varN (s:List UInt8):Nd:=.mk 6 0 0 s []
def wantN (x:Ts):Nd:=if x.var=[] then leafV x.v else varN x.var
def termN (x:Ts):Nd:=if x.no=true then .mk 8 0 0 [] [wantN x] else wantN x
def testN (t:Tm) (x:Ts):Option Nd:=(t.slots[x.slot]?).map fun s=>listN [symN s.name,termN x]
def testsN (t:Tm) (l:List Ts):List Nd:=l.filterMap (testN t)
def zT:Tm:=⟨[],[]⟩
def patN (l:List Tm) (p:Pt):Nd:=listN (symN p.t::testsN ((findT p.t l).getD zT) p.tests)
def Ts.Ok (x:Ts):Prop:=(x.var≠[]/\x.v=zV)\/(x.var=[]/\(x.v.k=1\/x.v.k=2\/x.v.k=3))
def TermOk (n:Nd):Prop:=(n.k=6->n.s≠[]) /\ ∀ x,n.k=8->n.kids=[x] -> ¬ x.k=8/\(x.k=6->x.s≠[])
theorem coreM_ok {no:Bool} {n:Nd} {x:Ts} (hn:n.k=6->n.s≠[]) (h:coreM no n=some x):x.Ok:=by
 unfold coreM at h
 split at h
 ·rename_i h6
  cases h
  exact .inl ⟨hn h6,rfl⟩
 ·unfold valM at h
  split at h
  ·rename_i hk
   cases h
   exact .inr ⟨rfl,hk⟩
  ·cases h
theorem termM_ok {n:Nd} {x:Ts} (hn:TermOk n) (h:termM n=some x):x.Ok:=by
 unfold termM at h
 split at h
 ·rename_i h8
  split at h
  ·rename_i y hk
   exact coreM_ok (hn.2 y h8 hk).2 h
  ·cases h
 ·exact coreM_ok hn.1 h
theorem coreM_wantN {x:Ts} (no:Bool) (h:x.Ok):coreM no (wantN x)=some ⟨0,no,x.var,x.v⟩:=by
 unfold wantN coreM
 rcases h with ⟨h1,h2⟩|⟨h1,h2⟩
 ·rw[if_neg h1,h2]
  rfl
 ·have h6 : ¬ (leafV x.v).k=6:=by
   show ¬ x.v.k=6
   omega
  rw[if_pos h1,if_neg h6,h1]
  unfold valM
  rw[if_pos (show (leafV x.v).k=1\/(leafV x.v).k=2\/(leafV x.v).k=3 from h2)]
  rfl
theorem wantN_8 {x:Ts} (h:x.Ok) : ¬ (wantN x).k=8:=by
 unfold wantN
 rcases h with ⟨h1,h2⟩|⟨h1,h2⟩
 ·rw[if_neg h1]
  show ¬ (6:Int)=8
  decide
 ·rw[if_pos h1]
  show ¬ x.v.k=8
  omega
theorem termM_termN {x:Ts} (h:x.Ok):termM (termN x)=some { x with slot:=0 }:=by
 obtain⟨slot,no,var,v⟩:=x
 unfold termM termN
 cases no with
 |true =>
  rw[if_pos rfl]
  simp only[Nd.k,Nd.kids,if_true]
  rw[coreM_wantN _ h]
 |false =>
  simp only[Bool.false_eq_true,if_false]
  rw[if_neg (wantN_8 h),coreM_wantN _ h]
def Tm.Named (t:Tm):Prop := ∀ i s,t.slots[i]? = some s->s.name≠[]/\placeL s.name t.slots=some i
theorem placeL_some {s:List UInt8} : ∀ {l:List Sl} {i:Nat},placeL s l=some i -> ∃ x,l[i]? = some x/\x.name=s
 |[],i,h=>by cases h
 |x::l,i,h=>by
  unfold placeL at h
  split at h
  ·rename_i e
   cases h
   exact⟨x,rfl,e⟩
  ·cases hp:placeL s l with
   |none=>rw[hp] at h; cases h
   |some j =>
    rw[hp] at h
    cases h
    obtain⟨y,h1,h2⟩:=placeL_some hp
    exact⟨y,by simpa using h1,h2⟩
def OkTs (t:Tm):List Ts->List Ts->Prop
 |_,[]=>True
 |ts,x::l=>x.Ok/\(∃ s,t.slots[x.slot]? = some s)/\hasS x.slot ts=false/\OkTs t (ts++[x]) l
def TestOk (n:Nd):Prop := ∀ y∈n.kids,TermOk y
theorem testM_ok {t:Tm} {ts:List Ts} {n:Nd} {x:Ts} (hn:TestOk n) (h:testM t ts n = .ok x):x.Ok/\(∃ s,t.slots[x.slot]? = some s)/\hasS x.slot ts=false:=by
 unfold testM at h
 split at h
 ·cases h
 ·split at h
  ·rename_i a y hk
   unfold slotE at h
   split at h
   ·cases h
   ·rename_i i hp
    split at h
    ·cases h
    ·rename_i hs
     split at h
     ·cases h
     ·rename_i z hz
      cases h
      obtain⟨s,h1,_⟩:=placeL_some hp
      have hzk:=termM_ok (hn y (by rw[hk]; simp)) hz
      exact⟨hzk,⟨s,h1⟩,by simpa using hs⟩
  ·cases h
theorem testsM_ok {t:Tm} : ∀ (l:List Nd) (ts r:List Ts),(∀ x∈l,TestOk x)->testsM t l ts = .ok r -> ∃ u,r=ts++u/\OkTs t ts u
 |[],ts,r,_,h=>by cases h; exact⟨[],by simp,trivial⟩
 |x::l,ts,r,hl,h=>by
  simp only[testsM] at h
  split at h
  ·cases h
  ·rename_i y hy
   obtain⟨u,rfl,hu⟩:=testsM_ok l _ _ (fun z hz=>hl z (List.mem_cons_of_mem _ hz)) h
   obtain⟨a,b,c⟩:=testM_ok (hl x (List.mem_cons_self ..)) hy
   exact⟨y::u,by simp,a,b,c,hu⟩
theorem testsM_testsN {t:Tm} (ht:t.Named) : ∀ (u ts:List Ts),OkTs t ts u->testsM t (testsN t u) ts = .ok (ts++u)
 |[],ts,_=>by simp[testsM,testsN]
 |x::u,ts,⟨h1,⟨s,h2⟩,h3,h4⟩=>by
  have ih:=testsM_testsN ht u _ h4
  have e:testN t x=some (listN [symN s.name,termN x]):=by unfold testN; rw[h2]; rfl
  have e2:testsN t (x::u)=listN [symN s.name,termN x]::testsN t u:=by
   unfold testsN
   rw[List.filterMap_cons_some e]
  obtain⟨n1,n2⟩:=ht _ _ h2
  have e3:headM (listN [symN s.name,termN x])=s.name:=rfl
  have e4:testM t ts (listN [symN s.name,termN x]) = .ok x:=by
   unfold testM
   rw[e3,if_neg n1]
   simp only[listN,Nd.kids]
   unfold slotE
   rw[n2]
   simp only[h3,Bool.false_eq_true,if_false]
   rw[termM_termN h1]
  rw[e2]
  simp only[testsM,e4,ih,List.append_assoc,List.cons_append,List.nil_append]
theorem findT_mem {s:List UInt8} : ∀ {l:List Tm} {t:Tm},findT s l=some t->t∈l
 |[],t,h=>by cases h
 |x::l,t,h=>by
  unfold findT at h
  split at h
  ·cases h; simp
  ·exact List.mem_cons_of_mem _ (findT_mem h)
structure Pt.Ok (l:List Tm) (p:Pt):Prop where
 name:p.t≠[]
 tests : ∃ t,findT p.t l=some t/\OkTs t [] p.tests
def PatOk (n:Nd):Prop := ∀ x∈n.kids,TestOk x
theorem patM_ok {l:List Tm} {n:Nd} {p:Pt} (hn:PatOk n) (h:patM l n = .ok p):p.Ok l:=by
 unfold patM at h
 split at h
 ·cases h
 ·rename_i hh
  split at h
  ·cases h
  ·rename_i t ht
   cases hs:testsM t (n.kids.drop 1) [] with
   |error e=>rw[hs] at h; cases h
   |ok r =>
    rw[hs] at h
    cases h
    obtain⟨u,rfl,hu⟩:=testsM_ok _ _ _ (fun x hx=>hn x (List.mem_of_mem_drop hx)) hs
    exact⟨hh,t,ht,by simpa using hu⟩
theorem patM_patN {l:List Tm} {p:Pt} (hl : ∀ t∈l,t.Named) (h:p.Ok l):patM l (patN l p) = .ok p:=by
 obtain⟨t,ht,hts⟩:=h.tests
 have hm:t∈l:=findT_mem ht
 have hs:=testsM_testsN (hl t hm) p.tests [] hts
 have hh:headM (patN l p)=p.t:=rfl
 unfold patM
 rw[hh,if_neg h.name,ht]
 simp only[patN,ht,Option.getD_some,listN,Nd.kids,List.drop_succ_cons,List.drop_zero]
 rw[hs]
 rfl
theorem testM_err {t:Tm} {ts:List Ts} {n:Nd} {e:Int} (h:testM t ts n = .error e):1<=e/\e<=11:=by
 unfold testM at h
 split at h
 ·cases h; decide
 ·split at h
  ·unfold slotE at h
   split at h
   ·cases h; decide
   ·split at h
    ·cases h; decide
    ·split at h
     ·cases h; decide
     ·cases h
  ·cases h; decide
theorem testsM_len {t:Tm} : ∀ (l:List Nd) (ts r:List Ts),testsM t l ts = .ok r->r.length=ts.length+l.length
 |[],ts,r,h=>by cases h; simp
 |x::l,ts,r,h=>by
  simp only[testsM] at h
  split at h
  ·cases h
  ·rw[testsM_len l _ _ h]
   simp
   omega
structure Bi where
 n:List UInt8
 v:Vl
 deriving DecidableEq
def Bi.p (b:Bi):PV:=.agg [.str b.n,.int .i64 b.v.k,.int .i64 b.v.i,.str b.v.s]
def Bi.cells (b:Bi):List PV:=[.str b.n,.int .i64 b.v.k,.int .i64 b.v.i,.str b.v.s]
def lastB (s:List UInt8):List Bi->Option Vl
 |[]=>none
 |b::l=>match lastB s l with
  |some v=>some v
  |none=>if b.n=s then some b.v else none
def putS (l:List (List UInt8)) (s:List UInt8):List (List UInt8):=if l.contains s=true then l else l++[s]
def varsT (l:List (List UInt8)) (x:Ts):List (List UInt8):=if x.var=[]\/x.no=true then l else putS l x.var
def varsM (p:Pt):List (List UInt8):=p.tests.foldl varsT []
end Go.Proofs.YtdhhaipppjgicaaGreatDoorPe.Patx
set_option linter.unusedVariables false
set_option linter.unusedSimpArgs false
set_option maxRecDepth 100000
namespace Go.Proofs.YtdhhaipppjgicaaGreatDoorPe.Patx
open Go Go.Proofs Go.Proofs.YtdhhaipppjgicaaGreatDoorPe Go.Proofs.YtdhhaipppjgicaaGreatDoorPe.PatxCode
@[go_sem] theorem bx_cons {α : Type} {x : α} {l : List α} {n k : Nat} : (x :: l)[n + (k + 1)]? = l[n + k]? := by rw [<- Nat.add_assoc, List.getElem?_cons_succ]
@[go_sem] theorem bx_cset {α : Type} {x y : α} {l : List α} {n k : Nat} : (x :: l).set (n + (k + 1)) y = x :: l.set (n + k) y := by rw [<- Nat.add_assoc, List.set_cons_succ]
def placeT (s:List UInt8):List Tm->Option Nat
 |[]=>none
 |t::l=>if t.name=s then some 0 else (placeT s l).map (· + 1)
theorem placeT_some {s:List UInt8} : ∀ {l:List Tm} {i:Nat},placeT s l=some i -> ∃ t,l[i]? = some t/\findT s l=some t
 |[],i,h=>by cases h
 |x::l,i,h=>by
  unfold placeT at h
  unfold findT
  split at h
  ·rename_i e
   cases h
   exact⟨x,rfl,if_pos e⟩
  ·rename_i e
   obtain⟨j,hj,rfl⟩:=Option.map_eq_some_iff.1 h
   obtain⟨y,h1,h2⟩:=placeT_some hj
   exact⟨y,by simpa using h1,by rw[if_neg e]; exact h2⟩
theorem placeT_none {s:List UInt8} : ∀ {l:List Tm},placeT s l=none->findT s l=none
 |[],_=>rfl
 |x::l,h=>by
  unfold placeT at h
  unfold findT
  split at h
  ·cases h
  ·rename_i e
   rw[if_neg e]
   exact placeT_none (Option.map_eq_none_iff.1 h)
theorem tm_ok {l:List Tm} : ∀ e∈l.map Tm.p,ElemOk (some 2) 2 e:=fun e he=>by
 obtain⟨x,_,rfl⟩:=List.mem_map.1 he
 exact ElemOk.agg rfl
theorem idxP_placeT (s:List UInt8) : ∀ l:List Tm,idxP (fun e=>slName e s) (l.map Tm.p)=placeT s l
 |[]=>rfl
 |x::l=>by
  have h:=idxP_placeT s l
  simp only[List.map_cons,idxP,placeT,h]
  simp only[Tm.p,slName,decide_eq_true_eq]
def findV (o:Option Tm):PV :=
 match o with
 |some t=>.tuple [t.p,.bool true]
 |none=>.tuple [zT.p,.bool false]
theorem pfind_t (s:List UInt8) (l:List Tm) (hl:l.length<4611686018427387904):tupV (callE efns given) (.call 0 f_pat_find) [.str s,.lst (l.map Tm.p)]=some (findV (findT s l)):=by
 refine call_good (f:=f_pat_find) rfl ?_
 rw[callE_fn efns given (c:=e_pat_find) rfl rfl]
 have:=indexFunc_g (efns:=efns) (given:=given) (f:=f_slices_IndexFunc_tmpl_Template_tmpl_Template) (g:=f_pat_find_1) (ld:=some 2) (n:=2) rfl (l:=l.map Tm.p) (cap:=[.ptr 0 0]) (p:=fun e=>slName e s)
  (st:=⟨[[.str s],[.str [],.nils]],[],[T_pat_find_0,T_pat_find_1],[]⟩) (by simpa using hl) tm_ok ?_
 ·obtain⟨st',h,hg⟩:=this
  have h1:=hg.get (i:=1) rfl
  rw[idxP_placeT] at h
  cases hp:placeT s l with
  |none =>
   rw[hp] at h
   simp only[idxI] at h
   rw[placeT_none hp]
   have hb:(st'.boxes.set 1 [.str [],.nils])[1]? = some [PV.str [],.nils]:=List.getElem?_set_self (List.getElem?_eq_some_iff.1 h1).1
   simp only[e_pat_find,go_sem,h,h1,hb]
   exact Good.done rfl
  |some i =>
   rw[hp] at h
   simp only[idxI] at h
   obtain⟨t,h2,h3⟩:=placeT_some hp
   rw[h3]
   have c1:((i:Int)<0)=False:=eq_false (by omega)
   have hat:evIdx 2 (l.map Tm.p) (i:Int)=some (.ref t.cells):=idx_of (e:=t.p) (by simp[h2]) rfl
   have hb:(st'.boxes.set 1 t.cells)[1]? = some t.cells:=List.getElem?_set_self (List.getElem?_eq_some_iff.1 h1).1
   simp only[Tm.cells] at hat hb
   simp only[e_pat_find,go_sem,h,h1,c1,hat,hb]
   exact Good.done rfl
 ·intro st' hg e he
  obtain⟨x,_,rfl⟩:=List.mem_map.1 he
  have hb':=hg.get (i:=0) rfl
  have key:Good (fun v st2=>v = .bool (slName x.p s)/\Grew st' st2) (callE efns given f_pat_find_1 [x.p,.ptr 0 0] st'):=by
   rw[callE_fn efns given (c:=e_pat_find_1) rfl rfl]
   have hb2:(st'.boxes++[x.cells])[0]? = some [.str s]:=(Grew.box st' x.cells T_pat_find_1_0).get hb'
   simp only[Tm.cells] at hb2
   simp only[e_pat_find_1,go_sem,Tm.p,hb2]
   exact Good.done ⟨rfl,Grew.box st' _ _⟩
  obtain⟨v,st2,h,rfl,hg2⟩:=key
  exact⟨st2,h,hg2⟩
theorem ts_ok {l:List Ts} : ∀ e∈l.map Ts.p,ElemOk (some 6) 6 e:=fun e he=>by
 obtain⟨x,_,rfl⟩:=List.mem_map.1 he
 exact ElemOk.agg rfl
def tsSlot:PV->Nat->Bool
 |.agg (.int _ n::_),i=>decide (n=(i:Int))
 |_,_=>false
theorem tsSlot_p (x:Ts) (i:Nat):tsSlot x.p i=decide (x.slot=i):=by
 show decide ((x.slot:Int)=(i:Int))=_
 by_cases h:x.slot=i
 ·rw[decide_eq_true h,decide_eq_true (by omega)]
 ·rw[decide_eq_false h,decide_eq_false (by omega)]
theorem idxP_has (i:Nat) : ∀ l:List Ts,decide (idxI (idxP (fun e=>tsSlot e i) (l.map Ts.p))>=0)=hasS i l
 |[]=>rfl
 |x::l=>by
  have h:=idxP_has i l
  simp only[List.map_cons,idxP,hasS,List.any_cons,tsSlot_p]
  by_cases hx:x.slot=i
  ·rw[if_pos (by simp[hx]),decide_eq_true hx]
   rfl
  ·rw[if_neg (by simp[hx]),decide_eq_false hx,Bool.false_or,show (l.any fun x=>decide (x.slot=i))=hasS i l from rfl,<- h]
   generalize idxP (fun e=>tsSlot e i) (l.map Ts.p)=o
   cases o with
   |none=>rfl
   |some j =>
    show decide (((j+1:Nat):Int)>=0)=decide ((j:Int)>=0)
    rw[decide_eq_true (by omega),decide_eq_true (by omega)]
theorem phas_t {l:List Ts} {i:Nat} {st:St} {b:Nat} (hb:st.boxes[b]? = some [.int .i64 (i:Int)]) (hl:l.length<4611686018427387904) :
  ∃ st',callE efns given f_slices_ContainsFunc_pat_Test_pat_Test [.lst (l.map Ts.p),.func f_pat_Parse_1 [.ptr b 0]] st=some (.bool (hasS i l),st')/\Grew st st':=by
 have:=indexFunc_g (efns:=efns) (given:=given) (f:=f_slices_IndexFunc_pat_Test_pat_Test) (g:=f_pat_Parse_1) (ld:=some 6) (n:=6) rfl (l:=l.map Ts.p) (cap:=[.ptr b 0]) (p:=fun e=>tsSlot e i) (st:=st) (by simpa using hl) ts_ok ?_
 ·obtain⟨st',h,hg⟩:=this
  have key:Good (fun v st2=>v = .bool (hasS i l)/\Grew st st2) (callE efns given f_slices_ContainsFunc_pat_Test_pat_Test [.lst (l.map Ts.p),.func f_pat_Parse_1 [.ptr b 0]] st):=by
   rw[callE_fn efns given (c:=e_slices_ContainsFunc_pat_Test_pat_Test) rfl rfl]
   simp only[e_slices_ContainsFunc_pat_Test_pat_Test,go_sem,h]
   exact Good.done ⟨by rw[idxP_has],hg⟩
  obtain⟨v,st2,h,rfl,hg2⟩:=key
  exact⟨st2,h,hg2⟩
 ·intro st' hg e he
  obtain⟨x,_,rfl⟩:=List.mem_map.1 he
  have hb':=hg.get hb
  have key:Good (fun v st2=>v = .bool (tsSlot x.p i)/\Grew st' st2) (callE efns given f_pat_Parse_1 [x.p,.ptr b 0] st'):=by
   rw[callE_fn efns given (c:=e_pat_Parse_1) rfl rfl]
   have hb2:(st'.boxes++[x.cells])[b]? = some [.int .i64 (i:Int)]:=(Grew.box st' x.cells T_pat_Parse_1_0).get hb'
   simp only[Ts.cells] at hb2
   simp only[e_pat_Parse_1,go_sem,Ts.p,hb2]
   exact Good.done ⟨rfl,Grew.box st' _ _⟩
  obtain⟨v,st2,h,rfl,hg2⟩:=key
  exact⟨st2,h,hg2⟩
def NoN (n:Nd):Prop := ∀ x,n.k=8->n.kids=[x] -> ¬ x.k=8
theorem pterm_t (n:Nd) (hn:NoN n) : ∃ (x:Ts) (b:Bool),tupV (callE efns given) (.call 0 f_pat_term) [n.p]=some (.tuple [x.p,.bool b])/\x.slot=0/\termM n=if b=true then some x else none:=by
 have run : ∀ (x:Ts) (b:Bool),Good (Ret (.tuple [x.p,.bool b])) (callE efns given f_pat_term [n.p] ⟨[],[],[],[]⟩)->x.slot=0->termM n=(if b=true then some x else none) ->
   ∃ (x:Ts) (b:Bool),tupV (callE efns given) (.call 0 f_pat_term) [n.p]=some (.tuple [x.p,.bool b])/\x.slot=0/\termM n=if b=true then some x else none :=
  fun x b h1 h2 h3=>⟨x,b,call_good (f:=f_pat_term) (by rw[Nd.p_eq]; rfl) h1,h2,h3⟩
 by_cases h8:n.k=8
 ·have h8':(n.k=8)=True:=eq_true h8
  match hk:n.kids with
  |[x] =>
   have hx8:(x.k=8)=False:=eq_false (hn x h8 hk)
   have hat:evIdx 5 [x.p] 0=some (.ref x.cells):=Nd.at_ (l:=[x]) (n:=0) (by simp)
   by_cases h6:x.k=6
   ·refine run ⟨0,true,x.s,zV⟩ true ?_ rfl (by simp[termM,h8,hk,coreM,h6])
    rw[callE_fn efns given (c:=e_pat_term) rfl rfl,Nd.p_eq]
    simp only[e_pat_term,go_sem,Nd.cells,hk]
    rw[runL_1]
    simp only[Nd.cells] at hat
    simp only[b_pat_term_0,go_sem,h8',List.map_cons,List.map_nil,hat]
    rw[runL_1]
    simp only[b_pat_term_0,go_sem,eq_true h6,hx8]
    exact Good.done rfl
   ·have hv:=svalue_t x
    rw[Nd.p_eq] at hv
    cases hm:valM x with
    |none =>
     rw[hm] at hv
     refine run ⟨0,true,[],zV⟩ false ?_ rfl (by simp[termM,h8,hk,coreM,h6,hm])
     rw[callE_fn efns given (c:=e_pat_term) rfl rfl,Nd.p_eq]
     simp only[e_pat_term,go_sem,Nd.cells,hk]
     rw[runL_1]
     simp only[Nd.cells,valV,Vl.p] at hat hv
     simp only[b_pat_term_0,go_sem,h8',List.map_cons,List.map_nil,hat]
     rw[runL_1]
     simp only[b_pat_term_0,go_sem,eq_false h6,hx8,hv]
     exact Good.done rfl
    |some w =>
     rw[hm] at hv
     refine run ⟨0,true,[],w⟩ true ?_ rfl (by simp[termM,h8,hk,coreM,h6,hm])
     rw[callE_fn efns given (c:=e_pat_term) rfl rfl,Nd.p_eq]
     simp only[e_pat_term,go_sem,Nd.cells,hk]
     rw[runL_1]
     simp only[Nd.cells,valV,Vl.p] at hat hv
     simp only[b_pat_term_0,go_sem,h8',List.map_cons,List.map_nil,hat]
     rw[runL_1]
     simp only[b_pat_term_0,go_sem,eq_false h6,hx8,hv]
     exact Good.done rfl
  |[] =>
   have hv:=svalue_t n
   have hm:valM n=none:=by unfold valM; rw[if_neg (by omega)]
   rw[Nd.p_eq,hm] at hv
   refine run ⟨0,false,[],zV⟩ false ?_ rfl (by simp[termM,h8,hk])
   rw[callE_fn efns given (c:=e_pat_term) rfl rfl,Nd.p_eq]
   simp only[Nd.cells,valV,Vl.p,hk,h8,List.map_nil] at hv
   simp only[e_pat_term,go_sem,Nd.cells,hk,h8,List.map_nil]
   rw[runL_1]
   simp only[b_pat_term_0,go_sem,hv]
   exact Good.done rfl
  |a::b::l =>
   have hv:=svalue_t n
   have hm:valM n=none:=by unfold valM; rw[if_neg (by omega)]
   rw[Nd.p_eq,hm] at hv
   refine run ⟨0,false,[],zV⟩ false ?_ rfl (by simp[termM,h8,hk])
   rw[callE_fn efns given (c:=e_pat_term) rfl rfl,Nd.p_eq]
   have c1:((((l.map Nd.p).length+1+1:Nat):Int)=1)=False:=eq_false (by omega)
   simp only[Nd.cells,valV,Vl.p,hk,h8,List.map_cons] at hv
   simp only[e_pat_term,go_sem,Nd.cells,hk,h8,List.map_cons]
   rw[runL_1]
   simp only[b_pat_term_0,go_sem,hv,c1]
   exact Good.done rfl
 ·have h8':(n.k=8)=False:=eq_false h8
  by_cases h6:n.k=6
  ·refine run ⟨0,false,n.s,zV⟩ true ?_ rfl (by simp[termM,coreM,h6])
   rw[callE_fn efns given (c:=e_pat_term) rfl rfl,Nd.p_eq]
   simp only[e_pat_term,go_sem,Nd.cells]
   rw[runL_1]
   simp only[b_pat_term_0,go_sem,h8',eq_true h6]
   exact Good.done rfl
  ·have hv:=svalue_t n
   rw[Nd.p_eq] at hv
   cases hm:valM n with
   |none =>
    rw[hm] at hv
    refine run ⟨0,false,[],zV⟩ false ?_ rfl (by simp[termM,h8,coreM,h6,hm])
    rw[callE_fn efns given (c:=e_pat_term) rfl rfl,Nd.p_eq]
    simp only[e_pat_term,go_sem,Nd.cells]
    rw[runL_1]
    simp only[Nd.cells,valV,Vl.p] at hv
    simp only[b_pat_term_0,go_sem,h8',eq_false h6,hv]
    exact Good.done rfl
   |some w =>
    rw[hm] at hv
    refine run ⟨0,false,[],w⟩ true ?_ rfl (by simp[termM,h8,coreM,h6,hm])
    rw[callE_fn efns given (c:=e_pat_term) rfl rfl,Nd.p_eq]
    simp only[e_pat_term,go_sem,Nd.cells]
    rw[runL_1]
    simp only[Nd.cells,valV,Vl.p] at hv
    simp only[b_pat_term_0,go_sem,h8',eq_false h6,hv]
    exact Good.done rfl
end Go.Proofs.YtdhhaipppjgicaaGreatDoorPe.Patx
set_option linter.unusedVariables false
set_option linter.unusedSimpArgs false
set_option maxRecDepth 100000
namespace Go.Proofs.YtdhhaipppjgicaaGreatDoorPe.Patx
open Go Go.Proofs Go.Proofs.YtdhhaipppjgicaaGreatDoorPe Go.Proofs.YtdhhaipppjgicaaGreatDoorPe.PatxCode
theorem pfault_t (n:Nd) (e:Int):tupV (callE efns given) (.call 0 f_pat_fault) [n.p,.int .i64 e]=some (errP [(sChar,n.pos)] e):=by
 rw[Nd.p_eq]
 refine call_good (f:=f_pat_fault) rfl ?_
 rw[callE_fn efns given (c:=e_pat_fault) rfl rfl]
 simp only[e_pat_fault,go_sem,Nd.cells]
 exact Good.done rfl
def zPt:Pt:=⟨[],[]⟩
def pparseV:Except (Int × Int) Pt->PV
 |.ok p=>.tuple [p.p,.nili]
 |.error q=>.tuple [zPt.p,errP [(sChar,q.1)] q.2]
def patR (name:List UInt8) (t:Tm) (l:List Nd) (ts:List Ts):Except (Int × Int) Pt:=(testsM t l ts).map fun ts=>⟨name,ts⟩
theorem patR_cons {name:List UInt8} {t:Tm} {y:Nd} {l:List Nd} {ts:List Ts}:patR name t (y::l) ts=match testM t ts y with
  |.error e=>.error (y.pos,e)
  |.ok x=>patR name t l (ts++[x]):=by
 unfold patR
 rw[testsM]
 cases testM t ts y <;> rfl
def NoN2 (n:Nd):Prop := ∀ x∈n.kids,∀ y∈x.kids,NoN y
theorem headM_at {n a:Nd} {l:List Nd} (hk:n.kids=a::l) (h:headM n≠[]):headM n=a.s:=by
 unfold headM at h ⊢
 split
 ·rename_i h0
  rw[if_pos h0,hk] at h
  rw[hk]
  simp only at h ⊢
  split
  ·rfl
  ·rename_i h2
   rw[if_neg h2] at h
   exact absurd rfl h
 ·rename_i h0
  rw[if_neg h0] at h
  exact absurd rfl h
theorem pparse_t (n:Nd) (tl:List Tm) (hn:NoN2 n) (hl:n.kids.length<=100000) (htl:tl.length<4611686018427387904) (hts : ∀ t∈tl,t.slots.length<4611686018427387904) :
  tupV (callE efns given) (.call 0 f_pat_Parse) [n.p,.lst (tl.map Tm.p)]=some (pparseV (patM tl n)):=by
 have hh:=shead_t n
 have hf:=fun e=>pfault_t n e
 simp only[Nd.p_eq n] at hh hf ⊢
 refine call_good (f:=f_pat_Parse) rfl ?_
 simp only[Nd.cells] at hh hf
 unfold patM
 by_cases h1:headM n=[]
 ·have h1':(headM n=[])=True:=eq_true h1
  rw[if_pos h1]
  rw[callE_fn efns given (c:=e_pat_Parse) rfl rfl]
  simp only[e_pat_Parse,go_sem,Nd.cells,hh,hf,h1']
  exact Good.done rfl
 ·have h1':(headM n=[])=False:=eq_false h1
  have hfi:=pfind_t (headM n) tl htl
  rw[if_neg h1]
  cases ht:findT (headM n) tl with
  |none =>
   rw[ht] at hfi
   simp only[findV,Tm.p,zT] at hfi
   rw[callE_fn efns given (c:=e_pat_Parse) rfl rfl]
   simp only[e_pat_Parse,go_sem,Nd.cells,hh,hf,h1',hfi]
   exact Good.done rfl
  |some t =>
   rw[ht] at hfi
   simp only[findV,Tm.p] at hfi
   match hk:n.kids with
   |[]=>exact absurd (by unfold headM; rw[hk]; split <;> rfl) h1
   |a::l =>
    rw[hk] at hh hf hl
    have hnn : ∀ x∈l,∀ y∈x.kids,NoN y:=fun x hx=>hn x (by rw[hk]; exact List.mem_cons_of_mem _ hx)
    simp only[List.map_cons] at hh hf
    simp only[List.length_cons] at hl
    have hd:lsubV 5 (.lst (a.p::l.map Nd.p)) (some (.int .i64 1)) none none=some (.lst (l.map Nd.p)):=by
     have:=lsub_drop (n:=5) (l:=(a::l).map Nd.p) (i:=1) (j:=1) (k:=.i64) rfl (by simp) (by intro e he; obtain⟨y,_,rfl⟩:=List.mem_map.1 he; rw[Nd.p_cells]; rfl)
     simpa using this
    have hsl:=hts t (findT_mem ht)
    rw[callE_fn efns given (c:=e_pat_Parse) rfl rfl]
    simp only[e_pat_Parse,go_sem,Nd.cells,hk,hh,hf,h1',hfi,List.map_cons,hd]
    generalize hnm:headM n=nm at *
    show Good (Ret (pparseV (patR nm t l []))) _
    refine Good.for l.length (fun i fr st => ∃ out rows rt rest bts ts,fr=[.undef,.undef,.undef,.ptr 1 0,.undef,.ptr 2 0,.ptr 3 0]++List.replicate 8 .undef++[.lst (l.map Nd.p),.int .i64 (l.length:Int),.int .i64 (i:Int)]++List.replicate 19 .undef /\
     st=⟨[[.int .i64 n.k,.int .i64 n.pos,.int .i64 n.i,.str n.s,.lst (a.p::l.map Nd.p)],[.str [],.nils],[.str t.name,.lst (t.slots.map Sl.p)],[.str nm,out]]++rest,rows,bts,rt⟩ /\
     OutV 6 T_pat_Parse_0 (ts.map Ts.p) out rows rt/\rt.length=rows.length/\ts.length=i/\patR nm t l []=patR nm t (l.drop i) ts) ?_ ?_ ?_
    ·rintro i fr st hi ⟨out,rows,rt,rest,bts,ts,rfl,rfl,hO,hr,htl,he⟩ k hk2
     have c2:((i:Int)<(l.length:Int))=True:=eq_true (by omega)
     have hy:=hnn l[i] (List.getElem_mem hi)
     rw[List.drop_eq_getElem_cons hi,patR_cons] at he
     have hat2:=Nd.at_ hi
     generalize l[i]=y at hy he hat2
     have h5:=pfault_t y
     have h6:=shead_t y
     rw[Nd.p_eq] at h5 h6
     simp only[Nd.cells] at h5 h6 hat2
     unfold testM at he
     have fin : ∀ e:Int,patR nm t l [] = .error (y.pos,e) -> ∀ st,Good (Ret (pparseV (patR nm t l []))) (some (.tuple [.agg [.str [],.nils],errP [(sChar,y.pos)] e],st)):=fun e h st=>by rw[h]; exact Good.done rfl
     by_cases hy0:headM y=[]
     ·rw[if_pos hy0] at he
      simp only[b_pat_Parse_0,go_sem,List.length_map,c2,hat2,h5,h6,eq_true hy0]
      exact fin 2 he _
     ·rw[if_neg hy0] at he
      match hyk:y.kids with
      |[]=>exact absurd (by unfold headM; rw[hyk]; split <;> rfl) hy0
      |[b] =>
       rw[hyk] at he h5 h6 hat2
       simp only[List.map_cons,List.map_nil] at h5 h6 hat2
       simp only[b_pat_Parse_0,go_sem,List.length_map,c2,hat2,h5,h6,eq_false hy0,ne_eq]
       exact fin 2 he _
      |b::c::d::m =>
       rw[hyk] at he h5 h6 hat2
       simp only[List.map_cons] at h5 h6 hat2
       have c3:(((m.length+3:Nat):Int)=2)=False:=eq_false (by omega)
       simp only[b_pat_Parse_0,go_sem,List.length_map,c2,hat2,h5,h6,eq_false hy0,ne_eq,c3]
       exact fin 2 he _
      |[b,c] =>
       rw[hyk] at he h5 h6 hat2
       simp only[List.map_cons,List.map_nil] at h5 h6 hat2
       simp only at he
       have hhs:=headM_at hyk hy0
       have hat3:evIdx 5 [b.p,c.p] 0=some (.ref b.cells):=Nd.at_ (l:=[b,c]) (n:=0) (by simp)
       have hat4:evIdx 5 [b.p,c.p] 1=some (.ref c.cells):=Nd.at_ (l:=[b,c]) (n:=1) (by simp)
       have h7:=tslot_t t b.s hsl
       obtain⟨x,bt,h8,hx0,h9⟩:=pterm_t c (hy c (by rw[hyk]; simp))
       rw[Nd.p_eq] at h8
       simp only[Nd.cells,Tm.p,Ts.p,hx0] at h7 h8 hat3 hat4
       unfold slotE at he
       rw[hhs] at he
       cases hp:placeL b.s t.slots with
       |none =>
        rw[hp] at he h7
        simp only[placeV] at he h7
        simp only[b_pat_Parse_0,go_sem,List.length_map,c2,hat2,h5,h6,eq_false hy0,ne_eq,hat3,h7]
        exact fin 5 he _
       |some j =>
        rw[hp] at he h7
        simp only[placeV] at he h7
        have hs:shutA 6 out=some (.lst (ts.map Ts.p)):=hO.shutA 5
        obtain⟨st2,hc,hg⟩:=phas_t (l:=ts) (i:=j) (b:=rest.length+5) (st:=⟨[.int .i64 n.k,.int .i64 n.pos,.int .i64 n.i,.str n.s,.lst (a.p::l.map Nd.p)]::[.str [],.nils]::[.str t.name,.lst (t.slots.map Sl.p)]::[.str nm,out] ::
         (rest++[y.cells,[.int .i64 (j:Int)]]),rows,bts++[T_pat_Parse_1,T_pat_Parse_2],rt⟩) (by simp only[go_sem]) (by omega)
        obtain⟨xs,ys,g1,g2,g3,g4,g5⟩:=hg
        obtain⟨bx2,rw2,bt2,rt2⟩:=st2
        simp only at g1 g2 g3 g4
        subst g1 g2 g3 g4
        simp only[Nd.cells,hyk,List.map_cons,List.map_nil] at hc
        cases hh6:hasS j ts with
        |true =>
         rw[hh6] at hc he
         simp only[if_true] at he
         simp only[b_pat_Parse_0,go_sem,List.length_map,c2,hat2,h5,h6,eq_false hy0,ne_eq,hat3,h7,hs,hc]
         exact fin 6 he _
        |false =>
         rw[hh6] at hc he
         simp only[Bool.false_eq_true,if_false] at he
         cases bt with
         |false =>
          simp only[Bool.false_eq_true,if_false] at h9
          rw[h9] at he
          simp only[b_pat_Parse_0,go_sem,List.length_map,c2,hat2,h5,h6,eq_false hy0,ne_eq,hat3,h7,hs,hc,hat4,h8]
          exact fin 2 he _
         |true =>
          simp only[if_true] at h9
          rw[h9] at he
          obtain⟨out',rows',rt',ap,hO',hr',_⟩:=hO.app1 (b:=64) hr (e:=Ts.p { x with slot:=j }) rfl (by simp; omega)
          simp only[Ts.p] at ap
          simp only[b_pat_Parse_0,go_sem,List.length_map,c2,hat2,h5,h6,eq_false hy0,ne_eq,hat3,h7,hs,hc,hat4,h8,ap,hO'.cells,hO'.cell,wrapN (n:=i) (by omega)]
          refine hk2 _ _ ⟨out',rows',rt',_,_,ts++[{ x with slot:=j }],rfl,rfl,?_,hr',by simp[htl],he⟩
          rw[List.map_append,List.map_singleton]
          exact hO'
    ·rintro fr st ⟨out,rows,rt,rest,bts,ts,rfl,rfl,hO,hr,ht,he⟩ k
     simp only[b_pat_Parse_0,go_sem,List.length_map,Int.lt_irrefl,hO.cells,hO.cell]
     refine Good.done ?_
     rw[List.drop_length] at he
     rw[he]
     exact ret_tup (mS (shutR_agg (mS rfl (mS (hO.shutR _ _) mN))) (mS rfl mN))
    ·exact⟨.nils,[],[],[],_,[],by simp,rfl,.nils,rfl,rfl,rfl⟩
end Go.Proofs.YtdhhaipppjgicaaGreatDoorPe.Patx
set_option linter.unusedVariables false
set_option linter.unusedSimpArgs false
set_option maxRecDepth 100000
namespace Go.Proofs.YtdhhaipppjgicaaGreatDoorPe.Patx
open Go Go.Proofs Go.Proofs.YtdhhaipppjgicaaGreatDoorPe Go.Proofs.YtdhhaipppjgicaaGreatDoorPe.PatxCode
theorem psymN (s:List UInt8):(symN s).p = .agg [.int .i64 2,.int .i64 0,.int .i64 0,.str s,.lst []]:=by rw[Nd.p_eq]; rfl
theorem pleafV (v:Vl):(leafV v).p = .agg [.int .i64 v.k,.int .i64 0,.int .i64 v.i,.str v.s,.lst []]:=by rw[Nd.p_eq]; rfl
theorem pvarN (s:List UInt8):(varN s).p = .agg [.int .i64 6,.int .i64 0,.int .i64 0,.str s,.lst []]:=by rw[Nd.p_eq]; rfl
theorem testsN_take {t:Tm} {l:List Ts} {i:Nat} (hi:i<l.length):testsN t (l.take (i+1))=testsN t (l.take i)++(testN t l[i]).toList:=by
 unfold testsN
 rw[take_succ_at hi,List.filterMap_append]
 rw[List.filterMap_cons]
 cases testN t l[i] <;> rfl
theorem testsN_le (t:Tm) (l:List Ts):(testsN t l).length<=l.length:=List.length_filterMap_le _ _
theorem pnode_t (p:Pt) (tl:List Tm) (hl:p.tests.length<=100000) (htl:tl.length<4611686018427387904) (hsl : ∀ t∈tl,t.slots.length<4611686018427387904) :
  tupV (callE efns given) (.call 0 f_pat_Node) [p.p,.lst (tl.map Tm.p)]=some (patN tl p).p:=by
 rw[patN,listN_p]
 refine call_good (f:=f_pat_Node) rfl ?_
 rw[callE_fn efns given (c:=e_pat_Node) rfl rfl]
 have hfi : ∃ b,tupV (callE efns given) (.call 0 f_pat_find) [.str p.t,.lst (tl.map Tm.p)]=some (.tuple [((findT p.t tl).getD zT).p,.bool b]):=by
  rw[pfind_t p.t tl htl]
  cases findT p.t tl with
  |none=>exact⟨false,rfl⟩
  |some t=>exact⟨true,rfl⟩
 obtain⟨fb,hfi⟩:=hfi
 have hsl':((findT p.t tl).getD zT).slots.length<4611686018427387904:=by
  cases hf:findT p.t tl with
  |none=>simp[zT]
  |some t=>exact hsl t (findT_mem hf)
 generalize (findT p.t tl).getD zT=t at *
 simp only[Tm.p] at hfi
 simp only[e_pat_Node,go_sem,Pt.p,hfi,List.length_map]
 refine Good.for p.tests.length (fun i fr st => ∃ out rows rt rest bts,fr=[.undef,.undef,.undef,.ptr 1 0,.ptr 2 0,.undef,.ptr 3 0]++List.replicate 5 .undef++[.lst (p.tests.map Ts.p),.int .i64 (p.tests.length:Int),.int .i64 (i:Int)]++List.replicate 16 .undef /\
   st=⟨[[.str p.t,.lst (p.tests.map Ts.p)],[.int .i64 0,.int .i64 0,.int .i64 0,.str [],.nils],[.str t.name,.lst (t.slots.map Sl.p)],[.int .i64 0,.int .i64 0,.int .i64 0,.str [],out]]++rest,rows,bts,rt⟩ /\
   OutV 5 T_pat_Node_0 ((symN p.t::testsN t (p.tests.take i)).map Nd.p) out rows rt/\rt.length=rows.length) ?_ ?_ ?_
 ·rintro i fr st hi ⟨out,rows,rt,rest,bts,rfl,rfl,hO,hr⟩ k hk
  have c1:((i:Int)<(p.tests.length:Int))=True:=eq_true (by omega)
  have hat:evIdx 6 (p.tests.map Ts.p) (i:Int)=some (.ref p.tests[i].cells):=idx_of (e:=p.tests[i].p) (map_at hi) rfl
  have htk:=testsN_take (t:=t) hi
  have hlen:((symN p.t::testsN t (p.tests.take i)).map Nd.p).length<=100001:=by
   have:=testsN_le t (p.tests.take i)
   simp at this ⊢
   omega
  rw[htk] at hk
  generalize p.tests[i]=x at hat hk
  have c3:((x.slot:Int)<0)=False:=eq_false (by omega)
  cases hs:t.slots[x.slot]? with
  |none =>
   have e:testN t x=none:=by unfold testN; rw[hs]; rfl
   rw[e,Option.toList_none,List.append_nil] at hk
   have c2:((x.slot:Int)>=(t.slots.length:Int))=True:=eq_true (by have:=List.getElem?_eq_none_iff.1 hs; omega)
   simp only[b_pat_Node_0,go_sem,List.length_map,c1,hat,Ts.cells,c3,c2,wrapN (n:=i) (by omega)]
   exact hk _ _ ⟨out,rows,rt,_,_,rfl,rfl,hO,hr⟩
  |some s =>
   have hlt:x.slot<t.slots.length:=(List.getElem?_eq_some_iff.1 hs).1
   have e:testN t x=some (listN [symN s.name,termN x]):=by unfold testN; rw[hs]; rfl
   have c2:((x.slot:Int)>=(t.slots.length:Int))=False:=eq_false (by omega)
   have hat2:evIdx 4 (t.slots.map Sl.p) (x.slot:Int)=some (.ref s.cells):=idx_of (e:=s.p) (by simp[hs]) rfl
   rw[e,Option.toList_some,<- List.cons_append,List.map_append,List.map_singleton] at hk
   obtain⟨out',rows',rt',ap,hO',hr',_⟩:=hO.app1 (b:=64) hr (e:=(listN [symN s.name,termN x]).p) (by rw[Nd.p_cells]; rfl) (by omega)
   rw[listN_p] at ap
   simp only[List.map_cons,List.map_nil,psymN,rawL] at ap
   simp only[Sl.cells] at hat2
   by_cases hv:x.var=[]
   ·have hv':(x.var=[])=True:=eq_true hv
    cases hno:x.no with
    |true =>
     have ht:(termN x).p = .agg [.int .i64 8,.int .i64 0,.int .i64 0,.str [],.lst [.agg [.int .i64 x.v.k,.int .i64 0,.int .i64 x.v.i,.str x.v.s,.lst []]]]:=by
      rw[termN,if_pos hno,Nd.p_eq,wantN,if_pos hv,Nd.cells,<- pleafV]
      rfl
     rw[ht] at ap
     simp only[b_pat_Node_0,go_sem,List.length_map,c1,hat,Ts.cells,c3,c2,hat2,ne_eq,hv',hno,ap,hO'.cells,hO'.cell,wrapN (n:=i) (by omega)]
     exact hk _ _ ⟨out',rows',rt',_,_,rfl,rfl,hO',hr'⟩
    |false =>
     have ht:(termN x).p = .agg [.int .i64 x.v.k,.int .i64 0,.int .i64 x.v.i,.str x.v.s,.lst []]:=by
      rw[termN,hno,if_neg (by simp),wantN,if_pos hv,<- pleafV]
     rw[ht] at ap
     simp only[b_pat_Node_0,go_sem,List.length_map,c1,hat,Ts.cells,c3,c2,hat2,ne_eq,hv',hno,ap,hO'.cells,hO'.cell,wrapN (n:=i) (by omega)]
     exact hk _ _ ⟨out',rows',rt',_,_,rfl,rfl,hO',hr'⟩
   ·have hv':(x.var=[])=False:=eq_false hv
    cases hno:x.no with
    |true =>
     have ht:(termN x).p = .agg [.int .i64 8,.int .i64 0,.int .i64 0,.str [],.lst [.agg [.int .i64 6,.int .i64 0,.int .i64 0,.str x.var,.lst []]]]:=by
      rw[termN,if_pos hno,Nd.p_eq,wantN,if_neg hv,Nd.cells,<- pvarN]
      rfl
     rw[ht] at ap
     simp only[b_pat_Node_0,go_sem,List.length_map,c1,hat,Ts.cells,c3,c2,hat2,ne_eq,hv',hno,ap,hO'.cells,hO'.cell,wrapN (n:=i) (by omega)]
     exact hk _ _ ⟨out',rows',rt',_,_,rfl,rfl,hO',hr'⟩
    |false =>
     have ht:(termN x).p = .agg [.int .i64 6,.int .i64 0,.int .i64 0,.str x.var,.lst []]:=by
      rw[termN,hno,if_neg (by simp),wantN,if_neg hv,<- pvarN]
     rw[ht] at ap
     simp only[b_pat_Node_0,go_sem,List.length_map,c1,hat,Ts.cells,c3,c2,hat2,ne_eq,hv',hno,ap,hO'.cells,hO'.cell,wrapN (n:=i) (by omega)]
     exact hk _ _ ⟨out',rows',rt',_,_,rfl,rfl,hO',hr'⟩
 ·rintro fr st ⟨out,rows,rt,rest,bts,rfl,rfl,hO,hr⟩ k
  simp only[b_pat_Node_0,go_sem,Int.lt_irrefl,hO.cells,hO.cell]
  refine Good.done ?_
  rw[List.take_length] at hO
  exact ret_agg (mS rfl (mS rfl (mS rfl (mS rfl (mS (hO.shutR _ _) mN)))))
 ·exact⟨_,_,_,[],_,rfl,rfl,.inl ⟨rfl,by simp only[List.map_cons,List.map_nil,List.take_zero,psymN]; rfl⟩,rfl⟩
theorem ts_eq (x y:Ts):(x=y)=(x.slot=y.slot/\x.no=y.no/\x.var=y.var/\x.v=y.v):=by cases x; cases y; simp
theorem pt_eq (x y:Pt):(x=y)=(x.t=y.t/\x.tests=y.tests):=by cases x; cases y; simp
theorem ptsame_c (x y:Ts) (st:St) : ∃ st2,callE efns given f_pat_Same_1 [.agg x.cells,.agg y.cells] st=some (.bool (decide (x=y)),st2)/\Grew st st2:=by
 have key:Good (fun v st2=>v = .bool (decide (x=y))/\Grew st st2) (callE efns given f_pat_Same_1 [.agg x.cells,.agg y.cells] st):=by
  rw[callE_fn efns given (c:=e_pat_Same_1) rfl rfl]
  have hv:=vsame_t x.v y.v
  simp only[Vl.p] at hv
  have g:Grew st ⟨st.boxes++[x.cells,y.cells],st.rows,st.bt++[T_pat_Same_1_0,T_pat_Same_1_0],st.rt⟩:=Grew.mk2 st _ _ rfl
  by_cases h1:x.slot=y.slot
  ·have h1':((x.slot:Int)=(y.slot:Int))=True:=eq_true (by omega)
   by_cases h2:x.no=y.no
   ·have h2':(x.no==y.no)=true:=by simp[h2]
    by_cases h3:x.var=y.var
    ·have e:decide (x=y)=decide (x.v=y.v):=by simp only[ts_eq,h1,h2,h3,true_and]
     rw[e]
     simp only[e_pat_Same_1,go_sem,Ts.cells,h1',h2',eq_true h3,hv]
     exact Good.done ⟨rfl,g⟩
    ·have e:decide (x=y)=false:=decide_eq_false (by rw[ts_eq]; exact fun h=>h3 h.2.2.1)
     rw[e]
     simp only[e_pat_Same_1,go_sem,Ts.cells,h1',h2',eq_false h3]
     exact Good.done ⟨rfl,g⟩
   ·have h2':(x.no==y.no)=false:=by simp[h2]
    have e:decide (x=y)=false:=decide_eq_false (by rw[ts_eq]; exact fun h=>h2 h.2.1)
    rw[e]
    simp only[e_pat_Same_1,go_sem,Ts.cells,h1',h2']
    exact Good.done ⟨rfl,g⟩
  ·have h1':((x.slot:Int)=(y.slot:Int))=False:=eq_false (by omega)
   have e:decide (x=y)=false:=decide_eq_false (by rw[ts_eq]; exact fun h=>h1 h.1)
   rw[e]
   simp only[e_pat_Same_1,go_sem,Ts.cells,h1']
   exact Good.done ⟨rfl,g⟩
 obtain⟨v,st2,h,rfl,g⟩:=key
 exact⟨st2,h,g⟩
theorem psame_t (a b:Pt) (hl:a.tests.length<4611686018427387904):tupV (callE efns given) (.call 0 f_pat_Same) [a.p,b.p]=some (.bool (decide (a=b))):=by
 refine call_good (f:=f_pat_Same) rfl ?_
 rw[callE_fn efns given (c:=e_pat_Same) rfl rfl]
 by_cases h1:a.t=b.t
 ·obtain⟨st',h,_⟩:=equalFunc_g (efns:=efns) (given:=given) (f:=f_slices_EqualFunc_pat_Test_pat_Test_pat_Test_pat_Test) (g:=f_pat_Same_1) (n:=6) (z:=[.int .i64 0,.bool false,.str [],.int .i64 0,.int .i64 0,.str []]) (T:=T_slices_EqualFunc_pat_Test_pat_Test_pat_Test_pat_Test_0)
   rfl rfl (cs:=Ts.cells) (eq:=fun x y=>decide (x=y)) (l:=a.tests) (m:=b.tests) (st:=⟨[[.str a.t,.lst (a.tests.map Ts.p)],[.str b.t,.lst (b.tests.map Ts.p)]],[],[T_pat_Same_0,T_pat_Same_0],[]⟩) hl (fun x=>⟨rfl,rfl⟩) (fun st' _ x _ y _=>ptsame_c x y st')
  rw[eqL_eq] at h
  have e:decide (a=b)=decide (a.tests=b.tests):=by simp only[pt_eq,h1,true_and]
  rw[e]
  change callE efns given f_slices_EqualFunc_pat_Test_pat_Test_pat_Test_pat_Test [.lst (a.tests.map Ts.p),.lst (b.tests.map Ts.p),.func f_pat_Same_1 []] _=_ at h
  simp only[e_pat_Same,go_sem,Pt.p,eq_true h1,h]
  exact Good.done rfl
 ·have e:decide (a=b)=false:=decide_eq_false (by rw[pt_eq]; exact fun h=>h1 h.1)
  rw[e]
  simp only[e_pat_Same,go_sem,Pt.p,eq_false h1]
  exact Good.done rfl
end Go.Proofs.YtdhhaipppjgicaaGreatDoorPe.Patx
set_option linter.unusedVariables false
set_option linter.unusedSimpArgs false
set_option maxRecDepth 100000
namespace Go.Proofs.YtdhhaipppjgicaaGreatDoorPe.Patx
open Go Go.Proofs Go.Proofs.YtdhhaipppjgicaaGreatDoorPe Go.Proofs.YtdhhaipppjgicaaGreatDoorPe.PatxCode
structure Fa where
 id:Int
 t:List UInt8
 vals:List Vl
def Fa.p (f:Fa):PV:=.agg [.int .i64 f.id,.str f.t,.lst (f.vals.map Vl.p)]
def EnvV (l:List Bi) (e:PV):Prop:=(e = .nils/\l=[])\/(e = .emp/\l=[])\/(e = .emc/\l=[])\/(e = .lst (l.map Bi.p)/\l≠[])
theorem EnvV.k {l:List Bi} {e:PV} (h:EnvV l e):shutK e=some e:=by
 rcases h with ⟨rfl,_⟩|⟨rfl,_⟩|⟨rfl,_⟩|⟨rfl,_⟩ <;> rfl
theorem EnvV.o {l:List Bi} {e:PV} (h:EnvV l e):shutO e=some e:=by
 rcases h with ⟨rfl,_⟩|⟨rfl,_⟩|⟨rfl,_⟩|⟨rfl,_⟩ <;> rfl
end Go.Proofs.YtdhhaipppjgicaaGreatDoorPe.Patx
set_option linter.unusedVariables false
set_option linter.unusedSimpArgs false
set_option maxRecDepth 100000
namespace Go.Proofs.YtdhhaipppjgicaaGreatDoorPe.Patx
open Go Go.Proofs Go.Proofs.YtdhhaipppjgicaaGreatDoorPe Go.Proofs.YtdhhaipppjgicaaGreatDoorPe.PatxCode
theorem str_at {l:List (List UInt8)} {i:Nat} (hi:i<l.length):evIdx 1 (l.map PV.str) (i:Int)=some (.ref [.str l[i]]):=idx_of (e:=.str l[i]) (map_at hi) rfl
theorem has_drop {s:List UInt8} {l:List (List UInt8)} {n:Nat} (h : ∀ x∈l.take n,x≠s):l.contains s=(l.drop n).contains s:=by
 induction n generalizing l with
 |zero=>simp
 |succ n ih =>
  cases l with
  |nil=>simp
  |cons x l =>
   have hx:=h x (by simp)
   have:=ih (l:=l) (fun y hy=>h y (by simp[hy]))
   rw[List.drop_succ_cons,<- this,List.contains_cons]
   have:(s==x)=false:=by simpa using fun e=>hx e.symm
   rw[this,Bool.false_or]
theorem pcontains_t (l:List (List UInt8)) (s:List UInt8) (hl:l.length<4611686018427387904):tupV (callE efns given) (.call 0 f_slices_Contains_string_string) [.lst (l.map PV.str),.str s]=some (.bool (l.contains s)):=by
 have hi : ∃ n:Int,tupV (callE efns given) (.call 0 f_slices_Index_string_string) [.lst (l.map PV.str),.str s]=some (.int .i64 n)/\decide (n>=0)=l.contains s:=by
  have hg:Good (RetQ fun r => ∃ n:Int,r = .int .i64 n/\decide (n>=0)=l.contains s) (callE efns given f_slices_Index_string_string [.lst (l.map PV.str),.str s] ⟨[],[],[],[]⟩):=by
   rw[callE_fn efns given (c:=e_slices_Index_string_string) rfl rfl]
   simp only[e_slices_Index_string_string,go_sem,List.length_map]
   refine Good.for l.length (fun i fr st=>fr=[.lst (l.map PV.str),.str s,.int .i64 (l.length:Int),.int .i64 (i:Int)]/\st=⟨[],[],[],[]⟩ /\ ∀ x∈l.take i,x≠s) ?_ ?_ ?_
   ·rintro i fr st hi ⟨rfl,rfl,hh⟩ k hk
    have c1:((i:Int)<(l.length:Int))=True:=eq_true (by omega)
    have hat:=str_at hi
    by_cases hx:s=l[i]
    ·simp only[b_slices_Index_string_string_0,go_sem,c1,hat,eq_true hx]
     refine Good.done ⟨_,rfl,_,rfl,?_⟩
     rw[has_drop hh,List.drop_eq_getElem_cons hi,List.contains_cons]
     rw[decide_eq_true (by omega)]
     simp[hx]
    ·simp only[b_slices_Index_string_string_0,go_sem,c1,hat,eq_false hx,wrapN (n:=i) (by omega)]
     refine hk _ _ ⟨rfl,rfl,fun x hx' => ?_⟩
     rw[take_succ_at hi,List.mem_append,List.mem_singleton] at hx'
     rcases hx' with hx'|rfl
     ·exact hh x hx'
     ·exact fun e=>hx e.symm
   ·rintro fr st ⟨rfl,rfl,hh⟩ k
    simp only[b_slices_Index_string_string_0,go_sem,Int.lt_irrefl]
    refine Good.done ⟨_,rfl,_,rfl,?_⟩
    rw[has_drop hh,List.drop_length]
    rfl
   ·exact⟨rfl,rfl,by simp⟩
  obtain⟨r,h1,n,rfl,h2⟩:=call_someG (vs:=[.lst (l.map PV.str),.str s]) rfl hg
  exact⟨n,h1,h2⟩
 obtain⟨n,h1,h2⟩:=hi
 refine call_good (f:=f_slices_Contains_string_string) rfl ?_
 rw[callE_fn efns given (c:=e_slices_Contains_string_string) rfl rfl]
 simp only[e_slices_Contains_string_string,go_sem,h1]
 exact Good.done (by rw[<- h2]; rfl)
theorem pcontainsv_t {n:Nat} {T:TypeId} {l:List (List UInt8)} {x:PV} {rows:List (Nat × Nat)} {rt:List TypeId} (s:List UInt8) (h:OutV n T (l.map PV.str) x rows rt) (hl:l.length<4611686018427387904) :
  tupV (callE efns given) (.call 0 f_slices_Contains_string_string) [x,.str s]=some (.bool (l.contains s)):=by
 rw[<- pcontains_t l s hl]
 exact tup_shut (by rw[argF_0]; exact (mS (h.shutA _) (mS rfl mN)).trans rfl)
theorem pclips_t {l:List (List UInt8)} {x:PV} {n:Nat} {T:TypeId} {rows:List (Nat × Nat)} {rt:List TypeId} (h:OutV n T (l.map PV.str) x rows rt) (hl:l.length<4611686018427387904):tupV (callE efns given) (.call 1 f_slices_Clip_string_string) [x]=some (.full (l.map PV.str)):=by
 refine callV_of («as» := [.lst (l.map PV.str)]) (r:=.full (l.map PV.str)) (st:=⟨[],[],[],[]⟩) (mS (h.shutA 5) mN) ?_ rfl
 rw[callE_fn efns given (c:=e_slices_Clip_string_string) rfl rfl]
 have hs:lsubV 1 (.lst (l.map PV.str)) none (some (.int .i64 (l.length:Int))) (some (.int .i64 (l.length:Int)))=some (.full (l.map PV.str)):=by
  have e1:sizesOk 1 0 (l.map PV.str)=true:=by unfold sizesOk; simp
  have b1:bnd (some (.int .i64 (l.length:Int))) l.length l.length=some l.length:=by simp[bnd]
  simp only[lsubV,hsOf,n_lst,slcOf,List.length_map,b1,show bnd none l.length 0=some 0 from rfl,e1,if_true,List.drop_zero]
  rw[show l.length=(l.map PV.str).length from by simp,List.take_length]
 simp only[e_slices_Clip_string_string,go_sem,List.length_map,hs]
theorem varsT_len (l:List (List UInt8)) (x:Ts):(varsT l x).length<=l.length+1:=by
 unfold varsT putS
 split
 ·omega
 ·split <;> simp
theorem pvars_t (p:Pt) (hp:p.tests.length<=10000):tupV (callE efns given) (.call 0 f_pat_Pattern_Vars) [p.p]=some (.lst ((varsM p).map PV.str)):=by
 refine call_good (f:=f_pat_Pattern_Vars) rfl ?_
 rw[callE_fn efns given (c:=e_pat_Pattern_Vars) rfl rfl]
 unfold varsM
 simp only[e_pat_Pattern_Vars,go_sem,Pt.p,List.length_map]
 refine Good.for p.tests.length (fun i fr st => ∃ out rows rt rest bts l,fr=[.undef,.undef,out,.undef,.lst (p.tests.map Ts.p),.int .i64 (p.tests.length:Int),.int .i64 (i:Int)]++List.replicate 5 .undef /\
   st=⟨[[.str p.t,.lst (p.tests.map Ts.p)]]++rest,rows,bts,rt⟩/\OutV 1 T_pat_Pattern_Vars_0 (l.map PV.str) out rows rt/\rt.length=rows.length/\l.length<=i/\p.tests.foldl varsT []=(p.tests.drop i).foldl varsT l) ?_ ?_ ?_
 ·rintro i fr st hi ⟨out,rows,rt,rest,bts,l,rfl,rfl,hO,hr,hll,hh⟩ k hk
  have c1:((i:Int)<(p.tests.length:Int))=True:=eq_true (by omega)
  have hat:evIdx 6 (p.tests.map Ts.p) (i:Int)=some (.ref p.tests[i].cells):=idx_of (e:=p.tests[i].p) (map_at hi) rfl
  rw[List.drop_eq_getElem_cons hi,List.foldl_cons] at hh
  generalize p.tests[i]=x at hat hh
  unfold varsT at hh
  by_cases hx:x.var=[]
  ·rw[if_pos (.inl hx)] at hh
   simp only[b_pat_Pattern_Vars_0,go_sem,c1,hat,Ts.cells,eq_true hx,ne_eq,wrapN (n:=i) (by omega)]
   exact hk _ _ ⟨out,rows,rt,_,_,l,rfl,rfl,hO,hr,by omega,hh⟩
  ·cases hno:x.no with
   |true =>
    rw[if_pos (.inr hno)] at hh
    simp only[b_pat_Pattern_Vars_0,go_sem,c1,hat,Ts.cells,eq_false hx,hno,ne_eq,wrapN (n:=i) (by omega)]
    exact hk _ _ ⟨out,rows,rt,_,_,l,rfl,rfl,hO,hr,by omega,hh⟩
   |false =>
    rw[if_neg (by simp[hx,hno])] at hh
    have hc:=pcontainsv_t x.var hO (by omega)
    unfold putS at hh
    cases hcc:l.contains x.var with
    |true =>
     rw[hcc] at hc
     rw[hcc,if_pos rfl] at hh
     simp only[b_pat_Pattern_Vars_0,go_sem,c1,hat,Ts.cells,eq_false hx,hno,ne_eq,hc,wrapN (n:=i) (by omega)]
     exact hk _ _ ⟨out,rows,rt,_,_,l,rfl,rfl,hO,hr,by omega,hh⟩
    |false =>
     rw[hcc] at hc
     rw[hcc,if_neg (by simp)] at hh
     obtain⟨out',rows',rt',ap,hO',hr',_⟩:=hO.app1 (b:=16) hr (e:=.str x.var) rfl (by simp; omega)
     simp only[b_pat_Pattern_Vars_0,go_sem,c1,hat,Ts.cells,eq_false hx,hno,ne_eq,hc,ap,wrapN (n:=i) (by omega)]
     refine hk _ _ ⟨out',rows',rt',_,_,l++[x.var],rfl,rfl,?_,hr',by simp; omega,hh⟩
     rw[List.map_append,List.map_singleton]
     exact hO'
 ·rintro fr st ⟨out,rows,rt,rest,bts,l,rfl,rfl,hO,hr,hll,hh⟩ k
  have hc:=pclips_t hO (by omega)
  simp only[b_pat_Pattern_Vars_0,go_sem,Int.lt_irrefl,hc]
  refine Good.done ?_
  rw[List.drop_length] at hh
  rw[hh]
  rfl
 ·exact⟨.nils,[],[],[],_,[],rfl,rfl,.nils,rfl,by simp,rfl⟩
theorem rhas_t (l:List (List UInt8)) (s:List UInt8) (hl:l.length<4611686018427387904):tupV (callE efns given) (.call 0 f_ref7_Has) [.lst (l.map PV.str),.str s]=some (.bool (l.contains s)):=by
 refine call_good (f:=f_ref7_Has) rfl ?_
 rw[callE_fn efns given (c:=e_ref7_Has) rfl rfl]
 simp only[e_ref7_Has,go_sem]
 refine Good.for l.length (fun i fr st=>fr=[.lst (l.map PV.str),.str s,.int .i64 (i:Int)]/\st=⟨[],[],[],[]⟩ /\ ∀ x∈l.take i,x≠s) ?_ ?_ ?_
 ·rintro i fr st hi ⟨rfl,rfl,hh⟩ k hk
  have c1:((i:Int)<(l.length:Int))=True:=eq_true (by omega)
  have hat:=str_at hi
  by_cases hx:l[i]=s
  ·simp only[b_ref7_Has_0,go_sem,List.length_map,c1,hat,eq_true hx]
   refine Good.done ?_
   rw[has_drop hh,List.drop_eq_getElem_cons hi,List.contains_cons,hx]
   simp
   rfl
  ·simp only[b_ref7_Has_0,go_sem,List.length_map,c1,hat,eq_false hx,wrapN (n:=i) (by omega)]
   refine hk _ _ ⟨rfl,rfl,fun x hx' => ?_⟩
   rw[take_succ_at hi,List.mem_append,List.mem_singleton] at hx'
   rcases hx' with hx'|rfl
   ·exact hh x hx'
   ·exact hx
 ·rintro fr st ⟨rfl,rfl,hh⟩ k
  simp only[b_ref7_Has_0,go_sem,List.length_map,Int.lt_irrefl]
  refine Good.done ?_
  rw[has_drop hh,List.drop_length]
  rfl
 ·exact⟨rfl,rfl,by simp⟩
theorem str_sz (l:List (List UInt8)):szAll 1 (l.map PV.str)=true:=List.all_eq_true.2 fun e he=>by
 obtain⟨x,_,rfl⟩:=List.mem_map.1 he
 rfl
theorem rput_t (l:List (List UInt8)) (s:List UInt8) (hl:l.length<=1000000):tupV (callE efns given) (.call 0 f_ref7_Put) [.lst (l.map PV.str),.str s]=some (.lst ((putS l s).map PV.str)):=by
 refine call_good (f:=f_ref7_Put) rfl ?_
 rw[callE_fn efns given (c:=e_ref7_Put) rfl rfl]
 have hh:=rhas_t l s (by omega)
 unfold putS
 cases hc:l.contains s with
 |true =>
  rw[hc] at hh
  simp only[e_ref7_Put,go_sem,hh]
  exact Good.done rfl
 |false =>
  rw[hc] at hh
  have hO:OutV 1 T_ref7_Put_0 [] .emp [] []:=.inl ⟨rfl,rfl⟩
  obtain⟨o1,r1,t1,a1,hO1,hr1,_⟩:=hO.app (b:=16) rfl (es:=l.map PV.str) (str_sz l) (by simp; omega)
  obtain⟨o2,r2,t2,a2,hO2,hr2,_⟩:=hO1.app1 (b:=16) hr1 (e:=.str s) rfl (by simp; omega)
  simp only[go_sem] at a1
  simp only[e_ref7_Put,go_sem,hh,a1,a2]
  refine Good.done ?_
  simp only[Bool.false_eq_true,if_false,List.map_append,List.map_singleton]
  exact hO2.shutR _ _
theorem rvars_t (p:Pt) (hp:p.tests.length<=10000):tupV (callE efns given) (.call 0 f_ref11_Pattern_Vars) [p.p]=some (.lst ((varsM p).map PV.str)):=by
 refine call_good (f:=f_ref11_Pattern_Vars) rfl ?_
 rw[callE_fn efns given (c:=e_ref11_Pattern_Vars) rfl rfl]
 unfold varsM
 simp only[e_ref11_Pattern_Vars,go_sem,Pt.p]
 refine Good.for p.tests.length (fun i fr st => ∃ out l,fr=[.undef,.ptr 0 0,out,.int .i64 (i:Int)]++List.replicate 4 .undef /\
   st=⟨[[.str p.t,.lst (p.tests.map Ts.p)]],[],[T_ref11_Pattern_Vars_0],[]⟩/\SlV (l.map PV.str) out/\l.length<=i/\p.tests.foldl varsT []=(p.tests.drop i).foldl varsT l) ?_ ?_ ?_
 ·rintro i fr st hi ⟨out,l,rfl,rfl,hO,hll,hh⟩ k hk
  have c1:((i:Int)<(p.tests.length:Int))=True:=eq_true (by omega)
  have hat:evIdx 6 (p.tests.map Ts.p) (i:Int)=some (.ref p.tests[i].cells):=idx_of (e:=p.tests[i].p) (map_at hi) rfl
  rw[List.drop_eq_getElem_cons hi,List.foldl_cons] at hh
  generalize p.tests[i]=x at hat hh
  have hl2:=varsT_len l x
  unfold varsT at hh hl2
  by_cases hx:x.var=[]
  ·rw[if_pos (.inl hx)] at hh
   simp only[b_ref11_Pattern_Vars_0,go_sem,List.length_map,c1,hat,Ts.cells,eq_true hx,ne_eq,wrapN (n:=i) (by omega)]
   exact hk _ _ ⟨out,l,rfl,rfl,hO,by omega,hh⟩
  ·cases hno:x.no with
   |true =>
    rw[if_pos (.inr hno)] at hh
    simp only[b_ref11_Pattern_Vars_0,go_sem,List.length_map,c1,hat,Ts.cells,eq_false hx,hno,ne_eq,wrapN (n:=i) (by omega)]
    exact hk _ _ ⟨out,l,rfl,rfl,hO,by omega,hh⟩
   |false =>
    rw[if_neg (by simp[hx,hno])] at hh hl2
    have hc:tupV (callE efns given) (.call 0 f_ref7_Put) [out,.str x.var]=some (.lst ((putS l x.var).map PV.str)):=by
     rw[<- rput_t l x.var (by omega)]
     exact tup_shut (by rw[argF_0]; exact (mS (hO.shutA _) (mS rfl mN)).trans rfl)
    simp only[b_ref11_Pattern_Vars_0,go_sem,List.length_map,c1,hat,Ts.cells,eq_false hx,hno,ne_eq,hc,wrapN (n:=i) (by omega)]
    exact hk _ _ ⟨_,putS l x.var,rfl,rfl,rfl,by omega,hh⟩
 ·rintro fr st ⟨out,l,rfl,rfl,hO,hll,hh⟩ k
  simp only[b_ref11_Pattern_Vars_0,go_sem,List.length_map,Int.lt_irrefl]
  refine Good.done ?_
  rw[List.drop_length] at hh
  rw[hh]
  exact hO.shutR _ _
 ·exact⟨.nils,[],rfl,rfl,rfl,by simp,rfl⟩
theorem names_t (a b:List (List UInt8)) (hl:a.length<4611686018427387904):tupV (callE efns given) (.call 0 f_law7_Names) [.lst (a.map PV.str),.lst (b.map PV.str)]=some (.bool (decide (a=b))):=by
 refine call_good (f:=f_law7_Names) rfl ?_
 rw[callE_fn efns given (c:=e_law7_Names) rfl rfl]
 by_cases h2:a.length=b.length
 ·have h2':((a.length:Int)=(b.length:Int))=True:=eq_true (by omega)
  rw[<- eqL_eq]
  simp only[e_law7_Names,go_sem,List.length_map,h2',ne_eq]
  refine Good.for a.length (fun i fr st=>fr=[.lst (a.map PV.str),.lst (b.map PV.str),.int .i64 (i:Int)]/\st=⟨[],[],[],[]⟩ /\
   eqL (fun x y=>decide (x=y)) a b=eqL (fun x y=>decide (x=y)) (a.drop i) (b.drop i)) ?_ ?_ ?_
  ·rintro i fr st hi ⟨rfl,rfl,hh⟩ k hk
   have hi':i<b.length:=by omega
   have c1:((i:Int)<(a.length:Int))=True:=eq_true (by omega)
   have hat:=str_at hi
   have hat2:=str_at hi'
   rw[List.drop_eq_getElem_cons hi,List.drop_eq_getElem_cons hi',eqL] at hh
   by_cases h3:a[i]=b[i]
   ·rw[decide_eq_true h3,Bool.true_and] at hh
    simp only[b_law7_Names_0,go_sem,List.length_map,c1,hat,hat2,eq_true h3,ne_eq,wrapN (n:=i) (by omega)]
    exact hk _ _ ⟨rfl,rfl,hh⟩
   ·rw[decide_eq_false h3,Bool.false_and] at hh
    simp only[b_law7_Names_0,go_sem,List.length_map,c1,hat,hat2,eq_false h3,ne_eq]
    exact Good.done (by rw[hh]; rfl)
  ·rintro fr st ⟨rfl,rfl,hh⟩ k
   simp only[b_law7_Names_0,go_sem,List.length_map,Int.lt_irrefl]
   refine Good.done ?_
   rw[hh,List.drop_eq_nil_of_le (Nat.le_refl _),List.drop_eq_nil_of_le (by omega)]
   rfl
  ·exact⟨rfl,rfl,rfl⟩
 ·have h2':((a.length:Int)=(b.length:Int))=False:=eq_false (by omega)
  have e:decide (a=b)=false:=decide_eq_false (fun h=>h2 (by rw[h]))
  rw[e]
  simp only[e_law7_Names,go_sem,List.length_map,h2',ne_eq]
  exact Good.done rfl
end Go.Proofs.YtdhhaipppjgicaaGreatDoorPe.Patx
set_option linter.unusedVariables false
set_option linter.unusedSimpArgs false
set_option maxRecDepth 100000
namespace Go.Proofs.YtdhhaipppjgicaaGreatDoorPe.Patx
open Go Go.Proofs Go.Proofs.YtdhhaipppjgicaaGreatDoorPe Go.Proofs.YtdhhaipppjgicaaGreatDoorPe.PatxCode
theorem Good.forF {cl:CallF} {m:List Bool} {a:EC} {K:EX->Fr->St->Option (PV × St)} {Q:PV->St->Prop} {fr:Fr} {st:St} (N:Nat) (F:Nat->Fr)
  (hstep : ∀ n,n<N -> ∀ k:Fr->St->Option (PV × St),Good Q (k (F (n+1)) st)->Good Q (runE cl a (F n) st (seqK (fun fr st=>k (mask m fr) st) K)))
  (hend : ∀ k:Fr->St->Option (PV × St),Good Q (runE cl a (F N) st (seqK (fun fr st=>k (mask m fr) st) K))) (h:fr=F 0):Good Q (runL cl m a fr st K):=by
 refine Good.for N (fun n fr st'=>fr=F n/\st'=st) ?_ ?_ ⟨h,rfl⟩
 ·rintro n fr st' hn ⟨rfl,rfl⟩ k hk
  exact hstep n hn k (hk _ _ ⟨rfl,rfl⟩)
 ·rintro fr st' ⟨rfl,rfl⟩ k
  exact hend k
theorem placeT_drop {s:List UInt8} {l:List Tm} {n:Nat} (h : ∀ x∈l.take n,x.name≠s):placeT s l=(placeT s (l.drop n)).map (· + n):=by
 induction n generalizing l with
 |zero=>simp
 |succ n ih =>
  cases l with
  |nil=>simp[placeT]
  |cons x l =>
   have hx:=h x (by simp)
   have:=ih (l:=l) (fun y hy=>h y (by simp[hy]))
   simp only[placeT,hx,if_false,List.drop_succ_cons,this,Option.map_map]
   congr 1
theorem tm_at {l:List Tm} {i:Nat} (hi:i<l.length):evIdx 2 (l.map Tm.p) (i:Int)=some (.ref [.str l[i].name,.lst (l[i].slots.map Sl.p)]):=idx_of (e:=l[i].p) (map_at hi) rfl
theorem ts_at {l:List Ts} {i:Nat} (hi:i<l.length):evIdx 6 (l.map Ts.p) (i:Int)=some (.ref [.int .i64 (l[i].slot:Int),.bool l[i].no,.str l[i].var,.int .i64 l[i].v.k,.int .i64 l[i].v.i,.str l[i].v.s]):=idx_of (e:=l[i].p) (map_at hi) rfl
theorem rfind_t (s:List UInt8) (l:List Tm) (hl:l.length<4611686018427387904):tupV (callE efns given) (.call 0 f_ref9_Find) [.lst (l.map Tm.p),.str s]=some (.int .i64 (idxI (placeT s l))):=by
 refine call_good (f:=f_ref9_Find) rfl ?_
 rw[callE_fn efns given (c:=e_ref9_Find) rfl rfl]
 simp only[e_ref9_Find,go_sem]
 refine Good.for l.length (fun i fr st=>fr=[.lst (l.map Tm.p),.str s,.int .i64 (i:Int)]/\st=⟨[],[],[],[]⟩ /\ ∀ x∈l.take i,x.name≠s) ?_ ?_ ?_
 ·rintro i fr st hi ⟨rfl,rfl,hh⟩ k hk
  have c1:((i:Int)<(l.length:Int))=True:=eq_true (by omega)
  have hat:=tm_at hi
  by_cases hx:l[i].name=s
  ·simp only[b_ref9_Find_0,go_sem,List.length_map,c1,hat,eq_true hx]
   refine Good.done ?_
   rw[placeT_drop hh,List.drop_eq_getElem_cons hi,placeT,if_pos hx]
   simp[idxI]
   rfl
  ·simp only[b_ref9_Find_0,go_sem,List.length_map,c1,hat,eq_false hx,wrapN (n:=i) (by omega)]
   refine hk _ _ ⟨rfl,rfl,fun x hx' => ?_⟩
   rw[take_succ_at hi,List.mem_append,List.mem_singleton] at hx'
   rcases hx' with hx'|rfl
   ·exact hh x hx'
   ·exact hx
 ·rintro fr st ⟨rfl,rfl,hh⟩ k
  simp only[b_ref9_Find_0,go_sem,List.length_map,Int.lt_irrefl]
  refine Good.done ?_
  rw[placeT_drop hh,List.drop_length]
  rfl
 ·exact⟨rfl,rfl,by simp⟩
theorem rterm0_t (n:Nd) (h8 : ¬ n.k=8) (no:Bool) : ∃ (x:Ts) (b:Bool),tupV (callE efns given) (.call 0 f_ref11_term) [n.p]=some (.tuple [x.p,.bool b])/\x.slot=0/\x.no=false/\coreM no n=if b=true then some { x with no:=no } else none:=by
 have h8':(n.k=8)=False:=eq_false h8
 have run : ∀ (x:Ts) (b:Bool),Good (Ret (.tuple [x.p,.bool b])) (callE efns given f_ref11_term [n.p] ⟨[],[],[],[]⟩)->x.slot=0->x.no=false->coreM no n=(if b=true then some { x with no:=no } else none) ->
   ∃ (x:Ts) (b:Bool),tupV (callE efns given) (.call 0 f_ref11_term) [n.p]=some (.tuple [x.p,.bool b])/\x.slot=0/\x.no=false/\coreM no n=if b=true then some { x with no:=no } else none :=
  fun x b h1 h2 h3 h4=>⟨x,b,call_good (f:=f_ref11_term) (by rw[Nd.p_eq]; rfl) h1,h2,h3,h4⟩
 by_cases h6:n.k=6
 ·refine run ⟨0,false,n.s,zV⟩ true ?_ rfl rfl (by simp[coreM,h6])
  rw[callE_fn efns given (c:=e_ref11_term) rfl rfl,Nd.p_eq]
  simp only[e_ref11_term,go_sem,Nd.cells,eq_true h6,h8']
  exact Good.done rfl
 ·have hv:=value_t n
  rw[Nd.p_eq] at hv
  cases hm:valM n with
  |none =>
   rw[hm] at hv
   simp only[Nd.cells,valV,Vl.p] at hv
   refine run ⟨0,false,[],zV⟩ false ?_ rfl rfl (by simp[coreM,h6,hm])
   rw[callE_fn efns given (c:=e_ref11_term) rfl rfl,Nd.p_eq]
   simp only[e_ref11_term,go_sem,Nd.cells,eq_false h6,h8',hv]
   exact Good.done rfl
  |some w =>
   rw[hm] at hv
   simp only[Nd.cells,valV,Vl.p] at hv
   refine run ⟨0,false,[],w⟩ true ?_ rfl rfl (by simp[coreM,h6,hm])
   rw[callE_fn efns given (c:=e_ref11_term) rfl rfl,Nd.p_eq]
   simp only[e_ref11_term,go_sem,Nd.cells,eq_false h6,h8',hv]
   exact Good.done rfl
theorem rterm_t (n:Nd) (hn:NoN n) : ∃ (x:Ts) (b:Bool),tupV (callE efns given) (.call 0 f_ref11_term) [n.p]=some (.tuple [x.p,.bool b])/\x.slot=0/\termM n=if b=true then some x else none:=by
 by_cases h8:n.k=8
 ·have h8':(n.k=8)=True:=eq_true h8
  have run : ∀ (x:Ts) (b:Bool),Good (Ret (.tuple [x.p,.bool b])) (callE efns given f_ref11_term [n.p] ⟨[],[],[],[]⟩)->x.slot=0->termM n=(if b=true then some x else none) ->
    ∃ (x:Ts) (b:Bool),tupV (callE efns given) (.call 0 f_ref11_term) [n.p]=some (.tuple [x.p,.bool b])/\x.slot=0/\termM n=if b=true then some x else none :=
   fun x b h1 h2 h3=>⟨x,b,call_good (f:=f_ref11_term) (by rw[Nd.p_eq]; rfl) h1,h2,h3⟩
  match hk:n.kids with
  |[x] =>
   obtain⟨y,b,q1,q2,q3,q4⟩:=rterm0_t x (hn x h8 hk) true
   have hat:evIdx 5 [x.p] 0=some (.ref x.cells):=Nd.at_ (l:=[x]) (n:=0) (by simp)
   refine run { y with no:=true } b ?_ q2 (by unfold termM; rw[if_pos h8,hk]; exact q4)
   rw[callE_fn efns given (c:=e_ref11_term) rfl rfl,Nd.p_eq]
   rw[Nd.p_eq] at q1
   simp only[Nd.cells,Ts.p] at hat q1
   simp only[e_ref11_term,go_sem,Nd.cells,h8',hk,List.map_cons,List.map_nil,hat,q1]
   exact Good.done rfl
  |[] =>
   have hv:=value_t n
   have hm:valM n=none:=by unfold valM; rw[if_neg (by omega)]
   rw[Nd.p_eq,hm] at hv
   refine run ⟨0,false,[],zV⟩ false ?_ rfl (by simp[termM,h8,hk])
   rw[callE_fn efns given (c:=e_ref11_term) rfl rfl,Nd.p_eq]
   simp only[Nd.cells,valV,Vl.p,hk,h8,List.map_nil] at hv
   simp only[e_ref11_term,go_sem,Nd.cells,hk,h8,List.map_nil,hv]
   exact Good.done rfl
  |a::b::l =>
   have hv:=value_t n
   have hm:valM n=none:=by unfold valM; rw[if_neg (by omega)]
   rw[Nd.p_eq,hm] at hv
   refine run ⟨0,false,[],zV⟩ false ?_ rfl (by simp[termM,h8,hk])
   rw[callE_fn efns given (c:=e_ref11_term) rfl rfl,Nd.p_eq]
   have c1:(((l.length+2:Nat):Int)=1)=False:=eq_false (by omega)
   simp only[Nd.cells,valV,Vl.p,hk,h8,List.map_cons] at hv
   simp only[e_ref11_term,go_sem,Nd.cells,hk,h8,List.map_cons,List.length_map,hv,c1]
   exact Good.done rfl
 ·obtain⟨y,b,q1,q2,q3,q4⟩:=rterm0_t n h8 false
  refine⟨y,b,q1,q2,?_⟩
  unfold termM
  rw[if_neg h8,q4]
  obtain⟨slot,no,var,v⟩:=y
  simp only at q3
  subst q3
  rfl
def rpparseV:Except (Int × Int) Pt->PV
 |.ok p=>.tuple [p.p,noneW]
 |.error q=>.tuple [zPt.p,wrongV q.1 q.2]
theorem has_take {i:Nat} {l:List Ts} {j:Nat} (hj:j<l.length):hasS i (l.take (j+1))=(hasS i (l.take j)||decide (l[j].slot=i)):=by
 unfold hasS
 rw[take_succ_at hj,List.any_append]
 simp
theorem placeT_find {s:List UInt8} {l:List Tm} {t:Tm} (h:findT s l=some t) : ∃ (i:Nat) (hi:i<l.length),placeT s l=some i/\l[i]=t:=by
 cases hp:placeT s l with
 |none=>rw[placeT_none hp] at h; cases h
 |some i =>
  obtain⟨t',h1,h2⟩:=placeT_some hp
  rw[h] at h2
  cases h2
  obtain⟨hi,h3⟩:=List.getElem?_eq_some_iff.1 h1
  exact⟨i,hi,rfl,h3⟩
theorem placeT_nf {s:List UInt8} {l:List Tm} (h:findT s l=none):placeT s l=none:=by
 cases hp:placeT s l with
 |none=>rfl
 |some i =>
  obtain⟨t',h1,h2⟩:=placeT_some hp
  rw[h] at h2
  cases h2
theorem rpparse_t (n:Nd) (tl:List Tm) (hn:NoN2 n) (hl:n.kids.length<=100000) (htl:tl.length<4611686018427387904) (hts : ∀ t∈tl,t.slots.length<4611686018427387904) :
  tupV (callE efns given) (.call 0 f_ref11_Parse) [n.p,.lst (tl.map Tm.p)]=some (rpparseV (patM tl n)):=by
 have hh:=head_t n
 have hf:=fun p e=>at_t (p:=p) (e:=e)
 simp only[Nd.p_eq n] at hh ⊢
 refine call_good (f:=f_ref11_Parse) rfl ?_
 simp only[Nd.cells] at hh
 simp only[sChar,wrongV] at hf
 unfold patM
 by_cases h1:headM n=[]
 ·have h1':(headM n=[])=True:=eq_true h1
  rw[if_pos h1]
  rw[callE_fn efns given (c:=e_ref11_Parse) rfl rfl]
  simp only[e_ref11_Parse,go_sem,Nd.cells,hh,hf,h1']
  exact Good.done rfl
 ·have h1':(headM n=[])=False:=eq_false h1
  have hfi:=rfind_t (headM n) tl htl
  rw[if_neg h1]
  cases ht:findT (headM n) tl with
  |none =>
   rw[placeT_nf ht] at hfi
   simp only[idxI] at hfi
   rw[callE_fn efns given (c:=e_ref11_Parse) rfl rfl]
   simp only[e_ref11_Parse,go_sem,Nd.cells,hh,hf,h1',hfi]
   exact Good.done rfl
  |some t =>
   obtain⟨ti,hti,hpl,hte⟩:=placeT_find ht
   have htat:=tm_at hti
   rw[hte] at htat
   rw[hpl] at hfi
   simp only[idxI] at hfi
   have c0:((ti:Int)<0)=False:=eq_false (by omega)
   match hk:n.kids with
   |[]=>exact absurd (by unfold headM; rw[hk]; split <;> rfl) h1
   |a::l =>
    rw[hk] at hh hl
    have hnn : ∀ x∈l,∀ y∈x.kids,NoN y:=fun x hx=>hn x (by rw[hk]; exact List.mem_cons_of_mem _ hx)
    simp only[List.map_cons] at hh
    simp only[List.length_cons] at hl
    have hsl:=hts t (findT_mem ht)
    rw[callE_fn efns given (c:=e_ref11_Parse) rfl rfl]
    simp only[e_ref11_Parse,go_sem,Nd.cells,hk,hh,hf,h1',hfi,c0,List.map_cons]
    generalize hnm:headM n=nm at *
    show Good (Ret (rpparseV (patR nm t l []))) _
    refine Good.for l.length (fun i fr st => ∃ out rows rt rest bts ts,fr=[.undef,.lst (tl.map Tm.p),.ptr 0 0,.ptr 1 0,.ptr 2 0,.undef,.int .i64 (ti:Int),.ptr 3 0,.int .i64 ((i+1:Nat):Int)]++List.replicate 26 .undef /\
     st=⟨[[.int .i64 n.k,.int .i64 n.pos,.int .i64 n.i,.str n.s,.lst (a.p::l.map Nd.p)],[.str [],.nils],[.nils,.int .i64 0],[.str nm,out]]++rest,rows,bts,rt⟩ /\
     OutV 6 T_ref11_Parse_0 (ts.map Ts.p) out rows rt/\rt.length=rows.length/\ts.length=i/\patR nm t l []=patR nm t (l.drop i) ts) ?_ ?_ ?_
    ·rintro i fr st hi ⟨out,rows,rt,rest,bts,ts,rfl,rfl,hO,hr,htl,he⟩ k hk2
     have c2:(((i+1:Nat):Int)<((l.length+1:Nat):Int))=True:=eq_true (by omega)
     have hy:=hnn l[i] (List.getElem_mem hi)
     rw[List.drop_eq_getElem_cons hi,patR_cons] at he
     have hat2:evIdx 5 (a.p::l.map Nd.p) ((i+1:Nat):Int)=some (.ref l[i].cells):=by
      have:=Nd.at_ (l:=a::l) (n:=i+1) (by simp; omega)
      simpa using this
     generalize l[i]=y at hy he hat2
     have h6:=head_t y
     rw[Nd.p_eq] at h6
     simp only[Nd.cells] at h6 hat2
     unfold testM at he
     have fin : ∀ e:Int,patR nm t l [] = .error (y.pos,e) -> ∀ st,Good (Ret (rpparseV (patR nm t l []))) (some (.tuple [.agg [.str [],.nils],.agg [.lst [.agg [.str [99,104,97,114],.int .i64 y.pos]],.int .i64 e]],st)):=fun e h st=>by rw[h]; exact Good.done rfl
     by_cases hy0:headM y=[]
     ·rw[if_pos hy0] at he
      simp only[b_ref11_Parse_1,go_sem,List.length_map,c2,hat2,h6,eq_true hy0,hf,ne_eq]
      exact fin 2 he _
     ·rw[if_neg hy0] at he
      match hyk:y.kids with
      |[]=>exact absurd (by unfold headM; rw[hyk]; split <;> rfl) hy0
      |[b] =>
       rw[hyk] at he h6 hat2
       simp only[List.map_cons,List.map_nil] at h6 hat2
       simp only[b_ref11_Parse_1,go_sem,List.length_map,c2,hat2,h6,eq_false hy0,hf,ne_eq]
       exact fin 2 he _
      |b::c::d::m =>
       rw[hyk] at he h6 hat2
       simp only[List.map_cons] at h6 hat2
       have c3:(((m.length+3:Nat):Int)=2)=False:=eq_false (by omega)
       simp only[b_ref11_Parse_1,go_sem,List.length_map,c2,hat2,h6,eq_false hy0,hf,ne_eq,c3]
       exact fin 2 he _
      |[b,c] =>
       rw[hyk] at he h6 hat2
       simp only[List.map_cons,List.map_nil] at h6 hat2
       simp only at he
       have hat4:evIdx 5 [b.p,c.p] 1=some (.ref c.cells):=Nd.at_ (l:=[b,c]) (n:=1) (by simp)
       have h7:=rslot_t t (headM y) hsl
       obtain⟨x,bt,h8,hx0,h9⟩:=rterm_t c (hy c (by rw[hyk]; simp))
       rw[Nd.p_eq] at h8
       simp only[Nd.cells,Tm.p,Ts.p,hx0] at h7 h8 hat4
       unfold slotE at he
       cases hp:placeL (headM y) t.slots with
       |none =>
        rw[hp] at he h7
        simp only[idxI] at h7
        simp only at he
        simp only[b_ref11_Parse_1,go_sem,List.length_map,c2,hat2,h6,eq_false hy0,hf,ne_eq,htat,h7]
        exact fin 5 he _
       |some j =>
        rw[hp] at he h7
        simp only[idxI] at h7
        simp only at he
        have c4:((j:Int)<0)=False:=eq_false (by omega)
        have ho:=hO.len
        rw[List.length_map] at ho
        have hstep : ∀ (e0:Int) (n:Nat),n<ts.length->biV (.idx 6) out (.int .i64 (n:Int))=evIdx 6 (ts.map Ts.p) (n:Int):=fun e0 n hn=>hO.idx (by simpa using hn)
        have fr1 : ∀ (e0:Int) (n:Nat) (hn:n<ts.length),(if hasS j (ts.take (n+1))=true then (6:Int) else e0)=if ts[n].slot=j then 6 else if hasS j (ts.take n)=true then 6 else e0:=by
         intro e0 n hn
         rw[has_take hn]
         by_cases hh:ts[n].slot=j
         ·simp[hh]
         ·simp[hh]
        cases bt with
        |false =>
         simp only[Bool.false_eq_true,if_false] at h9
         rw[h9] at he
         simp only[b_ref11_Parse_1,go_sem,List.length_map,c2,hat2,h6,eq_false hy0,hf,ne_eq,htat,h7,c4,hat4,h8]
         refine Good.forF ts.length (fun n=>[.undef,.lst (tl.map Tm.p),.ptr 0 0,.ptr 1 0,.ptr 2 0,.undef,.int .i64 (ti:Int),.ptr 3 0,.int .i64 ((i+1:Nat):Int),.ptr (rest.length+4) 0,.int .i64 (if hasS j (ts.take n)=true then 6 else 2),.ptr (rest.length+5) 0,.undef,.int .i64 (n:Int)]++List.replicate 21 .undef) ?_ ?_ rfl
         ·intro n hn k hk
          have c5:((n:Int)<(ts.length:Int))=True:=eq_true (by omega)
          have hat5:=ts_at hn
          rw[fr1 2 n hn] at hk
          by_cases hh:ts[n].slot=j
          ·have c6:((ts[n].slot:Int)=(j:Int))=True:=eq_true (by omega)
           rw[if_pos hh] at hk
           simp only[b_ref11_Parse_0,go_sem,ho,c5,hstep 2 n hn,hat5,c6,wrapN (n:=n) (by omega)]
           exact hk
          ·have c6:((ts[n].slot:Int)=(j:Int))=False:=eq_false (by omega)
           rw[if_neg hh] at hk
           simp only[b_ref11_Parse_0,go_sem,ho,c5,hstep 2 n hn,hat5,c6,wrapN (n:=n) (by omega)]
           exact hk
         ·intro k
          rw[List.take_length]
          cases hh6:hasS j ts with
          |true =>
           rw[hh6] at he
           simp only[if_true] at he
           simp only[b_ref11_Parse_0,go_sem,ho,Int.lt_irrefl,ne_eq,hf]
           exact fin 6 he _
          |false =>
           rw[hh6] at he
           simp only[Bool.false_eq_true,if_false] at he
           simp only[b_ref11_Parse_0,go_sem,ho,Int.lt_irrefl,ne_eq,hf]
           exact fin 2 he _
        |true =>
         simp only[if_true] at h9
         rw[h9] at he
         simp only[b_ref11_Parse_1,go_sem,List.length_map,c2,hat2,h6,eq_false hy0,hf,ne_eq,htat,h7,c4,hat4,h8]
         refine Good.forF ts.length (fun n=>[.undef,.lst (tl.map Tm.p),.ptr 0 0,.ptr 1 0,.ptr 2 0,.undef,.int .i64 (ti:Int),.ptr 3 0,.int .i64 ((i+1:Nat):Int),.ptr (rest.length+4) 0,.int .i64 (if hasS j (ts.take n)=true then 6 else 0),.ptr (rest.length+5) 0,.undef,.int .i64 (n:Int)]++List.replicate 21 .undef) ?_ ?_ rfl
         ·intro n hn k hk
          have c5:((n:Int)<(ts.length:Int))=True:=eq_true (by omega)
          have hat5:=ts_at hn
          rw[fr1 0 n hn] at hk
          by_cases hh:ts[n].slot=j
          ·have c6:((ts[n].slot:Int)=(j:Int))=True:=eq_true (by omega)
           rw[if_pos hh] at hk
           simp only[b_ref11_Parse_0,go_sem,ho,c5,hstep 2 n hn,hat5,c6,wrapN (n:=n) (by omega)]
           exact hk
          ·have c6:((ts[n].slot:Int)=(j:Int))=False:=eq_false (by omega)
           rw[if_neg hh] at hk
           simp only[b_ref11_Parse_0,go_sem,ho,c5,hstep 2 n hn,hat5,c6,wrapN (n:=n) (by omega)]
           exact hk
         ·intro k
          rw[List.take_length]
          cases hh6:hasS j ts with
          |true =>
           rw[hh6] at he
           simp only[if_true] at he
           simp only[b_ref11_Parse_0,go_sem,ho,Int.lt_irrefl,ne_eq,hf]
           exact fin 6 he _
          |false =>
           rw[hh6] at he
           simp only[Bool.false_eq_true,if_false] at he
           obtain⟨out',rows',rt',ap,hO',hr',_⟩:=hO.app1 (b:=64) hr (e:=Ts.p { x with slot:=j }) rfl (by simp; omega)
           simp only[Ts.p] at ap
           simp only[b_ref11_Parse_0,go_sem,ho,Int.lt_irrefl,ne_eq,hf,ap,hO'.cells,hO'.cell,wrapN (n:=i+1) (by omega)]
           refine hk2 _ _ ⟨out',rows',rt',_,_,ts++[{ x with slot:=j }],rfl,rfl,?_,hr',by simp[htl],he⟩
           rw[List.map_append,List.map_singleton]
           exact hO'
    ·rintro fr st ⟨out,rows,rt,rest,bts,ts,rfl,rfl,hO,hr,ht,he⟩ k
     have c2:(((l.length+1:Nat):Int)<((l.length+1:Nat):Int))=False:=eq_false (by omega)
     simp only[b_ref11_Parse_1,go_sem,List.length_map,c2,Int.lt_irrefl,hO.cells,hO.cell]
     refine Good.done ?_
     rw[List.drop_length] at he
     rw[he]
     exact ret_tup (mS (shutR_agg (mS rfl (mS (hO.shutR _ _) mN))) (mS rfl mN))
    ·exact⟨.nils,[],[],[],_,[],by simp,rfl,.nils,rfl,rfl,rfl⟩
end Go.Proofs.YtdhhaipppjgicaaGreatDoorPe.Patx
set_option linter.unusedVariables false
set_option linter.unusedSimpArgs false
set_option maxRecDepth 100000
namespace Go.Proofs.YtdhhaipppjgicaaGreatDoorPe.Patx
open Go Go.Proofs Go.Proofs.YtdhhaipppjgicaaGreatDoorPe Go.Proofs.YtdhhaipppjgicaaGreatDoorPe.PatxCode
theorem rpnode_t (p:Pt) (tl:List Tm) (hl:p.tests.length<=100000) (htl:tl.length<4611686018427387904) (hsl : ∀ t∈tl,t.slots.length<4611686018427387904) :
  tupV (callE efns given) (.call 0 f_ref11_Node) [p.p,.lst (tl.map Tm.p)]=some (patN tl p).p:=by
 rw[patN]
 refine call_good (f:=f_ref11_Node) rfl ?_
 rw[callE_fn efns given (c:=e_ref11_Node) rfl rfl]
 have hfi:=rfind_t p.t tl htl
 have w1:=rsymn_t p.t
 -- what is known of the template
 have hk : ∃ (t:Tm) (k:Int),(findT p.t tl).getD zT=t/\idxI (placeT p.t tl)=k/\(k<0/\t=zT \/ ∃ ti:Nat,k=(ti:Int)/\t.slots.length<4611686018427387904/\evIdx 2 (tl.map Tm.p) (ti:Int)=some (.ref [.str t.name,.lst (t.slots.map Sl.p)])):=by
  cases hf:findT p.t tl with
  |none =>
   rw[placeT_nf hf]
   exact⟨zT,-1,rfl,rfl,.inl ⟨by decide,rfl⟩⟩
  |some t =>
   obtain⟨ti,hti,hpl,hte⟩:=placeT_find hf
   have htat:=tm_at hti
   rw[hte] at htat
   exact⟨t,ti,rfl,by rw[hpl]; rfl,.inr ⟨ti,rfl,hsl t (findT_mem hf),htat⟩⟩
 obtain⟨t,k,e1,e2,hk⟩:=hk
 rw[e1]
 rw[e2] at hfi
 rw[psymN] at w1
 simp only[e_ref11_Node,go_sem,Pt.p,w1,hfi]
 refine Good.for p.tests.length (fun i fr st => ∃ out rows rt rest bts,fr=[.undef,.lst (tl.map Tm.p),.ptr 0 0,.ptr 1 0,out,.int .i64 k,.int .i64 (i:Int)]++List.replicate 15 .undef /\
   st=⟨[[.str p.t,.lst (p.tests.map Ts.p)],[.int .i64 0,.int .i64 0,.int .i64 0,.str [],.nils]]++rest,rows,bts,rt⟩ /\
   OutV 5 T_ref11_Node_0 ((symN p.t::testsN t (p.tests.take i)).map Nd.p) out rows rt/\rt.length=rows.length) ?_ ?_ ?_
 ·rintro i fr st hi ⟨out,rows,rt,rest,bts,rfl,rfl,hO,hr⟩ kk hkk
  have c1:((i:Int)<(p.tests.length:Int))=True:=eq_true (by omega)
  have hat:=ts_at hi
  have htk:=testsN_take (t:=t) hi
  have hlen:((symN p.t::testsN t (p.tests.take i)).map Nd.p).length<=100001:=by
   have:=testsN_le t (p.tests.take i)
   simp at this ⊢
   omega
  rw[htk] at hkk
  generalize p.tests[i]=x at hat hkk
  have w2:=rofn_t x.v
  rw[pleafV] at w2
  simp only[Vl.p] at w2
  -- what stands for the term,whatever is done with it
  have hterm : ∃ C:List PV,(termN x).p = .agg C/\C.length=5 /\ ∀ (Q:PV->St->Prop) (K:EX->Fr->St->Option (PV × St)),True:=⟨_,Nd.p_eq _,rfl,fun _ _=>trivial⟩
  rcases hk with ⟨hk0,rfl⟩|⟨ti,rfl,htsl,htat⟩
  ·have e:testN zT x=none:=rfl
   have c2:(k>=0)=False:=eq_false (by omega)
   rw[e,Option.toList_none,List.append_nil] at hkk
   by_cases hv:x.var=[]
   ·cases hno:x.no with
    |true =>
     simp only[b_ref11_Node_0,go_sem,List.length_map,c1,hat,w2,ne_eq,eq_true hv,hno,c2,wrapN (n:=i) (by omega)]
     exact hkk _ _ ⟨out,rows,rt,_,_,rfl,rfl,hO,hr⟩
    |false =>
     simp only[b_ref11_Node_0,go_sem,List.length_map,c1,hat,w2,ne_eq,eq_true hv,hno,c2,wrapN (n:=i) (by omega)]
     exact hkk _ _ ⟨out,rows,rt,_,_,rfl,rfl,hO,hr⟩
   ·cases hno:x.no with
    |true =>
     simp only[b_ref11_Node_0,go_sem,List.length_map,c1,hat,w2,ne_eq,eq_false hv,hno,c2,wrapN (n:=i) (by omega)]
     exact hkk _ _ ⟨out,rows,rt,_,_,rfl,rfl,hO,hr⟩
    |false =>
     simp only[b_ref11_Node_0,go_sem,List.length_map,c1,hat,w2,ne_eq,eq_false hv,hno,c2,wrapN (n:=i) (by omega)]
     exact hkk _ _ ⟨out,rows,rt,_,_,rfl,rfl,hO,hr⟩
  ·have c2:((ti:Int)>=0)=True:=eq_true (by omega)
   cases hs:t.slots[x.slot]? with
   |none =>
    have e:testN t x=none:=by unfold testN; rw[hs]; rfl
    rw[e,Option.toList_none,List.append_nil] at hkk
    have c3:((x.slot:Int)<(t.slots.length:Int))=False:=eq_false (by have:=List.getElem?_eq_none_iff.1 hs; omega)
    by_cases hv:x.var=[]
    ·cases hno:x.no with
     |true =>
      simp only[b_ref11_Node_0,go_sem,List.length_map,c1,hat,w2,ne_eq,eq_true hv,hno,c2,htat,c3,wrapN (n:=i) (by omega)]
      exact hkk _ _ ⟨out,rows,rt,_,_,rfl,rfl,hO,hr⟩
     |false =>
      simp only[b_ref11_Node_0,go_sem,List.length_map,c1,hat,w2,ne_eq,eq_true hv,hno,c2,htat,c3,wrapN (n:=i) (by omega)]
      exact hkk _ _ ⟨out,rows,rt,_,_,rfl,rfl,hO,hr⟩
    ·cases hno:x.no with
     |true =>
      simp only[b_ref11_Node_0,go_sem,List.length_map,c1,hat,w2,ne_eq,eq_false hv,hno,c2,htat,c3,wrapN (n:=i) (by omega)]
      exact hkk _ _ ⟨out,rows,rt,_,_,rfl,rfl,hO,hr⟩
     |false =>
      simp only[b_ref11_Node_0,go_sem,List.length_map,c1,hat,w2,ne_eq,eq_false hv,hno,c2,htat,c3,wrapN (n:=i) (by omega)]
      exact hkk _ _ ⟨out,rows,rt,_,_,rfl,rfl,hO,hr⟩
   |some s =>
    have hlt:x.slot<t.slots.length:=(List.getElem?_eq_some_iff.1 hs).1
    have e:testN t x=some (listN [symN s.name,termN x]):=by unfold testN; rw[hs]; rfl
    have c3:((x.slot:Int)<(t.slots.length:Int))=True:=eq_true (by omega)
    have hat2:evIdx 4 (t.slots.map Sl.p) (x.slot:Int)=some (.ref s.cells):=idx_of (e:=s.p) (by simp[hs]) rfl
    rw[e,Option.toList_some,<- List.cons_append,List.map_append,List.map_singleton] at hkk
    obtain⟨out',rows',rt',ap,hO',hr',_⟩:=hO.app1 (b:=64) hr (e:=(listN [symN s.name,termN x]).p) (by rw[Nd.p_cells]; rfl) (by omega)
    have w3:=rsymn_t s.name
    have w4:=rlv_t (l:=[symN s.name,termN x]) (v:=.full [(symN s.name).p,(termN x).p]) rfl
    rw[listN_p] at ap w4
    simp only[List.map_cons,List.map_nil,psymN,rawL] at ap w4
    rw[psymN] at w3
    simp only[Sl.cells] at hat2
    by_cases hv:x.var=[]
    ·have hv':(x.var=[])=True:=eq_true hv
     cases hno:x.no with
     |true =>
      have ht:(termN x).p = .agg [.int .i64 8,.int .i64 0,.int .i64 0,.str [],.lst [.agg [.int .i64 x.v.k,.int .i64 0,.int .i64 x.v.i,.str x.v.s,.lst []]]]:=by
       rw[termN,if_pos hno,Nd.p_eq,wantN,if_pos hv,Nd.cells,<- pleafV]
       rfl
      rw[ht] at ap w4
      simp only[b_ref11_Node_0,go_sem,List.length_map,c1,hat,w2,ne_eq,hv',hno,c2,htat,c3,hat2,w3,w4,ap,wrapN (n:=i) (by omega)]
      exact hkk _ _ ⟨out',rows',rt',_,_,rfl,rfl,hO',hr'⟩
     |false =>
      have ht:(termN x).p = .agg [.int .i64 x.v.k,.int .i64 0,.int .i64 x.v.i,.str x.v.s,.lst []]:=by
       rw[termN,hno,if_neg (by simp),wantN,if_pos hv,<- pleafV]
      rw[ht] at ap w4
      simp only[b_ref11_Node_0,go_sem,List.length_map,c1,hat,w2,ne_eq,hv',hno,c2,htat,c3,hat2,w3,w4,ap,wrapN (n:=i) (by omega)]
      exact hkk _ _ ⟨out',rows',rt',_,_,rfl,rfl,hO',hr'⟩
    ·have hv':(x.var=[])=False:=eq_false hv
     cases hno:x.no with
     |true =>
      have ht:(termN x).p = .agg [.int .i64 8,.int .i64 0,.int .i64 0,.str [],.lst [.agg [.int .i64 6,.int .i64 0,.int .i64 0,.str x.var,.lst []]]]:=by
       rw[termN,if_pos hno,Nd.p_eq,wantN,if_neg hv,Nd.cells,<- pvarN]
       rfl
      rw[ht] at ap w4
      simp only[b_ref11_Node_0,go_sem,List.length_map,c1,hat,w2,ne_eq,hv',hno,c2,htat,c3,hat2,w3,w4,ap,wrapN (n:=i) (by omega)]
      exact hkk _ _ ⟨out',rows',rt',_,_,rfl,rfl,hO',hr'⟩
     |false =>
      have ht:(termN x).p = .agg [.int .i64 6,.int .i64 0,.int .i64 0,.str x.var,.lst []]:=by
       rw[termN,hno,if_neg (by simp),wantN,if_neg hv,<- pvarN]
      rw[ht] at ap w4
      simp only[b_ref11_Node_0,go_sem,List.length_map,c1,hat,w2,ne_eq,hv',hno,c2,htat,c3,hat2,w3,w4,ap,wrapN (n:=i) (by omega)]
      exact hkk _ _ ⟨out',rows',rt',_,_,rfl,rfl,hO',hr'⟩
 ·rintro fr st ⟨out,rows,rt,rest,bts,rfl,rfl,hO,hr⟩ k
  rw[List.take_length] at hO
  have hl1:=rlv_t hO.sl
  rw[listN_p] at hl1
  simp only[rawL] at hl1
  simp only[b_ref11_Node_0,go_sem,List.length_map,Int.lt_irrefl,hl1]
  refine Good.done ?_
  rw[listN_p]
  exact rfl
 ·exact⟨_,_,_,[],_,rfl,rfl,.inl ⟨rfl,by simp only[List.map_cons,List.map_nil,List.take_zero,psymN]; rfl⟩,rfl⟩
theorem rpsame_t (a b:Pt) (hl:a.tests.length<4611686018427387904):tupV (callE efns given) (.call 0 f_ref11_Same) [a.p,b.p]=some (.bool (decide (a=b))):=by
 refine call_good (f:=f_ref11_Same) rfl ?_
 rw[callE_fn efns given (c:=e_ref11_Same) rfl rfl]
 by_cases h1:a.t=b.t
 ·by_cases h2:a.tests.length=b.tests.length
  ·have h2':((a.tests.length:Int)=(b.tests.length:Int))=True:=eq_true (by omega)
   have e:decide (a=b)=eqL (fun x y=>decide (x=y)) a.tests b.tests:=by rw[eqL_eq]; simp only[pt_eq,h1,true_and]
   rw[e]
   simp only[e_ref11_Same,go_sem,Pt.p,eq_true h1,List.length_map,h2',ne_eq]
   refine Good.for a.tests.length (fun i fr st => ∃ rest bts,fr=[.undef,.undef,.ptr 0 0,.ptr 1 0,.int .i64 (i:Int)]++List.replicate 21 .undef/\st=⟨[[.str a.t,.lst (a.tests.map Ts.p)],[.str b.t,.lst (b.tests.map Ts.p)]]++rest,[],bts,[]⟩ /\
    eqL (fun x y=>decide (x=y)) a.tests b.tests=eqL (fun x y=>decide (x=y)) (a.tests.drop i) (b.tests.drop i)) ?_ ?_ ?_
   ·rintro i fr st hi ⟨rest,bts,rfl,rfl,hh⟩ k hk
    have hi':i<b.tests.length:=by omega
    have c1:((i:Int)<(a.tests.length:Int))=True:=eq_true (by omega)
    have hat:=ts_at hi
    have hat2:=ts_at hi'
    rw[List.drop_eq_getElem_cons hi,List.drop_eq_getElem_cons hi',eqL] at hh
    generalize a.tests[i]=x at *
    generalize b.tests[i]=y at *
    have hv:=rvsame_t x.v y.v
    simp only[Vl.p] at hv
    have fin:(x≠y) -> ∀ st,Good (Ret (.bool (eqL (fun x y=>decide (x=y)) a.tests b.tests))) (some (.bool false,st)):=fun h st=>by
     rw[hh,decide_eq_false h,Bool.false_and]
     exact Good.done rfl
    by_cases q1:x.slot=y.slot
    ·have q1':((x.slot:Int)=(y.slot:Int))=True:=eq_true (by omega)
     by_cases q2:x.no=y.no
     ·have q2':(x.no==y.no)=true:=by simp[q2]
      by_cases q3:x.var=y.var
      ·by_cases q4:x.v=y.v
       ·rw[decide_eq_true q4] at hv
        rw[decide_eq_true (show x=y from by rw[ts_eq]; exact⟨q1,q2,q3,q4⟩),Bool.true_and] at hh
        simp only[b_ref11_Same_0,go_sem,List.length_map,c1,hat,hat2,ne_eq,q1',q2',eq_true q3,hv,wrapN (n:=i) (by omega)]
        exact hk _ _ ⟨_,_,rfl,rfl,hh⟩
       ·rw[decide_eq_false q4] at hv
        simp only[b_ref11_Same_0,go_sem,List.length_map,c1,hat,hat2,ne_eq,q1',q2',eq_true q3,hv]
        exact fin (by rw[Ne,ts_eq]; exact fun h=>q4 h.2.2.2) _
      ·simp only[b_ref11_Same_0,go_sem,List.length_map,c1,hat,hat2,ne_eq,q1',q2',eq_false q3]
       exact fin (by rw[Ne,ts_eq]; exact fun h=>q3 h.2.2.1) _
     ·have q2':(x.no==y.no)=false:=by simp[q2]
      simp only[b_ref11_Same_0,go_sem,List.length_map,c1,hat,hat2,ne_eq,q1',q2']
      exact fin (by rw[Ne,ts_eq]; exact fun h=>q2 h.2.1) _
    ·have q1':((x.slot:Int)=(y.slot:Int))=False:=eq_false (by omega)
     simp only[b_ref11_Same_0,go_sem,List.length_map,c1,hat,hat2,ne_eq,q1']
     exact fin (by rw[Ne,ts_eq]; exact fun h=>q1 h.1) _
   ·rintro fr st ⟨rest,bts,rfl,rfl,hh⟩ k
    simp only[b_ref11_Same_0,go_sem,List.length_map,Int.lt_irrefl]
    refine Good.done ?_
    rw[hh,List.drop_eq_nil_of_le (Nat.le_refl _),List.drop_eq_nil_of_le (by omega)]
    rfl
   ·exact⟨[],_,rfl,rfl,rfl⟩
  ·have h2':((a.tests.length:Int)=(b.tests.length:Int))=False:=eq_false (by omega)
   have e:decide (a=b)=false:=decide_eq_false (by rw[pt_eq]; exact fun h=>h2 (by rw[h.2]))
   rw[e]
   simp only[e_ref11_Same,go_sem,Pt.p,eq_true h1,List.length_map,h2',ne_eq]
   exact Good.done rfl
 ·have e:decide (a=b)=false:=decide_eq_false (by rw[pt_eq]; exact fun h=>h1 h.1)
  rw[e]
  simp only[e_ref11_Same,go_sem,Pt.p,eq_false h1,ne_eq]
  exact Good.done rfl
theorem pof_t (p:Pt) (hl:p.tests.length<=100000):tupV (callE efns given) (.call 0 f_law11_Of) [p.p]=some p.p:=by
 refine call_good (f:=f_law11_Of) rfl ?_
 rw[callE_fn efns given (c:=e_law11_Of) rfl rfl]
 simp only[e_law11_Of,go_sem,Pt.p]
 refine Good.for p.tests.length (fun n fr st => ∃ out rows rt rest bts,fr=[.undef,.ptr 0 0,.ptr 1 0,.ptr 2 0,.int .i64 (n:Int)]++List.replicate 11 .undef /\
  st=⟨[[.str p.t,.lst (p.tests.map Ts.p)],[.str [],.nils],[.str p.t,out]]++rest,rows,bts,rt⟩/\OutV 6 T_law11_Of_0 ((p.tests.take n).map Ts.p) out rows rt/\rt.length=rows.length) ?_ ?_ ?_
 ·rintro n fr st hn ⟨out,rows,rt,rest,bts,rfl,rfl,hO,hr⟩ k hk
  have c1:((n:Int)<(p.tests.length:Int))=True:=eq_true (by omega)
  have hat:=ts_at hn
  obtain⟨out',rows',rt',ap,hO',hr',_⟩:=hO.app1 (b:=64) hr (e:=p.tests[n].p) rfl (by simp; omega)
  simp only[Ts.p] at ap
  simp only[b_law11_Of_0,go_sem,hat,List.length_map,c1,ap,hO'.cells,hO'.cell,wrapN (n:=n) (by omega)]
  refine hk _ _ ⟨out',rows',rt',_,_,rfl,rfl,?_,hr'⟩
  rw[take_succ_at hn,List.map_append,List.map_singleton]
  exact hO'
 ·rintro fr st ⟨out,rows,rt,rest,bts,rfl,rfl,hO,hr⟩ k
  simp only[b_law11_Of_0,go_sem,List.length_map,Int.lt_irrefl,hO.cells,hO.cell]
  refine Good.done ?_
  rw[List.take_length] at hO
  exact ret_agg (mS rfl (mS (hO.shutR _ _) mN))
 ·exact⟨.nils,[],[],[],_,rfl,rfl,.nils,rfl⟩
theorem pall_t (l:List Tm) (hl:l.length<=100000) (hsl : ∀ t∈l,t.slots.length<=100000):tupV (callE efns given) (.call 0 f_law9_All) [.lst (l.map Tm.p)]=some (.lst (l.map Tm.p)):=by
 refine call_good (f:=f_law9_All) rfl ?_
 rw[callE_fn efns given (c:=e_law9_All) rfl rfl]
 simp only[e_law9_All,go_sem]
 refine Good.for l.length (fun n fr st => ∃ out rows rt,fr=[.lst (l.map Tm.p),out,.int .i64 (n:Int),.undef]/\st=⟨[],rows,[],rt⟩/\OutV 2 T_law9_All_0 ((l.take n).map Tm.p) out rows rt/\rt.length=rows.length) ?_ ?_ ?_
 ·rintro n fr st hn ⟨out,rows,rt,rfl,rfl,hO,hr⟩ k hk
  have c1:((n:Int)<(l.length:Int))=True:=eq_true (by omega)
  have hat:=tm_at hn
  have ht:=tto_t l[n] (hsl _ (List.getElem_mem hn))
  obtain⟨out',rows',rt',ap,hO',hr',_⟩:=hO.app1 (b:=40) hr (e:=l[n].p) rfl (by simp; omega)
  simp only[Tm.p] at ap ht
  simp only[b_law9_All_0,go_sem,hat,List.length_map,c1,ht,ap,wrapN (n:=n) (by omega)]
  refine hk _ _ ⟨out',rows',rt',rfl,rfl,?_,hr'⟩
  rw[take_succ_at hn,List.map_append,List.map_singleton]
  exact hO'
 ·rintro fr st ⟨out,rows,rt,rfl,rfl,hO,hr⟩ k
  simp only[b_law9_All_0,go_sem,List.length_map,Int.lt_irrefl]
  refine Good.done ?_
  rw[List.take_length] at hO
  exact hO.shutR _ _
 ·exact⟨.nils,[],[],rfl,rfl,.nils,rfl⟩
def twoT:List Tm:=[⟨[112],[⟨[97],nilW⟩,⟨[98],nilW⟩]⟩,⟨[113],[⟨[97],nilW⟩]⟩]
theorem ptwo_t:tupV (callE efns given) (.call 0 f_law11_Two) []=some (.lst (twoT.map Tm.p)):=by
 refine call_good (f:=f_law11_Two) rfl ?_
 rw[callE_fn efns given (c:=e_law11_Two) rfl rfl]
 have h:=rsymv_t [110,105,108]
 simp only[Vl.p] at h
 simp only[e_law11_Two,go_sem,h]
 exact Good.done rfl
theorem twoT_named : ∀ t∈twoT,t.Named:=by
 intro t ht i s h
 simp only[twoT,List.mem_cons,List.not_mem_nil,or_false] at ht
 rcases ht with rfl|rfl
 ·match i,h with
  |0,h=>cases h; exact⟨by simp,rfl⟩
  |1,h=>cases h; exact⟨by simp,rfl⟩
  |i+2,h=>simp at h
 ·match i,h with
  |0,h=>cases h; exact⟨by simp,rfl⟩
  |i+1,h=>simp at h
theorem twoT_slots : ∀ t∈twoT,t.slots.length<=2:=by
 intro t ht
 simp only[twoT,List.mem_cons,List.not_mem_nil,or_false] at ht
 rcases ht with rfl|rfl <;> simp
end Go.Proofs.YtdhhaipppjgicaaGreatDoorPe.Patx
set_option linter.unusedVariables false
set_option linter.unusedSimpArgs false
set_option maxRecDepth 100000
namespace Go.Proofs.YtdhhaipppjgicaaGreatDoorPe.Patx
open Go Go.Proofs Go.Proofs.YtdhhaipppjgicaaGreatDoorPe Go.Proofs.YtdhhaipppjgicaaGreatDoorPe.PatxCode
theorem EnvV.sl {l:List Bi} {e:PV} (h:EnvV l e):SlV (l.map Bi.p) e:=by
 rcases h with ⟨rfl,rfl⟩|⟨rfl,rfl⟩|⟨rfl,rfl⟩|⟨rfl,_⟩ <;> rfl
end Go.Proofs.YtdhhaipppjgicaaGreatDoorPe.Patx
set_option linter.unusedVariables false
set_option linter.unusedSimpArgs false
set_option maxRecDepth 100000
namespace Go.Proofs.YtdhhaipppjgicaaGreatDoorPe.Patx
open Go Go.Proofs Go.Proofs.YtdhhaipppjgicaaGreatDoorPe Go.Proofs.YtdhhaipppjgicaaGreatDoorPe.PatxCode
theorem goodM_ne {s:List UInt8} (h:goodM s=true):s≠[]:=by
 rintro rfl
 exact absurd h (by decide)
theorem TokK.k6 {i:Int} {s:List UInt8} (h:TokK ⟨6,i,s⟩):s≠[]:=by
 cases h with
 |sign _ h=>omega
 |name _ _ hk h=>exact goodM_ne h
theorem Wf.noN {x:Nd} (h:Wf x):NoN x:=by
 intro y h8 hk
 cases h with
 |leaf k pos i s h h4 h5 hn8=>exact absurd h8 hn8
 |no pos k p i s h h4 h5 hn8 =>
  simp only[Nd.kids,List.cons.injEq,and_true] at hk
  subst hk
  exact hn8
 |list=>simp[Nd.k] at h8
theorem Wf.term {x:Nd} (h:Wf x):TermOk x:=by
 cases h with
 |leaf k pos i s h h4 h5 hn8 =>
  refine⟨fun h6 => ?_,fun y h8 _=>absurd h8 hn8⟩
  simp only[Nd.k] at h6
  subst h6
  exact h.k6
 |no pos k p i s h h4 h5 hn8 =>
  refine⟨fun h6=>by simp[Nd.k] at h6,fun y _ hk => ?_⟩
  simp only[Nd.kids,List.cons.injEq,and_true] at hk
  subst hk
  refine⟨hn8,fun h6 => ?_⟩
  simp only[Nd.k] at h6
  subst h6
  exact h.k6
 |list=>exact⟨fun h6=>by simp[Nd.k] at h6,fun y h8 _=>by simp[Nd.k] at h8⟩
theorem Wf.noN2 {x:Nd} (h:Wf x):NoN2 x:=fun y hy z hz=>((h.kids y hy).kids z hz).noN
theorem Wf.patOk {x:Nd} (h:Wf x):PatOk x:=fun y hy z hz=>((h.kids y hy).kids z hz).term
theorem testsM_err {M:Nat} {t:Tm} : ∀ (l:List Nd) (ts:List Ts) (e:Int × Int),(∀ x∈l,PosOk M x)->testsM t l ts = .error e->1<=e.2/\e.2<=11/\0<=e.1/\e.1<=M
 |[],ts,e,_,h=>by cases h
 |x::l,ts,e,hl,h=>by
  have hx:=(hl x (List.mem_cons_self ..)).pos
  simp only[testsM] at h
  split at h
  ·rename_i e' he
   cases h
   exact⟨(testM_err he).1,(testM_err he).2,hx.1,hx.2⟩
  ·exact testsM_err l _ e (fun y hy=>hl y (List.mem_cons_of_mem _ hy)) h
theorem patM_err {M:Nat} {l:List Tm} {n:Nd} {e:Int × Int} (hn:PosOk M n) (h:patM l n = .error e):1<=e.2/\e.2<=11/\0<=e.1/\e.1<=M:=by
 have hp:=hn.pos
 unfold patM at h
 split at h
 ·cases h; exact⟨by simp only; omega,by simp only; omega,hp.1,hp.2⟩
 ·split at h
  ·cases h; exact⟨by simp only; omega,by simp only; omega,hp.1,hp.2⟩
  ·rename_i t _
   cases hs:testsM t (n.kids.drop 1) [] with
   |error q =>
    rw[hs] at h
    cases h
    exact testsM_err _ _ _ (fun y hy=>hn.kids y (List.mem_of_mem_drop hy)) hs
   |ok r=>rw[hs] at h; cases h
theorem patM_len {l:List Tm} {n:Nd} {p:Pt} (h:patM l n = .ok p):p.tests.length<=n.kids.length:=by
 unfold patM at h
 split at h
 ·cases h
 ·split at h
  ·cases h
  ·rename_i t _
   cases hs:testsM t (n.kids.drop 1) [] with
   |error q=>rw[hs] at h; cases h
   |ok r =>
    rw[hs] at h
    cases h
    have:=testsM_len _ _ _ hs
    simp at this ⊢
    omega
theorem OkTs.mem {t:Tm} : ∀ {l ts:List Ts},OkTs t ts l -> ∀ x∈l,x.Ok
 |[],ts,_,x,h=>by cases h
 |y::l,ts,⟨h1,_,_,h4⟩,x,h=>by
  rcases List.mem_cons.1 h with rfl|h
  ·exact h1
  ·exact OkTs.mem h4 x h
theorem Pt.Ok.mem {l:List Tm} {p:Pt} (h:p.Ok l) : ∀ x∈p.tests,x.Ok:=by
 obtain⟨t,_,h2⟩:=h.tests
 exact h2.mem
theorem patN_no {l:List Tm} {p:Pt} (h:p.Ok l):NoN2 (patN l p):=by
 intro x hx y hy
 simp only[patN,listN,Nd.kids,List.mem_cons,testsN,List.mem_filterMap] at hx
 rcases hx with rfl|⟨z,hz,hx⟩
 ·simp[symN,Nd.kids] at hy
 ·unfold testN at hx
  obtain⟨s,_,rfl⟩:=Option.map_eq_some_iff.1 hx
  simp only[listN,Nd.kids,List.mem_cons,List.not_mem_nil,or_false] at hy
  rcases hy with rfl|rfl
  ·intro w h8
   exact absurd h8 (by show ¬ (2:Int)=8; decide)
  ·intro w h8 hw
   unfold termN at h8 hw
   split at h8
   ·rename_i hno
    rw[if_pos hno] at hw
    simp only[Nd.kids,List.cons.injEq,and_true] at hw
    rw[<- hw]
    exact wantN_8 (h.mem z hz)
   ·exact absurd h8 (wantN_8 (h.mem z hz))
theorem wantN_sz (x:Ts):(wantN x).sz=1:=by
 unfold wantN
 split <;> simp[leafV,varN,Nd.sz,Nd.szs]
theorem testsN_sz (t:Tm) : ∀ l:List Ts,Nd.szs (testsN t l)<=4*l.length
 |[]=>by simp[testsN,Nd.szs]
 |x::l=>by
  have ih:=testsN_sz t l
  unfold testsN at ih ⊢
  cases h:testN t x with
  |none =>
   rw[List.filterMap_cons_none h,List.length_cons]
   omega
  |some n =>
   rw[List.filterMap_cons_some h,List.length_cons,Nd.szs]
   have:n.sz<=4:=by
    unfold testN at h
    obtain⟨s,_,rfl⟩:=Option.map_eq_some_iff.1 h
    have h1:=wantN_sz x
    unfold termN
    split <;> simp[listN,symN,Nd.sz,Nd.szs,h1]
   omega
theorem patN_sz (l:List Tm) (p:Pt):(patN l p).sz<=4*p.tests.length+2:=by
 have:=testsN_sz ((findT p.t l).getD zT) p.tests
 simp only[patN,listN,symN,Nd.sz,Nd.szs]
 omega
theorem bytes11_law (b:List UInt8):IsTrue (callE efns given f_law11_PatBytes [.lst (byts b)] ⟨[],[],[],[]⟩):=by
 rw[callE_fn efns given (c:=e_law11_PatBytes) rfl rfl]
 have hk:=known_t
 by_cases hb:b.length>2000
 ·have hc:((b.length:Int)>2000)=True:=eq_true (by omega)
  simp only[e_law11_PatBytes,go_sem,hk,byts_length,hc]
  exact Good.done rfl
 have hc:((b.length:Int)>2000)=False:=eq_false (by omega)
 have h2:=read_t b
 cases hm:readM b with
 |error e =>
  obtain⟨p,e⟩:=e
  obtain⟨e1,e2,e3,e4,e5⟩:=readM_err hm
  have he : ¬ e=0:=by simp only at e1; omega
  rw[hm] at h2
  simp only[readV,wrongV] at h2
  simp only[e_law11_PatBytes,go_sem,hk,byts_length,hc,h2,eq_false he,ne_eq]
  exact Good.done rfl
 |ok l =>
  obtain⟨hw,hsz⟩:=readM_ok hm
  have hps:=readM_pos hm
  rw[hm] at h2
  simp only[readV,noneW] at h2
  cases l with
  |nil =>
   simp only[e_law11_PatBytes,go_sem,hk,byts_length,hc,h2,ne_eq,List.map_nil]
   exact Good.done rfl
  |cons x l =>
   have hwx:=hw x (List.mem_cons_self ..)
   have hpx:=hps x (List.mem_cons_self ..)
   have hxs:x.sz<=4096:=by simp only[Nd.szs] at hsz; omega
   have hkl:x.kids.length<=4096:=by have:=Nd.sz_eq x; have:=Nd.len_sz x.kids; omega
   have hslots : ∀ t∈twoT,t.slots.length<4611686018427387904:=fun t ht=>by have:=twoT_slots t ht; omega
   have t0:=ptwo_t
   have ta:=pall_t twoT (by decide) (fun t ht=>by have:=twoT_slots t ht; omega)
   have t1:=to_t _ x (Nat.le_refl _) (by omega)
   have t2:=pparse_t x twoT hwx.noN2 (by omega) (by decide) hslots
   have t3:=rpparse_t x twoT hwx.noN2 (by omega) (by decide) hslots
   have hat:evIdx 5 (x.p::l.map Nd.p) 0=some (.ref x.cells):=Nd.at_ (l:=x::l) (n:=0) (by simp)
   have c0:((((l.map Nd.p).length+1:Nat):Int)=0)=False:=eq_false (by omega)
   rw[Nd.p_eq] at t1 t2 t3
   simp only[Nd.cells] at t1 t2 t3 hat
   cases ht:patM twoT x with
   |error e =>
    obtain⟨e1,e2,e3,e4⟩:=patM_err hpx ht
    have he : ¬ e.2=0:=by omega
    have q1:=tells_at e1 e2 e3 e4
    have q2:=pof_t zPt (by simp[zPt])
    have q3:=rpsame_t zPt zPt (by simp[zPt])
    rw[ht] at t2 t3
    rw[decide_eq_true rfl] at q3
    generalize twoT.map Tm.p=TW at *
    simp only[pparseV,rpparseV,zPt,Pt.p,List.map_nil,wrongV,sChar] at t2 t3 q1 q2 q3
    simp only[e_law11_PatBytes,go_sem,hk,byts_length,hc,h2,ne_eq,List.map_cons,c0,hat,t0,ta,t1,t2,t3,q1,q2,q3,eq_false he,List.length_map]
    exact Good.done rfl
   |ok p =>
    have hok:=patM_ok hwx.patOk ht
    have hpl:p.tests.length<=4096:=by have:=patM_len ht; omega
    have hns:=patN_sz twoT p
    have hnk:=Nd.len_sz (patN twoT p).kids
    have hne:=Nd.sz_eq (patN twoT p)
    have q1:=tells_none
    have q2:=pof_t p (by omega)
    have q3:=rpsame_t p p (by omega)
    have q4:=pnode_t p twoT (by omega) (by decide) hslots
    have q5:=pparse_t (patN twoT p) twoT (patN_no hok) (by omega) (by decide) hslots
    have q6:=psame_t p p (by omega)
    have q7:=of_t _ (patN twoT p) (Nat.le_refl _) (by omega)
    have q8:=rpnode_t p twoT (by omega) (by decide) hslots
    have q9:=nsame_t _ (patN twoT p) (patN twoT p) (Nat.le_refl _) (by omega)
    have q10:=pvars_t p (by omega)
    have q11:=rvars_t p (by omega)
    have hvl:(varsM p).length<4611686018427387904:=by
     have : ∀ (l:List Ts) (a:List (List UInt8)),(l.foldl varsT a).length<=a.length+l.length:=by
      intro l
      induction l with
      |nil=>intro a; simp
      |cons x l ih =>
       intro a
       have:=ih (varsT a x)
       have:=varsT_len a x
       simp only[List.foldl_cons,List.length_cons]
       omega
     have:=this p.tests []
     unfold varsM
     simp at this
     omega
    have q12:=names_t (varsM p) (varsM p) hvl
    rw[patM_patN twoT_named hok] at q5
    rw[decide_eq_true rfl] at q3 q6 q12
    rw[Nd.same_self] at q9
    rw[ht] at t2 t3
    have hN:=Nd.p_eq (patN twoT p)
    generalize (patN twoT p).p=N at *
    generalize twoT.map Tm.p=TW at *
    simp only[pparseV,rpparseV,Pt.p,noneW] at t2 t3 q1 q2 q3 q4 q5 q6 q8 q10 q11
    subst hN
    simp only[Nd.cells] at q4 q5 q7 q8 q9
    simp only[e_law11_PatBytes,go_sem,hk,byts_length,hc,h2,ne_eq,List.map_cons,c0,hat,t0,ta,t1,t2,t3,q1,q2,q3,q4,q5,q6,q7,q8,q9,q10,q11,q12,List.length_map]
    exact Good.done rfl
end Go.Proofs.YtdhhaipppjgicaaGreatDoorPe.Patx
