/- A part of the proof of this folder's statement; it has no condition of its own. -/
import Derived.Test.YthjnlpfibakacaaGreatDoorTmplNd
import Derived.Test.YthjnlpfibakacaaGreatDoorTmplNt
import Derived.Test.YthjnlpfibakacaaGreatDoorTmplVal
import Derived.Test.YthjnlpfibakacaaGreatDoorEcGen
import Derived.Test.YthjnlpfibakacaaGreatDoorTmplBy
import Derived.Test.YthjnlpfibakacaaGreatDoorTmplRm
set_option linter.unusedVariables false
set_option linter.unusedSimpArgs false
set_option maxRecDepth 100000
namespace Go.Proofs.YthjnlpfibakacaaGreatDoorPe.Tmpl
open Go Go.Proofs Go.Proofs.YthjnlpfibakacaaGreatDoorPe Go.Proofs.YthjnlpfibakacaaGreatDoorPe.TmplCode
structure Sl where
 name:List UInt8
 d:Vl
 deriving DecidableEq
structure Tm where
 name:List UInt8
 slots:List Sl
 deriving DecidableEq
def Sl.cells (s:Sl):List PV:=[.str s.name,.int .i64 s.d.k,.int .i64 s.d.i,.str s.d.s]
def Sl.p (s:Sl):PV:=.agg [.str s.name,.int .i64 s.d.k,.int .i64 s.d.i,.str s.d.s]
def Tm.cells (t:Tm):List PV:=[.str t.name,.lst (t.slots.map Sl.p)]
def Tm.p (t:Tm):PV:=.agg [.str t.name,.lst (t.slots.map Sl.p)]
def nilW:Vl:=⟨2,0,[110,105,108]⟩
def sSlot:List UInt8:=[115,108,111,116]
def sDefault:List UInt8:=[100,101,102,97,117,108,116]
def sDeft:List UInt8:=[100,101,102,116,101,109,112,108,97,116,101]
def goodN (n:Nd):Bool:=decide (n.k=2)&&goodM n.s
def slotD (name:List UInt8) (d:Nd):Option Sl :=
 if headM d=sDefault then (match d.kids with
  |[_,v]=>(valM v).map fun w=>⟨name,w⟩
  |_=>none) else none
def slotM (n:Nd):Option Sl :=
 if headM n=sSlot then (match n.kids with
  |[_,x]=>if goodN x=true then some ⟨x.s,nilW⟩ else none
  |[_,x,d]=>if goodN x=true then slotD x.s d else none
  |_=>none) else none
def placeL (s:List UInt8):List Sl->Option Nat
 |[]=>none
 |x::l=>if x.name=s then some 0 else (placeL s l).map (· + 1)
def mayM (t:List Sl) (s:Option Sl):Int :=
 match s with
 |none=>2
 |some s=>if (placeL s.name t).isSome=true then 6 else if 16<=t.length then 4 else 0
def slotsM:List Nd->List Sl->Except (Int × Int) (List Sl)
 |[],t=>.ok t
 |x::l,t=>match slotM x with
  |none=>.error (x.pos,2)
  |some s=>if mayM t (some s)=0 then slotsM l (t++[s]) else .error (x.pos,mayM t (some s))
def tmplM (n:Nd):Except (Int × Int) Tm :=
 if headM n=sDeft then (match n.kids with
  |_::x::l=>if goodN x=true then (slotsM l []).map fun t=>⟨x.s,t⟩ else .error (n.pos,2)
  |_=>.error (n.pos,2)) else .error (n.pos,2)
def Sl.Ok (s:Sl):Prop:=goodM s.name=true/\(s.d.k=1\/s.d.k=2\/s.d.k=3)
def OkL:List Sl->List Sl->Prop
 |_,[]=>True
 |t,s::l=>s.Ok/\mayM t (some s)=0/\OkL (t++[s]) l
structure Tm.Ok (t:Tm):Prop where
 name:goodM t.name=true
 slots:OkL [] t.slots
theorem mayM_len {t:List Sl} {s:Sl} (h:mayM t (some s)=0):t.length<16/\placeL s.name t=none:=by
 unfold mayM at h
 simp only at h
 split at h
 ·cases h
 ·rename_i h1
  split at h
  ·cases h
  ·refine⟨by omega,?_⟩
   cases hp:placeL s.name t with
   |none=>rfl
   |some x=>rw[hp] at h1; simp at h1
end Go.Proofs.YthjnlpfibakacaaGreatDoorPe.Tmpl
set_option linter.unusedVariables false
set_option linter.unusedSimpArgs false
set_option maxRecDepth 100000
namespace Go.Proofs.YthjnlpfibakacaaGreatDoorPe.Tmpl
open Go Go.Proofs Go.Proofs.YthjnlpfibakacaaGreatDoorPe Go.Proofs.YthjnlpfibakacaaGreatDoorPe.TmplCode
theorem tgood_t (n:Nd) (hn:n.s.length<4611686018427387904):tupV (callE efns given) (.call 0 f_tmpl_good) [n.p]=some (.bool (goodN n)):=by
 rw[Nd.p_eq]
 refine call_good (f:=f_tmpl_good) rfl ?_
 rw[callE_fn efns given (c:=e_tmpl_good) rfl rfl]
 unfold goodN
 have hg:=good_t (s:=n.s) hn
 by_cases h2:n.k=2
 ·simp only[e_tmpl_good,go_sem,Nd.cells,h2,hg]
  exact Good.done (by simp[Ret]; rfl)
 ·simp only[e_tmpl_good,go_sem,Nd.cells,h2]
  exact Good.done rfl
theorem tfault_t (n:Nd) (e:Int):tupV (callE efns given) (.call 0 f_tmpl_fault) [n.p,.int .i64 e]=some (errP [(sChar,n.pos)] e):=by
 rw[Nd.p_eq]
 refine call_good (f:=f_tmpl_fault) rfl ?_
 rw[callE_fn efns given (c:=e_tmpl_fault) rfl rfl]
 simp only[e_tmpl_fault,go_sem,Nd.cells]
 exact Good.done rfl
theorem tnone_t:tupV (callE efns given) (.call 0 f_tmpl_none) []=some nilW.p:=by
 refine call_good (f:=f_tmpl_none) rfl ?_
 rw[callE_fn efns given (c:=e_tmpl_none) rfl rfl]
 have h:=ofSym_t given (s:=[110,105,108])
 simp only[Vl.p] at h
 simp only[e_tmpl_none,go_sem,h]
 exact Good.done rfl
theorem sl_ok {l:List Sl} : ∀ e∈l.map Sl.p,ElemOk (some 4) 4 e:=fun e he=>by
 obtain⟨x,_,rfl⟩:=List.mem_map.1 he
 exact ElemOk.agg rfl
def slName:PV->List UInt8->Bool
 |.agg (.str n::_),s=>decide (n=s)
 |_,_=>false
theorem idxP_place (s:List UInt8) : ∀ l:List Sl,idxP (fun e=>slName e s) (l.map Sl.p)=placeL s l
 |[]=>rfl
 |x::l=>by
  have h:=idxP_place s l
  simp only[List.map_cons,idxP,placeL,h]
  simp only[Sl.p,slName,decide_eq_true_eq]
theorem tidx_t {l:List Sl} {s:List UInt8} {st:St} {b:Nat} (hb:st.boxes[b]? = some [.str s]) (hl:l.length<4611686018427387904) :
  ∃ st',callE efns given f_slices_IndexFunc_tmpl_Slot_tmpl_Slot [.lst (l.map Sl.p),.func f_tmpl_Template_Slot_1 [.ptr b 0]] st=some (.int .i64 (idxI (placeL s l)),st')/\Grew st st':=by
 have:=indexFunc_g (efns:=efns) (given:=given) (f:=f_slices_IndexFunc_tmpl_Slot_tmpl_Slot) (g:=f_tmpl_Template_Slot_1) (ld:=some 4) (n:=4) rfl (l:=l.map Sl.p) (cap:=[.ptr b 0]) (p:=fun e=>slName e s) (st:=st) (by simpa using hl) sl_ok ?_
 ·rw[idxP_place] at this
  exact this
 ·intro st' hg e he
  obtain⟨x,_,rfl⟩:=List.mem_map.1 he
  have hb':=hg.get hb
  have key:Good (fun v st2=>v = .bool (slName x.p s)/\Grew st' st2) (callE efns given f_tmpl_Template_Slot_1 [x.p,.ptr b 0] st'):=by
   rw[callE_fn efns given (c:=e_tmpl_Template_Slot_1) rfl rfl]
   have hb2:(st'.boxes++[x.cells])[b]? = some [.str s]:=(Grew.box st' x.cells T_tmpl_Template_Slot_1_0).get hb'
   simp only[Sl.cells] at hb2
   simp only[e_tmpl_Template_Slot_1,go_sem,Sl.p,hb2]
   exact Good.done ⟨rfl,Grew.box st' _ _⟩
  obtain⟨v,st2,h,rfl,hg2⟩:=key
  exact⟨st2,h,hg2⟩
def placeV (o:Option Nat):PV :=
 match o with
 |some i=>.tuple [.int .i64 (i:Int),.bool true]
 |none=>.tuple [.int .i64 0,.bool false]
theorem tslot_t (t:Tm) (s:List UInt8) (hl:t.slots.length<4611686018427387904):tupV (callE efns given) (.call 0 f_tmpl_Template_Slot) [t.p,.str s]=some (placeV (placeL s t.slots)):=by
 refine call_good (f:=f_tmpl_Template_Slot) rfl ?_
 rw[callE_fn efns given (c:=e_tmpl_Template_Slot) rfl rfl]
 obtain⟨st',h,_⟩:=tidx_t (l:=t.slots) (s:=s) (st:=⟨[t.cells,[.str s]],[],[T_tmpl_Template_Slot_0,T_tmpl_Template_Slot_1],[]⟩) (b:=1) rfl hl
 simp only[Tm.cells] at h
 cases hp:placeL s t.slots with
 |none =>
  rw[hp] at h
  simp only[idxI] at h
  simp only[e_tmpl_Template_Slot,go_sem,Tm.p,h]
  exact Good.done rfl
 |some i =>
  rw[hp] at h
  simp only[idxI] at h
  have c1:((0:Int)>(i:Int))=False:=eq_false (by omega)
  have c2:((i:Int)>=0)=True:=eq_true (by omega)
  simp only[e_tmpl_Template_Slot,go_sem,Tm.p,h,c1,c2]
  exact Good.done rfl
end Go.Proofs.YthjnlpfibakacaaGreatDoorPe.Tmpl
set_option linter.unusedVariables false
set_option linter.unusedSimpArgs false
set_option maxRecDepth 100000
namespace Go.Proofs.YthjnlpfibakacaaGreatDoorPe.Tmpl
open Go Go.Proofs Go.Proofs.YthjnlpfibakacaaGreatDoorPe Go.Proofs.YthjnlpfibakacaaGreatDoorPe.TmplCode
def NdS (n:Nd):Prop := ∀ x∈n.kids,x.s.length<4611686018427387904
def zSl:Sl:=⟨[],⟨0,0,[]⟩⟩
theorem tslotr_t (n:Nd) (hs:NdS n) : ∃ (s:Sl) (b:Bool),tupV (callE efns given) (.call 0 f_tmpl_slot) [n.p]=some (.tuple [s.p,.bool b])/\slotM n=if b=true then some s else none:=by
 have hh:=shead_t n
 have hn:=tnone_t
 rw[Nd.p_eq] at hh ⊢
 have run : ∀ (s:Sl) (b:Bool),Good (Ret (.tuple [s.p,.bool b])) (callE efns given f_tmpl_slot [.agg n.cells] ⟨[],[],[],[]⟩)->slotM n=(if b=true then some s else none) ->
   ∃ (s:Sl) (b:Bool),tupV (callE efns given) (.call 0 f_tmpl_slot) [.agg n.cells]=some (.tuple [s.p,.bool b])/\slotM n=if b=true then some s else none :=
  fun s b h1 h2=>⟨s,b,call_good (f:=f_tmpl_slot) rfl h1,h2⟩
 simp only[Nd.cells] at hh
 by_cases h1:headM n=sSlot
 ·have h1':(headM n=[115,108,111,116])=True:=eq_true h1
  match hk:n.kids with
  |[] =>
   refine run zSl false ?_ (by unfold slotM; rw[if_pos h1,hk]; rfl)
   rw[callE_fn efns given (c:=e_tmpl_slot) rfl rfl]
   rw[hk] at hh
   simp only[List.map_nil] at hh
   simp only[e_tmpl_slot,go_sem,Nd.cells,hk,hh,h1',ne_eq,List.map_nil]
   exact Good.done rfl
  |[a] =>
   refine run zSl false ?_ (by unfold slotM; rw[if_pos h1,hk]; rfl)
   rw[callE_fn efns given (c:=e_tmpl_slot) rfl rfl]
   rw[hk] at hh
   simp only[List.map_cons,List.map_nil] at hh
   simp only[e_tmpl_slot,go_sem,Nd.cells,hk,hh,h1',ne_eq,List.map_cons,List.map_nil]
   exact Good.done rfl
  |a::b::c::d::l =>
   refine run zSl false ?_ (by unfold slotM; rw[if_pos h1,hk]; rfl)
   rw[callE_fn efns given (c:=e_tmpl_slot) rfl rfl]
   rw[hk] at hh
   simp only[List.map_cons,List.map_nil] at hh
   have c1:((((List.map Nd.p l).length+1+1+1+1:Nat):Int)<2)=False:=eq_false (by omega)
   have c2:((((List.map Nd.p l).length+1+1+1+1:Nat):Int)>3)=True:=eq_true (by omega)
   simp only[e_tmpl_slot,go_sem,Nd.cells,hk,hh,h1',ne_eq,List.map_cons,List.map_nil,c1,c2]
   exact Good.done rfl
  |[a,x] =>
   have hx:=tgood_t x (hs x (by rw[hk]; simp))
   rw[hk] at hh
   rw[Nd.p_eq] at hx
   simp only[List.map_cons,List.map_nil] at hh
   have hat:evIdx 5 [a.p,x.p] 1=some (.ref x.cells):=Nd.at_ (l:=[a,x]) (n:=1) (by simp)
   simp only[Nd.cells] at hx hat
   cases hg:goodN x with
   |false =>
    rw[hg] at hx
    refine run zSl false ?_ (by unfold slotM; rw[if_pos h1,hk]; simp only[hg] <;> rfl)
    rw[callE_fn efns given (c:=e_tmpl_slot) rfl rfl]
    simp only[e_tmpl_slot,go_sem,Nd.cells,hk,hh,h1',ne_eq,List.map_cons,List.map_nil,hat,hx]
    exact Good.done rfl
   |true =>
    rw[hg] at hx
    refine run ⟨x.s,nilW⟩ true ?_ (by unfold slotM; rw[if_pos h1,hk]; simp only[hg] <;> rfl)
    rw[callE_fn efns given (c:=e_tmpl_slot) rfl rfl]
    simp only[Vl.p] at hn
    simp only[e_tmpl_slot,go_sem,Nd.cells,hk,hh,h1',ne_eq,List.map_cons,List.map_nil,hat,hx,hn]
    exact Good.done rfl
  |[a,x,d] =>
   have hx:=tgood_t x (hs x (by rw[hk]; simp))
   have hd:=shead_t d
   rw[hk] at hh
   rw[Nd.p_eq] at hx hd
   simp only[List.map_cons,List.map_nil] at hh
   have hat:evIdx 5 [a.p,x.p,d.p] 1=some (.ref x.cells):=Nd.at_ (l:=[a,x,d]) (n:=1) (by simp)
   have hat2:evIdx 5 [a.p,x.p,d.p] 2=some (.ref d.cells):=Nd.at_ (l:=[a,x,d]) (n:=2) (by simp)
   simp only[Nd.cells] at hx hat hat2 hd
   cases hg:goodN x with
   |false =>
    rw[hg] at hx
    refine run zSl false ?_ (by unfold slotM; rw[if_pos h1,hk]; simp only[hg] <;> rfl)
    rw[callE_fn efns given (c:=e_tmpl_slot) rfl rfl]
    simp only[e_tmpl_slot,go_sem,Nd.cells,hk,hh,h1',ne_eq,List.map_cons,List.map_nil,hat,hx]
    exact Good.done rfl
   |true =>
    rw[hg] at hx
    simp only[Vl.p] at hn
    by_cases h3:headM d=sDefault
    ·have h3':(headM d=[100,101,102,97,117,108,116])=True:=eq_true h3
     match hdk:d.kids with
     |[] =>
      rw[hdk] at hd
      refine run zSl false ?_ (by unfold slotM; rw[if_pos h1,hk]; simp only[hg,slotD,h3,hdk,if_true] <;> rfl)
      rw[callE_fn efns given (c:=e_tmpl_slot) rfl rfl]
      simp only[List.map_cons,List.map_nil] at hd
      simp only[e_tmpl_slot,go_sem,Nd.cells,hk,hdk,hh,h1',h3',ne_eq,List.map_cons,List.map_nil,hat,hat2,hx,hn,hd]
      exact Good.done rfl
     |[u] =>
      rw[hdk] at hd
      refine run zSl false ?_ (by unfold slotM; rw[if_pos h1,hk]; simp only[hg,slotD,h3,hdk,if_true] <;> rfl)
      rw[callE_fn efns given (c:=e_tmpl_slot) rfl rfl]
      simp only[List.map_cons,List.map_nil] at hd
      simp only[e_tmpl_slot,go_sem,Nd.cells,hk,hdk,hh,h1',h3',ne_eq,List.map_cons,List.map_nil,hat,hat2,hx,hn,hd]
      exact Good.done rfl
     |u::v::w::l =>
      rw[hdk] at hd
      refine run zSl false ?_ (by unfold slotM; rw[if_pos h1,hk]; simp only[hg,slotD,h3,hdk,if_true] <;> rfl)
      rw[callE_fn efns given (c:=e_tmpl_slot) rfl rfl]
      simp only[List.map_cons,List.map_nil] at hd
      have c1:((((List.map Nd.p l).length+1+1+1:Nat):Int)=2)=False:=eq_false (by omega)
      simp only[e_tmpl_slot,go_sem,Nd.cells,hk,hdk,hh,h1',h3',ne_eq,List.map_cons,List.map_nil,hat,hat2,hx,hn,hd,c1]
      exact Good.done rfl
     |[u,v] =>
      rw[hdk] at hd
      have hv:=svalue_t v
      have hat3:evIdx 5 [u.p,v.p] 1=some (.ref v.cells):=Nd.at_ (l:=[u,v]) (n:=1) (by simp)
      rw[Nd.p_eq] at hv
      simp only[Nd.cells] at hv hat3
      simp only[List.map_cons,List.map_nil] at hd
      cases hm:valM v with
      |none =>
       rw[hm] at hv
       simp only[valV,Vl.p] at hv
       refine run ⟨x.s,⟨0,0,[]⟩⟩ false ?_ (by unfold slotM; rw[if_pos h1,hk]; simp only[hg,slotD,h3,hdk,if_true,hm] <;> rfl)
       rw[callE_fn efns given (c:=e_tmpl_slot) rfl rfl]
       simp only[e_tmpl_slot,go_sem,Nd.cells,hk,hdk,hh,h1',h3',ne_eq,List.map_cons,List.map_nil,hat,hat2,hat3,hx,hn,hd,hv]
       exact Good.done rfl
      |some w =>
       rw[hm] at hv
       simp only[valV,Vl.p] at hv
       refine run ⟨x.s,w⟩ true ?_ (by unfold slotM; rw[if_pos h1,hk]; simp only[hg,slotD,h3,hdk,if_true,hm] <;> rfl)
       rw[callE_fn efns given (c:=e_tmpl_slot) rfl rfl]
       simp only[e_tmpl_slot,go_sem,Nd.cells,hk,hdk,hh,h1',h3',ne_eq,List.map_cons,List.map_nil,hat,hat2,hat3,hx,hn,hd,hv]
       exact Good.done rfl
    ·have h3':(headM d=[100,101,102,97,117,108,116])=False:=eq_false h3
     refine run zSl false ?_ (by unfold slotM; rw[if_pos h1,hk]; simp only[hg,slotD,h3,if_true,if_false] <;> rfl)
     rw[callE_fn efns given (c:=e_tmpl_slot) rfl rfl]
     simp only[e_tmpl_slot,go_sem,Nd.cells,hk,hh,h1',h3',ne_eq,List.map_cons,List.map_nil,hat,hat2,hx,hn,hd]
     exact Good.done rfl
 ·have h1':(headM n=[115,108,111,116])=False:=eq_false h1
  refine run zSl false ?_ (by unfold slotM; rw[if_neg h1]; rfl)
  rw[callE_fn efns given (c:=e_tmpl_slot) rfl rfl]
  simp only[e_tmpl_slot,go_sem,Nd.cells,hh,h1',ne_eq]
  exact Good.done rfl
theorem tmay_t (t:Tm) (s:Sl) (b:Bool) (hl:t.slots.length<4611686018427387904):tupV (callE efns given) (.call 0 f_tmpl_Template_may) [t.p,s.p,.bool b]=some (.int .i64 (mayM t.slots (if b=true then some s else none))):=by
 refine call_good (f:=f_tmpl_Template_may) rfl ?_
 rw[callE_fn efns given (c:=e_tmpl_Template_may) rfl rfl]
 have h:=tslot_t t s.name hl
 simp only[Tm.p] at h
 cases b with
 |false =>
  cases hp:placeL s.name t.slots with
  |none =>
   rw[hp] at h
   simp only[placeV] at h
   simp only[e_tmpl_Template_may,go_sem,Tm.p,Sl.p,h]
   exact Good.done rfl
  |some i =>
   rw[hp] at h
   simp only[placeV] at h
   simp only[e_tmpl_Template_may,go_sem,Tm.p,Sl.p,h]
   exact Good.done rfl
 |true =>
  simp only[mayM,if_true]
  cases hp:placeL s.name t.slots with
  |none =>
   rw[hp] at h
   simp only[placeV] at h
   by_cases h16:16<=t.slots.length
   ·have c1:((t.slots.length:Int)>=16)=True:=eq_true (by omega)
    simp only[e_tmpl_Template_may,go_sem,Tm.p,Sl.p,h,List.length_map,c1,h16]
    exact Good.done rfl
   ·have c1:((t.slots.length:Int)>=16)=False:=eq_false (by omega)
    simp only[e_tmpl_Template_may,go_sem,Tm.p,Sl.p,h,List.length_map,c1,h16]
    exact Good.done rfl
  |some i =>
   rw[hp] at h
   simp only[placeV] at h
   simp only[e_tmpl_Template_may,go_sem,Tm.p,Sl.p,h]
   exact Good.done rfl
end Go.Proofs.YthjnlpfibakacaaGreatDoorPe.Tmpl
set_option linter.unusedVariables false
set_option linter.unusedSimpArgs false
set_option maxRecDepth 100000
namespace Go.Proofs.YthjnlpfibakacaaGreatDoorPe.Tmpl
open Go Go.Proofs Go.Proofs.YthjnlpfibakacaaGreatDoorPe Go.Proofs.YthjnlpfibakacaaGreatDoorPe.TmplCode
def zTm:Tm:=⟨[],[]⟩
def NdS2 (n:Nd):Prop := ∀ x∈n.kids,x.s.length<4611686018427387904/\NdS x
def tparseV:Except (Int × Int) Tm->PV
 |.ok t=>.tuple [t.p,.nili]
 |.error q=>.tuple [zTm.p,errP [(sChar,q.1)] q.2]
def parseR (name:List UInt8) (l:List Nd) (t:List Sl):Except (Int × Int) Tm:=(slotsM l t).map fun t=>⟨name,t⟩
theorem parseR_cons {name:List UInt8} {y:Nd} {l:List Nd} {t:List Sl}:parseR name (y::l) t=match slotM y with
  |none=>.error (y.pos,2)
  |some s=>if mayM t (some s)=0 then parseR name l (t++[s]) else .error (y.pos,mayM t (some s)):=by
 unfold parseR
 rw[slotsM]
 cases slotM y with
 |none=>rfl
 |some s=>simp only; split <;> rfl
theorem tparse_t (n:Nd) (hs:NdS2 n) (hl:n.kids.length<=100000):tupV (callE efns given) (.call 0 f_tmpl_Parse) [n.p]=some (tparseV (tmplM n)):=by
 have hh:=shead_t n
 have hf:=fun e=>tfault_t n e
 simp only[Nd.p_eq n] at hh hf ⊢
 refine call_good (f:=f_tmpl_Parse) rfl ?_
 simp only[Nd.cells] at hh hf
 unfold tmplM
 by_cases h1:headM n=sDeft
 ·have h1':(headM n=[100,101,102,116,101,109,112,108,97,116,101])=True:=eq_true h1
  rw[if_pos h1]
  match hk:n.kids with
  |[] =>
   rw[hk] at hh hf
   simp only[List.map_nil] at hh hf
   rw[callE_fn efns given (c:=e_tmpl_Parse) rfl rfl]
   simp only[e_tmpl_Parse,go_sem,Nd.cells,hk,hh,hf,h1',ne_eq,List.map_nil]
   exact Good.done rfl
  |[a] =>
   rw[hk] at hh hf
   simp only[List.map_cons,List.map_nil] at hh hf
   rw[callE_fn efns given (c:=e_tmpl_Parse) rfl rfl]
   simp only[e_tmpl_Parse,go_sem,Nd.cells,hk,hh,hf,h1',ne_eq,List.map_cons,List.map_nil]
   exact Good.done rfl
  |a::x::l =>
   have hx:=tgood_t x (hs x (by rw[hk]; simp)).1
   rw[hk] at hh hf hl
   simp only[List.length_cons] at hl
   have hhx:=hs
   unfold NdS2 at hhx
   rw[hk] at hhx
   rw[Nd.p_eq] at hx
   simp only[List.map_cons] at hh hf
   have hat:evIdx 5 (a.p::x.p::l.map Nd.p) 1=some (.ref x.cells):=Nd.at_ (l:=a::x::l) (n:=1) (by simp)
   simp only[Nd.cells] at hx hat
   have c1:((((List.map Nd.p l).length+1+1:Nat):Int)<2)=False:=eq_false (by omega)
   cases hg:goodN x with
   |false =>
    rw[hg] at hx
    rw[callE_fn efns given (c:=e_tmpl_Parse) rfl rfl]
    simp only[e_tmpl_Parse,go_sem,Nd.cells,hk,hh,hf,h1',ne_eq,List.map_cons,hat,hx,c1]
    rw[hg]
    exact Good.done rfl
   |true =>
    rw[hg] at hx
    have hd:lsubV 5 (.lst (a.p::x.p::l.map Nd.p)) (some (.int .i64 2)) none none=some (.lst (l.map Nd.p)):=by
     have:=lsub_drop (n:=5) (l:=(a::x::l).map Nd.p) (i:=2) (j:=2) (k:=.i64) rfl (by simp) (by intro e he; obtain⟨y,_,rfl⟩:=List.mem_map.1 he; rw[Nd.p_cells]; rfl)
     simpa using this
    rw[callE_fn efns given (c:=e_tmpl_Parse) rfl rfl]
    simp only[e_tmpl_Parse,go_sem,Nd.cells,hk,hh,hf,h1',ne_eq,List.map_cons,hat,hx,c1,hd]
    rw[hg,if_pos rfl]
    refine Good.for l.length (fun i fr st => ∃ out rows rt rest bts t,fr=[.undef,.undef,.ptr 1 0,.ptr 2 0]++List.replicate 10 .undef++[.lst (l.map Nd.p),.int .i64 (l.length:Int),.int .i64 (i:Int)]++List.replicate 9 .undef /\
     st=⟨[[.int .i64 n.k,.int .i64 n.pos,.int .i64 n.i,.str n.s,.lst (a.p::x.p::l.map Nd.p)],[.str [],.nils],[.str x.s,out]]++rest,rows,bts,rt⟩ /\
     OutV 4 T_tmpl_Parse_0 (t.map Sl.p) out rows rt/\rt.length=rows.length/\t.length<=16/\parseR x.s l []=parseR x.s (l.drop i) t) ?_ ?_ ?_
    ·rintro i fr st hi ⟨out,rows,rt,rest,bts,t,rfl,rfl,hO,hr,ht,he⟩ k hk2
     have c2:((i:Int)<(l.length:Int))=True:=eq_true (by omega)
     have hy:=hhx l[i] (by simp[List.getElem_mem hi])
     rw[List.drop_eq_getElem_cons hi] at he
     have hat2:=Nd.at_ hi
     generalize l[i]=y at hy he hat2
     obtain⟨s,b,h2,h3⟩:=tslotr_t y hy.2
     have h4:=tmay_t ⟨x.s,t⟩ s b (by simp only; omega)
     have h5:=tfault_t y
     have h6:tupV (callE efns given) (.call 0 f_tmpl_Template_may) [.agg [.str x.s,out],s.p,.bool b]=tupV (callE efns given) (.call 0 f_tmpl_Template_may) [(⟨x.s,t⟩:Tm).p,s.p,.bool b] :=
      tup_shut (by rw[argF_0,show mapO (shutA shutN) [PV.agg [.str x.s,out],s.p,.bool b]=some [.agg [.str x.s,.lst (t.map Sl.p)],s.p,.bool b] from mS (shutA_agg (mS rfl (mS (hO.shutA _) mN))) (mS rfl (mS rfl mN))]; rfl)
     rw[h4] at h6
     rw[Nd.p_eq] at h2 h5
     simp only[Nd.cells,Sl.p] at h2 h5 h6 hat2
     rw[parseR_cons] at he
     by_cases hc:mayM t (if b=true then some s else none)=0
     ·cases b with
      |false=>simp[mayM] at hc
      |true =>
       rw[if_pos rfl] at h3 hc
       rw[h3] at he
       simp only[hc,if_true] at he h6
       obtain⟨out',rows',rt',ap,hO',hr',_⟩:=hO.app1 (b:=48) hr (e:=.agg s.cells) rfl (by simp; omega)
       have hb:tupV (callE efns given) (.bslice 4 [.str [],.int .i64 0,.int .i64 0,.str []] 1 [0]) [.agg s.cells]=some (.full [.agg s.cells]):=V_bs1 rfl rfl rfl
       simp only[Sl.cells] at ap hb
       simp only[b_tmpl_Parse_0,go_sem,List.length_map,c2,hat2,h2,h6,hb,ap,hO'.cells,hO'.cell,ne_eq,wrapN (n:=i) (by omega)]
       refine hk2 _ _ ⟨out',rows',rt',_,_,t++[s],rfl,rfl,?_,hr',by have:=(mayM_len hc).1; simp; omega,he⟩
       rw[List.map_append,List.map_singleton]
       exact hO'
     ·have hc':(mayM t (if b=true then some s else none)=0)=False:=eq_false hc
      simp only[b_tmpl_Parse_0,go_sem,List.length_map,c2,hat2,h2,h6,h5,hc',ne_eq]
      refine Good.done ?_
      have:parseR x.s l [] = .error (y.pos,mayM t (if b=true then some s else none)):=by
       rw[he,h3]
       cases b with
       |false=>rfl
       |true =>
        simp only[if_true] at hc ⊢
        simp only[if_neg hc]
      show Ret (tparseV (parseR x.s l [])) _ _
      rw[this]
      rfl
    ·rintro fr st ⟨out,rows,rt,rest,bts,t,rfl,rfl,hO,hr,ht,he⟩ k
     simp only[b_tmpl_Parse_0,go_sem,List.length_map,Int.lt_irrefl,hO.cells,hO.cell]
     refine Good.done ?_
     rw[List.drop_length] at he
     show Ret (tparseV (parseR x.s l [])) _ _
     rw[he]
     exact ret_tup (mS (shutR_agg (mS rfl (mS (hO.shutR _ _) mN))) (mS rfl mN))
    ·exact⟨.nils,[],[],[],_,[],by simp,rfl,.nils,rfl,by simp,rfl⟩
 ·have h1':(headM n=[100,101,102,116,101,109,112,108,97,116,101])=False:=eq_false h1
  rw[if_neg h1]
  rw[callE_fn efns given (c:=e_tmpl_Parse) rfl rfl]
  simp only[e_tmpl_Parse,go_sem,Nd.cells,hh,hf,h1',ne_eq]
  exact Good.done rfl
theorem Nd.pl (l:List Nd):l.map (fun x=>PV.agg x.cells)=l.map Nd.p:=List.map_congr_left fun x _=>(Nd.p_eq x).symm
end Go.Proofs.YthjnlpfibakacaaGreatDoorPe.Tmpl
set_option linter.unusedVariables false
set_option linter.unusedSimpArgs false
set_option maxRecDepth 100000
namespace Go.Proofs.YthjnlpfibakacaaGreatDoorPe.Tmpl
open Go Go.Proofs Go.Proofs.YthjnlpfibakacaaGreatDoorPe Go.Proofs.YthjnlpfibakacaaGreatDoorPe.TmplCode
end Go.Proofs.YthjnlpfibakacaaGreatDoorPe.Tmpl
set_option linter.unusedVariables false
set_option linter.unusedSimpArgs false
set_option maxRecDepth 100000
namespace Go.Proofs.YthjnlpfibakacaaGreatDoorPe.Tmpl
open Go Go.Proofs Go.Proofs.YthjnlpfibakacaaGreatDoorPe Go.Proofs.YthjnlpfibakacaaGreatDoorPe.TmplCode
end Go.Proofs.YthjnlpfibakacaaGreatDoorPe.Tmpl
set_option linter.unusedVariables false
set_option linter.unusedSimpArgs false
set_option maxRecDepth 100000
namespace Go.Proofs.YthjnlpfibakacaaGreatDoorPe.Tmpl
open Go Go.Proofs Go.Proofs.YthjnlpfibakacaaGreatDoorPe Go.Proofs.YthjnlpfibakacaaGreatDoorPe.TmplCode
end Go.Proofs.YthjnlpfibakacaaGreatDoorPe.Tmpl
set_option linter.unusedVariables false
set_option linter.unusedSimpArgs false
set_option maxRecDepth 100000
namespace Go.Proofs.YthjnlpfibakacaaGreatDoorPe.Tmpl
open Go Go.Proofs Go.Proofs.YthjnlpfibakacaaGreatDoorPe Go.Proofs.YthjnlpfibakacaaGreatDoorPe.TmplCode
theorem Wf.ndS2 {x:Nd} (h:Wf x):NdS2 x:=fun y hy=>⟨by have:=(h.kids y hy).s_le; omega,fun z hz=>by have:=((h.kids y hy).kids z hz).s_le; omega⟩
theorem OkL.len : ∀ {u t:List Sl},OkL t u->t.length<=16->t.length+u.length<=16
 |[],t,_,ht=>by simpa using ht
 |s::u,t,⟨_,h2,h3⟩,_=>by
  have h:=(mayM_len h2).1
  have:=OkL.len h3 (by simp; omega)
  simp at this ⊢
  omega
theorem Tm.Ok.len {t:Tm} (h:t.Ok):t.slots.length<=16:=by simpa using OkL.len h.slots (by simp)
def Tm.Small (t:Tm):Prop := ∀ s∈t.slots,s.d.s.length<=1000
end Go.Proofs.YthjnlpfibakacaaGreatDoorPe.Tmpl
set_option linter.unusedVariables false
set_option linter.unusedSimpArgs false
set_option maxRecDepth 100000
namespace Go.Proofs.YthjnlpfibakacaaGreatDoorPe.Tmpl
open Go Go.Proofs Go.Proofs.YthjnlpfibakacaaGreatDoorPe Go.Proofs.YthjnlpfibakacaaGreatDoorPe.TmplCode
def manyS:Nat->List UInt8
 |0=>[40,100,101,102,116,101,109,112,108,97,116,101,32,116]
 |n+1=>manyS n++[32]++[40,115,108,111,116,32,115]++[UInt8.ofNat (97+n)]++[41]
def manyAt (n:Nat):Nat:=if n>16 then (manyS 16).length+1 else 0
theorem manyS_len : ∀ n,(manyS n).length=14+10*n
 |0=>rfl
 |n+1=>by
  simp only[manyS,List.length_append,manyS_len n,List.length_cons,List.length_nil]
  omega
def chkMany (n:Nat):Bool:=match readK (manyS n++[41]) with
 |.ok [x]=>(match tmplM x with
  |.ok t=>decide (n<=16)&&decide (t.slots.length=n)
  |.error q=>decide (16<n)&&(decide (q.1=(manyAt n:Int))&&decide (q.2=4)))
 |_=>false
theorem chk_all:((List.range 25).all chkMany)=true:=by kernel_rfl
theorem chk_many {n:Nat} (h:n<=24) : ∃ x,readM (manyS n++[41]) = .ok [x]/\((n<=16 /\ ∃ t,tmplM x = .ok t/\t.slots.length=n)\/(16<n/\tmplM x = .error ((manyAt n:Int),4))):=by
 have hc:=List.all_eq_true.1 chk_all n (List.mem_range.2 (by omega))
 unfold chkMany at hc
 rw[readK_eq] at hc
 split at hc
 ·rename_i x hx
  refine⟨x,hx,?_⟩
  split at hc
  ·rename_i t ht
   simp only[Bool.and_eq_true,decide_eq_true_eq] at hc
   exact .inl ⟨hc.1,t,ht,hc.2⟩
  ·rename_i q hq
   simp only[Bool.and_eq_true,decide_eq_true_eq] at hc
   exact .inr ⟨hc.1,by rw[hq,<- hc.2.1,<- hc.2.2]⟩
 ·cases hc
theorem many_tob {s:List UInt8}:unV .tobytes (.str s)=some (.lst (byts s)):=rfl
theorem many_law (n:Int):IsTrue (callE efns given f_law9_TmplMany [.int .i64 n] ⟨[],[],[],[]⟩):=by
 rw[callE_fn efns given (c:=e_law9_TmplMany) rfl rfl]
 have hk:=known_t
 by_cases h0:n<0
 ·simp only[e_law9_TmplMany,go_sem,hk,eq_true h0]
  exact Good.done rfl
 by_cases h1:n>24
 ·simp only[e_law9_TmplMany,go_sem,hk,eq_false h0,eq_true h1]
  exact Good.done rfl
 obtain⟨m,rfl⟩ : ∃ m:Nat,n=m:=⟨n.toNat,by omega⟩
 have hm:m<=24:=by omega
 simp only[e_law9_TmplMany,go_sem,hk,eq_false h0,eq_false h1]
 refine Good.for m (fun i fr st=>fr=[.int .i64 (m:Int),.str (manyS i),.int .i64 (manyAt i:Int),.int .i64 (i:Int),.undef,.undef,.undef,.undef,.undef,.undef,.undef,.undef]/\st=⟨[],[],[],[]⟩) ?_ ?_ ?_
 ·rintro i fr st hi ⟨rfl,rfl⟩ k hk
  have c1:((i:Int)<(m:Int))=True:=eq_true (by omega)
  have hl:=manyS_len i
  have b1:((manyS i).length+1<=4611686018427387904)=True:=eq_true (by omega)
  have b2:((manyS i).length+1+7<=4611686018427387904)=True:=eq_true (by omega)
  have b3:((manyS i).length+1+7+1<=4611686018427387904)=True:=eq_true (by omega)
  have b4:((manyS i).length+1+7+1+1<=4611686018427387904)=True:=eq_true (by omega)
  have w8:IntKind.u8.wrap (IntKind.i64.wrap (97+(i:Int)))=((97+i:Nat):Int):=by rw[IntKind.wrap_i64,IntKind.wrap_u8]; omega
  have ha:manyAt (i+1)=if i=16 then (manyS i).length+1 else manyAt i:=by
   unfold manyAt
   by_cases h:i=16
   ·subst h; rfl
   ·rw[if_neg h]
    by_cases h2:i>16
    ·rw[if_pos (by omega),if_pos h2]
    ·rw[if_neg (by omega),if_neg h2]
  by_cases h16:i=16
  ·have c2:((i:Int)=16)=True:=eq_true (by omega)
   rw[if_pos h16] at ha
   simp only[b_law9_TmplMany_0,go_sem,c1,c2,b1,b2,b3,b4,w8,List.length_append,List.length_cons,List.length_nil,wrapN (n:=i) (by omega)]
   refine hk _ _ ⟨?_,rfl⟩
   rw[ha]
   simp only[manyS,Int.toNat_natCast,List.append_assoc,List.cons_append,List.nil_append]
  ·have c2:((i:Int)=16)=False:=eq_false (by omega)
   rw[if_neg h16] at ha
   simp only[b_law9_TmplMany_0,go_sem,c1,c2,b1,b2,b3,b4,w8,List.length_append,List.length_cons,List.length_nil,wrapN (n:=i) (by omega)]
   refine hk _ _ ⟨?_,rfl⟩
   rw[ha]
   simp only[manyS,Int.toNat_natCast,List.append_assoc,List.cons_append,List.nil_append]
 ·rintro fr st ⟨rfl,rfl⟩ k
  obtain⟨x,hr,hc⟩:=chk_many hm
  have hs:=sread_t (manyS m++[41])
  rw[hr] at hs
  obtain⟨hw,hsz⟩:=readM_ok hr
  have hwx:=hw x (List.mem_cons_self ..)
  have hxs:x.sz<=4096:=by simp only[Nd.szs] at hsz; omega
  have hkl:x.kids.length<=4096:=by have:=Nd.sz_eq x; have:=Nd.len_sz x.kids; omega
  have t2:=tparse_t x hwx.ndS2 (by omega)
  have hat:evIdx 5 [x.p] 0=some (.ref x.cells):=Nd.at_ (l:=[x]) (n:=0) (by simp)
  have hl:=manyS_len m
  have b1:((manyS m).length+1<=4611686018427387904)=True:=eq_true (by omega)
  rw[Nd.p_eq] at t2
  simp only[Nd.cells] at t2 hat
  simp only[sreadV,List.map_cons,List.map_nil] at hs
  rcases hc with ⟨hle,t,ht,htl⟩|⟨hlt,ht⟩
  ·rw[ht] at t2
   simp only[tparseV,Tm.p] at t2
   have c1:((m:Int)>16)=False:=eq_false (by omega)
   have c2:((t.slots.length:Int)=(m:Int))=True:=eq_true (by omega)
   simp only[b_law9_TmplMany_0,go_sem,Int.lt_irrefl,b1,many_tob,hs,hat,t2,c1,c2,List.length_cons,List.length_nil,List.length_map,ne_eq]
   exact Good.done rfl
  ·rw[ht] at t2
   have q1:=tells_at (p:=(manyAt m:Int)) (e:=4) (by decide) (by decide) (by omega) (by unfold manyAt; rw[manyS_len]; split <;> omega)
   have q2:=at_t (p:=(manyAt m:Int)) (e:=4)
   simp only[tparseV,zTm,Tm.p,List.map_nil,sChar] at t2 q1 q2
   have c1:((m:Int)>16)=True:=eq_true (by omega)
   simp only[b_law9_TmplMany_0,go_sem,Int.lt_irrefl,b1,many_tob,hs,hat,t2,c1,q1,q2,List.length_cons,List.length_nil,ne_eq]
   exact Good.done rfl
 ·exact⟨rfl,rfl⟩
end Go.Proofs.YthjnlpfibakacaaGreatDoorPe.Tmpl
