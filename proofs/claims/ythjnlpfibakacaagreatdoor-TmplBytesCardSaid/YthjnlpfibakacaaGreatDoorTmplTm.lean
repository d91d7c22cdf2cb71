/- A part of the proof of this folder's statement; it has no condition of its own. -/
import Derived.Test.YthjnlpfibakacaaGreatDoorTmplNd
import Derived.Test.YthjnlpfibakacaaGreatDoorTmplNt
import Derived.Test.YthjnlpfibakacaaGreatDoorTmplVal
import Derived.Test.YthjnlpfibakacaaGreatDoorEcGen
import Derived.Test.YthjnlpfibakacaaGreatDoorTmplBy
set_option linter.unusedVariables false
set_option linter.unusedSimpArgs false
set_option maxRecDepth 100000
namespace Go.Proofs.YthjnlpfibakacaaGreatDoorPe.Tmpl
open Go Go.Proofs Go.Proofs.YthjnlpfibakacaaGreatDoorPe Go.Proofs.YthjnlpfibakacaaGreatDoorPe.TmplCode
structure Sl where
 name:List UInt8
 d:Vl
 deriving DecidableEq
structure Tm where
 name:List UInt8
 slots:List Sl
 deriving DecidableEq
def Sl.cells (s:Sl):List PV:=[.str s.name,.int .i64 s.d.k,.int .i64 s.d.i,.str s.d.s]
def Sl.p (s:Sl):PV:=.agg [.str s.name,.int .i64 s.d.k,.int .i64 s.d.i,.str s.d.s]
def Tm.cells (t:Tm):List PV:=[.str t.name,.lst (t.slots.map Sl.p)]
def Tm.p (t:Tm):PV:=.agg [.str t.name,.lst (t.slots.map Sl.p)]
def nilW:Vl:=⟨2,0,[110,105,108]⟩
def sSlot:List UInt8:=[115,108,111,116]
def sDefault:List UInt8:=[100,101,102,97,117,108,116]
def sDeft:List UInt8:=[100,101,102,116,101,109,112,108,97,116,101]
def goodN (n:Nd):Bool:=decide (n.k=2)&&goodM n.s
def slotD (name:List UInt8) (d:Nd):Option Sl :=
 if headM d=sDefault then (match d.kids with
  |[_,v]=>(valM v).map fun w=>⟨name,w⟩
  |_=>none) else none
def slotM (n:Nd):Option Sl :=
 if headM n=sSlot then (match n.kids with
  |[_,x]=>if goodN x=true then some ⟨x.s,nilW⟩ else none
  |[_,x,d]=>if goodN x=true then slotD x.s d else none
  |_=>none) else none
def placeL (s:List UInt8):List Sl->Option Nat
 |[]=>none
 |x::l=>if x.name=s then some 0 else (placeL s l).map (· + 1)
def mayM (t:List Sl) (s:Option Sl):Int :=
 match s with
 |none=>2
 |some s=>if (placeL s.name t).isSome=true then 6 else if 16<=t.length then 4 else 0
def slotsM:List Nd->List Sl->Except (Int × Int) (List Sl)
 |[],t=>.ok t
 |x::l,t=>match slotM x with
  |none=>.error (x.pos,2)
  |some s=>if mayM t (some s)=0 then slotsM l (t++[s]) else .error (x.pos,mayM t (some s))
def tmplM (n:Nd):Except (Int × Int) Tm :=
 if headM n=sDeft then (match n.kids with
  |_::x::l=>if goodN x=true then (slotsM l []).map fun t=>⟨x.s,t⟩ else .error (n.pos,2)
  |_=>.error (n.pos,2)) else .error (n.pos,2)
def symN (s:List UInt8):Nd:=.mk 2 0 0 s []
def listN (l:List Nd):Nd:=.mk 0 0 0 [] l
def leafV (v:Vl):Nd:=.mk v.k 0 v.i v.s []
def slotN (s:Sl):Nd:=listN ([symN sSlot,symN s.name]++if s.d=nilW then [] else [listN [symN sDefault,leafV s.d]])
def tmplN (t:Tm):Nd:=listN ([symN sDeft,symN t.name]++t.slots.map slotN)
def Sl.Ok (s:Sl):Prop:=goodM s.name=true/\(s.d.k=1\/s.d.k=2\/s.d.k=3)
theorem slotM_ok {n:Nd} {s:Sl} (h:slotM n=some s):s.Ok:=by
 unfold slotM at h
 split at h
 ·split at h
  ·split at h
   ·rename_i hg
    simp only[goodN,Bool.and_eq_true] at hg
    cases h
    exact⟨hg.2,.inr (.inl rfl)⟩
   ·cases h
  ·split at h
   ·rename_i hg
    simp only[goodN,Bool.and_eq_true] at hg
    unfold slotD at h
    split at h
    ·split at h
     ·rename_i v _
      unfold valM at h
      split at h
      ·rename_i hk
       cases h
       exact⟨hg.2,hk⟩
      ·cases h
     ·cases h
    ·cases h
   ·cases h
  ·cases h
 ·cases h
theorem slotM_slotN {s:Sl} (h:s.Ok):slotM (slotN s)=some s:=by
 obtain⟨name,d⟩:=s
 obtain⟨h1,h2⟩:=h
 simp only at h1 h2
 have hg:goodN (symN name)=true:=by simp[goodN,symN,Nd.k,Nd.s,h1]
 by_cases hd:d=nilW
 ·subst hd
  simp only[slotN,if_true,List.append_nil,slotM,headM,listN,Nd.k,Nd.kids,symN,Nd.s]
  simp only[symN] at hg
  rw[if_pos hg]
 ·have hv:valM (leafV d)=some d:=by
   unfold valM
   exact if_pos h2
  simp only[slotN,if_neg hd,List.cons_append,List.nil_append,slotM,headM,listN,Nd.k,Nd.kids,symN,Nd.s,slotD,hv]
  simp only[symN] at hg
  rw[if_pos hg]
  rfl
def OkL:List Sl->List Sl->Prop
 |_,[]=>True
 |t,s::l=>s.Ok/\mayM t (some s)=0/\OkL (t++[s]) l
theorem slotsM_ok : ∀ (l:List Nd) (t r:List Sl),slotsM l t = .ok r -> ∃ u,r=t++u/\OkL t u
 |[],t,r,h=>by cases h; exact⟨[],by simp,trivial⟩
 |x::l,t,r,h=>by
  simp only[slotsM] at h
  split at h
  ·cases h
  ·rename_i s hs
   split at h
   ·rename_i hm
    obtain⟨u,rfl,hu⟩:=slotsM_ok l _ _ h
    exact⟨s::u,by simp,slotM_ok hs,hm,hu⟩
   ·cases h
theorem slotsM_slotN : ∀ (u t:List Sl),OkL t u->slotsM (u.map slotN) t = .ok (t++u)
 |[],t,_=>by simp[slotsM]
 |s::u,t,⟨h1,h2,h3⟩=>by
  simp only[List.map_cons,slotsM,slotM_slotN h1,if_pos h2,slotsM_slotN u _ h3,List.append_assoc,List.cons_append,List.nil_append]
structure Tm.Ok (t:Tm):Prop where
 name:goodM t.name=true
 slots:OkL [] t.slots
theorem tmplM_ok {n:Nd} {t:Tm} (h:tmplM n = .ok t):t.Ok:=by
 unfold tmplM at h
 split at h
 ·split at h
  ·split at h
   ·rename_i x l _ hg
    simp only[goodN,Bool.and_eq_true] at hg
    cases hs:slotsM l [] with
    |error e=>rw[hs] at h; cases h
    |ok r =>
     rw[hs] at h
     cases h
     obtain⟨u,rfl,hu⟩:=slotsM_ok _ _ _ hs
     exact⟨hg.2,by simpa using hu⟩
   ·cases h
  ·cases h
 ·cases h
theorem tmplM_tmplN {t:Tm} (h:t.Ok):tmplM (tmplN t) = .ok t:=by
 have hg:goodN (symN t.name)=true:=by simp[goodN,symN,Nd.k,Nd.s,h.name]
 have hs:=slotsM_slotN t.slots [] h.slots
 have hh:headM (tmplN t)=sDeft:=rfl
 unfold tmplM
 rw[if_pos hh]
 simp only[tmplN,listN,Nd.kids,List.cons_append,List.nil_append]
 rw[if_pos hg,hs]
 rfl
theorem mayM_len {t:List Sl} {s:Sl} (h:mayM t (some s)=0):t.length<16/\placeL s.name t=none:=by
 unfold mayM at h
 simp only at h
 split at h
 ·cases h
 ·rename_i h1
  split at h
  ·cases h
  ·refine⟨by omega,?_⟩
   cases hp:placeL s.name t with
   |none=>rfl
   |some x=>rw[hp] at h1; simp at h1
end Go.Proofs.YthjnlpfibakacaaGreatDoorPe.Tmpl
set_option linter.unusedVariables false
set_option linter.unusedSimpArgs false
set_option maxRecDepth 100000
namespace Go.Proofs.YthjnlpfibakacaaGreatDoorPe.Tmpl
open Go Go.Proofs Go.Proofs.YthjnlpfibakacaaGreatDoorPe Go.Proofs.YthjnlpfibakacaaGreatDoorPe.TmplCode
theorem cmpS_zero {a b:List UInt8}:(cmpS a b=0)=(a=b):=by
 rw[cmpS_eq]
 have key : ∀ a b:List UInt8,c3 a b=0 ↔ a=b:=by
  intro a
  induction a with
  |nil=>intro b; cases b <;> simp[c3]
  |cons x a ih =>
   intro b
   cases b with
   |nil=>simp[c3]
   |cons y b =>
    unfold c3 lex
    rcases cmpI_spec x.toNat y.toNat with ⟨q,h⟩|⟨q,h⟩|⟨q,h⟩
    ·rw[h]; simp; intro e; subst e; omega
    ·have:=u8_eq q
     subst this
     rw[h]; simp[ih]
    ·rw[h]; simp; intro e; subst e; omega
 exact propext (key a b)
theorem cmpI_zero {a b:Int}:(cmpI a b=0)=(a=b):=by
 rcases cmpI_spec a b with ⟨q,h⟩|⟨q,h⟩|⟨q,h⟩
 ·rw[h]; simp; omega
 ·rw[h]; simp[q]
 ·rw[h]; simp; omega
theorem cmpV_zero {v w:Vl}:(cmpV v w=0)=(v=w):=by
 have e:(v=w)=(v.k=w.k/\v.i=w.i/\v.s=w.s):=by
  cases v; cases w; simp
 rw[e,<- cmpI_zero (a:=v.k),<- cmpI_zero (a:=v.i),<- cmpS_zero (a:=v.s)]
 unfold cmpV
 simp only[orM]
 by_cases h1:cmpI v.k w.k=0
 ·by_cases h2:cmpI v.i w.i=0
  ·by_cases h3:cmpS v.s w.s=0
   ·simp[h1,h2,h3]
   ·simp[h1,h2,h3]
  ·simp[h1,h2]
 ·simp[h1]
theorem vsame_t (v w:Vl):tupV (callE efns given) (.call 0 f_val_Same) [v.p,w.p]=some (.bool (decide (v=w))):=by
 rw[show decide (v=w)=decide (cmpV v w=0) from by simp only[cmpV_zero]]
 exact same_t given v w
theorem tgood_t (n:Nd) (hn:n.s.length<4611686018427387904):tupV (callE efns given) (.call 0 f_tmpl_good) [n.p]=some (.bool (goodN n)):=by
 rw[Nd.p_eq]
 refine call_good (f:=f_tmpl_good) rfl ?_
 rw[callE_fn efns given (c:=e_tmpl_good) rfl rfl]
 unfold goodN
 have hg:=good_t (s:=n.s) hn
 by_cases h2:n.k=2
 ·simp only[e_tmpl_good,go_sem,Nd.cells,h2,hg]
  exact Good.done (by simp[Ret]; rfl)
 ·simp only[e_tmpl_good,go_sem,Nd.cells,h2]
  exact Good.done rfl
theorem tfault_t (n:Nd) (e:Int):tupV (callE efns given) (.call 0 f_tmpl_fault) [n.p,.int .i64 e]=some (errP [(sChar,n.pos)] e):=by
 rw[Nd.p_eq]
 refine call_good (f:=f_tmpl_fault) rfl ?_
 rw[callE_fn efns given (c:=e_tmpl_fault) rfl rfl]
 simp only[e_tmpl_fault,go_sem,Nd.cells]
 exact Good.done rfl
theorem tnone_t:tupV (callE efns given) (.call 0 f_tmpl_none) []=some nilW.p:=by
 refine call_good (f:=f_tmpl_none) rfl ?_
 rw[callE_fn efns given (c:=e_tmpl_none) rfl rfl]
 have h:=ofSym_t given (s:=[110,105,108])
 simp only[Vl.p] at h
 simp only[e_tmpl_none,go_sem,h]
 exact Good.done rfl
theorem tword_t (s:List UInt8):tupV (callE efns given) (.call 0 f_tmpl_word) [.str s]=some (symN s).p:=by
 refine call_good (f:=f_tmpl_word) rfl ?_
 rw[callE_fn efns given (c:=e_tmpl_word) rfl rfl]
 simp only[e_tmpl_word,go_sem]
 exact Good.done rfl
theorem tleaf_t (v:Vl):tupV (callE efns given) (.call 0 f_tmpl_leaf) [v.p]=some (leafV v).p:=by
 refine call_good (f:=f_tmpl_leaf) rfl ?_
 rw[callE_fn efns given (c:=e_tmpl_leaf) rfl rfl]
 simp only[e_tmpl_leaf,go_sem,Vl.p]
 exact Good.done rfl
theorem sl_ok {l:List Sl} : ∀ e∈l.map Sl.p,ElemOk (some 4) 4 e:=fun e he=>by
 obtain⟨x,_,rfl⟩:=List.mem_map.1 he
 exact ElemOk.agg rfl
def slName:PV->List UInt8->Bool
 |.agg (.str n::_),s=>decide (n=s)
 |_,_=>false
theorem idxP_place (s:List UInt8) : ∀ l:List Sl,idxP (fun e=>slName e s) (l.map Sl.p)=placeL s l
 |[]=>rfl
 |x::l=>by
  have h:=idxP_place s l
  simp only[List.map_cons,idxP,placeL,h]
  simp only[Sl.p,slName,decide_eq_true_eq]
theorem tidx_t {l:List Sl} {s:List UInt8} {st:St} {b:Nat} (hb:st.boxes[b]? = some [.str s]) (hl:l.length<4611686018427387904) :
  ∃ st',callE efns given f_slices_IndexFunc_tmpl_Slot_tmpl_Slot [.lst (l.map Sl.p),.func f_tmpl_Template_Slot_1 [.ptr b 0]] st=some (.int .i64 (idxI (placeL s l)),st')/\Grew st st':=by
 have:=indexFunc_g (efns:=efns) (given:=given) (f:=f_slices_IndexFunc_tmpl_Slot_tmpl_Slot) (g:=f_tmpl_Template_Slot_1) (ld:=some 4) (n:=4) rfl (l:=l.map Sl.p) (cap:=[.ptr b 0]) (p:=fun e=>slName e s) (st:=st) (by simpa using hl) sl_ok ?_
 ·rw[idxP_place] at this
  exact this
 ·intro st' hg e he
  obtain⟨x,_,rfl⟩:=List.mem_map.1 he
  have hb':=hg.get hb
  have key:Good (fun v st2=>v = .bool (slName x.p s)/\Grew st' st2) (callE efns given f_tmpl_Template_Slot_1 [x.p,.ptr b 0] st'):=by
   rw[callE_fn efns given (c:=e_tmpl_Template_Slot_1) rfl rfl]
   have hb2:(st'.boxes++[x.cells])[b]? = some [.str s]:=(Grew.box st' x.cells T_tmpl_Template_Slot_1_0).get hb'
   simp only[Sl.cells] at hb2
   simp only[e_tmpl_Template_Slot_1,go_sem,Sl.p,hb2]
   exact Good.done ⟨rfl,Grew.box st' _ _⟩
  obtain⟨v,st2,h,rfl,hg2⟩:=key
  exact⟨st2,h,hg2⟩
def placeV (o:Option Nat):PV :=
 match o with
 |some i=>.tuple [.int .i64 (i:Int),.bool true]
 |none=>.tuple [.int .i64 0,.bool false]
theorem tslot_t (t:Tm) (s:List UInt8) (hl:t.slots.length<4611686018427387904):tupV (callE efns given) (.call 0 f_tmpl_Template_Slot) [t.p,.str s]=some (placeV (placeL s t.slots)):=by
 refine call_good (f:=f_tmpl_Template_Slot) rfl ?_
 rw[callE_fn efns given (c:=e_tmpl_Template_Slot) rfl rfl]
 obtain⟨st',h,_⟩:=tidx_t (l:=t.slots) (s:=s) (st:=⟨[t.cells,[.str s]],[],[T_tmpl_Template_Slot_0,T_tmpl_Template_Slot_1],[]⟩) (b:=1) rfl hl
 simp only[Tm.cells] at h
 cases hp:placeL s t.slots with
 |none =>
  rw[hp] at h
  simp only[idxI] at h
  simp only[e_tmpl_Template_Slot,go_sem,Tm.p,h]
  exact Good.done rfl
 |some i =>
  rw[hp] at h
  simp only[idxI] at h
  have c1:((0:Int)>(i:Int))=False:=eq_false (by omega)
  have c2:((i:Int)>=0)=True:=eq_true (by omega)
  simp only[e_tmpl_Template_Slot,go_sem,Tm.p,h,c1,c2]
  exact Good.done rfl
end Go.Proofs.YthjnlpfibakacaaGreatDoorPe.Tmpl
set_option linter.unusedVariables false
set_option linter.unusedSimpArgs false
set_option maxRecDepth 100000
namespace Go.Proofs.YthjnlpfibakacaaGreatDoorPe.Tmpl
open Go Go.Proofs Go.Proofs.YthjnlpfibakacaaGreatDoorPe Go.Proofs.YthjnlpfibakacaaGreatDoorPe.TmplCode
def NdS (n:Nd):Prop := ∀ x∈n.kids,x.s.length<4611686018427387904
def zSl:Sl:=⟨[],⟨0,0,[]⟩⟩
theorem tslotr_t (n:Nd) (hs:NdS n) : ∃ (s:Sl) (b:Bool),tupV (callE efns given) (.call 0 f_tmpl_slot) [n.p]=some (.tuple [s.p,.bool b])/\slotM n=if b=true then some s else none:=by
 have hh:=shead_t n
 have hn:=tnone_t
 rw[Nd.p_eq] at hh ⊢
 have run : ∀ (s:Sl) (b:Bool),Good (Ret (.tuple [s.p,.bool b])) (callE efns given f_tmpl_slot [.agg n.cells] ⟨[],[],[],[]⟩)->slotM n=(if b=true then some s else none) ->
   ∃ (s:Sl) (b:Bool),tupV (callE efns given) (.call 0 f_tmpl_slot) [.agg n.cells]=some (.tuple [s.p,.bool b])/\slotM n=if b=true then some s else none :=
  fun s b h1 h2=>⟨s,b,call_good (f:=f_tmpl_slot) rfl h1,h2⟩
 simp only[Nd.cells] at hh
 by_cases h1:headM n=sSlot
 ·have h1':(headM n=[115,108,111,116])=True:=eq_true h1
  match hk:n.kids with
  |[] =>
   refine run zSl false ?_ (by unfold slotM; rw[if_pos h1,hk]; rfl)
   rw[callE_fn efns given (c:=e_tmpl_slot) rfl rfl]
   rw[hk] at hh
   simp only[List.map_nil] at hh
   simp only[e_tmpl_slot,go_sem,Nd.cells,hk,hh,h1',ne_eq,List.map_nil]
   exact Good.done rfl
  |[a] =>
   refine run zSl false ?_ (by unfold slotM; rw[if_pos h1,hk]; rfl)
   rw[callE_fn efns given (c:=e_tmpl_slot) rfl rfl]
   rw[hk] at hh
   simp only[List.map_cons,List.map_nil] at hh
   simp only[e_tmpl_slot,go_sem,Nd.cells,hk,hh,h1',ne_eq,List.map_cons,List.map_nil]
   exact Good.done rfl
  |a::b::c::d::l =>
   refine run zSl false ?_ (by unfold slotM; rw[if_pos h1,hk]; rfl)
   rw[callE_fn efns given (c:=e_tmpl_slot) rfl rfl]
   rw[hk] at hh
   simp only[List.map_cons,List.map_nil] at hh
   have c1:((((List.map Nd.p l).length+1+1+1+1:Nat):Int)<2)=False:=eq_false (by omega)
   have c2:((((List.map Nd.p l).length+1+1+1+1:Nat):Int)>3)=True:=eq_true (by omega)
   simp only[e_tmpl_slot,go_sem,Nd.cells,hk,hh,h1',ne_eq,List.map_cons,List.map_nil,c1,c2]
   exact Good.done rfl
  |[a,x] =>
   have hx:=tgood_t x (hs x (by rw[hk]; simp))
   rw[hk] at hh
   rw[Nd.p_eq] at hx
   simp only[List.map_cons,List.map_nil] at hh
   have hat:evIdx 5 [a.p,x.p] 1=some (.ref x.cells):=Nd.at_ (l:=[a,x]) (n:=1) (by simp)
   simp only[Nd.cells] at hx hat
   cases hg:goodN x with
   |false =>
    rw[hg] at hx
    refine run zSl false ?_ (by unfold slotM; rw[if_pos h1,hk]; simp only[hg] <;> rfl)
    rw[callE_fn efns given (c:=e_tmpl_slot) rfl rfl]
    simp only[e_tmpl_slot,go_sem,Nd.cells,hk,hh,h1',ne_eq,List.map_cons,List.map_nil,hat,hx]
    exact Good.done rfl
   |true =>
    rw[hg] at hx
    refine run ⟨x.s,nilW⟩ true ?_ (by unfold slotM; rw[if_pos h1,hk]; simp only[hg] <;> rfl)
    rw[callE_fn efns given (c:=e_tmpl_slot) rfl rfl]
    simp only[Vl.p] at hn
    simp only[e_tmpl_slot,go_sem,Nd.cells,hk,hh,h1',ne_eq,List.map_cons,List.map_nil,hat,hx,hn]
    exact Good.done rfl
  |[a,x,d] =>
   have hx:=tgood_t x (hs x (by rw[hk]; simp))
   have hd:=shead_t d
   rw[hk] at hh
   rw[Nd.p_eq] at hx hd
   simp only[List.map_cons,List.map_nil] at hh
   have hat:evIdx 5 [a.p,x.p,d.p] 1=some (.ref x.cells):=Nd.at_ (l:=[a,x,d]) (n:=1) (by simp)
   have hat2:evIdx 5 [a.p,x.p,d.p] 2=some (.ref d.cells):=Nd.at_ (l:=[a,x,d]) (n:=2) (by simp)
   simp only[Nd.cells] at hx hat hat2 hd
   cases hg:goodN x with
   |false =>
    rw[hg] at hx
    refine run zSl false ?_ (by unfold slotM; rw[if_pos h1,hk]; simp only[hg] <;> rfl)
    rw[callE_fn efns given (c:=e_tmpl_slot) rfl rfl]
    simp only[e_tmpl_slot,go_sem,Nd.cells,hk,hh,h1',ne_eq,List.map_cons,List.map_nil,hat,hx]
    exact Good.done rfl
   |true =>
    rw[hg] at hx
    simp only[Vl.p] at hn
    by_cases h3:headM d=sDefault
    ·have h3':(headM d=[100,101,102,97,117,108,116])=True:=eq_true h3
     match hdk:d.kids with
     |[] =>
      rw[hdk] at hd
      refine run zSl false ?_ (by unfold slotM; rw[if_pos h1,hk]; simp only[hg,slotD,h3,hdk,if_true] <;> rfl)
      rw[callE_fn efns given (c:=e_tmpl_slot) rfl rfl]
      simp only[List.map_cons,List.map_nil] at hd
      simp only[e_tmpl_slot,go_sem,Nd.cells,hk,hdk,hh,h1',h3',ne_eq,List.map_cons,List.map_nil,hat,hat2,hx,hn,hd]
      exact Good.done rfl
     |[u] =>
      rw[hdk] at hd
      refine run zSl false ?_ (by unfold slotM; rw[if_pos h1,hk]; simp only[hg,slotD,h3,hdk,if_true] <;> rfl)
      rw[callE_fn efns given (c:=e_tmpl_slot) rfl rfl]
      simp only[List.map_cons,List.map_nil] at hd
      simp only[e_tmpl_slot,go_sem,Nd.cells,hk,hdk,hh,h1',h3',ne_eq,List.map_cons,List.map_nil,hat,hat2,hx,hn,hd]
      exact Good.done rfl
     |u::v::w::l =>
      rw[hdk] at hd
      refine run zSl false ?_ (by unfold slotM; rw[if_pos h1,hk]; simp only[hg,slotD,h3,hdk,if_true] <;> rfl)
      rw[callE_fn efns given (c:=e_tmpl_slot) rfl rfl]
      simp only[List.map_cons,List.map_nil] at hd
      have c1:((((List.map Nd.p l).length+1+1+1:Nat):Int)=2)=False:=eq_false (by omega)
      simp only[e_tmpl_slot,go_sem,Nd.cells,hk,hdk,hh,h1',h3',ne_eq,List.map_cons,List.map_nil,hat,hat2,hx,hn,hd,c1]
      exact Good.done rfl
     |[u,v] =>
      rw[hdk] at hd
      have hv:=svalue_t v
      have hat3:evIdx 5 [u.p,v.p] 1=some (.ref v.cells):=Nd.at_ (l:=[u,v]) (n:=1) (by simp)
      rw[Nd.p_eq] at hv
      simp only[Nd.cells] at hv hat3
      simp only[List.map_cons,List.map_nil] at hd
      cases hm:valM v with
      |none =>
       rw[hm] at hv
       simp only[valV,Vl.p] at hv
       refine run ⟨x.s,⟨0,0,[]⟩⟩ false ?_ (by unfold slotM; rw[if_pos h1,hk]; simp only[hg,slotD,h3,hdk,if_true,hm] <;> rfl)
       rw[callE_fn efns given (c:=e_tmpl_slot) rfl rfl]
       simp only[e_tmpl_slot,go_sem,Nd.cells,hk,hdk,hh,h1',h3',ne_eq,List.map_cons,List.map_nil,hat,hat2,hat3,hx,hn,hd,hv]
       exact Good.done rfl
      |some w =>
       rw[hm] at hv
       simp only[valV,Vl.p] at hv
       refine run ⟨x.s,w⟩ true ?_ (by unfold slotM; rw[if_pos h1,hk]; simp only[hg,slotD,h3,hdk,if_true,hm] <;> rfl)
       rw[callE_fn efns given (c:=e_tmpl_slot) rfl rfl]
       simp only[e_tmpl_slot,go_sem,Nd.cells,hk,hdk,hh,h1',h3',ne_eq,List.map_cons,List.map_nil,hat,hat2,hat3,hx,hn,hd,hv]
       exact Good.done rfl
    ·have h3':(headM d=[100,101,102,97,117,108,116])=False:=eq_false h3
     refine run zSl false ?_ (by unfold slotM; rw[if_pos h1,hk]; simp only[hg,slotD,h3,if_true,if_false] <;> rfl)
     rw[callE_fn efns given (c:=e_tmpl_slot) rfl rfl]
     simp only[e_tmpl_slot,go_sem,Nd.cells,hk,hh,h1',h3',ne_eq,List.map_cons,List.map_nil,hat,hat2,hx,hn,hd]
     exact Good.done rfl
 ·have h1':(headM n=[115,108,111,116])=False:=eq_false h1
  refine run zSl false ?_ (by unfold slotM; rw[if_neg h1]; rfl)
  rw[callE_fn efns given (c:=e_tmpl_slot) rfl rfl]
  simp only[e_tmpl_slot,go_sem,Nd.cells,hh,h1',ne_eq]
  exact Good.done rfl
theorem tmay_t (t:Tm) (s:Sl) (b:Bool) (hl:t.slots.length<4611686018427387904):tupV (callE efns given) (.call 0 f_tmpl_Template_may) [t.p,s.p,.bool b]=some (.int .i64 (mayM t.slots (if b=true then some s else none))):=by
 refine call_good (f:=f_tmpl_Template_may) rfl ?_
 rw[callE_fn efns given (c:=e_tmpl_Template_may) rfl rfl]
 have h:=tslot_t t s.name hl
 simp only[Tm.p] at h
 cases b with
 |false =>
  cases hp:placeL s.name t.slots with
  |none =>
   rw[hp] at h
   simp only[placeV] at h
   simp only[e_tmpl_Template_may,go_sem,Tm.p,Sl.p,h]
   exact Good.done rfl
  |some i =>
   rw[hp] at h
   simp only[placeV] at h
   simp only[e_tmpl_Template_may,go_sem,Tm.p,Sl.p,h]
   exact Good.done rfl
 |true =>
  simp only[mayM,if_true]
  cases hp:placeL s.name t.slots with
  |none =>
   rw[hp] at h
   simp only[placeV] at h
   by_cases h16:16<=t.slots.length
   ·have c1:((t.slots.length:Int)>=16)=True:=eq_true (by omega)
    simp only[e_tmpl_Template_may,go_sem,Tm.p,Sl.p,h,List.length_map,c1,h16]
    exact Good.done rfl
   ·have c1:((t.slots.length:Int)>=16)=False:=eq_false (by omega)
    simp only[e_tmpl_Template_may,go_sem,Tm.p,Sl.p,h,List.length_map,c1,h16]
    exact Good.done rfl
  |some i =>
   rw[hp] at h
   simp only[placeV] at h
   simp only[e_tmpl_Template_may,go_sem,Tm.p,Sl.p,h]
   exact Good.done rfl
end Go.Proofs.YthjnlpfibakacaaGreatDoorPe.Tmpl
set_option linter.unusedVariables false
set_option linter.unusedSimpArgs false
set_option maxRecDepth 100000
namespace Go.Proofs.YthjnlpfibakacaaGreatDoorPe.Tmpl
open Go Go.Proofs Go.Proofs.YthjnlpfibakacaaGreatDoorPe Go.Proofs.YthjnlpfibakacaaGreatDoorPe.TmplCode
def zTm:Tm:=⟨[],[]⟩
def NdS2 (n:Nd):Prop := ∀ x∈n.kids,x.s.length<4611686018427387904/\NdS x
def tparseV:Except (Int × Int) Tm->PV
 |.ok t=>.tuple [t.p,.nili]
 |.error q=>.tuple [zTm.p,errP [(sChar,q.1)] q.2]
def parseR (name:List UInt8) (l:List Nd) (t:List Sl):Except (Int × Int) Tm:=(slotsM l t).map fun t=>⟨name,t⟩
theorem parseR_cons {name:List UInt8} {y:Nd} {l:List Nd} {t:List Sl}:parseR name (y::l) t=match slotM y with
  |none=>.error (y.pos,2)
  |some s=>if mayM t (some s)=0 then parseR name l (t++[s]) else .error (y.pos,mayM t (some s)):=by
 unfold parseR
 rw[slotsM]
 cases slotM y with
 |none=>rfl
 |some s=>simp only; split <;> rfl
theorem tparse_t (n:Nd) (hs:NdS2 n) (hl:n.kids.length<=100000):tupV (callE efns given) (.call 0 f_tmpl_Parse) [n.p]=some (tparseV (tmplM n)):=by
 have hh:=shead_t n
 have hf:=fun e=>tfault_t n e
 simp only[Nd.p_eq n] at hh hf ⊢
 refine call_good (f:=f_tmpl_Parse) rfl ?_
 simp only[Nd.cells] at hh hf
 unfold tmplM
 by_cases h1:headM n=sDeft
 ·have h1':(headM n=[100,101,102,116,101,109,112,108,97,116,101])=True:=eq_true h1
  rw[if_pos h1]
  match hk:n.kids with
  |[] =>
   rw[hk] at hh hf
   simp only[List.map_nil] at hh hf
   rw[callE_fn efns given (c:=e_tmpl_Parse) rfl rfl]
   simp only[e_tmpl_Parse,go_sem,Nd.cells,hk,hh,hf,h1',ne_eq,List.map_nil]
   exact Good.done rfl
  |[a] =>
   rw[hk] at hh hf
   simp only[List.map_cons,List.map_nil] at hh hf
   rw[callE_fn efns given (c:=e_tmpl_Parse) rfl rfl]
   simp only[e_tmpl_Parse,go_sem,Nd.cells,hk,hh,hf,h1',ne_eq,List.map_cons,List.map_nil]
   exact Good.done rfl
  |a::x::l =>
   have hx:=tgood_t x (hs x (by rw[hk]; simp)).1
   rw[hk] at hh hf hl
   simp only[List.length_cons] at hl
   have hhx:=hs
   unfold NdS2 at hhx
   rw[hk] at hhx
   rw[Nd.p_eq] at hx
   simp only[List.map_cons] at hh hf
   have hat:evIdx 5 (a.p::x.p::l.map Nd.p) 1=some (.ref x.cells):=Nd.at_ (l:=a::x::l) (n:=1) (by simp)
   simp only[Nd.cells] at hx hat
   have c1:((((List.map Nd.p l).length+1+1:Nat):Int)<2)=False:=eq_false (by omega)
   cases hg:goodN x with
   |false =>
    rw[hg] at hx
    rw[callE_fn efns given (c:=e_tmpl_Parse) rfl rfl]
    simp only[e_tmpl_Parse,go_sem,Nd.cells,hk,hh,hf,h1',ne_eq,List.map_cons,hat,hx,c1]
    rw[hg]
    exact Good.done rfl
   |true =>
    rw[hg] at hx
    have hd:lsubV 5 (.lst (a.p::x.p::l.map Nd.p)) (some (.int .i64 2)) none none=some (.lst (l.map Nd.p)):=by
     have:=lsub_drop (n:=5) (l:=(a::x::l).map Nd.p) (i:=2) (j:=2) (k:=.i64) rfl (by simp) (by intro e he; obtain⟨y,_,rfl⟩:=List.mem_map.1 he; rw[Nd.p_cells]; rfl)
     simpa using this
    rw[callE_fn efns given (c:=e_tmpl_Parse) rfl rfl]
    simp only[e_tmpl_Parse,go_sem,Nd.cells,hk,hh,hf,h1',ne_eq,List.map_cons,hat,hx,c1,hd]
    rw[hg,if_pos rfl]
    refine Good.for l.length (fun i fr st => ∃ out rows rt rest bts t,fr=[.undef,.undef,.ptr 1 0,.ptr 2 0]++List.replicate 10 .undef++[.lst (l.map Nd.p),.int .i64 (l.length:Int),.int .i64 (i:Int)]++List.replicate 9 .undef /\
     st=⟨[[.int .i64 n.k,.int .i64 n.pos,.int .i64 n.i,.str n.s,.lst (a.p::x.p::l.map Nd.p)],[.str [],.nils],[.str x.s,out]]++rest,rows,bts,rt⟩ /\
     OutV 4 T_tmpl_Parse_0 (t.map Sl.p) out rows rt/\rt.length=rows.length/\t.length<=16/\parseR x.s l []=parseR x.s (l.drop i) t) ?_ ?_ ?_
    ·rintro i fr st hi ⟨out,rows,rt,rest,bts,t,rfl,rfl,hO,hr,ht,he⟩ k hk2
     have c2:((i:Int)<(l.length:Int))=True:=eq_true (by omega)
     have hy:=hhx l[i] (by simp[List.getElem_mem hi])
     rw[List.drop_eq_getElem_cons hi] at he
     have hat2:=Nd.at_ hi
     generalize l[i]=y at hy he hat2
     obtain⟨s,b,h2,h3⟩:=tslotr_t y hy.2
     have h4:=tmay_t ⟨x.s,t⟩ s b (by simp only; omega)
     have h5:=tfault_t y
     have h6:tupV (callE efns given) (.call 0 f_tmpl_Template_may) [.agg [.str x.s,out],s.p,.bool b]=tupV (callE efns given) (.call 0 f_tmpl_Template_may) [(⟨x.s,t⟩:Tm).p,s.p,.bool b] :=
      tup_shut (by rw[argF_0,show mapO (shutA shutN) [PV.agg [.str x.s,out],s.p,.bool b]=some [.agg [.str x.s,.lst (t.map Sl.p)],s.p,.bool b] from mS (shutA_agg (mS rfl (mS (hO.shutA _) mN))) (mS rfl (mS rfl mN))]; rfl)
     rw[h4] at h6
     rw[Nd.p_eq] at h2 h5
     simp only[Nd.cells,Sl.p] at h2 h5 h6 hat2
     rw[parseR_cons] at he
     by_cases hc:mayM t (if b=true then some s else none)=0
     ·cases b with
      |false=>simp[mayM] at hc
      |true =>
       rw[if_pos rfl] at h3 hc
       rw[h3] at he
       simp only[hc,if_true] at he h6
       obtain⟨out',rows',rt',ap,hO',hr',_⟩:=hO.app1 (b:=48) hr (e:=.agg s.cells) rfl (by simp; omega)
       have hb:tupV (callE efns given) (.bslice 4 [.str [],.int .i64 0,.int .i64 0,.str []] 1 [0]) [.agg s.cells]=some (.full [.agg s.cells]):=V_bs1 rfl rfl rfl
       simp only[Sl.cells] at ap hb
       simp only[b_tmpl_Parse_0,go_sem,List.length_map,c2,hat2,h2,h6,hb,ap,hO'.cells,hO'.cell,ne_eq,wrapN (n:=i) (by omega)]
       refine hk2 _ _ ⟨out',rows',rt',_,_,t++[s],rfl,rfl,?_,hr',by have:=(mayM_len hc).1; simp; omega,he⟩
       rw[List.map_append,List.map_singleton]
       exact hO'
     ·have hc':(mayM t (if b=true then some s else none)=0)=False:=eq_false hc
      simp only[b_tmpl_Parse_0,go_sem,List.length_map,c2,hat2,h2,h6,h5,hc',ne_eq]
      refine Good.done ?_
      have:parseR x.s l [] = .error (y.pos,mayM t (if b=true then some s else none)):=by
       rw[he,h3]
       cases b with
       |false=>rfl
       |true =>
        simp only[if_true] at hc ⊢
        simp only[if_neg hc]
      show Ret (tparseV (parseR x.s l [])) _ _
      rw[this]
      rfl
    ·rintro fr st ⟨out,rows,rt,rest,bts,t,rfl,rfl,hO,hr,ht,he⟩ k
     simp only[b_tmpl_Parse_0,go_sem,List.length_map,Int.lt_irrefl,hO.cells,hO.cell]
     refine Good.done ?_
     rw[List.drop_length] at he
     show Ret (tparseV (parseR x.s l [])) _ _
     rw[he]
     exact ret_tup (mS (shutR_agg (mS rfl (mS (hO.shutR _ _) mN))) (mS rfl mN))
    ·exact⟨.nils,[],[],[],_,[],by simp,rfl,.nils,rfl,by simp,rfl⟩
 ·have h1':(headM n=[100,101,102,116,101,109,112,108,97,116,101])=False:=eq_false h1
  rw[if_neg h1]
  rw[callE_fn efns given (c:=e_tmpl_Parse) rfl rfl]
  simp only[e_tmpl_Parse,go_sem,Nd.cells,hh,hf,h1',ne_eq]
  exact Good.done rfl
theorem Nd.pl (l:List Nd):l.map (fun x=>PV.agg x.cells)=l.map Nd.p:=List.map_congr_left fun x _=>(Nd.p_eq x).symm
def nodeS (s:Sl):List Nd:=if s.d=nilW then [] else [listN [symN sDefault,leafV s.d]]
theorem outMore {n:Nat} {T:TypeId} {l:List PV} {x:PV} {rows:List (Nat × Nat)} {rt:List TypeId} (h:OutV n T l x rows rt) (q:Nat × Nat) (U:TypeId):OutV n T l x (rows++[q]) (rt++[U]):=by
 rcases h with h|⟨r,e1,e2,e3⟩
 ·exact .inl h
 ·exact .inr ⟨r,e1,by rw[List.getElem?_append_left (List.getElem?_eq_some_iff.1 e2).1]; exact e2,by rw[List.getElem?_append_left (List.getElem?_eq_some_iff.1 e3).1]; exact e3⟩
def rawL (v:PV):PV:=.agg [.int .i64 0,.int .i64 0,.int .i64 0,.str [],v]
theorem tlistf_t (l:List PV):tupV (callE efns given) (.call 3 f_tmpl_list) [.full l]=some (rawL (.full l)):=by
 have h:callE efns given f_tmpl_list [.full l] ⟨[],[],[],[]⟩=some (rawL (.full l),⟨[[.int .i64 0,.int .i64 0,.int .i64 0,.str [],.full l]],[],[T_tmpl_list_0],[]⟩):=by
  rw[callE_fn efns given (c:=e_tmpl_list) rfl rfl]
  simp only[e_tmpl_list,go_sem]
  rfl
 exact callV_of (show mapO (argF 3) [PV.full l]=some [.full l] from rfl) h rfl
def kidsS (s:Sl):List Nd:=[symN sSlot,symN s.name]++nodeS s
theorem slotN_eq (s:Sl):slotN s=listN (kidsS s):=rfl
theorem listN_p (l:List Nd):(listN l).p=rawL (.lst (l.map Nd.p)):=by rw[Nd.p_eq]; rfl
theorem raw_shut {l:List Nd} {v:PV} {rows:List (Nat × Nat)} {rt:List TypeId} (h:OutV 5 T_tmpl_Node_0 (l.map Nd.p) v rows rt):shutA shutN (rawL v)=some (listN l).p:=by
 rw[listN_p]
 exact shutA_agg (mS rfl (mS rfl (mS rfl (mS rfl (mS (h.shutA _) mN)))))
theorem tnode_t (t:Tm) (hl:t.slots.length<=100000):tupV (callE efns given) (.call 0 f_tmpl_Node) [t.p]=some (tmplN t).p:=by
 rw[show tmplN t=listN ([symN sDeft,symN t.name]++t.slots.map slotN) from rfl,listN_p]
 refine call_good (f:=f_tmpl_Node) rfl ?_
 rw[callE_fn efns given (c:=e_tmpl_Node) rfl rfl]
 have w1:=tword_t sDeft
 have w2:=tword_t t.name
 have w3:=tlistf_t [(symN sDeft).p,(symN t.name).p]
 have w4:=tword_t sSlot
 have w7:=tword_t sDefault
 have hno:=tnone_t
 have psym : ∀ s,(symN s).p = .agg [.int .i64 2,.int .i64 0,.int .i64 0,.str s,.lst []]:=fun s=>by rw[Nd.p_eq]; rfl
 have szw : ∀ s,szAll 5 [(symN s).p]=true:=fun s=>by rw[psym]; rfl
 simp only[psym,sDeft,sSlot,sDefault,Vl.p,rawL] at w1 w2 w3 w4 w7 hno
 simp only[e_tmpl_Node,go_sem,Tm.p,w1,w2,w3,List.length_map]
 refine Good.for t.slots.length (fun i fr st => ∃ out rows rt rest bts,fr=[.undef,.undef,.ptr 1 0,.ptr 2 0,.undef,.undef,.undef,.lst (t.slots.map Sl.p),.int .i64 (t.slots.length:Int),.int .i64 (i:Int)]++List.replicate 9 .undef /\
   st=⟨[[.str t.name,.lst (t.slots.map Sl.p)],[.int .i64 0,.int .i64 0,.int .i64 0,.str [],.nils],[.int .i64 0,.int .i64 0,.int .i64 0,.str [],out]]++rest,rows,bts,rt⟩ /\
   OutV 5 T_tmpl_Node_0 (([symN sDeft,symN t.name]++(t.slots.take i).map slotN).map Nd.p) out rows rt/\rt.length=rows.length) ?_ ?_ ?_
 ·rintro i fr st hi ⟨out,rows,rt,rest,bts,rfl,rfl,hO,hr⟩ k hk
  have c1:((i:Int)<(t.slots.length:Int))=True:=eq_true (by omega)
  have hat:evIdx 4 (t.slots.map Sl.p) (i:Int)=some (.ref t.slots[i].cells):=idx_of (e:=t.slots[i].p) (map_at hi) rfl
  have hlen:(([symN sDeft,symN t.name]++(t.slots.take i).map slotN).map Nd.p).length<=100002:=by simp; omega
  have htk:([symN sDeft,symN t.name]++(t.slots.take (i+1)).map slotN).map Nd.p=([symN sDeft,symN t.name]++(t.slots.take i).map slotN).map Nd.p++[(slotN t.slots[i]).p]:=by simp only[take_succ_at hi,List.map_append,List.map_cons,List.map_nil,List.append_assoc]
  rw[htk] at hk
  generalize t.slots[i]=s at hat hk
  generalize ([symN sDeft,symN t.name]++(t.slots.take i).map slotN).map Nd.p=L at hO hlen hk
  have w5:=tword_t s.name
  have w6:=tlistf_t [(symN sSlot).p,(symN s.name).p]
  have hv:=vsame_t s.d nilW
  simp only[Vl.p,psym,sSlot,rawL] at hv w5 w6
  have hO0:OutV 5 T_tmpl_Node_0 ([symN sSlot,symN s.name].map Nd.p) (.full [(symN sSlot).p,(symN s.name).p]) rows rt:=.inl ⟨rfl,by simp only[List.map_cons,List.map_nil,psym]; rfl⟩
  by_cases hd:s.d=nilW
  ·have hs:=raw_shut hO0
   rw[show ([symN sSlot,symN s.name]:List Nd)=kidsS s from by simp[kidsS,nodeS,hd],<- slotN_eq] at hs
   obtain⟨out',rows',rt',ap,hO',hr',_⟩:=hO.app1 (b:=64) hr (e:=(slotN s).p) (by rw[Nd.p_cells]; rfl) (by omega)
   have hb:tupV (callE efns given) (.bslice 5 [.int .i64 0,.int .i64 0,.int .i64 0,.str [],.nils] 1 [0]) [rawL (.full [(symN sSlot).p,(symN s.name).p])]=some (.full [(slotN s).p]):=V_bs1 hs (by rw[Nd.p_cells]; rfl) (by rw[Nd.p_cells]; rfl)
   have hdd:decide (s.d=nilW)=true:=by simp[hd]
   rw[hdd] at hv
   rw[slotN_eq,listN_p] at ap
   simp only[kidsS,nodeS,hd,if_true,List.append_nil,List.map_cons,List.map_nil,psym,rawL,sSlot] at ap
   simp only[b_tmpl_Node_0,go_sem,Sl.cells,hat,c1,w4,w5,w6,hv,hno,hb,ap,hO'.cells,hO'.cell,wrapN (n:=i) (by omega)]
   exact hk _ _ ⟨out',rows',rt',_,_,rfl,rfl,hO',hr'⟩
  ·have hdd:decide (s.d=nilW)=false:=by simp[hd]
   rw[hdd] at hv
   have w8:=tleaf_t s.d
   have w9:=tlistf_t [(symN sDefault).p,(leafV s.d).p]
   have pleaf:(leafV s.d).p = .agg [.int .i64 s.d.k,.int .i64 0,.int .i64 s.d.i,.str s.d.s,.lst []]:=by rw[Nd.p_eq]; rfl
   have hO1:OutV 5 T_tmpl_Node_0 ([symN sDefault,leafV s.d].map Nd.p) (.full [(symN sDefault).p,(leafV s.d).p]) rows rt:=.inl ⟨rfl,by simp only[List.map_cons,List.map_nil,psym,pleaf]; rfl⟩
   have hs1:=raw_shut hO1
   have hb1:tupV (callE efns given) (.bslice 5 [.int .i64 0,.int .i64 0,.int .i64 0,.str [],.nils] 1 [0]) [rawL (.full [(symN sDefault).p,(leafV s.d).p])]=some (.full [(listN [symN sDefault,leafV s.d]).p]):=V_bs1 hs1 (by rw[Nd.p_cells]; rfl) (by rw[Nd.p_cells]; rfl)
   have hOk:=outMore hO (3,5) T_tmpl_Node_0
   obtain⟨out',rows',rt',ap,hO',hr',_⟩:=hOk.app1 (b:=64) (by simp[hr]) (e:=(slotN s).p) (by rw[Nd.p_cells]; rfl) (by omega)
   rw[slotN_eq,listN_p] at ap
   have z1:szAll 5 [(listN [symN sDefault,leafV s.d]).p]=true:=by simp only[szAll,List.all_cons,List.all_nil,Nd.p_cells]; rfl
   have z2:szAll 5 [(symN sSlot).p,(symN s.name).p]=true:=by simp only[psym]; rfl
   simp only[kidsS,nodeS,hd,if_false,List.cons_append,List.nil_append,List.map_cons,List.map_nil,psym,rawL,sSlot,sDefault] at ap
   simp only[psym,sSlot,sDefault] at z1 z2
   simp only[rawL,psym,sDefault,sSlot,pleaf,Vl.p] at hb1 w8 w9
   simp only[b_tmpl_Node_0,go_sem,Sl.cells,hat,c1,w4,w5,w6,w7,w8,w9,hv,hno,hb1,ap,z1,z2,show (3*65<=70368744177664)=True from eq_true (by decide),hO'.cells,hO'.cell,wrapN (n:=i) (by omega)]
   exact hk _ _ ⟨out',rows',rt',_,_,rfl,rfl,hO',hr'⟩
 ·rintro fr st ⟨out,rows,rt,rest,bts,rfl,rfl,hO,hr⟩ k
  simp only[b_tmpl_Node_0,go_sem,Int.lt_irrefl,hO.cells,hO.cell]
  refine Good.done ?_
  rw[List.take_length] at hO
  exact ret_agg (mS rfl (mS rfl (mS rfl (mS rfl (mS (hO.shutR _ _) mN)))))
 ·exact⟨_,_,_,[],_,rfl,rfl,.inl ⟨rfl,by simp only[List.map_append,List.map_cons,List.map_nil,List.take_zero,psym]; rfl⟩,rfl⟩
end Go.Proofs.YthjnlpfibakacaaGreatDoorPe.Tmpl
set_option linter.unusedVariables false
set_option linter.unusedSimpArgs false
set_option maxRecDepth 100000
namespace Go.Proofs.YthjnlpfibakacaaGreatDoorPe.Tmpl
open Go Go.Proofs Go.Proofs.YthjnlpfibakacaaGreatDoorPe Go.Proofs.YthjnlpfibakacaaGreatDoorPe.TmplCode
theorem sl_eq (x y:Sl):(x=y)=(x.name=y.name/\x.d=y.d):=by cases x; cases y; simp
theorem tm_eq (x y:Tm):(x=y)=(x.name=y.name/\x.slots=y.slots):=by cases x; cases y; simp
theorem slsame_c (x y:Sl) (st:St) : ∃ st2,callE efns given f_tmpl_Same_1 [.agg x.cells,.agg y.cells] st=some (.bool (decide (x=y)),st2)/\Grew st st2:=by
 have key:Good (fun v st2=>v = .bool (decide (x=y))/\Grew st st2) (callE efns given f_tmpl_Same_1 [.agg x.cells,.agg y.cells] st):=by
  rw[callE_fn efns given (c:=e_tmpl_Same_1) rfl rfl]
  have hv:=vsame_t x.d y.d
  simp only[Vl.p] at hv
  have g:Grew st ⟨st.boxes++[x.cells,y.cells],st.rows,st.bt++[T_tmpl_Same_1_0,T_tmpl_Same_1_0],st.rt⟩:=Grew.mk2 st _ _ rfl
  by_cases h1:x.name=y.name
  ·by_cases h2:x.d=y.d
   ·have e:decide (x=y)=true:=decide_eq_true (by rw[sl_eq]; exact⟨h1,h2⟩)
    rw[decide_eq_true h2] at hv
    rw[e]
    simp only[e_tmpl_Same_1,go_sem,Sl.cells,eq_true h1,hv]
    exact Good.done ⟨rfl,g⟩
   ·have e:decide (x=y)=false:=decide_eq_false (by rw[sl_eq]; exact fun h=>h2 h.2)
    rw[decide_eq_false h2] at hv
    rw[e]
    simp only[e_tmpl_Same_1,go_sem,Sl.cells,eq_true h1,hv]
    exact Good.done ⟨rfl,g⟩
  ·have e:decide (x=y)=false:=decide_eq_false (by rw[sl_eq]; exact fun h=>h1 h.1)
   rw[e]
   simp only[e_tmpl_Same_1,go_sem,Sl.cells,eq_false h1]
   exact Good.done ⟨rfl,g⟩
 obtain⟨v,st2,h,rfl,g⟩:=key
 exact⟨st2,h,g⟩
theorem tsame_t (a b:Tm) (hl:a.slots.length<4611686018427387904):tupV (callE efns given) (.call 0 f_tmpl_Same) [a.p,b.p]=some (.bool (decide (a=b))):=by
 refine call_good (f:=f_tmpl_Same) rfl ?_
 rw[callE_fn efns given (c:=e_tmpl_Same) rfl rfl]
 by_cases h1:a.name=b.name
 ·obtain⟨st',h,_⟩:=equalFunc_g (efns:=efns) (given:=given) (f:=f_slices_EqualFunc_tmpl_Slot_tmpl_Slot_tmpl_Slot_tmpl_Slot) (g:=f_tmpl_Same_1) (n:=4) (z:=[.str [],.int .i64 0,.int .i64 0,.str []]) (T:=T_slices_EqualFunc_tmpl_Slot_tmpl_Slot_tmpl_Slot_tmpl_Slot_0)
   rfl rfl (cs:=Sl.cells) (eq:=fun x y=>decide (x=y)) (l:=a.slots) (m:=b.slots) (st:=⟨[a.cells,b.cells],[],[T_tmpl_Same_0,T_tmpl_Same_0],[]⟩) hl (fun x=>⟨rfl,rfl⟩) (fun st' _ x _ y _=>slsame_c x y st')
  rw[eqL_eq] at h
  have e:decide (a=b)=decide (a.slots=b.slots):=by simp only[tm_eq,h1,true_and]
  rw[e]
  change callE efns given f_slices_EqualFunc_tmpl_Slot_tmpl_Slot_tmpl_Slot_tmpl_Slot [.lst (a.slots.map Sl.p),.lst (b.slots.map Sl.p),.func f_tmpl_Same_1 []] _=_ at h
  simp only[Tm.cells] at h
  simp only[e_tmpl_Same,go_sem,Tm.p,eq_true h1,h]
  exact Good.done rfl
 ·have e:decide (a=b)=false:=decide_eq_false (by rw[tm_eq]; exact fun h=>h1 h.1)
  rw[e]
  simp only[e_tmpl_Same,go_sem,Tm.p,eq_false h1]
  exact Good.done rfl
theorem rtname_t (n:Nd) (hn:n.s.length<4611686018427387904):tupV (callE efns given) (.call 0 f_ref9_Name) [n.p]=some (.tuple [.str n.s,.bool (goodN n)]):=by
 rw[Nd.p_eq]
 refine call_good (f:=f_ref9_Name) rfl ?_
 rw[callE_fn efns given (c:=e_ref9_Name) rfl rfl]
 unfold goodN
 have hg:=rgood_t (s:=n.s) hn
 by_cases h2:n.k=2
 ·simp only[e_ref9_Name,go_sem,Nd.cells,h2,hg]
  exact Good.done (by simp[Ret]; rfl)
 ·simp only[e_ref9_Name,go_sem,Nd.cells,h2]
  exact Good.done rfl
theorem placeL_drop {s:List UInt8} {l:List Sl} {n:Nat} (h : ∀ x∈l.take n,x.name≠s):placeL s l=(placeL s (l.drop n)).map (· + n):=by
 induction n generalizing l with
 |zero=>simp
 |succ n ih =>
  cases l with
  |nil=>simp[placeL]
  |cons x l =>
   have hx:=h x (by simp)
   have:=ih (l:=l) (fun y hy=>h y (by simp[hy]))
   simp only[placeL,hx,if_false,List.drop_succ_cons,this,Option.map_map]
   congr 1
theorem rslot_t (t:Tm) (s:List UInt8) (hl:t.slots.length<4611686018427387904):tupV (callE efns given) (.call 0 f_ref9_Template_Slot) [t.p,.str s]=some (.int .i64 (idxI (placeL s t.slots))):=by
 refine call_good (f:=f_ref9_Template_Slot) rfl ?_
 rw[callE_fn efns given (c:=e_ref9_Template_Slot) rfl rfl]
 simp only[e_ref9_Template_Slot,go_sem,Tm.p]
 refine Good.for t.slots.length (fun i fr st=>fr=[.undef,.str s,.ptr 0 0,.int .i64 (i:Int),.undef,.undef]/\st=⟨[[.str t.name,.lst (t.slots.map Sl.p)]],[],[T_ref9_Template_Slot_0],[]⟩ /\ ∀ x∈t.slots.take i,x.name≠s) ?_ ?_ ?_
 ·rintro i fr st hi ⟨rfl,rfl,hh⟩ k hk
  have c1:((i:Int)<(t.slots.length:Int))=True:=eq_true (by omega)
  have hat:evIdx 4 (t.slots.map Sl.p) (i:Int)=some (.ref t.slots[i].cells):=idx_of (e:=t.slots[i].p) (map_at hi) rfl
  by_cases h:t.slots[i].name=s
  ·simp only[b_ref9_Template_Slot_0,go_sem,List.length_map,c1,hat,Sl.cells,eq_true h]
   refine Good.done ?_
   rw[placeL_drop hh,List.drop_eq_getElem_cons hi,placeL,if_pos h]
   simp[idxI]
   rfl
  ·simp only[b_ref9_Template_Slot_0,go_sem,List.length_map,c1,hat,Sl.cells,eq_false h,wrapN (n:=i) (by omega)]
   refine hk _ _ ⟨rfl,rfl,fun x hx => ?_⟩
   rw[take_succ_at hi,List.mem_append,List.mem_singleton] at hx
   rcases hx with hx|rfl
   ·exact hh x hx
   ·exact h
 ·rintro fr st ⟨rfl,rfl,hh⟩ k
  simp only[b_ref9_Template_Slot_0,go_sem,List.length_map,Int.lt_irrefl]
  refine Good.done ?_
  rw[placeL_drop hh,List.drop_length]
  rfl
 ·exact⟨rfl,rfl,by simp⟩
theorem rsymv_t (s:List UInt8):tupV (callE efns given) (.call 0 f_ref3_Sym) [.str s]=some (Vl.p ⟨2,0,s⟩):=rsym_t given
theorem rvsame_t (v w:Vl):tupV (callE efns given) (.call 0 f_ref3_Same) [v.p,w.p]=some (.bool (decide (v=w))):=rsame_t given v w
theorem rsame_t' (a b:Tm) (hl:a.slots.length<4611686018427387904):tupV (callE efns given) (.call 0 f_ref9_Same) [a.p,b.p]=some (.bool (decide (a=b))):=by
 refine call_good (f:=f_ref9_Same) rfl ?_
 rw[callE_fn efns given (c:=e_ref9_Same) rfl rfl]
 by_cases h1:a.name=b.name
 ·by_cases h2:a.slots.length=b.slots.length
  ·have h2':((a.slots.length:Int)=(b.slots.length:Int))=True:=eq_true (by omega)
   have e:decide (a=b)=eqL (fun x y=>decide (x=y)) a.slots b.slots:=by rw[eqL_eq]; simp only[tm_eq,h1,true_and]
   rw[e]
   simp only[e_ref9_Same,go_sem,Tm.p,eq_true h1,List.length_map,h2',ne_eq]
   refine Good.for a.slots.length (fun i fr st=>fr=[.undef,.undef,.ptr 0 0,.ptr 1 0,.int .i64 (i:Int)]++List.replicate 10 .undef/\st=⟨[[.str a.name,.lst (a.slots.map Sl.p)],[.str b.name,.lst (b.slots.map Sl.p)]],[],[T_ref9_Same_0,T_ref9_Same_0],[]⟩ /\
    eqL (fun x y=>decide (x=y)) a.slots b.slots=eqL (fun x y=>decide (x=y)) (a.slots.drop i) (b.slots.drop i)) ?_ ?_ ?_
   ·rintro i fr st hi ⟨rfl,rfl,hh⟩ k hk
    have hi':i<b.slots.length:=by omega
    have c1:((i:Int)<(a.slots.length:Int))=True:=eq_true (by omega)
    have hat:evIdx 4 (a.slots.map Sl.p) (i:Int)=some (.ref a.slots[i].cells):=idx_of (e:=a.slots[i].p) (map_at hi) rfl
    have hat2:evIdx 4 (b.slots.map Sl.p) (i:Int)=some (.ref b.slots[i].cells):=idx_of (e:=b.slots[i].p) (map_at hi') rfl
    rw[List.drop_eq_getElem_cons hi,List.drop_eq_getElem_cons hi',eqL] at hh
    generalize a.slots[i]=x at *
    generalize b.slots[i]=y at *
    have hv:=rvsame_t x.d y.d
    simp only[Vl.p] at hv
    by_cases h3:x.name=y.name
    ·by_cases h4:x.d=y.d
     ·rw[decide_eq_true h4] at hv
      rw[decide_eq_true (show x=y from by rw[sl_eq]; exact⟨h3,h4⟩),Bool.true_and] at hh
      simp only[b_ref9_Same_0,go_sem,List.length_map,c1,hat,hat2,Sl.cells,eq_true h3,hv,ne_eq,wrapN (n:=i) (by omega)]
      exact hk _ _ ⟨rfl,rfl,hh⟩
     ·rw[decide_eq_false h4] at hv
      rw[decide_eq_false (show ¬ x=y from by rw[sl_eq]; exact fun h=>h4 h.2),Bool.false_and] at hh
      simp only[b_ref9_Same_0,go_sem,List.length_map,c1,hat,hat2,Sl.cells,eq_true h3,hv,ne_eq]
      exact Good.done (by rw[hh]; rfl)
    ·rw[decide_eq_false (show ¬ x=y from by rw[sl_eq]; exact fun h=>h3 h.1),Bool.false_and] at hh
     simp only[b_ref9_Same_0,go_sem,List.length_map,c1,hat,hat2,Sl.cells,eq_false h3,ne_eq]
     exact Good.done (by rw[hh]; rfl)
   ·rintro fr st ⟨rfl,rfl,hh⟩ k
    simp only[b_ref9_Same_0,go_sem,List.length_map,Int.lt_irrefl]
    refine Good.done ?_
    rw[hh,List.drop_eq_nil_of_le (Nat.le_refl _),List.drop_eq_nil_of_le (by omega)]
    rfl
   ·exact⟨rfl,rfl,rfl⟩
  ·have h2':((a.slots.length:Int)=(b.slots.length:Int))=False:=eq_false (by omega)
   have e:decide (a=b)=false:=decide_eq_false (by rw[tm_eq]; exact fun h=>h2 (by rw[h.2]))
   rw[e]
   simp only[e_ref9_Same,go_sem,Tm.p,eq_true h1,List.length_map,h2',ne_eq]
   exact Good.done rfl
 ·have e:decide (a=b)=false:=decide_eq_false (by rw[tm_eq]; exact fun h=>h1 h.1)
  rw[e]
  simp only[e_ref9_Same,go_sem,Tm.p,eq_false h1,ne_eq]
  exact Good.done rfl
end Go.Proofs.YthjnlpfibakacaaGreatDoorPe.Tmpl
set_option linter.unusedVariables false
set_option linter.unusedSimpArgs false
set_option maxRecDepth 100000
namespace Go.Proofs.YthjnlpfibakacaaGreatDoorPe.Tmpl
open Go Go.Proofs Go.Proofs.YthjnlpfibakacaaGreatDoorPe Go.Proofs.YthjnlpfibakacaaGreatDoorPe.TmplCode
theorem rslotr_t (n:Nd) (hs:NdS n) : ∃ (s:Sl) (b:Bool),tupV (callE efns given) (.call 0 f_ref9_slot) [n.p]=some (.tuple [s.p,.bool b])/\slotM n=if b=true then some s else none:=by
 have hh:=head_t n
 have hn:=rsymv_t [110,105,108]
 rw[Nd.p_eq] at hh ⊢
 have run : ∀ (s:Sl) (b:Bool),Good (Ret (.tuple [s.p,.bool b])) (callE efns given f_ref9_slot [.agg n.cells] ⟨[],[],[],[]⟩)->slotM n=(if b=true then some s else none) ->
   ∃ (s:Sl) (b:Bool),tupV (callE efns given) (.call 0 f_ref9_slot) [.agg n.cells]=some (.tuple [s.p,.bool b])/\slotM n=if b=true then some s else none :=
  fun s b h1 h2=>⟨s,b,call_good (f:=f_ref9_slot) rfl h1,h2⟩
 simp only[Nd.cells] at hh
 by_cases h1:headM n=sSlot
 ·have h1':(headM n=[115,108,111,116])=True:=eq_true h1
  match hk:n.kids with
  |[] =>
   refine run zSl false ?_ (by unfold slotM; rw[if_pos h1,hk]; rfl)
   rw[callE_fn efns given (c:=e_ref9_slot) rfl rfl]
   rw[hk] at hh
   simp only[List.map_nil] at hh
   simp only[e_ref9_slot,go_sem,Nd.cells,hk,hh,h1',ne_eq,List.map_nil]
   exact Good.done rfl
  |[a] =>
   refine run zSl false ?_ (by unfold slotM; rw[if_pos h1,hk]; rfl)
   rw[callE_fn efns given (c:=e_ref9_slot) rfl rfl]
   rw[hk] at hh
   simp only[List.map_cons,List.map_nil] at hh
   simp only[e_ref9_slot,go_sem,Nd.cells,hk,hh,h1',ne_eq,List.map_cons,List.map_nil]
   exact Good.done rfl
  |a::b::c::d::l =>
   refine run zSl false ?_ (by unfold slotM; rw[if_pos h1,hk]; rfl)
   rw[callE_fn efns given (c:=e_ref9_slot) rfl rfl]
   rw[hk] at hh
   simp only[List.map_cons,List.map_nil] at hh
   have c1:((((List.map Nd.p l).length+1+1+1+1:Nat):Int)<2)=False:=eq_false (by omega)
   have c2:((((List.map Nd.p l).length+1+1+1+1:Nat):Int)>3)=True:=eq_true (by omega)
   simp only[e_ref9_slot,go_sem,Nd.cells,hk,hh,h1',ne_eq,List.map_cons,List.map_nil,c1,c2]
   exact Good.done rfl
  |[a,x] =>
   have hx:=rtname_t x (hs x (by rw[hk]; simp))
   rw[hk] at hh
   rw[Nd.p_eq] at hx
   simp only[List.map_cons,List.map_nil] at hh
   have hat:evIdx 5 [a.p,x.p] 1=some (.ref x.cells):=Nd.at_ (l:=[a,x]) (n:=1) (by simp)
   simp only[Nd.cells] at hx hat
   cases hg:goodN x with
   |false =>
    rw[hg] at hx
    refine run zSl false ?_ (by unfold slotM; rw[if_pos h1,hk]; simp only[hg] <;> rfl)
    rw[callE_fn efns given (c:=e_ref9_slot) rfl rfl]
    simp only[e_ref9_slot,go_sem,Nd.cells,hk,hh,h1',ne_eq,List.map_cons,List.map_nil,hat,hx]
    exact Good.done rfl
   |true =>
    rw[hg] at hx
    refine run ⟨x.s,nilW⟩ true ?_ (by unfold slotM; rw[if_pos h1,hk]; simp only[hg] <;> rfl)
    rw[callE_fn efns given (c:=e_ref9_slot) rfl rfl]
    simp only[Vl.p] at hn
    simp only[e_ref9_slot,go_sem,Nd.cells,hk,hh,h1',ne_eq,List.map_cons,List.map_nil,hat,hx,hn]
    exact Good.done rfl
  |[a,x,d] =>
   have hx:=rtname_t x (hs x (by rw[hk]; simp))
   have hd:=head_t d
   rw[hk] at hh
   rw[Nd.p_eq] at hx hd
   simp only[List.map_cons,List.map_nil] at hh
   have hat:evIdx 5 [a.p,x.p,d.p] 1=some (.ref x.cells):=Nd.at_ (l:=[a,x,d]) (n:=1) (by simp)
   have hat2:evIdx 5 [a.p,x.p,d.p] 2=some (.ref d.cells):=Nd.at_ (l:=[a,x,d]) (n:=2) (by simp)
   simp only[Nd.cells] at hx hat hat2 hd
   cases hg:goodN x with
   |false =>
    rw[hg] at hx
    refine run zSl false ?_ (by unfold slotM; rw[if_pos h1,hk]; simp only[hg] <;> rfl)
    rw[callE_fn efns given (c:=e_ref9_slot) rfl rfl]
    simp only[e_ref9_slot,go_sem,Nd.cells,hk,hh,h1',ne_eq,List.map_cons,List.map_nil,hat,hx]
    exact Good.done rfl
   |true =>
    rw[hg] at hx
    simp only[Vl.p] at hn
    by_cases h3:headM d=sDefault
    ·have h3':(headM d=[100,101,102,97,117,108,116])=True:=eq_true h3
     match hdk:d.kids with
     |[] =>
      rw[hdk] at hd
      refine run zSl false ?_ (by unfold slotM; rw[if_pos h1,hk]; simp only[hg,slotD,h3,hdk,if_true] <;> rfl)
      rw[callE_fn efns given (c:=e_ref9_slot) rfl rfl]
      simp only[List.map_cons,List.map_nil] at hd
      simp only[e_ref9_slot,go_sem,Nd.cells,hk,hdk,hh,h1',h3',ne_eq,List.map_cons,List.map_nil,hat,hat2,hx,hn,hd]
      exact Good.done rfl
     |[u] =>
      rw[hdk] at hd
      refine run zSl false ?_ (by unfold slotM; rw[if_pos h1,hk]; simp only[hg,slotD,h3,hdk,if_true] <;> rfl)
      rw[callE_fn efns given (c:=e_ref9_slot) rfl rfl]
      simp only[List.map_cons,List.map_nil] at hd
      simp only[e_ref9_slot,go_sem,Nd.cells,hk,hdk,hh,h1',h3',ne_eq,List.map_cons,List.map_nil,hat,hat2,hx,hn,hd]
      exact Good.done rfl
     |u::v::w::l =>
      rw[hdk] at hd
      refine run zSl false ?_ (by unfold slotM; rw[if_pos h1,hk]; simp only[hg,slotD,h3,hdk,if_true] <;> rfl)
      rw[callE_fn efns given (c:=e_ref9_slot) rfl rfl]
      simp only[List.map_cons,List.map_nil] at hd
      have c1:((((List.map Nd.p l).length+1+1+1:Nat):Int)=2)=False:=eq_false (by omega)
      simp only[e_ref9_slot,go_sem,Nd.cells,hk,hdk,hh,h1',h3',ne_eq,List.map_cons,List.map_nil,hat,hat2,hx,hn,hd,c1]
      exact Good.done rfl
     |[u,v] =>
      rw[hdk] at hd
      have hv:=value_t v
      have hat3:evIdx 5 [u.p,v.p] 1=some (.ref v.cells):=Nd.at_ (l:=[u,v]) (n:=1) (by simp)
      rw[Nd.p_eq] at hv
      simp only[Nd.cells] at hv hat3
      simp only[List.map_cons,List.map_nil] at hd
      cases hm:valM v with
      |none =>
       rw[hm] at hv
       simp only[valV,Vl.p] at hv
       refine run ⟨x.s,⟨0,0,[]⟩⟩ false ?_ (by unfold slotM; rw[if_pos h1,hk]; simp only[hg,slotD,h3,hdk,if_true,hm] <;> rfl)
       rw[callE_fn efns given (c:=e_ref9_slot) rfl rfl]
       simp only[e_ref9_slot,go_sem,Nd.cells,hk,hdk,hh,h1',h3',ne_eq,List.map_cons,List.map_nil,hat,hat2,hat3,hx,hn,hd,hv]
       exact Good.done rfl
      |some w =>
       rw[hm] at hv
       simp only[valV,Vl.p] at hv
       refine run ⟨x.s,w⟩ true ?_ (by unfold slotM; rw[if_pos h1,hk]; simp only[hg,slotD,h3,hdk,if_true,hm] <;> rfl)
       rw[callE_fn efns given (c:=e_ref9_slot) rfl rfl]
       simp only[e_ref9_slot,go_sem,Nd.cells,hk,hdk,hh,h1',h3',ne_eq,List.map_cons,List.map_nil,hat,hat2,hat3,hx,hn,hd,hv]
       exact Good.done rfl
    ·have h3':(headM d=[100,101,102,97,117,108,116])=False:=eq_false h3
     refine run zSl false ?_ (by unfold slotM; rw[if_pos h1,hk]; simp only[hg,slotD,h3,if_true,if_false] <;> rfl)
     rw[callE_fn efns given (c:=e_ref9_slot) rfl rfl]
     simp only[e_ref9_slot,go_sem,Nd.cells,hk,hh,h1',h3',ne_eq,List.map_cons,List.map_nil,hat,hat2,hx,hn,hd]
     exact Good.done rfl
 ·have h1':(headM n=[115,108,111,116])=False:=eq_false h1
  refine run zSl false ?_ (by unfold slotM; rw[if_neg h1]; rfl)
  rw[callE_fn efns given (c:=e_ref9_slot) rfl rfl]
  simp only[e_ref9_slot,go_sem,Nd.cells,hh,h1',ne_eq]
  exact Good.done rfl
def rparseV:Except (Int × Int) Tm->PV
 |.ok t=>.tuple [t.p,noneW]
 |.error q=>.tuple [zTm.p,wrongV q.1 q.2]
theorem rtparse_t (n:Nd) (hs:NdS2 n) (hl:n.kids.length<=100000):tupV (callE efns given) (.call 0 f_ref9_Parse) [n.p]=some (rparseV (tmplM n)):=by
 have hh:=head_t n
 have hf:=fun p e=>at_t (p:=p) (e:=e)
 simp only[Nd.p_eq n] at hh ⊢
 refine call_good (f:=f_ref9_Parse) rfl ?_
 simp only[Nd.cells] at hh
 simp only[sChar,wrongV] at hf
 unfold tmplM
 by_cases h1:headM n=sDeft
 ·have h1':(headM n=[100,101,102,116,101,109,112,108,97,116,101])=True:=eq_true h1
  rw[if_pos h1]
  match hk:n.kids with
  |[] =>
   rw[hk] at hh
   simp only[List.map_nil] at hh
   rw[callE_fn efns given (c:=e_ref9_Parse) rfl rfl]
   simp only[e_ref9_Parse,go_sem,Nd.cells,hk,hh,hf,h1',ne_eq,List.map_nil]
   exact Good.done rfl
  |[a] =>
   rw[hk] at hh
   simp only[List.map_cons,List.map_nil] at hh
   rw[callE_fn efns given (c:=e_ref9_Parse) rfl rfl]
   simp only[e_ref9_Parse,go_sem,Nd.cells,hk,hh,hf,h1',ne_eq,List.map_cons,List.map_nil]
   exact Good.done rfl
  |a::x::l =>
   have hx:=rtname_t x (hs x (by rw[hk]; simp)).1
   rw[hk] at hh hl
   simp only[List.length_cons] at hl
   have hhx:=hs
   unfold NdS2 at hhx
   rw[hk] at hhx
   rw[Nd.p_eq] at hx
   simp only[List.map_cons] at hh
   have hat:evIdx 5 (a.p::x.p::l.map Nd.p) 1=some (.ref x.cells):=Nd.at_ (l:=a::x::l) (n:=1) (by simp)
   simp only[Nd.cells] at hx hat
   have c1:((((List.map Nd.p l).length+1+1:Nat):Int)<2)=False:=eq_false (by omega)
   cases hg:goodN x with
   |false =>
    rw[hg] at hx
    rw[callE_fn efns given (c:=e_ref9_Parse) rfl rfl]
    simp only[e_ref9_Parse,go_sem,Nd.cells,hk,hh,hf,h1',ne_eq,List.map_cons,hat,hx,c1]
    rw[hg]
    exact Good.done rfl
   |true =>
    rw[hg] at hx
    rw[callE_fn efns given (c:=e_ref9_Parse) rfl rfl]
    simp only[e_ref9_Parse,go_sem,Nd.cells,hk,hh,hf,h1',ne_eq,List.map_cons,hat,hx,c1]
    rw[hg,if_pos rfl]
    refine Good.for l.length (fun i fr st => ∃ out rows rt rest bts t,fr=[.undef,.ptr 0 0,.ptr 1 0,.ptr 2 0,.ptr 3 0,.undef,.ptr 4 0,.int .i64 ((i+2:Nat):Int)]++List.replicate 23 .undef /\
     st=⟨[[.int .i64 n.k,.int .i64 n.pos,.int .i64 n.i,.str n.s,.lst (a.p::x.p::l.map Nd.p)],[.str [],.nils],[.nils,.int .i64 0],[.str [],.nils],[.str x.s,out]]++rest,rows,bts,rt⟩ /\
     OutV 4 T_ref9_Parse_0 (t.map Sl.p) out rows rt/\rt.length=rows.length/\t.length<=16/\parseR x.s l []=parseR x.s (l.drop i) t) ?_ ?_ ?_
    ·rintro i fr st hi ⟨out,rows,rt,rest,bts,t,rfl,rfl,hO,hr,ht,he⟩ k hk2
     have c2:(((i+2:Nat):Int)<(((List.map Nd.p l).length+1+1:Nat):Int))=True:=eq_true (by rw[List.length_map]; omega)
     have hy:=hhx l[i] (by simp[List.getElem_mem hi])
     rw[List.drop_eq_getElem_cons hi] at he
     have hat2:evIdx 5 (a.p::x.p::l.map Nd.p) ((i+2:Nat):Int)=some (.ref l[i].cells):=by
      have:=Nd.at_ (l:=a::x::l) (n:=i+2) (by simp; omega)
      simpa using this
     generalize l[i]=y at hy he hat2
     obtain⟨s,b,h2,h3⟩:=rslotr_t y hy.2
     have h4:=rslot_t ⟨x.s,t⟩ s.name (by simp only; omega)
     have h6:tupV (callE efns given) (.call 0 f_ref9_Template_Slot) [.agg [.str x.s,out],.str s.name]=tupV (callE efns given) (.call 0 f_ref9_Template_Slot) [(⟨x.s,t⟩:Tm).p,.str s.name] :=
      tup_shut (by rw[argF_0,show mapO (shutA shutN) [PV.agg [.str x.s,out],.str s.name]=some [.agg [.str x.s,.lst (t.map Sl.p)],.str s.name] from mS (shutA_agg (mS rfl (mS (hO.shutA _) mN))) (mS rfl mN)]; rfl)
     rw[h4] at h6
     rw[Nd.p_eq] at h2
     simp only[Nd.cells,Sl.p] at h2 h6 hat2
     rw[parseR_cons] at he
     have fin : ∀ e:Int,parseR x.s l [] = .error (y.pos,e) -> ∀ st,Ret (rparseV (parseR x.s l [])) (.tuple [.agg [.str [],.nils],.agg [.lst [.agg [.str [99,104,97,114],.int .i64 y.pos]],.int .i64 e]]) st:=fun e h st=>by rw[h]; rfl
     cases b with
     |false =>
      rw[h3] at he
      simp only[b_ref9_Parse_0,go_sem,c2,hat2,h2,hf,ne_eq]
      exact Good.done (fin 2 he _)
     |true =>
      rw[h3] at he
      simp only[if_true] at he
      cases hp:placeL s.name t with
      |some j =>
       have c3:((j:Int)>=0)=True:=eq_true (by omega)
       rw[hp] at h6
       simp only[mayM,hp,Option.isSome_some,if_true] at he
       simp only[idxI] at h6
       simp only[b_ref9_Parse_0,go_sem,c2,hat2,h2,h6,c3,hf,ne_eq]
       exact Good.done (fin 6 he _)
      |none =>
       rw[hp] at h6
       simp only[idxI] at h6
       simp only[mayM,hp,Option.isSome_none,Bool.false_eq_true,if_false] at he
       by_cases h16:16<=t.length
       ·have h16':((t.length:Int)=16)=True:=eq_true (by omega)
        simp only[h16,if_true] at he
        have hle:=hO.len
        rw[List.length_map] at hle
        simp only[b_ref9_Parse_0,go_sem,c2,hat2,h2,h6,hle,h16',hf,ne_eq]
        exact Good.done (fin 4 he _)
       ·have h16':((t.length:Int)=16)=False:=eq_false (by omega)
        simp only[h16,if_false,if_true] at he
        have hle:=hO.len
        rw[List.length_map] at hle
        obtain⟨out',rows',rt',ap,hO',hr',_⟩:=hO.app1 (b:=48) hr (e:=.agg s.cells) rfl (by simp; omega)
        have hb:tupV (callE efns given) (.bslice 4 [.str [],.int .i64 0,.int .i64 0,.str []] 1 [0]) [.agg s.cells]=some (.full [.agg s.cells]):=V_bs1 rfl rfl rfl
        simp only[Sl.cells] at ap hb
        simp only[b_ref9_Parse_0,go_sem,c2,hat2,h2,h6,hle,h16',hb,ap,hO'.cells,hO'.cell,ne_eq,wrapN (n:=i+2) (by omega)]
        refine hk2 _ _ ⟨out',rows',rt',_,_,t++[s],rfl,rfl,?_,hr',by simp; omega,he⟩
        rw[List.map_append,List.map_singleton]
        exact hO'
    ·rintro fr st ⟨out,rows,rt,rest,bts,t,rfl,rfl,hO,hr,ht,he⟩ k
     have c2:(((l.length+2:Nat):Int)<(((List.map Nd.p l).length+1+1:Nat):Int))=False:=eq_false (by rw[List.length_map]; omega)
     simp only[b_ref9_Parse_0,go_sem,c2,hO.cells,hO.cell]
     refine Good.done ?_
     rw[List.drop_length] at he
     show Ret (rparseV (parseR x.s l [])) _ _
     rw[he]
     exact ret_tup (mS (shutR_agg (mS rfl (mS (hO.shutR _ _) mN))) (mS rfl mN))
    ·exact⟨.nils,[],[],[],_,[],by simp,rfl,.nils,rfl,by simp,rfl⟩
 ·have h1':(headM n=[100,101,102,116,101,109,112,108,97,116,101])=False:=eq_false h1
  rw[if_neg h1]
  rw[callE_fn efns given (c:=e_ref9_Parse) rfl rfl]
  simp only[e_ref9_Parse,go_sem,Nd.cells,hh,hf,h1',ne_eq]
  exact Good.done rfl
end Go.Proofs.YthjnlpfibakacaaGreatDoorPe.Tmpl
set_option linter.unusedVariables false
set_option linter.unusedSimpArgs false
set_option maxRecDepth 100000
namespace Go.Proofs.YthjnlpfibakacaaGreatDoorPe.Tmpl
open Go Go.Proofs Go.Proofs.YthjnlpfibakacaaGreatDoorPe Go.Proofs.YthjnlpfibakacaaGreatDoorPe.TmplCode
theorem to_t : ∀ (m:Nat) (x:Nd),x.sz<=m->m<=1000000->tupV (callE efns given) (.call 0 f_law5_To) [x.p]=some x.p:=by
 intro m
 induction m with
 |zero=>intro x h; rw[Nd.sz_eq] at h; omega
 |succ m ih =>
  intro x hm hle
  have hkl:=Nd.len_sz x.kids
  have hsz:=Nd.sz_eq x
  rw[Nd.p_eq]
  refine call_good (f:=f_law5_To) rfl ?_
  rw[callE_fn efns given (c:=e_law5_To) rfl rfl]
  simp only[e_law5_To,go_sem,Nd.cells]
  refine Good.for x.kids.length (fun n fr st => ∃ out rows rt,fr=[.undef,.ptr 0 0,.ptr 1 0,.ptr 2 0,.int .i64 (n:Int),.undef,.undef,.undef,.undef,.undef,.undef,.undef,.undef,.undef] /\
   st=⟨[x.cells,[.int .i64 0,.int .i64 0,.int .i64 0,.str [],.nils],[.int .i64 x.k,.int .i64 x.pos,.int .i64 x.i,.str x.s,out]],rows,[T_law5_To_1,T_law5_To_0,T_law5_To_0],rt⟩ /\
   OutV 5 T_law5_To_0 ((x.kids.take n).map Nd.p) out rows rt/\rt.length=rows.length) ?_ ?_ ?_
  ·rintro n fr st hn ⟨out,rows,rt,rfl,rfl,hO,hr⟩ k hk
   have c1:((n:Int)<(x.kids.length:Int))=True:=eq_true (by omega)
   have hs:=ih x.kids[n] (by have:=Nd.sz_kid (List.getElem_mem hn); omega) (by omega)
   rw[Nd.p_eq] at hs
   obtain⟨out',rows',rt',ap,hO',hr',_⟩:=hO.app1 (b:=64) hr (e:=.agg x.kids[n].cells) rfl (by simp; omega)
   have hat:=Nd.at_ hn
   have hb:tupV (callE efns given) (.bslice 5 [.int .i64 0,.int .i64 0,.int .i64 0,.str [],.nils] 1 [0]) [.agg x.kids[n].cells]=some (.full [.agg x.kids[n].cells]):=V_bs1 rfl rfl rfl
   simp only[Nd.cells] at hs ap hat hb
   simp only[b_law5_To_0,go_sem,Nd.cells,hat,List.length_map,c1,hs,hb,ap,hO'.cells,hO'.cell,wrapN (n:=n) (by omega)]
   refine hk _ _ ⟨out',rows',rt',rfl,rfl,?_,hr'⟩
   rw[take_succ_at hn,List.map_append,List.map_singleton,Nd.p_eq]
   exact hO'
  ·rintro fr st ⟨out,rows,rt,rfl,rfl,hO,hr⟩ k
   simp only[b_law5_To_0,go_sem,Nd.cells,List.length_map,Int.lt_irrefl,hO.cells,hO.cell]
   refine Good.done ?_
   rw[List.take_length] at hO
   exact ret_agg (mS rfl (mS rfl (mS rfl (mS rfl (mS (hO.shutR _ _) mN)))))
  ·exact⟨.nils,[],[],rfl,rfl,.nils,rfl⟩
theorem tof_t (t:Tm) (hl:t.slots.length<=100000):tupV (callE efns given) (.call 0 f_law9_Of) [t.p]=some t.p:=by
 refine call_good (f:=f_law9_Of) rfl ?_
 rw[callE_fn efns given (c:=e_law9_Of) rfl rfl]
 simp only[e_law9_Of,go_sem,Tm.p]
 refine Good.for t.slots.length (fun n fr st => ∃ out rows rt bts,fr=[.undef,.ptr 0 0,.ptr 1 0,.ptr 2 0,.int .i64 (n:Int),.undef,.undef,.undef,.undef,.undef,.undef,.undef] /\
  st=⟨[[.str t.name,.lst (t.slots.map Sl.p)],[.str [],.nils],[.str t.name,out]],rows,bts,rt⟩ /\
  OutV 4 T_law9_Of_0 ((t.slots.take n).map Sl.p) out rows rt/\rt.length=rows.length) ?_ ?_ ?_
 ·rintro n fr st hn ⟨out,rows,rt,bts,rfl,rfl,hO,hr⟩ k hk
  have c1:((n:Int)<(t.slots.length:Int))=True:=eq_true (by omega)
  have hat:evIdx 4 (t.slots.map Sl.p) (n:Int)=some (.ref t.slots[n].cells):=idx_of (e:=t.slots[n].p) (map_at hn) rfl
  obtain⟨out',rows',rt',ap,hO',hr',_⟩:=hO.app1 (b:=48) hr (e:=.agg t.slots[n].cells) rfl (by simp; omega)
  have hb:tupV (callE efns given) (.bslice 4 [.str [],.int .i64 0,.int .i64 0,.str []] 1 [0]) [.agg t.slots[n].cells]=some (.full [.agg t.slots[n].cells]):=V_bs1 rfl rfl rfl
  simp only[Sl.cells] at ap hat hb
  simp only[b_law9_Of_0,go_sem,hat,List.length_map,c1,hb,ap,hO'.cells,hO'.cell,wrapN (n:=n) (by omega)]
  refine hk _ _ ⟨out',rows',rt',_,rfl,rfl,?_,hr'⟩
  rw[take_succ_at hn,List.map_append,List.map_singleton]
  exact hO'
 ·rintro fr st ⟨out,rows,rt,bts,rfl,rfl,hO,hr⟩ k
  simp only[b_law9_Of_0,go_sem,List.length_map,Int.lt_irrefl,hO.cells,hO.cell]
  refine Good.done ?_
  rw[List.take_length] at hO
  exact ret_agg (mS rfl (mS (hO.shutR _ _) mN))
 ·exact⟨.nils,[],[],_,rfl,rfl,.nils,rfl⟩
theorem rsymn_t (s:List UInt8):tupV (callE efns given) (.call 0 f_ref5_Sym) [.str s]=some (symN s).p:=by
 refine call_good (f:=f_ref5_Sym) rfl ?_
 rw[callE_fn efns given (c:=e_ref5_Sym) rfl rfl]
 simp only[e_ref5_Sym,go_sem]
 exact Good.done rfl
theorem rofn_t (v:Vl):tupV (callE efns given) (.call 0 f_ref5_Of) [v.p]=some (leafV v).p:=by
 refine call_good (f:=f_ref5_Of) rfl ?_
 rw[callE_fn efns given (c:=e_ref5_Of) rfl rfl]
 simp only[e_ref5_Of,go_sem,Vl.p]
 exact Good.done rfl
theorem rl_t (l:List Nd):tupV (callE efns given) (.call 0 f_ref5_L) [.lst (l.map Nd.p)]=some (listN l).p:=by
 refine call_good (f:=f_ref5_L) rfl ?_
 rw[callE_fn efns given (c:=e_ref5_L) rfl rfl]
 simp only[e_ref5_L,go_sem]
 refine Good.done ?_
 rw[Nd.p_eq]
 rfl
theorem rlv_t {l:List Nd} {v:PV} (h:SlV (l.map Nd.p) v):tupV (callE efns given) (.call 0 f_ref5_L) [v]=some (listN l).p:=by
 rw[<- rl_t]
 exact tup_shut (by rw[argF_0]; exact (mS (h.shutA _) mN).trans rfl)
theorem rnode_t (t:Tm) (hl:t.slots.length<=100000):tupV (callE efns given) (.call 0 f_ref9_Node) [t.p]=some (tmplN t).p:=by
 rw[show tmplN t=listN ([symN sDeft,symN t.name]++t.slots.map slotN) from rfl]
 refine call_good (f:=f_ref9_Node) rfl ?_
 rw[callE_fn efns given (c:=e_ref9_Node) rfl rfl]
 have w1:=rsymn_t sDeft
 have w2:=rsymn_t t.name
 have w4:=rsymn_t sSlot
 have w7:=rsymn_t sDefault
 have hno:=rsymv_t [110,105,108]
 have psym : ∀ s,(symN s).p = .agg [.int .i64 2,.int .i64 0,.int .i64 0,.str s,.lst []]:=fun s=>by rw[Nd.p_eq]; rfl
 simp only[psym,sDeft,sSlot,sDefault,Vl.p] at w1 w2 w4 w7 hno
 simp only[e_ref9_Node,go_sem,Tm.p,w1,w2]
 refine Good.for t.slots.length (fun i fr st => ∃ out rows rt rest bts,fr=[.undef,.ptr 0 0,.ptr 1 0,out,.int .i64 (i:Int),.undef,.undef,.undef,.undef,.undef,.undef,.undef,.undef] /\
   st=⟨[[.str t.name,.lst (t.slots.map Sl.p)],[.int .i64 0,.int .i64 0,.int .i64 0,.str [],.nils]]++rest,rows,bts,rt⟩ /\
   OutV 5 T_ref9_Node_0 (([symN sDeft,symN t.name]++(t.slots.take i).map slotN).map Nd.p) out rows rt/\rt.length=rows.length) ?_ ?_ ?_
 ·rintro i fr st hi ⟨out,rows,rt,rest,bts,rfl,rfl,hO,hr⟩ k hk
  have c1:((i:Int)<(t.slots.length:Int))=True:=eq_true (by omega)
  have hat:evIdx 4 (t.slots.map Sl.p) (i:Int)=some (.ref t.slots[i].cells):=idx_of (e:=t.slots[i].p) (map_at hi) rfl
  have hlen:(([symN sDeft,symN t.name]++(t.slots.take i).map slotN).map Nd.p).length<=100002:=by simp; omega
  have htk:([symN sDeft,symN t.name]++(t.slots.take (i+1)).map slotN).map Nd.p=([symN sDeft,symN t.name]++(t.slots.take i).map slotN).map Nd.p++[(slotN t.slots[i]).p]:=by simp only[take_succ_at hi,List.map_append,List.map_cons,List.map_nil,List.append_assoc]
  rw[htk] at hk
  generalize t.slots[i]=s at hat hk
  generalize ([symN sDeft,symN t.name]++(t.slots.take i).map slotN).map Nd.p=L at hO hlen hk
  have w5:=rsymn_t s.name
  have hv:=rvsame_t s.d nilW
  have hL : ∀ v,SlV ((kidsS s).map Nd.p) v->tupV (callE efns given) (.call 0 f_ref5_L) [v]=some (.agg (slotN s).cells):=fun v h=>by rw[rlv_t h,<- slotN_eq,Nd.p_eq]
  have hb:tupV (callE efns given) (.bslice 5 [.int .i64 0,.int .i64 0,.int .i64 0,.str [],.nils] 1 [0]) [.agg (slotN s).cells]=some (.full [.agg (slotN s).cells]):=V_bs1 rfl rfl rfl
  have pk:(slotN s).p = .agg (slotN s).cells:=Nd.p_eq _
  simp only[psym,sSlot] at w5
  by_cases hd:s.d=nilW
  ·obtain⟨out',rows',rt',ap,hO',hr',_⟩:=hO.app1 (b:=64) hr (e:=(slotN s).p) (by rw[Nd.p_cells]; rfl) (by omega)
   have hl1:=hL (.full [(symN sSlot).p,(symN s.name).p]) (by simp[kidsS,nodeS,hd,SlV]; rfl)
   have hdd:decide (s.d=nilW)=true:=by simp[hd]
   rw[hdd] at hv
   simp only[Vl.p,nilW] at hv
   rw[pk] at ap hO' hk
   simp only[psym,sSlot] at hl1
   generalize (slotN s).cells=C at *
   simp only[b_ref9_Node_0,go_sem,List.length_map,Sl.cells,hat,c1,w4,w5,hv,hno,hl1,hb,ap,wrapN (n:=i) (by omega)]
   exact hk _ _ ⟨out',rows',rt',_,_,rfl,rfl,hO',hr'⟩
  ·have hdd:decide (s.d=nilW)=false:=by simp[hd]
   rw[hdd] at hv
   simp only[Vl.p,nilW] at hv
   have w8:=rofn_t s.d
   have w9:=rlv_t (l:=[symN sDefault,leafV s.d]) (v:=.full [(symN sDefault).p,(leafV s.d).p]) rfl
   have pleaf:(leafV s.d).p = .agg [.int .i64 s.d.k,.int .i64 0,.int .i64 s.d.i,.str s.d.s,.lst []]:=by rw[Nd.p_eq]; rfl
   have hOk:=outMore hO (3,5) T_ref9_Node_0
   obtain⟨out',rows',rt',ap,hO',hr',_⟩:=hOk.app1 (b:=64) (by simp[hr]) (e:=(slotN s).p) (by rw[Nd.p_cells]; rfl) (by omega)
   have hl1:=hL (.own rows.length [(symN sSlot).p,(symN s.name).p,(listN [symN sDefault,leafV s.d]).p]) (by simp[kidsS,nodeS,hd,SlV]; rfl)
   have hb1:tupV (callE efns given) (.bslice 5 [.int .i64 0,.int .i64 0,.int .i64 0,.str [],.nils] 1 [0]) [.agg (listN [symN sDefault,leafV s.d]).cells]=some (.full [.agg (listN [symN sDefault,leafV s.d]).cells]):=V_bs1 rfl rfl rfl
   have z1:szAll 5 [PV.agg (listN [symN sDefault,leafV s.d]).cells]=true:=rfl
   have z2:szAll 5 [(symN sSlot).p,(symN s.name).p]=true:=by simp only[psym]; rfl
   have pd:(listN [symN sDefault,leafV s.d]).p = .agg (listN [symN sDefault,leafV s.d]).cells:=Nd.p_eq _
   rw[pk] at ap hO' hk
   rw[pd] at hl1 w9
   generalize (slotN s).cells=C at *
   generalize (listN [symN sDefault,leafV s.d]).cells=D at *
   simp only[psym,pleaf,sDefault,sSlot,Vl.p] at hl1 w8 w9 z2
   simp only[b_ref9_Node_0,go_sem,List.length_map,Sl.cells,hat,c1,w4,w5,w7,w8,w9,hv,hno,hl1,hb,hb1,ap,z1,z2,show (3*65<=70368744177664)=True from eq_true (by decide),wrapN (n:=i) (by omega)]
   exact hk _ _ ⟨out',rows',rt',_,_,rfl,rfl,hO',hr'⟩
 ·rintro fr st ⟨out,rows,rt,rest,bts,rfl,rfl,hO,hr⟩ k
  rw[List.take_length] at hO
  have hl1:=rlv_t hO.sl
  rw[Nd.p_eq] at hl1
  simp only[Nd.cells,listN,Nd.k,Nd.pos,Nd.i,Nd.s] at hl1
  simp only[b_ref9_Node_0,go_sem,List.length_map,Int.lt_irrefl,hl1]
  refine Good.done ?_
  rw[Nd.p_eq]
  rfl
 ·exact⟨_,_,_,[],_,rfl,rfl,.inl ⟨rfl,by simp only[List.map_append,List.map_cons,List.map_nil,List.take_zero,psym]; rfl⟩,rfl⟩
end Go.Proofs.YthjnlpfibakacaaGreatDoorPe.Tmpl
set_option linter.unusedVariables false
set_option linter.unusedSimpArgs false
set_option maxRecDepth 100000
namespace Go.Proofs.YthjnlpfibakacaaGreatDoorPe.Tmpl
open Go Go.Proofs Go.Proofs.YthjnlpfibakacaaGreatDoorPe Go.Proofs.YthjnlpfibakacaaGreatDoorPe.TmplCode
theorem Wf.ndS2 {x:Nd} (h:Wf x):NdS2 x:=fun y hy=>⟨by have:=(h.kids y hy).s_le; omega,fun z hz=>by have:=((h.kids y hy).kids z hz).s_le; omega⟩
theorem slotsM_err {M:Nat} : ∀ (l:List Nd) (t:List Sl) (e:Int × Int),(∀ x∈l,PosOk M x)->slotsM l t = .error e->1<=e.2/\e.2<=11/\0<=e.1/\e.1<=M
 |[],t,e,_,h=>by cases h
 |x::l,t,e,hl,h=>by
  have hx:=(hl x (List.mem_cons_self ..)).pos
  simp only[slotsM] at h
  split at h
  ·cases h; exact⟨by simp only; omega,by simp only; omega,hx.1,hx.2⟩
  ·split at h
   ·exact slotsM_err l _ e (fun y hy=>hl y (List.mem_cons_of_mem _ hy)) h
   ·rename_i s _ hm
    cases h
    refine⟨?_,?_,hx.1,hx.2⟩
    ·simp only[mayM] at hm ⊢
     split
     ·decide
     ·split
      ·decide
      ·rename_i h1 h2
       rw[if_neg h1,if_neg h2] at hm
       exact absurd rfl hm
    ·simp only[mayM]
     split
     ·decide
     ·split <;> decide
theorem tmplM_err {M:Nat} {n:Nd} {e:Int × Int} (hn:PosOk M n) (h:tmplM n = .error e):1<=e.2/\e.2<=11/\0<=e.1/\e.1<=M:=by
 have hp:=hn.pos
 unfold tmplM at h
 split at h
 ·split at h
  ·rename_i a x l hk
   split at h
   ·cases hs:slotsM l [] with
    |error q =>
     rw[hs] at h
     cases h
     exact slotsM_err _ _ _ (fun y hy=>hn.kids y (by rw[hk]; simp[hy])) hs
    |ok r=>rw[hs] at h; cases h
   ·cases h; exact⟨by simp only; omega,by simp only; omega,hp.1,hp.2⟩
  ·cases h; exact⟨by simp only; omega,by simp only; omega,hp.1,hp.2⟩
 ·cases h; exact⟨by simp only; omega,by simp only; omega,hp.1,hp.2⟩
theorem OkL.len : ∀ {u t:List Sl},OkL t u->t.length<=16->t.length+u.length<=16
 |[],t,_,ht=>by simpa using ht
 |s::u,t,⟨_,h2,h3⟩,_=>by
  have h:=(mayM_len h2).1
  have:=OkL.len h3 (by simp; omega)
  simp at this ⊢
  omega
theorem Tm.Ok.len {t:Tm} (h:t.Ok):t.slots.length<=16:=by simpa using OkL.len h.slots (by simp)
def Tm.Small (t:Tm):Prop := ∀ s∈t.slots,s.d.s.length<=1000
theorem OkL.good : ∀ {u t:List Sl},OkL t u -> ∀ s∈u,s.Ok
 |[],_,_,s,h=>by cases h
 |x::u,t,⟨h1,_,h3⟩,s,h=>by
  rcases List.mem_cons.1 h with rfl|h
  ·exact h1
  ·exact OkL.good h3 s h
theorem tmplN_S2 {t:Tm} (h:t.Ok):NdS2 (tmplN t):=by
 intro x hx
 simp only[tmplN,listN,Nd.kids,List.cons_append,List.nil_append,List.mem_cons,List.mem_map] at hx
 rcases hx with rfl|rfl|⟨s,hs,rfl⟩
 ·exact⟨by simp[symN,Nd.s,sDeft],fun y hy=>by simp[symN,Nd.kids] at hy⟩
 ·exact⟨by have:=goodM_len h.name; simp only[symN,Nd.s]; omega,fun y hy=>by simp[symN,Nd.kids] at hy⟩
 ·refine⟨by simp[slotN,listN,Nd.s],fun y hy => ?_⟩
  have hg:=goodM_len (OkL.good h.slots s hs).1
  simp only[slotN,listN,Nd.kids,List.cons_append,List.nil_append,List.mem_cons] at hy
  rcases hy with rfl|rfl|hy
  ·simp[symN,Nd.s,sSlot]
  ·simp only[symN,Nd.s]; omega
  ·split at hy
   ·cases hy
   ·rw[List.mem_singleton.1 hy]; simp[Nd.s]
theorem szs_map_le {α : Type} {f : α -> Nd} {c:Nat} (hf : ∀ x,(f x).sz<=c) : ∀ l:List α,Nd.szs (l.map f)<=c*l.length
 |[]=>by simp[Nd.szs]
 |x::l=>by
  have:=szs_map_le hf l
  have:=hf x
  simp only[List.map_cons,Nd.szs,List.length_cons]
  rw[Nat.mul_succ]
  omega
theorem slotN_sz (s:Sl):(slotN s).sz<=6:=by
 unfold slotN
 split <;> simp[listN,symN,leafV,Nd.sz,Nd.szs]
theorem tmplN_sz {t:Tm} (h:t.Ok):(tmplN t).sz<=1000:=by
 have:=szs_map_le slotN_sz t.slots
 have:=h.len
 simp only[tmplN,listN,symN,Nd.sz,List.cons_append,List.nil_append,Nd.szs]
 omega
theorem bytes9_law (b:List UInt8):IsTrue (callE efns given f_law9_TmplBytes [.lst (byts b)] ⟨[],[],[],[]⟩):=by
 rw[callE_fn efns given (c:=e_law9_TmplBytes) rfl rfl]
 have hk:=known_t
 by_cases hb:b.length>2000
 ·have hc:((b.length:Int)>2000)=True:=eq_true (by omega)
  simp only[e_law9_TmplBytes,go_sem,hk,byts_length,hc]
  exact Good.done rfl
 have hc:((b.length:Int)>2000)=False:=eq_false (by omega)
 have h2:=read_t b
 cases hm:readM b with
 |error e =>
  obtain⟨p,e⟩:=e
  obtain⟨e1,e2,e3,e4,e5⟩:=readM_err hm
  have he : ¬ e=0:=by simp only at e1; omega
  rw[hm] at h2
  simp only[readV,wrongV] at h2
  simp only[e_law9_TmplBytes,go_sem,hk,byts_length,hc,h2,eq_false he,ne_eq]
  exact Good.done rfl
 |ok l =>
  obtain⟨hw,hsz⟩:=readM_ok hm
  have hps:=readM_pos hm
  rw[hm] at h2
  simp only[readV,noneW] at h2
  cases l with
  |nil =>
   simp only[e_law9_TmplBytes,go_sem,hk,byts_length,hc,h2,ne_eq,List.map_nil]
   exact Good.done rfl
  |cons x l =>
   have hwx:=hw x (List.mem_cons_self ..)
   have hpx:=hps x (List.mem_cons_self ..)
   have hxs:x.sz<=4096:=by simp only[Nd.szs] at hsz; omega
   have hkl:x.kids.length<=4096:=by have:=Nd.sz_eq x; have:=Nd.len_sz x.kids; omega
   have t1:=to_t _ x (Nat.le_refl _) (by omega)
   have t2:=tparse_t x hwx.ndS2 (by omega)
   have t3:=rtparse_t x hwx.ndS2 (by omega)
   have hat:evIdx 5 (x.p::l.map Nd.p) 0=some (.ref x.cells):=Nd.at_ (l:=x::l) (n:=0) (by simp)
   have c0:((((l.map Nd.p).length+1:Nat):Int)=0)=False:=eq_false (by omega)
   rw[Nd.p_eq] at t1 t2 t3
   simp only[Nd.cells] at t1 t2 t3 hat
   cases ht:tmplM x with
   |error e =>
    obtain⟨e1,e2,e3,e4⟩:=tmplM_err hpx ht
    have he : ¬ e.2=0:=by omega
    have q1:=tells_at e1 e2 e3 e4
    have q2:=tof_t zTm (by simp[zTm])
    have q3:=rsame_t' zTm zTm (by simp[zTm])
    rw[ht] at t2 t3
    rw[decide_eq_true rfl] at q3
    simp only[tparseV,rparseV,zTm,Tm.p,List.map_nil,wrongV,sChar] at t2 t3 q1 q2 q3
    simp only[e_law9_TmplBytes,go_sem,hk,byts_length,hc,h2,ne_eq,List.map_cons,c0,hat,t1,t2,t3,q1,q2,q3,eq_false he]
    exact Good.done rfl
   |ok t =>
    have hok:=tmplM_ok ht
    have hl16:=hok.len
    have q1:=tells_none
    have q2:=tof_t t (by omega)
    have q3:=rsame_t' t t (by omega)
    have q4:=tnode_t t (by omega)
    have q5:=tparse_t (tmplN t) (tmplN_S2 hok) (by have:=Nd.len_sz (tmplN t).kids; have:=Nd.sz_eq (tmplN t); have:=tmplN_sz hok; omega)
    have q6:=tsame_t t t (by omega)
    have q7:=of_t _ (tmplN t) (Nat.le_refl _) (by have:=tmplN_sz hok; omega)
    have q8:=rnode_t t (by omega)
    have q9:=nsame_t _ (tmplN t) (tmplN t) (Nat.le_refl _) (by have:=tmplN_sz hok; omega)
    rw[tmplM_tmplN hok] at q5
    rw[decide_eq_true rfl] at q3 q6
    rw[Nd.same_self] at q9
    rw[ht] at t2 t3
    generalize (tmplN t).p=N at *
    simp only[tparseV,rparseV,Tm.p,noneW] at t2 t3 q1 q2 q3 q4 q5 q6 q8
    simp only[e_law9_TmplBytes,go_sem,hk,byts_length,hc,h2,ne_eq,List.map_cons,c0,hat,t1,t2,t3,q1,q2,q3,q4,q5,q6,q7,q8,q9]
    exact Good.done rfl
end Go.Proofs.YthjnlpfibakacaaGreatDoorPe.Tmpl
