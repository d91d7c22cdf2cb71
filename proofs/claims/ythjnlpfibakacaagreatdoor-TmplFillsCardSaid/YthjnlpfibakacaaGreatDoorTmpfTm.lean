/- A part of the proof of this folder's statement; it has no condition of its own. -/
import Derived.Test.YthjnlpfibakacaaGreatDoorTmpfNd
import Derived.Test.YthjnlpfibakacaaGreatDoorTmpfNt
import Derived.Test.YthjnlpfibakacaaGreatDoorTmpfVal
import Derived.Test.YthjnlpfibakacaaGreatDoorEcGen
set_option linter.unusedVariables false
set_option linter.unusedSimpArgs false
set_option maxRecDepth 100000
namespace Go.Proofs.YthjnlpfibakacaaGreatDoorPe.Tmpf
open Go Go.Proofs Go.Proofs.YthjnlpfibakacaaGreatDoorPe Go.Proofs.YthjnlpfibakacaaGreatDoorPe.TmpfCode
structure Sl where
 name:List UInt8
 d:Vl
 deriving DecidableEq
structure Tm where
 name:List UInt8
 slots:List Sl
 deriving DecidableEq
def Sl.cells (s:Sl):List PV:=[.str s.name,.int .i64 s.d.k,.int .i64 s.d.i,.str s.d.s]
def Sl.p (s:Sl):PV:=.agg [.str s.name,.int .i64 s.d.k,.int .i64 s.d.i,.str s.d.s]
def Tm.cells (t:Tm):List PV:=[.str t.name,.lst (t.slots.map Sl.p)]
def Tm.p (t:Tm):PV:=.agg [.str t.name,.lst (t.slots.map Sl.p)]
def nilW:Vl:=⟨2,0,[110,105,108]⟩
def sSlot:List UInt8:=[115,108,111,116]
def sDefault:List UInt8:=[100,101,102,97,117,108,116]
def sDeft:List UInt8:=[100,101,102,116,101,109,112,108,97,116,101]
def goodN (n:Nd):Bool:=decide (n.k=2)&&goodM n.s
def slotD (name:List UInt8) (d:Nd):Option Sl :=
 if headM d=sDefault then (match d.kids with
  |[_,v]=>(valM v).map fun w=>⟨name,w⟩
  |_=>none) else none
def slotM (n:Nd):Option Sl :=
 if headM n=sSlot then (match n.kids with
  |[_,x]=>if goodN x=true then some ⟨x.s,nilW⟩ else none
  |[_,x,d]=>if goodN x=true then slotD x.s d else none
  |_=>none) else none
def placeL (s:List UInt8):List Sl->Option Nat
 |[]=>none
 |x::l=>if x.name=s then some 0 else (placeL s l).map (· + 1)
def mayM (t:List Sl) (s:Option Sl):Int :=
 match s with
 |none=>2
 |some s=>if (placeL s.name t).isSome=true then 6 else if 16<=t.length then 4 else 0
def slotsM:List Nd->List Sl->Except (Int × Int) (List Sl)
 |[],t=>.ok t
 |x::l,t=>match slotM x with
  |none=>.error (x.pos,2)
  |some s=>if mayM t (some s)=0 then slotsM l (t++[s]) else .error (x.pos,mayM t (some s))
def tmplM (n:Nd):Except (Int × Int) Tm :=
 if headM n=sDeft then (match n.kids with
  |_::x::l=>if goodN x=true then (slotsM l []).map fun t=>⟨x.s,t⟩ else .error (n.pos,2)
  |_=>.error (n.pos,2)) else .error (n.pos,2)
def Sl.Ok (s:Sl):Prop:=goodM s.name=true/\(s.d.k=1\/s.d.k=2\/s.d.k=3)
theorem slotM_ok {n:Nd} {s:Sl} (h:slotM n=some s):s.Ok:=by
 unfold slotM at h
 split at h
 ·split at h
  ·split at h
   ·rename_i hg
    simp only[goodN,Bool.and_eq_true] at hg
    cases h
    exact⟨hg.2,.inr (.inl rfl)⟩
   ·cases h
  ·split at h
   ·rename_i hg
    simp only[goodN,Bool.and_eq_true] at hg
    unfold slotD at h
    split at h
    ·split at h
     ·rename_i v _
      unfold valM at h
      split at h
      ·rename_i hk
       cases h
       exact⟨hg.2,hk⟩
      ·cases h
     ·cases h
    ·cases h
   ·cases h
  ·cases h
 ·cases h
def OkL:List Sl->List Sl->Prop
 |_,[]=>True
 |t,s::l=>s.Ok/\mayM t (some s)=0/\OkL (t++[s]) l
theorem slotsM_ok : ∀ (l:List Nd) (t r:List Sl),slotsM l t = .ok r -> ∃ u,r=t++u/\OkL t u
 |[],t,r,h=>by cases h; exact⟨[],by simp,trivial⟩
 |x::l,t,r,h=>by
  simp only[slotsM] at h
  split at h
  ·cases h
  ·rename_i s hs
   split at h
   ·rename_i hm
    obtain⟨u,rfl,hu⟩:=slotsM_ok l _ _ h
    exact⟨s::u,by simp,slotM_ok hs,hm,hu⟩
   ·cases h
structure Tm.Ok (t:Tm):Prop where
 name:goodM t.name=true
 slots:OkL [] t.slots
theorem tmplM_ok {n:Nd} {t:Tm} (h:tmplM n = .ok t):t.Ok:=by
 unfold tmplM at h
 split at h
 ·split at h
  ·split at h
   ·rename_i x l _ hg
    simp only[goodN,Bool.and_eq_true] at hg
    cases hs:slotsM l [] with
    |error e=>rw[hs] at h; cases h
    |ok r =>
     rw[hs] at h
     cases h
     obtain⟨u,rfl,hu⟩:=slotsM_ok _ _ _ hs
     exact⟨hg.2,by simpa using hu⟩
   ·cases h
  ·cases h
 ·cases h
theorem mayM_len {t:List Sl} {s:Sl} (h:mayM t (some s)=0):t.length<16/\placeL s.name t=none:=by
 unfold mayM at h
 simp only at h
 split at h
 ·cases h
 ·rename_i h1
  split at h
  ·cases h
  ·refine⟨by omega,?_⟩
   cases hp:placeL s.name t with
   |none=>rfl
   |some x=>rw[hp] at h1; simp at h1
end Go.Proofs.YthjnlpfibakacaaGreatDoorPe.Tmpf
set_option linter.unusedVariables false
set_option linter.unusedSimpArgs false
set_option maxRecDepth 100000
namespace Go.Proofs.YthjnlpfibakacaaGreatDoorPe.Tmpf
open Go Go.Proofs Go.Proofs.YthjnlpfibakacaaGreatDoorPe Go.Proofs.YthjnlpfibakacaaGreatDoorPe.TmpfCode
theorem sl_ok {l:List Sl} : ∀ e∈l.map Sl.p,ElemOk (some 4) 4 e:=fun e he=>by
 obtain⟨x,_,rfl⟩:=List.mem_map.1 he
 exact ElemOk.agg rfl
def slName:PV->List UInt8->Bool
 |.agg (.str n::_),s=>decide (n=s)
 |_,_=>false
theorem idxP_place (s:List UInt8) : ∀ l:List Sl,idxP (fun e=>slName e s) (l.map Sl.p)=placeL s l
 |[]=>rfl
 |x::l=>by
  have h:=idxP_place s l
  simp only[List.map_cons,idxP,placeL,h]
  simp only[Sl.p,slName,decide_eq_true_eq]
theorem tidx_t {l:List Sl} {s:List UInt8} {st:St} {b:Nat} (hb:st.boxes[b]? = some [.str s]) (hl:l.length<4611686018427387904) :
  ∃ st',callE efns given f_slices_IndexFunc_tmpl_Slot_tmpl_Slot [.lst (l.map Sl.p),.func f_tmpl_Template_Slot_1 [.ptr b 0]] st=some (.int .i64 (idxI (placeL s l)),st')/\Grew st st':=by
 have:=indexFunc_g (efns:=efns) (given:=given) (f:=f_slices_IndexFunc_tmpl_Slot_tmpl_Slot) (g:=f_tmpl_Template_Slot_1) (ld:=some 4) (n:=4) rfl (l:=l.map Sl.p) (cap:=[.ptr b 0]) (p:=fun e=>slName e s) (st:=st) (by simpa using hl) sl_ok ?_
 ·rw[idxP_place] at this
  exact this
 ·intro st' hg e he
  obtain⟨x,_,rfl⟩:=List.mem_map.1 he
  have hb':=hg.get hb
  have key:Good (fun v st2=>v = .bool (slName x.p s)/\Grew st' st2) (callE efns given f_tmpl_Template_Slot_1 [x.p,.ptr b 0] st'):=by
   rw[callE_fn efns given (c:=e_tmpl_Template_Slot_1) rfl rfl]
   have hb2:(st'.boxes++[x.cells])[b]? = some [.str s]:=(Grew.box st' x.cells T_tmpl_Template_Slot_1_0).get hb'
   simp only[Sl.cells] at hb2
   simp only[e_tmpl_Template_Slot_1,go_sem,Sl.p,hb2]
   exact Good.done ⟨rfl,Grew.box st' _ _⟩
  obtain⟨v,st2,h,rfl,hg2⟩:=key
  exact⟨st2,h,hg2⟩
theorem placeL_lt {s:List UInt8} : ∀ {l:List Sl} {i:Nat},placeL s l=some i->i<l.length
 |[],i,h=>by cases h
 |x::l,i,h=>by
  simp only[placeL] at h
  split at h
  ·cases h; simp
  ·obtain⟨j,hj,rfl⟩:=Option.map_eq_some_iff.1 h
   have:=placeL_lt hj
   simp; omega
def placeV (o:Option Nat):PV :=
 match o with
 |some i=>.tuple [.int .i64 (i:Int),.bool true]
 |none=>.tuple [.int .i64 0,.bool false]
theorem tslot_t (t:Tm) (s:List UInt8) (hl:t.slots.length<4611686018427387904):tupV (callE efns given) (.call 0 f_tmpl_Template_Slot) [t.p,.str s]=some (placeV (placeL s t.slots)):=by
 refine call_good (f:=f_tmpl_Template_Slot) rfl ?_
 rw[callE_fn efns given (c:=e_tmpl_Template_Slot) rfl rfl]
 obtain⟨st',h,_⟩:=tidx_t (l:=t.slots) (s:=s) (st:=⟨[t.cells,[.str s]],[],[T_tmpl_Template_Slot_0,T_tmpl_Template_Slot_1],[]⟩) (b:=1) rfl hl
 simp only[Tm.cells] at h
 cases hp:placeL s t.slots with
 |none =>
  rw[hp] at h
  simp only[idxI] at h
  simp only[e_tmpl_Template_Slot,go_sem,Tm.p,h]
  exact Good.done rfl
 |some i =>
  rw[hp] at h
  simp only[idxI] at h
  have c1:((0:Int)>(i:Int))=False:=eq_false (by omega)
  have c2:((i:Int)>=0)=True:=eq_true (by omega)
  simp only[e_tmpl_Template_Slot,go_sem,Tm.p,h,c1,c2]
  exact Good.done rfl
end Go.Proofs.YthjnlpfibakacaaGreatDoorPe.Tmpf
set_option linter.unusedVariables false
set_option linter.unusedSimpArgs false
set_option maxRecDepth 100000
namespace Go.Proofs.YthjnlpfibakacaaGreatDoorPe.Tmpf
open Go Go.Proofs Go.Proofs.YthjnlpfibakacaaGreatDoorPe Go.Proofs.YthjnlpfibakacaaGreatDoorPe.TmpfCode
def NdS (n:Nd):Prop := ∀ x∈n.kids,x.s.length<4611686018427387904
def zSl:Sl:=⟨[],⟨0,0,[]⟩⟩
end Go.Proofs.YthjnlpfibakacaaGreatDoorPe.Tmpf
set_option linter.unusedVariables false
set_option linter.unusedSimpArgs false
set_option maxRecDepth 100000
namespace Go.Proofs.YthjnlpfibakacaaGreatDoorPe.Tmpf
open Go Go.Proofs Go.Proofs.YthjnlpfibakacaaGreatDoorPe Go.Proofs.YthjnlpfibakacaaGreatDoorPe.TmpfCode
def zTm:Tm:=⟨[],[]⟩
def NdS2 (n:Nd):Prop := ∀ x∈n.kids,x.s.length<4611686018427387904/\NdS x
def parseR (name:List UInt8) (l:List Nd) (t:List Sl):Except (Int × Int) Tm:=(slotsM l t).map fun t=>⟨name,t⟩
theorem parseR_cons {name:List UInt8} {y:Nd} {l:List Nd} {t:List Sl}:parseR name (y::l) t=match slotM y with
  |none=>.error (y.pos,2)
  |some s=>if mayM t (some s)=0 then parseR name l (t++[s]) else .error (y.pos,mayM t (some s)):=by
 unfold parseR
 rw[slotsM]
 cases slotM y with
 |none=>rfl
 |some s=>simp only; split <;> rfl
theorem Nd.pl (l:List Nd):l.map (fun x=>PV.agg x.cells)=l.map Nd.p:=List.map_congr_left fun x _=>(Nd.p_eq x).symm
end Go.Proofs.YthjnlpfibakacaaGreatDoorPe.Tmpf
set_option linter.unusedVariables false
set_option linter.unusedSimpArgs false
set_option maxRecDepth 100000
namespace Go.Proofs.YthjnlpfibakacaaGreatDoorPe.Tmpf
open Go Go.Proofs Go.Proofs.YthjnlpfibakacaaGreatDoorPe Go.Proofs.YthjnlpfibakacaaGreatDoorPe.TmpfCode
theorem rtname_t (n:Nd) (hn:n.s.length<4611686018427387904):tupV (callE efns given) (.call 0 f_ref9_Name) [n.p]=some (.tuple [.str n.s,.bool (goodN n)]):=by
 rw[Nd.p_eq]
 refine call_good (f:=f_ref9_Name) rfl ?_
 rw[callE_fn efns given (c:=e_ref9_Name) rfl rfl]
 unfold goodN
 have hg:=rgood_t (s:=n.s) hn
 by_cases h2:n.k=2
 ·simp only[e_ref9_Name,go_sem,Nd.cells,h2,hg]
  exact Good.done (by simp[Ret]; rfl)
 ·simp only[e_ref9_Name,go_sem,Nd.cells,h2]
  exact Good.done rfl
theorem placeL_drop {s:List UInt8} {l:List Sl} {n:Nat} (h : ∀ x∈l.take n,x.name≠s):placeL s l=(placeL s (l.drop n)).map (· + n):=by
 induction n generalizing l with
 |zero=>simp
 |succ n ih =>
  cases l with
  |nil=>simp[placeL]
  |cons x l =>
   have hx:=h x (by simp)
   have:=ih (l:=l) (fun y hy=>h y (by simp[hy]))
   simp only[placeL,hx,if_false,List.drop_succ_cons,this,Option.map_map]
   congr 1
theorem rslot_t (t:Tm) (s:List UInt8) (hl:t.slots.length<4611686018427387904):tupV (callE efns given) (.call 0 f_ref9_Template_Slot) [t.p,.str s]=some (.int .i64 (idxI (placeL s t.slots))):=by
 refine call_good (f:=f_ref9_Template_Slot) rfl ?_
 rw[callE_fn efns given (c:=e_ref9_Template_Slot) rfl rfl]
 simp only[e_ref9_Template_Slot,go_sem,Tm.p]
 refine Good.for t.slots.length (fun i fr st=>fr=[.undef,.str s,.ptr 0 0,.int .i64 (i:Int),.undef,.undef]/\st=⟨[[.str t.name,.lst (t.slots.map Sl.p)]],[],[T_ref9_Template_Slot_0],[]⟩ /\ ∀ x∈t.slots.take i,x.name≠s) ?_ ?_ ?_
 ·rintro i fr st hi ⟨rfl,rfl,hh⟩ k hk
  have c1:((i:Int)<(t.slots.length:Int))=True:=eq_true (by omega)
  have hat:evIdx 4 (t.slots.map Sl.p) (i:Int)=some (.ref t.slots[i].cells):=idx_of (e:=t.slots[i].p) (map_at hi) rfl
  by_cases h:t.slots[i].name=s
  ·simp only[b_ref9_Template_Slot_0,go_sem,List.length_map,c1,hat,Sl.cells,eq_true h]
   refine Good.done ?_
   rw[placeL_drop hh,List.drop_eq_getElem_cons hi,placeL,if_pos h]
   simp[idxI]
   rfl
  ·simp only[b_ref9_Template_Slot_0,go_sem,List.length_map,c1,hat,Sl.cells,eq_false h,wrapN (n:=i) (by omega)]
   refine hk _ _ ⟨rfl,rfl,fun x hx => ?_⟩
   rw[take_succ_at hi,List.mem_append,List.mem_singleton] at hx
   rcases hx with hx|rfl
   ·exact hh x hx
   ·exact h
 ·rintro fr st ⟨rfl,rfl,hh⟩ k
  simp only[b_ref9_Template_Slot_0,go_sem,List.length_map,Int.lt_irrefl]
  refine Good.done ?_
  rw[placeL_drop hh,List.drop_length]
  rfl
 ·exact⟨rfl,rfl,by simp⟩
theorem rsymv_t (s:List UInt8):tupV (callE efns given) (.call 0 f_ref3_Sym) [.str s]=some (Vl.p ⟨2,0,s⟩):=rsym_t given
end Go.Proofs.YthjnlpfibakacaaGreatDoorPe.Tmpf
set_option linter.unusedVariables false
set_option linter.unusedSimpArgs false
set_option maxRecDepth 100000
namespace Go.Proofs.YthjnlpfibakacaaGreatDoorPe.Tmpf
open Go Go.Proofs Go.Proofs.YthjnlpfibakacaaGreatDoorPe Go.Proofs.YthjnlpfibakacaaGreatDoorPe.TmpfCode
theorem rslotr_t (n:Nd) (hs:NdS n) : ∃ (s:Sl) (b:Bool),tupV (callE efns given) (.call 0 f_ref9_slot) [n.p]=some (.tuple [s.p,.bool b])/\slotM n=if b=true then some s else none:=by
 have hh:=head_t n
 have hn:=rsymv_t [110,105,108]
 rw[Nd.p_eq] at hh ⊢
 have run : ∀ (s:Sl) (b:Bool),Good (Ret (.tuple [s.p,.bool b])) (callE efns given f_ref9_slot [.agg n.cells] ⟨[],[],[],[]⟩)->slotM n=(if b=true then some s else none) ->
   ∃ (s:Sl) (b:Bool),tupV (callE efns given) (.call 0 f_ref9_slot) [.agg n.cells]=some (.tuple [s.p,.bool b])/\slotM n=if b=true then some s else none :=
  fun s b h1 h2=>⟨s,b,call_good (f:=f_ref9_slot) rfl h1,h2⟩
 simp only[Nd.cells] at hh
 by_cases h1:headM n=sSlot
 ·have h1':(headM n=[115,108,111,116])=True:=eq_true h1
  match hk:n.kids with
  |[] =>
   refine run zSl false ?_ (by unfold slotM; rw[if_pos h1,hk]; rfl)
   rw[callE_fn efns given (c:=e_ref9_slot) rfl rfl]
   rw[hk] at hh
   simp only[List.map_nil] at hh
   simp only[e_ref9_slot,go_sem,Nd.cells,hk,hh,h1',ne_eq,List.map_nil]
   exact Good.done rfl
  |[a] =>
   refine run zSl false ?_ (by unfold slotM; rw[if_pos h1,hk]; rfl)
   rw[callE_fn efns given (c:=e_ref9_slot) rfl rfl]
   rw[hk] at hh
   simp only[List.map_cons,List.map_nil] at hh
   simp only[e_ref9_slot,go_sem,Nd.cells,hk,hh,h1',ne_eq,List.map_cons,List.map_nil]
   exact Good.done rfl
  |a::b::c::d::l =>
   refine run zSl false ?_ (by unfold slotM; rw[if_pos h1,hk]; rfl)
   rw[callE_fn efns given (c:=e_ref9_slot) rfl rfl]
   rw[hk] at hh
   simp only[List.map_cons,List.map_nil] at hh
   have c1:((((List.map Nd.p l).length+1+1+1+1:Nat):Int)<2)=False:=eq_false (by omega)
   have c2:((((List.map Nd.p l).length+1+1+1+1:Nat):Int)>3)=True:=eq_true (by omega)
   simp only[e_ref9_slot,go_sem,Nd.cells,hk,hh,h1',ne_eq,List.map_cons,List.map_nil,c1,c2]
   exact Good.done rfl
  |[a,x] =>
   have hx:=rtname_t x (hs x (by rw[hk]; simp))
   rw[hk] at hh
   rw[Nd.p_eq] at hx
   simp only[List.map_cons,List.map_nil] at hh
   have hat:evIdx 5 [a.p,x.p] 1=some (.ref x.cells):=Nd.at_ (l:=[a,x]) (n:=1) (by simp)
   simp only[Nd.cells] at hx hat
   cases hg:goodN x with
   |false =>
    rw[hg] at hx
    refine run zSl false ?_ (by unfold slotM; rw[if_pos h1,hk]; simp only[hg] <;> rfl)
    rw[callE_fn efns given (c:=e_ref9_slot) rfl rfl]
    simp only[e_ref9_slot,go_sem,Nd.cells,hk,hh,h1',ne_eq,List.map_cons,List.map_nil,hat,hx]
    exact Good.done rfl
   |true =>
    rw[hg] at hx
    refine run ⟨x.s,nilW⟩ true ?_ (by unfold slotM; rw[if_pos h1,hk]; simp only[hg] <;> rfl)
    rw[callE_fn efns given (c:=e_ref9_slot) rfl rfl]
    simp only[Vl.p] at hn
    simp only[e_ref9_slot,go_sem,Nd.cells,hk,hh,h1',ne_eq,List.map_cons,List.map_nil,hat,hx,hn]
    exact Good.done rfl
  |[a,x,d] =>
   have hx:=rtname_t x (hs x (by rw[hk]; simp))
   have hd:=head_t d
   rw[hk] at hh
   rw[Nd.p_eq] at hx hd
   simp only[List.map_cons,List.map_nil] at hh
   have hat:evIdx 5 [a.p,x.p,d.p] 1=some (.ref x.cells):=Nd.at_ (l:=[a,x,d]) (n:=1) (by simp)
   have hat2:evIdx 5 [a.p,x.p,d.p] 2=some (.ref d.cells):=Nd.at_ (l:=[a,x,d]) (n:=2) (by simp)
   simp only[Nd.cells] at hx hat hat2 hd
   cases hg:goodN x with
   |false =>
    rw[hg] at hx
    refine run zSl false ?_ (by unfold slotM; rw[if_pos h1,hk]; simp only[hg] <;> rfl)
    rw[callE_fn efns given (c:=e_ref9_slot) rfl rfl]
    simp only[e_ref9_slot,go_sem,Nd.cells,hk,hh,h1',ne_eq,List.map_cons,List.map_nil,hat,hx]
    exact Good.done rfl
   |true =>
    rw[hg] at hx
    simp only[Vl.p] at hn
    by_cases h3:headM d=sDefault
    ·have h3':(headM d=[100,101,102,97,117,108,116])=True:=eq_true h3
     match hdk:d.kids with
     |[] =>
      rw[hdk] at hd
      refine run zSl false ?_ (by unfold slotM; rw[if_pos h1,hk]; simp only[hg,slotD,h3,hdk,if_true] <;> rfl)
      rw[callE_fn efns given (c:=e_ref9_slot) rfl rfl]
      simp only[List.map_cons,List.map_nil] at hd
      simp only[e_ref9_slot,go_sem,Nd.cells,hk,hdk,hh,h1',h3',ne_eq,List.map_cons,List.map_nil,hat,hat2,hx,hn,hd]
      exact Good.done rfl
     |[u] =>
      rw[hdk] at hd
      refine run zSl false ?_ (by unfold slotM; rw[if_pos h1,hk]; simp only[hg,slotD,h3,hdk,if_true] <;> rfl)
      rw[callE_fn efns given (c:=e_ref9_slot) rfl rfl]
      simp only[List.map_cons,List.map_nil] at hd
      simp only[e_ref9_slot,go_sem,Nd.cells,hk,hdk,hh,h1',h3',ne_eq,List.map_cons,List.map_nil,hat,hat2,hx,hn,hd]
      exact Good.done rfl
     |u::v::w::l =>
      rw[hdk] at hd
      refine run zSl false ?_ (by unfold slotM; rw[if_pos h1,hk]; simp only[hg,slotD,h3,hdk,if_true] <;> rfl)
      rw[callE_fn efns given (c:=e_ref9_slot) rfl rfl]
      simp only[List.map_cons,List.map_nil] at hd
      have c1:((((List.map Nd.p l).length+1+1+1:Nat):Int)=2)=False:=eq_false (by omega)
      simp only[e_ref9_slot,go_sem,Nd.cells,hk,hdk,hh,h1',h3',ne_eq,List.map_cons,List.map_nil,hat,hat2,hx,hn,hd,c1]
      exact Good.done rfl
     |[u,v] =>
      rw[hdk] at hd
      have hv:=value_t v
      have hat3:evIdx 5 [u.p,v.p] 1=some (.ref v.cells):=Nd.at_ (l:=[u,v]) (n:=1) (by simp)
      rw[Nd.p_eq] at hv
      simp only[Nd.cells] at hv hat3
      simp only[List.map_cons,List.map_nil] at hd
      cases hm:valM v with
      |none =>
       rw[hm] at hv
       simp only[valV,Vl.p] at hv
       refine run ⟨x.s,⟨0,0,[]⟩⟩ false ?_ (by unfold slotM; rw[if_pos h1,hk]; simp only[hg,slotD,h3,hdk,if_true,hm] <;> rfl)
       rw[callE_fn efns given (c:=e_ref9_slot) rfl rfl]
       simp only[e_ref9_slot,go_sem,Nd.cells,hk,hdk,hh,h1',h3',ne_eq,List.map_cons,List.map_nil,hat,hat2,hat3,hx,hn,hd,hv]
       exact Good.done rfl
      |some w =>
       rw[hm] at hv
       simp only[valV,Vl.p] at hv
       refine run ⟨x.s,w⟩ true ?_ (by unfold slotM; rw[if_pos h1,hk]; simp only[hg,slotD,h3,hdk,if_true,hm] <;> rfl)
       rw[callE_fn efns given (c:=e_ref9_slot) rfl rfl]
       simp only[e_ref9_slot,go_sem,Nd.cells,hk,hdk,hh,h1',h3',ne_eq,List.map_cons,List.map_nil,hat,hat2,hat3,hx,hn,hd,hv]
       exact Good.done rfl
    ·have h3':(headM d=[100,101,102,97,117,108,116])=False:=eq_false h3
     refine run zSl false ?_ (by unfold slotM; rw[if_pos h1,hk]; simp only[hg,slotD,h3,if_true,if_false] <;> rfl)
     rw[callE_fn efns given (c:=e_ref9_slot) rfl rfl]
     simp only[e_ref9_slot,go_sem,Nd.cells,hk,hh,h1',h3',ne_eq,List.map_cons,List.map_nil,hat,hat2,hx,hn,hd]
     exact Good.done rfl
 ·have h1':(headM n=[115,108,111,116])=False:=eq_false h1
  refine run zSl false ?_ (by unfold slotM; rw[if_neg h1]; rfl)
  rw[callE_fn efns given (c:=e_ref9_slot) rfl rfl]
  simp only[e_ref9_slot,go_sem,Nd.cells,hh,h1',ne_eq]
  exact Good.done rfl
def rparseV:Except (Int × Int) Tm->PV
 |.ok t=>.tuple [t.p,noneW]
 |.error q=>.tuple [zTm.p,wrongV q.1 q.2]
theorem rtparse_t (n:Nd) (hs:NdS2 n) (hl:n.kids.length<=100000):tupV (callE efns given) (.call 0 f_ref9_Parse) [n.p]=some (rparseV (tmplM n)):=by
 have hh:=head_t n
 have hf:=fun p e=>at_t (p:=p) (e:=e)
 simp only[Nd.p_eq n] at hh ⊢
 refine call_good (f:=f_ref9_Parse) rfl ?_
 simp only[Nd.cells] at hh
 simp only[sChar,wrongV] at hf
 unfold tmplM
 by_cases h1:headM n=sDeft
 ·have h1':(headM n=[100,101,102,116,101,109,112,108,97,116,101])=True:=eq_true h1
  rw[if_pos h1]
  match hk:n.kids with
  |[] =>
   rw[hk] at hh
   simp only[List.map_nil] at hh
   rw[callE_fn efns given (c:=e_ref9_Parse) rfl rfl]
   simp only[e_ref9_Parse,go_sem,Nd.cells,hk,hh,hf,h1',ne_eq,List.map_nil]
   exact Good.done rfl
  |[a] =>
   rw[hk] at hh
   simp only[List.map_cons,List.map_nil] at hh
   rw[callE_fn efns given (c:=e_ref9_Parse) rfl rfl]
   simp only[e_ref9_Parse,go_sem,Nd.cells,hk,hh,hf,h1',ne_eq,List.map_cons,List.map_nil]
   exact Good.done rfl
  |a::x::l =>
   have hx:=rtname_t x (hs x (by rw[hk]; simp)).1
   rw[hk] at hh hl
   simp only[List.length_cons] at hl
   have hhx:=hs
   unfold NdS2 at hhx
   rw[hk] at hhx
   rw[Nd.p_eq] at hx
   simp only[List.map_cons] at hh
   have hat:evIdx 5 (a.p::x.p::l.map Nd.p) 1=some (.ref x.cells):=Nd.at_ (l:=a::x::l) (n:=1) (by simp)
   simp only[Nd.cells] at hx hat
   have c1:((((List.map Nd.p l).length+1+1:Nat):Int)<2)=False:=eq_false (by omega)
   cases hg:goodN x with
   |false =>
    rw[hg] at hx
    rw[callE_fn efns given (c:=e_ref9_Parse) rfl rfl]
    simp only[e_ref9_Parse,go_sem,Nd.cells,hk,hh,hf,h1',ne_eq,List.map_cons,hat,hx,c1]
    rw[hg]
    exact Good.done rfl
   |true =>
    rw[hg] at hx
    rw[callE_fn efns given (c:=e_ref9_Parse) rfl rfl]
    simp only[e_ref9_Parse,go_sem,Nd.cells,hk,hh,hf,h1',ne_eq,List.map_cons,hat,hx,c1]
    rw[hg,if_pos rfl]
    refine Good.for l.length (fun i fr st => ∃ out rows rt rest bts t,fr=[.undef,.ptr 0 0,.ptr 1 0,.ptr 2 0,.ptr 3 0,.undef,.ptr 4 0,.int .i64 ((i+2:Nat):Int)]++List.replicate 23 .undef /\
     st=⟨[[.int .i64 n.k,.int .i64 n.pos,.int .i64 n.i,.str n.s,.lst (a.p::x.p::l.map Nd.p)],[.str [],.nils],[.nils,.int .i64 0],[.str [],.nils],[.str x.s,out]]++rest,rows,bts,rt⟩ /\
     OutV 4 T_ref9_Parse_0 (t.map Sl.p) out rows rt/\rt.length=rows.length/\t.length<=16/\parseR x.s l []=parseR x.s (l.drop i) t) ?_ ?_ ?_
    ·rintro i fr st hi ⟨out,rows,rt,rest,bts,t,rfl,rfl,hO,hr,ht,he⟩ k hk2
     have c2:(((i+2:Nat):Int)<(((List.map Nd.p l).length+1+1:Nat):Int))=True:=eq_true (by rw[List.length_map]; omega)
     have hy:=hhx l[i] (by simp[List.getElem_mem hi])
     rw[List.drop_eq_getElem_cons hi] at he
     have hat2:evIdx 5 (a.p::x.p::l.map Nd.p) ((i+2:Nat):Int)=some (.ref l[i].cells):=by
      have:=Nd.at_ (l:=a::x::l) (n:=i+2) (by simp; omega)
      simpa using this
     generalize l[i]=y at hy he hat2
     obtain⟨s,b,h2,h3⟩:=rslotr_t y hy.2
     have h4:=rslot_t ⟨x.s,t⟩ s.name (by simp only; omega)
     have h6:tupV (callE efns given) (.call 0 f_ref9_Template_Slot) [.agg [.str x.s,out],.str s.name]=tupV (callE efns given) (.call 0 f_ref9_Template_Slot) [(⟨x.s,t⟩:Tm).p,.str s.name] :=
      tup_shut (by rw[argF_0,show mapO (shutA shutN) [PV.agg [.str x.s,out],.str s.name]=some [.agg [.str x.s,.lst (t.map Sl.p)],.str s.name] from mS (shutA_agg (mS rfl (mS (hO.shutA _) mN))) (mS rfl mN)]; rfl)
     rw[h4] at h6
     rw[Nd.p_eq] at h2
     simp only[Nd.cells,Sl.p] at h2 h6 hat2
     rw[parseR_cons] at he
     have fin : ∀ e:Int,parseR x.s l [] = .error (y.pos,e) -> ∀ st,Ret (rparseV (parseR x.s l [])) (.tuple [.agg [.str [],.nils],.agg [.lst [.agg [.str [99,104,97,114],.int .i64 y.pos]],.int .i64 e]]) st:=fun e h st=>by rw[h]; rfl
     cases b with
     |false =>
      rw[h3] at he
      simp only[b_ref9_Parse_0,go_sem,c2,hat2,h2,hf,ne_eq]
      exact Good.done (fin 2 he _)
     |true =>
      rw[h3] at he
      simp only[if_true] at he
      cases hp:placeL s.name t with
      |some j =>
       have c3:((j:Int)>=0)=True:=eq_true (by omega)
       rw[hp] at h6
       simp only[mayM,hp,Option.isSome_some,if_true] at he
       simp only[idxI] at h6
       simp only[b_ref9_Parse_0,go_sem,c2,hat2,h2,h6,c3,hf,ne_eq]
       exact Good.done (fin 6 he _)
      |none =>
       rw[hp] at h6
       simp only[idxI] at h6
       simp only[mayM,hp,Option.isSome_none,Bool.false_eq_true,if_false] at he
       by_cases h16:16<=t.length
       ·have h16':((t.length:Int)=16)=True:=eq_true (by omega)
        simp only[h16,if_true] at he
        have hle:=hO.len
        rw[List.length_map] at hle
        simp only[b_ref9_Parse_0,go_sem,c2,hat2,h2,h6,hle,h16',hf,ne_eq]
        exact Good.done (fin 4 he _)
       ·have h16':((t.length:Int)=16)=False:=eq_false (by omega)
        simp only[h16,if_false,if_true] at he
        have hle:=hO.len
        rw[List.length_map] at hle
        obtain⟨out',rows',rt',ap,hO',hr',_⟩:=hO.app1 (b:=48) hr (e:=.agg s.cells) rfl (by simp; omega)
        have hb:tupV (callE efns given) (.bslice 4 [.str [],.int .i64 0,.int .i64 0,.str []] 1 [0]) [.agg s.cells]=some (.full [.agg s.cells]):=V_bs1 rfl rfl rfl
        simp only[Sl.cells] at ap hb
        simp only[b_ref9_Parse_0,go_sem,c2,hat2,h2,h6,hle,h16',hb,ap,hO'.cells,hO'.cell,ne_eq,wrapN (n:=i+2) (by omega)]
        refine hk2 _ _ ⟨out',rows',rt',_,_,t++[s],rfl,rfl,?_,hr',by simp; omega,he⟩
        rw[List.map_append,List.map_singleton]
        exact hO'
    ·rintro fr st ⟨out,rows,rt,rest,bts,t,rfl,rfl,hO,hr,ht,he⟩ k
     have c2:(((l.length+2:Nat):Int)<(((List.map Nd.p l).length+1+1:Nat):Int))=False:=eq_false (by rw[List.length_map]; omega)
     simp only[b_ref9_Parse_0,go_sem,c2,hO.cells,hO.cell]
     refine Good.done ?_
     rw[List.drop_length] at he
     show Ret (rparseV (parseR x.s l [])) _ _
     rw[he]
     exact ret_tup (mS (shutR_agg (mS rfl (mS (hO.shutR _ _) mN))) (mS rfl mN))
    ·exact⟨.nils,[],[],[],_,[],by simp,rfl,.nils,rfl,by simp,rfl⟩
 ·have h1':(headM n=[100,101,102,116,101,109,112,108,97,116,101])=False:=eq_false h1
  rw[if_neg h1]
  rw[callE_fn efns given (c:=e_ref9_Parse) rfl rfl]
  simp only[e_ref9_Parse,go_sem,Nd.cells,hh,hf,h1',ne_eq]
  exact Good.done rfl
end Go.Proofs.YthjnlpfibakacaaGreatDoorPe.Tmpf
set_option linter.unusedVariables false
set_option linter.unusedSimpArgs false
set_option maxRecDepth 100000
namespace Go.Proofs.YthjnlpfibakacaaGreatDoorPe.Tmpf
open Go Go.Proofs Go.Proofs.YthjnlpfibakacaaGreatDoorPe Go.Proofs.YthjnlpfibakacaaGreatDoorPe.TmpfCode
theorem tto_t (t:Tm) (hl:t.slots.length<=100000):tupV (callE efns given) (.call 0 f_law9_To) [t.p]=some t.p:=by
 refine call_good (f:=f_law9_To) rfl ?_
 rw[callE_fn efns given (c:=e_law9_To) rfl rfl]
 simp only[e_law9_To,go_sem,Tm.p]
 refine Good.for t.slots.length (fun n fr st => ∃ out rows rt bts,fr=[.undef,.ptr 0 0,.ptr 1 0,.ptr 2 0,.int .i64 (n:Int),.undef,.undef,.undef,.undef,.undef,.undef,.undef] /\
  st=⟨[[.str t.name,.lst (t.slots.map Sl.p)],[.str [],.nils],[.str t.name,out]],rows,bts,rt⟩ /\
  OutV 4 T_law9_To_0 ((t.slots.take n).map Sl.p) out rows rt/\rt.length=rows.length) ?_ ?_ ?_
 ·rintro n fr st hn ⟨out,rows,rt,bts,rfl,rfl,hO,hr⟩ k hk
  have c1:((n:Int)<(t.slots.length:Int))=True:=eq_true (by omega)
  have hat:evIdx 4 (t.slots.map Sl.p) (n:Int)=some (.ref t.slots[n].cells):=idx_of (e:=t.slots[n].p) (map_at hn) rfl
  obtain⟨out',rows',rt',ap,hO',hr',_⟩:=hO.app1 (b:=48) hr (e:=.agg t.slots[n].cells) rfl (by simp; omega)
  have hb:tupV (callE efns given) (.bslice 4 [.str [],.int .i64 0,.int .i64 0,.str []] 1 [0]) [.agg t.slots[n].cells]=some (.full [.agg t.slots[n].cells]):=V_bs1 rfl rfl rfl
  simp only[Sl.cells] at ap hat hb
  simp only[b_law9_To_0,go_sem,hat,List.length_map,c1,hb,ap,hO'.cells,hO'.cell,wrapN (n:=n) (by omega)]
  refine hk _ _ ⟨out',rows',rt',_,rfl,rfl,?_,hr'⟩
  rw[take_succ_at hn,List.map_append,List.map_singleton]
  exact hO'
 ·rintro fr st ⟨out,rows,rt,bts,rfl,rfl,hO,hr⟩ k
  simp only[b_law9_To_0,go_sem,List.length_map,Int.lt_irrefl,hO.cells,hO.cell]
  refine Good.done ?_
  rw[List.take_length] at hO
  exact ret_agg (mS rfl (mS (hO.shutR _ _) mN))
 ·exact⟨.nils,[],[],_,rfl,rfl,.nils,rfl⟩
end Go.Proofs.YthjnlpfibakacaaGreatDoorPe.Tmpf
