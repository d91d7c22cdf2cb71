/- A part of the proof of this folder's statement; it has no condition of its own. -/
import Derived.Test.YthjnlpfibakacaaGreatDoorTmpfNd
import Derived.Test.YthjnlpfibakacaaGreatDoorTmpfNt
import Derived.Test.YthjnlpfibakacaaGreatDoorTmpfVal
import Derived.Test.YthjnlpfibakacaaGreatDoorEcGen
set_option linter.unusedVariables false
set_option linter.unusedSimpArgs false
set_option maxRecDepth 100000
namespace Go.Proofs.YthjnlpfibakacaaGreatDoorPe.Tmpf
open Go Go.Proofs Go.Proofs.YthjnlpfibakacaaGreatDoorPe Go.Proofs.YthjnlpfibakacaaGreatDoorPe.TmpfCode
structure Sl where
 name:List UInt8
 d:Vl
 deriving DecidableEq
structure Tm where
 name:List UInt8
 slots:List Sl
 deriving DecidableEq
def Sl.cells (s:Sl):List PV:=[.str s.name,.int .i64 s.d.k,.int .i64 s.d.i,.str s.d.s]
def Sl.p (s:Sl):PV:=.agg [.str s.name,.int .i64 s.d.k,.int .i64 s.d.i,.str s.d.s]
def Tm.cells (t:Tm):List PV:=[.str t.name,.lst (t.slots.map Sl.p)]
def Tm.p (t:Tm):PV:=.agg [.str t.name,.lst (t.slots.map Sl.p)]
def placeL (s:List UInt8):List Sl->Option Nat
 |[]=>none
 |x::l=>if x.name=s then some 0 else (placeL s l).map (· + 1)
def mayM (t:List Sl) (s:Option Sl):Int :=
 match s with
 |none=>2
 |some s=>if (placeL s.name t).isSome=true then 6 else if 16<=t.length then 4 else 0
def Sl.Ok (s:Sl):Prop:=goodM s.name=true/\(s.d.k=1\/s.d.k=2\/s.d.k=3)
def OkL:List Sl->List Sl->Prop
 |_,[]=>True
 |t,s::l=>s.Ok/\mayM t (some s)=0/\OkL (t++[s]) l
structure Tm.Ok (t:Tm):Prop where
 name:goodM t.name=true
 slots:OkL [] t.slots
theorem mayM_len {t:List Sl} {s:Sl} (h:mayM t (some s)=0):t.length<16/\placeL s.name t=none:=by
 unfold mayM at h
 simp only at h
 split at h
 ·cases h
 ·rename_i h1
  split at h
  ·cases h
  ·refine⟨by omega,?_⟩
   cases hp:placeL s.name t with
   |none=>rfl
   |some x=>rw[hp] at h1; simp at h1
end Go.Proofs.YthjnlpfibakacaaGreatDoorPe.Tmpf
set_option linter.unusedVariables false
set_option linter.unusedSimpArgs false
set_option maxRecDepth 100000
namespace Go.Proofs.YthjnlpfibakacaaGreatDoorPe.Tmpf
open Go Go.Proofs Go.Proofs.YthjnlpfibakacaaGreatDoorPe Go.Proofs.YthjnlpfibakacaaGreatDoorPe.TmpfCode
theorem sl_ok {l:List Sl} : ∀ e∈l.map Sl.p,ElemOk (some 4) 4 e:=fun e he=>by
 obtain⟨x,_,rfl⟩:=List.mem_map.1 he
 exact ElemOk.agg rfl
def slName:PV->List UInt8->Bool
 |.agg (.str n::_),s=>decide (n=s)
 |_,_=>false
theorem idxP_place (s:List UInt8) : ∀ l:List Sl,idxP (fun e=>slName e s) (l.map Sl.p)=placeL s l
 |[]=>rfl
 |x::l=>by
  have h:=idxP_place s l
  simp only[List.map_cons,idxP,placeL,h]
  simp only[Sl.p,slName,decide_eq_true_eq]
theorem tidx_t {l:List Sl} {s:List UInt8} {st:St} {b:Nat} (hb:st.boxes[b]? = some [.str s]) (hl:l.length<4611686018427387904) :
  ∃ st',callE efns given f_slices_IndexFunc_tmpl_Slot_tmpl_Slot [.lst (l.map Sl.p),.func f_tmpl_Template_Slot_1 [.ptr b 0]] st=some (.int .i64 (idxI (placeL s l)),st')/\Grew st st':=by
 have:=indexFunc_g (efns:=efns) (given:=given) (f:=f_slices_IndexFunc_tmpl_Slot_tmpl_Slot) (g:=f_tmpl_Template_Slot_1) (ld:=some 4) (n:=4) rfl (l:=l.map Sl.p) (cap:=[.ptr b 0]) (p:=fun e=>slName e s) (st:=st) (by simpa using hl) sl_ok ?_
 ·rw[idxP_place] at this
  exact this
 ·intro st' hg e he
  obtain⟨x,_,rfl⟩:=List.mem_map.1 he
  have hb':=hg.get hb
  have key:Good (fun v st2=>v = .bool (slName x.p s)/\Grew st' st2) (callE efns given f_tmpl_Template_Slot_1 [x.p,.ptr b 0] st'):=by
   rw[callE_fn efns given (c:=e_tmpl_Template_Slot_1) rfl rfl]
   have hb2:(st'.boxes++[x.cells])[b]? = some [.str s]:=(Grew.box st' x.cells T_tmpl_Template_Slot_1_0).get hb'
   simp only[Sl.cells] at hb2
   simp only[e_tmpl_Template_Slot_1,go_sem,Sl.p,hb2]
   exact Good.done ⟨rfl,Grew.box st' _ _⟩
  obtain⟨v,st2,h,rfl,hg2⟩:=key
  exact⟨st2,h,hg2⟩
theorem placeL_lt {s:List UInt8} : ∀ {l:List Sl} {i:Nat},placeL s l=some i->i<l.length
 |[],i,h=>by cases h
 |x::l,i,h=>by
  simp only[placeL] at h
  split at h
  ·cases h; simp
  ·obtain⟨j,hj,rfl⟩:=Option.map_eq_some_iff.1 h
   have:=placeL_lt hj
   simp; omega
def placeV (o:Option Nat):PV :=
 match o with
 |some i=>.tuple [.int .i64 (i:Int),.bool true]
 |none=>.tuple [.int .i64 0,.bool false]
theorem tslot_t (t:Tm) (s:List UInt8) (hl:t.slots.length<4611686018427387904):tupV (callE efns given) (.call 0 f_tmpl_Template_Slot) [t.p,.str s]=some (placeV (placeL s t.slots)):=by
 refine call_good (f:=f_tmpl_Template_Slot) rfl ?_
 rw[callE_fn efns given (c:=e_tmpl_Template_Slot) rfl rfl]
 obtain⟨st',h,_⟩:=tidx_t (l:=t.slots) (s:=s) (st:=⟨[t.cells,[.str s]],[],[T_tmpl_Template_Slot_0,T_tmpl_Template_Slot_1],[]⟩) (b:=1) rfl hl
 simp only[Tm.cells] at h
 cases hp:placeL s t.slots with
 |none =>
  rw[hp] at h
  simp only[idxI] at h
  simp only[e_tmpl_Template_Slot,go_sem,Tm.p,h]
  exact Good.done rfl
 |some i =>
  rw[hp] at h
  simp only[idxI] at h
  have c1:((0:Int)>(i:Int))=False:=eq_false (by omega)
  have c2:((i:Int)>=0)=True:=eq_true (by omega)
  simp only[e_tmpl_Template_Slot,go_sem,Tm.p,h,c1,c2]
  exact Good.done rfl
end Go.Proofs.YthjnlpfibakacaaGreatDoorPe.Tmpf
set_option linter.unusedVariables false
set_option linter.unusedSimpArgs false
set_option maxRecDepth 100000
namespace Go.Proofs.YthjnlpfibakacaaGreatDoorPe.Tmpf
open Go Go.Proofs Go.Proofs.YthjnlpfibakacaaGreatDoorPe Go.Proofs.YthjnlpfibakacaaGreatDoorPe.TmpfCode
end Go.Proofs.YthjnlpfibakacaaGreatDoorPe.Tmpf
set_option linter.unusedVariables false
set_option linter.unusedSimpArgs false
set_option maxRecDepth 100000
namespace Go.Proofs.YthjnlpfibakacaaGreatDoorPe.Tmpf
open Go Go.Proofs Go.Proofs.YthjnlpfibakacaaGreatDoorPe Go.Proofs.YthjnlpfibakacaaGreatDoorPe.TmpfCode
theorem Nd.pl (l:List Nd):l.map (fun x=>PV.agg x.cells)=l.map Nd.p:=List.map_congr_left fun x _=>(Nd.p_eq x).symm
end Go.Proofs.YthjnlpfibakacaaGreatDoorPe.Tmpf
set_option linter.unusedVariables false
set_option linter.unusedSimpArgs false
set_option maxRecDepth 100000
namespace Go.Proofs.YthjnlpfibakacaaGreatDoorPe.Tmpf
open Go Go.Proofs Go.Proofs.YthjnlpfibakacaaGreatDoorPe Go.Proofs.YthjnlpfibakacaaGreatDoorPe.TmpfCode
theorem rvsame_t (v w:Vl):tupV (callE efns given) (.call 0 f_ref3_Same) [v.p,w.p]=some (.bool (decide (v=w))):=rsame_t given v w
end Go.Proofs.YthjnlpfibakacaaGreatDoorPe.Tmpf
set_option linter.unusedVariables false
set_option linter.unusedSimpArgs false
set_option maxRecDepth 100000
namespace Go.Proofs.YthjnlpfibakacaaGreatDoorPe.Tmpf
open Go Go.Proofs Go.Proofs.YthjnlpfibakacaaGreatDoorPe Go.Proofs.YthjnlpfibakacaaGreatDoorPe.TmpfCode
end Go.Proofs.YthjnlpfibakacaaGreatDoorPe.Tmpf
set_option linter.unusedVariables false
set_option linter.unusedSimpArgs false
set_option maxRecDepth 100000
namespace Go.Proofs.YthjnlpfibakacaaGreatDoorPe.Tmpf
open Go Go.Proofs Go.Proofs.YthjnlpfibakacaaGreatDoorPe Go.Proofs.YthjnlpfibakacaaGreatDoorPe.TmpfCode
end Go.Proofs.YthjnlpfibakacaaGreatDoorPe.Tmpf
