/- A part of the proof of this folder's statement; it has no condition of its own. -/
import Derived.Test.YthjnlpfibakacaaGreatDoorTmpfVal
import Derived.Test.YthjnlpfibakacaaGreatDoorTmpfGivt
set_option linter.unusedVariables false
set_option linter.unusedSimpArgs false
set_option maxRecDepth 100000
namespace Go.Proofs.YthjnlpfibakacaaGreatDoorPe.Tmpf
open Go Go.Proofs.YthjnlpfibakacaaGreatDoorPe Go.Proofs.YthjnlpfibakacaaGreatDoorPe.TmpfCode
def letterB (c:UInt8):Bool:=(decide (97<=c.toNat)&&decide (c.toNat<=122))||(decide (65<=c.toNat)&&decide (c.toNat<=90))
def partB (c:UInt8):Bool:=letterB c||(decide (48<=c.toNat)&&decide (c.toNat<=57))||decide (c=45)||decide (c=95)
def signB (c:UInt8):Bool:=decide (33<=c.toNat)&&decide (c.toNat<=126) && !(decide (c=40)) && !(decide (c=41)) && !(decide (c=34)) && !(decide (c=59)) && !(decide (c=63)) && !(decide (c=126))
def blankB (c:UInt8):Bool:=decide (c=32)||decide (c=9)||decide (c=10)||decide (c=13)
def goodM (s:List UInt8):Bool :=
 match s with
 |[]=>false
 |c::r=>decide (s.length<=40)&&letterB c&&s.all partB
structure Tk where
 k:Int
 i:Int
 s:List UInt8
 deriving DecidableEq,Inhabited
def skipM:Bool->List UInt8->List UInt8
 |_,[]=>[]
 |true,c::r=>if c=10 then skipM false r else skipM true r
 |false,c::r=>if blankB c=true then skipM false r else if c=59 then skipM true r else c::r
structure Tok where
 k:Int
 pos:Nat
 i:Int
 s:List UInt8
 deriving DecidableEq,Inhabited
def Tok.p (t:Tok):PV:=.agg [.int .i64 t.k,.int .i64 t.pos,.int .i64 t.i,.str t.s]
def Tok.cells' (t:Tok):List PV:=[.int .i64 t.k,.int .i64 t.pos,.int .i64 t.i,.str t.s]
end Go.Proofs.YthjnlpfibakacaaGreatDoorPe.Tmpf
set_option linter.unusedVariables false
set_option linter.unusedSimpArgs false
set_option maxRecDepth 1000000
namespace Go.Proofs.YthjnlpfibakacaaGreatDoorPe.Tmpf
open Go Go.Proofs.YthjnlpfibakacaaGreatDoorPe Go.Proofs.YthjnlpfibakacaaGreatDoorPe.TmpfCode
def isB (r:Option (PV × St)) (b:Bool):Bool :=
 match r with
 |some (.bool x,_)=>x==b
 |_=>false
theorem isB_some {r:Option (PV × St)} {b:Bool} (h:isB r b=true) : ∃ st,r=some (.bool b,st):=by
 unfold isB at h
 split at h
 ·rename_i x st
  have:x=b:=by simpa using h
  subst this
  exact⟨st,rfl⟩
 ·cases h
def byteRun (k:Nat) (f:FuncId) (p:UInt8->Bool):Bool:=(List.range 256).all fun n=>isB (evFE efns given k f [.int .u8 (n:Int)] ⟨[],[],[],[]⟩) (p (UInt8.ofNat n))
theorem byte_t {k:Nat} {f:FuncId} {p:UInt8->Bool} (h:byteRun k f p=true) (c:UInt8):tupV (callE efns given) (.call 0 f) [.int .u8 c.toNat]=some (.bool (p c)):=by
 have:=List.all_eq_true.1 h c.toNat (List.mem_range.2 c.toNat_lt)
 rw[UInt8.ofNat_toNat] at this
 obtain⟨st,h⟩:=isB_some this
 exact callV_of rfl ((callE_some efns given).2 ⟨k,h⟩) rfl
theorem rsignB_t (c:UInt8):tupV (callE efns given) (.call 0 f_ref3_Sign) [.int .u8 c.toNat]=some (.bool (signB c)):=byte_t (k:=10) (by kernel_rfl) c
end Go.Proofs.YthjnlpfibakacaaGreatDoorPe.Tmpf
set_option linter.unusedVariables false
set_option linter.unusedSimpArgs false
set_option maxRecDepth 1000000
namespace Go.Proofs.YthjnlpfibakacaaGreatDoorPe.Tmpf
open Go Go.Proofs.YthjnlpfibakacaaGreatDoorPe Go.Proofs.YthjnlpfibakacaaGreatDoorPe.TmpfCode
def scC (b:List UInt8) (n:Nat):List PV:=[.lst (byts b),.int .i64 (n:Int)]
def Sc (k:Nat) (b:List UInt8) (n:Nat) (st:St):Prop:=st.boxes[k]? = some (scC b n)
theorem Sc.lt {k n:Nat} {b:List UInt8} {st:St} (h:Sc k b n st):k<st.boxes.length:=box_lt h
theorem mapO_byteP : ∀ s:List UInt8,mapO byteP (byts s)=some s
 |[]=>rfl
 |c::s=>by
  have hc:byteP (.int .u8 (c.toNat:Int))=some c:=by
   simp only[byteP,Int.toNat_natCast,UInt8.ofNat_toNat]
  have ih:=mapO_byteP s
  unfold byts at ih ⊢
  simp only[List.map_cons,mapO,hc,ih]
theorem btostr_own (r:Nat) (s:List UInt8):unV .tostr (.own r (byts s))=some (.str s):=by
 show (mapO byteP (byts s)).map PV.str=_
 rw[mapO_byteP]
 rfl
def pc:List UInt8->PV
 |[]=>.int .u8 0
 |c::_=>.int .u8 c.toNat
def pok:List UInt8->PV
 |[]=>.bool false
 |_::_=>.bool true
@[simp] theorem pc_cons {c : UInt8} {r : List UInt8} : pc (c :: r) = .int .u8 c.toNat := rfl
@[simp] theorem pok_cons {c : UInt8} {r : List UInt8} : pok (c :: r) = .bool true := rfl
@[simp] theorem pc_nil : pc [] = .int .u8 0 := rfl
@[simp] theorem pok_nil : pok [] = .bool false := rfl
end Go.Proofs.YthjnlpfibakacaaGreatDoorPe.Tmpf
set_option linter.unusedVariables false
set_option linter.unusedSimpArgs false
set_option maxRecDepth 1000000
namespace Go.Proofs.YthjnlpfibakacaaGreatDoorPe.Tmpf
open Go Go.Proofs.YthjnlpfibakacaaGreatDoorPe Go.Proofs.YthjnlpfibakacaaGreatDoorPe.TmpfCode
structure Ext (k:Nat) (b:List UInt8) (m:Nat) (st st':St):Prop where
 lt:k<st.boxes.length
 sc:Sc k b m st'
 bx : ∀ i,i<st.boxes.length->i≠k->st'.boxes[i]? = st.boxes[i]?
 bl:st.boxes.length<=st'.boxes.length
 rw : ∀ i,i<st.rows.length->st'.rows[i]? = st.rows[i]?
 rt : ∀ i,i<st.rt.length->st'.rt[i]? = st.rt[i]?
 rl:st.rows.length<=st'.rows.length
 rn:RtN st'
theorem Ext.refl {k n:Nat} {b:List UInt8} {st:St} (h:Sc k b n st) (hr:RtN st):Ext k b n st st:=⟨h.lt,h,fun _ _ _=>rfl,Nat.le_refl _,fun _ _=>rfl,fun _ _=>rfl,Nat.le_refl _,hr⟩
theorem Ext.new {k n:Nat} {b:List UInt8} {st s:St} (e:Ext k b n st s) (x:List PV) (T:TypeId):Ext k b n st ⟨s.boxes++[x],s.rows,s.bt++[T],s.rt⟩ :=
 ⟨e.lt,by unfold Sc; rw[List.getElem?_append_left e.sc.lt]; exact e.sc,fun i hi hne=>by rw[List.getElem?_append_left (Nat.lt_of_lt_of_le hi e.bl)]; exact e.bx i hi hne,by have:=e.bl; simp; omega,e.rw,e.rt,e.rl,e.rn⟩
theorem Ext.trans {k n m:Nat} {b:List UInt8} {st s t:St} (e:Ext k b n st s) (f:Ext k b m s t):Ext k b m st t :=
 ⟨e.lt,f.sc,fun i hi hne=>(f.bx i (Nat.lt_of_lt_of_le hi e.bl) hne).trans (e.bx i hi hne),Nat.le_trans e.bl f.bl,
  fun i hi=>by
   have h1:=e.rw i hi
   have:i<s.rows.length:=by
    rcases Nat.lt_or_ge i s.rows.length with h|h
    ·exact h
    ·rw[List.getElem?_eq_none h,List.getElem?_eq_getElem hi] at h1; cases h1
   exact (f.rw i this).trans h1,
  fun i hi=>by
   have h1:=e.rt i hi
   have:i<s.rt.length:=by
    rcases Nat.lt_or_ge i s.rt.length with h|h
    ·exact h
    ·rw[List.getElem?_eq_none h,List.getElem?_eq_getElem hi] at h1; cases h1
   exact (f.rt i this).trans h1,Nat.le_trans e.rl f.rl,f.rn⟩
@[go_sem] theorem fill0 {zs : List PV} : fillP zs (zip3 [] []) = some zs := by cases zs <;> rfl
@[go_sem] theorem fill03 {a b c d : PV} {k : IntKind} {n : Int} {t : List UInt8} : fillP [a, b, c, d] (zip3 [(0, 1), (3, 1)] [.int k n, .str t]) = some [.int k n, b, c, .str t] := rfl
@[go_sem] theorem fill02 {a b c d : PV} {k k' : IntKind} {n n' : Int} : fillP [a, b, c, d] (zip3 [(0, 1), (2, 1)] [.int k n, .int k' n']) = some [.int k n, b, .int k' n', d] := rfl
@[go_sem] theorem fill00 {a b c d : PV} {k : IntKind} {n : Int} : fillP [a, b, c, d] (zip3 [(0, 1)] [.int k n]) = some [.int k n, b, c, d] := rfl
@[go_sem] theorem fill11 {a b c d : PV} {k : IntKind} {n : Int} : fillP [a, b, c, d] (zip3 [(1, 1)] [.int k n]) = some [a, .int k n, c, d] := rfl
end Go.Proofs.YthjnlpfibakacaaGreatDoorPe.Tmpf
set_option linter.unusedVariables false
set_option linter.unusedSimpArgs false
set_option maxRecDepth 1000000
namespace Go.Proofs.YthjnlpfibakacaaGreatDoorPe.Tmpf
open Go Go.Proofs.YthjnlpfibakacaaGreatDoorPe Go.Proofs.YthjnlpfibakacaaGreatDoorPe.TmpfCode
def OutI (N:Nat) (acc:List UInt8) (out:PV) (s:St):Prop :=
 acc=[]/\out = .nils \/ ∃ r,N<=r/\acc≠[]/\out = .own r (byts acc)/\s.rows[r]? = some (acc.length,1)/\s.rt[r]? = some T_byte
theorem OutI.len {N:Nat} {acc:List UInt8} {out:PV} {s:St} (h:OutI N acc out s):unV .len out=some (.int .i64 (acc.length:Int)):=by
 rcases h with ⟨rfl,rfl⟩|⟨r,_,_,rfl,_⟩
 ·rfl
 ·show some (PV.int .i64 ((byts acc).length:Int))=_
  rw[byts_length]
theorem OutI.str {N:Nat} {acc:List UInt8} {out:PV} {s:St} (h:OutI N acc out s):unV .tostr out=some (.str acc):=by
 rcases h with ⟨rfl,rfl⟩|⟨r,_,_,rfl,_⟩
 ·rfl
 ·exact btostr_own r acc
end Go.Proofs.YthjnlpfibakacaaGreatDoorPe.Tmpf
set_option linter.unusedVariables false
set_option linter.unusedSimpArgs false
set_option maxRecDepth 1000000
namespace Go.Proofs.YthjnlpfibakacaaGreatDoorPe.Tmpf
open Go Go.Proofs.YthjnlpfibakacaaGreatDoorPe Go.Proofs.YthjnlpfibakacaaGreatDoorPe.TmpfCode
def OutT (T:TypeId) (l:List Tok) (out:PV) (s:St):Prop :=
 l=[]/\out = .nils \/ ∃ r,l≠[]/\out = .own r (l.map Tok.p)/\s.rows[r]? = some (l.length,4)/\s.rt[r]? = some T
theorem OutT.ext {T:TypeId} {k m:Nat} {b:List UInt8} {l:List Tok} {out:PV} {s s':St} (h:OutT T l out s) (e:Ext k b m s s'):OutT T l out s':=by
 rcases h with h|⟨r,hne,ho,h1,h2⟩
 ·exact .inl h
 ·exact .inr ⟨r,hne,ho,(e.rw r (List.getElem?_eq_some_iff.1 h1).1).trans h1,(e.rt r (List.getElem?_eq_some_iff.1 h2).1).trans h2⟩
def behind (b:List UInt8) (p:Nat):Nat:=b.length-(skipM false (b.drop p)).length
end Go.Proofs.YthjnlpfibakacaaGreatDoorPe.Tmpf
