/- A part of the proof of this folder's statement; it has no condition of its own. -/
import Derived.Test.YthjnlpfibakacaaGreatDoorTmpfCode
import Derived.Test.YthjnlpfibakacaaGreatDoorEcWp2
set_option linter.unusedVariables false
set_option linter.unusedSimpArgs false
set_option maxRecDepth 100000
namespace Go.Proofs.YthjnlpfibakacaaGreatDoorPe.Tmpf
open Go Go.Proofs.YthjnlpfibakacaaGreatDoorPe Go.Proofs.YthjnlpfibakacaaGreatDoorPe.TmpfCode
def byts (s:List UInt8):List PV:=s.map fun b=>.int .u8 b.toNat
@[go_sem] theorem byts_nil : byts [] = [] := rfl
theorem byts_length (s:List UInt8):(byts s).length=s.length:=by simp[byts]
def RtN (st:St):Prop:=st.rt.length=st.rows.length
def Bld (b:Nat) (s:List UInt8) (st:St):Prop :=
 st.bt[b]? = some T_bld/\RtN st /\ ∃ p v,st.boxes[b]? = some [p,v]/\(p = .nilp\/p = .ptr b 0) /\
  (s=[]/\v = .nils \/ ∃ r,s≠[]/\v = .own r (byts s)/\st.rows[r]? = some (s.length,1)/\st.rt[r]? = some T_byte)
theorem Bld.new (st:St) (h:RtN st) (hb:st.bt.length=st.boxes.length):Bld st.boxes.length [] ⟨st.boxes++[[.nilp,.nils]],st.rows,st.bt++[T_bld],st.rt⟩ :=
 ⟨by rw[<- hb]; simp,h,.nilp,.nils,by simp,.inl rfl,.inl ⟨rfl,rfl⟩⟩
theorem Bld.grow {b:Nat} {s:List UInt8} {st:St} (h:Bld b s st) (x:List PV) (T:TypeId):Bld b s ⟨st.boxes++[x],st.rows,st.bt++[T],st.rt⟩:=by
 obtain⟨ht,hn,p,v,hb,h2⟩:=h
 exact⟨by rw[List.getElem?_append_left (List.getElem?_eq_some_iff.1 ht).1]; exact ht,hn,p,v,by rw[List.getElem?_append_left (box_lt hb)]; exact hb,h2⟩
section
variable (given:FuncId->List PV->Option PV)
end
end Go.Proofs.YthjnlpfibakacaaGreatDoorPe.Tmpf
