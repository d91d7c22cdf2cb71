/- A part of the proof of this folder's statement; it has no condition of its own. -/
import Derived.Test.YthjnlpfibakacaaGreatDoorTmpfCode
import Derived.Test.YthjnlpfibakacaaGreatDoorEcWp2
set_option linter.unusedVariables false
set_option linter.unusedSimpArgs false
set_option maxRecDepth 100000
namespace Go.Proofs.YthjnlpfibakacaaGreatDoorPe.Tmpf
open Go Go.Proofs.YthjnlpfibakacaaGreatDoorPe Go.Proofs.YthjnlpfibakacaaGreatDoorPe.TmpfCode
def byts (s:List UInt8):List PV:=s.map fun b=>.int .u8 b.toNat
@[go_sem] theorem byts_nil : byts [] = [] := rfl
theorem byts_append (s t:List UInt8):byts (s++t)=byts s++byts t:=by simp[byts]
theorem byts_length (s:List UInt8):(byts s).length=s.length:=by simp[byts]
theorem szAll_byts (s:List UInt8):szAll 1 (byts s)=true:=by simp[szAll,byts,PV.cells]
def RtN (st:St):Prop:=st.rt.length=st.rows.length
def Bld (b:Nat) (s:List UInt8) (st:St):Prop :=
 st.bt[b]? = some T_bld/\RtN st /\ ∃ p v,st.boxes[b]? = some [p,v]/\(p = .nilp\/p = .ptr b 0) /\
  (s=[]/\v = .nils \/ ∃ r,s≠[]/\v = .own r (byts s)/\st.rows[r]? = some (s.length,1)/\st.rt[r]? = some T_byte)
theorem Bld.new (st:St) (h:RtN st) (hb:st.bt.length=st.boxes.length):Bld st.boxes.length [] ⟨st.boxes++[[.nilp,.nils]],st.rows,st.bt++[T_bld],st.rt⟩ :=
 ⟨by rw[<- hb]; simp,h,.nilp,.nils,by simp,.inl rfl,.inl ⟨rfl,rfl⟩⟩
theorem Bld.grow {b:Nat} {s:List UInt8} {st:St} (h:Bld b s st) (x:List PV) (T:TypeId):Bld b s ⟨st.boxes++[x],st.rows,st.bt++[T],st.rt⟩:=by
 obtain⟨ht,hn,p,v,hb,h2⟩:=h
 exact⟨by rw[List.getElem?_append_left (List.getElem?_eq_some_iff.1 ht).1]; exact ht,hn,p,v,by rw[List.getElem?_append_left (box_lt hb)]; exact hb,h2⟩
theorem set_same' {α : Type} {l:List α} {i:Nat} {x : α} (h:l[i]? = some x):l.set i x=l:=by
 obtain⟨hi,rfl⟩:=List.getElem?_eq_some_iff.1 h
 exact List.set_getElem_self hi
section
variable (given:FuncId->List PV->Option PV)
theorem copyCheck_ok {b:Nat} {p v:PV} {st:St} (hb:st.boxes[b]? = some [p,v]) (hp:p = .nilp\/p = .ptr b 0) (ht:st.bt[b]? = some T_bld) :
  callE efns given f_strings_Builder_copyCheck [.ptr b 0] st=some (.tuple [],⟨st.boxes.set b [.ptr b 0,v],st.rows,st.bt,st.rt⟩):=by
 rw[callE_fn efns given (c:=e_strings_Builder_copyCheck) rfl rfl]
 rcases hp with rfl|rfl
 ·have h2:fromunsV 2 T_bld (.ptr b 0) st=some (.ptr b 0,st):=fromuns_at hb rfl ht
  simp only[e_strings_Builder_copyCheck,go_sem,hb,h2]
 ·have e:st.boxes.set b [.ptr b 0,v]=st.boxes:=set_same' hb
  rw[e]
  simp only[e_strings_Builder_copyCheck,go_sem,hb]
theorem append_byts {s:List UInt8} {t:List UInt8} {v:PV} {st:St} (hn:RtN st) (hv:s=[]/\v = .nils \/ ∃ r,s≠[]/\v = .own r (byts s)/\st.rows[r]? = some (s.length,1)/\st.rt[r]? = some T_byte) (ht:t≠[])
  (hl:(s.length+t.length)*2<=70368744177664) :
  ∃ r rows rt,evAppend 1 1 T_byte v.nm (byts t) st=some (.own r (byts (s++t)),⟨st.boxes,rows,st.bt,rt⟩)/\rows[r]? = some ((s++t).length,1)/\rt[r]? = some T_byte/\rt.length=rows.length:=by
 obtain⟨c,t',rfl⟩ : ∃ c t',t=c::t':=by
  cases t with
  |nil=>exact absurd rfl ht
  |cons c t'=>exact⟨c,t',rfl⟩
 have e:byts (c::t') = .int .u8 c.toNat::byts t':=rfl
 have hs:=szAll_byts (c::t')
 have hlen:(byts (c::t')).length=(c::t').length:=byts_length _
 rw[e] at hs hlen
 rw[byts_append,e]
 rcases hv with ⟨rfl,rfl⟩|⟨r,hne,rfl,hr,hT⟩
 ·refine⟨st.rows.length,st.rows++[(([]:List PV).length+(PV.int .u8 c.toNat::byts t').length,1)],st.rt++[T_byte],?_,?_,?_,?_⟩
  ·have hcnd:(([]:List PV).length+(PV.int .u8 c.toNat::byts t').length)*(1+1)<=70368744177664/\szAll 1 []=true:=⟨by rw[List.length_nil,hlen]; simpa using hl,rfl⟩
   rw[n_nils,A_full,hs,if_pos rfl,if_pos hcnd]
   rfl
  ·rw[hlen]; simp
  ·unfold RtN at hn; rw[<- hn]; simp
  ·unfold RtN at hn; simp[hn]
 ·refine⟨r,st.rows.set r ((byts s).length+(PV.int .u8 c.toNat::byts t').length,1),st.rt,?_,?_,hT,?_⟩
  ·have hcnd:((byts s).length+(PV.int .u8 c.toNat::byts t').length)*(1+1)<=70368744177664/\st.rows[r]? = some ((byts s).length,1)/\st.rt[r]? = some T_byte:=⟨by rw[hlen,byts_length]; exact hl,by rw[byts_length]; exact hr,hT⟩
   rw[n_own,A_own,hs,if_pos rfl,if_pos hcnd]
  ·have:r<st.rows.length:=(List.getElem?_eq_some_iff.1 hr).1
   rw[List.getElem?_set_self this,hlen,byts_length,List.length_append]
  ·unfold RtN at hn; simp[hn]
theorem wbyte_ok {b:Nat} {s:List UInt8} {c:UInt8} {st:St} (h:Bld b s st) (hl:(s.length+1)*2<=70368744177664) :
  ∃ st',callE efns given f_strings_Builder_WriteByte [.ptr b 0,.int .u8 c.toNat] st=some (.nili,st')/\Bld b (s++[c]) st'/\st'.boxes.length=st.boxes.length/\st'.bt=st.bt:=by
 obtain⟨ht,hn,p,v,hb,hp,hv⟩:=h
 have hcc:=copyCheck_ok given hb hp ht
 have hlt:=box_lt hb
 have hb2:(st.boxes.set b [.ptr b 0,v])[b]? = some [.ptr b 0,v]:=List.getElem?_set_self hlt
 obtain⟨r,rows,rt,ha,hr,hT,hq⟩:=append_byts (t:=[c]) (st:=⟨st.boxes.set b [.ptr b 0,v],st.rows,st.bt,st.rt⟩) hn hv (by simp) hl
 have ha':evAppend 1 1 T_byte v.nm [.int .u8 c.toNat] ⟨st.boxes.set b [.ptr b 0,v],st.rows,st.bt,st.rt⟩=_:=ha
 refine⟨⟨(st.boxes.set b [.ptr b 0,v]).set b [.ptr b 0,.own r (byts (s++[c]))],rows,st.bt,rt⟩,?_,⟨ht,hq,.ptr b 0,.own r (byts (s++[c])),?_,.inr rfl,.inr ⟨r,by simp,rfl,hr,hT⟩⟩,by simp,rfl⟩
 ·rw[callE_fn efns given (c:=e_strings_Builder_WriteByte) rfl rfl]
  simp only[e_strings_Builder_WriteByte,go_sem,hcc,hb2,ha']
 ·exact List.getElem?_set_self (by simpa using hlt)
theorem wstring_ok2 {b:Nat} {s t:List UInt8} {st:St} (h:Bld b s st) (hl:(s.length+t.length)*2<=70368744177664) :
  ∃ st',callE efns given f_strings_Builder_WriteString [.ptr b 0,.str t] st=some (.tuple [.int .i64 t.length,.nili],st')/\Bld b (s++t) st'/\st'.boxes.length=st.boxes.length/\st'.bt=st.bt /\ ∀ i,i≠b->st'.boxes[i]? = st.boxes[i]? := by
 obtain⟨ht,hn,p,v,hb,hp,hv⟩:=h
 have hcc:=copyCheck_ok given hb hp ht
 have hlt:=box_lt hb
 have hb2:(st.boxes.set b [.ptr b 0,v])[b]? = some [.ptr b 0,v]:=List.getElem?_set_self hlt
 by_cases hte:t=[]
 ·subst hte
  have ha:evAppend 1 1 T_byte v [] ⟨st.boxes.set b [.ptr b 0,v],st.rows,st.bt,st.rt⟩=some (v,⟨st.boxes.set b [.ptr b 0,v],st.rows,st.bt,st.rt⟩):=by
   rcases hv with ⟨_,rfl⟩|⟨r,_,rfl,_⟩ <;> rfl
  have hcell:v.cells=[v]/\v.isCell=true:=by
   rcases hv with ⟨_,rfl⟩|⟨r,_,rfl,_⟩ <;> exact⟨rfl,rfl⟩
  refine⟨⟨(st.boxes.set b [.ptr b 0,v]).set b [.ptr b 0,v],st.rows,st.bt,st.rt⟩,?_,⟨ht,hn,.ptr b 0,v,List.getElem?_set_self (by simpa using hlt),.inr rfl,by rw[List.append_nil]; exact hv⟩,by simp,rfl,fun i hi=>by simp[List.getElem?_set_ne (Ne.symm hi)]⟩
  rw[callE_fn efns given (c:=e_strings_Builder_WriteString) rfl rfl]
  simp only[e_strings_Builder_WriteString,go_sem,hcc,hb2,ha]
  rcases hv with ⟨_,rfl⟩|⟨r,_,rfl,_⟩ <;> rfl
 ·obtain⟨r,rows,rt,ha,hr,hT,hq⟩:=append_byts (t:=t) (st:=⟨st.boxes.set b [.ptr b 0,v],st.rows,st.bt,st.rt⟩) hn hv hte hl
  have hne:(byts t).isEmpty=false:=by cases t with
    |nil=>exact absurd rfl hte
    |cons=>rfl
  have ha':evAppend 1 1 T_byte (if (t.map fun b:UInt8=>PV.int .u8 b.toNat).isEmpty=true then v else v.nm) (t.map fun b:UInt8=>PV.int .u8 b.toNat) ⟨st.boxes.set b [.ptr b 0,v],st.rows,st.bt,st.rt⟩=some (.own r (byts (s++t)),⟨st.boxes.set b [.ptr b 0,v],rows,st.bt,rt⟩):=by
   have:(t.map fun b:UInt8=>PV.int .u8 b.toNat)=byts t:=rfl
   rw[this,hne]
   exact ha
  refine⟨⟨(st.boxes.set b [.ptr b 0,v]).set b [.ptr b 0,.own r (byts (s++t))],rows,st.bt,rt⟩,?_,⟨ht,hq,.ptr b 0,.own r (byts (s++t)),?_,.inr rfl,.inr ⟨r,by simp[hte],rfl,hr,hT⟩⟩,by simp,rfl,fun i hi=>by simp[List.getElem?_set_ne (Ne.symm hi)]⟩
  ·rw[callE_fn efns given (c:=e_strings_Builder_WriteString) rfl rfl]
   simp only[e_strings_Builder_WriteString,go_sem,hcc,hb2,ha']
  ·exact List.getElem?_set_self (by simpa using hlt)
theorem bstring_ok {b:Nat} {s:List UInt8} {st:St} (h:Bld b s st) (hl:s.length<=9223372036854775807):callE efns given f_strings_Builder_String [.ptr b 0] st=some (.str s,st):=by
 obtain⟨ht,hn,p,v,hb,hp,hv⟩:=h
 rw[callE_fn efns given (c:=e_strings_Builder_String) rfl rfl]
 rcases hv with ⟨rfl,rfl⟩|⟨r,hne,rfl,hr,hT⟩
 ·simp only[e_strings_Builder_String,go_sem,hb]
 ·have hu:=ustr_at (st:=st) hr hT hl
  have hd:unV .sdata (.own r (byts s))=some (.rptr r (byts s)):=by
   cases s with
   |nil=>exact absurd rfl hne
   |cons c s=>rfl
  have hlen:unV .len (.own r (byts s))=some (.int .i64 s.length):=by
   show some (PV.int .i64 ((byts s).length:Nat))=_
   rw[byts_length]
  have hu':ustrV T_byte (.rptr r (byts s)) (.int .i64 s.length) st=some (.str s,st):=hu
  simp only[e_strings_Builder_String,go_sem,hb,hd,hlen,hu']
end
end Go.Proofs.YthjnlpfibakacaaGreatDoorPe.Tmpf
