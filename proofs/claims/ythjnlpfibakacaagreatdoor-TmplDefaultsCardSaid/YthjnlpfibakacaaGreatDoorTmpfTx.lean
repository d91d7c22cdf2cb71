/- A part of the proof of this folder's statement; it has no condition of its own. -/
import Derived.Test.YthjnlpfibakacaaGreatDoorTmpfTm
import Derived.Test.YthjnlpfibakacaaGreatDoorTmpfBy
import Derived.Test.YthjnlpfibakacaaGreatDoorTmpfLexR
set_option linter.unusedVariables false
set_option linter.unusedSimpArgs false
set_option maxRecDepth 100000
namespace Go.Proofs.YthjnlpfibakacaaGreatDoorPe.Tmpf
open Go Go.Proofs Go.Proofs.YthjnlpfibakacaaGreatDoorPe Go.Proofs.YthjnlpfibakacaaGreatDoorPe.TmpfCode
def vcs (v:Vl):List PV:=[.int .i64 v.k,.int .i64 v.i,.str v.s]
def flatV:List Vl->List PV
 |[]=>[]
 |v::l=>vcs v++flatV l
theorem flatV_len : ∀ l:List Vl,(flatV l).length=l.length*3
 |[]=>rfl
 |v::l=>by simp only[flatV,List.length_append,flatV_len l,vcs,List.length_cons,List.length_nil]; omega
theorem flatV_append : ∀ l m:List Vl,flatV (l++m)=flatV l++flatV m
 |[],m=>rfl
 |v::l,m=>by simp only[List.cons_append,flatV,flatV_append l m,List.append_assoc]
theorem flatV_set : ∀ (l:List Vl) (i:Nat) (v:Vl),i<l.length->(flatV l).take (i*3)++(vcs v++(flatV l).drop (i*3+3))=flatV (l.set i v)
 |[],i,v,h=>by simp at h
 |w::l,0,v,h=>by simp[flatV,vcs]
 |w::l,i+1,v,h=>by
  have ih:=flatV_set l i v (by simpa using h)
  have e:(i+1)*3=i*3+3:=by omega
  rw[List.set_cons_succ,flatV,flatV,<- ih,e]
  simp[vcs]
theorem flatV_cell (l:List Vl):(flatV l).all PV.isCell=true:=by
 induction l with
 |nil=>rfl
 |cons v l ih=>simp only[flatV,List.all_append,ih,Bool.and_true]; rfl
theorem flatV_shut (st:St) (k:Nat) : ∀ l:List Vl,mapO (shutR false st (k+1)) (flatV l)=some (flatV l)
 |[]=>rfl
 |v::l=>by
  simp only[flatV,vcs,List.cons_append,List.nil_append]
  exact mS rfl (mS rfl (mS rfl (flatV_shut st k l)))
theorem chunkV (l:List Vl):chunk 3 l.length (flatV l)=l.map Vl.p:=by
 unfold chunk
 apply List.ext_getElem
 ·simp
 ·intro i h1 h2
  simp only[List.length_map,List.length_range] at h1
  simp only[List.getElem_map,List.getElem_range]
  rw[if_neg (by decide)]
  have key : ∀ (l:List Vl) (i:Nat) (h:i<l.length),(((flatV l).drop (i*3)).take 3)=vcs l[i]:=by
   intro l
   induction l with
   |nil=>intro i h; simp at h
   |cons w l ih =>
    intro i h
    cases i with
    |zero=>simp[flatV,vcs]
    |succ i =>
     have e:(i+1)*3=3+i*3:=by omega
     rw[e,flatV,<- List.drop_drop]
     have:(vcs w++flatV l).drop 3=flatV l:=by simp[vcs]
     rw[this]
     exact ih i (by simpa using h)
  rw[key l i h1]
  rfl
def HsV (acc:List Vl) (out:PV) (bs:List (List PV)) (bt:List TypeId):Prop :=
 (acc=[]/\out = .nils) \/ ∃ b,out = .hs 3 b 0 acc.length/\0<b/\acc≠[]/\bs[b]? = some (flatV acc)/\bt[b]? = some hsT
theorem HsV.more {acc:List Vl} {out:PV} {bs:List (List PV)} {bt:List TypeId} (h:HsV acc out bs bt) (xs:List (List PV)) (ys:List TypeId):HsV acc out (bs++xs) (bt++ys):=by
 rcases h with h|⟨b,h1,h2,h3,h4,h5⟩
 ·exact .inl h
 ·exact .inr ⟨b,h1,h2,h3,by rw[List.getElem?_append_left (List.getElem?_eq_some_iff.1 h4).1]; exact h4,by rw[List.getElem?_append_left (List.getElem?_eq_some_iff.1 h5).1]; exact h5⟩
theorem HsV.push {acc:List Vl} {out:PV} {bs:List (List PV)} {bt:List TypeId} (h:HsV acc out bs bt) (hbt:bt.length=bs.length) (hl:acc.length<=1000000) (h0:0<bs.length) (v:Vl) :
  ∃ out' bs',happendV 3 32 out (.full [.agg (vcs v)]) ⟨bs,[],bt,[]⟩=some (out',⟨bs',[],bt++[hsT],[]⟩)/\HsV (acc++[v]) out' bs' (bt++[hsT])/\bs'.length=bs.length+1/\bs'[0]? = bs[0]? := by
 rcases h with ⟨rfl,rfl⟩|⟨b,rfl,h2,h3,h4,h5⟩
 ·refine⟨_,_,happend_nil rfl (by simp),.inr ⟨bs.length,rfl,h0,by simp,?_,by rw[<- hbt]; simp⟩,by simp,by rw[List.getElem?_append_left h0]⟩
  simp[flatV,cellsL,PV.cells]
 ·have hfl:=flatV_len acc
  have hpos:0<(flatV acc).length:=by
   rw[hfl]
   have:=List.length_pos_iff.2 h3
   omega
  refine⟨_,_,happend_hs (n:=3) (b:=32) (st:=⟨bs,[],bt,[]⟩) h4 rfl (by rw[hfl]; exact Nat.le_refl _) hpos h5 ?_,.inr ⟨bs.length,?_,h0,by simp,?_,by rw[<- hbt]; simp⟩,by simp,?_⟩
  ·simp only[List.length_cons,List.length_nil]; omega
  ·simp
  ·simp only
   rw[List.getElem?_append_right (by simp)]
   simp only[List.length_set,Nat.sub_self,List.getElem?_cons_zero]
   rw[<- hfl,List.take_length,flatV_append]
   simp[flatV,cellsL,PV.cells]
  ·simp only
   rw[List.getElem?_append_left (by simpa using h0),List.getElem?_set_ne (by omega)]
theorem HsV.at_ {acc:List Vl} {out:PV} {bs:List (List PV)} {bt:List TypeId} (h:HsV acc out bs bt) {i:Nat} (hi:i<acc.length) (v:Vl) :
  ∃ b,biV (.idx 3) out (.int .i64 (i:Int))=some (.ptr b (0+i*3))/\storeV 3 (.ptr b (0+i*3)) (.agg (vcs v)) ⟨bs,[],bt,[]⟩=some (.tuple [],⟨bs.set b (flatV (acc.set i v)),[],bt,[]⟩) /\
   HsV (acc.set i v) out (bs.set b (flatV (acc.set i v))) bt/\0<b/\bs[b]? = some (flatV acc)/\i*3+3<=(flatV acc).length/\(flatV acc).take (i*3)++(.int .i64 v.k :: .int .i64 v.i :: .str v.s::(flatV acc).drop (i*3+3))=flatV (acc.set i v):=by
 rcases h with ⟨rfl,rfl⟩|⟨b,rfl,h2,h3,h4,h5⟩
 ·simp at hi
 ·refine⟨b,hs_at hi,?_,.inr ⟨b,by simp,h2,?_,?_,h5⟩,h2,h4,by rw[flatV_len]; omega,flatV_set acc i v hi⟩
  ·simp only[storeV,h4]
   have e:PV.cells (.agg (vcs v))=vcs v:=rfl
   rw[e,if_pos ⟨rfl,by rw[flatV_len]; omega,rfl⟩]
   simp only[Nat.zero_add]
   rw[flatV_set acc i v hi]
  ·intro e
   have:=congrArg List.length e
   simp at this
   exact h3 this
  ·rw[List.getElem?_set_self (List.getElem?_eq_some_iff.1 h4).1]
theorem HsV.clip {acc:List Vl} {out:PV} {bs:List (List PV)} {bt:List TypeId} (h:HsV acc out bs bt) (st:St) :
  ∃ out',callE efns given f_slices_Clip_api_Value_api_Value [out] st=some (out',st)/\(out'=out\/(acc=[]/\out' = .full [])):=by
 have key:Good (fun v st'=>st'=st/\(v=out\/(acc=[]/\v = .full []))) (callE efns given f_slices_Clip_api_Value_api_Value [out] st):=by
  rw[callE_fn efns given (c:=e_slices_Clip_api_Value_api_Value) rfl rfl]
  rcases h with ⟨rfl,rfl⟩|⟨b,rfl,h2,h3,h4,h5⟩
  ·have e:lsubV 3 .nils none (some (.int .i64 0)) (some (.int .i64 0))=some (.full []):=rfl
   simp only[e_slices_Clip_api_Value_api_Value,go_sem,e]
   exact Good.done ⟨rfl,.inr rfl⟩
  ·have e:lsubV 3 (.hs 3 b 0 acc.length) none (some (.int .i64 (acc.length:Int))) (some (.int .i64 (acc.length:Int)))=some (.hs 3 b 0 acc.length):=by
    unfold lsubV
    show hsubV 3 3 b 0 acc.length none (some (.int .i64 (acc.length:Int))) (some (.int .i64 (acc.length:Int)))=_
    unfold hsubV
    simp only[bnd,if_pos (And.intro (Int.natCast_nonneg acc.length) (Int.ofNat_le.2 (Nat.le_refl acc.length))),Int.toNat_natCast]
    simp
   simp only[e_slices_Clip_api_Value_api_Value,go_sem,e]
   exact Good.done ⟨rfl,.inl rfl⟩
 obtain⟨v,st',h1,rfl,h2⟩:=key
 exact⟨v,h1,h2⟩
theorem HsV.shutR {acc:List Vl} {out:PV} {bs:List (List PV)} {bt rt:List TypeId} {rows:List (Nat × Nat)} (h:HsV acc out bs bt) (k:Nat):shutR false ⟨bs,rows,bt,rt⟩ (k+2) out=some (.lst (acc.map Vl.p)):=by
 rcases h with ⟨rfl,rfl⟩|⟨b,rfl,h2,h3,h4,h5⟩
 ·rfl
 ·unfold YthjnlpfibakacaaGreatDoorPe.shutR
  simp only[h4]
  have hfl:=flatV_len acc
  rw[if_pos ⟨by omega,by decide⟩,List.drop_zero,List.take_of_length_le (by omega),flatV_shut]
  simp only[flatV_cell,if_true,chunkV]
end Go.Proofs.YthjnlpfibakacaaGreatDoorPe.Tmpf
set_option linter.unusedVariables false
set_option linter.unusedSimpArgs false
set_option maxRecDepth 100000
namespace Go.Proofs.YthjnlpfibakacaaGreatDoorPe.Tmpf
open Go Go.Proofs Go.Proofs.YthjnlpfibakacaaGreatDoorPe Go.Proofs.YthjnlpfibakacaaGreatDoorPe.TmpfCode
def fillL (slots:List Sl):List (List UInt8)->List Vl->List (List UInt8)->List Vl->Except Int (List Vl)
 |[],_,_,acc=>.ok acc
 |_::_,[],_,_=>.error 1
 |n::ns,v::vs,had,acc=>match placeL n slots with
  |none=>.error 5
  |some i=>if n∈had then .error 6 else fillL slots ns vs (had++[n]) (acc.set i v)
def fillM (t:Tm) (names:List (List UInt8)) (l:List Vl):Except Int (List Vl) :=
 if names.length=l.length then fillL t.slots names l [] (t.slots.map (·.d)) else .error 1
def fillV:Except Int (List Vl)->PV
 |.ok l=>.tuple [.lst (l.map Vl.p),.int .i64 0]
 |.error e=>.tuple [.lst [],.int .i64 e]
theorem sidx_t {l:List (List UInt8)} {s:List UInt8} (hl:l.length<4611686018427387904):tupV (callE efns given) (.call 0 f_slices_Index_string_string) [.lst (l.map .str),.str s]=some (.int .i64 (idxI (idxP (fun e=>PV.same e (.str s)) (l.map .str)))):=by
 refine call_good (f:=f_slices_Index_string_string) rfl ?_
 rw[callE_fn efns given (c:=e_slices_Index_string_string) rfl rfl]
 simp only[e_slices_Index_string_string,go_sem,List.length_map]
 refine Good.for l.length (fun i fr st=>fr=[.lst (l.map .str),.str s,.int .i64 (l.length:Int),.int .i64 (i:Int)]/\st=⟨[],[],[],[]⟩ /\ ∀ x∈(l.map PV.str).take i,PV.same x (.str s)=false) ?_ ?_ ?_
 ·rintro i fr st hi ⟨rfl,rfl,hh⟩ k hk
  have c1:((i:Int)<(l.length:Int))=True:=eq_true (by omega)
  have hat:evIdx 1 (l.map PV.str) (i:Int)=some (.ref [.str l[i]]):=idx_of (e:=.str l[i]) (map_at hi) rfl
  by_cases h:s=l[i]
  ·simp only[b_slices_Index_string_string_0,go_sem,c1,hat,eq_true h]
   refine Good.done ?_
   rw[idxP_drop hh,List.drop_eq_getElem_cons (by simpa using hi),idxP,if_pos (by simp[PV.same,h])]
   simp[idxI]
   rfl
  ·simp only[b_slices_Index_string_string_0,go_sem,c1,hat,eq_false h,wrapN (n:=i) (by omega)]
   refine hk _ _ ⟨rfl,rfl,fun x hx => ?_⟩
   rw[take_succ_at (by simpa using hi),List.mem_append,List.mem_singleton] at hx
   rcases hx with hx|rfl
   ·exact hh x hx
   ·simp only[List.getElem_map,PV.same,decide_eq_false_iff_not]
    exact fun e=>h e.symm
 ·rintro fr st ⟨rfl,rfl,hh⟩ k
  simp only[b_slices_Index_string_string_0,go_sem,Int.lt_irrefl]
  refine Good.done ?_
  rw[idxP_drop hh,List.drop_eq_nil_of_le (by simp)]
  rfl
 ·exact⟨rfl,rfl,by simp⟩
theorem idxP_mem (s:List UInt8) : ∀ l:List (List UInt8),(idxP (fun e=>PV.same e (.str s)) (l.map .str)).isSome=decide (s∈l)
 |[]=>by simp[idxP]
 |x::l=>by
  have ih:=idxP_mem s l
  by_cases h:x=s
  ·subst h; simp[idxP,PV.same]
  ·simp only[List.map_cons,idxP,PV.same,decide_eq_true_eq,if_neg h,Option.isSome_map,ih,List.mem_cons]
   simp[Ne.symm h,fun e:s=x=>h e.symm]
theorem contains_t {l:List (List UInt8)} {s:List UInt8} (hl:l.length<4611686018427387904):tupV (callE efns given) (.call 0 f_slices_Contains_string_string) [.lst (l.map .str),.str s]=some (.bool (decide (s∈l))):=by
 refine call_good (f:=f_slices_Contains_string_string) rfl ?_
 rw[callE_fn efns given (c:=e_slices_Contains_string_string) rfl rfl]
 have h:=sidx_t (s:=s) hl
 rw[<- idxP_mem]
 cases hi:idxP (fun e=>PV.same e (.str s)) (l.map .str) with
 |none =>
  rw[hi] at h
  simp only[idxI] at h
  simp only[e_slices_Contains_string_string,go_sem,h]
  exact Good.done rfl
 |some i =>
  rw[hi] at h
  simp only[idxI] at h
  have c1:((i:Int)>=0)=True:=eq_true (by omega)
  simp only[e_slices_Contains_string_string,go_sem,h,c1]
  exact Good.done rfl
theorem tfill_t (t:Tm) (names:List (List UInt8)) (l:List Vl) (h1:t.slots.length<=1000) (h2:names.length<=1000) (h3:l.length<=1000) :
  tupV (callE efns given) (.call 0 f_tmpl_Template_Fill) [t.p,.lst (names.map .str),.lst (l.map Vl.p)]=some (fillV (fillM t names l)):=by
 refine call_good (f:=f_tmpl_Template_Fill) rfl ?_
 rw[callE_fn efns given (c:=e_tmpl_Template_Fill) rfl rfl]
 unfold fillM
 by_cases hlen:names.length=l.length
 ·have c0:((names.length:Int)=(l.length:Int))=True:=eq_true (by omega)
  rw[if_pos hlen]
  simp only[e_tmpl_Template_Fill,go_sem,Tm.p,List.length_map,c0,ne_eq]
  refine Good.for t.slots.length (fun i fr st => ∃ out bs bt,fr=[.undef,.lst (names.map .str),.lst (l.map Vl.p),.ptr 0 0,out,.undef,.undef,.undef,.lst (t.slots.map Sl.p),.int .i64 (t.slots.length:Int),.int .i64 (i:Int)]++List.replicate 11 .undef /\
   st=⟨bs,[],bt,[]⟩/\HsV ((t.slots.take i).map (·.d)) out bs bt/\bt.length=bs.length/\bs[0]? = some [.str t.name,.lst (t.slots.map Sl.p)]) ?_ ?_ ?_
  ·rintro i fr st hi ⟨out,bs,bt,rfl,rfl,hO,hbt,hb0⟩ k hk
   have c1:((i:Int)<(t.slots.length:Int))=True:=eq_true (by omega)
   have hat:evIdx 4 (t.slots.map Sl.p) (i:Int)=some (.ref t.slots[i].cells):=idx_of (e:=t.slots[i].p) (map_at hi) rfl
   have hO2:=hO.more [t.slots[i].cells] [T_tmpl_Template_Fill_1]
   have h0:0<bs.length:=(List.getElem?_eq_some_iff.1 hb0).1
   obtain⟨out',bs',hap,hO',hbl,hb0'⟩:=hO2.push (by simp[hbt]) (by simp; omega) (by simp) t.slots[i].d
   rw[List.getElem?_append_left h0,hb0] at hb0'
   have hb:tupV (callE efns given) (.bslice 3 [.int .i64 0,.int .i64 0,.str []] 1 [0]) [.agg (vcs t.slots[i].d)]=some (.full [.agg (vcs t.slots[i].d)]):=V_bs1 rfl rfl rfl
   simp only[vcs,Sl.cells] at hap hb hat
   simp only[b_tmpl_Template_Fill_0,go_sem,hat,c1,hb,hap,wrapN (n:=i) (by omega)]
   rw[List.append_assoc] at hO'
   refine hk _ _ ⟨out',bs',_,rfl,rfl,?_,?_,hb0'⟩
   ·rw[take_succ_at hi,List.map_append,List.map_singleton]
    exact hO'
   ·rw[hbl]; simp[hbt]
  ·rintro fr st ⟨out,bs,bt,rfl,rfl,hO,hbt,hb0⟩ k
   simp only[b_tmpl_Template_Fill_0,go_sem,Int.lt_irrefl,List.length_map]
   rw[List.take_length] at hO
   refine Good.for names.length (fun i fr st => ∃ out bs bt acc,fr=[.undef,.lst (names.map .str),.lst (l.map Vl.p),.ptr 0 0,out]++List.replicate 9 .undef++[.lst (names.map .str),.int .i64 (names.length:Int),.int .i64 (i:Int)]++List.replicate 5 .undef /\
    st=⟨bs,[],bt,[]⟩/\HsV acc out bs bt/\bs[0]? = some [.str t.name,.lst (t.slots.map Sl.p)]/\acc.length=t.slots.length /\
    fillL t.slots names l [] (t.slots.map (·.d))=fillL t.slots (names.drop i) (l.drop i) (names.take i) acc) ?_ ?_ ?_
   ·rintro i fr st hi ⟨out,bs,bt,acc,rfl,rfl,hO,hb0,hacc,he⟩ k hk
    have hi':i<l.length:=by omega
    have c1:((i:Int)<(names.length:Int))=True:=eq_true (by omega)
    have hat:evIdx 1 (names.map PV.str) (i:Int)=some (.ref [.str names[i]]):=idx_of (e:=.str names[i]) (map_at hi) rfl
    have hat2:evIdx 3 (l.map Vl.p) (i:Int)=some (.ref (vcs l[i])):=idx_of (e:=l[i].p) (map_at hi') rfl
    have hsl:=tslot_t t names[i] (by omega)
    have hct:=contains_t (l:=names.take i) (s:=names[i]) (by simp; omega)
    have hsub:lsubV 1 (.lst (names.map .str)) none (some (.int .i64 (i:Int))) none=some (.lst ((names.take i).map .str)):=by
     rw[lsub_take rfl (by simp; omega),List.map_take]
    rw[List.drop_eq_getElem_cons hi,List.drop_eq_getElem_cons hi',fillL] at he
    have htk:names.take (i+1)=names.take i++[names[i]]:=take_succ_at hi
    rw[<- htk] at he
    simp only[Tm.p] at hsl
    cases hp:placeL names[i] t.slots with
    |none =>
     rw[hp] at hsl he
     simp only[placeV] at hsl
     simp only[b_tmpl_Template_Fill_1,go_sem,c1,hat,hb0,hsl]
     exact Good.done (by rw[he]; rfl)
    |some j =>
     rw[hp] at hsl he
     simp only[placeV] at hsl
     by_cases hm:names[i]∈names.take i
     ·rw[decide_eq_true hm] at hct
      simp only[if_pos hm] at he
      simp only[b_tmpl_Template_Fill_1,go_sem,c1,hat,hb0,hsl,hsub,hct]
      exact Good.done (by rw[he]; rfl)
     ·rw[decide_eq_false hm] at hct
      simp only[if_neg hm] at he
      have hj:=placeL_lt hp
      obtain⟨b,g1,g2,g3,g4,g5,g6,g7⟩:=hO.at_ (i:=j) (by omega) l[i]
      simp only[vcs] at hat2 g2
      simp only[b_tmpl_Template_Fill_1,go_sem,c1,hat,hat2,hb0,hsl,hsub,hct,g1,g5,eq_true g6,g7,Nat.zero_add,wrapN (n:=i) (by omega)]
      exact hk _ _ ⟨out,_,bt,_,rfl,rfl,g3,by rw[List.getElem?_set_ne (by omega)]; exact hb0,by simpa using hacc,he⟩
   ·rintro fr st ⟨out,bs,bt,acc,rfl,rfl,hO,hb0,hacc,he⟩ k
    rw[List.drop_eq_nil_of_le (Nat.le_refl _)] at he
    obtain⟨out',hc,ho⟩:=hO.clip ⟨bs,[],bt,[]⟩
    simp only[b_tmpl_Template_Fill_1,go_sem,Int.lt_irrefl,hc]
    refine Good.done ?_
    rw[he]
    rcases ho with rfl|⟨rfl,rfl⟩
    ·exact ret_tup (mS (hO.shutR _) (mS rfl mN))
    ·exact ret_tup (mS rfl (mS rfl mN))
   ·exact⟨out,bs,bt,_,rfl,rfl,hO,hb0,by simp,rfl⟩
  ·exact⟨.nils,_,_,rfl,rfl,.inl ⟨rfl,rfl⟩,rfl,rfl⟩
 ·have c0:((names.length:Int)=(l.length:Int))=False:=eq_false (by omega)
  rw[if_neg hlen]
  simp only[e_tmpl_Template_Fill,go_sem,Tm.p,List.length_map,c0,ne_eq]
  exact Good.done rfl
end Go.Proofs.YthjnlpfibakacaaGreatDoorPe.Tmpf
set_option linter.unusedVariables false
set_option linter.unusedSimpArgs false
set_option maxRecDepth 100000
namespace Go.Proofs.YthjnlpfibakacaaGreatDoorPe.Tmpf
open Go Go.Proofs Go.Proofs.YthjnlpfibakacaaGreatDoorPe Go.Proofs.YthjnlpfibakacaaGreatDoorPe.TmpfCode
end Go.Proofs.YthjnlpfibakacaaGreatDoorPe.Tmpf
set_option linter.unusedVariables false
set_option linter.unusedSimpArgs false
set_option maxRecDepth 100000
namespace Go.Proofs.YthjnlpfibakacaaGreatDoorPe.Tmpf
open Go Go.Proofs Go.Proofs.YthjnlpfibakacaaGreatDoorPe Go.Proofs.YthjnlpfibakacaaGreatDoorPe.TmpfCode
end Go.Proofs.YthjnlpfibakacaaGreatDoorPe.Tmpf
set_option linter.unusedVariables false
set_option linter.unusedSimpArgs false
set_option maxRecDepth 100000
namespace Go.Proofs.YthjnlpfibakacaaGreatDoorPe.Tmpf
open Go Go.Proofs Go.Proofs.YthjnlpfibakacaaGreatDoorPe Go.Proofs.YthjnlpfibakacaaGreatDoorPe.TmpfCode
theorem OkL.len : ∀ {u t:List Sl},OkL t u->t.length<=16->t.length+u.length<=16
 |[],t,_,ht=>by simpa using ht
 |s::u,t,⟨_,h2,h3⟩,_=>by
  have h:=(mayM_len h2).1
  have:=OkL.len h3 (by simp; omega)
  simp at this ⊢
  omega
theorem Tm.Ok.len {t:Tm} (h:t.Ok):t.slots.length<=16:=by simpa using OkL.len h.slots (by simp)
end Go.Proofs.YthjnlpfibakacaaGreatDoorPe.Tmpf
set_option linter.unusedVariables false
set_option linter.unusedSimpArgs false
set_option maxRecDepth 100000
namespace Go.Proofs.YthjnlpfibakacaaGreatDoorPe.Tmpf
open Go Go.Proofs Go.Proofs.YthjnlpfibakacaaGreatDoorPe Go.Proofs.YthjnlpfibakacaaGreatDoorPe.TmpfCode
def nmD (i:Nat):List UInt8:=[UInt8.ofNat (97+i)]
theorem nmD_inj {i j:Nat} (hi:i<16) (hj:j<16) (h:nmD i=nmD j):i=j:=by
 unfold nmD at h
 have:=congrArg UInt8.toNat (List.cons.inj h).1
 rw[UInt8.toNat_ofNat',UInt8.toNat_ofNat'] at this
 omega
def slotsD:Nat->List Vl->List Sl
 |_,[]=>[]
 |i,v::l=>⟨nmD i,v⟩::slotsD (i+1) l
theorem slotsD_len : ∀ (i:Nat) (l:List Vl),(slotsD i l).length=l.length
 |_,[]=>rfl
 |i,v::l=>by simp[slotsD,slotsD_len (i+1) l]
theorem slotsD_at : ∀ (i:Nat) (l:List Vl) (k:Nat) (h:k<l.length),(slotsD i l)[k]? = some ⟨nmD (i+k),l[k]⟩
 |i,[],k,h=>by simp at h
 |i,v::l,0,h=>by simp[slotsD]
 |i,v::l,k+1,h=>by
  have:=slotsD_at (i+1) l k (by simpa using h)
  simp only[slotsD,List.getElem?_cons_succ,this,List.getElem_cons_succ]
  rw[show i+1+k=i+(k+1) from by omega]
theorem slotsD_d : ∀ (i:Nat) (l:List Vl),(slotsD i l).map (·.d)=l
 |_,[]=>rfl
 |i,v::l=>by simp[slotsD,slotsD_d (i+1) l]
theorem slotsD_snoc : ∀ (i:Nat) (l:List Vl) (v:Vl),slotsD i (l++[v])=slotsD i l++[⟨nmD (i+l.length),v⟩]
 |i,[],v=>by simp[slotsD]
 |i,w::l,v=>by
  simp only[List.cons_append,slotsD,slotsD_snoc (i+1) l v,List.length_cons]
  rw[show i+1+l.length=i+(l.length+1) from by omega]
theorem place_at : ∀ (i:Nat) (l:List Vl) (k:Nat),k<l.length->i+l.length<=16->placeL (nmD (i+k)) (slotsD i l)=some k
 |i,[],k,h,_=>by simp at h
 |i,v::l,0,h,_=>by simp[slotsD,placeL]
 |i,v::l,k+1,h,hl=>by
  have ih:=place_at (i+1) l k (by simpa using h) (by simp at hl; omega)
  rw[show i+1+k=i+(k+1) from by omega] at ih
  simp only[slotsD,placeL]
  rw[if_neg,ih]
  ·rfl
  ·intro e
   simp only[List.length_cons] at h hl
   have:=nmD_inj (by omega) (by omega) e
   omega
def turnD (len t j:Nat):Nat:=(j+t) % len
theorem turnD_inj {len t i j:Nat} (hi:i<len) (hj:j<len) (h:turnD len t i=turnD len t j):i=j:=by
 unfold turnD at h
 have h1:(i+t) % len=(j+t) % len:=h
 rcases Nat.lt_or_ge i j with hij|hij
 ·have:(j+t-(i+t)) % len=0:=Nat.sub_mod_eq_zero_of_mod_eq h1.symm
  rw[show j+t-(i+t)=j-i from by omega,Nat.mod_eq_of_lt (by omega)] at this
  omega
 ·have:(i+t-(j+t)) % len=0:=Nat.sub_mod_eq_zero_of_mod_eq h1
  rw[show i+t-(j+t)=i-j from by omega,Nat.mod_eq_of_lt (by omega)] at this
  omega
def intV (k:Nat):Vl:=⟨1,(k:Int),[]⟩
def setD (len t n i:Nat):Bool:=(List.range n).any fun j=>decide (turnD len t j=i)
def accD (l:List Vl) (t n:Nat):List Vl:=l.mapIdx fun i v=>if setD l.length t n i=true then intV i else v
theorem accD_len (l:List Vl) (t n:Nat):(accD l t n).length=l.length:=by simp[accD]
theorem accD_0 (l:List Vl) (t:Nat):accD l t 0=l:=by
 apply List.ext_getElem?
 intro i
 simp[accD,setD]
theorem accD_succ {l:List Vl} {t n:Nat}:accD l t (n+1)=(accD l t n).set (turnD l.length t n) (intV (turnD l.length t n)):=by
 apply List.ext_getElem
 ·simp[accD]
 ·intro i h1 h2
  simp only[accD_len] at h1
  rw[List.getElem_set]
  simp only[accD,List.getElem_mapIdx]
  have hs:setD l.length t (n+1) i=(setD l.length t n i||decide (turnD l.length t n=i)):=by
   simp only[setD,List.range_succ,List.any_append,List.any_cons,List.any_nil,Bool.or_false]
  rw[hs]
  by_cases h:turnD l.length t n=i
  ·subst h; simp
  ·simp[h]
def namesD (len t n:Nat):List (List UInt8):=(List.range n).map fun j=>nmD (turnD len t j)
def valsD (len t n:Nat):List Vl:=(List.range n).map fun j=>intV (turnD len t j)
theorem fillD {l:List Vl} {t n:Nat} (h0:0<l.length) (hl:l.length<=16) (hn:n<=l.length) : ∀ d j,n-j=d->j<=n->fillL (slotsD 0 l) ((namesD l.length t n).drop j) ((valsD l.length t n).drop j) ((namesD l.length t n).take j) (accD l t j) = .ok (accD l t n)
 |0,j,hd,hj=>by
  have:j=n:=by omega
  subst this
  rw[List.drop_eq_nil_of_le (by simp[namesD])]
  rfl
 |d+1,j,hd,hj=>by
  have hjn:j<(namesD l.length t n).length:=by simp[namesD]; omega
  have hjv:j<(valsD l.length t n).length:=by simp[valsD]; omega
  have e1:(namesD l.length t n)[j]=nmD (turnD l.length t j):=by simp[namesD]
  have e2:(valsD l.length t n)[j]=intV (turnD l.length t j):=by simp[valsD]
  have ht:turnD l.length t j<l.length:=Nat.mod_lt _ h0
  have hp:placeL (nmD (turnD l.length t j)) (slotsD 0 l)=some (turnD l.length t j):=by
   have:=place_at 0 l (turnD l.length t j) ht (by omega)
   rwa [Nat.zero_add] at this
  have hno:nmD (turnD l.length t j) ∉ (namesD l.length t n).take j:=by
   intro hm
   obtain⟨i,hi,hh⟩:=List.mem_take_iff_getElem.1 hm
   simp only[namesD,List.length_map,List.length_range] at hi
   have e3:(namesD l.length t n)[i]'(by simp[namesD]; omega)=nmD (turnD l.length t i):=by simp[namesD]
   rw[e3] at hh
   have hti:turnD l.length t i<l.length:=Nat.mod_lt _ h0
   have:=turnD_inj (by omega) (by omega) (nmD_inj (by omega) (by omega) hh)
   omega
  rw[List.drop_eq_getElem_cons hjn,List.drop_eq_getElem_cons hjv,e1,e2,fillL,hp]
  simp only[if_neg hno]
  rw[<- accD_succ,<- e1,<- take_succ_at hjn]
  exact fillD h0 hl hn d (j+1) (by omega) (by omega)
theorem fillM_D {l:List Vl} {t n:Nat} (s:List UInt8) (h0:0<l.length) (hl:l.length<=16) (hn:n<=l.length):fillM ⟨s,slotsD 0 l⟩ (namesD l.length t n) (valsD l.length t n) = .ok (accD l t n):=by
 unfold fillM
 rw[if_pos (by simp[namesD,valsD])]
 have:=fillD (t:=t) h0 hl hn n 0 (by omega) (Nat.zero_le _)
 rw[accD_0,List.drop_zero,List.drop_zero,List.take_zero] at this
 simp only[slotsD_d]
 exact this
end Go.Proofs.YthjnlpfibakacaaGreatDoorPe.Tmpf
set_option linter.unusedVariables false
set_option linter.unusedSimpArgs false
set_option maxRecDepth 100000
namespace Go.Proofs.YthjnlpfibakacaaGreatDoorPe.Tmpf
open Go Go.Proofs Go.Proofs.YthjnlpfibakacaaGreatDoorPe Go.Proofs.YthjnlpfibakacaaGreatDoorPe.TmpfCode
theorem turn_mod {len t j:Nat} (h0:0<len):((j:Int)+(t:Int)).tmod (len:Int)=((turnD len t j:Nat):Int):=by
 unfold turnD
 rw[<- Int.natCast_add,Int.tmod_eq_emod_of_nonneg (Int.natCast_nonneg _)]
 rfl
theorem evRem {a b:Int} {k:IntKind} (h:b≠0):biV (.bin .rem) (.int k a) (.int k b)=some (.int k (a.tmod b)):=by
 simp only[biV,evBin,if_true,if_neg h]
theorem w8_lt {i:Nat} (h:i<24):IntKind.u8.wrap (IntKind.i64.wrap (97+(i:Int)))=((97+i:Nat):Int):=by
 have h1:IntKind.i64.wrap (97+(i:Int))=97+(i:Int):=by rw[IntKind.wrap_i64]; omega
 rw[h1,IntKind.wrap_u8]
 omega
theorem defaults_law (l:List Vl) (t m:Nat) (ht:t<=255) (hm:m<=255) (hl : ∀ v∈l,I64 v.k/\I64 v.i/\v.s.length<=9223372036854775807) :
  IsTrue (callE efns given f_law9_TmplDefaults [.lst (l.map Vl.p),.int .u8 (t:Int),.int .u8 (m:Int)] ⟨[],[],[],[]⟩):=by
 rw[callE_fn efns given (c:=e_law9_TmplDefaults) rfl rfl]
 have hk:=known_t
 by_cases h0:l.length=0
 ·have hc:((l.length:Int)=0)=True:=eq_true (by omega)
  simp only[e_law9_TmplDefaults,go_sem,hk,List.length_map,hc]
  exact Good.done rfl
 have hc:((l.length:Int)=0)=False:=eq_false (by omega)
 by_cases h16:l.length>16
 ·have hc1:((l.length:Int)>16)=True:=eq_true (by omega)
  simp only[e_law9_TmplDefaults,go_sem,hk,List.length_map,hc,hc1]
  exact Good.done rfl
 have hc1:((l.length:Int)>16)=False:=eq_false (by omega)
 simp only[e_law9_TmplDefaults,go_sem,hk,List.length_map,hc,hc1]
 refine Good.for l.length (fun i fr st => ∃ out rows bt rt,fr=[.lst (l.map Vl.p),.int .u8 (t:Int),.int .u8 (m:Int),.ptr 0 0,.int .i64 (i:Int)]++List.replicate 15 .undef /\
  st=⟨[[.str [116],out]],rows,bt,rt⟩/\OutV 4 T_law9_TmplDefaults_0 ((slotsD 0 (l.take i)).map Sl.p) out rows rt/\rt.length=rows.length) ?_ ?_ ?_
 ·rintro i fr st hi ⟨out,rows,bt,rt,rfl,rfl,hO,hr⟩ k hk
  have c1:((i:Int)<(l.length:Int))=True:=eq_true (by omega)
  have hat:evIdx 3 (l.map Vl.p) (i:Int)=some (.ref (vcs l[i])):=idx_of (e:=l[i].p) (map_at hi) rfl
  have hrt:=rightM_t l[i] (hl l[i] (List.getElem_mem hi)).2.2
  have hlen:((slotsD 0 (l.take i)).map Sl.p).length=i:=by rw[List.length_map,slotsD_len,List.length_take]; omega
  obtain⟨out',rows',rt',ap,hO',hr',_⟩:=hO.app1 (b:=48) hr (e:=(⟨nmD i,l[i]⟩:Sl).p) rfl (by omega)
  have hsn:(slotsD 0 (l.take (i+1))).map Sl.p=(slotsD 0 (l.take i)).map Sl.p++[(⟨nmD i,l[i]⟩:Sl).p]:=by
   rw[take_succ_at hi,slotsD_snoc,List.map_append,List.map_singleton,Nat.zero_add,List.length_take,Nat.min_eq_left (by omega)]
  have w8:IntKind.u8.wrap (IntKind.i64.wrap (97+(i:Int)))=((97+i:Nat):Int):=w8_lt (by omega)
  have hb:tupV (callE efns given) (.bslice 4 [.str [],.int .i64 0,.int .i64 0,.str []] 1 [0]) [(⟨nmD i,l[i]⟩:Sl).p]=some (.full [(⟨nmD i,l[i]⟩:Sl).p]):=V_bs1 rfl rfl rfl
  rw[hsn] at hk
  generalize l[i]=v at *
  simp only[vcs] at hat
  simp only[Vl.p] at hrt
  simp only[Sl.p,nmD] at ap hb
  cases hb3:rightM v with
  |false =>
   rw[hb3] at hrt
   simp only[b_law9_TmplDefaults_0,go_sem,List.length_map,c1,hat,hrt]
   exact Good.done rfl
  |true =>
   rw[hb3] at hrt
   simp only[b_law9_TmplDefaults_0,go_sem,List.length_map,c1,hat,hrt,w8,Int.toNat_natCast,hb,ap,hO'.cells,hO'.cell,wrapN (n:=i) (by omega)]
   exact hk _ _ ⟨out',rows',_,rt',rfl,rfl,hO',hr'⟩
 ·rintro fr st ⟨out,rows,bt,rt,rfl,rfl,hO,hr⟩ k
  rw[List.take_length] at hO
  have hlp:0<l.length:=by omega
  have hmm:((m:Int)).tmod ((l.length:Int)+1)=((m % (l.length+1):Nat):Int):=by
   rw[Int.tmod_eq_emod_of_nonneg (Int.natCast_nonneg _)]
   rfl
  have wm:IntKind.i64.wrap (m:Int)=(m:Int):=by rw[IntKind.wrap_i64]; omega
  have wt:IntKind.i64.wrap (t:Int)=(t:Int):=by rw[IntKind.wrap_i64]; omega
  have wl:IntKind.i64.wrap ((l.length:Int)+1)=(l.length:Int)+1:=by rw[IntKind.wrap_i64]; omega
  have hn:m % (l.length+1)<=l.length:=by have:=Nat.mod_lt m (show 0<l.length+1 by omega); omega
  have hrem:=evRem (a:=(m:Int)) (k:=.i64) (show ((l.length:Int)+1)≠0 by omega)
  rw[hmm] at hrem
  simp only[b_law9_TmplDefaults_0,go_sem,List.length_map,Int.lt_irrefl,wm,wl,hrem]
  generalize m % (l.length+1)=n at hn
  refine Good.for n (fun i fr st => ∃ o1 o2 rows rt,fr=[.lst (l.map Vl.p),.int .u8 (t:Int),.undef,.ptr 0 0,.undef,.int .i64 (n:Int),o1,o2,.int .i64 (i:Int)]++List.replicate 11 .undef /\
   st=⟨[[.str [116],out]],rows,bt,rt⟩/\OutV 1 T_law9_TmplDefaults_1 ((namesD l.length t i).map PV.str) o1 rows rt/\OutV 3 T_law9_TmplDefaults_2 ((valsD l.length t i).map Vl.p) o2 rows rt/\Unlike o1 o2/\rt.length=rows.length) ?_ ?_ ?_
  ·rintro i fr st hi ⟨o1,o2,rows,rt,rfl,rfl,hO1,hO2,hun,hr⟩ k hk
   have c1:((i:Int)<(n:Int))=True:=eq_true (by omega)
   have htl:turnD l.length t i<l.length:=Nat.mod_lt _ hlp
   have wi:IntKind.i64.wrap ((i:Int)+(t:Int))=(i:Int)+(t:Int):=by rw[IntKind.wrap_i64]; omega
   have hrem2:=evRem (a:=(i:Int)+(t:Int)) (b:=(l.length:Int)) (k:=.i64) (by omega)
   rw[turn_mod hlp] at hrem2
   have hidx:=hO.idx (m:=4) (k:=.i64) (i:=turnD l.length t i) (by rw[List.length_map,slotsD_len]; exact htl)
   have hat:evIdx 4 ((slotsD 0 l).map Sl.p) (turnD l.length t i:Int)=some (.ref (⟨nmD (turnD l.length t i),l[turnD l.length t i]⟩:Sl).cells):=by
    refine idx_of (e:=(⟨nmD (turnD l.length t i),l[turnD l.length t i]⟩:Sl).p) ?_ rfl
    rw[List.getElem?_map,slotsD_at 0 l _ htl,Nat.zero_add]
    rfl
   rw[hat] at hidx
   have l1:((namesD l.length t i).map PV.str).length=i:=by simp[namesD]
   have l2:((valsD l.length t i).map Vl.p).length=i:=by simp[valsD]
   have n1:(namesD l.length t (i+1)).map PV.str=(namesD l.length t i).map PV.str++[.str (nmD (turnD l.length t i))]:=by simp[namesD,List.range_succ]
   have n2:(valsD l.length t (i+1)).map Vl.p=(valsD l.length t i).map Vl.p++[(intV (turnD l.length t i)).p]:=by simp[valsD,List.range_succ]
   rw[n1,n2] at hk
   obtain⟨r1,rows1,rt1,ap1,hO1',hr1,_,keep1⟩:=hO1.app1o (b:=16) hr (e:=.str (nmD (turnD l.length t i))) rfl (by omega)
   obtain⟨hO2',hun2⟩:=keep1 _ _ _ _ hO2 hun
   obtain⟨r2,rows2,rt2,ap2,hO2'',hr2,_,keep2⟩:=hO2'.app1o (b:=32) hr1 (e:=(intV (turnD l.length t i)).p) rfl (by omega)
   obtain⟨hO1'',hun3⟩:=keep2 _ _ _ _ hO1' hun2.symm
   have hint:=rint_t (given:=given) (i:=(turnD l.length t i:Int))
   have hb1:tupV (callE efns given) (.bslice 1 [.str []] 1 [0]) [.str (nmD (turnD l.length t i))]=some (.full [.str (nmD (turnD l.length t i))]):=V_bs1 rfl rfl rfl
   have hb2:tupV (callE efns given) (.bslice 3 [.int .i64 0,.int .i64 0,.str []] 1 [0]) [(intV (turnD l.length t i)).p]=some (.full [(intV (turnD l.length t i)).p]):=V_bs1 rfl rfl rfl
   simp only[Vl.p,intV] at hint hb2 ap2
   simp only[Sl.cells] at hidx
   simp only[b_law9_TmplDefaults_1,go_sem,List.length_map,c1,wt,wi,hrem2,hidx,hb1,ap1,hint,hb2,ap2,wrapN (n:=i) (by omega)]
   exact hk _ _ ⟨_,_,rows2,rt2,rfl,rfl,hO1'',hO2'',hun3.symm,hr2⟩
  ·rintro fr st ⟨o1,o2,rows,rt,rfl,rfl,hO1,hO2,hun,hr⟩ k
   have hf:=tfill_t ⟨[116],slotsD 0 l⟩ (namesD l.length t n) (valsD l.length t n) (by simp only[slotsD_len]; omega) (by simp[namesD]; omega) (by simp[valsD]; omega)
   rw[fillM_D [116] hlp (by omega) hn] at hf
   have hf2:tupV (callE efns given) (.call 0 f_tmpl_Template_Fill) [.agg [.str [116],out],o1,o2]=some (fillV (.ok (accD l t n))):=by
    rw[<- hf]
    exact tup_shut (by rw[argF_0,show mapO (shutA shutN) [PV.agg [.str [116],out],o1,o2]=some [.agg [.str [116],.lst ((slotsD 0 l).map Sl.p)],.lst ((namesD l.length t n).map .str),.lst ((valsD l.length t n).map Vl.p)] from mS (shutA_agg (mS rfl (mS (hO.shutA _) mN))) (mS (hO1.shutA _) (mS (hO2.shutA _) mN))]; rfl)
   simp only[fillV] at hf2
   simp only[b_law9_TmplDefaults_1,go_sem,List.length_map,Int.lt_irrefl,hf2,accD_len,ne_eq]
   refine Good.for l.length (fun i fr st'=>fr=[.lst (l.map Vl.p),.int .u8 (t:Int),.undef,.undef,.undef,.int .i64 (n:Int),.undef,.undef,.undef,.lst ((accD l t n).map Vl.p),.int .i64 (i:Int)]++List.replicate 9 .undef) ?_ ?_ ?_
   ·rintro i fr st' hi rfl k hk
    have c1:((i:Int)<(l.length:Int))=True:=eq_true (by omega)
    simp only[b_law9_TmplDefaults_3,go_sem,List.length_map,c1]
    refine Good.for n (fun j fr st''=>fr=[.lst (l.map Vl.p),.int .u8 (t:Int),.undef,.undef,.undef,.int .i64 (n:Int),.undef,.undef,.undef,.lst ((accD l t n).map Vl.p),.int .i64 (i:Int),.bool (setD l.length t j i),.int .i64 (j:Int)]++List.replicate 7 .undef) ?_ ?_ ?_
    ·rintro j fr st'' hj rfl k' hk'
     have c2:((j:Int)<(n:Int))=True:=eq_true (by omega)
     have wj:IntKind.i64.wrap ((j:Int)+(t:Int))=(j:Int)+(t:Int):=by rw[IntKind.wrap_i64]; omega
     have hrem2:=evRem (a:=(j:Int)+(t:Int)) (b:=(l.length:Int)) (k:=.i64) (by omega)
     rw[turn_mod hlp] at hrem2
     have hs:setD l.length t (j+1) i=(setD l.length t j i||decide (turnD l.length t j=i)):=by
      simp only[setD,List.range_succ,List.any_append,List.any_cons,List.any_nil,Bool.or_false]
     have hd:decide ((turnD l.length t j:Int)=(i:Int))=decide (turnD l.length t j=i):=by
      by_cases h:turnD l.length t j=i
      ·simp[h]
      ·rw[decide_eq_false h,decide_eq_false (by omega)]
     rw[hs] at hk'
     generalize setD l.length t j i=q at hk' ⊢
     cases q with
     |true =>
      rw[Bool.true_or] at hk'
      simp only[b_law9_TmplDefaults_2,go_sem,List.length_map,c2,wrapN (n:=j) (by omega)]
      exact hk' _ _ rfl
     |false =>
      rw[Bool.false_or,<- hd] at hk'
      simp only[b_law9_TmplDefaults_2,go_sem,List.length_map,c2,wt,wj,hrem2,wrapN (n:=j) (by omega)]
      exact hk' _ _ rfl
    ·rintro fr st'' rfl k'
     simp only[b_law9_TmplDefaults_2,go_sem,Int.lt_irrefl]
     have hat1:evIdx 3 ((accD l t n).map Vl.p) (i:Int)=some (.ref (vcs (if setD l.length t n i=true then intV i else l[i]))):=by
      refine idx_of (e:=(if setD l.length t n i=true then intV i else l[i]).p) ?_ rfl
      rw[List.getElem?_map,List.getElem?_eq_getElem (by rw[accD_len]; exact hi)]
      simp[accD]
     have hat2:evIdx 3 (l.map Vl.p) (i:Int)=some (.ref (vcs l[i])):=idx_of (e:=l[i].p) (map_at hi) rfl
     have hint:=rint_t (given:=given) (i:=(i:Int))
     have hs1:=rvsame_t (intV i) (intV i)
     have hs2:=rvsame_t l[i] l[i]
     rw[decide_eq_true rfl] at hs1 hs2
     cases hset:setD l.length t n i with
     |true =>
      rw[hset] at hat1
      simp only[if_true,vcs,intV] at hat1
      simp only[Vl.p,intV] at hs1 hint
      simp only[go_sem,hat1,hint,hs1,wrapN (n:=i) (by omega)]
      exact hk _ _ rfl
     |false =>
      rw[hset] at hat1
      simp only[Bool.false_eq_true,if_false,vcs] at hat1 hat2
      simp only[Vl.p] at hs2
      simp only[go_sem,hat1,hat2,hs2,wrapN (n:=i) (by omega)]
      exact hk _ _ rfl
    ·rfl
   ·rintro fr st' rfl k
    simp only[b_law9_TmplDefaults_3,go_sem,List.length_map,Int.lt_irrefl]
    exact Good.done rfl
   ·rfl
  ·exact⟨.nils,.nils,rows,rt,rfl,rfl,.nils,.nils,Unlike.nils,hr⟩
 ·exact⟨.nils,[],_,[],rfl,rfl,.nils,rfl⟩
end Go.Proofs.YthjnlpfibakacaaGreatDoorPe.Tmpf
