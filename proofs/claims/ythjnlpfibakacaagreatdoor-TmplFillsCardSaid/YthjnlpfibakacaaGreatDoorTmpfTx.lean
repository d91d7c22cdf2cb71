/- A part of the proof of this folder's statement; it has no condition of its own. -/
import Derived.Test.YthjnlpfibakacaaGreatDoorTmpfTm
import Derived.Test.YthjnlpfibakacaaGreatDoorTmpfBy
import Derived.Test.YthjnlpfibakacaaGreatDoorTmpfLexR
set_option linter.unusedVariables false
set_option linter.unusedSimpArgs false
set_option maxRecDepth 100000
namespace Go.Proofs.YthjnlpfibakacaaGreatDoorPe.Tmpf
open Go Go.Proofs Go.Proofs.YthjnlpfibakacaaGreatDoorPe Go.Proofs.YthjnlpfibakacaaGreatDoorPe.TmpfCode
def vcs (v:Vl):List PV:=[.int .i64 v.k,.int .i64 v.i,.str v.s]
def flatV:List Vl->List PV
 |[]=>[]
 |v::l=>vcs v++flatV l
theorem flatV_len : ∀ l:List Vl,(flatV l).length=l.length*3
 |[]=>rfl
 |v::l=>by simp only[flatV,List.length_append,flatV_len l,vcs,List.length_cons,List.length_nil]; omega
theorem flatV_append : ∀ l m:List Vl,flatV (l++m)=flatV l++flatV m
 |[],m=>rfl
 |v::l,m=>by simp only[List.cons_append,flatV,flatV_append l m,List.append_assoc]
theorem flatV_set : ∀ (l:List Vl) (i:Nat) (v:Vl),i<l.length->(flatV l).take (i*3)++(vcs v++(flatV l).drop (i*3+3))=flatV (l.set i v)
 |[],i,v,h=>by simp at h
 |w::l,0,v,h=>by simp[flatV,vcs]
 |w::l,i+1,v,h=>by
  have ih:=flatV_set l i v (by simpa using h)
  have e:(i+1)*3=i*3+3:=by omega
  rw[List.set_cons_succ,flatV,flatV,<- ih,e]
  simp[vcs]
theorem flatV_cell (l:List Vl):(flatV l).all PV.isCell=true:=by
 induction l with
 |nil=>rfl
 |cons v l ih=>simp only[flatV,List.all_append,ih,Bool.and_true]; rfl
theorem flatV_shut (st:St) (k:Nat) : ∀ l:List Vl,mapO (shutR false st (k+1)) (flatV l)=some (flatV l)
 |[]=>rfl
 |v::l=>by
  simp only[flatV,vcs,List.cons_append,List.nil_append]
  exact mS rfl (mS rfl (mS rfl (flatV_shut st k l)))
theorem chunkV (l:List Vl):chunk 3 l.length (flatV l)=l.map Vl.p:=by
 unfold chunk
 apply List.ext_getElem
 ·simp
 ·intro i h1 h2
  simp only[List.length_map,List.length_range] at h1
  simp only[List.getElem_map,List.getElem_range]
  rw[if_neg (by decide)]
  have key : ∀ (l:List Vl) (i:Nat) (h:i<l.length),(((flatV l).drop (i*3)).take 3)=vcs l[i]:=by
   intro l
   induction l with
   |nil=>intro i h; simp at h
   |cons w l ih =>
    intro i h
    cases i with
    |zero=>simp[flatV,vcs]
    |succ i =>
     have e:(i+1)*3=3+i*3:=by omega
     rw[e,flatV,<- List.drop_drop]
     have:(vcs w++flatV l).drop 3=flatV l:=by simp[vcs]
     rw[this]
     exact ih i (by simpa using h)
  rw[key l i h1]
  rfl
def HsV (acc:List Vl) (out:PV) (bs:List (List PV)) (bt:List TypeId):Prop :=
 (acc=[]/\out = .nils) \/ ∃ b,out = .hs 3 b 0 acc.length/\0<b/\acc≠[]/\bs[b]? = some (flatV acc)/\bt[b]? = some hsT
theorem HsV.more {acc:List Vl} {out:PV} {bs:List (List PV)} {bt:List TypeId} (h:HsV acc out bs bt) (xs:List (List PV)) (ys:List TypeId):HsV acc out (bs++xs) (bt++ys):=by
 rcases h with h|⟨b,h1,h2,h3,h4,h5⟩
 ·exact .inl h
 ·exact .inr ⟨b,h1,h2,h3,by rw[List.getElem?_append_left (List.getElem?_eq_some_iff.1 h4).1]; exact h4,by rw[List.getElem?_append_left (List.getElem?_eq_some_iff.1 h5).1]; exact h5⟩
theorem HsV.push {acc:List Vl} {out:PV} {bs:List (List PV)} {bt:List TypeId} (h:HsV acc out bs bt) (hbt:bt.length=bs.length) (hl:acc.length<=1000000) (h0:0<bs.length) (v:Vl) :
  ∃ out' bs',happendV 3 32 out (.full [.agg (vcs v)]) ⟨bs,[],bt,[]⟩=some (out',⟨bs',[],bt++[hsT],[]⟩)/\HsV (acc++[v]) out' bs' (bt++[hsT])/\bs'.length=bs.length+1/\bs'[0]? = bs[0]? := by
 rcases h with ⟨rfl,rfl⟩|⟨b,rfl,h2,h3,h4,h5⟩
 ·refine⟨_,_,happend_nil rfl (by simp),.inr ⟨bs.length,rfl,h0,by simp,?_,by rw[<- hbt]; simp⟩,by simp,by rw[List.getElem?_append_left h0]⟩
  simp[flatV,cellsL,PV.cells]
 ·have hfl:=flatV_len acc
  have hpos:0<(flatV acc).length:=by
   rw[hfl]
   have:=List.length_pos_iff.2 h3
   omega
  refine⟨_,_,happend_hs (n:=3) (b:=32) (st:=⟨bs,[],bt,[]⟩) h4 rfl (by rw[hfl]; exact Nat.le_refl _) hpos h5 ?_,.inr ⟨bs.length,?_,h0,by simp,?_,by rw[<- hbt]; simp⟩,by simp,?_⟩
  ·simp only[List.length_cons,List.length_nil]; omega
  ·simp
  ·simp only
   rw[List.getElem?_append_right (by simp)]
   simp only[List.length_set,Nat.sub_self,List.getElem?_cons_zero]
   rw[<- hfl,List.take_length,flatV_append]
   simp[flatV,cellsL,PV.cells]
  ·simp only
   rw[List.getElem?_append_left (by simpa using h0),List.getElem?_set_ne (by omega)]
theorem HsV.at_ {acc:List Vl} {out:PV} {bs:List (List PV)} {bt:List TypeId} (h:HsV acc out bs bt) {i:Nat} (hi:i<acc.length) (v:Vl) :
  ∃ b,biV (.idx 3) out (.int .i64 (i:Int))=some (.ptr b (0+i*3))/\storeV 3 (.ptr b (0+i*3)) (.agg (vcs v)) ⟨bs,[],bt,[]⟩=some (.tuple [],⟨bs.set b (flatV (acc.set i v)),[],bt,[]⟩) /\
   HsV (acc.set i v) out (bs.set b (flatV (acc.set i v))) bt/\0<b/\bs[b]? = some (flatV acc)/\i*3+3<=(flatV acc).length/\(flatV acc).take (i*3)++(.int .i64 v.k :: .int .i64 v.i :: .str v.s::(flatV acc).drop (i*3+3))=flatV (acc.set i v):=by
 rcases h with ⟨rfl,rfl⟩|⟨b,rfl,h2,h3,h4,h5⟩
 ·simp at hi
 ·refine⟨b,hs_at hi,?_,.inr ⟨b,by simp,h2,?_,?_,h5⟩,h2,h4,by rw[flatV_len]; omega,flatV_set acc i v hi⟩
  ·simp only[storeV,h4]
   have e:PV.cells (.agg (vcs v))=vcs v:=rfl
   rw[e,if_pos ⟨rfl,by rw[flatV_len]; omega,rfl⟩]
   simp only[Nat.zero_add]
   rw[flatV_set acc i v hi]
  ·intro e
   have:=congrArg List.length e
   simp at this
   exact h3 this
  ·rw[List.getElem?_set_self (List.getElem?_eq_some_iff.1 h4).1]
theorem HsV.clip {acc:List Vl} {out:PV} {bs:List (List PV)} {bt:List TypeId} (h:HsV acc out bs bt) (st:St) :
  ∃ out',callE efns given f_slices_Clip_api_Value_api_Value [out] st=some (out',st)/\(out'=out\/(acc=[]/\out' = .full [])):=by
 have key:Good (fun v st'=>st'=st/\(v=out\/(acc=[]/\v = .full []))) (callE efns given f_slices_Clip_api_Value_api_Value [out] st):=by
  rw[callE_fn efns given (c:=e_slices_Clip_api_Value_api_Value) rfl rfl]
  rcases h with ⟨rfl,rfl⟩|⟨b,rfl,h2,h3,h4,h5⟩
  ·have e:lsubV 3 .nils none (some (.int .i64 0)) (some (.int .i64 0))=some (.full []):=rfl
   simp only[e_slices_Clip_api_Value_api_Value,go_sem,e]
   exact Good.done ⟨rfl,.inr rfl⟩
  ·have e:lsubV 3 (.hs 3 b 0 acc.length) none (some (.int .i64 (acc.length:Int))) (some (.int .i64 (acc.length:Int)))=some (.hs 3 b 0 acc.length):=by
    unfold lsubV
    show hsubV 3 3 b 0 acc.length none (some (.int .i64 (acc.length:Int))) (some (.int .i64 (acc.length:Int)))=_
    unfold hsubV
    simp only[bnd,if_pos (And.intro (Int.natCast_nonneg acc.length) (Int.ofNat_le.2 (Nat.le_refl acc.length))),Int.toNat_natCast]
    simp
   simp only[e_slices_Clip_api_Value_api_Value,go_sem,e]
   exact Good.done ⟨rfl,.inl rfl⟩
 obtain⟨v,st',h1,rfl,h2⟩:=key
 exact⟨v,h1,h2⟩
theorem HsV.shutR {acc:List Vl} {out:PV} {bs:List (List PV)} {bt rt:List TypeId} {rows:List (Nat × Nat)} (h:HsV acc out bs bt) (k:Nat):shutR false ⟨bs,rows,bt,rt⟩ (k+2) out=some (.lst (acc.map Vl.p)):=by
 rcases h with ⟨rfl,rfl⟩|⟨b,rfl,h2,h3,h4,h5⟩
 ·rfl
 ·unfold YthjnlpfibakacaaGreatDoorPe.shutR
  simp only[h4]
  have hfl:=flatV_len acc
  rw[if_pos ⟨by omega,by decide⟩,List.drop_zero,List.take_of_length_le (by omega),flatV_shut]
  simp only[flatV_cell,if_true,chunkV]
end Go.Proofs.YthjnlpfibakacaaGreatDoorPe.Tmpf
set_option linter.unusedVariables false
set_option linter.unusedSimpArgs false
set_option maxRecDepth 100000
namespace Go.Proofs.YthjnlpfibakacaaGreatDoorPe.Tmpf
open Go Go.Proofs Go.Proofs.YthjnlpfibakacaaGreatDoorPe Go.Proofs.YthjnlpfibakacaaGreatDoorPe.TmpfCode
def fillL (slots:List Sl):List (List UInt8)->List Vl->List (List UInt8)->List Vl->Except Int (List Vl)
 |[],_,_,acc=>.ok acc
 |_::_,[],_,_=>.error 1
 |n::ns,v::vs,had,acc=>match placeL n slots with
  |none=>.error 5
  |some i=>if n∈had then .error 6 else fillL slots ns vs (had++[n]) (acc.set i v)
def fillM (t:Tm) (names:List (List UInt8)) (l:List Vl):Except Int (List Vl) :=
 if names.length=l.length then fillL t.slots names l [] (t.slots.map (·.d)) else .error 1
def fillV:Except Int (List Vl)->PV
 |.ok l=>.tuple [.lst (l.map Vl.p),.int .i64 0]
 |.error e=>.tuple [.lst [],.int .i64 e]
theorem fillL_len (slots:List Sl) : ∀ (ns:List (List UInt8)) (vs:List Vl) (had:List (List UInt8)) (acc r:List Vl),fillL slots ns vs had acc = .ok r->r.length=acc.length
 |[],_,_,acc,r,h=>by cases h; rfl
 |_::_,[],_,_,r,h=>by cases h
 |n::ns,v::vs,had,acc,r,h=>by
  simp only[fillL] at h
  split at h
  ·cases h
  ·split at h
   ·cases h
   ·have:=fillL_len slots ns vs _ _ r h
    simpa using this
theorem sidx_t {l:List (List UInt8)} {s:List UInt8} (hl:l.length<4611686018427387904):tupV (callE efns given) (.call 0 f_slices_Index_string_string) [.lst (l.map .str),.str s]=some (.int .i64 (idxI (idxP (fun e=>PV.same e (.str s)) (l.map .str)))):=by
 refine call_good (f:=f_slices_Index_string_string) rfl ?_
 rw[callE_fn efns given (c:=e_slices_Index_string_string) rfl rfl]
 simp only[e_slices_Index_string_string,go_sem,List.length_map]
 refine Good.for l.length (fun i fr st=>fr=[.lst (l.map .str),.str s,.int .i64 (l.length:Int),.int .i64 (i:Int)]/\st=⟨[],[],[],[]⟩ /\ ∀ x∈(l.map PV.str).take i,PV.same x (.str s)=false) ?_ ?_ ?_
 ·rintro i fr st hi ⟨rfl,rfl,hh⟩ k hk
  have c1:((i:Int)<(l.length:Int))=True:=eq_true (by omega)
  have hat:evIdx 1 (l.map PV.str) (i:Int)=some (.ref [.str l[i]]):=idx_of (e:=.str l[i]) (map_at hi) rfl
  by_cases h:s=l[i]
  ·simp only[b_slices_Index_string_string_0,go_sem,c1,hat,eq_true h]
   refine Good.done ?_
   rw[idxP_drop hh,List.drop_eq_getElem_cons (by simpa using hi),idxP,if_pos (by simp[PV.same,h])]
   simp[idxI]
   rfl
  ·simp only[b_slices_Index_string_string_0,go_sem,c1,hat,eq_false h,wrapN (n:=i) (by omega)]
   refine hk _ _ ⟨rfl,rfl,fun x hx => ?_⟩
   rw[take_succ_at (by simpa using hi),List.mem_append,List.mem_singleton] at hx
   rcases hx with hx|rfl
   ·exact hh x hx
   ·simp only[List.getElem_map,PV.same,decide_eq_false_iff_not]
    exact fun e=>h e.symm
 ·rintro fr st ⟨rfl,rfl,hh⟩ k
  simp only[b_slices_Index_string_string_0,go_sem,Int.lt_irrefl]
  refine Good.done ?_
  rw[idxP_drop hh,List.drop_eq_nil_of_le (by simp)]
  rfl
 ·exact⟨rfl,rfl,by simp⟩
theorem idxP_mem (s:List UInt8) : ∀ l:List (List UInt8),(idxP (fun e=>PV.same e (.str s)) (l.map .str)).isSome=decide (s∈l)
 |[]=>by simp[idxP]
 |x::l=>by
  have ih:=idxP_mem s l
  by_cases h:x=s
  ·subst h; simp[idxP,PV.same]
  ·simp only[List.map_cons,idxP,PV.same,decide_eq_true_eq,if_neg h,Option.isSome_map,ih,List.mem_cons]
   simp[Ne.symm h,fun e:s=x=>h e.symm]
theorem contains_t {l:List (List UInt8)} {s:List UInt8} (hl:l.length<4611686018427387904):tupV (callE efns given) (.call 0 f_slices_Contains_string_string) [.lst (l.map .str),.str s]=some (.bool (decide (s∈l))):=by
 refine call_good (f:=f_slices_Contains_string_string) rfl ?_
 rw[callE_fn efns given (c:=e_slices_Contains_string_string) rfl rfl]
 have h:=sidx_t (s:=s) hl
 rw[<- idxP_mem]
 cases hi:idxP (fun e=>PV.same e (.str s)) (l.map .str) with
 |none =>
  rw[hi] at h
  simp only[idxI] at h
  simp only[e_slices_Contains_string_string,go_sem,h]
  exact Good.done rfl
 |some i =>
  rw[hi] at h
  simp only[idxI] at h
  have c1:((i:Int)>=0)=True:=eq_true (by omega)
  simp only[e_slices_Contains_string_string,go_sem,h,c1]
  exact Good.done rfl
theorem tfill_t (t:Tm) (names:List (List UInt8)) (l:List Vl) (h1:t.slots.length<=1000) (h2:names.length<=1000) (h3:l.length<=1000) :
  tupV (callE efns given) (.call 0 f_tmpl_Template_Fill) [t.p,.lst (names.map .str),.lst (l.map Vl.p)]=some (fillV (fillM t names l)):=by
 refine call_good (f:=f_tmpl_Template_Fill) rfl ?_
 rw[callE_fn efns given (c:=e_tmpl_Template_Fill) rfl rfl]
 unfold fillM
 by_cases hlen:names.length=l.length
 ·have c0:((names.length:Int)=(l.length:Int))=True:=eq_true (by omega)
  rw[if_pos hlen]
  simp only[e_tmpl_Template_Fill,go_sem,Tm.p,List.length_map,c0,ne_eq]
  refine Good.for t.slots.length (fun i fr st => ∃ out bs bt,fr=[.undef,.lst (names.map .str),.lst (l.map Vl.p),.ptr 0 0,out,.undef,.undef,.undef,.lst (t.slots.map Sl.p),.int .i64 (t.slots.length:Int),.int .i64 (i:Int)]++List.replicate 11 .undef /\
   st=⟨bs,[],bt,[]⟩/\HsV ((t.slots.take i).map (·.d)) out bs bt/\bt.length=bs.length/\bs[0]? = some [.str t.name,.lst (t.slots.map Sl.p)]) ?_ ?_ ?_
  ·rintro i fr st hi ⟨out,bs,bt,rfl,rfl,hO,hbt,hb0⟩ k hk
   have c1:((i:Int)<(t.slots.length:Int))=True:=eq_true (by omega)
   have hat:evIdx 4 (t.slots.map Sl.p) (i:Int)=some (.ref t.slots[i].cells):=idx_of (e:=t.slots[i].p) (map_at hi) rfl
   have hO2:=hO.more [t.slots[i].cells] [T_tmpl_Template_Fill_1]
   have h0:0<bs.length:=(List.getElem?_eq_some_iff.1 hb0).1
   obtain⟨out',bs',hap,hO',hbl,hb0'⟩:=hO2.push (by simp[hbt]) (by simp; omega) (by simp) t.slots[i].d
   rw[List.getElem?_append_left h0,hb0] at hb0'
   have hb:tupV (callE efns given) (.bslice 3 [.int .i64 0,.int .i64 0,.str []] 1 [0]) [.agg (vcs t.slots[i].d)]=some (.full [.agg (vcs t.slots[i].d)]):=V_bs1 rfl rfl rfl
   simp only[vcs,Sl.cells] at hap hb hat
   simp only[b_tmpl_Template_Fill_0,go_sem,hat,c1,hb,hap,wrapN (n:=i) (by omega)]
   rw[List.append_assoc] at hO'
   refine hk _ _ ⟨out',bs',_,rfl,rfl,?_,?_,hb0'⟩
   ·rw[take_succ_at hi,List.map_append,List.map_singleton]
    exact hO'
   ·rw[hbl]; simp[hbt]
  ·rintro fr st ⟨out,bs,bt,rfl,rfl,hO,hbt,hb0⟩ k
   simp only[b_tmpl_Template_Fill_0,go_sem,Int.lt_irrefl,List.length_map]
   rw[List.take_length] at hO
   refine Good.for names.length (fun i fr st => ∃ out bs bt acc,fr=[.undef,.lst (names.map .str),.lst (l.map Vl.p),.ptr 0 0,out]++List.replicate 9 .undef++[.lst (names.map .str),.int .i64 (names.length:Int),.int .i64 (i:Int)]++List.replicate 5 .undef /\
    st=⟨bs,[],bt,[]⟩/\HsV acc out bs bt/\bs[0]? = some [.str t.name,.lst (t.slots.map Sl.p)]/\acc.length=t.slots.length /\
    fillL t.slots names l [] (t.slots.map (·.d))=fillL t.slots (names.drop i) (l.drop i) (names.take i) acc) ?_ ?_ ?_
   ·rintro i fr st hi ⟨out,bs,bt,acc,rfl,rfl,hO,hb0,hacc,he⟩ k hk
    have hi':i<l.length:=by omega
    have c1:((i:Int)<(names.length:Int))=True:=eq_true (by omega)
    have hat:evIdx 1 (names.map PV.str) (i:Int)=some (.ref [.str names[i]]):=idx_of (e:=.str names[i]) (map_at hi) rfl
    have hat2:evIdx 3 (l.map Vl.p) (i:Int)=some (.ref (vcs l[i])):=idx_of (e:=l[i].p) (map_at hi') rfl
    have hsl:=tslot_t t names[i] (by omega)
    have hct:=contains_t (l:=names.take i) (s:=names[i]) (by simp; omega)
    have hsub:lsubV 1 (.lst (names.map .str)) none (some (.int .i64 (i:Int))) none=some (.lst ((names.take i).map .str)):=by
     rw[lsub_take rfl (by simp; omega),List.map_take]
    rw[List.drop_eq_getElem_cons hi,List.drop_eq_getElem_cons hi',fillL] at he
    have htk:names.take (i+1)=names.take i++[names[i]]:=take_succ_at hi
    rw[<- htk] at he
    simp only[Tm.p] at hsl
    cases hp:placeL names[i] t.slots with
    |none =>
     rw[hp] at hsl he
     simp only[placeV] at hsl
     simp only[b_tmpl_Template_Fill_1,go_sem,c1,hat,hb0,hsl]
     exact Good.done (by rw[he]; rfl)
    |some j =>
     rw[hp] at hsl he
     simp only[placeV] at hsl
     by_cases hm:names[i]∈names.take i
     ·rw[decide_eq_true hm] at hct
      simp only[if_pos hm] at he
      simp only[b_tmpl_Template_Fill_1,go_sem,c1,hat,hb0,hsl,hsub,hct]
      exact Good.done (by rw[he]; rfl)
     ·rw[decide_eq_false hm] at hct
      simp only[if_neg hm] at he
      have hj:=placeL_lt hp
      obtain⟨b,g1,g2,g3,g4,g5,g6,g7⟩:=hO.at_ (i:=j) (by omega) l[i]
      simp only[vcs] at hat2 g2
      simp only[b_tmpl_Template_Fill_1,go_sem,c1,hat,hat2,hb0,hsl,hsub,hct,g1,g5,eq_true g6,g7,Nat.zero_add,wrapN (n:=i) (by omega)]
      exact hk _ _ ⟨out,_,bt,_,rfl,rfl,g3,by rw[List.getElem?_set_ne (by omega)]; exact hb0,by simpa using hacc,he⟩
   ·rintro fr st ⟨out,bs,bt,acc,rfl,rfl,hO,hb0,hacc,he⟩ k
    rw[List.drop_eq_nil_of_le (Nat.le_refl _)] at he
    obtain⟨out',hc,ho⟩:=hO.clip ⟨bs,[],bt,[]⟩
    simp only[b_tmpl_Template_Fill_1,go_sem,Int.lt_irrefl,hc]
    refine Good.done ?_
    rw[he]
    rcases ho with rfl|⟨rfl,rfl⟩
    ·exact ret_tup (mS (hO.shutR _) (mS rfl mN))
    ·exact ret_tup (mS rfl (mS rfl mN))
   ·exact⟨out,bs,bt,_,rfl,rfl,hO,hb0,by simp,rfl⟩
  ·exact⟨.nils,_,_,rfl,rfl,.inl ⟨rfl,rfl⟩,rfl,rfl⟩
 ·have c0:((names.length:Int)=(l.length:Int))=False:=eq_false (by omega)
  rw[if_neg hlen]
  simp only[e_tmpl_Template_Fill,go_sem,Tm.p,List.length_map,c0,ne_eq]
  exact Good.done rfl
end Go.Proofs.YthjnlpfibakacaaGreatDoorPe.Tmpf
set_option linter.unusedVariables false
set_option linter.unusedSimpArgs false
set_option maxRecDepth 100000
namespace Go.Proofs.YthjnlpfibakacaaGreatDoorPe.Tmpf
open Go Go.Proofs Go.Proofs.YthjnlpfibakacaaGreatDoorPe Go.Proofs.YthjnlpfibakacaaGreatDoorPe.TmpfCode
theorem rfill_in {names:List (List UInt8)} {K:EX->Fr->St->Option (PV × St)} {Q:PV->St->Prop} {l out:PV} {k:Nat} {i:Int} {st:St} (hk:k<names.length) (hl:names.length<=1000)
  (h1:names[k]∈names.take k->Good Q (K (.ret (.tuple [.nils,.int .i64 6])) [] st))
  (h2:names[k] ∉ names.take k->Good Q (K (.exit 4) ([.undef,.lst (names.map .str),l,.ptr 0 0,out,.undef,.int .i64 (k:Int),.int .i64 i,.int .i64 (k:Int)]++List.replicate 9 .undef) st)) :
  Good Q (runL (callE efns given) [false,true,true,true,true,false,true,true,true,false,false,false,false,false,false,false,false,false] b_ref9_Template_Fill_1
   ([.undef,.lst (names.map .str),l,.ptr 0 0,out,.undef,.int .i64 (k:Int),.int .i64 i,.int .i64 0]++List.replicate 9 .undef) st K):=by
 have hat:evIdx 1 (names.map PV.str) (k:Int)=some (.ref [.str names[k]]):=idx_of (e:=.str names[k]) (map_at hk) rfl
 refine Good.for k (fun j fr st'=>fr=[.undef,.lst (names.map .str),l,.ptr 0 0,out,.undef,.int .i64 (k:Int),.int .i64 i,.int .i64 (j:Int)]++List.replicate 9 .undef/\st'=st/\names[k] ∉ names.take j) ?_ ?_ ?_
 ·rintro j fr st' hj ⟨rfl,rfl,hh⟩ k' hk'
  have c1:((j:Int)<(k:Int))=True:=eq_true (by omega)
  have hat2:evIdx 1 (names.map PV.str) (j:Int)=some (.ref [.str names[j]]):=idx_of (e:=.str names[j]) (map_at (by omega)) rfl
  have htk:names.take (j+1)=names.take j++[names[j]]:=take_succ_at (by omega)
  by_cases h:names[j]=names[k]
  ·simp only[b_ref9_Template_Fill_1,go_sem,c1,hat,hat2,eq_true h]
   refine h1 ?_
   rw[<- h]
   exact List.mem_take_iff_getElem.2 ⟨j,by omega,rfl⟩
  ·simp only[b_ref9_Template_Fill_1,go_sem,c1,hat,hat2,eq_false h,wrapN (n:=j) (by omega)]
   refine hk' _ _ ⟨rfl,rfl,?_⟩
   rw[htk,List.mem_append,List.mem_singleton]
   rintro (h3|h3)
   ·exact hh h3
   ·exact h h3.symm
 ·rintro fr st' ⟨rfl,rfl,hh⟩ k'
  simp only[b_ref9_Template_Fill_1,go_sem,Int.lt_irrefl]
  exact h2 hh
 ·exact⟨rfl,rfl,by simp⟩
theorem rtfill_t (t:Tm) (names:List (List UInt8)) (l:List Vl) (h1:t.slots.length<=1000) (h2:names.length<=1000) (h3:l.length<=1000) :
  tupV (callE efns given) (.call 0 f_ref9_Template_Fill) [t.p,.lst (names.map .str),.lst (l.map Vl.p)]=some (fillV (fillM t names l)):=by
 refine call_good (f:=f_ref9_Template_Fill) rfl ?_
 rw[callE_fn efns given (c:=e_ref9_Template_Fill) rfl rfl]
 unfold fillM
 by_cases hlen:names.length=l.length
 ·have c0:((names.length:Int)=(l.length:Int))=True:=eq_true (by omega)
  rw[if_pos hlen]
  simp only[e_ref9_Template_Fill,go_sem,Tm.p,List.length_map,c0,ne_eq]
  refine Good.for t.slots.length (fun i fr st => ∃ out bs bt,fr=[.undef,.lst (names.map .str),.lst (l.map Vl.p),.ptr 0 0,out,.int .i64 (i:Int)]++List.replicate 12 .undef /\
   st=⟨bs,[],bt,[]⟩/\HsV ((t.slots.take i).map (·.d)) out bs bt/\bt.length=bs.length/\bs[0]? = some [.str t.name,.lst (t.slots.map Sl.p)]) ?_ ?_ ?_
  ·rintro i fr st hi ⟨out,bs,bt,rfl,rfl,hO,hbt,hb0⟩ k hk
   have c1:((i:Int)<(t.slots.length:Int))=True:=eq_true (by omega)
   have hat:evIdx 4 (t.slots.map Sl.p) (i:Int)=some (.ref t.slots[i].cells):=idx_of (e:=t.slots[i].p) (map_at hi) rfl
   have h0:0<bs.length:=(List.getElem?_eq_some_iff.1 hb0).1
   obtain⟨out',bs',hap,hO',hbl,hb0'⟩:=hO.push (by simp[hbt]) (by simp; omega) h0 t.slots[i].d
   rw[hb0] at hb0'
   have hb:tupV (callE efns given) (.bslice 3 [.int .i64 0,.int .i64 0,.str []] 1 [0]) [.agg (vcs t.slots[i].d)]=some (.full [.agg (vcs t.slots[i].d)]):=V_bs1 rfl rfl rfl
   simp only[vcs,Sl.cells] at hap hb hat
   simp only[b_ref9_Template_Fill_0,go_sem,List.length_map,hb0,hat,c1,hb,hap,wrapN (n:=i) (by omega)]
   refine hk _ _ ⟨out',bs',_,rfl,rfl,?_,?_,hb0'⟩
   ·rw[take_succ_at hi,List.map_append,List.map_singleton]
    exact hO'
   ·rw[hbl]; simp[hbt]
  ·rintro fr st ⟨out,bs,bt,rfl,rfl,hO,hbt,hb0⟩ k
   simp only[b_ref9_Template_Fill_0,go_sem,hb0,Int.lt_irrefl,List.length_map]
   rw[List.take_length] at hO
   refine Good.for names.length (fun i fr st => ∃ bs bt acc,fr=[.undef,.lst (names.map .str),.lst (l.map Vl.p),.ptr 0 0,out,.undef,.int .i64 (i:Int)]++List.replicate 11 .undef /\
    st=⟨bs,[],bt,[]⟩/\HsV acc out bs bt/\bs[0]? = some [.str t.name,.lst (t.slots.map Sl.p)]/\acc.length=t.slots.length /\
    fillL t.slots names l [] (t.slots.map (·.d))=fillL t.slots (names.drop i) (l.drop i) (names.take i) acc) ?_ ?_ ?_
   ·rintro i fr st hi ⟨bs,bt,acc,rfl,rfl,hO,hb0,hacc,he⟩ k hk
    have hi':i<l.length:=by omega
    have c1:((i:Int)<(names.length:Int))=True:=eq_true (by omega)
    have hat:evIdx 1 (names.map PV.str) (i:Int)=some (.ref [.str names[i]]):=idx_of (e:=.str names[i]) (map_at hi) rfl
    have hat2:evIdx 3 (l.map Vl.p) (i:Int)=some (.ref (vcs l[i])):=idx_of (e:=l[i].p) (map_at hi') rfl
    have hsl:=rslot_t t names[i] (by omega)
    rw[List.drop_eq_getElem_cons hi,List.drop_eq_getElem_cons hi',fillL] at he
    have htk:names.take (i+1)=names.take i++[names[i]]:=take_succ_at hi
    rw[<- htk] at he
    simp only[Tm.p] at hsl
    cases hp:placeL names[i] t.slots with
    |none =>
     rw[hp] at hsl he
     simp only[idxI] at hsl
     simp only[b_ref9_Template_Fill_2,go_sem,List.length_map,c1,hat,hb0,hsl]
     exact Good.done (by rw[he]; rfl)
    |some j =>
     rw[hp] at hsl he
     simp only[idxI] at hsl
     have c2:((j:Int)<0)=False:=eq_false (by omega)
     simp only[b_ref9_Template_Fill_2,go_sem,List.length_map,c1,c2,hat,hb0,hsl]
     refine rfill_in hi h2 (fun hm => ?_) (fun hm => ?_)
     ·simp only[if_pos hm] at he
      simp only[go_sem]
      exact Good.done (by rw[he]; rfl)
     ·simp only[if_neg hm] at he
      have hj:=placeL_lt hp
      obtain⟨b,g1,g2,g3,g4,g5,g6,g7⟩:=hO.at_ (i:=j) (by omega) l[i]
      simp only[vcs] at hat2 g2
      simp only[go_sem,hat2,g1,g5,eq_true g6,g7,Nat.zero_add,wrapN (n:=i) (by omega)]
      exact hk _ _ ⟨_,bt,_,rfl,rfl,g3,by rw[List.getElem?_set_ne (by omega)]; exact hb0,by simpa using hacc,he⟩
   ·rintro fr st ⟨bs,bt,acc,rfl,rfl,hO,hb0,hacc,he⟩ k
    rw[List.drop_eq_nil_of_le (Nat.le_refl _)] at he
    simp only[b_ref9_Template_Fill_2,go_sem,List.length_map,Int.lt_irrefl]
    refine Good.done ?_
    rw[he]
    exact ret_tup (mS (hO.shutR _) (mS rfl mN))
   ·exact⟨bs,bt,_,rfl,rfl,hO,hb0,by simp,rfl⟩
  ·exact⟨.nils,_,_,rfl,rfl,.inl ⟨rfl,rfl⟩,rfl,rfl⟩
 ·have c0:((names.length:Int)=(l.length:Int))=False:=eq_false (by omega)
  rw[if_neg hlen]
  simp only[e_ref9_Template_Fill,go_sem,Tm.p,List.length_map,c0,ne_eq]
  exact Good.done rfl
def factS (s:Sl) (v:Vl):List UInt8:=[32,40]++s.name++[32]++textV v++[41]
def factL:List Sl->List Vl->List UInt8
 |s::ss,v::vs=>factS s v++factL ss vs
 |_,_=>[]
def SmallV (v:Vl):Prop:=v.s.length<=1000/\I64 v.i
theorem textV_len {v:Vl} (h:SmallV v):(textV v).length<=2002:=by
 unfold textV
 split
 ·have:=text_lenV h.2; omega
 ·split
  ·have:=escs_len v.s
   have:=h.1
   simp[quote]; omega
  ·have:=h.1; omega
theorem factS_len {s:Sl} {v:Vl} (hs:s.name.length<=100) (h:SmallV v):(factS s v).length<=2200:=by
 have:=textV_len h
 simp only[factS,List.length_append,List.length_cons,List.length_nil]
 omega
theorem factL_snoc {ss:List Sl} {vs:List Vl} {n:Nat} (h1:n<ss.length) (h2:n<vs.length):factL (ss.take (n+1)) (vs.take (n+1))=factL (ss.take n) (vs.take n)++factS ss[n] vs[n]:=by
 induction n generalizing ss vs with
 |zero =>
  cases ss with
  |nil=>simp at h1
  |cons s ss=>cases vs with
   |nil=>simp at h2
   |cons v vs=>simp[factL]
 |succ n ih =>
  cases ss with
  |nil=>simp at h1
  |cons s ss=>cases vs with
   |nil=>simp at h2
   |cons v vs =>
    have:=ih (ss:=ss) (vs:=vs) (by simpa using h1) (by simpa using h2)
    simp only[List.take_succ_cons,factL,List.getElem_cons_succ,this,List.append_assoc]
theorem factL_take {ss:List Sl} {vs:List Vl} {n:Nat} (h:vs.length<=n):factL (ss.take n) (vs.take n)=factL ss vs:=by
 induction n generalizing ss vs with
 |zero =>
  have:vs=[]:=List.eq_nil_of_length_eq_zero (by omega)
  subst this
  cases ss <;> simp[factL]
 |succ n ih =>
  cases ss with
  |nil=>simp[factL]
  |cons s ss=>cases vs with
   |nil=>simp[factL]
   |cons v vs=>simp only[List.take_succ_cons,factL,ih (ss:=ss) (vs:=vs) (by simpa using h)]
theorem factL_len {ss:List Sl} {vs:List Vl} (hs : ∀ s∈ss,s.name.length<=100) (hv : ∀ v∈vs,SmallV v):(factL ss vs).length<=2200*ss.length:=by
 induction ss generalizing vs with
 |nil=>cases vs <;> simp[factL]
 |cons s ss ih =>
  cases vs with
  |nil=>simp[factL]
  |cons v vs =>
   have h1:=ih (vs:=vs) (fun x hx=>hs x (List.mem_cons_of_mem _ hx)) (fun x hx=>hv x (List.mem_cons_of_mem _ hx))
   have h2:=factS_len (hs s (List.mem_cons_self ..)) (hv v (List.mem_cons_self ..))
   simp only[factL,List.length_append,List.length_cons]
   omega
def factT (t:Tm) (l:List Vl):List UInt8:=[40]++t.name++factL t.slots l++[41]
theorem rtext9_t (t:Tm) (l:List Vl) (h0:t.name.length<=100) (h1:t.slots.length<=100) (hs : ∀ s∈t.slots,s.name.length<=100) (hv : ∀ v∈l,SmallV v) (h3:l.length<=1000) :
  tupV (callE efns given) (.call 0 f_ref9_Template_Text) [t.p,.lst (l.map Vl.p)]=some (.str (factT t l)):=by
 refine call_good (f:=f_ref9_Template_Text) rfl ?_
 rw[callE_fn efns given (c:=e_ref9_Template_Text) rfl rfl]
 have b0:(1+t.name.length<=4611686018427387904)=True:=eq_true (by omega)
 simp only[e_ref9_Template_Text,go_sem,Tm.p,b0]
 refine Good.for (min t.slots.length l.length) (fun i fr st=>fr=[.undef,.lst (l.map Vl.p),.ptr 0 0,.str ([40]++t.name++factL (t.slots.take i) (l.take i)),.int .i64 (i:Int),.undef,.undef,.undef]/\st=⟨[[.str t.name,.lst (t.slots.map Sl.p)]],[],[T_ref9_Template_Text_0],[]⟩) ?_ ?_ ?_
 ·rintro i fr st hi ⟨rfl,rfl⟩ k hk
  have hi1:i<t.slots.length:=by omega
  have hi2:i<l.length:=by omega
  have c1:((i:Int)<(t.slots.length:Int))=True:=eq_true (by omega)
  have c2:((i:Int)<(l.length:Int))=True:=eq_true (by omega)
  have hat:evIdx 4 (t.slots.map Sl.p) (i:Int)=some (.ref t.slots[i].cells):=idx_of (e:=t.slots[i].p) (map_at hi1) rfl
  have hat2:evIdx 3 (l.map Vl.p) (i:Int)=some (.ref (vcs l[i])):=idx_of (e:=l[i].p) (map_at hi2) rfl
  have hvi:=hv l[i] (List.getElem_mem hi2)
  have hsi:=hs t.slots[i] (List.getElem_mem hi1)
  have htx:=rtextV_t l[i] (by have:=hvi.1; omega) hvi.2
  have hlen:=factL_len (ss:=t.slots.take i) (vs:=l.take i) (fun x hx=>hs x (List.mem_of_mem_take hx)) (fun x hx=>hv x (List.mem_of_mem_take hx))
  have htl:=textV_len hvi
  have hti:(t.slots.take i).length<=100:=by simp; omega
  have hsn:=factL_snoc hi1 hi2
  generalize hF:factL (t.slots.take i) (l.take i)=F at *
  generalize t.slots[i]=s at *
  generalize l[i]=v at *
  have hFl:F.length<=220000:=by omega
  simp only[Vl.p] at htx
  simp only[vcs] at hat2
  have hGl:([40]++t.name++F).length<=300000:=by simp; omega
  generalize hG:[40]++t.name++F=G at *
  simp only[b_ref9_Template_Text_0,go_sem,List.length_map,c1,c2,hat,hat2,Sl.cells,htx,show (G.length+2<=4611686018427387904)=True from eq_true (by omega),List.length_append,List.length_cons,List.length_nil,wrapN (n:=i) (by omega)]
  rw[if_pos (by omega),if_pos (by omega),if_pos (by omega),if_pos (by omega)]
  refine hk _ _ ⟨?_,rfl⟩
  rw[hsn,<- hG]
  simp only[factS,List.append_assoc,List.cons_append,List.nil_append]
 ·rintro fr st ⟨rfl,rfl⟩ k
  have hlen:=factL_len (ss:=t.slots.take (min t.slots.length l.length)) (vs:=l.take (min t.slots.length l.length)) (fun x hx=>hs x (List.mem_of_mem_take hx)) (fun x hx=>hv x (List.mem_of_mem_take hx))
  have hti:(t.slots.take (min t.slots.length l.length)).length<=100:=by simp; omega
  have hfin:factL (t.slots.take (min t.slots.length l.length)) (l.take (min t.slots.length l.length))=factL t.slots l:=by
   rcases Nat.le_total t.slots.length l.length with h|h
   ·rw[Nat.min_eq_left h,List.take_length]
    clear hlen hti
    generalize t.slots=ss at h
    clear hv h3
    induction ss generalizing l with
    |nil=>cases l <;> simp[factL]
    |cons s ss ih=>cases l with
     |nil=>simp at h
     |cons v l=>simp only[List.length_cons,List.take_succ_cons,factL,ih (l:=l) (by simpa using h)]
   ·rw[Nat.min_eq_right h]
    exact factL_take (Nat.le_refl _)
  rw[hfin] at hlen ⊢
  have b1:(([40]++t.name++factL t.slots l).length+1<=4611686018427387904)=True:=eq_true (by simp; omega)
  have hfT:factT t l=([40]++t.name++factL t.slots l)++[41]:=rfl
  rw[hfT]
  generalize [40]++t.name++factL t.slots l=G at *
  rcases Nat.lt_or_ge l.length t.slots.length with h|h
  ·have c1:(((min t.slots.length l.length:Nat):Int)<(t.slots.length:Int))=True:=eq_true (by omega)
   have c2:(((min t.slots.length l.length:Nat):Int)<(l.length:Int))=False:=eq_false (by omega)
   simp only[b_ref9_Template_Text_0,go_sem,List.length_map,c1,c2,b1,List.length_cons,List.length_nil]
   exact Good.done rfl
  ·have c1:(((min t.slots.length l.length:Nat):Int)<(t.slots.length:Int))=False:=eq_false (by omega)
   simp only[b_ref9_Template_Text_0,go_sem,List.length_map,c1,b1,List.length_cons,List.length_nil]
   exact Good.done rfl
 ·exact⟨by simp[factL],rfl⟩
end Go.Proofs.YthjnlpfibakacaaGreatDoorPe.Tmpf
set_option linter.unusedVariables false
set_option linter.unusedSimpArgs false
set_option maxRecDepth 100000
namespace Go.Proofs.YthjnlpfibakacaaGreatDoorPe.Tmpf
open Go Go.Proofs Go.Proofs.YthjnlpfibakacaaGreatDoorPe Go.Proofs.YthjnlpfibakacaaGreatDoorPe.TmpfCode
theorem ttext_t (t:Tm) (l:List Vl) (h0:t.name.length<=100) (h1:t.slots.length<=100) (hs : ∀ s∈t.slots,s.name.length<=100) (hv : ∀ v∈l,SmallV v) (h3:t.slots.length<=l.length) (h4:l.length<=1000) :
  tupV (callE efns given) (.call 0 f_tmpl_Template_Text) [t.p,.lst (l.map Vl.p)]=some (.str (factT t l)):=by
 refine call_good (f:=f_tmpl_Template_Text) rfl ?_
 rw[callE_fn efns given (c:=e_tmpl_Template_Text) rfl rfl]
 have b0:(1+t.name.length<=4611686018427387904)=True:=eq_true (by omega)
 have hB:Bld 1 [] ⟨[[.str t.name,.lst (t.slots.map Sl.p)],[.nilp,.nils]],[],[T_tmpl_Template_Text_1,T_bld],[]⟩:=Bld.new ⟨[[.str t.name,.lst (t.slots.map Sl.p)]],[],[T_tmpl_Template_Text_1],[]⟩ rfl rfl
 obtain⟨⟨bs,rows,bt,rt⟩,w1,hB1,w3,w4,w5⟩:=wstring_ok2 given (t:=40::t.name) hB (by simp; omega)
 have hb0:bs[0]? = some [.str t.name,.lst (t.slots.map Sl.p)]:=w5 0 (by decide)
 simp only at w3 w4
 simp only[e_tmpl_Template_Text,go_sem,Tm.p,b0,w1,hb0,List.length_map]
 refine Good.for t.slots.length (fun i fr st=>fr=[.undef,.lst (l.map Vl.p),.undef,.ptr 1 0,.undef,.undef,.lst (t.slots.map Sl.p),.int .i64 (t.slots.length:Int),.int .i64 (i:Int),.undef,.undef]/\Bld 1 ([40]++t.name++factL (t.slots.take i) (l.take i)) st/\st.bt.length=st.boxes.length) ?_ ?_ ?_
 ·rintro i fr ⟨bs,rows,bt,rt⟩ hi ⟨rfl,hB,hbt⟩ k hk
  have hi2:i<l.length:=by omega
  have c1:((i:Int)<(t.slots.length:Int))=True:=eq_true (by omega)
  have c2:((i:Int)<(l.length:Int))=True:=eq_true (by omega)
  have hat:evIdx 4 (t.slots.map Sl.p) (i:Int)=some (.ref t.slots[i].cells):=idx_of (e:=t.slots[i].p) (map_at hi) rfl
  have hat2:evIdx 3 (l.map Vl.p) (i:Int)=some (.ref (vcs l[i])):=idx_of (e:=l[i].p) (map_at hi2) rfl
  have hvi:=hv l[i] (List.getElem_mem hi2)
  have hsi:=hs t.slots[i] (List.getElem_mem hi)
  have htx:=textV_t l[i] (by have:=hvi.1; omega) hvi.2
  have hlen:=factL_len (ss:=t.slots.take i) (vs:=l.take i) (fun x hx=>hs x (List.mem_of_mem_take hx)) (fun x hx=>hv x (List.mem_of_mem_take hx))
  have htl:=textV_len hvi
  have hti:(t.slots.take i).length<=100:=by simp; omega
  have hsn:=factL_snoc hi hi2
  have hG:([40]++t.name++factL (t.slots.take (i+1)) (l.take (i+1)))=([40]++t.name++factL (t.slots.take i) (l.take i))++factS t.slots[i] l[i]:=by rw[hsn]; simp only[List.append_assoc]
  have hGl:([40]++t.name++factL (t.slots.take i) (l.take i)).length<=300000:=by simp; omega
  rw[hG] at hk
  have hfl:=factS_len hsi hvi
  generalize ([40]++t.name++factL (t.slots.take i) (l.take i))=G at *
  have hB2:=hB.grow t.slots[i].cells T_tmpl_Template_Text_0
  obtain⟨st',w1,hB3,w3,w4,_⟩:=wstring_ok2 given (t:=factS t.slots[i] l[i]) hB2 (by omega)
  generalize t.slots[i]=s at *
  generalize l[i]=v at *
  simp only[Vl.p] at htx
  simp only[vcs] at hat2
  simp only[Sl.cells] at w1 hat w3 w4
  simp only[factS,List.append_assoc,List.cons_append,List.nil_append] at w1
  simp only[b_tmpl_Template_Text_0,go_sem,List.length_map,c1,c2,hat,hat2,htx,List.length_append,List.length_cons,List.length_nil]
  rw[if_pos (by omega),if_pos (by omega),if_pos (by omega),if_pos (by omega)]
  simp only[go_sem,List.append_assoc,List.cons_append,List.nil_append,w1,wrapN (n:=i) (by omega)]
  refine hk _ _ ⟨rfl,hB3,?_⟩
  rw[w4,w3]
  simpa using hbt
 ·rintro fr ⟨bs,rows,bt,rt⟩ ⟨rfl,hB,hbt⟩ k
  have hlen:=factL_len hs hv
  have hfin:factL (t.slots.take t.slots.length) (l.take t.slots.length)=factL t.slots l:=by
   rw[List.take_length]
   clear hlen hB hbt w1 w3 w4 w5 hb0 hB1 hv h4
   generalize t.slots=ss at h3
   induction ss generalizing l with
   |nil=>cases l <;> simp[factL]
   |cons s ss ih=>cases l with
    |nil=>simp at h3
    |cons v l=>simp only[List.length_cons,List.take_succ_cons,factL,ih (l:=l) (by simpa using h3)]
  rw[hfin] at hB
  obtain⟨st',w1,hB3,w3,w4,_⟩:=wstring_ok2 given (t:=[41]) hB (by simp; omega)
  have hstr:=bstring_ok given hB3 (by simp; omega)
  simp only[b_tmpl_Template_Text_0,go_sem,Int.lt_irrefl,w1,hstr]
  refine Good.done ?_
  rw[show factT t l=40::(t.name++(factL t.slots l++[41])) from by simp[factT]]
  rfl
 ·refine⟨rfl,by simpa [factL] using hB1,?_⟩
  rw[w4,w3]
  rfl
end Go.Proofs.YthjnlpfibakacaaGreatDoorPe.Tmpf
set_option linter.unusedVariables false
set_option linter.unusedSimpArgs false
set_option maxRecDepth 100000
namespace Go.Proofs.YthjnlpfibakacaaGreatDoorPe.Tmpf
open Go Go.Proofs Go.Proofs.YthjnlpfibakacaaGreatDoorPe Go.Proofs.YthjnlpfibakacaaGreatDoorPe.TmpfCode
theorem Wf.ndS2 {x:Nd} (h:Wf x):NdS2 x:=fun y hy=>⟨by have:=(h.kids y hy).s_le; omega,fun z hz=>by have:=((h.kids y hy).kids z hz).s_le; omega⟩
theorem slotsM_err {M:Nat} : ∀ (l:List Nd) (t:List Sl) (e:Int × Int),(∀ x∈l,PosOk M x)->slotsM l t = .error e -> ¬ e.2=0
 |[],t,e,_,h=>by cases h
 |x::l,t,e,hl,h=>by
  simp only[slotsM] at h
  split at h
  ·cases h; simp
  ·split at h
   ·exact slotsM_err l _ e (fun y hy=>hl y (List.mem_cons_of_mem _ hy)) h
   ·rename_i s _ hm
    cases h
    exact hm
theorem tmplM_err {M:Nat} {n:Nd} {e:Int × Int} (hn:PosOk M n) (h:tmplM n = .error e) : ¬ e.2=0:=by
 unfold tmplM at h
 split at h
 ·split at h
  ·rename_i a x l hk
   split at h
   ·cases hs:slotsM l [] with
    |error q =>
     rw[hs] at h
     cases h
     exact slotsM_err _ _ _ (fun y hy=>hn.kids y (by rw[hk]; simp[hy])) hs
    |ok r=>rw[hs] at h; cases h
   ·cases h; simp
  ·cases h; simp
 ·cases h; simp
theorem OkL.len : ∀ {u t:List Sl},OkL t u->t.length<=16->t.length+u.length<=16
 |[],t,_,ht=>by simpa using ht
 |s::u,t,⟨_,h2,h3⟩,_=>by
  have h:=(mayM_len h2).1
  have:=OkL.len h3 (by simp; omega)
  simp at this ⊢
  omega
theorem Tm.Ok.len {t:Tm} (h:t.Ok):t.slots.length<=16:=by simpa using OkL.len h.slots (by simp)
theorem OkL.good : ∀ {u t:List Sl},OkL t u -> ∀ s∈u,s.Ok
 |[],_,_,s,h=>by cases h
 |x::u,t,⟨h1,_,h3⟩,s,h=>by
  rcases List.mem_cons.1 h with rfl|h
  ·exact h1
  ·exact OkL.good h3 s h
theorem valM_small {n:Nd} {v:Vl} (hn:Wf n) (h:valM n=some v):SmallV v:=by
 unfold valM at h
 split at h
 ·cases h
  exact⟨hn.s_le,hn.i_in⟩
 ·cases h
theorem slotM_small {n:Nd} {s:Sl} (hn:Wf n) (h:slotM n=some s):SmallV s.d:=by
 unfold slotM at h
 split at h
 ·split at h
  ·split at h
   ·cases h; exact⟨by simp[nilW],by simp[nilW,I64]⟩
   ·cases h
  ·rename_i a x d hk
   split at h
   ·unfold slotD at h
    split at h
    ·split at h
     ·rename_i u v hdk
      obtain⟨w,hw,rfl⟩:=Option.map_eq_some_iff.1 h
      have hd:=hn.kids d (by rw[hk]; simp)
      exact valM_small (hd.kids v (by rw[hdk]; simp)) hw
     ·cases h
    ·cases h
   ·cases h
  ·cases h
 ·cases h
theorem slotsM_small : ∀ (l:List Nd) (t r:List Sl),(∀ x∈l,Wf x)->(∀ s∈t,SmallV s.d)->slotsM l t = .ok r -> ∀ s∈r,SmallV s.d
 |[],t,r,_,ht,h=>by cases h; exact ht
 |x::l,t,r,hl,ht,h=>by
  simp only[slotsM] at h
  split at h
  ·cases h
  ·rename_i s hs
   split at h
   ·refine slotsM_small l _ r (fun y hy=>hl y (List.mem_cons_of_mem _ hy)) (fun u hu => ?_) h
    rcases List.mem_append.1 hu with hu|hu
    ·exact ht u hu
    ·rw[List.mem_singleton.1 hu]; exact slotM_small (hl x (List.mem_cons_self ..)) hs
   ·cases h
theorem tmplM_small {n:Nd} {t:Tm} (hn:Wf n) (h:tmplM n = .ok t) : ∀ s∈t.slots,SmallV s.d:=by
 unfold tmplM at h
 split at h
 ·split at h
  ·rename_i a x l hk
   split at h
   ·cases hs:slotsM l [] with
    |error e=>rw[hs] at h; cases h
    |ok r =>
     rw[hs] at h
     cases h
     exact slotsM_small l [] r (fun y hy=>hn.kids y (by rw[hk]; simp[hy])) (fun s hs=>by cases hs) hs
   ·cases h
  ·cases h
 ·cases h
theorem fillL_small (slots:List Sl) : ∀ (ns:List (List UInt8)) (vs:List Vl) (had:List (List UInt8)) (acc r:List Vl),(∀ v∈vs,SmallV v)->(∀ v∈acc,SmallV v)->fillL slots ns vs had acc = .ok r -> ∀ v∈r,SmallV v
 |[],_,_,acc,r,_,ha,h=>by cases h; exact ha
 |_::_,[],_,_,r,_,_,h=>by cases h
 |n::ns,v::vs,had,acc,r,hv,ha,h=>by
  simp only[fillL] at h
  split at h
  ·cases h
  ·split at h
   ·cases h
   ·refine fillL_small slots ns vs _ _ r (fun x hx=>hv x (List.mem_cons_of_mem _ hx)) (fun x hx => ?_) h
    rcases List.mem_or_eq_of_mem_set hx with hx|rfl
    ·exact ha x hx
    ·exact hv _ (List.mem_cons_self ..)
theorem fillL_err (slots:List Sl) : ∀ (ns:List (List UInt8)) (vs:List Vl) (had:List (List UInt8)) (acc:List Vl) (e:Int),fillL slots ns vs had acc = .error e -> ¬ e=0
 |[],_,_,acc,e,h=>by cases h
 |_::_,[],_,_,e,h=>by cases h; decide
 |n::ns,v::vs,had,acc,e,h=>by
  simp only[fillL] at h
  split at h
  ·cases h; decide
  ·split at h
   ·cases h; decide
   ·exact fillL_err slots ns vs _ _ e h
theorem fillM_err {t:Tm} {names:List (List UInt8)} {l:List Vl} {e:Int} (h:fillM t names l = .error e) : ¬ e=0:=by
 unfold fillM at h
 split at h
 ·exact fillL_err _ _ _ _ _ _ h
 ·cases h; decide
theorem fills_law (b:List UInt8) (names:List (List UInt8)) (l:List Vl) (hl : ∀ v∈l,I64 v.k/\I64 v.i/\v.s.length<=9223372036854775807):IsTrue (callE efns given f_law9_TmplFills [.lst (byts b),.lst (names.map .str),.lst (l.map Vl.p)] ⟨[],[],[],[]⟩):=by
 rw[callE_fn efns given (c:=e_law9_TmplFills) rfl rfl]
 have hk:=known_t
 by_cases hb:b.length>2000
 ·have hc:((b.length:Int)>2000)=True:=eq_true (by omega)
  simp only[e_law9_TmplFills,go_sem,hk,byts_length,hc]
  exact Good.done rfl
 have hc:((b.length:Int)>2000)=False:=eq_false (by omega)
 by_cases hb1:names.length>30
 ·have hc1:((names.length:Int)>30)=True:=eq_true (by omega)
  simp only[e_law9_TmplFills,go_sem,hk,byts_length,hc,hc1,List.length_map]
  exact Good.done rfl
 have hc1:((names.length:Int)>30)=False:=eq_false (by omega)
 by_cases hb2:l.length>30
 ·have hc2:((l.length:Int)>30)=True:=eq_true (by omega)
  simp only[e_law9_TmplFills,go_sem,hk,byts_length,hc,hc1,hc2,List.length_map]
  exact Good.done rfl
 have hc2:((l.length:Int)>30)=False:=eq_false (by omega)
 have h2:=read_t b
 cases hm:readM b with
 |error e =>
  obtain⟨p,e⟩:=e
  obtain⟨e1,e2,e3,e4,e5⟩:=readM_err hm
  have he : ¬ e=0:=by simp only at e1; omega
  rw[hm] at h2
  simp only[readV,wrongV] at h2
  simp only[e_law9_TmplFills,go_sem,hk,byts_length,hc,hc1,hc2,List.length_map,h2,eq_false he,ne_eq]
  exact Good.done rfl
 |ok n =>
  obtain⟨hw,hsz⟩:=readM_ok hm
  have hps:=readM_pos hm
  rw[hm] at h2
  simp only[readV,noneW] at h2
  cases n with
  |nil =>
   simp only[e_law9_TmplFills,go_sem,hk,byts_length,hc,hc1,hc2,List.length_map,h2,ne_eq,List.map_nil]
   exact Good.done rfl
  |cons x n =>
   have hwx:=hw x (List.mem_cons_self ..)
   have hpx:=hps x (List.mem_cons_self ..)
   have hxs:x.sz<=4096:=by simp only[Nd.szs] at hsz; omega
   have hkl:x.kids.length<=4096:=by have:=Nd.sz_eq x; have:=Nd.len_sz x.kids; omega
   have t3:=rtparse_t x hwx.ndS2 (by omega)
   have hat:evIdx 5 (x.p::n.map Nd.p) 0=some (.ref x.cells):=Nd.at_ (l:=x::n) (n:=0) (by simp)
   have c0:((((n.map Nd.p).length+1:Nat):Int)=0)=False:=eq_false (by omega)
   rw[Nd.p_eq] at t3
   simp only[Nd.cells] at t3 hat
   cases ht:tmplM x with
   |error e =>
    have he:=tmplM_err hpx ht
    rw[ht] at t3
    simp only[rparseV,zTm,Tm.p,List.map_nil,wrongV,sChar] at t3
    simp only[e_law9_TmplFills,go_sem,hk,byts_length,hc,hc1,hc2,List.length_map,h2,ne_eq,List.map_cons,c0,hat,t3,eq_false he]
    exact Good.done rfl
   |ok t =>
    have hok:=tmplM_ok ht
    have hl16:=hok.len
    have hsm:=tmplM_small hwx ht
    rw[ht] at t3
    simp only[rparseV,Tm.p,noneW] at t3
    have q1:=tto_t t (by omega)
    have q2:=tfill_t t names l (by omega) (by omega) (by omega)
    have q3:=rtfill_t t names l (by omega) (by omega) (by omega)
    have hnm:t.name.length<=100:=by have:=(goodM_len hok.name).1; omega
    have hsn : ∀ s∈t.slots,s.name.length<=100:=fun s hs=>by have:=(goodM_len (OkL.good hok.slots s hs).1).1; omega
    simp only[Tm.p] at q1 q2 q3
    simp only[e_law9_TmplFills,go_sem,hk,byts_length,hc,hc1,hc2,List.length_map,h2,ne_eq,List.map_cons,c0,hat,t3]
    refine Good.for l.length (fun i fr st=>fr=[.undef,.lst (names.map .str),.lst (l.map Vl.p),.undef,.undef,.ptr 1 0,.undef,.int .i64 (i:Int)]++List.replicate 21 .undef /\
     (∃ bt,st=⟨[[.lst [],.int .i64 0],[.str t.name,.lst (t.slots.map Sl.p)],[.lst [],.int .i64 0]],[],bt,[]⟩) /\ ∀ v∈l.take i,rightM v=true) ?_ ?_ ?_
    ·rintro i fr st hi ⟨rfl,⟨bt,rfl⟩,hr⟩ k hk
     have c1:((i:Int)<(l.length:Int))=True:=eq_true (by omega)
     have hat2:evIdx 3 (l.map Vl.p) (i:Int)=some (.ref (vcs l[i])):=idx_of (e:=l[i].p) (map_at hi) rfl
     have hrt:=rightM_t l[i] (hl l[i] (List.getElem_mem hi)).2.2
     simp only[vcs] at hat2
     simp only[Vl.p] at hrt
     cases hb3:rightM l[i] with
     |false =>
      rw[hb3] at hrt
      simp only[b_law9_TmplFills_0,go_sem,List.length_map,c1,hat2,hrt]
      exact Good.done rfl
     |true =>
      rw[hb3] at hrt
      simp only[b_law9_TmplFills_0,go_sem,List.length_map,c1,hat2,hrt,wrapN (n:=i) (by omega)]
      refine hk _ _ ⟨rfl,⟨_,rfl⟩,fun v hv => ?_⟩
      rw[take_succ_at hi,List.mem_append,List.mem_singleton] at hv
      rcases hv with hv|rfl
      ·exact hr v hv
      ·exact hb3
    ·rintro fr st ⟨rfl,⟨bt,rfl⟩,hr⟩ k
     rw[List.take_length] at hr
     have hsv : ∀ v∈l,SmallV v:=fun v hv=>⟨rightM_small (hr v hv),(hl v hv).2.1⟩
     have hfin : ∀ m:List Vl,m.length<=16->tupV (callE efns given) (.call 0 f_ref3_Rows) [.lst (m.map Vl.p),.lst (m.map Vl.p)]=some (.bool true):=fun m hm=>by rw[rows_t (by omega) (by omega),decide_eq_true rfl]
     have slots : ∀ (v:PV) (e:Int) (K:EX->Fr->St->Option (PV × St)) (st:St),st.boxes[3]? = some [.str t.name,.lst (t.slots.map Sl.p)]->st.boxes[1]? = some [.str t.name,.lst (t.slots.map Sl.p)] ->
       (∀ fr st',st'=st->fr=[.undef,.lst (names.map .str),.undef,.undef,.undef,.ptr 1 0,.undef,.undef,.ptr 3 0,v,v,.int .i64 e]++List.replicate 17 .undef->Good (fun v _=>v = .bool true) (K (.exit 2) (fr.set 12 (.int .i64 (names.length:Int))) st)) ->
       Good (fun v _=>v = .bool true) (runL (callE efns given) [false,true,false,false,false,true,false,false,true,true,true,true,true,false,false,false,false,false,false,false,false,false,false,false,false,false,false,false,false] b_law9_TmplFills_1
        ([.undef,.lst (names.map .str),.undef,.undef,.undef,.ptr 1 0,.undef,.undef,.ptr 3 0,v,v,.int .i64 e,.int .i64 0]++List.replicate 16 .undef) st K):=by
      intro v e K st h3 h1 hK
      refine Good.for names.length (fun i fr st'=>fr=[.undef,.lst (names.map .str),.undef,.undef,.undef,.ptr 1 0,.undef,.undef,.ptr 3 0,v,v,.int .i64 e,.int .i64 (i:Int)]++List.replicate 16 .undef/\st'=st) ?_ ?_ ?_
      ·rintro i fr st' hi ⟨rfl,rfl⟩ k hk
       have c1:((i:Int)<(names.length:Int))=True:=eq_true (by omega)
       have hat1:evIdx 1 (names.map PV.str) (i:Int)=some (.ref [.str names[i]]):=idx_of (e:=.str names[i]) (map_at hi) rfl
       have s1:=tslot_t t names[i] (by omega)
       have s2:=rslot_t t names[i] (by omega)
       simp only[Tm.p] at s1 s2
       cases hp:placeL names[i] t.slots with
       |none =>
        rw[hp] at s1 s2
        simp only[placeV,idxI] at s1 s2
        simp only[b_law9_TmplFills_1,go_sem,List.length_map,c1,hat1,h3,h1,s1,s2,ne_eq,wrapN (n:=i) (by omega)]
        exact hk _ _ ⟨rfl,rfl⟩
       |some j =>
        rw[hp] at s1 s2
        simp only[placeV,idxI] at s1 s2
        have c2:((j:Int)>=0)=True:=eq_true (by omega)
        simp only[b_law9_TmplFills_1,go_sem,List.length_map,c1,c2,hat1,h3,h1,s1,s2,ne_eq,wrapN (n:=i) (by omega)]
        exact hk _ _ ⟨rfl,rfl⟩
      ·rintro fr st' ⟨rfl,rfl⟩ k
       simp only[b_law9_TmplFills_1,go_sem,List.length_map,Int.lt_irrefl]
       exact hK _ _ rfl rfl
      ·exact⟨rfl,rfl⟩
     cases hf:fillM t names l with
     |error e =>
      have he:=fillM_err hf
      rw[hf] at q2 q3
      have r0:=hfin [] (by simp)
      simp only[fillV,List.map_nil] at q2 q3 r0
      simp only[b_law9_TmplFills_0,go_sem,List.length_map,Int.lt_irrefl,q1,q2,q3,r0,ne_eq]
      refine slots (.lst []) e _ _ rfl rfl (fun fr st' h1 h2 => ?_)
      subst h2
      simp only[go_sem,eq_false he,ne_eq]
      exact Good.done rfl
     |ok m =>
      have hml:m.length=t.slots.length:=by
       unfold fillM at hf
       rw[if_pos (by
        by_cases h:names.length=l.length
        ·exact h
        ·rw[if_neg h] at hf; cases hf)] at hf
       simpa using fillL_len _ _ _ _ _ _ hf
      have hmv : ∀ v∈m,SmallV v:=by
       unfold fillM at hf
       split at hf
       ·exact fillL_small _ _ _ _ _ _ hsv (fun v hv=>by obtain⟨s,hs,rfl⟩:=List.mem_map.1 hv; exact hsm s hs) hf
       ·cases hf
      rw[hf] at q2 q3
      have r0:=hfin m (by omega)
      have x1:=ttext_t t m hnm (by omega) hsn hmv (by omega) (by omega)
      have x2:=rtext9_t t m hnm (by omega) hsn hmv (by omega)
      simp only[fillV,Tm.p] at q2 q3 r0 x1 x2
      simp only[b_law9_TmplFills_0,go_sem,List.length_map,Int.lt_irrefl,q1,q2,q3,r0,ne_eq]
      refine slots (.lst (m.map Vl.p)) 0 _ _ rfl rfl (fun fr st' h1 h2 => ?_)
      subst h2
      simp only[go_sem,x1,x2,ne_eq]
      exact Good.done rfl
    ·exact⟨rfl,⟨_,rfl⟩,by simp⟩
end Go.Proofs.YthjnlpfibakacaaGreatDoorPe.Tmpf
