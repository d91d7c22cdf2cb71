/- A part of the proof of this folder's statement; it has no condition of its own. -/
import Derived.Test.YthjnlpfibakacaaGreatDoorPePure
import Derived.Laws.Tables
set_option linter.unusedVariables false
set_option linter.unusedSimpArgs false
namespace Go.Proofs.YthjnlpfibakacaaGreatDoorPe
open Go Go.RowKit
theorem fold_list (off:Nat) : ∀ (l:List Value) (k:Nat) (A:Array Value),off+k+l.length<=A.size ->
  ((l.zipIdx k).foldl (fun cs (p:Value × Nat)=>cs.setIfInBounds (off+p.2) p.1) A).size=A.size /\
  ∀ i,((l.zipIdx k).foldl (fun cs (p:Value × Nat)=>cs.setIfInBounds (off+p.2) p.1) A)[i]? = if off+k<=i/\i<off+k+l.length then l[i-(off+k)]? else A[i]?
 |[],k,A,_=>⟨rfl,fun i=>by rw[if_neg (by simp)]; rfl⟩
 |v::l,k,A,h=>by
  simp only[List.length_cons] at h
  obtain⟨h1,h2⟩:=fold_list off l (k+1) (A.setIfInBounds (off+k) v) (by simp; omega)
  refine⟨by simpa using h1,fun i => ?_⟩
  rw[List.zipIdx_cons,List.foldl_cons,h2 i,List.length_cons]
  by_cases c1:off+(k+1)<=i/\i<off+(k+1)+l.length
  ·rw[if_pos c1,if_pos (by omega),show i-(off+k)=(i-(off+(k+1)))+1 by omega]
   rfl
  ·rw[if_neg c1,Array.getElem?_setIfInBounds]
   by_cases c2:off+k=i
   ·subst c2
    rw[if_pos rfl,if_pos (by omega),if_pos (by omega)]
    simp
   ·rw[if_neg c2,if_neg (by omega)]
theorem fold_set (vs A:Array Value) (off:Nat) (h:off+vs.size<=A.size) :
  (vs.zipIdx.foldl (fun cs (p:Value × Nat)=>cs.setIfInBounds (off+p.2) p.1) A).size=A.size /\
  ∀ i,(vs.zipIdx.foldl (fun cs (p:Value × Nat)=>cs.setIfInBounds (off+p.2) p.1) A)[i]? = if off<=i/\i<off+vs.size then vs[i-off]? else A[i]? := by
 have:=fold_list off vs.toList 0 A (by simpa using h)
 rw[<- Array.foldl_toList,Array.toList_zipIdx]
 simpa using this
def Reps (G:Gh) (w:World) (cs:List PV) (A:Array Value):Prop:=A.size=cs.length /\ ∀ j (h:j<cs.length),Rep G w (cs[j]) (A.getD j Go.undef)
theorem Reps.get? {G:Gh} {w:World} {cs:List PV} {A:Array Value} (h:Reps G w cs A) {j:Nat} (hj:j<cs.length) : ∃ v,A[j]? = some v/\Rep G w (cs[j]) v:=by
 have:=h.2 j hj
 refine⟨A.getD j Go.undef,?_,this⟩
 rw[Array.getD_eq_getD_getElem?,Array.getElem?_eq_getElem (by rw[h.1]; exact hj)]
 rfl
theorem Reps.of_get? {G:Gh} {w:World} {cs:List PV} {A:Array Value} (hl:A.size=cs.length) (h : ∀ j (hj:j<cs.length),∃ v,A[j]? = some v/\Rep G w (cs[j]) v):Reps G w cs A:=by
 refine⟨hl,fun j hj => ?_⟩
 obtain⟨v,hv,hr⟩:=h j hj
 rw[Array.getD_eq_getD_getElem?,hv]
 exact hr
theorem lay_ok {G:Gh} {w:World} {cs:List PV} {A:Array Value} {x:PV} {v:Value} {o n:Nat} (hA:Reps G w cs A) (hx:Rep G w x v) (hn:x.cells.length=n) (h0:n≠0) (ho:o+n<=cs.length) :
  v.cells.size=n/\Reps G w (cs.take o++(x.cells++cs.drop (o+n))) (v.cells.zipIdx.foldl (fun cs (p:Value × Nat)=>cs.setIfInBounds (o+p.2) p.1) A):=by
 obtain⟨h1,h2⟩:=hx.cells (PV.ne_undef_of_cells hn (by omega))
 have hs:v.cells.size=n:=by omega
 obtain⟨f1,f2⟩:=fold_set v.cells A o (by rw[hA.1]; omega)
 refine⟨hs,.of_get? (by rw[f1,hA.1]; simp; omega) fun j hj => ?_⟩
 rw[f2 j]
 simp only[List.length_append,List.length_take,List.length_drop] at hj
 by_cases c1:j<o
 ·rw[if_neg (by omega),List.getElem_append_left (by simp; omega)]
  obtain⟨u,hu,hr⟩:=hA.get? (j:=j) (by omega)
  exact⟨u,hu,by simpa using hr⟩
 ·by_cases c2:j<o+n
  ·rw[if_pos (by omega)]
   have hr:=h2 (j-o) (by omega)
   refine⟨v.cells.getD (j-o) Go.undef,?_,?_⟩
   ·rw[Array.getD_eq_getD_getElem?,Array.getElem?_eq_getElem (by omega)]; rfl
   ·rw[List.getElem_append_right (by simp; omega)]
    simp only[List.length_take,Nat.min_eq_left (show o<=cs.length by omega)]
    rw[List.getElem_append_left (by omega)]
    exact hr
  ·rw[if_neg (by omega),List.getElem_append_right (by simp; omega)]
   obtain⟨u,hu,hr⟩:=hA.get? (j:=j) (by omega)
   refine⟨u,hu,?_⟩
   simp only[List.length_take,Nat.min_eq_left (show o<=cs.length by omega)]
   rw[List.getElem_append_right (by omega),List.getElem_drop]
   have e:o+n+(j-o-x.cells.length)=j:=by omega
   simp only[e]
   exact hr
theorem fill_ok {P:Program} {G:Gh} {w:World} {fr:Fr} {a:Act} (hf:FrRel G w fr a) {fs:Array Field} {places:List (Nat × Nat)} (hp : ∀ (i:Nat) (f:Field) (n:Nat),fs[i]? = some f->sizeT P f.type=some n->places[i]? = some (f.offset,n)) :
  ∀ (ps:List (Nat × Operand)) (qs:List (Nat × Nat × Opd)) (cs zs:List PV) (A:Array Value),cParts P fs ps=some qs->Reps G w cs A->fillP cs (qs.map fun p=>(p.1,p.2.1,p.2.2.ev fr))=some zs ->
   ∃ B,Instr.fill (places.toArray[·]?) A (ps.map fun p=>(p.1,a.eval p.2))=some B/\Reps G w zs B
 |[],qs,cs,zs,A,hc,hA,h=>by
  cases hc
  cases h
  exact⟨A,rfl,hA⟩
 |(i,x)::ps,qs,cs,zs,A,hc,hA,h=>by
  unfold cParts at hc
  split at hc
  ·rename_i f y l h1 h2 h3
   split at hc
   ·rename_i n hn
    cases hc
    simp only[List.map_cons,fillP] at h
    split at h
    ·rename_i hcond
     have hx:=cOpd_rep hf h2
     obtain⟨_,_,_,h0⟩:=sizeT_some hn
     obtain⟨hs,hA'⟩:=lay_ok hA hx hcond.1 h0 hcond.2
     obtain⟨B,hB,hz⟩:=fill_ok hf hp ps l _ zs _ h3 hA' h
     refine⟨B,?_,hz⟩
     have hpl:=hp i f n h1 hn
     simp only[List.map_cons,Instr.fill]
     simp only[List.getElem?_toArray,hpl]
     rw[if_neg (by simp[hs,hA.1]; omega)]
     have e:(fun x:Nat=>places.toArray[x]?)=(fun x:Nat=>places[x]?):=funext fun x=>by simp
     rw[e] at hB
     exact hB
    ·cases h
   ·cases hc
  ·cases hc
theorem build_ok {P:Program} {G:Gh} {w:World} {fr:Fr} {a:Act} (hf:FrRel G w fr a) {sh:FuncId->Nat} {t:TypeId} {ps:Array (Nat × Operand)} {i:IOp} (hc:cOp P sh (.build t ps)=some i) {cl:CallF} {st st':St} {z:PV}
  (h:evOp cl i fr st=some (z,st')):st'=st /\ ∃ r,Yv P (Instr.build t (ps.map fun p=>(p.1,a.eval p.2))) r/\Rep G w z r:=by
 simp only[cOp] at hc
 split at hc
 ·rename_i fs hu
  split at hc
  ·rename_i zs qs hz hq
   split at hc
   ·rename_i hsz
    cases hc
    simp only[evOp] at h
    cases h1:fillP zs (qs.map fun p=>(p.1,p.2.1,p.2.2.ev fr)) with
    |none=>rw[h1] at h; cases h
    |some cs =>
     rw[h1] at h; cases h
     refine⟨rfl,?_⟩
     unfold zeroT at hz
     split at hz
     ·rename_i it hit
      split at hz
      ·rename_i zv hzv
       obtain⟨sizes,hsizes⟩:=Option.isSome_iff_exists.1 hsz
       obtain⟨e1,e2⟩:=mapO_some hsizes
       obtain⟨z1,z2⟩:=mapO_some hz
       have hA:Reps G w zs zv.cells:=by
        refine⟨by simpa using z1.symm,fun j hj => ?_⟩
        have:=z2 j (by omega) hj
        rw[Array.getD_eq_getD_getElem?,Array.getElem?_eq_getElem (by have:=z1; simp at this; omega)]
        exact .d (cv1_rep (by simpa using this))
       have hpl : ∃ places,fs.toList.mapM (fun f=>(P.info? f.type).map fun i=>(f.offset,i.size))=some places /\ ∀ (i:Nat) (f:Field) (n:Nat),fs[i]? = some f->sizeT P f.type=some n->places[i]? = some (f.offset,n):=by
        have : ∀ (l:List Field) (m:List Nat),mapO (sizeT P) (l.map (·.type))=some m ->
          ∃ places,l.mapM (fun f=>(P.info? f.type).map fun i=>(f.offset,i.size))=some places /\ ∀ (i:Nat) (f:Field) (n:Nat),l[i]? = some f->sizeT P f.type=some n->places[i]? = some (f.offset,n):=by
         intro l
         induction l with
         |nil=>intro m _; exact⟨[],rfl,fun i f n h=>by simp at h⟩
         |cons f l ih =>
          intro m hm
          simp only[List.map_cons,mapO] at hm
          cases hs:sizeT P f.type with
          |none=>rw[hs] at hm; cases hm
          |some n =>
           rw[hs] at hm
           cases hr:mapO (sizeT P) (l.map (·.type)) with
           |none=>rw[hr] at hm; cases hm
           |some ns =>
            obtain⟨pl,hpl,hq⟩:=ih ns hr
            obtain⟨i,hi,hin,_⟩:=sizeT_some hs
            refine⟨(f.offset,i.size)::pl,by simp[List.mapM_cons,hi,hpl],fun k g m hk hg => ?_⟩
            cases k with
            |zero =>
             simp only[List.getElem?_cons_zero,Option.some.injEq] at hk
             subst hk
             rw[hs] at hg
             cases hg
             simp[hin]
            |succ k=>exact hq k g m (by simpa using hk) hg
        obtain⟨pl,h1,h2⟩:=this fs.toList sizes hsizes
        exact⟨pl,h1,fun i f n hf=>h2 i f n (by simpa using hf)⟩
       obtain⟨places,hp1,hp2⟩:=hpl
       obtain⟨B,hB,hR⟩:=fill_ok hf hp2 ps.toList qs zs cs zv.cells hq hA h1
       refine⟨.agg B,fun w'=>run_build w' t _ B ?_,.agg hR.1 hR.2⟩
       unfold Program.built
       simp only[hit,hu,hzv,hp1]
       simpa using hB
      ·cases hz
     ·cases hz
   ·cases hc
  ·cases hc
 ·cases hc
theorem bound_ok {P:Program} {G:Gh} {w:World} {x:PV} {v:Value} (hx:Rep G w x v) {y y' d n:Nat} (h:bnd (some x) y d=some n) (hy:y<=y') (code:BoundsCode):n<=y /\ ∀ w',(Instr.sliceBound v y' code).run P w' = .ok n w':=by
 unfold bnd at h
 split at h
 ·rename_i he; cases he
 ·rename_i k i he
  cases he
  split at h
  ·rename_i hi
   cases h
   obtain rfl:=hx.int_inv
   refine⟨by omega,fun w' => ?_⟩
   have:0<=i/\i<=(y':Int):=⟨hi.1,by omega⟩
   simp[Instr.sliceBound,asIntOf,this]
  ·cases h
 ·cases h
theorem opd_opt {G:Gh} {w:World} {fr:Fr} {a:Act} (hf:FrRel G w fr a) {x:Option Operand} {y:Option Opd} (h:cOpt x=some y) :
  (x=none/\y=none) \/ ∃ u v,x=some u/\y=some v/\Rep G w (v.ev fr) (a.eval u):=by
 cases x with
 |none=>cases h; exact .inl ⟨rfl,rfl⟩
 |some u =>
  simp only[cOpt] at h
  cases h1:cOpd u with
  |none=>rw[h1] at h; cases h
  |some v=>rw[h1] at h; cases h; exact .inr ⟨u,v,rfl,rfl,cOpd_rep hf h1⟩
theorem bounds2_ok {P:Program} {G:Gh} {w:World} {fr:Fr} {a:Act} (hf:FrRel G w fr a) {lo hi:Option Operand} {lo' hi':Option Opd} (h1:cOpt lo=some lo') (h2:cOpt hi=some hi') {len cap h l:Nat} (hc:len<=cap)
  (hh:bnd (hi'.map (·.ev fr)) len len=some h) (hl:bnd (lo'.map (·.ev fr)) h 0=some l) (isS:Bool) :
  l<=h/\h<=len /\ ∀ w',(Instr.sliceBounds isS len cap (lo.map a.eval) (hi.map a.eval) none).run P w' = .ok (l,h,cap) w':=by
 rcases opd_opt hf h2 with ⟨rfl,rfl⟩|⟨u,v,rfl,rfl,hr⟩
 ·simp only[Option.map_none,bnd,Option.some.injEq] at hh
  subst hh
  rcases opd_opt hf h1 with ⟨rfl,rfl⟩|⟨u',v',rfl,rfl,hr'⟩
  ·simp only[Option.map_none,bnd,Option.some.injEq] at hl
   subst hl
   exact⟨Nat.zero_le _,Nat.le_refl _,fun w'=>by simp[Instr.sliceBounds]⟩
  ·obtain⟨b1,b2⟩:=bound_ok (P:=P) hr' hl (Nat.le_refl _) .sliceB
   exact⟨b1,Nat.le_refl _,fun w'=>by simp[Instr.sliceBounds,b2]⟩
 ·obtain⟨c1,c2⟩:=bound_ok (P:=P) hr hh hc (if isS then .sliceAcap else .sliceAlen)
  rcases opd_opt hf h1 with ⟨rfl,rfl⟩|⟨u',v',rfl,rfl,hr'⟩
  ·simp only[Option.map_none,bnd,Option.some.injEq] at hl
   subst hl
   exact⟨Nat.zero_le _,c1,fun w'=>by simp[Instr.sliceBounds,c2]⟩
  ·obtain⟨b1,b2⟩:=bound_ok (P:=P) hr' hl (Nat.le_refl _) .sliceB
   exact⟨b1,c1,fun w'=>by simp[Instr.sliceBounds,c2,b2]⟩
theorem bounds3_ok {P:Program} {G:Gh} {w:World} {fr:Fr} {a:Act} (hf:FrRel G w fr a) {lo hi mx:Option Operand} {lo' hi':Option Opd} {m:Opd} (h1:cOpt lo=some lo') (h2:cOpt hi=some hi') (h3:cOpt mx=some (some m))
  {len cap h l c:Nat} (hc:len<=cap) (hm:bnd (some (m.ev fr)) len len=some c) (hh:bnd (hi'.map (·.ev fr)) c c=some h) (hl:bnd (lo'.map (·.ev fr)) h 0=some l) (hne:hi'≠none) :
  l<=h/\h<=c/\c<=len /\ ∀ w',(Instr.sliceBounds true len cap (lo.map a.eval) (hi.map a.eval) (mx.map a.eval)).run P w' = .ok (l,h,c) w':=by
 rcases opd_opt hf h3 with ⟨_,h⟩|⟨um,vm,rfl,e,hrm⟩
 ·cases h
 cases e
 obtain⟨m1,m2⟩:=bound_ok (P:=P) hrm hm hc .slice3Acap
 rcases opd_opt hf h2 with ⟨rfl,rfl⟩|⟨u,v,rfl,rfl,hr⟩
 ·exact absurd rfl hne
 ·obtain⟨c1,c2⟩:=bound_ok (P:=P) hr hh (Nat.le_refl _) .slice3B
  rcases opd_opt hf h1 with ⟨rfl,rfl⟩|⟨u',v',rfl,rfl,hr'⟩
  ·simp only[Option.map_none,bnd,Option.some.injEq] at hl
   subst hl
   exact⟨Nat.zero_le _,c1,m1,fun w'=>by simp[Instr.sliceBounds,m2,c2]⟩
  ·obtain⟨b1,b2⟩:=bound_ok (P:=P) hr' hl (Nat.le_refl _) .slice3C
   exact⟨b1,c1,m1,fun w'=>by simp[Instr.sliceBounds,m2,c2,b2]⟩
theorem RepD.lst_inv {F:Fix} {w:World} {l:List PV} {v:Value} (h:RepD F w (.lst l) v) : ∃ (a:Option Addr) (cap b o sz:Nat) (vs:Nat->Value),v = .slice a l.length cap/\l.length<=cap/\(l≠[]->a=some ⟨b,o,none⟩) /\
  (∀ i,i<l.length->(vs i).cells.size=sz) /\
  (∀ i j,i<l.length->j<sz->F b (o+i*sz+j)/\w.cell? ⟨b,o+i*sz+j,none⟩=some ((vs i).cells.getD j Go.undef)/\((vs i).cells.getD j Go.undef).oneCell'=true) /\
  ∀ i (h:i<l.length),RepD F w (l[i]) (vs i):=by
 cases h with
 |sl hx hcap ha hsz hc hr =>
  rcases hx with hx|⟨hx,_⟩
  ·cases hx; exact⟨_,_,_,_,_,_,rfl,hcap,ha.1,hsz,hc,hr⟩
  ·cases hx
theorem RepD.lst_nil {F:Fix} {w:World} {l:List PV} {len cap:Nat} (h:RepD F w (.lst l) (.slice none len cap)):cap=0:=by
 cases h with
 |sl hx hcap ha hsz hc hr=>exact ha.2 rfl
theorem RepD.empty {F:Fix} {w:World} (x:PV) (a:Option Addr) (cap:Nat) (hx:x = .lst []\/x = .full []/\cap=0) (hn:a=none->cap=0):RepD F w x (.slice a 0 cap) :=
 .sl (l:=[]) (b:=0) (o:=0) (sz:=0) (vs:=fun _=>Go.undef) hx (Nat.zero_le _) ⟨fun h=>absurd rfl h,hn⟩ (fun i hi=>absurd hi (Nat.not_lt_zero _)) (fun i j hi=>absurd hi (Nat.not_lt_zero _)) (fun i hi=>absurd hi (Nat.not_lt_zero _))
theorem RepD.part {F:Fix} {w:World} {l:List PV} {a:Option Addr} {len cap n o h c:Nat} (hd:RepD F w (.lst l) (.slice a len cap)) (hoh:o<=h) (hhl:h<=l.length) (hs:sizesOk n o l=true) (hn0:n≠0) (hhc:h<=c) (hcc:c<=cap) (x:PV)
  (hx:x = .lst ((l.take h).drop o)\/x = .full ((l.take h).drop o)/\c=h):RepD F w x (.slice (if c=o then a else a.map (·.add (o*n))) (h-o) (c-o)):=by
 have hnil:a=none->cap=0:=fun e=>by subst e; exact hd.lst_nil
 obtain⟨a',cap',b,q,sz,vs,e,hcap,ha,hsz,hc,hr⟩:=hd.lst_inv
 cases e
 have hlen:((l.take h).drop o).length=h-o:=by simp; omega
 by_cases h0:h=o
 ·subst h0
  have e1:(l.take h).drop h=[]:=by apply List.drop_eq_nil_of_le; simp; omega
  rw[e1] at hx
  rw[Nat.sub_self]
  exact .empty x _ _ (hx.imp id fun ⟨h1,h2⟩=>⟨h1,by omega⟩) fun e=>by
   split at e
   ·omega
   ·have:=hnil (by simpa using e); omega
 ·have hne:l≠[]:=by
   rintro rfl
   simp at hhl
   omega
  rw[if_neg (by omega),<- hlen]
  have hsn:o*n=o*sz:=by
   unfold sizesOk at hs
   rcases Nat.eq_zero_or_pos o with rfl|hpos
   ·simp
   ·cases l with
    |nil=>exact absurd rfl hne
    |cons e l =>
     have hq:e.cells.length=n:=by
      have h3:(o==0)=false:=by simp; omega
      simp only[h3,Bool.false_or,beq_iff_eq] at hs
      exact hs
     have h1:=hsz 0 (by simp)
     by_cases hu:e = .undef
     ·subst hu
      simp[PV.cells] at hq
      exact absurd hq.symm hn0
     ·have h2:=(hr 0 (by simp)).cells hu
      have h3:(vs 0).cells.size=e.cells.length:=h2.1
      rw[h1] at h3
      rw[h3,hq]
  refine .sl (l:=(l.take h).drop o) (b:=b) (o:=q+o*n) (sz:=sz) (vs:=fun i=>vs (o+i)) (hx.imp id fun ⟨h1,h2⟩=>⟨h1,by rw[hlen,h2]⟩) (by rw[hlen]; omega) ⟨fun _=>by rw[ha hne]; simp[addr_add],fun e=>by rw[ha hne] at e; simp at e⟩ (fun i hi=>hsz _ (by omega)) (fun i j hi hj => ?_) (fun i hi => ?_)
  ·have:=hc (o+i) j (by omega) hj
   rw[hsn]
   have e2:q+o*sz+i*sz+j=q+(o+i)*sz+j:=by rw[Nat.add_mul]; omega
   rw[e2]
   exact this
  ·have:=hr (o+i) (by omega)
   simpa using this
def PartOf (v r:Value):Prop := ∀ ad m c,v = .slice ad m c -> ∃ ad' m' c',r = .slice ad' m' c'/\ad'.isSome=ad.isSome/\c'<=c
theorem part_of {v:Value} {ad:Option Addr} {m cap o n k:Nat} (hv:v = .slice ad m cap):PartOf v (.slice (if cap=o then ad else ad.map (·.add (o*n))) k (cap-o)):=by
 intro ad2 m2 c2 e
 rw[hv] at e
 cases e
 refine⟨_,_,_,rfl,?_,by omega⟩
 split <;> simp
theorem part_of' {v:Value} {ad:Option Addr} {m cap o n k c:Nat} (hv:v = .slice ad m cap) (hc:c<=cap):PartOf v (.slice (if c=o then ad else ad.map (·.add (o*n))) k (c-o)):=by
 intro ad2 m2 c2 e
 rw[hv] at e
 cases e
 refine⟨_,_,_,rfl,?_,by omega⟩
 split <;> simp
theorem Rep.there {G:Gh} {w:World} {x:PV} {v:Value} (h:Rep G w x v) (hx:x.there=true) : ∃ a n c,v = .slice (some a) n c:=by
 cases x with
 |emp=>obtain⟨a,rfl⟩:=h.emp_inv; exact⟨a,_,_,rfl⟩
 |emc=>obtain⟨a,c,rfl⟩:=h.emc_inv; exact⟨a,_,_,rfl⟩
 |lst l=>cases l with
  |nil=>cases hx
  |cons e l=>exact h.slice_some (.inl rfl)
 |full l=>cases l with
  |nil=>cases hx
  |cons e l=>exact h.slice_some (.inr (.inl rfl))
 |own r l=>cases l with
  |nil=>cases hx
  |cons e l=>exact h.slice_some (.inr (.inr ⟨r,rfl⟩))
 |hs n b o len=>obtain⟨blk,cap,_,_,_,rfl⟩:=h.hs_inv; exact⟨_,_,_,rfl⟩
 |_=>cases hx
theorem kp_ok {P:Program} {G:Gh} {w:World} {x z:PV} {v:Value} {s:Sem Value} (hx:Rep G w x v) (h : ∃ r,Yv P s r/\Rep G w z r/\PartOf v r) : ∃ r,Yv P s r/\Rep G w (PV.kp x z) r:=by
 obtain⟨r,h1,h2,_⟩:=h
 exact⟨r,h1,h2⟩
theorem hsub_ok {P:Program} {G:Gh} {w:World} {fr:Fr} {a:Act} (hf:FrRel G w fr a) {t e:TypeId} {x:Operand} {lo hi mx:Option Operand} {lo' hi' mx':Option Opd} (h2:cOpt lo=some lo') (h3:cOpt hi=some hi') (h4:cOpt mx=some mx')
  (hmh : ¬ (mx'.isSome=true/\hi'.isNone=true)) {ti:TypeInfo} {n m b o len:Nat} (hu:P.underlying t=some (.slice e)) (hti:P.info? e=some ti) (htn:ti.size=n) {z:PV} (hx:Rep G w (.hs m b o len) (a.eval x))
  (h:hsubV n m b o len (lo'.map (·.ev fr)) (hi'.map (·.ev fr)) (mx'.map (·.ev fr))=some z) : ∃ r,Yv P (Instr.sliceAt t (a.eval x) (lo.map a.eval) (hi.map a.eval) (mx.map a.eval)) r/\Rep G w z r:=by
 obtain⟨blk,cap,hb,hlc,hk,hv⟩:=hx.hs_inv
 have fin : ∀ (c l k:Nat),n=m->c<=cap->l<=c->(l=0\/l<c)->k<=c->Rep G w (.hs m b (o+l*n) (k-l)) (.slice (if c=l then some ⟨blk,o,none⟩ else (some (⟨blk,o,none⟩:Addr)).map (·.add (l*n))) (k-l) (c-l)):=by
  rintro c l k rfl hc hl hlc hkc
  have e1:(if c=l then some (⟨blk,o,none⟩:Addr) else (some (⟨blk,o,none⟩:Addr)).map (·.add (l*n)))=some ⟨blk,o+l*n,none⟩:=by
   split
   ·have:l=0:=by omega
    subst this
    simp
   ·simp[addr_add]
  rw[e1]
  refine .hs _ _ _ _ hb (by omega) ?_
  have h1:l*n+(c-l)*n=c*n:=by rw[<- Nat.add_mul]; congr 1; omega
  have h2:c*n<=cap*n:=Nat.mul_le_mul_right _ hc
  omega
 unfold hsubV at h
 rcases opd_opt hf h4 with ⟨rfl,rfl⟩|⟨um,vm,rfl,rfl,hrm⟩
 ·simp only[Option.map_none] at h
  split at h
  ·rename_i k hke
   split at h
   ·rename_i l hle
    split at h
    ·rename_i hc
     cases h
     obtain⟨b1,b2,b3⟩:=bounds2_ok (P:=P) hf h2 h3 hlc hke hle true
     refine⟨_,fun w' => ?_,fin cap l k hc.1 (Nat.le_refl _) (by omega) (by omega) (by omega)⟩
     rw[hv]
     simp only[Instr.sliceAt,Sem.run_bind,run_und hu,Result.andThen_ok,Instr.slice,Option.map_none,b3,run_size hti,htn]
     rfl
    ·cases h
   ·cases h
  ·cases h
 ·simp only[Option.map_some] at h
  split at h
  ·rename_i c hce
   split at h
   ·rename_i k hke
    split at h
    ·rename_i l hle
     split at h
     ·rename_i hc
      cases h
      have hne:hi'≠none:=fun e=>hmh ⟨rfl,by rw[e]; rfl⟩
      obtain⟨b1,b2,b3,b4⟩:=bounds3_ok (P:=P) hf h2 h3 h4 hlc hce hke hle hne
      refine⟨_,fun w' => ?_,fin c l k hc.1 (by omega) (by omega) (by omega) (by omega)⟩
      rw[hv]
      simp only[Instr.sliceAt,Sem.run_bind,run_und hu,Result.andThen_ok,Instr.slice,b4,run_size hti,htn]
      rfl
     ·cases h
    ·cases h
   ·cases h
  ·cases h
theorem lsub_ok {P:Program} {G:Gh} {w:World} {fr:Fr} {a:Act} (hf:FrRel G w fr a) {sh:FuncId->Nat} {t:TypeId} {x:Operand} {lo hi mx:Option Operand} {i:IOp} (hc:cOp P sh (.slice t x lo hi mx)=some i)
  {cl:CallF} {st st':St} {z:PV} (h:evOp cl i fr st=some (z,st')):st'=st /\ ∃ r,Yv P (Instr.sliceAt t (a.eval x) (lo.map a.eval) (hi.map a.eval) (mx.map a.eval)) r/\Rep G w z r:=by
 simp only[cOp] at hc
 split at hc
 ·rename_i x' lo' hi' mx' h1 h2 h3 h4
  have hx:=cOpd_rep hf h1
  split at hc
  ·rename_i hu
   split at hc
   ·cases hc
    rcases opd_opt hf h4 with ⟨rfl,_⟩|⟨_,_,_,e,_⟩
    ·simp only[evOp] at h
     split at h
     ·rename_i s hs
      rw[hs] at hx
      have hv:=hx.str_inv
      split at h
      ·rename_i hh hhe
       split at h
       ·rename_i ll hle
        cases h
        obtain⟨b1,b2,b3⟩:=bounds2_ok (P:=P) hf h2 h3 (Nat.le_refl _) hhe hle false
        refine⟨rfl,.string ⟨⟨(s.take hh).drop ll⟩⟩,fun w' => ?_,.d (.str _)⟩
        have e1:(ByteArray.mk (Array.mk s)).size=s.length:=rfl
        have e2:(ByteArray.mk (Array.mk s)).extract ll hh=ByteArray.mk (Array.mk ((s.take hh).drop ll)):=by
         apply ByteArray.ext
         rw[ByteArray.data_extract]
         apply Array.ext'
         simp[Array.toList_extract,List.extract_eq_take_drop]
         rw[List.drop_take]
        rw[hv]
        simp only[Instr.sliceAt,Sem.run_bind,run_und hu,Result.andThen_ok,Instr.slice,Option.map_none,Option.isSome_none,Bool.false_eq_true,if_false,e1,b3,e2]
        rfl
       ·cases h
      ·cases h
     ·cases h
    ·cases e
   ·cases hc
  ·rename_i e hu
   split at hc
   ·cases hc
   rename_i hmh
   cases hsz:sizeT P e with
   |none=>rw[hsz] at hc; cases hc
   |some n =>
    rw[hsz] at hc
    cases hc
    obtain⟨ti,hti,htn,hn0⟩:=sizeT_some hsz
    simp only[evOp] at h
    have h':=Option.map_eq_some_iff.1 h
    clear h
    obtain⟨z0,h,ez⟩:=h'
    cases ez
    refine⟨rfl,?_⟩
    unfold evLsub at h
    split at h
    ·rename_i m b o len hh
     have hx':x'.ev fr = .hs m b o len:=by
      unfold hsOf at hh
      split at hh
      ·rename_i e; cases hh; exact e
      ·cases hh
     rw[hx'] at hx
     exact hsub_ok hf h2 h3 h4 hmh hu hti htn hx h
    refine kp_ok (z:=z0) hx ?_
    have hsl : ∀ l,slcOf (x'.ev fr).nm=some l -> ∃ ad cap,a.eval x = .slice ad l.length cap/\RepD G.F w (.lst l) (.slice ad l.length cap)/\l.length<=cap:=by
     intro l hl
     have:(x'.ev fr).nm = .lst l\/(x'.ev fr).nm = .full l \/ ∃ r,(x'.ev fr).nm = .own r l:=by
      unfold slcOf at hl
      split at hl
      ·rename_i e; cases hl; exact .inl e
      ·rename_i e; cases hl; exact .inr (.inl e)
      ·rename_i r _ e; cases hl; exact .inr (.inr ⟨r,e⟩)
      ·cases hl
     obtain⟨ad,cap,h1,h2,_⟩:=hx.nm.slice this
     rw[h1] at h2
     obtain⟨_,_,_,_,_,_,e,hcap,_⟩:=h2.lst_inv
     cases e
     exact⟨ad,cap,h1,h2,hcap⟩
    split at h
    ·rename_i l hl
     obtain⟨ad,cap,hv,hd,hcap⟩:=hsl l hl
     rcases opd_opt hf h4 with ⟨rfl,_⟩|⟨_,_,_,e,_⟩
     ·split at h
      ·rename_i hh hhe
       split at h
       ·rename_i ll hle
        split at h
        ·rename_i hso
         cases h
         obtain⟨b1,b2,b3⟩:=bounds2_ok (P:=P) hf h2 h3 hcap hhe hle true
         refine⟨_,fun w' => ?_,.d (hd.part b1 b2 hso hn0 (Nat.le_trans b2 hcap) (Nat.le_refl _) _ (.inl rfl)),part_of hv⟩
         rw[hv]
         simp only[Instr.sliceAt,Sem.run_bind,run_und hu,Result.andThen_ok,Instr.slice,Option.map_none,b3,run_size hti,htn]
         rfl
        ·cases h
       ·cases h
      ·cases h
     ·cases e
    ·rename_i l m hl
     obtain⟨ad,cap,hv,hd,hcap⟩:=hsl l hl
     split at h
     ·rename_i c hce
      split at h
      ·rename_i hh hhe
       split at h
       ·rename_i ll hle
        split at h
        ·rename_i hso
         by_cases hne:hi'=none
         ·exact absurd ⟨rfl,by rw[hne]; rfl⟩ hmh
         ·obtain⟨b1,b2,b3,b4⟩:=bounds3_ok (P:=P) hf h2 h3 h4 hcap hce hhe hle hne
          have hrun : ∀ w',(Instr.sliceAt t (a.eval x) (lo.map a.eval) (hi.map a.eval) (mx.map a.eval)).run P w' = .ok (.slice (if c=ll then ad else ad.map (·.add (ll*n))) (hh-ll) (c-ll)) w':=fun w'=>by
           rw[hv]
           simp only[Instr.sliceAt,Sem.run_bind,run_und hu,Result.andThen_ok,Instr.slice,b4,run_size hti,htn]
           rfl
          split at h
          ·rename_i hhc
           cases h
           exact⟨_,hrun,.d (hd.part b1 (Nat.le_trans b2 b3) hso hn0 b2 (Nat.le_trans b3 hcap) _ (.inr ⟨rfl,hhc.symm⟩)),part_of' hv (Nat.le_trans b3 hcap)⟩
          ·cases h
           exact⟨_,hrun,.d (hd.part b1 (Nat.le_trans b2 b3) hso hn0 b2 (Nat.le_trans b3 hcap) _ (.inl rfl)),part_of' hv (Nat.le_trans b3 hcap)⟩
        ·cases h
       ·cases h
      ·cases h
     ·cases h
    ·cases h
  ·cases hc
 ·cases hc
theorem hidx_ok {P:Program} {G:Gh} {w:World} {t e:TypeId} {n m b o len:Nat} {i:Int} {z:PV} {v:Value} (he:elemT P t=some e) (hn:sizeT P e=some n) (hd:Rep G w (.hs m b o len) v) (h:evHidx n m b o len i=some z) (k:IntKind) :
  ∃ r,Yv P (Instr.indexAt t v (.int k i)) r/\Rep G w z r:=by
 have hu:=elemT_some he
 obtain⟨ti,hti,htn,hn0⟩:=sizeT_some hn
 obtain⟨blk,cap,hb,hlc,hk,rfl⟩:=hd.hs_inv
 unfold evHidx at h
 split at h
 ·rename_i hc
  cases h
  obtain⟨rfl,hi0,hi1⟩:=hc
  refine⟨.pointer (some ⟨blk,o+i.toNat*n,none⟩),fun w' => ?_,.ptr _ hb⟩
  simp[Instr.indexAt,asIntOf,run_und hu,hi0,hi1,run_size hti,htn,addr_add]
 ·cases h
theorem idx_ok {P:Program} {G:Gh} {w:World} {t e:TypeId} {n:Nat} {l:List PV} {i:Int} {z:PV} {v:Value} (he:elemT P t=some e) (hn:sizeT P e=some n) (hd:RepD G.F w (.lst l) v) (h:evIdx n l i=some z) (k:IntKind) :
  ∃ r,Yv P (Instr.indexAt t v (.int k i)) r/\Rep G w z r:=by
 have hu:=elemT_some he
 obtain⟨ti,hti,htn,hn0⟩:=sizeT_some hn
 obtain⟨ad,cap,b,o,sz,vs,rfl,hcap,ha,hsz,hc,hr⟩:=hd.lst_inv
 unfold evIdx at h
 split at h
 ·rename_i hi0
  split at h
  ·rename_i e' hle
   split at h
   ·rename_i hcl
    cases h
    obtain⟨hlt,hge⟩:=List.getElem?_eq_some_iff.1 hle
    have hne:l≠[]:=by rintro rfl; simp at hlt
    have hu':l[i.toNat] ≠ .undef:=by rw[hge]; exact PV.ne_undef_of_cells hcl (by omega)
    obtain⟨s1,s2⟩:=(hr i.toNat hlt).cells hu'
    have hszn:sz=n:=by
     have:=hsz i.toNat hlt
     rw[hge] at s1
     omega
    subst hszn
    have hb:0<=i/\i<(l.length:Int):=⟨hi0,by omega⟩
    refine⟨.pointer (some ⟨b,o+i.toNat*sz,none⟩),fun w' => ?_,.d (.ref (vs:=fun j=>(vs i.toNat).cells.getD j Go.undef) (fun j hj => ?_) (fun j hj => ?_))⟩
    ·simp[Instr.indexAt,asIntOf,run_und hu,ha hne,hb,run_size hti,htn,addr_add]
    ·have:=hc i.toNat j hlt (by omega)
     exact⟨this.1,this.2.1⟩
    ·have:=s2 j (by rw[hge]; exact hj)
     simp only[hge] at this
     exact this
   ·cases h
  ·cases h
 ·cases h
end Go.Proofs.YthjnlpfibakacaaGreatDoorPe
