/- A part of the proof of this folder's statement; it has no condition of its own. -/
import Derived.Test.YthjnlpfibakacaaGreatDoorPeMem3
import Derived.Lib.Builder
import Derived.Lib.UnsafeStr
set_option linter.unusedVariables false
set_option linter.unusedSimpArgs false
namespace Go.Proofs.YthjnlpfibakacaaGreatDoorPe
open Go Go.RowKit
structure ElA (F:Fix) (w:World) (n:Nat) (l:List PV) (A:Array Value):Prop where
 size:A.size=l.length*n
 el : ∀ i (h:i<l.length),∃ v:Value,RepD F w (l[i]) v/\v.cells.size=n /\ ∀ j,j<n->A[i*n+j]? = some (v.cells.getD j Go.undef)/\(v.cells.getD j Go.undef).oneCell'=true
theorem cells_one {F:Fix} {w:World} {x:PV} {v:Value} {n:Nat} (h:RepD F w x v) (hn:x.cells.length=n) (h0:0<n) (hc:x.cells.all PV.isCell=true) :
  v.cells.size=n /\ ∀ j,j<n->v.cells[j]? = some (v.cells.getD j Go.undef)/\(v.cells.getD j Go.undef).oneCell'=true:=by
 obtain⟨e1,e2⟩:=h.cells (PV.ne_undef_of_cells hn h0)
 refine⟨by omega,fun j hj=>⟨?_,?_⟩⟩
 ·rw[Array.getD_eq_getD_getElem?,Array.getElem?_eq_getElem (by omega)]; rfl
 ·exact isCell_one (G:=⟨F,fun _=>none,fun _=>0,fun _=>none,fun _=>0⟩) (w:=w) (.d (e2 j (by omega))) (List.all_eq_true.1 hc _ (List.getElem_mem (by omega)))
theorem setAt_ok {F:Fix} {w:World} {n:Nat} (hn:0<n) : ∀ (qs:List (Nat × PV)) (vs:List (Nat × Value)) (l m:List PV) (A:Array Value),ElA F w n l A->setAt n l qs=some m->vs.length=qs.length ->
  (∀ k (h:k<qs.length) (h':k<vs.length),(vs[k]).1=(qs[k]).1/\RepD F w (qs[k]).2 (vs[k]).2) -> ∃ B,Instr.fill (fun i=>some (i*n,n)) A vs=some B/\ElA F w n m B/\m.length=l.length
 |[],vs,l,m,A,hA,h,hl,_=>by
  cases h
  have:vs=[]:=List.eq_nil_of_length_eq_zero hl
  subst this
  exact⟨A,rfl,hA,rfl⟩
 |(i,x)::qs,[],l,m,A,hA,h,hl,_=>by simp at hl
 |(i,x)::qs,(i',v)::vs,l,m,A,hA,h,hl,hr=>by
  have h0:=hr 0 (by simp) (by simp)
  simp only[List.getElem_cons_zero] at h0
  obtain⟨rfl,hx⟩:=h0
  unfold setAt at h
  split at h
  ·rename_i hc
   obtain⟨c1,c2,c3⟩:=hc
   obtain⟨s1,s2⟩:=cells_one hx c1 hn c3
   have hfit:i'*n+n<=A.size:=by
    have:=Nat.mul_le_mul_right n (show i'+1<=l.length from c2)
    rw[Nat.add_mul] at this
    rw[hA.size]; omega
   obtain⟨f1,f2⟩:=fold_set v.cells A (i'*n) (by omega)
   have hA':ElA F w n (l.set i' x) (v.cells.zipIdx.foldl (fun cs (p:Value × Nat)=>cs.setIfInBounds (i'*n+p.2) p.1) A):=by
    refine⟨by rw[f1,List.length_set]; exact hA.size,fun k hk => ?_⟩
    simp only[List.length_set] at hk
    by_cases e:i'=k
    ·subst e
     refine⟨v,by rw[List.getElem_set_self]; exact hx,s1,fun j hj=>⟨?_,(s2 j hj).2⟩⟩
     rw[f2,if_pos (by omega),Nat.add_sub_cancel_left]
     exact (s2 j hj).1
    ·obtain⟨u,u1,u2,u3⟩:=hA.el k hk
     refine⟨u,by rw[List.getElem_set_ne e]; exact u1,u2,fun j hj=>⟨?_,(u3 j hj).2⟩⟩
     rw[f2,if_neg]
     ·exact (u3 j hj).1
     ·intro ⟨q1,q2⟩
      rcases Nat.lt_or_gt_of_ne e with h'|h'
      ·have:=Nat.mul_le_mul_right n (show i'+1<=k from h'); rw[Nat.add_mul] at this; omega
      ·have:=Nat.mul_le_mul_right n (show k+1<=i' from h'); rw[Nat.add_mul] at this; omega
   obtain⟨B,hB,hm,hml⟩:=setAt_ok hn qs vs _ m _ hA' h (by simpa using hl) (fun k hk hk'=>by have:=hr (k+1) (by simp; omega) (by simp; omega); simpa using this)
   refine⟨B,?_,hm,by rw[hml,List.length_set]⟩
   simp only[Instr.fill]
   rw[if_neg (by simp; omega)]
   exact hB
  ·cases h
theorem bown_ok {P:Program} {w1 w:World} {G:Gh} {st st':St} (h:Sim w1 w G st) {fr:Fr} {a:Act} (hf:FrRel G w fr a) {t:TypeId} {len n:Nat} {ps:Array (Nat × Operand)} {e:TypeId} {zs:List PV} {qs:List (Nat × Opd)} (hel:elemT P t=some e) (hn:sizeT P e=some n)
  (hz:zeroT P e=some zs) (hq:cParts1 ps.toList=some qs) (hcond:len*n<=16777216/\zs.length=n) {cl:CallF} {z:PV} (he:evOp cl (.bown n zs len qs) fr st=some (z,st')):MemOk P w1 w G st' (Instr.buildSlice t len (ps.map fun p=>(p.1,a.eval p.2))) z:=by
 obtain⟨it,hi,hin,h0⟩:=sizeT_some hn
 have hu:=elemT_some hel
 obtain⟨i2,z0,hi2,hz0,e1,e2⟩:=zeroT_some hz
 rw[hi] at hi2
 cases hi2
 subst hin
 have hn0:0<it.size:=by omega
 simp only[evOp] at he
 split at he
 ·rename_i qv hqv
  cases hl:setAt it.size (toElems it.size zs len) qv with
  |none=>rw[hl] at he; cases he
  |some l =>
   rw[hl] at he
   simp only at he
   split at he
   case isFalse=>cases he
   rename_i hszl
   cases he
   obtain⟨m1,m2⟩:=mapO_some hqv
   -- the parts
   have hparts : ∀ (ps:List (Nat × Operand)) (qs:List (Nat × Opd)),cParts1 ps=some qs->qs.length=ps.length /\ ∀ k (hk:k<qs.length) (hk':k<ps.length),(qs[k]).1=(ps[k]).1/\cOpd (ps[k]).2=some (qs[k]).2:=by
    intro ps
    induction ps with
    |nil=>intro qs h; cases h; exact⟨rfl,fun k hk=>absurd hk (Nat.not_lt_zero _)⟩
    |cons p ps ih =>
     intro qs h
     obtain⟨k,x⟩:=p
     unfold cParts1 at h
     split at h
     ·rename_i y l' g1 g2
      cases h
      obtain⟨q1,q2⟩:=ih _ g2
      refine⟨by simp[q1],fun j hj hj' => ?_⟩
      cases j with
      |zero=>exact⟨rfl,g1⟩
      |succ j=>exact q2 j (by simpa using hj) (by simpa using hj')
     ·cases h
   obtain⟨p1,p2⟩:=hparts _ _ hq
   have zlen:z0.cells.size=it.size:=by rw[e1]; exact hcond.2
   -- the zero cells
   have hzA:ElA G.F w it.size (toElems it.size zs len) ((Array.range (len*it.size)).map (z0.cells[· % z0.cells.size]!)):=by
    refine⟨by simp[toElems],fun k hk => ?_⟩
    have hk':k<len:=by simpa [toElems] using hk
    have hzc : ∀ j,j<it.size->z0.cells[j]? = some (z0.cells.getD j Go.undef)/\(z0.cells.getD j Go.undef).oneCell'=true:=by
     intro j hj
     refine⟨by rw[Array.getD_eq_getD_getElem?,Array.getElem?_eq_getElem (by omega)]; rfl,?_⟩
     unfold zeroT at hz
     rw[hi] at hz
     simp only[hz0] at hz
     obtain⟨k1,k2⟩:=mapO_some hz
     have hjz:j<z0.cells.size:=by omega
     have:=k2 j (by simpa using hjz) (by rw[<- e1]; exact hjz)
     rw[Array.getD_eq_getD_getElem?,Array.getElem?_eq_getElem hjz]
     simp only[Array.getElem_toList,Option.getD_some] at this ⊢
     generalize z0.cells[j]=q at this ⊢
     cases q <;> first|rfl|(simp[cv1] at this)
    have hget : ∀ j,j<it.size->((Array.range (len*it.size)).map (z0.cells[· % z0.cells.size]!))[k*it.size+j]? = some (z0.cells.getD j Go.undef):=by
     intro j hj
     rw[Array.getElem?_map,Array.getElem?_range,if_pos (lt_of hk' hj)]
     simp only[Option.map_some,zlen,mod_of hj,Option.some.injEq]
     rw[getElem!_pos z0.cells j (by omega),Array.getD_eq_getD_getElem?,Array.getElem?_eq_getElem (by omega)]
     rfl
    simp only[toElems,List.getElem_replicate]
    split
    ·rename_i hone
     refine⟨z0.cells.getD 0 Go.undef,?_,?_,fun j hj => ?_⟩
     ·cases zs with
      |nil=>simp at hone
      |cons c zs=>exact e2 G.F w 0 (by simp)
     ·have:=(hzc 0 hn0).2
      rw[hone.2]
      generalize z0.cells.getD 0 Go.undef=q at this ⊢
      cases q <;> first|rfl|(cases this)
     ·have hj0:j=0:=by omega
      subst hj0
      have h1:=(hzc 0 hn0).2
      have h2:=hget 0 hn0
      have h3:(z0.cells.getD 0 Go.undef).cells.getD 0 Go.undef=z0.cells.getD 0 Go.undef:=by
       generalize z0.cells.getD 0 Go.undef=q at h1 ⊢
       cases q <;> first|rfl|(cases h1)
      rw[h3]
      exact⟨h2,h1⟩
    ·exact⟨.agg z0.cells,.agg e1 (e2 G.F w),zlen,fun j hj=>⟨hget j hj,(hzc j hj).2⟩⟩
   -- what is laid over them
   have hps:(ps.map fun p=>(p.1,a.eval p.2)).toList=ps.toList.map fun p=>(p.1,a.eval p.2):=by simp
   obtain⟨B,hB,hE,hlen⟩:=setAt_ok (F:=G.F) (w:=w) hn0 qv (ps.toList.map fun p=>(p.1,a.eval p.2)) _ l _ hzA hl (by simp[m1,p1]) (fun k hk hk'=>by
    have hk1:k<qs.length:=by omega
    have hk2:k<ps.toList.length:=by simpa using hk'
    have g1:=p2 k hk1 hk2
    have g2:=m2 k hk1 hk
    cases hs:shutA shutN ((qs[k]).2.ev fr) with
    |none=>rw[hs] at g2; cases g2
    |some y =>
     rw[hs] at g2
     have g3:((qs[k]).1,y)=qv[k]:=Option.some.inj g2
     rw[<- g3]
     simp only[List.getElem_map]
     exact⟨g1.1.symm,shutA_rep _ (cOpd_rep hf g1.2) hs⟩)
   have hlen':l.length=len:=by rw[hlen]; simp[toElems]
   -- the block
   have hB':=below_alloc w (.cells B e)
   obtain⟨s0,N0⟩:=h.grow hB'
   have hblk:=heap_alloc_self w (.cells B e)
   have hBs:B.size=len*it.size:=by have:=hE.size; rw[<- hlen']; exact this
   obtain⟨s1,N1⟩:=s0.addRow (r:=st.rows.length) (blk:=w.heap.size) (n:=it.size) (cap:=len) (len:=len) (T':=tagT) (st.rows++[(len,it.size)]) (st.rt++[tagT]) h.below.size hblk hBs (Nat.le_refl _)
    (fun o _ hF=>absurd (h.Fd _ o hF) (Nat.lt_irrefl _)) (fun b k hb=>Nat.ne_of_lt (h.bx_lt hb).1) (fun s k m c _ hr=>Nat.ne_of_lt (h.rw_lt hr).1) ⟨.inl ⟨rfl,rfl⟩,.inr rfl⟩ (.inl ⟨rfl,rfl⟩)
   have N:=N0.trans N1
   have hcell : ∀ o,(w.alloc (.cells B e)).cell? ⟨w.heap.size,o,none⟩=B[o]? := fun o=>by unfold World.cell?; rw[hblk]; rfl
   rw[hlen']
   refine⟨.slice (some ⟨w.heap.size,0,none⟩) len len,_,_,?_,N,s1,?_,fun i k hk=>hB'.block k (h.bx_lt hk).1⟩
   ·have hle : ¬ (16777216<len*it.size):=by omega
    have hfill:Instr.fill (fun i=>some (i*it.size,it.size)) ((Array.range (len*it.size)).map (z0.cells[· % z0.cells.size]!)) (ps.map fun p=>(p.1,a.eval p.2)).toList=some B:=by rw[hps]; exact hB
    unfold Instr.buildSlice
    simp only[Sem.run_bind,run_und hu,Result.andThen_ok,run_size hi,gt_iff_lt]
    rw[show (2 ^ 24:Nat)=16777216 from rfl,if_neg hle]
    by_cases hl0:len*it.size=0
    ·have:len=0:=by
      rcases Nat.mul_eq_zero.1 hl0 with h'|h' <;> omega
     subst this
     have hfill':Instr.fill (fun i=>some (i*it.size,it.size)) ((Array.range (0*it.size)).map ((#[]:Array Value)[· % (#[]:Array Value).size]!)) (ps.map fun p=>(p.1,a.eval p.2)).toList=some B:=by
      have hr:Array.range (0*it.size) = #[]:=by rw[Nat.zero_mul]; rfl
      rw[hr] at hfill ⊢
      simp only[Array.map_empty] at hfill ⊢
      exact hfill
     rw[if_pos hl0]
     simp only[Sem.run_bind,Sem.run_pure,Result.andThen_ok,hfill']
     simp[newRow]
    ·rw[if_neg hl0]
     simp only[Sem.run_bind,Sem.run_pure,Result.andThen_ok,zeroValue,run_info hi,hz0,hfill]
     simp[newRow]
   ·
    have hch : ∀ i,∃ v:Value,(h:i<l.length)->RepD G.F w (l[i]) v/\v.cells.size=it.size /\ ∀ j,j<it.size->B[i*it.size+j]? = some (v.cells.getD j Go.undef)/\(v.cells.getD j Go.undef).oneCell'=true:=by
     intro i
     by_cases hi:i<l.length
     ·obtain⟨v,hv⟩:=hE.el i hi; exact⟨v,fun _=>hv⟩
     ·exact⟨Go.undef,fun h=>absurd h hi⟩
    have hEls:Els G.F w it.size l (fun i=>(hch i).choose):=⟨fun i hi=>((hch i).choose_spec hi).2.1,fun i j hi hj=>(((hch i).choose_spec hi).2.2 j hj).2,fun i hi=>((hch i).choose_spec hi).1⟩
    have hEls':=hEls.mono N.F N.tr
    refine .own' hlen'.symm (hEls'.repD' hlen'.symm (Nat.le_refl _) (fun o ho=>.inr ⟨rfl,ho⟩) (fun i j hi hj => ?_) _ (.inl rfl)) (by simp[Gh.addRow,hlen']) (fun _=>⟨w.heap.size,it.size,by simp[Gh.addRow],rfl,?_⟩)
    ·rw[hcell]
     exact (((hch i).choose_spec (by omega)).2.2 j hj).1
    ·exact hszl
 ·cases he
theorem bslice_ok {P:Program} {w1 w:World} {G:Gh} {st st':St} (h:Sim w1 w G st) {fr:Fr} {a:Act} (hf:FrRel G w fr a) {sh:FuncId->Nat} {t:TypeId} {len:Nat} {ps:Array (Nat × Operand)} {i:IOp}
  (hc:cOp P sh (.buildSlice t len ps)=some i) {cl:CallF} {z:PV} (he:evOp cl i fr st=some (z,st')):MemOk P w1 w G st' (Instr.buildSlice t len (ps.map fun p=>(p.1,a.eval p.2))) z:=by
 simp only[cOp] at hc
 split at hc
 ·rename_i e hel
  split at hc
  ·rename_i n zs qs ld hn hz hq _
   split at hc
   ·rename_i hcond
    split at hc
    ·cases hc
     exact bown_ok h hf hel hn hz hq hcond he
    cases hc
    obtain⟨it,hi,hin,h0⟩:=sizeT_some hn
    have hu:=elemT_some hel
    obtain⟨i2,z0,hi2,hz0,e1,e2⟩:=zeroT_some hz
    rw[hi] at hi2
    cases hi2
    subst hin
    have hn0:0<it.size:=by omega
    simp only[evOp] at he
    split at he
    ·rename_i qv hqv
     cases hl:setAt it.size (toElems it.size zs len) qv with
     |none=>rw[hl] at he; cases he
     |some l =>
      rw[hl] at he; cases he
      obtain⟨m1,m2⟩:=mapO_some hqv
      -- the parts
      have hparts : ∀ (ps:List (Nat × Operand)) (qs:List (Nat × Opd)),cParts1 ps=some qs->qs.length=ps.length /\ ∀ k (hk:k<qs.length) (hk':k<ps.length),(qs[k]).1=(ps[k]).1/\cOpd (ps[k]).2=some (qs[k]).2:=by
       intro ps
       induction ps with
       |nil=>intro qs h; cases h; exact⟨rfl,fun k hk=>absurd hk (Nat.not_lt_zero _)⟩
       |cons p ps ih =>
        intro qs h
        obtain⟨k,x⟩:=p
        unfold cParts1 at h
        split at h
        ·rename_i y l' g1 g2
         cases h
         obtain⟨q1,q2⟩:=ih _ g2
         refine⟨by simp[q1],fun j hj hj' => ?_⟩
         cases j with
         |zero=>exact⟨rfl,g1⟩
         |succ j=>exact q2 j (by simpa using hj) (by simpa using hj')
        ·cases h
      obtain⟨p1,p2⟩:=hparts _ _ hq
      have zlen:z0.cells.size=it.size:=by rw[e1]; exact hcond.2
      -- the zero cells
      have hzA:ElA G.F w it.size (toElems it.size zs len) ((Array.range (len*it.size)).map (z0.cells[· % z0.cells.size]!)):=by
       refine⟨by simp[toElems],fun k hk => ?_⟩
       have hk':k<len:=by simpa [toElems] using hk
       have hzc : ∀ j,j<it.size->z0.cells[j]? = some (z0.cells.getD j Go.undef)/\(z0.cells.getD j Go.undef).oneCell'=true:=by
        intro j hj
        refine⟨by rw[Array.getD_eq_getD_getElem?,Array.getElem?_eq_getElem (by omega)]; rfl,?_⟩
        unfold zeroT at hz
        rw[hi] at hz
        simp only[hz0] at hz
        obtain⟨k1,k2⟩:=mapO_some hz
        have hjz:j<z0.cells.size:=by omega
        have:=k2 j (by simpa using hjz) (by rw[<- e1]; exact hjz)
        rw[Array.getD_eq_getD_getElem?,Array.getElem?_eq_getElem hjz]
        simp only[Array.getElem_toList,Option.getD_some] at this ⊢
        generalize z0.cells[j]=q at this ⊢
        cases q <;> first|rfl|(simp[cv1] at this)
       have hget : ∀ j,j<it.size->((Array.range (len*it.size)).map (z0.cells[· % z0.cells.size]!))[k*it.size+j]? = some (z0.cells.getD j Go.undef):=by
        intro j hj
        rw[Array.getElem?_map,Array.getElem?_range,if_pos (lt_of hk' hj)]
        simp only[Option.map_some,zlen,mod_of hj,Option.some.injEq]
        rw[getElem!_pos z0.cells j (by omega),Array.getD_eq_getD_getElem?,Array.getElem?_eq_getElem (by omega)]
        rfl
       simp only[toElems,List.getElem_replicate]
       split
       ·rename_i hone
        refine⟨z0.cells.getD 0 Go.undef,?_,?_,fun j hj => ?_⟩
        ·cases zs with
         |nil=>simp at hone
         |cons c zs=>exact e2 G.F w 0 (by simp)
        ·have:=(hzc 0 hn0).2
         rw[hone.2]
         generalize z0.cells.getD 0 Go.undef=q at this ⊢
         cases q <;> first|rfl|(cases this)
        ·have hj0:j=0:=by omega
         subst hj0
         have h1:=(hzc 0 hn0).2
         have h2:=hget 0 hn0
         have h3:(z0.cells.getD 0 Go.undef).cells.getD 0 Go.undef=z0.cells.getD 0 Go.undef:=by
          generalize z0.cells.getD 0 Go.undef=q at h1 ⊢
          cases q <;> first|rfl|(cases h1)
         rw[h3]
         exact⟨h2,h1⟩
       ·exact⟨.agg z0.cells,.agg e1 (e2 G.F w),zlen,fun j hj=>⟨hget j hj,(hzc j hj).2⟩⟩
      -- what is laid over them
      have hps:(ps.map fun p=>(p.1,a.eval p.2)).toList=ps.toList.map fun p=>(p.1,a.eval p.2):=by simp
      obtain⟨B,hB,hE,hlen⟩:=setAt_ok (F:=G.F) (w:=w) hn0 qv (ps.toList.map fun p=>(p.1,a.eval p.2)) _ l _ hzA hl (by simp[m1,p1]) (fun k hk hk'=>by
       have hk1:k<qs.length:=by omega
       have hk2:k<ps.toList.length:=by simpa using hk'
       have g1:=p2 k hk1 hk2
       have g2:=m2 k hk1 hk
       cases hs:shutA shutN ((qs[k]).2.ev fr) with
       |none=>rw[hs] at g2; cases g2
       |some y =>
        rw[hs] at g2
        have g3:((qs[k]).1,y)=qv[k]:=Option.some.inj g2
        rw[<- g3]
        simp only[List.getElem_map]
        exact⟨g1.1.symm,shutA_rep _ (cOpd_rep hf g1.2) hs⟩)
      have hlen':l.length=len:=by rw[hlen]; simp[toElems]
      -- the block
      have hB':=below_alloc w (.cells B e)
      obtain⟨s1,N⟩:=h.fixNew hB' (blk:=w.heap.size) (Nat.le_refl _) (by simp)
      have hblk:=heap_alloc_self w (.cells B e)
      have hcell : ∀ o,(w.alloc (.cells B e)).cell? ⟨w.heap.size,o,none⟩=B[o]? := fun o=>by unfold World.cell?; rw[hblk]; rfl
      refine⟨.slice (some ⟨w.heap.size,0,none⟩) len len,_,_,?_,N,s1,.d ?_,fun i k hk=>hB'.block k (h.bx_lt hk).1⟩
      ·have hle : ¬ (16777216<len*it.size):=by omega
       have hfill:Instr.fill (fun i=>some (i*it.size,it.size)) ((Array.range (len*it.size)).map (z0.cells[· % z0.cells.size]!)) (ps.map fun p=>(p.1,a.eval p.2)).toList=some B:=by rw[hps]; exact hB
       unfold Instr.buildSlice
       simp only[Sem.run_bind,run_und hu,Result.andThen_ok,run_size hi,gt_iff_lt]
       rw[show (2 ^ 24:Nat)=16777216 from rfl,if_neg hle]
       by_cases hl0:len*it.size=0
       ·have:len=0:=by
         rcases Nat.mul_eq_zero.1 hl0 with h'|h' <;> omega
        subst this
        have hfill':Instr.fill (fun i=>some (i*it.size,it.size)) ((Array.range (0*it.size)).map ((#[]:Array Value)[· % (#[]:Array Value).size]!)) (ps.map fun p=>(p.1,a.eval p.2)).toList=some B:=by
         have hr:Array.range (0*it.size) = #[]:=by rw[Nat.zero_mul]; rfl
         rw[hr] at hfill ⊢
         simp only[Array.map_empty] at hfill ⊢
         exact hfill
        rw[if_pos hl0]
        simp only[Sem.run_bind,Sem.run_pure,Result.andThen_ok,hfill']
        simp[newRow]
       ·rw[if_neg hl0]
        simp only[Sem.run_bind,Sem.run_pure,Result.andThen_ok,zeroValue,run_info hi,hz0,hfill]
        simp[newRow]
      ·
       have hch : ∀ i,∃ v:Value,(h:i<l.length)->RepD G.F w (l[i]) v/\v.cells.size=it.size /\ ∀ j,j<it.size->B[i*it.size+j]? = some (v.cells.getD j Go.undef)/\(v.cells.getD j Go.undef).oneCell'=true:=by
        intro i
        by_cases hi:i<l.length
        ·obtain⟨v,hv⟩:=hE.el i hi; exact⟨v,fun _=>hv⟩
        ·exact⟨Go.undef,fun h=>absurd h hi⟩
       have hEls:Els G.F w it.size l (fun i=>(hch i).choose):=⟨fun i hi=>((hch i).choose_spec hi).2.1,fun i j hi hj=>(((hch i).choose_spec hi).2.2 j hj).2,fun i hi=>((hch i).choose_spec hi).1⟩
       have hEls':=hEls.mono N.F N.tr
       split
       ·rename_i h00
        rw[h00]
        exact .emp _
       refine hEls'.repD' hlen'.symm (Nat.le_refl _) (fun o _=>.inr rfl) (fun i j hi hj => ?_) _ (.inr ⟨rfl,rfl⟩)
       rw[hcell]
       exact (((hch i).choose_spec (by omega)).2.2 j hj).1
    ·cases he
   ·cases hc
  ·cases hc
 ·cases hc
theorem tobytes_ok {P:Program} {w1 w:World} {G:Gh} {st:St} (h:Sim w1 w G st) {s d e:TypeId} (hs:P.underlying s=some .string) (hd:P.underlying d=some (.slice e)) (he:P.underlying e=some (.int .u8)) (l:List UInt8) :
  MemOk P w1 w G st (convert s d (.string ⟨⟨l⟩⟩)) (.lst (l.map fun b=>.int .u8 b.toNat)):=by
 have hrun:=run_bytes_of_string (P:=P) w s d e ⟨⟨l⟩⟩ hs hd he
 have hge:=grownCap_ge w (ByteArray.mk (Array.mk l)).size 0 e
 generalize hC:grownCap w (ByteArray.mk (Array.mk l)).size 0 e=C at hrun hge
 have hsz:(ByteArray.mk (Array.mk l)).size=l.length:=rfl
 rw[hsz] at hrun hge
 generalize hA:bytesRow ⟨⟨l⟩⟩ C=A at hrun
 have hAg : ∀ i (hi:i<l.length),A[i]? = some (.int .u8 ((l[i]).toNat)):=by
  intro i hi
  rw[<- hA]
  exact bytesRow_at ⟨⟨l⟩⟩ C i hi
 have hB:Below w.heap.size w (w.drew.alloc (.cells A e (A.size,A.size+1))):=((Below.refl _ _).drew).alloc (Nat.le_refl _) _
 obtain⟨s1,N⟩:=h.fixNew hB (blk:=w.heap.size) (Nat.le_refl _) (by simp)
 have hblk:(w.drew.alloc (.cells A e (A.size,A.size+1))).heap[w.heap.size]? = some (.cells A e (A.size,A.size+1)):=heap_alloc_self w.drew _
 have hcell : ∀ o,(w.drew.alloc (.cells A e (A.size,A.size+1))).cell? ⟨w.heap.size,o,none⟩=A[o]? := fun o=>by unfold World.cell?; rw[hblk]; rfl
 refine⟨_,_,_,hrun,N,s1,.d ?_,fun i k hk=>hB.block k (h.bx_lt hk).1⟩
 have hE:Els (G.fix fun b _=>b=w.heap.size).F (w.drew.alloc (.cells A e (A.size,A.size+1))) 1 (l.map fun b=>PV.int .u8 b.toNat) (fun i=>.int .u8 ((l.getD i 0).toNat)):=by
  refine⟨fun i hi=>rfl,fun i j hi hj => ?_,fun i hi => ?_⟩
  ·have:j=0:=by omega
   subst this; rfl
  ·simp at hi
   simp[List.getD,hi]
   exact .int _ _
 refine hE.repD' (by simp) hge (fun o _=>.inr rfl) (fun i j hi hj => ?_) _ (.inl rfl)
 have:j=0:=by omega
 subst this
 rw[hcell,Nat.mul_one,Nat.add_zero,hAg i hi]
 simp[List.getD,hi,Value.cells]
theorem push_bytes : ∀ (ns:List Int) (r:ByteArray),ns.foldl (fun r n=>r.push (UInt8.ofNat n.toNat)) r=⟨⟨r.data.toList++ns.map fun n=>UInt8.ofNat n.toNat⟩⟩
 |[],r=>by obtain⟨⟨l⟩⟩:=r; simp
 |n::ns,r=>by
  rw[List.foldl_cons,push_bytes ns]
  obtain⟨⟨l⟩⟩:=r
  simp[ByteArray.push]
theorem tostr_ok {P:Program} {w1 w:World} {G:Gh} {st:St} (h:Sim w1 w G st) {s d e:TypeId} (hs:P.underlying s=some (.slice e)) (hd:P.underlying d=some .string) (he:P.underlying e=some (.int .u8)) {x:PV} {v:Value} (hx:Rep G w x v)
  {l:List PV} (hl:slcOf x=some l) {q:List UInt8} (hq:mapO byteP l=some q):MemOk P w1 w G st (convert s d v) (.str q):=by
 have hsl:x = .lst l\/x = .full l \/ ∃ r,x = .own r l:=by
  unfold slcOf at hl
  split at hl
  ·cases hl; exact .inl rfl
  ·cases hl; exact .inr (.inl rfl)
  ·cases hl; exact .inr (.inr ⟨_,rfl⟩)
  ·cases hl
 obtain⟨a,cap,rfl,hd',_⟩:=hx.slice hsl
 obtain⟨m1,m2⟩:=mapO_some hq
 have hint : ∀ i (hi:i<l.length),∃ n:Int,l[i] = .int .u8 n /\ ∀ (hi':i<q.length),q[i]=UInt8.ofNat n.toNat:=by
  intro i hi
  have:=m2 i hi (by omega)
  unfold byteP at this
  split at this
  ·rename_i n e; exact⟨n,e,fun hi'=>(Option.some.inj this).symm⟩
  ·cases this
 have hsz:szAll 1 l=true:=by
  unfold szAll
  rw[List.all_eq_true]
  intro y hy
  obtain⟨i,hi,rfl⟩:=List.getElem_of_mem hy
  obtain⟨n,e,_⟩:=hint i hi
  rw[e]; rfl
 obtain⟨a',cap',b,o,vs,e1,hcap,ha,hE,hc⟩:=hd'.els (by omega) hsz
 cases e1
 let ns:List Int:=l.map fun v=>match v with | .int _ n=>n|_=>0
 have hns:ns.map (fun n=>UInt8.ofNat n.toNat)=q:=by
  apply List.ext_getElem
  ·simp[ns,m1]
  ·intro i h1 h2
   have hi:i<l.length:=by simp[ns] at h1; exact h1
   obtain⟨n,e,hn⟩:=hint i hi
   simp only[ns,List.getElem_map,e]
   exact (hn h2).symm
 refine⟨.string ⟨⟨q⟩⟩,w,G,?_,Nxt.refl _ _ _,h,.d (.str q),fun _ _ _=>rfl⟩
 rw[run_convert_bytes_string w s d e a l.length cap hs he hd]
 cases a with
 |none =>
  have:l=[]:=by
   cases l with
   |nil=>rfl
   |cons c l=>have:=ha (by simp); cases this
  subst this
  have:q=[]:=List.eq_nil_of_length_eq_zero m1
  subst this
  rfl
 |some a =>
  have hload:(loadCells a l.length).run P w = .ok (ns.map (Value.int .u8)).toArray w:=by
   have hnl:(ns.map (Value.int .u8)).length=l.length:=by simp[ns]
   rw[<- hnl]
   refine run_loadCells_list w a _ fun j u hu => ?_
   have hj:j<l.length:=by
    rw[<- hnl]
    exact (List.getElem?_eq_some_iff.1 hu).1
   have hne:l≠[]:=by rintro rfl; simp at hj
   have:=ha hne
   cases this
   have h3:=(hc j 0 hj (by omega)).2
   rw[Nat.mul_one,Nat.add_zero] at h3
   rw[addr_add,h3]
   obtain⟨n,e,_⟩:=hint j hj
   have h4:=hE.rep j hj
   rw[e] at h4
   have h5:=(Rep.d (G:=G) h4).int_inv
   rw[h5]
   rw[List.getElem?_map] at hu
   simp only[ns,List.getElem?_map,List.getElem?_eq_getElem hj,e,Option.map_some,Option.some.injEq] at hu
   rw[<- hu]
   rfl
  rw[run_bytesToString w a l.length cap ns hload,push_bytes]
  congr 4
theorem touns_ok {P:Program} {w1 w:World} {G:Gh} {st:St} (h:Sim w1 w G st) {s d t:TypeId} (hs:P.underlying s=some (.pointer t)) (hd:P.underlying d=some .unsafePointer) (hz:(sizeT P t).isSome=true) {x z:PV} {st':St} {v:Value} (hx:Rep G w x v)
  (he:tounsV x st=some (z,st')):MemOk P w1 w G st' (convert s d v) z:=by
 obtain⟨n,hn⟩:=Option.isSome_iff_exists.1 hz
 obtain⟨i,hi,hin,h0⟩:=sizeT_some hn
 unfold tounsV at he
 split at he
 ·rename_i b o
  split at he
  ·rename_i cs hcs
   split at he
   ·rename_i ho
    cases he
    obtain⟨blk,hbx,rfl⟩:=hx.ptr_inv
    obtain⟨k,us,U,e1,e2,e3,e4,_⟩:=(h.box b cs hcs).ex
    rw[hbx] at e1
    cases e1
    have hsh:w.shape? blk=some (U,us.size):=by simp only[World.shape?,e3]
    exact⟨_,w,G,Go.Lib.run_to_unsafe w ⟨blk,o,none⟩ hs hd hi (by omega) hsh (Nat.lt_of_lt_of_le ho e4),Nxt.refl _ _ _,h,.ptr o hbx,fun _ _ _=>rfl⟩
   ·cases he
  ·cases he
 ·cases he
theorem fromuns_ok {P:Program} {w1 w:World} {G:Gh} {st:St} (h:Sim w1 w G st) {s d u:TypeId} {n:Nat} (hs:P.underlying s=some .unsafePointer) (hd:P.underlying d=some (.pointer u)) (hn:sizeT P u=some n) (hl:liesAt P P.depth u (n / P.cellsOf u) 0 u 1=true) (hut:u<tagT)
  {x z:PV} {st':St} {v:Value} (hx:Rep G w x v) (he:fromunsV n u x st=some (z,st')):MemOk P w1 w G st' (convert s d v) z:=by
 obtain⟨i,hi,hin,h0⟩:=sizeT_some hn
 unfold fromunsV at he
 split at he
 ·rename_i b
  split at he
  ·rename_i cs T hcs hT
   split at he
   ·rename_i hcond
    obtain⟨hlen,rfl⟩:=hcond
    have hnt:T≠hsT:=fun e=>by rw[e] at hut; exact absurd hut (by decide)
    cases he
    obtain⟨blk,hbx,rfl⟩:=hx.ptr_inv
    obtain⟨k,us,U,e1,e2,e3,e4,e5,e6,e7⟩:=(h.box b cs hcs).ex
    rw[hbx] at e1
    cases e1
    rw[hT] at e7
    obtain⟨⟨hTU,e4⟩|hTU,e8⟩:=e7
    rotate_left
    ·exact absurd (Option.some.inj hTU) hnt
    cases hTU
    have hsh:w.shape? blk=some (T,us.size):=by simp only[World.shape?,e3]
    exact⟨_,w,G,Go.Lib.run_from_unsafe w ⟨blk,0,none⟩ hs hd hi hsh (by rw[e4,hlen]; exact hl),Nxt.refl _ _ _,h,.ptr 0 hbx,fun _ _ _=>rfl⟩
   ·cases he
  ·cases he
 ·cases he
theorem Sim.freeze {w1 w:World} {G:Gh} {st:St} (h:Sim w1 w G st) {r len n blk cap m:Nat} (hr:st.rows[r]? = some (len,n)) (hw:G.rw r=some (blk,n,cap)) (q:Nat) (hm:q=0/\m<=len*n\/st.rt[r]? = some tagT) :
  Sim w1 (w.freeze ⟨blk,q,none⟩ m) G st/\Nxt w1.heap.size G w G (w.freeze ⟨blk,q,none⟩ m) /\ ∀ k,k≠blk->(w.freeze ⟨blk,q,none⟩ m).heap[k]? = w.heap[k]? := by
 by_cases hm0:m=0
 ·subst hm0
  have:w.freeze ⟨blk,q,none⟩ 0=w:=by simp[World.freeze]
  rw[this]
  exact⟨h,Nxt.refl _ _ _,fun _ _=>rfl⟩
 obtain⟨e0,blk',cap',vs,T,fz,e1,e2,e3,e4,e5,e6,e78⟩:=h.row r len n hr
 rw[hw] at e1
 cases e1
 have hoth : ∀ k,k≠blk->(w.freeze ⟨blk,q,none⟩ m).heap[k]? = w.heap[k]? := by
  intro k hk
  simp only[World.freeze,hm0,if_false,Array.getElem?_modify]
  rw[if_neg (fun e=>hk e.symm)]
 obtain⟨gz,hgz,hself⟩ : ∃ gz:Nat × Nat,((st.rt[r]? = some T/\gz.2<=len*n)\/st.rt[r]? = some tagT)/\(w.freeze ⟨blk,q,none⟩ m).heap[blk]? = some (.cells vs T gz):=by
  obtain⟨lo,hi⟩:=fz
  refine⟨if lo==hi then (q,q+m) else (min lo q,max hi (q+m)),?_,?_⟩
  ·rcases hm with ⟨rfl,hm⟩|hm
   ·rcases e78 with ⟨e8,e7⟩|e8
    ·refine .inl ⟨e8,?_⟩
     split
     ·simpa using hm
     ·simp only at e7 ⊢; omega
    ·exact .inr e8
   ·exact .inr hm
  ·simp only[World.freeze,hm0,if_false,Array.getElem?_modify,if_true,e3,Option.map_some]
 have hsz:(w.freeze ⟨blk,q,none⟩ m).heap.size=w.heap.size:=by simp[World.freeze,hm0]
 have hbel:Below w1.heap.size w1 (w.freeze ⟨blk,q,none⟩ m):=Go.Lib.below_freeze h.below (p:=⟨blk,q,none⟩) e2 m
 have hcell : ∀ b o,(w.freeze ⟨blk,q,none⟩ m).cell? ⟨b,o,none⟩=w.cell? ⟨b,o,none⟩:=by
  intro b o
  by_cases hb:b=blk
  ·subst hb; simp only[World.cell?,hself,e3]
  ·exact cell_of_heap (hoth b hb)
 have N:Nxt w1.heap.size G w G (w.freeze ⟨blk,q,none⟩ m):=⟨fun _ _ h=>h,fun _ _ h=>.inl h,fun _ _ h=>⟨h,rfl⟩,fun _=>Nat.le_refl _,fun _ _ _ h=>h,fun b o _=>hcell b o⟩
 refine⟨⟨hbel,fun b cs hcs => ?_,h.boxN,h.boxI,fun s len' n' hs => ?_,h.rowN,h.rowL,h.rowI,h.apart,fun b o hF=>by rw[hsz]; exact h.Fd b o hF,h.btN,h.rtN⟩,N,hoth⟩
 ·obtain⟨k,us,U,f1,f2,f3,f4,f5,f6,f7⟩:=(h.box b cs hcs).ex
  exact⟨k,us,U,f1,f2,(hoth k (fun e=>h.apart b r blk n cap (e ▸ f1) hw)).trans f3,f4,f5,fun j hj=>(f6 j hj).mono N,f7⟩
 ·obtain⟨g0,k,c,us,U,hz,g1,g2,g3,g4,g5,g6,g7⟩:=h.row s len' n' hs
  by_cases hk:k=blk
  ·subst hk
   obtain rfl:=h.rowI s r k n' c n cap g1 hw
   rw[hw] at g1
   cases g1
   rw[hr] at hs
   cases hs
   rw[e3] at g3
   cases g3
   exact⟨g0,k,cap,vs,T,gz,hw,g2,hself,g4,g5,g6,hgz⟩
  ·exact⟨g0,k,c,us,U,hz,g1,g2,(hoth k hk).trans g3,g4,g5,g6,g7⟩
theorem byteQ_some {x:PV} {b:UInt8} (h:byteQ x=some b):x = .int .u8 b.toNat:=by
 unfold byteQ at h
 split at h
 ·rename_i n
  split at h
  ·rename_i hn
   cases h
   congr 1
   have:n.toNat<256:=by omega
   rw[show (UInt8.ofNat n.toNat).toNat=n.toNat by simp; omega]
   omega
  ·cases h
 ·cases h
theorem Rep.own_inv {G:Gh} {w:World} {r:Nat} {l:List PV} {v:Value} (h:Rep G w (.own r l) v) : ∃ a cap,v = .slice a l.length cap/\RepD G.F w (.lst l) (.slice a l.length cap)/\l.length<=G.rl r /\
  (l.length=G.rl r -> ∃ blk n,G.rw r=some (blk,n,cap)/\a=some ⟨blk,0,none⟩/\szAll n l=true):=by
 cases h with
 |d hr=>cases hr with
  |sl hx=>rcases hx with hx|⟨hx,_⟩ <;> cases hx
 |own hd hl hn=>exact⟨_,_,rfl,hd,hl,hn⟩
theorem ustr_ok {P:Program} {w1 w:World} {G:Gh} {st st':St} (h:Sim w1 w G st) {t u e ty:TypeId} (ht:P.underlying t=some (.pointer e)) (hc:P.cellsOf e=1) {x y z:PV} {v k:Value} (hx:Rep G w x v) (hy:Rep G w y k)
  (he:ustrV e x y st=some (z,st')) (het:e≠tagT):MemOk P w1 w G st' (Builtin.unsafeString_ #[t,u] ty #[v,k]) z:=by
 unfold ustrV at he
 split at he
 ·cases he
  obtain rfl:=hx.nilp_inv
  obtain rfl:=hy.int_inv
  exact⟨_,w,G,Go.Lib.run_unsafeString_none w t u ty none,Nxt.refl _ _ _,h,.d (.str []),fun _ _ _=>rfl⟩
 ·rename_i r l n
  split at he
  ·rename_i hcond
   obtain⟨rfl,hrow,hT,h63⟩:=hcond
   cases hq:mapO byteQ l with
   |none=>rw[hq] at he; cases he
   |some q =>
    rw[hq] at he
    cases he
    obtain⟨m1,m2⟩:=mapO_some hq
    obtain rfl:=hy.int_inv
    cases hx with
    |d hx=>cases hx with
     |sl hx=>rcases hx with hx|⟨hx,_⟩ <;> cases hx
    |rptr hr =>
     rename_i ad cap
     obtain⟨ao,cap2,ev,hd,hl,hn⟩:=hr.own_inv
     simp only[Value.slice.injEq] at ev
     obtain⟨rfl,_,rfl⟩:=ev
     ·by_cases hnil:q=[]
      ·subst hnil
       have hl0:l=[]:=List.eq_nil_of_length_eq_zero (by simpa using m1.symm)
       subst hl0
       exact⟨_,w,G,Go.Lib.run_unsafeString_none w t u ty (some ad),Nxt.refl _ _ _,h,.d (.str []),fun _ _ _=>rfl⟩
      ·have hrow':=h.row r l.length 1 hrow
       obtain⟨blk,n',f1,f2,f3⟩:=hn hrow'.rl.symm
       cases f2
       obtain⟨e0,blk',cap',vs,T,fz,e1,e2,e3,e4,e5,e6,e78⟩:=hrow'
       rw[f1] at e1
       cases e1
       obtain⟨e8,e7⟩:=e78.resolve_right (fun h=>het (Option.some.inj (hT.symm.trans h)))
       rw[hT] at e8
       cases e8
       have hsz:szAll 1 l=true:=f3
       obtain⟨a',cap',b,o,us,g1,hcap,ha,hE,hcl⟩:=hd.els (by omega) hsz
       cases g1
       have hne:l≠[]:=by rintro rfl; exact hnil (List.eq_nil_of_length_eq_zero m1)
       have:=ha hne
       cases this
       have hrun:=Go.Lib.run_unsafeString_row (P:=P) w t u ty e ht hc blk vs.size (by simp only[World.shape?,e3]) q hnil (by rw[m1,e4]; omega) (by rw[m1]; exact h63) (fun j x hj=>by
        obtain⟨hjq,hje⟩:=List.getElem?_eq_some_iff.1 hj
        have hjl:j<l.length:=by omega
        have h1:=(hcl j 0 hjl (by omega)).2
        rw[Nat.mul_one,Nat.add_zero] at h1
        rw[addr_add,h1]
        have h2:=m2 j hjl hjq
        have h3:=byteQ_some h2
        have h4:=hE.rep j hjl
        rw[h3] at h4
        have h5:=(Rep.d (G:=G) h4).int_inv
        rw[h5,hje]
        rfl)
       rw[m1] at hrun
       obtain⟨s',N,hoth⟩:=h.freeze (m:=l.length) hrow f1 0 (.inl ⟨rfl,by omega⟩)
       refine⟨_,_,G,hrun,N,s',.d (.str q),fun i k hk=>hoth k fun e=>h.apart i r blk 1 cap (e ▸ hk) f1⟩
  ·cases he
 ·cases he
theorem mark_ok {P:Program} {w1 w:World} {G:Gh} {st st':St} (h:Sim w1 w G st) {s e:TypeId} (hs:P.underlying s=some (.slice e)) (he8:P.underlying e=some (.int .u8)) {x z:PV} {v:Value} (hx:Rep G w x v)
  (he:markV x st=some (z,st')):MemOk P w1 w G st' (convert s s v) z:=by
 unfold markV at he
 split at he
 ·rename_i r p l
  split at he
  ·rename_i hcond
   obtain⟨hrow,htag⟩:=hcond
   cases he
   obtain⟨ao,cap,rfl,hd,hl,hn⟩:=hx.own_inv
   have hrow':=h.row r (p::l).length 1 hrow
   obtain⟨blk,n',f1,rfl,f3⟩:=hn hrow'.rl.symm
   obtain⟨e0,blk',cap',vs,T,fz,e1,e2,e3,e4,e5,e6,e78⟩:=hrow'
   rw[f1] at e1
   cases e1
   obtain⟨s',N,hoth⟩:=h.freeze (m:=1) hrow f1 vs.size (.inr htag)
   have hsh:w.shape? blk=some (T,vs.size):=by simp only[World.shape?,e3]
   refine⟨.slice (some ⟨blk,0,none⟩) (p::l).length cap,_,G,?_,N,s',hx.mono N,fun i k hk=>hoth k fun e=>h.apart i r blk 1 cap (e ▸ hk) f1⟩
   simp[convert,run_underlying hs,run_underlying he8,markStringish,hsh]
  ·cases he
 ·cases he
end Go.Proofs.YthjnlpfibakacaaGreatDoorPe
