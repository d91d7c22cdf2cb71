/- A part of the proof of this folder's statement; it has no condition of its own. -/
import Derived.Test.YthjnlpfibakacaaGreatDoorPeCall
set_option linter.unusedVariables false
set_option linter.unusedSimpArgs false
namespace Go.Proofs.YthjnlpfibakacaaGreatDoorPe
open Go Go.RowKit
structure Hole where
 blk:Nat
 off:Nat
 vc:List Value
def fillA (h:Hole) (cur:Array Value):Array Value:=(cur.toList.take h.off++h.vc++cur.toList.drop (h.off+h.vc.length)).toArray
def fillW (h:Hole) (w:World):World :=
 match w.heap[h.blk]? with
 |some (.cells cur _ _)=>w.setRow h.blk (fillA h cur)
 |_=>w
theorem fillW_eq {h:Hole} {w:World} {cur:Array Value} {T:TypeId} {fz:Nat × Nat} (hc:w.heap[h.blk]? = some (.cells cur T fz)):fillW h w=w.setRow h.blk (fillA h cur):=by
 unfold fillW
 rw[hc]
theorem world_heap {w w':World} (A:Array Obj) (h : ∀ k:Nat,w.heap[k]? = w'.heap[k]?) (hr:{ w with heap:=A }={ w' with heap:=A }):w=w':=by
 have:w.heap=w'.heap:=Array.ext_getElem? h
 cases w
 cases w'
 simp only[World.mk.injEq] at hr ⊢
 simp only at this
 exact⟨this,hr.2⟩
theorem setRow_setRow {w:World} {b:Nat} {A B cur:Array Value} {T:TypeId} {fz:Nat × Nat} (hc:w.heap[b]? = some (.cells cur T fz)):(w.setRow b A).setRow b B=w.setRow b B:=by
 refine world_heap #[] (fun k => ?_) rfl
 by_cases hk:k=b
 ·subst hk
  rw[setRow_heap _ _ A B T fz (setRow_heap w k cur A T fz hc),setRow_heap w k cur B T fz hc]
 ·rw[setRow_other _ _ _ _ hk,setRow_other _ _ _ _ hk,setRow_other _ _ _ _ hk]
theorem setRow_swap {w:World} {b c:Nat} {A B curb curc:Array Value} {T U:TypeId} {fz gz:Nat × Nat} (hne:b≠c) (hb:w.heap[b]? = some (.cells curb T fz)) (hc:w.heap[c]? = some (.cells curc U gz)) :
  (w.setRow b A).setRow c B=(w.setRow c B).setRow b A:=by
 refine world_heap #[] (fun k => ?_) rfl
 by_cases hk:k=b
 ·subst hk
  rw[setRow_other _ _ _ _ hne,setRow_heap w k curb A T fz hb,setRow_heap _ k curb A T fz ((setRow_other w c k B hne).trans hb)]
 ·by_cases hkc:k=c
  ·subst hkc
   rw[setRow_heap _ k curc B U gz ((setRow_other w b k A hk).trans hc),setRow_other _ _ _ _ hk,setRow_heap w k curc B U gz hc]
  ·rw[setRow_other _ _ _ _ hkc,setRow_other _ _ _ _ hk,setRow_other _ _ _ _ hk,setRow_other _ _ _ _ hkc]
theorem setRow_alloc (w:World) (A B:Array Value) (T:TypeId) (fz:Nat × Nat):(w.alloc (.cells A T fz)).setRow w.heap.size B=w.alloc (.cells B T fz):=by
 refine world_heap #[] (fun k => ?_) rfl
 have h1:(w.alloc (.cells A T fz)).heap[w.heap.size]? = some (.cells A T fz):=heap_alloc_self w _
 by_cases hk:k=w.heap.size
 ·subst hk
  rw[setRow_heap _ _ A B T fz h1]
  exact (heap_alloc_self w _).symm
 ·rw[setRow_other _ _ _ _ hk]
  show (w.heap.push _)[k]? = (w.heap.push _)[k]?
  rw[Array.getElem?_push,Array.getElem?_push,if_neg hk,if_neg hk]
theorem flatV_one (v:Value) {n:Nat} (h:v.cells.size=n):flatV (fun _=>v) n 1=v.cells.toList:=by
 apply List.ext_getElem?
 intro k
 by_cases hk:k<n
 ·have:=flatV_get (fun _=>v) (n:=n) (m:=1) (i:=0) (j:=k) (by omega) hk
  rw[Nat.zero_mul,Nat.zero_add] at this
  rw[this,Array.getElem?_toList,Array.getD_eq_getD_getElem?,Array.getElem?_eq_getElem (by omega)]
  rfl
 ·rw[List.getElem?_eq_none (by rw[flatV_length]; omega),Array.getElem?_toList,Array.getElem?_eq_none (by omega)]
theorem pappend_ok {P:Program} {w1 w:World} {G:Gh} {st st':St} (h:Sim w1 w G st) {t tx ty e:TypeId} {i:TypeInfo} {z0:Value} {n:Nat} (ht:P.underlying t=some (.slice e)) (hi:P.info? e=some i) (hin:i.size=n) (hn:n≠0)
  (hz:i.zero=some z0) (hzs:z0.cells.size=n) {x y p z:PV} {v u pv:Value} (hx:Rep G w x v) (hy:Rep G w y u) (hp:Rep G w p pv) (hk:(∃ e',P.underlying tx=some (.slice e'))\/(P.underlying tx=some .string/\n=1)) (hev:evPappend n i.bytes e x y p st=some (z,st')) (het:e≠tagT) :
  ∃ r w' G' q,(Builtin.append_ #[t,tx] ty #[v,u]).run P w = .ok r w'/\Nxt w1.heap.size G w G' (fillW q w')/\Sim w1 (fillW q w') G' st'/\Rep G' (fillW q w') z r /\
   (∃ cur T fz,w'.heap[q.blk]? = some (.cells cur T fz)/\fz.2<=q.off/\q.off+n<=cur.size)/\q.vc=pv.cells.toList/\q.vc.length=n/\(∀ c∈q.vc,c.oneCell'=true)/\(∀ b,G'.bx b≠some q.blk) /\
   ∃ r0 l L cap,z = .own r0 l/\l.length=L+1/\r = .slice (some ⟨q.blk,0,none⟩) (L+1) cap/\q.off=L*n:=by
 have hn':0<n:=by omega
 subst hin
 unfold evPappend at hev
 split at hev
 ·rename_i zp
  split at hev
  ·rename_i up hup
   split at hev
   ·rename_i hcond
    obtain⟨hzp,hupn,hupc⟩:=hcond
    -- what is appended now,and what in the end
    obtain⟨ws0,hs,hE0⟩:=src_ok (P:=P) hy (es:=[zp]) rfl (n:=i.size) (by simp[szAll,hzp]) hn' hk
    have hlen1:([zp]:List PV).length=1:=rfl
    rw[hlen1] at hs
    have hpd:RepD G.F w up pv:=shutA_rep _ hp hup
    obtain⟨c1,c2⟩:=cells_one hpd hupn hn' hupc
    have hE:Els G.F w i.size [up] (fun _=>pv):=⟨fun j hj=>c1,fun j k hj hk=>(c2 k hk).2,fun j hj=>by
     have:j=0:=by simp at hj; exact hj
     subst this
     exact hpd⟩
    have hfl1:flatV (fun _=>pv) i.size 1=pv.cells.toList:=flatV_one pv c1
    have hvl:pv.cells.toList.length=i.size:=by simp[c1]
    have hvone : ∀ c∈pv.cells.toList,c.oneCell'=true:=by
     intro c hc
     obtain⟨k,hk,rfl⟩:=List.getElem_of_mem hc
     have hk':k<pv.cells.size:=by simpa using hk
     have:=(c2 k (by omega)).2
     rw[Array.getD_eq_getD_getElem?,Array.getElem?_eq_getElem hk'] at this
     simpa using this
    have hxn:=hx.nm
    -- a new block
    have grow : ∀ (l:List PV) (a:Option Addr) (cap r:Nat) (rows':List (Nat × Nat)) (rt':List TypeId),v = .slice a l.length cap->RepD G.F w (.lst l) v->szAll i.size l=true->cap<l.length+1->(l.length+1)*(i.bytes+1)<=70368744177664 ->
      (rows'=st.rows++[(l.length+1,i.size)]/\r=st.rows.length \/ ∃ old,st.rows[r]? = some (old,i.size)/\old<l.length+1/\rows'=st.rows.set r (l.length+1,i.size)) ->
      (r=st.rows.length/\rt'=st.rt++[e]\/r<st.rows.length/\rt'=st.rt/\st.rt[r]? = some e)->z = .own r (l++[up])->st'=⟨st.boxes,rows',st.bt,rt'⟩ ->
      ∃ r w' G' q,(Builtin.append_ #[t,tx] ty #[v,u]).run P w = .ok r w'/\Nxt w1.heap.size G w G' (fillW q w')/\Sim w1 (fillW q w') G' st'/\Rep G' (fillW q w') z r /\
       (∃ cur T fz,w'.heap[q.blk]? = some (.cells cur T fz)/\fz.2<=q.off/\q.off+i.size<=cur.size)/\q.vc=pv.cells.toList/\q.vc.length=i.size/\(∀ c∈q.vc,c.oneCell'=true)/\(∀ b,G'.bx b≠some q.blk) /\
       ∃ r0 l L cap,z = .own r0 l/\l.length=L+1/\r = .slice (some ⟨q.blk,0,none⟩) (L+1) cap/\q.off=L*i.size:=by
     rintro l a cap r rows' rt' rfl hd hsl hcap hbd hrows hrt rfl rfl
     obtain⟨a',cap',b,o,vs,e1,hcap',ha,hL,hc⟩:=hd.els hn' hsl
     cases e1
     have hbd':(l.length+1)*i.bytes<=70368744177664:=Nat.le_trans (Nat.mul_le_mul_left _ (Nat.le_succ _)) hbd
     have hbd'':l.length+1<=70368744177664:=Nat.le_trans (Nat.le_mul_of_pos_right _ (Nat.succ_pos _)) hbd
     have hold:(Builtin.firstCells i.size l.length (.slice a l.length cap)).run P w.drew = .ok (flatV vs i.size l.length).toArray w.drew:=by
      cases a with
      |none =>
       have:l=[]:=by
        cases l with
        |nil=>rfl
        |cons e l=>have:=ha (by simp); cases this
       subst this
       simp[Builtin.firstCells,flatV]
      |some a' =>
       refine run_firstCells_some w.drew i.size l.length a' l.length cap _ (flatV_length _ _ _) fun j q hq => ?_
       obtain⟨q1,q2,rfl⟩:=flatV_get' vs hn' hq
       have hne:l≠[]:=by rintro rfl; simp at q1
       have:=ha hne
       cases this
       have hj:j=j / i.size*i.size+j % i.size:=by rw[Nat.mul_comm]; exact (Nat.div_add_mod j i.size).symm
       rw[addr_add,hj,<- Nat.add_assoc]
       have h3:=(hc (j / i.size) (j % i.size) q1 q2).2
       rw[div_of q2,mod_of q2]
       exact h3
     have hrun:=run_append_grow_src (P:=P) w t tx ty e i z0 ht hi hz a l.length cap _ hold u 1 _ hs hcap (by omega) (growslice_fits hcap (by omega))
     have hge:=grownCap_ge w (l.length+1) cap e
     generalize hC:grownCap w (l.length+1) cap e=C at hrun hge
     have hfl0:=flatV_length ws0 i.size 1
     have hfll:=flatV_length vs i.size l.length
     generalize hZ:Builtin.zeroCells z0.cells (C-(l.length+1))=Z at hrun
     have hZs:Z.size=(C-(l.length+1))*i.size:=by rw[<- hZ,size_zeroCells,hzs]
     generalize hA0:((flatV vs i.size l.length++flatV ws0 i.size 1).toArray++Z:Array Value)=A0 at hrun
     have hall:=flatV_append vs (fun _=>pv) i.size l.length 1 hn'
     generalize hA:((flatV vs i.size l.length++flatV (fun _=>pv) i.size 1).toArray++Z:Array Value)=A
     have hfill:fillA ⟨w.heap.size,l.length*i.size,pv.cells.toList⟩ A0=A:=by
      unfold fillA
      simp only
      rw[<- hA0,<- hA]
      apply Array.ext'
      have e1:((flatV vs i.size l.length++flatV ws0 i.size 1).toArray++Z).toList=flatV vs i.size l.length++(flatV ws0 i.size 1++Z.toList):=by simp
      rw[e1]
      have e2:(flatV vs i.size l.length++(flatV ws0 i.size 1++Z.toList)).take (l.length*i.size)=flatV vs i.size l.length:=by
       rw[List.take_append_of_le_length (by rw[hfll]; exact Nat.le_refl _),List.take_of_length_le (by rw[hfll]; exact Nat.le_refl _)]
      have e3:(flatV vs i.size l.length++(flatV ws0 i.size 1++Z.toList)).drop (l.length*i.size+pv.cells.toList.length)=Z.toList:=by
       rw[<- List.append_assoc,List.drop_append_of_le_length (by rw[List.length_append,hfll,hfl0,hvl]; omega),List.drop_of_length_le (by rw[List.length_append,hfll,hfl0,hvl]; omega),List.nil_append]
      rw[e2,e3,hfl1]
      simp
     have hAs:A.size=C*i.size:=by
      rw[<- hA,Array.size_append,hZs,List.size_toArray,hall,flatV_length,<- Nat.add_mul]
      congr 1
      omega
     have hA0s:A0.size=A.size:=by
      rw[<- hA0,<- hA]
      simp only[Array.size_append,List.size_toArray,List.length_append,hfl0,flatV_length]
     have hAg : ∀ p j,p<l.length+1->j<i.size->A[p*i.size+j]? = some ((if p<l.length then vs p else pv).cells.getD j Go.undef):=by
      intro p j hp hj
      rw[<- hA,hall,Array.getElem?_append_left (by simp[flatV_length]; exact lt_of hp hj),List.getElem?_toArray]
      exact flatV_get _ hp hj
     have hB:Below w.heap.size w (w.drew.alloc (.cells A e)):=((Below.refl _ _).drew).alloc (Nat.le_refl _) _
     obtain⟨s1,N1⟩:=h.grow hB
     have hblk:(w.drew.alloc (.cells A e)).heap[w.heap.size]? = some (.cells A e (0,0)):=heap_alloc_self w.drew _
     have hblk0:(w.drew.alloc (.cells A0 e)).heap[w.heap.size]? = some (.cells A0 e (0,0)):=heap_alloc_self w.drew _
     obtain⟨s2,N2⟩:=s1.addRow (r:=r) (blk:=w.heap.size) (n:=i.size) (cap:=C) (len:=l.length+1) rows' rt' h.below.size hblk hAs hge
      (fun o _ hF=>absurd (h.Fd _ o hF) (Nat.lt_irrefl _)) (fun b k hb=>Nat.ne_of_lt (h.bx_lt hb).1) (fun s k m c _ hr=>Nat.ne_of_lt (h.rw_lt hr).1) ⟨hrows,.inl ⟨rfl,Nat.zero_le _⟩⟩ hrt
     have N:=N1.trans N2
     have hEE:=(hL.append hE).mono N.F N.tr
     have hlen:(l++[up]).length=l.length+1:=by simp
     have hfw:fillW ⟨w.heap.size,l.length*i.size,pv.cells.toList⟩ (w.drew.alloc (.cells A0 e))=w.drew.alloc (.cells A e):=by
      rw[fillW_eq (h:=⟨w.heap.size,l.length*i.size,pv.cells.toList⟩) hblk0,hfill]
      exact setRow_alloc w.drew A0 A e (0,0)
     have hmul:(l.length+1)*i.size<=C*i.size:=Nat.mul_le_mul_right _ hge
     rw[Nat.add_mul] at hmul
     refine⟨_,_,_,⟨w.heap.size,l.length*i.size,pv.cells.toList⟩,hrun,by rw[hfw]; exact N,by rw[hfw]; exact s2,?_,⟨A0,e,(0,0),hblk0,Nat.zero_le _,by rw[hA0s,hAs]; simp only; omega⟩,rfl,hvl,hvone,fun b hb => ?_,r,l++[up],l.length,C,rfl,hlen,rfl,rfl⟩
     ·rw[hfw]
      refine .own' hlen.symm (hEE.repD' hlen.symm hge (fun o ho=>.inr ⟨rfl,ho⟩) (fun p j hp hj => ?_) _ (.inl rfl)) (by simp[Gh.addRow]) (fun _=>⟨w.heap.size,i.size,by simp[Gh.addRow],rfl,?_⟩)
      ·simp only[World.cell?,hblk]
       rw[if_neg (by simp)]
       exact hAg p j (by omega) hj
      ·unfold szAll at hsl ⊢
       rw[List.all_append,hsl]
       simp[hupn]
     ·have hb':G.bx b=some w.heap.size:=hb
      exact absurd (h.bx_lt hb').1 (Nat.lt_irrefl _)
    unfold evAppend at hev
    simp only at hev
    split at hev
    ·rename_i hsz
     split at hev
     ·rename_i l hxl
      split at hev
      ·rename_i hcond
       rw[hxl] at hxn
       obtain⟨a,cap,hv,hd,hc⟩:=hxn.slice (.inr (.inl rfl))
       have hcap:=hc rfl
       subst hcap
       cases hev
       exact grow l a _ st.rows.length _ _ hv hd hcond.2 (by omega) hcond.1 (.inl ⟨rfl,rfl⟩) (.inl ⟨rfl,rfl⟩) rfl rfl
      ·cases hev
     ·rename_i r l hxl
      split at hev
      ·rename_i hcond
       rw[hxl] at hxn
       obtain⟨a,cap,rfl,hd,hl,hnn⟩:=hxn.own_inv
       have hrow:=h.row r l.length i.size hcond.2.1
       obtain⟨blk,n',e1,rfl,hsl⟩:=hnn (by rw[hrow.rl])
       obtain⟨e0,blk',cap',cur,T,fz,f1,f2,f3,f4,f5,f6,f78⟩:=hrow
       rw[e1] at f1
       cases f1
       obtain⟨f8,f7⟩:=f78.resolve_right (fun h=>het (Option.some.inj (hcond.2.2.symm.trans h)))
       rw[hcond.2.2] at f8
       cases f8
       cases hev
       by_cases hfit:l.length+1<=cap
       ·obtain⟨a',cap',b,o,vs,e2,hcap',ha,hL,hc⟩:=hd.els hn' hsl
        cases e2
        have hfitn:(l.length+1)*i.size<=cap*i.size:=Nat.mul_le_mul_right _ hfit
        have hfitn':l.length*i.size+i.size<=cap*i.size:=by rw[Nat.add_mul] at hfitn; omega
        have hfl0:=flatV_length ws0 i.size 1
        have hrun:=run_append_room_row (P:=P) t tx ty e i ht hi blk l.length cap u 1 _ hs hfit f3 f7 (by rw[hfl0,f4]; omega)
        generalize hA0:((cur.toList.take (l.length*i.size)++flatV ws0 i.size 1++cur.toList.drop (l.length*i.size+(flatV ws0 i.size 1).length)).toArray:Array Value)=A0 at hrun
        generalize hA:((cur.toList.take (l.length*i.size)++flatV (fun _=>pv) i.size 1++cur.toList.drop (l.length*i.size+(flatV ws0 i.size 1).length)).toArray:Array Value)=A
        have hcl:cur.toList.length=cap*i.size:=(Array.length_toList (xs:=cur)).trans f4
        have htl:(cur.toList.take (l.length*i.size)).length=l.length*i.size:=by rw[List.length_take,hcl]; omega
        have hfill:fillA ⟨blk,l.length*i.size,pv.cells.toList⟩ A0=A:=by
         unfold fillA
         simp only
         rw[<- hA0,<- hA]
         apply Array.ext'
         simp only
         have e2:(cur.toList.take (l.length*i.size)++flatV ws0 i.size 1++cur.toList.drop (l.length*i.size+(flatV ws0 i.size 1).length)).take (l.length*i.size)=cur.toList.take (l.length*i.size):=by
          rw[List.append_assoc,List.take_append_of_le_length (by rw[htl]; exact Nat.le_refl _),List.take_of_length_le (by rw[htl]; exact Nat.le_refl _)]
         have e3:(cur.toList.take (l.length*i.size)++flatV ws0 i.size 1++cur.toList.drop (l.length*i.size+(flatV ws0 i.size 1).length)).drop (l.length*i.size+pv.cells.toList.length)=cur.toList.drop (l.length*i.size+(flatV ws0 i.size 1).length):=by
          rw[List.drop_append_of_le_length (by rw[List.length_append,htl,hfl0,hvl]; omega),List.drop_of_length_le (by rw[List.length_append,htl,hfl0,hvl]; omega),List.nil_append]
         rw[e2,e3,hfl1]
        have hAs:A.size=cap*i.size:=by
         rw[<- hA]
         simp only[List.size_toArray,List.length_append,List.length_drop,flatV_length,htl,hcl]
         omega
        have hA0s:A0.size=cap*i.size:=by
         rw[<- hA0]
         simp only[List.size_toArray,List.length_append,List.length_drop,flatV_length,htl,hcl]
         omega
        have hAlo : ∀ o,o<l.length*i.size->A[o]? = cur[o]? := by
         intro o ho
         rw[<- hA,List.getElem?_toArray,List.append_assoc,List.getElem?_append_left (by rw[htl]; omega),List.getElem?_take,if_pos ho]
         simp
        have hAhi : ∀ j,j<i.size->A[l.length*i.size+j]? = some (pv.cells.getD j Go.undef):=by
         intro j hj
         rw[<- hA,List.getElem?_toArray,List.append_assoc,List.getElem?_append_right (by rw[htl]; omega),htl,List.getElem?_append_left (by rw[flatV_length]; omega),Nat.add_sub_cancel_left]
         have:=flatV_get (fun _=>pv) (n:=i.size) (m:=1) (i:=0) (j:=j) (by omega) hj
         rw[Nat.zero_mul,Nat.zero_add] at this
         exact this
        obtain⟨N1,hbel,o1,o2,o3⟩:=setRow_nxt h (A:=A) f3 f2 (fun q hq=>hAlo q (Nat.lt_of_not_le fun hge=>f6 q hge hq))
        have s1:Sim w1 (w.setRow blk A) G st:=by
         refine⟨hbel,fun c cs' hcs => ?_,h.boxN,h.boxI,fun s len m hr => ?_,h.rowN,h.rowL,h.rowI,h.apart,fun b o hF=>by rw[o3]; exact h.Fd b o hF,h.btN,h.rtN⟩
         ·obtain⟨k,us,U,g1,g2,g3,g4,g5,g6,g7⟩:=(h.box c cs' hcs).ex
          exact⟨k,us,U,g1,g2,(o1 k (fun e=>h.apart c r k i.size cap g1 (e ▸ e1))).trans g3,g4,g5,fun j hj=>(g6 j hj).mono N1,g7⟩
         ·obtain⟨g0,k,c,us,U,gz,g1,g2,g3,g4,g5,g6,g7⟩:=h.row s len m hr
          by_cases hk:k=blk
          ·subst hk
           obtain rfl:=h.rowI s r k m c i.size cap g1 e1
           rw[e1] at g1
           cases g1
           rw[f3] at g3
           cases g3
           exact⟨g0,k,cap,A,_,fz,e1,g2,o2,hAs,g5,g6,g7⟩
          ·exact⟨g0,k,c,us,U,gz,g1,g2,(o1 k hk).trans g3,g4,g5,g6,g7⟩
        obtain⟨s2,N2⟩:=s1.addRow (r:=r) (blk:=blk) (n:=i.size) (cap:=cap) (len:=l.length+1) (st.rows.set r (l.length+1,i.size)) st.rt f2 o2 hAs hfit
         (fun o ho hF=>f6 o (by rw[Nat.add_mul] at ho; omega) hF) (fun b k hb e=>h.apart b r k i.size cap hb (e ▸ e1)) (fun s k m c hsr hr e=>hsr (h.rowI s r k m c i.size cap hr (e ▸ e1)))
         ⟨.inr ⟨l.length,hcond.2.1,by omega,rfl⟩,.inl ⟨rfl,Nat.le_trans f7 (Nat.mul_le_mul_right _ (by omega))⟩⟩ (.inr ⟨(List.getElem?_eq_some_iff.1 hcond.2.1).1,rfl,hcond.2.2⟩)
        have N:=N1.trans N2
        have hEE:=(hL.append hE).mono N.F N.tr
        have hlen:(l++[up]).length=l.length+1:=by simp
        have hblk0:(w.setRow blk A0).heap[blk]? = some (.cells A0 e fz):=setRow_heap w blk cur A0 e fz f3
        have hfw:fillW ⟨blk,l.length*i.size,pv.cells.toList⟩ (w.setRow blk A0)=w.setRow blk A:=by
         rw[fillW_eq (h:=⟨blk,l.length*i.size,pv.cells.toList⟩) hblk0,hfill]
         exact setRow_setRow f3
        refine⟨_,_,_,⟨blk,l.length*i.size,pv.cells.toList⟩,hrun,by rw[hfw]; exact N,by rw[hfw]; exact s2,?_,⟨A0,e,fz,hblk0,f7,by rw[hA0s]; simp only; omega⟩,rfl,hvl,hvone,fun b hb => ?_,r,l++[up],l.length,cap,rfl,hlen,rfl,rfl⟩
        ·rw[hfw]
         refine .own' hlen.symm (hEE.repD' hlen.symm hfit (fun o ho=>.inr ⟨rfl,ho⟩) (fun p j hp hj => ?_) _ (.inl rfl)) (by simp[Gh.addRow]) (fun _=>⟨blk,i.size,by simp[Gh.addRow],rfl,?_⟩)
         ·simp only[World.cell?,o2]
          rw[if_neg (by simp)]
          by_cases hp':p<l.length
          ·rw[hAlo _ (lt_of hp' hj),if_pos hp']
           have h3:=(hc p j hp' hj).2
           have hne:l≠[]:=by rintro rfl; simp at hp'
           have h4:=ha hne
           cases h4
           simp only[World.cell?,f3] at h3
           rw[if_neg (by simp),Nat.zero_add] at h3
           exact h3
          ·rw[if_neg hp']
           have e4:p=l.length:=by omega
           rw[e4]
           exact hAhi j hj
         ·unfold szAll at hsl ⊢
          rw[List.all_append,hsl]
          simp[hupn]
        ·have hb':G.bx b=some blk:=hb
         exact h.apart b r blk _ cap hb' e1
       ·exact grow l _ cap r _ _ rfl hd hsl (by omega) hcond.1 (.inr ⟨l.length,hcond.2.1,by omega,rfl⟩) (.inr ⟨(List.getElem?_eq_some_iff.1 hcond.2.1).1,rfl,hcond.2.2⟩) rfl rfl
      ·cases hev
     ·cases hev
    ·cases hev
   ·cases hev
  ·cases hev
 ·cases hev
structure HoleOk (h:Hole) (q:Pn) (w:World) (G:Gh) (fr:Fr) (a:Act):Prop where
 cell : ∃ cur T fz,w.heap[h.blk]? = some (.cells cur T fz)/\fz.2<=h.off/\h.off+q.n<=cur.size
 one : ∀ c∈h.vc,c.oneCell'=true
 len:h.vc.length=q.n
 bx : ∀ b,G.bx b≠some h.blk
 vv:(a.tmps.getD q.v Go.undef).cells.toList=h.vc
 dd : ∀ r l,fr.getD q.d .undef = .own r l -> ∃ L cap,l.length=L+1/\a.tmps.getD q.d Go.undef = .slice (some ⟨h.blk,0,none⟩) (L+1) cap/\h.off=L*q.n
 ps : ∀ p,q.ps.contains p=true -> ∀ cs,fr.getD p .undef = .ref cs->a.tmps.getD p Go.undef = .pointer (some ⟨h.blk,h.off,none⟩)
def PdOk (pd:Option Pn) (wi w:World) (G:Gh) (fr:Fr) (a:Act):Prop :=
 match pd with
 |none=>w=wi
 |some q => ∃ h,wi=fillW h w/\HoleOk h q w G fr a
theorem put_ne {a:Act} {t k:Nat} {v:Value} (h:t≠k):(a.put (some t) v).tmps.getD k Go.undef=a.tmps.getD k Go.undef:=by
 simp only[Act.put]
 rw[Array.getD_eq_getD_getElem?,Array.getElem?_setIfInBounds_ne h,<- Array.getD_eq_getD_getElem?]
theorem put_eq {a:Act} {t:Nat} {v:Value} (h:t<a.tmps.size):(a.put (some t) v).tmps.getD t Go.undef=v:=by
 simp only[Act.put]
 rw[Array.getD_eq_getD_getElem?,Array.getElem?_setIfInBounds_self_of_lt h]
 rfl
theorem set_ne {fr:Fr} {t k:Nat} {v:PV} (h:t≠k):(fr.set t v).getD k .undef=fr.getD k .undef:=by
 rw[List.getD_eq_getElem?_getD,List.getElem?_set_ne h,<- List.getD_eq_getElem?_getD]
theorem cPap_ok {P:Program} {w1 w:World} {G:Gh} {st st':St} {fr:Fr} {a:Act} {cl:CallF} (h:Sim w1 w G st) (hf:FrRel G w fr a) {sh:FuncId->Nat} {ops:Array Oper} {flag v:Nat} {o:Oper} {s:SOp} {q:Pn}
  (hc:cPap P sh ops flag v o=some (s,q)) {z:PV} (he:evOp cl s.op fr st=some (z,st')) :
  cGuard ops o.guard=some none/\s.guard=none/\s.dst=o.dst/\s.flag=flag /\ ∃ r w' G' wi,(execOp a.eval o).run P w = .ok (.value r) w'/\Nxt w1.heap.size G w G' wi/\Sim w1 wi G' st'/\FrRel G' wi (putF o.dst z fr) (a.put o.dst r)/\PdOk (some q) wi w' G' (putF o.dst z fr) (a.put o.dst r):=by
 unfold cPap at hc
 split at hc
 ·rename_i s0 hs0
  split at hc
  ·rename_i d n bytes T x y hd hg hop
   split at hc
   ·cases hc
   ·rename_i hdv
    cases hc
    unfold cSOp at hs0
    split at hs0
    ·rename_i g hg0
     split at hs0
     ·rename_i i hi
      cases hs0
      simp only at hd hg hop
      subst hg
      subst hop
      refine⟨hg0,rfl,hd.symm,rfl,?_⟩
      simp only[evOp] at he
      -- the operation is an append
      cases ho:o.op with
      |call c =>
       rw[ho] at hi
       simp only[cOp,cCall] at hi
       split at hi
       ·rename_i b hbi
        split at hi
        ·split at hi
         ·split at hi <;> first|(cases hi; done)|skip
         ·cases hi
        ·split at hi
         ·rename_i xo yo t u ea et
          have eargs:c.args = #[xo,yo]:=by
           have:=congrArg List.toArray ea
           simpa using this
          have etys:c.argTypes = #[t,u]:=by
           have:=congrArg List.toArray et
           simpa using this
          split at hi
          ·rename_i e x' y' hel hx hy
           split at hi
           ·rename_i n' it dd hn hit hdd
            split at hi
            ·rename_i z0 hz0
             split at hi
             ·rename_i hzs
              obtain⟨it',hi',hin,hn0⟩:=sizeT_some hn
              rw[hit] at hi'
              cases hi'
              have key:n=n'->bytes=it.bytes->T=e->x=x'->y=y'->((∃ e',P.underlying u=some (.slice e'))\/(P.underlying u=some .string/\n'=1)) -> ∃ r w' G' wi,(execOp a.eval o).run P w = .ok (.value r) w'/\Nxt w1.heap.size G w G' wi/\Sim w1 wi G' st' /\
                FrRel G' wi (putF o.dst z fr) (a.put o.dst r)/\PdOk (some ⟨n,d,v,[]⟩) wi w' G' (putF o.dst z fr) (a.put o.dst r):=by
               rintro rfl rfl rfl rfl rfl hk
               obtain⟨r,w',G',p,hrun,N,s',hr,h1,h2,h3,h4,h5,r0,l,L,cap,h6,h7,h8,h9⟩:=pappend_ok (P:=P) (tx:=u) (ty:=o.type) h (elemT_some hel) hit hin hn0 hz0 hzs.1 (cOpd_rep hf hx) (cOpd_rep hf hy) (hf.get v) hk he (Nat.ne_of_lt hzs.2)
               refine⟨r,w',G',_,?_,N,s',(hf.mono N).put _ hr,p,rfl,h1,h4,h3,h5,?_,?_,fun k hk=>by simp at hk⟩
               ·have:(execOp a.eval o)=(do pure (Next.value (<- Builtin.append_ #[t,u] o.type #[a.eval xo,a.eval yo]))):=by simp[execOp,ho,resolve,hbi,invoke,builtin,eargs,etys]
                rw[this,Sem.run_bind,hrun]
                rfl
               ·rw[hd]
                simp only
                rw[put_ne hdv]
                exact h2.symm
               ·rw[hd]
                simp only[putF]
                intro rr ll hq
                rcases Nat.lt_or_ge d fr.length with hlt|hlt
                ·rw[List.getD_eq_getElem?_getD,List.getElem?_set_self hlt,h6] at hq
                 cases hq
                 exact⟨L,cap,h7,by rw[put_eq (by rw[hf.size]; exact hlt),h8],h9⟩
                ·rw[List.getD_eq_getElem?_getD,List.getElem?_eq_none (by simpa using hlt)] at hq
                 cases hq
              split at hi
              ·split at hi
               ·cases hi
               ·cases hi; exact key rfl rfl rfl rfl rfl (.inl ⟨_,hdd⟩)
              ·split at hi
               ·rename_i h1
                cases hi; exact key rfl rfl rfl rfl rfl (.inr ⟨hdd,h1⟩)
               ·cases hi
              ·cases hi
             ·cases hi
            ·cases hi
           ·cases hi
          ·cases hi
         ·cases hi
        ·split at hi
         ·obtain⟨y,_,e⟩:=Option.map_eq_some_iff.1 hi
          cases e
         ·cases hi
        ·split at hi
         ·split at hi
          ·split at hi <;> cases hi
          ·cases hi
         ·cases hi
        ·split at hi
         ·split at hi <;> cases hi
         ·cases hi
        ·split at hi
         ·split at hi <;> cases hi
         ·cases hi
        ·cases hi
       ·split at hi
        ·split at hi
         ·split at hi
          ·split at hi
           ·cases hi
           ·cases hi
           ·cases hi
           ·split at hi <;> cases hi
          ·split at hi
           ·split at hi <;> cases hi
           ·cases hi
         ·cases hi
        ·obtain⟨y,_,e⟩:=Option.map_eq_some_iff.1 hi
         cases e
        ·cases hi
       ·cases hi
      |_ =>
       exfalso
       rw[ho] at hi
       first
        |(cases hi; done)
        |(simp only[cOp] at hi; obtain⟨y,_,e⟩:=Option.map_eq_some_iff.1 hi; cases e; done)
        |(simp only[cOp] at hi; (repeat' split at hi) <;> first|(cases hi; done)|(obtain⟨y,_,e⟩:=Option.map_eq_some_iff.1 hi; cases e; done))
     ·cases hs0
      cases hop
    ·cases hs0
  ·cases hc
 ·cases hc
theorem cOp_store {P:Program} {sh:FuncId->Nat} {op:Op} {n:Nat} {x y:Opd} (h:cOp P sh op=some (.store n x y)) : ∃ t xo yo,op = .store t xo yo/\sizeT P t=some n/\cOpd xo=some x/\cOpd yo=some y:=by
 cases op with
 |store t xo yo =>
  simp only[cOp] at h
  split at h
  ·rename_i n' x' y' h1 h2 h3
   cases h
   exact⟨_,_,_,rfl,h1,h2,h3⟩
  ·cases h
 |call c =>
  exfalso
  simp only[cOp,cCall] at h
  (repeat' split at h) <;> first|(cases h; done)|(obtain⟨y,_,e'⟩:=Option.map_eq_some_iff.1 h; cases e'; done)
 |_ =>
  exfalso
  first
   |(cases h; done)
   |(simp only[cOp] at h; obtain⟨y,_,e⟩:=Option.map_eq_some_iff.1 h; cases e; done)
   |(simp only[cOp] at h; (repeat' split at h) <;> first|(cases h; done)|(obtain⟨y,_,e⟩:=Option.map_eq_some_iff.1 h; cases e; done))
theorem cOp_idx {P:Program} {sh:FuncId->Nat} {op:Op} {n:Nat} {x y:Opd} (h:cOp P sh op=some (.idx n x y)) : ∃ t e xo yo,op = .indexAddr t xo yo/\elemT P t=some e/\sizeT P e=some n/\cOpd xo=some x/\cOpd yo=some y:=by
 cases op with
 |indexAddr t xo yo =>
  simp only[cOp] at h
  split at h
  ·rename_i e x' y' h1 h2 h3
   obtain⟨n',h4,e'⟩:=Option.map_eq_some_iff.1 h
   cases e'
   exact⟨_,_,_,_,rfl,h1,h4,h2,h3⟩
  ·cases h
 |call c =>
  exfalso
  simp only[cOp,cCall] at h
  (repeat' split at h) <;> first|(cases h; done)|(obtain⟨y,_,e'⟩:=Option.map_eq_some_iff.1 h; cases e'; done)
 |_ =>
  exfalso
  first
   |(cases h; done)
   |(simp only[cOp] at h; obtain⟨y,_,e⟩:=Option.map_eq_some_iff.1 h; cases e; done)
   |(simp only[cOp] at h; (repeat' split at h) <;> first|(cases h; done)|(obtain⟨y,_,e⟩:=Option.map_eq_some_iff.1 h; cases e; done))
theorem cSOp_parts {P:Program} {sh:FuncId->Nat} {ops:Array Oper} {flag:Nat} {o:Oper} {s:SOp} (h:cSOp P sh ops flag o=some s):(cOp P sh o.op=some s.op\/s.op = .fail)/\cGuard ops o.guard=some s.guard/\s.dst=o.dst/\s.flag=flag:=by
 unfold cSOp at h
 split at h
 ·rename_i g h1
  split at h
  ·rename_i i h2
   cases h
   exact⟨.inl h2,h1,rfl,rfl⟩
  ·cases h
   exact⟨.inr rfl,h1,rfl,rfl⟩
 ·cases h
theorem cPend_kinds {P:Program} {sh:FuncId->Nat} {ops:Array Oper} {q:Pn} {flag:Nat} {o:Oper} {s:SOp} {pd:Option Pn} (hc:cPend P sh ops q flag o=some (s,pd)) :
  cGuard ops o.guard=some none/\s.guard=none/\s.dst=o.dst/\s.flag=flag /\
  ((∃ p u,o.dst=none/\cOp P sh o.op=some (.store q.n (.t p) (.t u))/\q.ps.contains p=true/\u=q.v/\s.op = .fill q.n (.t p) (.t u)/\pd=none) \/
   (∃ n p y,o.dst=none/\cOp P sh o.op=some (.store n (.t p) y)/\s.op = .store n (.t p) y/\pd=some q) \/
   (∃ t i,o.dst=some t/\t≠q.d/\t≠q.v/\q.ps.contains t=false/\cOp P sh o.op=some (.idx q.n (.t q.d) i)/\s.op = .pidx q.n (.t q.d) i/\pd=some ⟨q.n,q.d,q.v,t::q.ps⟩) \/
   (∃ t,o.dst=some t/\t≠q.d/\t≠q.v/\q.ps.contains t=false/\cOp P sh o.op=some s.op/\isPure s.op=true/\pd=some q)):=by
 unfold cPend at hc
 cases hs:cSOp P sh ops flag o with
 |none=>rw[hs] at hc; cases hc
 |some s0 =>
  rw[hs] at hc
  obtain⟨f,d,g,op⟩:=s0
  obtain⟨c1,c2,c3,c4⟩:=cSOp_parts hs
  simp only at c1 c2 c3 c4 hc
  subst c3
  subst c4
  by_cases hg:g.isSome=true
  ·rw[if_pos hg] at hc; cases hc
  rw[if_neg hg] at hc
  have hgn:g=none:=by simpa using hg
  subst hgn
  have prot : ∀ t:Nat,¬ (t=q.d\/t=q.v\/q.ps.contains t=true)->t≠q.d/\t≠q.v/\q.ps.contains t=false:=by
   intro t ht
   refine⟨fun e=>ht (.inl e),fun e=>ht (.inr (.inl e)),?_⟩
   cases hq:q.ps.contains t with
   |false=>rfl
   |true=>exact absurd (.inr (.inr hq)) ht
  cases op with
  |store n x y =>
   replace c1:=c1.resolve_right (by simp)
   cases x with
   |c v=>cases hc
   |t p =>
    simp only at hc
    split at hc
    ·rename_i hp
     cases y with
     |c v=>cases hc
     |t u =>
      simp only at hc
      split at hc
      ·rename_i h3
       obtain⟨rfl,rfl,h4⟩:=h3
       cases hc
       exact⟨c2,rfl,h4.symm,rfl,.inl ⟨p,_,h4,c1,hp,rfl,rfl,rfl⟩⟩
      ·cases hc
    ·split at hc
     ·rename_i h4
      cases hc
      exact⟨c2,rfl,rfl,rfl,.inr (.inl ⟨n,p,y,h4,c1,rfl,rfl⟩)⟩
     ·cases hc
  |idx n x i =>
   replace c1:=c1.resolve_right (by simp)
   cases hd:o.dst with
   |none=>rw[hd] at hc; cases hc
   |some t =>
    rw[hd] at hc
    simp only at hc
    split at hc
    ·cases hc
    ·rename_i hpr
     obtain⟨p1,p2,p3⟩:=prot t hpr
     cases x with
     |c v =>
      simp only at hc
      split at hc
      ·cases hc
       exact⟨c2,rfl,rfl,rfl,.inr (.inr (.inr ⟨t,rfl,p1,p2,p3,c1,rfl,rfl⟩))⟩
      ·cases hc
     |t r =>
      simp only at hc
      split at hc
      ·rename_i hr
       subst hr
       split at hc
       ·rename_i hn
        subst hn
        cases hc
        exact⟨c2,rfl,rfl,rfl,.inr (.inr (.inl ⟨t,i,rfl,p1,p2,p3,c1,rfl,rfl⟩))⟩
       ·cases hc
      ·cases hc
       exact⟨c2,rfl,rfl,rfl,.inr (.inr (.inr ⟨t,rfl,p1,p2,p3,c1,rfl,rfl⟩))⟩
  |_ =>
   simp only at hc
   split at hc
   ·cases hc
   ·rename_i t hd
    split at hc
    ·cases hc
    ·rename_i hpr
     obtain⟨p1,p2,p3⟩:=prot t hpr
     split at hc
     ·rename_i hpu
      cases hc
      refine⟨c2,rfl,rfl,rfl,.inr (.inr (.inr ⟨t,hd,p1,p2,p3,c1.resolve_right (fun e => ?_),hpu,rfl⟩))⟩
      first
       |(cases e; done)
       |(cases hpu; done)
     ·cases hc
theorem HoleOk.put {h:Hole} {q:Pn} {w:World} {G:Gh} {fr:Fr} {a:Act} (H:HoleOk h q w G fr a) {t:Nat} (h1:t≠q.d) (h2:t≠q.v) (h3:q.ps.contains t=false) (z:PV) (v:Value):HoleOk h q w G (putF (some t) z fr) (a.put (some t) v):=by
 refine⟨H.cell,H.one,H.len,H.bx,by rw[put_ne h2]; exact H.vv,fun r l hd => ?_,fun p hp cs hcs => ?_⟩
 ·simp only[putF] at hd
  rw[set_ne h1] at hd
  obtain⟨L,cap,e1,e2,e3⟩:=H.dd r l hd
  exact⟨L,cap,e1,by rw[put_ne h1]; exact e2,e3⟩
 ·have hne:t≠p:=by
   rintro rfl
   rw[h3] at hp
   cases hp
  simp only[putF] at hcs
  rw[set_ne hne] at hcs
  rw[put_ne hne]
  exact H.ps p hp cs hcs
theorem cPend_pure {P:Program} {w1 wi w:World} {cl:CallF} {G:Gh} {st st':St} {fr:Fr} {a:Act} (hf:FrRel G wi fr a) {h:Hole} {q:Pn} (hw:wi=fillW h w) (H:HoleOk h q w G fr a) {sh:FuncId->Nat} {ops:Array Oper} {flag:Nat} {o:Oper} {s:SOp} {pd:Option Pn}
  (hc:cPend P sh ops q flag o=some (s,pd)) (hp:isPureP s.op=true) {z:PV} (he:evOp cl s.op fr st=some (z,st')) :
  st'=st /\ ∃ v,(∀ w',(execOp a.eval o).run P w' = .ok (.value v) w')/\FrRel G wi (putF o.dst z fr) (a.put o.dst v)/\PdOk pd wi w G (putF o.dst z fr) (a.put o.dst v):=by
 obtain⟨_,_,_,_,hk⟩:=cPend_kinds hc
 rcases hk with ⟨p,u,_,_,_,_,e,_⟩|⟨n,p,y,_,_,e,_⟩|⟨t,i,hd,p1,p2,p3,hco,e,rfl⟩|⟨t,hd,p1,p2,p3,hco,hpu,rfl⟩
 ·rw[e] at hp; cases hp
 ·rw[e] at hp; cases hp
 ·rw[e] at he
  simp only[evOp] at he
  obtain⟨z',hz,e'⟩:=Option.map_eq_some_iff.1 he
  cases e'
  unfold pidxV at hz
  split at hz
  ·rename_i r l k iv e1 e2
   split at hz
   ·rename_i hiv
    have hev:evOp cl (.idx q.n (.t q.d) i) fr st=some (z,st):=by
     simp only[evOp,e1,e2,hz,Option.map_some]
    obtain⟨_,v,hv,hr⟩:=pure_ok hf hco rfl hev
    refine⟨rfl,v,hv,hf.put _ hr,h,hw,?_⟩
    rw[hd]
    have H':=H.put p1 p2 p3 z v
    refine⟨H'.cell,H'.one,H'.len,H'.bx,H'.vv,H'.dd,fun p hp cs hcs => ?_⟩
    simp only[List.contains_cons,Bool.or_eq_true,beq_iff_eq] at hp
    rcases hp with rfl|hp
    ·
     obtain⟨L,cap,d1,d2,d3⟩:=H.dd r l e1
     obtain⟨t',el,xo,yo,ho,hel,hn,hx,hy⟩:=cOp_idx hco
     obtain⟨ti,hti,htn,hn0⟩:=sizeT_some hn
     have hu:=elemT_some hel
     have hxe:a.eval xo = .slice (some ⟨h.blk,0,none⟩) (L+1) cap:=by
      cases xo with
      |tmp tt=>cases hx; exact d2
      |const vv =>
       simp only[cOpd] at hx
       obtain⟨_,_,e⟩:=Option.map_eq_some_iff.1 hx
       cases e
      |global g=>cases hx
      |func f=>cases hx
     have hye:=cOpd_rep hf hy
     rw[e2] at hye
     have hyv:=hye.int_inv
     have hiL:iv=(L:Int):=by omega
     subst hiL
     have hrun:=hv w
     have hpos:(0:Int)<=(L:Int):=by omega
     have hlt:(L:Int)<((L+1:Nat):Int):=by omega
     have hrun2:(execOp a.eval o).run P w = .ok (.value (.pointer (some ⟨h.blk,L*q.n,none⟩))) w:=by
      simp only[execOp,ho,hxe,hyv]
      rw[Sem.run_bind]
      have:(Instr.indexAt t' (.slice (some ⟨h.blk,0,none⟩) (L+1) cap) (.int k (L:Int))).run P w = .ok (.pointer (some ⟨h.blk,L*q.n,none⟩)) w:=by
       simp[Instr.indexAt,asIntOf,run_und hu,hpos,hlt,run_size hti,htn,addr_add]
      rw[this]
      rfl
     rw[hrun2] at hrun
     have hvv:v = .pointer (some ⟨h.blk,L*q.n,none⟩):=by
      injection hrun with e1 _
      injection e1 with e1
      exact e1.symm
     rcases Nat.lt_or_ge p fr.length with hlt|hge
     ·rw[put_eq (by rw[hf.size]; exact hlt),hvv,d3]
     ·simp only[putF] at hcs
      rw[List.getD_eq_getElem?_getD,List.getElem?_eq_none (by simpa using hge)] at hcs
      cases hcs
    ·exact H'.ps p hp cs hcs
   ·cases hz
  ·cases hz
 ·obtain⟨rfl,v,hv,hr⟩:=pure_ok hf hco hpu he
  refine⟨rfl,v,hv,hf.put _ hr,h,hw,?_⟩
  rw[hd]
  exact H.put p1 p2 p3 z v
theorem setRow_other' {w:World} {b c:Nat} {A:Array Value} (h:c≠b):(w.setRow b A).heap[c]? = w.heap[c]? := setRow_other w b c A h
theorem cPend_mem {P:Program} {w1 wi w:World} {cl:CallF} {G:Gh} {st st':St} {fr:Fr} {a:Act} (hs:Sim w1 wi G st) (hf:FrRel G wi fr a) {h:Hole} {q:Pn} (hw:wi=fillW h w) (H:HoleOk h q w G fr a) {sh:FuncId->Nat} {ops:Array Oper} {flag:Nat} {o:Oper} {s:SOp} {pd:Option Pn}
  (hc:cPend P sh ops q flag o=some (s,pd)) (hp:isPureP s.op=false) {z:PV} (he:evOp cl s.op fr st=some (z,st')) :
  o.dst=none /\ ∃ w' wi',(execOp a.eval o).run P w = .ok .skip w'/\Nxt w1.heap.size G wi G wi'/\Sim w1 wi' G st'/\PdOk pd wi' w' G fr a:=by
 obtain⟨cur,T,fz,c1,c2,c3⟩:=H.cell
 have hfw:=fillW_eq (h:=h) c1
 obtain⟨_,_,_,_,hk⟩:=cPend_kinds hc
 rcases hk with ⟨p,u,hd,hco,hps,rfl,e,rfl⟩|⟨n,p,y,hd,hco,e,rfl⟩|⟨t,i,hd,p1,p2,p3,hco,e,rfl⟩|⟨t,hd,p1,p2,p3,hco,hpu,rfl⟩
 ·
  refine⟨hd,wi,wi,?_,Nxt.refl _ _ _,?_,rfl⟩
  ·rw[e] at he
   simp only[evOp] at he
   obtain⟨z',hz,e'⟩:=Option.map_eq_some_iff.1 he
   unfold fillV at hz
   split at hz
   ·rename_i cs hcs
    obtain⟨t,xo,yo,ho,hn,hx,hy⟩:=cOp_store hco
    have hxe:a.eval xo = .pointer (some ⟨h.blk,h.off,none⟩):=by
     cases xo with
     |tmp tt=>cases hx; exact H.ps p hps cs hcs
     |const vv =>
      simp only[cOpd] at hx
      obtain⟨_,_,e⟩:=Option.map_eq_some_iff.1 hx
      cases e
     |global g=>cases hx
     |func f=>cases hx
    have hye:(a.eval yo).cells.toList=h.vc:=by
     cases yo with
     |tmp tt=>cases hy; exact H.vv
     |const vv =>
      simp only[cOpd] at hy
      obtain⟨_,_,e⟩:=Option.map_eq_some_iff.1 hy
      cases e
     |global g=>cases hy
     |func f=>cases hy
    obtain⟨it,hit,hin,hn0⟩:=sizeT_some hn
    have hsz:(a.eval yo).cells.size=q.n:=by rw[<- Array.length_toList,hye,H.len]
    have hst:=run_storeCells_atF P h.blk h.off T fz h.vc 0 cur w c1 (by simpa using c2) (by simp only[Nat.add_zero,H.len]; exact c3) H.one
    simp only[Nat.add_zero] at hst
    have hne : ¬ ((a.eval yo).cells.size≠it.size):=by omega
    have hsv:(storeVar t ⟨h.blk,h.off,none⟩ (a.eval yo)).run P w = .ok () (fillW h w):=by
     rw[hfw]
     simp[storeVar,run_size hit,hne,hye,hst,fillA]
    simp only[execOp,ho,hxe]
    rw[Sem.run_bind]
    have:(Instr.storeAt t (.pointer (some ⟨h.blk,h.off,none⟩)) (a.eval yo)).run P w = .ok () (fillW h w):=by
     simp only[Instr.storeAt,Instr.sureAddr]
     exact hsv
    rw[this,hw]
    rfl
   ·cases hz
  ·rw[e] at he
   simp only[evOp] at he
   obtain⟨z',hz,e'⟩:=Option.map_eq_some_iff.1 he
   cases e'
   exact hs
 ·
  rw[e] at he
  simp only[evOp] at he
  split at he
  ·rename_i b qo hx
   split at he
   ·rename_i cs hcs
    split at he
    ·rename_i hcond
     cases he
     obtain⟨t,xo,yo,ho,hn,hxo,hyo⟩:=cOp_store hco
     have hr:=cOpd_rep hf hxo
     rw[hx] at hr
     obtain⟨blk,hbx,hv⟩:=hr.ptr_inv
     have hne:blk≠h.blk:=fun e=>H.bx b (e ▸ hbx)
     obtain⟨A,h1,N,s',h4⟩:=store_okA (P:=P) hs hn hbx hcs (cOpd_rep hf hyo) hcond.1 hcond.2.1 hcond.2.2
     have hrow:w.heap[blk]? = wi.heap[blk]? := by rw[hw,hfw,setRow_other' hne]
     obtain⟨kb,us,U,g1,g2,g3,_⟩:=(hs.box b cs hcs).ex
     rw[hbx] at g1
     cases g1
     have hcell':(w.setRow blk A).heap[h.blk]? = some (.cells cur T fz):=by rw[setRow_other' (fun e=>hne e.symm)]; exact c1
     refine⟨hd,w.setRow blk A,wi.setRow blk A,?_,N,s',h,?_,⟨⟨cur,T,fz,hcell',c2,c3⟩,H.one,H.len,H.bx,H.vv,H.dd,H.ps⟩⟩
     ·simp only[execOp,ho,hv]
      rw[Sem.run_bind,h1 w hrow]
      rfl
     ·rw[hw,hfw,fillW_eq hcell']
      exact (setRow_swap hne (hrow.trans g3) c1).symm
    ·cases he
   ·cases he
  ·cases he
 ·rw[e] at hp; cases hp
 ·exfalso
  revert hp
  unfold isPureP
  split
  ·simp
  ·rw[hpu]; simp
end Go.Proofs.YthjnlpfibakacaaGreatDoorPe
