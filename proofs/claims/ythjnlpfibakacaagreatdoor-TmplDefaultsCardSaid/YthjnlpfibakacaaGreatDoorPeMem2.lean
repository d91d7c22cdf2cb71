/- A part of the proof of this folder's statement; it has no condition of its own. -/
import Derived.Test.YthjnlpfibakacaaGreatDoorPeMem
import Derived.Laws.BytesString
set_option linter.unusedVariables false
set_option linter.unusedSimpArgs false
namespace Go.Proofs.YthjnlpfibakacaaGreatDoorPe
open Go Go.RowKit
def MemOk (P:Program) (w1 w:World) (G:Gh) (st':St) (s:Sem Value) (z:PV):Prop :=
 ∃ v w' G',s.run P w = .ok v w'/\Nxt w1.heap.size G w G' w'/\Sim w1 w' G' st'/\Rep G' w' z v /\ ∀ i k,G.bx i=some k->w'.heap[k]? = w.heap[k]?
theorem below_alloc (w:World) (o:Obj):Below w.heap.size w (w.alloc o):=(Below.refl _ _).alloc (Nat.le_refl _) o
theorem heap_alloc_self (w:World) (o:Obj):(w.alloc o).heap[w.heap.size]? = some o:=by show (w.heap.push o)[w.heap.size]? = some o; simp
theorem newBox_ok {P:Program} {w1 w:World} {G:Gh} {st:St} (h:Sim w1 w G st) {cs:List PV} {A:Array Value} (t:TypeId) (hR:Reps G w cs A) {s:Sem Value} (hs:s.run P w = .ok (.pointer (some ⟨w.heap.size,0,none⟩)) (w.alloc (.cells A t))) :
  MemOk P w1 w G ⟨st.boxes++[cs],st.rows,st.bt++[t],st.rt⟩ s (.ptr st.boxes.length 0):=by
 obtain⟨h1,N1⟩:=h.grow (below_alloc w (.cells A t))
 obtain⟨h2,N2⟩:=h1.addBox (blk:=w.heap.size) (cs:=cs) (vs:=A) (T:=t) h.below.size (heap_alloc_self _ _) (fun o hF=>absurd (h.Fd _ o hF) (Nat.lt_irrefl _))
  (fun b k hb=>Nat.ne_of_lt (h.bx_lt hb).1) (fun r k n c hr=>Nat.ne_of_lt (h.rw_lt hr).1) ⟨hR.1,fun j hj=>(hR.2 j hj).mono N1⟩
 exact⟨_,_,_,hs,N1.trans N2,h2,.ptr 0 (by simp[Gh.addBox]),fun i k hk=>(below_alloc w _).block k (h.bx_lt hk).1⟩
theorem box_ok {P:Program} {w1 w:World} {G:Gh} {st:St} (h:Sim w1 w G st) {x:PV} {v:Value} {n:Nat} (hx:Rep G w x v) (hn:x.cells.length=n) (h0:n≠0) (t:TypeId) :
  MemOk P w1 w G ⟨st.boxes++[x.cells],st.rows,st.bt++[t],st.rt⟩ (Instr.box t v) (.ptr st.boxes.length 0) :=
 newBox_ok h t (hx.cells (PV.ne_undef_of_cells hn (by omega))) (by simp[Instr.box,newVar,newRow])
theorem zeroT_some {P:Program} {t:TypeId} {zs:List PV} (h:zeroT P t=some zs) : ∃ i z,P.info? t=some i/\i.zero=some z/\z.cells.size=zs.length /\ ∀ (F:Fix) (w:World) j (hj:j<zs.length),RepD F w (zs[j]) (z.cells.getD j Go.undef):=by
 unfold zeroT at h
 split at h
 ·rename_i i hi
  split at h
  ·rename_i z hz
   obtain⟨e1,e2⟩:=mapO_some h
   have e3:z.cells.size=zs.length:=by simpa using e1.symm
   refine⟨i,z,hi,hz,e3,fun F w j hj => ?_⟩
   have:=e2 j (by simpa using (by omega:j<z.cells.size)) hj
   rw[Array.getD_eq_getD_getElem?,Array.getElem?_eq_getElem (by omega)]
   exact cv1_rep (by simpa using this)
  ·cases h
 ·cases h
theorem zbox_ok {P:Program} {w1 w:World} {G:Gh} {st:St} (h:Sim w1 w G st) {t:TypeId} {zs:List PV} (hz:zeroT P t=some zs) :
  MemOk P w1 w G ⟨st.boxes++[zs],st.rows,st.bt++[t],st.rt⟩ (Instr.alloc t true (.tuple #[])) (.ptr st.boxes.length 0):=by
 obtain⟨i,z,hi,hzv,e1,e2⟩:=zeroT_some hz
 exact newBox_ok h t ⟨e1,fun j hj=>.d (e2 _ _ j hj)⟩ (by simp[Instr.alloc,zeroValue,run_info hi,hzv,newVar,newRow])
theorem isAgg_run {P:Program} {t:TypeId} {b:Bool} (h:aggT P t=some b) (w:World):(isAgg t).run P w = .ok b w:=by
 unfold aggT at h
 cases hu:P.underlying t with
 |none=>rw[hu] at h; cases h
 |some d =>
  rw[hu] at h
  unfold isAgg
  rw[Sem.run_bind,run_und hu]
  cases d <;> (cases h; rfl)
theorem loadT_some {P:Program} {t:TypeId} {m:Option Nat} (h:loadT P t=some m):(m=none /\ ∀ w,(isAgg t).run P w = .ok false w) \/ ∃ i,m=some i.size/\P.info? t=some i /\ ∀ w,(isAgg t).run P w = .ok true w:=by
 unfold loadT at h
 split at h
 ·rename_i ha
  cases hi:P.info? t with
  |none=>rw[hi] at h; cases h
  |some i=>rw[hi] at h; cases h; exact .inr ⟨i,rfl,rfl,isAgg_run ha⟩
 ·rename_i ha
  cases h
  exact .inl ⟨rfl,isAgg_run ha⟩
 ·cases h
def ldv (m:Option Nat) (f:Nat->Value):Value :=
 match m with
 |none=>f 0
 |some n=>.agg ((List.range n).map f).toArray
theorem loadVar_run {P:Program} {t:TypeId} {m:Option Nat} (h:loadT P t=some m) (b o:Nat) (f:Nat->Value) (w:World) (hc : ∀ j,j<m.getD 1->w.cell? ⟨b,o+j,none⟩=some (f j)) :
  (loadVar t ⟨b,o,none⟩).run P w = .ok (ldv m f) w:=by
 rcases loadT_some h with ⟨rfl,ha⟩|⟨i,rfl,hi,ha⟩
 ·have:=hc 0 (by simp)
  simp only[Nat.add_zero] at this
  simp[loadVar,ha,this,ldv]
 ·have hl:=run_loadCells (P:=P) w ⟨b,o,none⟩ i.size f (fun j hj=>by rw[addr_add]; exact hc j (by simpa using hj))
  simp[loadVar,ha,run_size hi,hl,ldv]
theorem loadC_rep {G:Gh} {w:World} {m:Option Nat} {cs:List PV} {z:PV} {f:Nat->Value} (h:loadC m cs=some z) (hr : ∀ j (hj:j<cs.length),Rep G w (cs[j]) (f j)) :
  m.getD 1<=cs.length/\Rep G w z (ldv m f):=by
 unfold loadC at h
 split at h
 ·cases cs with
  |nil=>cases h
  |cons c cs=>cases h; exact⟨by simp,hr 0 (by simp)⟩
 ·rename_i n
  split at h
  ·rename_i hle
   cases h
   refine⟨hle,.agg (by simp; omega) fun j hj => ?_⟩
   simp only[List.length_take] at hj
   have:=hr j (by omega)
   rw[Array.getD_eq_getD_getElem?]
   simp[show j<n by omega]
   exact this
  ·cases h
theorem cells_at {w1 w:World} {G:Gh} {st:St} (h:Sim w1 w G st) {b o blk:Nat} {cs:List PV} (hb:G.bx b=some blk) (hs:st.boxes[b]? = some cs) :
  ∃ f:Nat->Value,(∀ j,j<(cs.drop o).length->w.cell? ⟨blk,o+j,none⟩=some (f j)) /\ ∀ j (hj:j<(cs.drop o).length),Rep G w ((cs.drop o)[j]) (f j):=by
 obtain⟨k,us,U,e1,e2,e3,e4,e5,e6,e7⟩:=(h.box b cs hs).ex
 rw[hb] at e1
 cases e1
 refine⟨fun j=>us.getD (o+j) Go.undef,fun j hj => ?_,fun j hj => ?_⟩
 ·simp only[List.length_drop] at hj
  simp only[World.cell?,e3]
  rw[Array.getD_eq_getD_getElem?,Array.getElem?_eq_getElem (by omega)]
  simp
 ·simp only[List.length_drop] at hj
  have:=e6 (o+j) (by omega)
  simpa using this
theorem load_ok {P:Program} {w1 w:World} {G:Gh} {st st':St} (h:Sim w1 w G st) {t:TypeId} {m:Option Nat} (hl:loadT P t=some m) {x z:PV} {v:Value} (hx:Rep G w x v) {cl:CallF} {y:Opd} {fr:Fr} (hy:y.ev fr=x)
  (he:evOp cl (.load m y) fr st=some (z,st')):st'=st /\ ∃ (b o:Nat) (f:Nat->Value),v = .pointer (some ⟨b,o,none⟩)/\(∀ j,j<m.getD 1->w.cell? ⟨b,o+j,none⟩=some (f j)) /\
   Rep G w z (ldv m f) /\
   (∀ w',(∀ j,j<m.getD 1->w'.cell? ⟨b,o+j,none⟩=some (f j))->(Instr.loadAt t v).run P w' = .ok (ldv m f) w') /\
   ((∃ bb oo,x = .ptr bb oo/\G.bx bb=some b/\(0<m.getD 1->Alive st bb)) \/ ∀ j,j<m.getD 1->G.F b (o+j)):=by
 simp only[evOp,hy] at he
 split at he
 ·rename_i bb oo
  split at he
  ·rename_i cs hcs
   cases hq:loadC m (cs.drop oo) with
   |none=>rw[hq] at he; cases he
   |some q =>
    rw[hq] at he; cases he
    obtain⟨blk,hb,rfl⟩:=hx.ptr_inv
    obtain⟨f,f1,f2⟩:=cells_at h (o:=oo) hb hcs
    obtain⟨l1,l2⟩:=loadC_rep hq f2
    refine⟨rfl,blk,oo,f,rfl,fun j hj=>f1 j (by omega),l2,fun w' hw' => ?_,.inl ⟨bb,oo,rfl,hb,fun h0 => ?_⟩⟩
    rotate_left
    ·cases cs with
     |nil=>simp at l1; omega
     |cons c l=>exact⟨c,l,hcs⟩
    exact loadVar_run hl blk oo f w' hw'
  ·cases he
 ·rename_i cs
  cases hq:loadC m cs with
  |none=>rw[hq] at he; cases he
  |some q =>
   rw[hq] at he; cases he
   obtain⟨b,o,f,rfl,hc,hr⟩:=hx.ref_inv
   obtain⟨l1,l2⟩:=loadC_rep (G:=G) (w:=w) hq (fun j hj=>.d (hr j hj))
   refine⟨rfl,b,o,f,rfl,fun j hj=>(hc j (by omega)).2,l2,fun w' hw' => ?_,.inr fun j hj=>(hc j (by omega)).1⟩
   exact loadVar_run hl b o f w' hw'
 ·cases he
theorem isCell_one {G:Gh} {w:World} {x:PV} {v:Value} (h:Rep G w x v) (hc:x.isCell=true):v.oneCell'=true:=by
 cases h with
 |d h=>cases h with
  |undef=>cases hc
  |agg=>cases hc
  |tuple=>cases hc
  |_=>rfl
 |agg=>cases hc
 |tuple=>cases hc
 |_=>rfl
theorem storeVar_run {P:Program} {t:TypeId} {n:Nat} (hn:sizeT P t=some n) {w:World} {blk o:Nat} {cur:Array Value} {T:TypeId} (hg:w.heap[blk]? = some (.cells cur T (0,0))) {v:Value} (hs:v.cells.size=n) (ho:o+n<=cur.size)
  (h1 : ∀ u∈v.cells.toList,u.oneCell'=true):(storeVar t ⟨blk,o,none⟩ v).run P w = .ok () (w.setRow blk (cur.toList.take o++v.cells.toList++cur.toList.drop (o+n)).toArray):=by
 obtain⟨i,hi,hin,_⟩:=sizeT_some hn
 have hst:=run_storeCells_at P blk o T v.cells.toList 0 cur w hg (by simp; omega) h1
 simp only[Nat.add_zero,Array.length_toList,hs] at hst
 have hne : ¬ (v.cells.size≠i.size):=by omega
 simp[storeVar,run_size hi,hne,hst]
theorem setRow_nxt {w1 w:World} {G:Gh} {st:St} (h:Sim w1 w G st) {blk:Nat} {cur A:Array Value} {T:TypeId} {fz:Nat × Nat} (hg:w.heap[blk]? = some (.cells cur T fz)) (hB:w1.heap.size<=blk) (hF : ∀ o,G.F blk o->A[o]? = cur[o]?) :
  Nxt w1.heap.size G w G (w.setRow blk A)/\Below w1.heap.size w1 (w.setRow blk A)/\(∀ k,k≠blk->(w.setRow blk A).heap[k]? = w.heap[k]?)/\(w.setRow blk A).heap[blk]? = some (.cells A T fz)/\(w.setRow blk A).heap.size=w.heap.size:=by
 have o1:=fun k (hk:k≠blk)=>setRow_other w blk k A hk
 have o2:=setRow_heap w blk cur A T fz hg
 refine⟨⟨fun _ _ h=>h,fun _ _ h=>.inl h,fun _ _ h=>⟨h,rfl⟩,fun _=>Nat.le_refl _,fun _ _ _ h=>h,fun b o hb => ?_⟩,⟨h.below.os,h.below.tape,h.below.output,by rw[setRow_size]; exact h.below.size,fun k hk => ?_⟩,o1,o2,setRow_size _ _ _⟩
 ·by_cases e:b=blk
  ·subst e
   simp only[World.cell?,o2,hg]
   exact hF o hb
  ·exact cell_of_heap (o1 b e)
 ·rw[o1 k (by omega)]; exact h.below.block k hk
theorem store_okA {P:Program} {w1 w:World} {G:Gh} {st:St} (h:Sim w1 w G st) {t:TypeId} {n:Nat} (hn:sizeT P t=some n) {b o blk:Nat} {cs:List PV} (hb:G.bx b=some blk) (hs:st.boxes[b]? = some cs) {y:PV} {u:Value}
  (hy:Rep G w y u) (hyn:y.cells.length=n) (ho:o+n<=cs.length) (hc:y.cells.all PV.isCell=true) :
  ∃ A:Array Value,(∀ w2:World,w2.heap[blk]? = w.heap[blk]? -> (Instr.storeAt t (.pointer (some ⟨blk,o,none⟩)) u).run P w2 = .ok () (w2.setRow blk A))/\Nxt w1.heap.size G w G (w.setRow blk A) /\
   Sim w1 (w.setRow blk A) G ⟨st.boxes.set b (cs.take o++(y.cells++cs.drop (o+n))),st.rows,st.bt,st.rt⟩/\(∀ k,k≠blk->(w.setRow blk A).heap[k]? = w.heap[k]?):=by
 obtain⟨_,_,_,h0⟩:=sizeT_some hn
 obtain⟨k,cur,T,e1,e2,e3,e4,e5,e6,e7⟩:=(h.box b cs hs).ex
 rw[hb] at e1
 cases e1
 obtain⟨c1,c2⟩:=hy.cells (PV.ne_undef_of_cells hyn (by omega))
 have hus:u.cells.size=n:=by omega
 have hone : ∀ q∈u.cells.toList,q.oneCell'=true:=by
  intro q hq
  obtain⟨j,hj,rfl⟩:=List.getElem_of_mem hq
  have hj':j<u.cells.size:=by simpa using hj
  have:=c2 j (by omega)
  refine isCell_one (G:=G) (w:=w) (x:=y.cells[j]'(by omega)) ?_ (List.all_eq_true.1 hc _ (List.getElem_mem _))
  rw[Array.getD_eq_getD_getElem?,Array.getElem?_eq_getElem hj'] at this
  simpa using this
 have hrun : ∀ w2:World,w2.heap[blk]? = w.heap[blk]? -> (storeVar t ⟨blk,o,none⟩ u).run P w2 = .ok () (w2.setRow blk (cur.toList.take o++u.cells.toList++cur.toList.drop (o+n)).toArray):=fun w2 h2=>storeVar_run (P:=P) (o:=o) hn (h2.trans e3) hus (by omega) hone
 obtain⟨N,hbel,o1,o2,o3⟩:=setRow_nxt h (A:=(cur.toList.take o++u.cells.toList++cur.toList.drop (o+n)).toArray) e3 e2 (fun q hq=>absurd hq (e5 q))
 have hbal:Alive st b:=by
  cases cs with
  |nil=>simp at ho; omega
  |cons c l=>exact⟨c,l,hs⟩
 have hal : ∀ c,Alive ⟨st.boxes.set b (cs.take o++(y.cells++cs.drop (o+n))),st.rows,st.bt,st.rt⟩ c->Alive st c:=by
  rintro c ⟨x,l,hc⟩
  simp only at hc
  rw[List.getElem?_set] at hc
  split at hc
  ·rename_i e; subst e; exact hbal
  ·exact⟨x,l,hc⟩
 have hAs:((cur.toList.take o++u.cells.toList++cur.toList.drop (o+n)).toArray:Array Value).size=cur.size:=by simp; omega
 have hls:(cs.take o++(y.cells++cs.drop (o+n))).length=cs.length:=by simp; omega
 refine⟨_,fun w2 h2=>by simp only[Instr.storeAt,Instr.sureAddr]; exact hrun w2 h2,N,⟨hbel,?_,?_,fun c d k hc hd ac ad=>h.boxI c d k hc hd (hal c ac) (hal d ad),?_,h.rowN,h.rowL,h.rowI,h.apart,fun b o hF=>by rw[o3]; exact h.Fd b o hF,by simp[h.btN],h.rtN⟩,o1⟩
 ·intro c cs' hcs
  rw[List.getElem?_set] at hcs
  split at hcs
  ·rename_i e
   subst e
   split at hcs
   ·cases hcs
    refine⟨blk,_,T,hb,e2,o2,by rw[hAs,hls]; exact e4,e5,fun j hj => ?_,by rw[hAs,hls]; exact e7⟩
    simp only[List.length_append,List.length_take,List.length_drop] at hj
    by_cases q1:j<o
    ·have:=(e6 j (by omega)).mono N
     rw[List.getElem_append_left (by simp; omega)]
     rw[Array.getD_eq_getD_getElem?] at this ⊢
     simp only[List.getElem?_toArray,List.append_assoc]
     rw[List.getElem?_append_left (by simp; omega),List.getElem?_take,if_pos q1]
     simpa using this
    ·by_cases q2:j<o+n
     ·have:=(c2 (j-o) (by omega)).mono N
      rw[List.getElem_append_right (by simp; omega)]
      simp only[List.length_take,Nat.min_eq_left (show o<=cs.length by omega)]
      rw[List.getElem_append_left (by omega)]
      rw[Array.getD_eq_getD_getElem?] at this ⊢
      simp only[List.getElem?_toArray,List.append_assoc]
      rw[List.getElem?_append_right (by simp; omega)]
      simp only[List.length_take,Array.length_toList,Nat.min_eq_left (show o<=cur.size by omega)]
      rw[List.getElem?_append_left (by simp; omega)]
      simpa using this
     ·have:=(e6 j (by omega)).mono N
      rw[List.getElem_append_right (by simp; omega)]
      simp only[List.length_take,Nat.min_eq_left (show o<=cs.length by omega)]
      rw[List.getElem_append_right (by omega),List.getElem_drop]
      rw[Array.getD_eq_getD_getElem?] at this ⊢
      simp only[List.getElem?_toArray,List.append_assoc]
      rw[List.getElem?_append_right (by simp; omega)]
      simp only[List.length_take,Array.length_toList,Nat.min_eq_left (show o<=cur.size by omega)]
      rw[List.getElem?_append_right (by simp; omega),List.getElem?_drop]
      have e8:o+n+(j-o-y.cells.length)=j:=by omega
      have e9:o+n+(j-o-u.cells.toList.length)=j:=by simp; omega
      simp only[e8,e9]
      simpa using this
   ·cases hcs
  ·rename_i e
   obtain⟨k,us,U,f1,f2,f3,f4,f5,f6,f7⟩:=(h.box c cs' hcs).ex
   by_cases hk:k=blk
   ·subst hk
    cases cs' with
    |cons x l=>exact absurd (h.boxI b c k hb f1 hbal ⟨x,l,hcs⟩) e
    |nil =>
     rw[e3] at f3
     cases f3
     exact⟨k,_,T,f1,f2,o2,Nat.zero_le _,f5,fun j hj=>absurd hj (Nat.not_lt_zero _),by rw[hAs]; exact f7⟩
   ·exact⟨k,us,U,f1,f2,(o1 k hk).trans f3,f4,f5,fun j hj=>(f6 j hj).mono N,f7⟩
 ·intro c k hk; have:=h.boxN c k hk; simp; exact this
 ·intro r len m hr
  obtain⟨f0,k,cap,us,U,fz,f1,f2,f3,f4⟩:=h.row r len m hr
  exact⟨f0,k,cap,us,U,fz,f1,f2,(o1 k (fun e=>h.apart b r blk m cap hb (e ▸ f1))).trans f3,f4⟩
theorem store_ok {P:Program} {w1 w:World} {G:Gh} {st:St} (h:Sim w1 w G st) {t:TypeId} {n:Nat} (hn:sizeT P t=some n) {b o blk:Nat} {cs:List PV} (hb:G.bx b=some blk) (hs:st.boxes[b]? = some cs) {y:PV} {u:Value}
  (hy:Rep G w y u) (hyn:y.cells.length=n) (ho:o+n<=cs.length) (hc:y.cells.all PV.isCell=true) :
  ∃ w',(Instr.storeAt t (.pointer (some ⟨blk,o,none⟩)) u).run P w = .ok () w'/\Nxt w1.heap.size G w G w'/\Sim w1 w' G ⟨st.boxes.set b (cs.take o++(y.cells++cs.drop (o+n))),st.rows,st.bt,st.rt⟩/\(∀ k,k≠blk->w'.heap[k]? = w.heap[k]?):=by
 obtain⟨A,h1,h2,h3,h4⟩:=store_okA (P:=P) h hn hb hs hy hyn ho hc
 exact⟨_,h1 w rfl,h2,h3,h4⟩
end Go.Proofs.YthjnlpfibakacaaGreatDoorPe
