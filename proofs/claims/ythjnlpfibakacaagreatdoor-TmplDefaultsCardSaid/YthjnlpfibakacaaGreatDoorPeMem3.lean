/- A part of the proof of this folder's statement; it has no condition of its own. -/
import Derived.Test.YthjnlpfibakacaaGreatDoorPeMem2
import Derived.Lib.FrozenHead
import Derived.Laws.IdiomStrings
import Derived.Laws.AppendOwn
set_option linter.unusedVariables false
set_option linter.unusedSimpArgs false
namespace Go.Proofs.YthjnlpfibakacaaGreatDoorPe
open Go Go.RowKit
theorem Sim.fixNew {w1 w w':World} {G:Gh} {st:St} (h:Sim w1 w G st) (hb:Below w.heap.size w w') {blk:Nat} (h1:w.heap.size<=blk) (h2:blk<w'.heap.size) :
  Sim w1 w' (G.fix fun b _=>b=blk) st/\Nxt w1.heap.size G w (G.fix fun b _=>b=blk) w':=by
 obtain⟨s1,N1⟩:=h.grow hb
 obtain⟨s2,N2⟩:=s1.fix (fun b _=>b=blk) (fun b o e=>by subst e; exact⟨Nat.le_trans h.below.size h1,h2⟩) (fun b k o hk e=>by have:=(h.bx_lt hk).1; omega)
  (fun r k n c o hk e=>by have:=(h.rw_lt hk).1; omega)
 exact⟨s2,N1.trans N2⟩
def flatV (vs:Nat->Value) (n m:Nat):List Value:=(List.range (m*n)).map fun k=>(vs (k / n)).cells.getD (k % n) Go.undef
theorem flatV_length (vs:Nat->Value) (n m:Nat):(flatV vs n m).length=m*n:=by simp[flatV]
theorem div_of {i n j:Nat} (hj:j<n):(i*n+j) / n=i:=by
 rw[Nat.add_comm,Nat.add_mul_div_right _ _ (by omega),Nat.div_eq_of_lt hj]; omega
theorem mod_of {i n j:Nat} (hj:j<n):(i*n+j) % n=j:=by
 rw[Nat.add_comm,Nat.add_mul_mod_self_right,Nat.mod_eq_of_lt hj]
theorem lt_of {i n j m:Nat} (hi:i<m) (hj:j<n):i*n+j<m*n:=by
 have:(i+1)*n<=m*n:=Nat.mul_le_mul_right n hi
 rw[Nat.add_mul] at this; omega
theorem flatV_get (vs:Nat->Value) {n m i j:Nat} (hi:i<m) (hj:j<n):(flatV vs n m)[i*n+j]? = some ((vs i).cells.getD j Go.undef):=by
 unfold flatV
 rw[List.getElem?_map,List.getElem?_range (lt_of hi hj)]
 simp only[Option.map_some,div_of hj,mod_of hj]
theorem flatV_get' (vs:Nat->Value) {n m k:Nat} {u:Value} (hn:0<n) (h:(flatV vs n m)[k]? = some u):k / n<m/\k % n<n/\u=(vs (k / n)).cells.getD (k % n) Go.undef:=by
 unfold flatV at h
 rw[List.getElem?_map] at h
 by_cases hk:k<m*n
 ·rw[List.getElem?_range hk] at h
  exact⟨(Nat.div_lt_iff_lt_mul hn).2 hk,Nat.mod_lt _ hn,(Option.some.inj h).symm⟩
 ·rw[List.getElem?_eq_none (by simp; omega)] at h; cases h
structure Els (F:Fix) (w:World) (n:Nat) (l:List PV) (vs:Nat->Value):Prop where
 sz : ∀ i,i<l.length->(vs i).cells.size=n
 one : ∀ i j,i<l.length->j<n->((vs i).cells.getD j Go.undef).oneCell'=true
 rep : ∀ i (h:i<l.length),RepD F w (l[i]) (vs i)
theorem szAll_at {n:Nat} {l:List PV} (h:szAll n l=true) {i:Nat} (hi:i<l.length):(l[i]).cells.length=n:=by
 have:=List.all_eq_true.1 h _ (List.getElem_mem hi)
 simpa using this
theorem RepD.els {F:Fix} {w:World} {l:List PV} {v:Value} {n:Nat} (h:RepD F w (.lst l) v) (hn:0<n) (hs:szAll n l=true) : ∃ (a:Option Addr) (cap b o:Nat) (vs:Nat->Value),v = .slice a l.length cap/\l.length<=cap/\(l≠[]->a=some ⟨b,o,none⟩) /\
  Els F w n l vs /\ ∀ i j,i<l.length->j<n->F b (o+i*n+j)/\w.cell? ⟨b,o+i*n+j,none⟩=some ((vs i).cells.getD j Go.undef):=by
 obtain⟨a,cap,b,o,sz,vs,e,hcap,ha,hsz,hc,hr⟩:=h.lst_inv
 have key : ∀ i,i<l.length->sz=n:=fun i hi=>by
  have h1:=szAll_at hs hi
  have h2:=((hr i hi).cells (PV.ne_undef_of_cells h1 hn)).1
  have:=hsz i hi
  omega
 refine⟨a,cap,b,o,vs,e,hcap,ha,⟨fun i hi=>(hsz i hi).trans (key i hi),fun i j hi hj => ?_,hr⟩,fun i j hi hj => ?_⟩
 ·obtain rfl:=key i hi
  exact (hc i j hi hj).2.2
 ·obtain rfl:=key i hi
  exact⟨(hc i j hi hj).1,(hc i j hi hj).2.1⟩
theorem Els.repD {F:Fix} {w:World} {n:Nat} {l:List PV} {vs:Nat->Value} (h:Els F w n l vs) {blk cap:Nat} (hcap:l.length<=cap) (hF : ∀ o,o<l.length*n->F blk o)
  (hc : ∀ i j,i<l.length->j<n->w.cell? ⟨blk,i*n+j,none⟩=some ((vs i).cells.getD j Go.undef)) (x:PV) (hx:x = .lst l\/x = .full l/\cap=l.length):RepD F w x (.slice (some ⟨blk,0,none⟩) l.length cap) :=
 .sl (b:=blk) (o:=0) hx hcap ⟨fun _=>rfl,fun h=>by cases h⟩ h.sz (fun i j hi hj=>by
  rw[Nat.zero_add]
  exact⟨hF _ (lt_of hi hj),hc i j hi hj,h.one i j hi hj⟩) h.rep
theorem Els.mono {F F':Fix} {w w':World} {n:Nat} {l:List PV} {vs:Nat->Value} (h:Els F w n l vs) (hF : ∀ b o,F b o->F' b o) (ht:Tr F w w'):Els F' w' n l vs:=⟨h.sz,h.one,fun i hi=>(h.rep i hi).mono hF ht⟩
theorem Els.append {F:Fix} {w:World} {n:Nat} {l es:List PV} {vs ws:Nat->Value} (h:Els F w n l vs) (k:Els F w n es ws):Els F w n (l++es) (fun i=>if i<l.length then vs i else ws (i-l.length)):=by
 refine⟨fun i hi => ?_,fun i j hi hj => ?_,fun i hi => ?_⟩
 ·simp only[List.length_append] at hi
  split
  ·exact h.sz i ‹_›
  ·exact k.sz _ (by omega)
 ·simp only[List.length_append] at hi
  split
  ·exact h.one i j ‹_› hj
  ·exact k.one _ j (by omega) hj
 ·simp only[List.length_append] at hi
  split
  ·rename_i hlt; rw[List.getElem_append_left hlt]; exact h.rep i hlt
  ·rw[List.getElem_append_right (by omega)]; exact k.rep _ (by omega)
theorem flatV_append (vs ws:Nat->Value) (n a b:Nat) (hn:0<n):flatV vs n a++flatV ws n b=flatV (fun i=>if i<a then vs i else ws (i-a)) n (a+b):=by
 apply List.ext_getElem?
 intro k
 by_cases hk:k<(a+b)*n
 ·have hkd:k / n<a+b:=(Nat.div_lt_iff_lt_mul hn).2 hk
  have hkm:k % n<n:=Nat.mod_lt _ hn
  have hke:k=k / n*n+k % n:=by rw[Nat.mul_comm]; exact (Nat.div_add_mod k n).symm
  rw[hke,flatV_get _ hkd hkm]
  by_cases hlt:k / n<a
  ·rw[List.getElem?_append_left (by rw[flatV_length]; exact lt_of hlt hkm),flatV_get _ hlt hkm,if_pos hlt]
  ·rw[List.getElem?_append_right (by rw[flatV_length]; have:=Nat.mul_le_mul_right n (Nat.le_of_not_lt hlt); omega),flatV_length,if_neg hlt]
   have e:k / n*n+k % n-a*n=(k / n-a)*n+k % n:=by
    have:=Nat.mul_le_mul_right n (Nat.le_of_not_lt hlt)
    rw[Nat.sub_mul]; omega
   rw[e,flatV_get _ (by omega) hkm]
 ·rw[List.getElem?_eq_none (by simp[flatV_length]; rw[Nat.add_mul] at hk; omega),List.getElem?_eq_none (by rw[flatV_length]; omega)]
theorem Els.repD' {F:Fix} {w:World} {n:Nat} {l:List PV} {vs:Nat->Value} (h:Els F w n l vs) {blk cap L:Nat} (hL:L=l.length) (hcap:L<=cap) (hF : ∀ o,o<L*n->F blk o)
  (hc : ∀ i j,i<L->j<n->w.cell? ⟨blk,i*n+j,none⟩=some ((vs i).cells.getD j Go.undef)) (x:PV) (hx:x = .lst l\/x = .full l/\cap=L):RepD F w x (.slice (some ⟨blk,0,none⟩) L cap):=by
 subst hL
 exact h.repD hcap hF hc x hx
theorem Rep.own' {G:Gh} {w:World} {r L:Nat} {l:List PV} {a:Option Addr} {cap:Nat} (hL:L=l.length) (h:RepD G.F w (.lst l) (.slice a L cap)) (hl:L<=G.rl r)
  (hn:L=G.rl r -> ∃ blk n,G.rw r=some (blk,n,cap)/\a=some ⟨blk,0,none⟩/\szAll n l=true):Rep G w (.own r l) (.slice a L cap):=by
 subst hL
 exact .own h hl hn
theorem src_ok {P:Program} {w:World} {G:Gh} {y:PV} {u:Value} {es:List PV} {n:Nat} {tx:TypeId} (hy:Rep G w y u) (he:elemsOf y=some es) (hs:szAll n es=true) (hn:0<n)
  (hk:(∃ e',P.underlying tx=some (.slice e'))\/(P.underlying tx=some .string/\n=1)) : ∃ ws,Src P n tx u es.length (flatV ws n es.length) w/\Els G.F w n es ws:=by
 have hslice : ∀ l,(y = .lst l\/y = .full l \/ ∃ r,y = .own r l)->es=l -> ∃ ws,Src P n tx u es.length (flatV ws n es.length) w/\Els G.F w n es ws:=by
  rintro l hl rfl
  obtain⟨a0,cap0,e0,hd,_⟩:=hy.slice hl
  obtain⟨a,cap,b,o,vs,rfl,hcap,ha,hE,hc⟩:=hd.els hn hs
  have hk':(∃ e',P.underlying tx=some (.slice e'))\/P.underlying tx=some .string:=hk.imp id (·.1)
  have hget : ∀ (a':Addr),a=some a' -> ∀ (W:World),(∀ b o,W.cell? ⟨b,o,none⟩=w.cell? ⟨b,o,none⟩) -> ∀ j v,(flatV vs n es.length)[j]? = some v->W.cell? (a'.add j)=some v:=by
   intro a' ea W hW j v hv
   obtain⟨q1,q2,rfl⟩:=flatV_get' vs hn hv
   have hne:es≠[]:=by rintro rfl; simp at q1
   have:=ha hne
   rw[ea] at this
   cases this
   have hj:j=j / n*n+j % n:=by rw[Nat.mul_comm]; exact (Nat.div_add_mod j n).symm
   rw[addr_add,hW,hj,<- Nat.add_assoc]
   have h3:=(hc (j / n) (j % n) q1 q2).2
   rw[div_of q2,mod_of q2]
   exact h3
  have hone : ∀ v∈flatV vs n es.length,v.oneCell'=true:=by
   intro v hv
   obtain⟨k,hk,rfl⟩:=List.getElem_of_mem hv
   obtain⟨q1,q2,e⟩:=flatV_get' vs hn (List.getElem?_eq_getElem hk)
   rw[e]
   exact hE.one _ _ q1 q2
  refine⟨vs,?_,hE⟩
  have hcells : ∀ W:World,(∀ b o,W.cell? ⟨b,o,none⟩=w.cell? ⟨b,o,none⟩)->(Builtin.firstCells n es.length (.slice a es.length cap)).run P W = .ok (flatV vs n es.length).toArray W:=by
   intro W hW
   cases a with
   |none =>
    have:es=[]:=by
     cases es with
     |nil=>rfl
     |cons e es=>have:=ha (by simp); cases this
    subst this
    simp[Builtin.firstCells,flatV]
   |some a'=>exact run_firstCells_some W n es.length a' es.length cap _ (flatV_length _ _ _) (hget a' rfl W hW)
  exact⟨hk',fun _=>rfl,hcells w (fun _ _=>rfl),hcells w.drew (fun _ _=>rfl),flatV_length _ _ _,hone⟩
 unfold elemsOf at he
 split at he
 ·cases he; exact hslice _ (.inl rfl) rfl
 ·cases he; exact hslice _ (.inr (.inl rfl)) rfl
 ·cases he; exact hslice _ (.inr (.inr ⟨_,rfl⟩)) rfl
 ·rename_i s
  cases he
  have hv:=hy.str_inv
  subst hv
  have hk':(∃ e',P.underlying tx=some (.slice e'))\/P.underlying tx=some .string:=hk.imp id (·.1)
  have hn1:s=[]\/n=1:=by
   cases s with
   |nil=>exact .inl rfl
   |cons b s =>
    have:=szAll_at hs (i:=0) (by simp)
    simp[PV.cells] at this
    exact .inr this.symm
  have e1:byteCells ⟨⟨s⟩⟩=flatV (fun i=>.int .u8 ((s.getD i 0).toNat)) n s.length:=by
   rcases hn1 with rfl|rfl
   ·simp[byteCells,flatV]
   ·unfold byteCells flatV
    apply List.ext_getElem?
    intro k
    rw[List.getElem?_map,List.getElem?_map]
    by_cases hk:k<s.length
    ·rw[List.getElem?_eq_getElem (show k<(ByteArray.mk (Array.mk s)).data.toList.length from hk),List.getElem?_range (by omega)]
     simp[List.getD,hk,Value.cells,Nat.mod_one]
    ·rw[List.getElem?_eq_none (show (ByteArray.mk (Array.mk s)).data.toList.length<=k from Nat.le_of_not_lt hk),List.getElem?_eq_none (by simp; omega)]
     rfl
  have hfc : ∀ W:World,(Builtin.firstCells n s.length (.string ⟨⟨s⟩⟩)).run P W = .ok (byteCells ⟨⟨s⟩⟩).toArray W:=fun W=>firstCells_string (P:=P) ⟨⟨s⟩⟩ W
  refine⟨fun i=>.int .u8 ((s.getD i 0).toNat),?_,⟨fun i hi => ?_,fun i j hi hj => ?_,fun i hi => ?_⟩⟩
  ·rw[List.length_map,<- e1]
   exact⟨hk',fun _=>rfl,hfc w,hfc w.drew,by rw[e1,flatV_length],fun u hu=>by
    obtain⟨_,_,rfl⟩:=List.mem_map.1 hu
    rfl⟩
  ·rcases hn1 with rfl|rfl
   ·simp at hi
   ·rfl
  ·rcases hn1 with rfl|rfl
   ·simp at hi
   ·have:j=0:=by omega
    subst this; rfl
  ·simp at hi
   simp[List.getD,hi]
   exact .int _ _
 ·cases he
theorem run_append_room_row {P:Program} {w:World} (t tx ty e:TypeId) (i:TypeInfo) (ht:P.underlying t=some (.slice e)) (hi:P.info? e=some i) (b sLen sCap:Nat) (x:Value) (n:Nat) (news:List Value) (hs:Src P i.size tx x n news w)
  (hroom:sLen+n<=sCap) {cur:Array Value} {T:TypeId} {fz:Nat × Nat} (hg:w.heap[b]? = some (.cells cur T fz)) (hfz:fz.2<=sLen*i.size) (hfit:sLen*i.size+news.length<=cur.size) :
  (Builtin.append_ #[t,tx] ty #[.slice (some ⟨b,0,none⟩) sLen sCap,x]).run P w =
   .ok (.slice (some ⟨b,0,none⟩) (sLen+n) sCap) (w.setRow b (cur.toList.take (sLen*i.size)++news++cur.toList.drop (sLen*i.size+news.length)).toArray):=by
 have hst:=run_storeCells_atF P b (sLen*i.size) T fz news 0 cur w hg (by simpa using hfz) (by simpa using hfit) hs.one
 simp only[Nat.add_zero] at hst
 rcases hs.kind with ⟨e',hk⟩|hk <;> simp[Builtin.append_,run_underlying ht,run_underlying hk,sizeOf,typeInfo,hi,hs.len,hroom,hs.cells,Addr.add_lit,hst]
theorem append_ok {P:Program} {w1 w:World} {G:Gh} {st st':St} (h:Sim w1 w G st) {t tx ty e:TypeId} {i:TypeInfo} {z0:Value} {n:Nat} (ht:P.underlying t=some (.slice e)) (hi:P.info? e=some i) (hin:i.size=n) (hn:n≠0)
  (hz:i.zero=some z0) (hzs:z0.cells.size=n) {x y z:PV} {v u:Value} (hx:Rep G w x v) (hy:Rep G w y u) {es:List PV} (he:elemsOf y=some es)
  (hk:(∃ e',P.underlying tx=some (.slice e'))\/(P.underlying tx=some .string/\n=1)) (hev:evAppend n i.bytes e x es st=some (z,st')) (het:e≠tagT) :
  MemOk P w1 w G st' (Builtin.append_ #[t,tx] ty #[v,u]) z:=by
 have hn':0<n:=by omega
 subst hin
 unfold evAppend at hev
 cases es with
 |nil =>
  obtain⟨ws,hs,_⟩:=src_ok (P:=P) hy he (n:=i.size) rfl hn' hk
  have key : ∀ l a cap,v = .slice a l cap->l<=cap->(Builtin.append_ #[t,tx] ty #[v,u]).run P w = .ok v w:=by
   rintro l a cap rfl hcap
   have e0:flatV ws i.size ([]:List PV).length=[]:=by simp[flatV]
   have hc0:(Builtin.firstCells i.size 0 u).run P w = .ok #[] w:=by
    have:=hs.cells
    rw[e0] at this
    exact this
   have hlen : ∀ w',(Builtin.lenOf u).run P w' = .ok 0 w':=hs.len
   rcases hk with ⟨e',hk⟩|⟨hk,_⟩ <;> cases a <;> simp[Builtin.append_,run_underlying ht,run_underlying hk,sizeOf,typeInfo,hi,hlen,hcap,hc0,storeCells]
  have fin:st'=st->z=x->(x = .lst []\/True)->(∃ l,x.nm = .lst l\/x.nm = .full l \/ ∃ r,x.nm = .own r l)->MemOk P w1 w G st' (Builtin.append_ #[t,tx] ty #[v,u]) z:=by
   rintro rfl rfl _ ⟨l,hl⟩
   obtain⟨a,cap,hv,hd,_⟩:=hx.nm.slice hl
   have hd':=hd
   rw[hv] at hd'
   obtain⟨_,_,_,_,_,_,e1,hcap,_⟩:=hd'.lst_inv
   cases e1
   exact⟨v,w,G,key _ _ _ hv hcap,Nxt.refl _ _ _,h,hx,fun _ _ _=>rfl⟩
  simp only at hev
  split at hev
  ·cases hev; exact fin rfl rfl (.inr trivial) ⟨_,.inl rfl⟩
  ·cases hev; exact fin rfl rfl (.inr trivial) ⟨_,.inr (.inl rfl)⟩
  ·cases hev; exact fin rfl rfl (.inr trivial) ⟨_,.inr (.inr ⟨_,rfl⟩)⟩
  ·cases hev; exact fin rfl rfl (.inr trivial) ⟨_,.inr (.inl rfl)⟩
  ·cases hev; exact fin rfl rfl (.inr trivial) ⟨_,.inr (.inl rfl)⟩
  ·cases hev; exact fin rfl rfl (.inr trivial) ⟨_,.inl rfl⟩
  ·cases hev
 |cons c cs =>
  simp only at hev
  split at hev
  ·rename_i hsz
   generalize hes:c::cs=es at *
   have hm:0<es.length:=by rw[<- hes]; simp
   obtain⟨ws,hs,hE⟩:=src_ok (P:=P) hy he hsz hn' hk
   -- a new block
   have grow : ∀ (l:List PV) (a:Option Addr) (cap r:Nat) (rows':List (Nat × Nat)) (rt':List TypeId),v = .slice a l.length cap->RepD G.F w (.lst l) v->szAll i.size l=true->cap<l.length+es.length->(l.length+es.length)*(i.bytes+1)<=70368744177664 ->
     (rows'=st.rows++[(l.length+es.length,i.size)]/\r=st.rows.length \/ ∃ old,st.rows[r]? = some (old,i.size)/\old<l.length+es.length/\rows'=st.rows.set r (l.length+es.length,i.size)) ->
     (r=st.rows.length/\rt'=st.rt++[e]\/r<st.rows.length/\rt'=st.rt/\st.rt[r]? = some e) ->
     MemOk P w1 w G ⟨st.boxes,rows',st.bt,rt'⟩ (Builtin.append_ #[t,tx] ty #[v,u]) (.own r (l++es)):=by
    rintro l a cap r rows' rt' rfl hd hsl hcap hbd hrows hrt
    obtain⟨a',cap',b,o,vs,e1,hcap',ha,hL,hc⟩:=hd.els hn' hsl
    cases e1
    have hbd':(l.length+es.length)*i.bytes<=70368744177664:=Nat.le_trans (Nat.mul_le_mul_left _ (Nat.le_succ _)) hbd
    have hbd'':l.length+es.length<=70368744177664:=Nat.le_trans (Nat.le_mul_of_pos_right _ (Nat.succ_pos _)) hbd
    have hold:(Builtin.firstCells i.size l.length (.slice a l.length cap)).run P w.drew = .ok (flatV vs i.size l.length).toArray w.drew:=by
     cases a with
     |none =>
      have:l=[]:=by
       cases l with
       |nil=>rfl
       |cons e l=>have:=ha (by simp); cases this
      subst this
      simp[Builtin.firstCells,flatV]
     |some a' =>
      refine run_firstCells_some w.drew i.size l.length a' l.length cap _ (flatV_length _ _ _) fun j q hq => ?_
      obtain⟨q1,q2,rfl⟩:=flatV_get' vs hn' hq
      have hne:l≠[]:=by rintro rfl; simp at q1
      have:=ha hne
      cases this
      have hj:j=j / i.size*i.size+j % i.size:=by rw[Nat.mul_comm]; exact (Nat.div_add_mod j i.size).symm
      rw[addr_add,hj,<- Nat.add_assoc]
      have h3:=(hc (j / i.size) (j % i.size) q1 q2).2
      rw[div_of q2,mod_of q2]
      exact h3
    have hrun:=run_append_grow_src (P:=P) w t tx ty e i z0 ht hi hz a l.length cap _ hold u es.length _ hs hcap (by omega) (growslice_fits hcap (by omega))
    have hge:=grownCap_ge w (l.length+es.length) cap e
    generalize hC:grownCap w (l.length+es.length) cap e=C at hrun hge
    have hall:=flatV_append vs ws i.size l.length es.length hn'
    rw[hall] at hrun
    generalize hA:((flatV (fun k=>if k<l.length then vs k else ws (k-l.length)) i.size (l.length+es.length)).toArray++Builtin.zeroCells z0.cells (C-(l.length+es.length)):Array Value)=A at hrun
    have hAs:A.size=C*i.size:=by
     rw[<- hA,Array.size_append,size_zeroCells,List.size_toArray,flatV_length,hzs,<- Nat.add_mul]
     congr 1
     omega
    have hAg : ∀ p j,p<l.length+es.length->j<i.size->A[p*i.size+j]? = some ((if p<l.length then vs p else ws (p-l.length)).cells.getD j Go.undef):=by
     intro p j hp hj
     rw[<- hA,Array.getElem?_append_left (by simp[flatV_length]; exact lt_of hp hj),List.getElem?_toArray]
     exact flatV_get _ hp hj
    have hB:Below w.heap.size w (w.drew.alloc (.cells A e)):=((Below.refl _ _).drew).alloc (Nat.le_refl _) _
    obtain⟨s1,N1⟩:=h.grow hB
    have hblk:(w.drew.alloc (.cells A e)).heap[w.heap.size]? = some (.cells A e (0,0)):=heap_alloc_self w.drew _
    obtain⟨s2,N2⟩:=s1.addRow (r:=r) (blk:=w.heap.size) (n:=i.size) (cap:=C) (len:=l.length+es.length) rows' rt' h.below.size hblk hAs hge
     (fun o _ hF=>absurd (h.Fd _ o hF) (Nat.lt_irrefl _)) (fun b k hb=>Nat.ne_of_lt (h.bx_lt hb).1) (fun s k m c _ hr=>Nat.ne_of_lt (h.rw_lt hr).1) ⟨hrows,.inl ⟨rfl,Nat.zero_le _⟩⟩ hrt
    have N:=N1.trans N2
    have hEE:=(hL.append hE).mono N.F N.tr
    have hlen:(l++es).length=l.length+es.length:=by simp
    refine⟨_,_,_,hrun,N,s2,?_,fun i k hk=>hB.block k (h.bx_lt hk).1⟩
    refine .own' hlen.symm (hEE.repD' hlen.symm hge (fun o ho=>.inr ⟨rfl,ho⟩) (fun p j hp hj => ?_) _ (.inl rfl)) (by simp[Gh.addRow]) (fun _=>⟨w.heap.size,i.size,by simp[Gh.addRow],rfl,?_⟩)
    ·simp only[World.cell?,hblk]
     rw[if_neg (by simp)]
     exact hAg p j (by omega) hj
    ·unfold szAll at hsl hsz ⊢
     rw[List.all_append,hsl,hsz]
     rfl
   split at hev
   ·rename_i l
    split at hev
    ·rename_i hcond
     cases hev
     obtain⟨a,cap,hv,hd,hc⟩:=hx.slice (.inr (.inl rfl))
     have hcap:=hc rfl
     subst hcap
     exact grow l a _ st.rows.length _ _ hv hd hcond.2 (by omega) hcond.1 (.inl ⟨rfl,rfl⟩) (.inl ⟨rfl,rfl⟩)
    ·cases hev
   ·rename_i r l
    split at hev
    ·rename_i hcond
     cases hev
     cases hx with
     |d hx =>
      cases hx with
      |sl hx=>rcases hx with hx|⟨hx,_⟩ <;> cases hx
     |own hd hl hnn =>
      rename_i a cap
      have hrow:=h.row r l.length i.size hcond.2.1
      obtain⟨blk,n',e1,rfl,hsl⟩:=hnn (by rw[hrow.rl])
      obtain⟨e0,blk',cap',cur,T,fz,f1,f2,f3,f4,f5,f6,f78⟩:=hrow
      rw[e1] at f1
      cases f1
      obtain⟨f8,f7⟩:=f78.resolve_right (fun h=>het (Option.some.inj (hcond.2.2.symm.trans h)))
      rw[hcond.2.2] at f8
      cases f8
      by_cases hfit:l.length+es.length<=cap
      ·obtain⟨a',cap',b,o,vs,e2,hcap',ha,hL,hc⟩:=hd.els hn' hsl
       cases e2
       have hfitn:(l.length+es.length)*i.size<=cap*i.size:=Nat.mul_le_mul_right _ hfit
       have hfitn':l.length*i.size+es.length*i.size<=cap*i.size:=by rw[<- Nat.add_mul]; exact hfitn
       have hrun:=run_append_room_row (P:=P) t tx ty e i ht hi blk l.length cap u es.length _ hs hfit f3 f7 (by rw[flatV_length,f4]; exact hfitn')
       generalize hA:((cur.toList.take (l.length*i.size)++flatV ws i.size es.length++cur.toList.drop (l.length*i.size+(flatV ws i.size es.length).length)).toArray:Array Value)=A at hrun
       have hcl:cur.toList.length=cap*i.size:=(Array.length_toList (xs:=cur)).trans f4
       have hAs:A.size=cap*i.size:=by
        rw[<- hA]
        simp only[List.size_toArray,List.length_append,List.length_take,List.length_drop,flatV_length,Array.length_toList,f4]
        omega
       have hAlo : ∀ o,o<l.length*i.size->A[o]? = cur[o]? := by
        intro o ho
        rw[<- hA,List.getElem?_toArray,List.append_assoc,List.getElem?_append_left (by rw[List.length_take,hcl]; omega),List.getElem?_take,if_pos ho]
        simp
       have hAhi : ∀ p j,p<es.length->j<i.size->A[l.length*i.size+(p*i.size+j)]? = some ((ws p).cells.getD j Go.undef):=by
        intro p j hp hj
        have hlt:=lt_of hp hj
        rw[<- hA,List.getElem?_toArray,List.append_assoc,List.getElem?_append_right (by rw[List.length_take,hcl]; omega)]
        have e3:(cur.toList.take (l.length*i.size)).length=l.length*i.size:=by rw[List.length_take,hcl]; omega
        rw[e3,List.getElem?_append_left (by rw[flatV_length]; omega),Nat.add_sub_cancel_left]
        exact flatV_get _ hp hj
       obtain⟨N1,hbel,o1,o2,o3⟩:=setRow_nxt h (A:=A) f3 f2 (fun q hq=>hAlo q (Nat.lt_of_not_le fun hge=>f6 q hge hq))
       have s1:Sim w1 (w.setRow blk A) G st:=by
        refine⟨hbel,fun c cs' hcs => ?_,h.boxN,h.boxI,fun s len m hr => ?_,h.rowN,h.rowL,h.rowI,h.apart,fun b o hF=>by rw[o3]; exact h.Fd b o hF,h.btN,h.rtN⟩
        ·obtain⟨k,us,U,g1,g2,g3,g4,g5,g6,g7⟩:=(h.box c cs' hcs).ex
         exact⟨k,us,U,g1,g2,(o1 k (fun e=>h.apart c r k i.size cap g1 (e ▸ e1))).trans g3,g4,g5,fun j hj=>(g6 j hj).mono N1,g7⟩
        ·obtain⟨g0,k,c,us,U,gz,g1,g2,g3,g4,g5,g6,g7⟩:=h.row s len m hr
         by_cases hk:k=blk
         ·subst hk
          obtain rfl:=h.rowI s r k m c i.size cap g1 e1
          rw[e1] at g1
          cases g1
          rw[f3] at g3
          cases g3
          exact⟨g0,k,cap,A,_,fz,e1,g2,o2,hAs,g5,g6,g7⟩
         ·exact⟨g0,k,c,us,U,gz,g1,g2,(o1 k hk).trans g3,g4,g5,g6,g7⟩
       obtain⟨s2,N2⟩:=s1.addRow (r:=r) (blk:=blk) (n:=i.size) (cap:=cap) (len:=l.length+es.length) (st.rows.set r (l.length+es.length,i.size)) st.rt f2 o2 hAs hfit
        (fun o ho hF=>f6 o (by rw[Nat.add_mul] at ho; omega) hF) (fun b k hb e=>h.apart b r k i.size cap hb (e ▸ e1)) (fun s k m c hsr hr e=>hsr (h.rowI s r k m c i.size cap hr (e ▸ e1)))
        ⟨.inr ⟨l.length,hcond.2.1,by omega,rfl⟩,.inl ⟨rfl,Nat.le_trans f7 (Nat.mul_le_mul_right _ (by omega))⟩⟩ (.inr ⟨(List.getElem?_eq_some_iff.1 hcond.2.1).1,rfl,hcond.2.2⟩)
       have N:=N1.trans N2
       have hEE:=(hL.append hE).mono N.F N.tr
       have hlen:(l++es).length=l.length+es.length:=by simp
       refine⟨_,_,_,hrun,N,s2,?_,fun i k hk=>o1 k (fun e=>h.apart i r blk _ cap (e ▸ hk) e1)⟩
       refine .own' hlen.symm (hEE.repD' hlen.symm hfit (fun o ho=>.inr ⟨rfl,ho⟩) (fun p j hp hj => ?_) _ (.inl rfl)) (by simp[Gh.addRow]) (fun _=>⟨blk,i.size,by simp[Gh.addRow],rfl,?_⟩)
       ·simp only[World.cell?,o2]
        rw[if_neg (by simp)]
        by_cases hp':p<l.length
        ·rw[hAlo _ (lt_of hp' hj),if_pos hp']
         have h3:=(hc p j hp' hj).2
         have hne:l≠[]:=by rintro rfl; simp at hp'
         have h4:=ha hne
         cases h4
         simp only[World.cell?,f3] at h3
         rw[if_neg (by simp),Nat.zero_add] at h3
         exact h3
        ·rw[if_neg hp']
         have e4:p*i.size+j=l.length*i.size+((p-l.length)*i.size+j):=by
          have:=Nat.mul_le_mul_right i.size (Nat.le_of_not_lt hp')
          rw[Nat.sub_mul]; omega
         rw[e4]
         exact hAhi _ j (by omega) hj
       ·unfold szAll at hsl hsz ⊢
        rw[List.all_append,hsl,hsz]
        rfl
      ·exact grow l _ cap r _ _ rfl hd hsl (by omega) hcond.1 (.inr ⟨l.length,hcond.2.1,by omega,rfl⟩) (.inr ⟨(List.getElem?_eq_some_iff.1 hcond.2.1).1,rfl,hcond.2.2⟩)
    ·cases hev
   ·cases hev
  ·cases hev
theorem cellsL_length {n:Nat} : ∀ {l:List PV},szAll n l=true->(cellsL l).length=l.length*n
 |[],_=>by simp[cellsL]
 |x::l,h=>by
  unfold szAll at h
  simp only[List.all_cons,Bool.and_eq_true,beq_iff_eq] at h
  have:=cellsL_length (l:=l) (by unfold szAll; exact h.2)
  unfold cellsL at this ⊢
  rw[List.flatMap_cons,List.length_append,this,h.1,List.length_cons,Nat.add_mul]
  omega
theorem cellsL_get {n:Nat} : ∀ {l:List PV} {i j:Nat} (hs:szAll n l=true) (hi:i<l.length) (hj:j<n),∃ h:j<(l[i]).cells.length,(cellsL l)[i*n+j]? = some ((l[i]).cells[j])
 |[],i,j,_,hi,_=>absurd hi (Nat.not_lt_zero _)
 |x::l,i,j,hs,hi,hj=>by
  unfold szAll at hs
  simp only[List.all_cons,Bool.and_eq_true,beq_iff_eq] at hs
  unfold cellsL
  rw[List.flatMap_cons]
  cases i with
  |zero =>
   have hj':j<x.cells.length:=by omega
   refine⟨hj',?_⟩
   rw[Nat.zero_mul,Nat.zero_add,List.getElem?_append_left hj']
   exact List.getElem?_eq_getElem hj'
  |succ i =>
   obtain⟨h1,h2⟩:=cellsL_get (l:=l) (i:=i) (by unfold szAll; exact hs.2) (by simpa using hi) hj
   refine⟨h1,?_⟩
   rw[List.getElem?_append_right (by rw[hs.1,Nat.add_mul]; omega)]
   have e:(i+1)*n+j-x.cells.length=i*n+j:=by rw[hs.1,Nat.add_mul]; omega
   rw[e]
   exact h2
theorem Els.cells {G:Gh} {w:World} {n:Nat} {l:List PV} {vs:Nat->Value} (h:Els G.F w n l vs) (hn:0<n) (hs:szAll n l=true) {k:Nat} (hk:k<(cellsL l).length):k<l.length*n/\Rep G w ((cellsL l)[k]) ((flatV vs n l.length).getD k Go.undef):=by
 have hk':k<l.length*n:=by rw[<- cellsL_length hs]; exact hk
 have q1:k / n<l.length:=(Nat.div_lt_iff_lt_mul hn).2 hk'
 have q2:k % n<n:=Nat.mod_lt _ hn
 have e:k / n*n+k % n=k:=by rw[Nat.mul_comm]; exact Nat.div_add_mod k n
 obtain⟨h1,h2⟩:=cellsL_get hs q1 q2
 have h3:=flatV_get vs (n:=n) (m:=l.length) q1 q2
 rw[e] at h2 h3
 rw[List.getElem?_eq_getElem hk] at h2
 rw[Option.some.inj h2,List.getD_eq_getElem?_getD,h3]
 have hsz:=szAll_at hs q1
 have:=((h.rep _ q1).cells (PV.ne_undef_of_cells hsz hn)).2 (k % n) h1
 exact⟨hk',.d this⟩
theorem Sim.writeDead {w1 w:World} {G:Gh} {st:St} (h:Sim w1 w G st) {b blk:Nat} {cur A:Array Value} {T:TypeId} (hb:G.bx b=some blk) (hg:w.heap[blk]? = some (.cells cur T (0,0))) (hA:A.size=cur.size) (hd : ∀ c,G.bx c=some blk -> ¬ Alive st c) :
  Sim w1 (w.setRow blk A) G st/\Nxt w1.heap.size G w G (w.setRow blk A)/\(w.setRow blk A).heap[blk]? = some (.cells A T (0,0)):=by
 obtain⟨_,hge,hF⟩:=h.bx_lt hb
 obtain⟨N,hbel,o1,o2,o3⟩:=setRow_nxt h (A:=A) hg hge (fun q hq=>absurd hq (hF q))
 refine⟨⟨hbel,fun c cs hcs => ?_,h.boxN,h.boxI,fun r len m hr => ?_,h.rowN,h.rowL,h.rowI,h.apart,fun b o hF=>by rw[o3]; exact h.Fd b o hF,h.btN,h.rtN⟩,N,o2⟩
 ·obtain⟨k,us,U,f1,f2,f3,f4,f5,f6,f7⟩:=(h.box c cs hcs).ex
  by_cases hk:k=blk
  ·subst hk
   cases cs with
   |cons x l=>exact absurd ⟨x,l,hcs⟩ (hd c f1)
   |nil =>
    rw[hg] at f3
    cases f3
    exact⟨k,A,T,f1,f2,o2,Nat.zero_le _,f5,fun j hj=>absurd hj (Nat.not_lt_zero _),by rw[hA]; exact f7⟩
  ·exact⟨k,us,U,f1,f2,(o1 k hk).trans f3,f4,f5,fun j hj=>(f6 j hj).mono N,f7⟩
 ·obtain⟨f0,k,cap,us,U,fz,f1,f2,f3,f4⟩:=h.row r len m hr
  exact⟨f0,k,cap,us,U,fz,f1,f2,(o1 k (fun e=>h.apart b r blk m cap hb (e ▸ f1))).trans f3,f4⟩
theorem happend_ok {P:Program} {w1 w:World} {G:Gh} {st st':St} (h:Sim w1 w G st) {t tx ty e:TypeId} {i:TypeInfo} {z0:Value} {n:Nat} (ht:P.underlying t=some (.slice e)) (hi:P.info? e=some i) (hin:i.size=n) (hn:n≠0)
  (hz:i.zero=some z0) (hzs:z0.cells.size=n) {x y z:PV} {v u:Value} (hx:Rep G w x v) (hy:Rep G w y u) {es:List PV} (he:elemsOf y=some es)
  (hk:(∃ e',P.underlying tx=some (.slice e'))\/(P.underlying tx=some .string/\n=1)) (hev:evHappend n i.bytes x es st=some (z,st')) :
  ∃ v' w' G',(Builtin.append_ #[t,tx] ty #[v,u]).run P w = .ok v' w'/\Nxt w1.heap.size G w G' w'/\Sim w1 w' G' st'/\Rep G' w' z v':=by
 have hn':0<n:=by omega
 subst hin
 unfold evHappend at hev
 cases es with
 |nil =>
  obtain⟨ws,hs,_⟩:=src_ok (P:=P) hy he (n:=i.size) rfl hn' hk
  have key : ∀ l a cap,v = .slice a l cap->l<=cap->(Builtin.append_ #[t,tx] ty #[v,u]).run P w = .ok v w:=by
   rintro l a cap rfl hcap
   have e0:flatV ws i.size ([]:List PV).length=[]:=by simp[flatV]
   have hc0:(Builtin.firstCells i.size 0 u).run P w = .ok #[] w:=by
    have:=hs.cells
    rw[e0] at this
    exact this
   have hlen : ∀ w',(Builtin.lenOf u).run P w' = .ok 0 w':=hs.len
   rcases hk with ⟨e',hk⟩|⟨hk,_⟩ <;> cases a <;> simp[Builtin.append_,run_underlying ht,run_underlying hk,sizeOf,typeInfo,hi,hlen,hcap,hc0,storeCells]
  simp only at hev
  split at hev
  ·cases hev
   obtain⟨blk,cap,h1,h2,h3,hv⟩:=hx.hs_inv
   exact⟨v,w,G,key _ _ _ hv h2,Nxt.refl _ _ _,h,hx⟩
  ·cases hev
   exact⟨v,w,G,key _ _ _ hx.nils_inv (Nat.le_refl _),Nxt.refl _ _ _,h,hx⟩
  ·cases hev
 |cons c cs0 =>
  simp only at hev
  split at hev
  ·rename_i hsz
   generalize hes:c::cs0=es at *
   have hm:0<es.length:=by rw[<- hes]; simp
   obtain⟨ws,hs,hE⟩:=src_ok (P:=P) hy he hsz hn' hk
   have hsl:=cellsL_length hsz
   split at hev
   ·rename_i l hxl
    split at hev
    ·rename_i hcond
     cases hev
     have hxn:=hx.nm
     rw[hxl] at hxn
     obtain⟨a,cap,hv,hd,hc⟩:=hxn.slice (.inr (.inl rfl))
     have hcap:=hc rfl
     subst hcap
     subst hv
     obtain⟨a',cap',b,o,vs,e1,hcap',ha,hL,hc⟩:=hd.els hn' hcond.2
     cases e1
     have hbd':(l.length+es.length)*i.bytes<=70368744177664:=Nat.le_trans (Nat.mul_le_mul_left _ (Nat.le_succ _)) hcond.1
     have hbd'':l.length+es.length<=70368744177664:=Nat.le_trans (Nat.le_mul_of_pos_right _ (Nat.succ_pos _)) hcond.1
     have hold:(Builtin.firstCells i.size l.length (.slice a l.length l.length)).run P w.drew = .ok (flatV vs i.size l.length).toArray w.drew:=by
      cases a with
      |none =>
       have:l=[]:=by
        cases l with
        |nil=>rfl
        |cons e l=>have:=ha (by simp); cases this
       subst this
       simp[Builtin.firstCells,flatV]
      |some a' =>
       refine run_firstCells_some w.drew i.size l.length a' l.length l.length _ (flatV_length _ _ _) fun j q hq => ?_
       obtain⟨q1,q2,rfl⟩:=flatV_get' vs hn' hq
       have hne:l≠[]:=by rintro rfl; simp at q1
       have:=ha hne
       cases this
       have hj:j=j / i.size*i.size+j % i.size:=by rw[Nat.mul_comm]; exact (Nat.div_add_mod j i.size).symm
       rw[addr_add,hj,<- Nat.add_assoc]
       have h3:=(hc (j / i.size) (j % i.size) q1 q2).2
       rw[div_of q2,mod_of q2]
       exact h3
     have hrun:=run_append_grow_src (P:=P) w t tx ty e i z0 ht hi hz a l.length l.length _ hold u es.length _ hs (by omega) (by omega) (growslice_fits (by omega) (by omega))
     have hge:=grownCap_ge w (l.length+es.length) l.length e
     generalize hC:grownCap w (l.length+es.length) l.length e=C at hrun hge
     have hall:=flatV_append vs ws i.size l.length es.length hn'
     rw[hall] at hrun
     generalize hA:((flatV (fun k=>if k<l.length then vs k else ws (k-l.length)) i.size (l.length+es.length)).toArray++Builtin.zeroCells z0.cells (C-(l.length+es.length)):Array Value)=A at hrun
     have hAs:A.size=C*i.size:=by
      rw[<- hA,Array.size_append,size_zeroCells,List.size_toArray,flatV_length,hzs,<- Nat.add_mul]
      congr 1
      omega
     have hAg : ∀ k,k<(l.length+es.length)*i.size->A.getD k Go.undef=(flatV (fun k=>if k<l.length then vs k else ws (k-l.length)) i.size (l.length+es.length)).getD k Go.undef:=by
      intro k hk
      rw[<- hA,Array.getD_eq_getD_getElem?,Array.getElem?_append_left (by simp[flatV_length]; exact hk),List.getElem?_toArray,List.getD_eq_getElem?_getD]
     have hB:Below w.heap.size w (w.drew.alloc (.cells A e)):=((Below.refl _ _).drew).alloc (Nat.le_refl _) _
     obtain⟨s1,N1⟩:=h.grow hB
     have hblk:(w.drew.alloc (.cells A e)).heap[w.heap.size]? = some (.cells A e (0,0)):=heap_alloc_self w.drew _
     have hEE:=(hL.append hE).mono N1.F N1.tr
     have hszL:szAll i.size (l++es)=true:=by
      have h2:=hcond.2
      unfold szAll at h2 hsz ⊢
      rw[List.all_append,h2,hsz]
      rfl
     have hlen:(l++es).length=l.length+es.length:=by simp
     have hcl:(cellsL (l++es)).length=(l.length+es.length)*i.size:=by rw[cellsL_length hszL,hlen]
     have hmul:(l.length+es.length)*i.size<=C*i.size:=Nat.mul_le_mul_right _ hge
     obtain⟨s2,N2⟩:=s1.addBoxG (blk:=w.heap.size) (cs:=cellsL (l++es)) (vs:=A) (T:=e) (T':=hsT) h.below.size hblk (fun o hF=>absurd (h.Fd _ o hF) (Nat.lt_irrefl _))
      (fun b k hb _=>Nat.ne_of_lt (h.bx_lt hb).1) (fun r k m c hr=>Nat.ne_of_lt (h.rw_lt hr).1) (by omega) (.inr rfl) (fun k hk=>by
       obtain⟨k1,k2⟩:=hEE.cells (G:=G) hn' hszL hk
       rw[hlen] at k1 k2
       rw[hAg k k1]
       exact k2)
     refine⟨_,_,_,hrun,N1.trans N2,s2,.hs _ 0 _ _ (by simp[Gh.addBox]) hge ?_⟩
     simp only[Gh.addBox,if_true]
     omega
    ·cases hev
   ·rename_i m b len hxl
    split at hev
    ·rename_i bcs hbcs
     split at hev
     ·rename_i hcond
      cases hev
      obtain⟨rfl,hlc,h0c,hbT,hbd⟩:=hcond
      have hxn:=hx.nm
      rw[hxl] at hxn
      obtain⟨blk,cap,hb,hlcap,hk0,rfl⟩:=hxn.hs_inv
      obtain⟨k,us,T,e1,e2,e3,e4,e5,e6,e7,e8⟩:=(h.box b bcs hbcs).ex
      rw[hb] at e1
      cases e1
      have hbal:Alive st b:=by
       cases bcs with
       |nil=>simp at h0c
       |cons c l=>exact⟨c,l,hbcs⟩
      have hbl:b<st.boxes.length:=(List.getElem?_eq_some_iff.1 hbcs).1
      have hbd':(len+es.length)*i.bytes<=70368744177664:=Nat.le_trans (Nat.mul_le_mul_left _ (Nat.le_succ _)) hbd
      have hbd'':len+es.length<=70368744177664:=Nat.le_trans (Nat.le_mul_of_pos_right _ (Nat.succ_pos _)) hbd
      have hfl:=flatV_length ws i.size es.length
      have sk:=h.kill hbT
      have hdead : ∀ c,G.bx c=some blk -> ¬ Alive ⟨st.boxes.set b [],st.rows,st.bt,st.rt⟩ c:=by
       rintro c hc ⟨x,l,hcx⟩
       simp only at hcx
       rw[List.getElem?_set] at hcx
       split at hcx
       ·first|(cases hcx; done)|(split at hcx <;> cases hcx)
       ·rename_i hne
        exact hne (h.boxI b c blk hb hc hbal ⟨x,l,hcx⟩)
      -- what the new box reads as
      have hrep : ∀ {G':Gh} {w':World} (N:Nxt w1.heap.size G w G' w') {A:Array Value},(∀ j,j<len*i.size->A[j]? = us[j]?)->(∀ j,j<es.length*i.size->A[len*i.size+j]? = (flatV ws i.size es.length)[j]?) ->
        ∀ j (hj:j<(bcs.take (len*i.size)++cellsL es).length),Rep G' w' ((bcs.take (len*i.size)++cellsL es)[j]) (A.getD j Go.undef):=by
       intro G' w' N A h1 h2 j hj
       have htl:(bcs.take (len*i.size)).length=len*i.size:=by rw[List.length_take]; omega
       by_cases hj1:j<len*i.size
       ·rw[List.getElem_append_left (by rw[htl]; exact hj1),List.getElem_take]
        have:=(e6 j (by omega)).mono N
        rw[Array.getD_eq_getD_getElem?] at this ⊢
        rw[h1 j hj1]
        exact this
       ·rw[List.getElem_append_right (by rw[htl]; omega)]
        simp only[htl]
        rw[List.length_append,htl] at hj
        have hj2:j-len*i.size<(cellsL es).length:=by omega
        obtain⟨k1,k2⟩:=(hE.mono N.F N.tr).cells (G:=G') hn' hsz hj2
        rw[Array.getD_eq_getD_getElem?]
        have e9:A[j]? = (flatV ws i.size es.length)[j-len*i.size]? := by
         have e9:j=len*i.size+(j-len*i.size):=by omega
         have:=h2 (j-len*i.size) k1
         rw[<- e9] at this
         exact this
        rw[e9,<- List.getD_eq_getElem?_getD]
        exact k2
      have hset:(st.boxes.set b []).length=st.boxes.length:=by simp
      by_cases hfit:len+es.length<=cap
      ·have hfitn:(len+es.length)*i.size<=cap*i.size:=Nat.mul_le_mul_right _ hfit
       rw[Nat.add_mul] at hfitn
       have hrun:=run_append_room_row (P:=P) t tx ty e i ht hi blk len cap u es.length _ hs hfit e3 (Nat.zero_le _) (by rw[hfl]; omega)
       generalize hA:((us.toList.take (len*i.size)++flatV ws i.size es.length++us.toList.drop (len*i.size+(flatV ws i.size es.length).length)).toArray:Array Value)=A at hrun
       have hul:us.toList.length=us.size:=Array.length_toList
       have hAs:A.size=us.size:=by
        rw[<- hA]
        simp only[List.size_toArray,List.length_append,List.length_take,List.length_drop,hfl,hul]
        omega
       have hAlo : ∀ j,j<len*i.size->A[j]? = us[j]? := by
        intro j hj
        rw[<- hA,List.getElem?_toArray,List.append_assoc,List.getElem?_append_left (by rw[List.length_take,hul]; omega),List.getElem?_take,if_pos hj]
        simp
       have hAhi : ∀ j,j<es.length*i.size->A[len*i.size+j]? = (flatV ws i.size es.length)[j]? := by
        intro j hj
        rw[<- hA,List.getElem?_toArray,List.append_assoc,List.getElem?_append_right (by rw[List.length_take,hul]; omega)]
        have e3:(us.toList.take (len*i.size)).length=len*i.size:=by rw[List.length_take,hul]; omega
        rw[e3,List.getElem?_append_left (by rw[hfl]; omega),Nat.add_sub_cancel_left]
       obtain⟨s1,N1,hblk⟩:=sk.writeDead (A:=A) hb e3 hAs hdead
       obtain⟨s2,N2⟩:=s1.addBoxG (blk:=blk) (cs:=bcs.take (len*i.size)++cellsL es) (vs:=A) (T:=T) (T':=hsT) e2 hblk e5
        (fun c k hc ac hck=>hdead c (hck ▸ hc) ac) (fun r k m c hr hk=>h.apart b r blk m c hb (hk ▸ hr)) (by rw[List.length_append,List.length_take,hsl]; omega) (.inr rfl) (hrep N1 hAlo hAhi)
       rw[hset] at s2 N2
       refine⟨_,_,_,hrun,N1.trans N2,s2,.hs _ 0 _ _ (by simp[Gh.addBox]) hfit ?_⟩
       simp only[Gh.addBox,if_true]
       omega
      ·have hold:(Builtin.firstCells i.size len (.slice (some ⟨blk,0,none⟩) len cap)).run P w.drew = .ok (us.toList.take (len*i.size)).toArray w.drew:=by
        refine run_firstCells_some w.drew i.size len ⟨blk,0,none⟩ len cap _ (by simp; omega) fun j q hq => ?_
        rw[List.getElem?_take] at hq
        split at hq
        ·rw[addr_add,Nat.zero_add]
         show w.cell? ⟨blk,j,none⟩=some q
         simp only[World.cell?,e3]
         simpa using hq
        ·cases hq
       have hrun:=run_append_grow_src (P:=P) w t tx ty e i z0 ht hi hz (some ⟨blk,0,none⟩) len cap _ hold u es.length _ hs (by omega) (by omega) (growslice_fits (by omega) (by omega))
       have hge:=grownCap_ge w (len+es.length) cap e
       generalize hC:grownCap w (len+es.length) cap e=C at hrun hge
       generalize hA:((us.toList.take (len*i.size)++flatV ws i.size es.length).toArray++Builtin.zeroCells z0.cells (C-(len+es.length)):Array Value)=A at hrun
       have hul:us.toList.length=us.size:=Array.length_toList
       have htl:(us.toList.take (len*i.size)).length=len*i.size:=by rw[List.length_take,hul]; omega
       have hmul:(len+es.length)*i.size<=C*i.size:=Nat.mul_le_mul_right _ hge
       have hAs:A.size=C*i.size:=by
        rw[<- hA,Array.size_append,size_zeroCells,List.size_toArray,List.length_append,htl,hfl,hzs,<- Nat.add_mul,<- Nat.add_mul]
        congr 1
        omega
       have hAlo : ∀ j,j<len*i.size->A[j]? = us[j]? := by
        intro j hj
        rw[<- hA,Array.getElem?_append_left (by simp only[List.size_toArray,List.length_append,htl]; omega),List.getElem?_toArray,List.getElem?_append_left (by rw[htl]; exact hj),List.getElem?_take,if_pos hj]
        simp
       have hAhi : ∀ j,j<es.length*i.size->A[len*i.size+j]? = (flatV ws i.size es.length)[j]? := by
        intro j hj
        rw[<- hA,Array.getElem?_append_left (by simp only[List.size_toArray,List.length_append,htl,hfl]; omega),List.getElem?_toArray,List.getElem?_append_right (by rw[htl]; omega),htl,Nat.add_sub_cancel_left]
       have hB:Below w.heap.size w (w.drew.alloc (.cells A e)):=((Below.refl _ _).drew).alloc (Nat.le_refl _) _
       obtain⟨s1,N1⟩:=sk.grow hB
       have hblk:(w.drew.alloc (.cells A e)).heap[w.heap.size]? = some (.cells A e (0,0)):=heap_alloc_self w.drew _
       obtain⟨s2,N2⟩:=s1.addBoxG (blk:=w.heap.size) (cs:=bcs.take (len*i.size)++cellsL es) (vs:=A) (T:=e) (T':=hsT) h.below.size hblk (fun o hF=>absurd (h.Fd _ o hF) (Nat.lt_irrefl _))
        (fun c k hc _=>Nat.ne_of_lt (h.bx_lt hc).1) (fun r k m c hr=>Nat.ne_of_lt (h.rw_lt hr).1) (by rw[List.length_append,List.length_take,hsl]; rw[Nat.add_mul] at hmul; omega) (.inr rfl) (hrep N1 hAlo hAhi)
       rw[hset] at s2 N2
       refine⟨_,_,_,hrun,N1.trans N2,s2,.hs _ 0 _ _ (by simp[Gh.addBox]) hge ?_⟩
       simp only[Gh.addBox,if_true]
       omega
     ·cases hev
    ·cases hev
   ·cases hev
  ·cases hev
end Go.Proofs.YthjnlpfibakacaaGreatDoorPe
