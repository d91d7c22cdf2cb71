/- A part of the proof of this folder's statement; it has no condition of its own. -/
import Derived.Test.YthjnlpfibakacaaGreatDoorPePure3
import Derived.Deep.AppendSrc
import Derived.Laws.CopyRow
set_option linter.unusedVariables false
set_option linter.unusedSimpArgs false
namespace Go.Proofs.YthjnlpfibakacaaGreatDoorPe
open Go Go.RowKit
theorem cell_of_heap {w w':World} {b o:Nat} (h:w'.heap[b]? = w.heap[b]?):w'.cell? ⟨b,o,none⟩=w.cell? ⟨b,o,none⟩:=by
 simp only[World.cell?,h]
theorem Sim.bx_lt {w1 w:World} {G:Gh} {st:St} (h:Sim w1 w G st) {b k:Nat} (hb:G.bx b=some k):k<w.heap.size/\w1.heap.size<=k /\ ∀ o,¬ G.F k o:=by
 have hl:=h.boxN b k hb
 obtain⟨blk,vs,T,e1,e2,e3,_,e5,_⟩:=(h.box b _ (List.getElem?_eq_getElem hl)).ex
 rw[hb] at e1
 cases e1
 exact⟨(Array.getElem?_eq_some_iff.1 e3).1,e2,e5⟩
theorem Sim.rw_lt {w1 w:World} {G:Gh} {st:St} (h:Sim w1 w G st) {r k n c:Nat} (hb:G.rw r=some (k,n,c)):k<w.heap.size/\w1.heap.size<=k:=by
 have hl:=h.rowN r _ hb
 obtain⟨_,blk,cap,vs,T,fz,e1,e2,e3,_⟩:=h.row r (st.rows[r]).1 (st.rows[r]).2 (List.getElem?_eq_getElem hl)
 rw[hb] at e1
 cases e1
 exact⟨(Array.getElem?_eq_some_iff.1 e3).1,e2⟩
theorem Sim.grow {w1 w w':World} {G:Gh} {st:St} (h:Sim w1 w G st) (hb:Below w.heap.size w w'):Sim w1 w' G st/\Nxt w1.heap.size G w G w':=by
 have ht:Tr G.F w w':=fun b o hF=>cell_of_heap (hb.block b (h.Fd b o hF))
 have N:Nxt w1.heap.size G w G w':=⟨fun _ _ h=>h,fun _ _ h=>.inl h,fun _ _ h=>⟨h,rfl⟩,fun _=>Nat.le_refl _,fun _ _ _ h=>h,ht⟩
 refine⟨⟨?_,?_,h.boxN,h.boxI,?_,h.rowN,h.rowL,h.rowI,h.apart,fun b o hF=>Nat.lt_of_lt_of_le (h.Fd b o hF) hb.size,h.btN,h.rtN⟩,N⟩
 ·exact h.below.trans (hb.mono h.below.size)
 ·intro b cs hcs
  obtain⟨blk,vs,T,e1,e2,e3,e4,e5,e6,e7⟩:=(h.box b cs hcs).ex
  exact⟨blk,vs,T,e1,e2,(hb.block blk (Array.getElem?_eq_some_iff.1 e3).1).trans e3,e4,e5,fun j hj=>(e6 j hj).mono N,e7⟩
 ·intro r len n hr
  obtain⟨e0,blk,cap,vs,T,fz,e1,e2,e3,e4⟩:=h.row r len n hr
  exact⟨e0,blk,cap,vs,T,fz,e1,e2,(hb.block blk (Array.getElem?_eq_some_iff.1 e3).1).trans e3,e4⟩
def Gh.addBox (G:Gh) (n blk sz:Nat):Gh:={ G with bx:=fun b=>if b=n then some blk else G.bx b,bs:=fun b=>if b=n then sz else G.bs b }
theorem Sim.addBoxG {w1 w:World} {G:Gh} {st:St} (h:Sim w1 w G st) {blk:Nat} {cs:List PV} {vs:Array Value} {T T':TypeId} (h1:w1.heap.size<=blk) (h2:w.heap[blk]? = some (.cells vs T (0,0)))
  (h3 : ∀ o,¬ G.F blk o) (h4 : ∀ b k,G.bx b=some k->Alive st b->k≠blk) (h5 : ∀ r k n c,G.rw r=some (k,n,c)->k≠blk) (hle:cs.length<=vs.size) (hT:T'=T/\vs.size=cs.length\/T'=hsT)
  (hR : ∀ j (hj:j<cs.length),Rep G w (cs[j]) (vs.getD j Go.undef)) :
  Sim w1 w (G.addBox st.boxes.length blk vs.size) ⟨st.boxes++[cs],st.rows,st.bt++[T'],st.rt⟩/\Nxt w1.heap.size G w (G.addBox st.boxes.length blk vs.size) w:=by
 have hnew:G.bx st.boxes.length=none:=by
  cases hq:G.bx st.boxes.length with
  |none=>rfl
  |some k=>exact absurd (h.boxN _ _ hq) (Nat.lt_irrefl _)
 have hne : ∀ b k,G.bx b=some k->b≠st.boxes.length:=by
  rintro b k hb rfl
  rw[hnew] at hb; cases hb
 have N:Nxt w1.heap.size G w (G.addBox st.boxes.length blk vs.size) w:=by
  refine⟨fun _ _ h=>h,fun _ _ h=>.inl h,fun b k hb => ?_,fun _=>Nat.le_refl _,fun _ _ _ h=>h,Tr.refl _ _⟩
  simp only[Gh.addBox]
  rw[if_neg (hne b k hb),if_neg (hne b k hb)]
  exact⟨hb,rfl⟩
 have hal : ∀ b,b≠st.boxes.length->Alive ⟨st.boxes++[cs],st.rows,st.bt++[T'],st.rt⟩ b->Alive st b:=by
  rintro b hb ⟨c,l,hc⟩
  simp only at hc
  rw[List.getElem?_append] at hc
  split at hc
  ·exact⟨c,l,hc⟩
  ·rw[List.getElem?_singleton] at hc
   split at hc
   ·omega
   ·cases hc
 refine⟨⟨h.below,?_,?_,?_,?_,h.rowN,h.rowL,h.rowI,?_,h.Fd,by simp[h.btN],h.rtN⟩,N⟩
 ·intro b cs' hcs
  rw[List.getElem?_append] at hcs
  split at hcs
  ·rename_i hlt
   obtain⟨k,us,U,e1,e2,e3,e4,e5,e6,e7,e8⟩:=(h.box b cs' hcs).ex
   exact⟨k,us,U,(N.bx b k e1).1,e2,e3,e4,e5,fun j hj=>(e6 j hj).mono N,by rw[List.getElem?_append_left (by rw[h.btN]; exact hlt)]; exact e7,by rw[(N.bx b k e1).2]; exact e8⟩
  ·rename_i hge
   rw[List.getElem?_singleton] at hcs
   split at hcs
   ·rename_i h0
    cases hcs
    have hb:b=st.boxes.length:=by omega
    subst hb
    refine⟨blk,vs,T,by simp[Gh.addBox],h1,h2,hle,h3,fun j hj=>(hR j hj).mono N,?_,by simp[Gh.addBox]⟩
    have e:(st.bt++[T'])[st.boxes.length]? = some T':=by rw[<- h.btN]; simp
    rcases hT with ⟨rfl,hs⟩|rfl
    ·exact .inl ⟨e,hs⟩
    ·exact .inr e
   ·cases hcs
 ·intro b k hb
  simp only[Gh.addBox] at hb
  split at hb
  ·rename_i e; simp[e]
  ·have:=h.boxN b k hb; simp; omega
 ·intro b c k hb hc ab ac
  simp only[Gh.addBox] at hb hc
  split at hb
  ·rename_i e1
   cases hb
   split at hc
   ·rename_i e2; rw[e1,e2]
   ·rename_i e2; exact absurd rfl (h4 c _ hc (hal c e2 ac))
  ·rename_i e1
   split at hc
   ·cases hc; exact absurd rfl (h4 b _ hb (hal b e1 ab))
   ·rename_i e2; exact h.boxI b c k hb hc (hal b e1 ab) (hal c e2 ac)
 ·intro r len n hr
  obtain⟨e0,b,cap,us,U,fz,e1,e2,e3,e4,e5,e6⟩:=h.row r len n hr
  exact⟨e0,b,cap,us,U,fz,e1,e2,e3,e4,e5,e6⟩
 ·intro b r k n c hb hr
  simp only[Gh.addBox] at hb
  split at hb
  ·cases hb; exact h5 r _ n c hr rfl
  ·exact h.apart b r k n c hb hr
theorem Sim.addBox {w1 w:World} {G:Gh} {st:St} (h:Sim w1 w G st) {blk:Nat} {cs:List PV} {vs:Array Value} {T:TypeId} (h1:w1.heap.size<=blk) (h2:w.heap[blk]? = some (.cells vs T (0,0)))
  (h3 : ∀ o,¬ G.F blk o) (h4 : ∀ b k,G.bx b=some k->k≠blk) (h5 : ∀ r k n c,G.rw r=some (k,n,c)->k≠blk) (hR:Reps G w cs vs) :
  Sim w1 w (G.addBox st.boxes.length blk vs.size) ⟨st.boxes++[cs],st.rows,st.bt++[T],st.rt⟩/\Nxt w1.heap.size G w (G.addBox st.boxes.length blk vs.size) w :=
 h.addBoxG h1 h2 h3 (fun b k hb _=>h4 b k hb) h5 (Nat.le_of_eq hR.1.symm) (.inl ⟨rfl,hR.1⟩) hR.2
theorem Sim.kill {w1 w:World} {G:Gh} {st:St} (h:Sim w1 w G st) {b:Nat} (hb:st.bt[b]? = some hsT):Sim w1 w G ⟨st.boxes.set b [],st.rows,st.bt,st.rt⟩:=by
 have hal : ∀ c,Alive ⟨st.boxes.set b [],st.rows,st.bt,st.rt⟩ c->c≠b/\Alive st c:=by
  rintro c ⟨x,l,hc⟩
  simp only at hc
  rw[List.getElem?_set] at hc
  split at hc
  ·split at hc <;> cases hc
  ·rename_i e; exact⟨fun e'=>e e'.symm,x,l,hc⟩
 refine⟨h.below,?_,fun c k hc=>by have:=h.boxN c k hc; simp; exact this,fun c d k hc hd ac ad=>h.boxI c d k hc hd (hal c ac).2 (hal d ad).2,h.row,h.rowN,h.rowL,h.rowI,h.apart,h.Fd,by simp[h.btN],h.rtN⟩
 intro c cs hc
 rw[List.getElem?_set] at hc
 split at hc
 ·rename_i e
  subst e
  split at hc
  ·rename_i hlt
   cases hc
   obtain⟨k,us,U,e1,e2,e3,e4,e5,e6,e7,e8⟩:=(h.box b _ (List.getElem?_eq_getElem hlt)).ex
   exact⟨k,us,U,e1,e2,e3,Nat.zero_le _,e5,fun j hj=>absurd hj (Nat.not_lt_zero _),.inr hb,e8⟩
  ·cases hc
 ·exact⟨(h.box c cs hc).ex⟩
def Gh.fix (G:Gh) (F':Fix):Gh:={ G with F:=fun b o=>G.F b o\/F' b o }
theorem Sim.fix {w1 w:World} {G:Gh} {st:St} (h:Sim w1 w G st) (F':Fix) (h1 : ∀ b o,F' b o->w1.heap.size<=b/\b<w.heap.size) (h2 : ∀ b k o,G.bx b=some k -> ¬ F' k o)
  (h3 : ∀ r k n c o,G.rw r=some (k,n,c) -> ¬ F' k o):Sim w1 w (G.fix F') st/\Nxt w1.heap.size G w (G.fix F') w:=by
 have N:Nxt w1.heap.size G w (G.fix F') w :=
  ⟨fun _ _ h=>.inl h,fun b o hF=>hF.imp id fun hF=>(h1 b o hF).1,fun _ _ h=>⟨h,rfl⟩,fun _=>Nat.le_refl _,fun _ _ _ h=>h,Tr.refl _ _⟩
 refine⟨⟨h.below,?_,h.boxN,h.boxI,?_,h.rowN,h.rowL,h.rowI,h.apart,fun b o hF=>hF.elim (h.Fd b o) fun hF=>(h1 b o hF).2,h.btN,h.rtN⟩,N⟩
 ·intro b cs hcs
  obtain⟨k,us,U,e1,e2,e3,e4,e5,e6,e7⟩:=(h.box b cs hcs).ex
  exact⟨k,us,U,e1,e2,e3,e4,fun o hF=>hF.elim (e5 o) (h2 b k o e1),fun j hj=>(e6 j hj).mono N,e7⟩
 ·intro r len n hr
  obtain⟨e0,b,cap,us,U,fz,e1,e2,e3,e4,e5,e6,e7⟩:=h.row r len n hr
  exact⟨e0,b,cap,us,U,fz,e1,e2,e3,e4,e5,fun o ho hF=>hF.elim (e6 o ho) (h3 r b n cap o e1),e7⟩
def Gh.addRow (G:Gh) (r blk n cap len:Nat):Gh:={ G with F:=fun b o=>G.F b o\/(b=blk/\o<len*n),rw:=fun s=>if s=r then some (blk,n,cap) else G.rw s,rl:=fun s=>if s=r then len else G.rl s }
theorem Sim.addRow {w1 w:World} {G:Gh} {st:St} (h:Sim w1 w G st) {r blk n cap len:Nat} {vs:Array Value} {T T':TypeId} {fz:Nat × Nat} (rows':List (Nat × Nat)) (rt':List TypeId) (h1:w1.heap.size<=blk) (h2:w.heap[blk]? = some (.cells vs T fz)) (h2':vs.size=cap*n) (h2'':len<=cap)
  (h3 : ∀ o,len*n<=o -> ¬ G.F blk o) (h4 : ∀ b k,G.bx b=some k->k≠blk) (h5 : ∀ s k n c,s≠r->G.rw s=some (k,n,c)->k≠blk)
  (h6:(rows'=st.rows++[(len,n)]/\r=st.rows.length \/ ∃ old,st.rows[r]? = some (old,n)/\old<len/\rows'=st.rows.set r (len,n))/\(T'=T/\fz.2<=len*n\/T'=tagT))
  (h7:r=st.rows.length/\rt'=st.rt++[T']\/r<st.rows.length/\rt'=st.rt/\st.rt[r]? = some T') :
  Sim w1 w (G.addRow r blk n cap len) ⟨st.boxes,rows',st.bt,rt'⟩/\Nxt w1.heap.size G w (G.addRow r blk n cap len) w:=by
 obtain⟨h6,hfz⟩:=h6
 have hblk:blk<w.heap.size:=(Array.getElem?_eq_some_iff.1 h2).1
 have hrt:rt'[r]? = some T'/\(∀ s,s≠r->s<st.rows.length->rt'[s]? = st.rt[s]?)/\rt'.length=rows'.length:=by
  rcases h7 with ⟨rfl,rfl⟩|⟨hr,rfl,hT⟩
  ·refine⟨by rw[<- h.rtN]; simp,fun s _ hs=>by rw[List.getElem?_append_left (by rw[h.rtN]; exact hs)],?_⟩
   rcases h6 with ⟨rfl,_⟩|⟨old,e1,_⟩
   ·simp[h.rtN]
   ·exact absurd (List.getElem?_eq_some_iff.1 e1).1 (Nat.lt_irrefl _)
  ·refine⟨hT,fun _ _ _=>rfl,?_⟩
   rcases h6 with ⟨rfl,e⟩|⟨old,e1,_,rfl⟩
   ·omega
   ·simp[h.rtN]
 have hrl:G.rl r<=len/\(len=G.rl r->G.rw r=none):=by
  rcases h6 with ⟨_,rfl⟩|⟨old,e1,e2,_⟩
  ·have e0:=h.rowL st.rows.length (Nat.le_refl _)
   refine⟨by omega,fun _ => ?_⟩
   cases hq:G.rw st.rows.length with
   |none=>rfl
   |some y=>exact absurd (h.rowN _ _ hq) (Nat.lt_irrefl _)
  ·have:=(h.row r old n e1).rl
   exact⟨by omega,fun e=>by omega⟩
 have N:Nxt w1.heap.size G w (G.addRow r blk n cap len) w:=by
  refine⟨fun _ _ h=>.inl h,fun b o hF=>hF.imp id fun ⟨e,_⟩=>by omega,fun _ _ h=>⟨h,rfl⟩,fun s => ?_,fun s y e hy => ?_,Tr.refl _ _⟩
  ·simp only[Gh.addRow]; split
   ·rename_i e; subst e; exact hrl.1
   ·exact Nat.le_refl _
  ·simp only[Gh.addRow] at e ⊢
   split at e
   ·rename_i e'; subst e'
    rw[hrl.2 e] at hy; cases hy
   ·rename_i e'; rw[if_neg e']; exact hy
 have hlen:r<rows'.length/\st.rows.length<=rows'.length:=by
  rcases h6 with ⟨rfl,rfl⟩|⟨old,e1,_,rfl⟩
  ·simp
  ·simp; exact (List.getElem?_eq_some_iff.1 e1).1
 have hget : ∀ s len' m,rows'[s]? = some (len',m)->(s=r/\len'=len/\m=n)\/(s≠r/\st.rows[s]? = some (len',m)):=by
  intro s len' m hs
  rcases h6 with ⟨rfl,rfl⟩|⟨old,e1,_,rfl⟩
  ·rw[List.getElem?_append] at hs
   split at hs
   ·exact .inr ⟨by omega,hs⟩
   ·rw[List.getElem?_singleton] at hs
    split at hs
    ·cases hs; exact .inl ⟨by omega,rfl,rfl⟩
    ·cases hs
  ·rw[List.getElem?_set] at hs
   split at hs
   ·split at hs
    ·cases hs; exact .inl ⟨by omega,rfl,rfl⟩
    ·cases hs
   ·exact .inr ⟨by omega,hs⟩
 refine⟨⟨h.below,?_,h.boxN,h.boxI,?_,?_,?_,?_,?_,?_,h.btN,hrt.2.2⟩,N⟩
 ·intro b cs hcs
  obtain⟨k,us,U,e1,e2,e3,e4,e5,e6,e7⟩:=(h.box b cs hcs).ex
  exact⟨k,us,U,e1,e2,e3,e4,fun o hF=>hF.elim (e5 o) fun ⟨e,_⟩=>h4 b k e1 e,fun j hj=>(e6 j hj).mono N,e7⟩
 ·intro s len' m hs
  rcases hget s len' m hs with ⟨rfl,rfl,rfl⟩|⟨hne,hs'⟩
  ·exact⟨by simp[Gh.addRow],blk,cap,vs,T,fz,by simp[Gh.addRow],h1,h2,h2',h2'',fun o ho hF=>hF.elim (h3 o ho) fun ⟨_,e⟩=>by omega,hfz.imp (fun h=>⟨by rw[hrt.1,h.1],h.2⟩) fun h=>by rw[hrt.1,h]⟩
  ·obtain⟨e0,b,c,us,U,gz,e1,e2,e3,e4,e5,e6,e7⟩:=h.row s len' m hs'
   have e8:=hrt.2.1 s hne (List.getElem?_eq_some_iff.1 hs').1
   exact⟨by simp[Gh.addRow,hne,e0],b,c,us,U,gz,by simp[Gh.addRow,hne,e1],e2,e3,e4,e5,fun o ho hF=>hF.elim (e6 o ho) fun ⟨e,_⟩=>h5 s b m c hne e1 e,by rw[e8]; exact e7⟩
 ·intro s y hy
  simp only[Gh.addRow] at hy
  split at hy
  ·rename_i e; rw[e]; exact hlen.1
  ·exact Nat.lt_of_lt_of_le (h.rowN s y hy) hlen.2
 ·intro s hs0
  have hs:rows'.length<=s:=hs0
  simp only[Gh.addRow]
  rw[if_neg (by omega)]
  exact h.rowL s (by omega)
 ·intro s t k m c q d hs ht
  simp only[Gh.addRow] at hs ht
  split at hs
  ·rename_i e1; cases hs
   split at ht
   ·rename_i e2; rw[e1,e2]
   ·rename_i e2; exact absurd rfl (h5 t _ _ _ e2 ht)
  ·rename_i e1
   split at ht
   ·cases ht; exact absurd rfl (h5 s _ _ _ e1 hs)
   ·exact h.rowI s t k m c q d hs ht
 ·intro b s k m c hb hs
  simp only[Gh.addRow] at hs
  split at hs
  ·cases hs; exact h4 b _ hb rfl
  ·exact h.apart b s k m c hb hs
 ·intro b o hF
  rcases hF with hF|⟨rfl,_⟩
  ·exact h.Fd b o hF
  ·exact hblk
end Go.Proofs.YthjnlpfibakacaaGreatDoorPe
