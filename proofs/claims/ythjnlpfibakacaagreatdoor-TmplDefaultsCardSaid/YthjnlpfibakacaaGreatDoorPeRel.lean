/- A part of the proof of this folder's statement; it has no condition of its own. -/
import Derived.Test.YthjnlpfibakacaaGreatDoorPeCore
import Derived.RowKit3
set_option linter.unusedVariables false
set_option linter.unusedSimpArgs false
namespace Go.Proofs.YthjnlpfibakacaaGreatDoorPe
open Go Go.RowKit
abbrev Fix:=Nat->Nat->Prop
inductive RepD (F:Fix) (w:World):PV->Value->Prop
 |undef (v:Value):RepD F w .undef v
 |int (k:IntKind) (n:Int):RepD F w (.int k n) (.int k n)
 |bool (b:Bool):RepD F w (.bool b) (.bool b)
 |str (s:List UInt8):RepD F w (.str s) (.string ⟨⟨s⟩⟩)
 |nilp:RepD F w .nilp (.pointer none)
 |nilf:RepD F w .nilf .nilFunc
 |nili:RepD F w .nili .nilIface
 |nils:RepD F w .nils (.slice none 0 0)
 |emp (a:Addr):RepD F w .emp (.slice (some a) 0 0)
 |emc (a:Addr) (cap:Nat):RepD F w .emc (.slice (some a) 0 cap)
 |sl {x:PV} {l:List PV} {a:Option Addr} {cap b o sz:Nat} {vs:Nat->Value} (hx:x = .lst l\/x = .full l/\cap=l.length)
   (hcap:l.length<=cap) (ha:(l≠[]->a=some ⟨b,o,none⟩)/\(a=none->cap=0))
   (hsz : ∀ i,i<l.length->(vs i).cells.size=sz)
   (hc : ∀ i j,i<l.length->j<sz->F b (o+i*sz+j)/\w.cell? ⟨b,o+i*sz+j,none⟩=some ((vs i).cells.getD j Go.undef)/\((vs i).cells.getD j Go.undef).oneCell'=true)
   (hr : ∀ i (h:i<l.length),RepD F w (l[i]) (vs i)):RepD F w x (.slice a l.length cap)
 |ref {cs:List PV} {b o:Nat} {vs:Nat->Value}
   (hc : ∀ j,j<cs.length->F b (o+j)/\w.cell? ⟨b,o+j,none⟩=some (vs j))
   (hr : ∀ j (h:j<cs.length),RepD F w (cs[j]) (vs j)):RepD F w (.ref cs) (.pointer (some ⟨b,o,none⟩))
 |func (f:FuncId):RepD F w (.func f []) (.func (.func f) #[] #[])
 |iface {t:TypeId} {x:PV} {v:Value} (h:RepD F w x v):RepD F w (.iface t x) (.iface t v)
 |agg {cs:List PV} {vs:Array Value} (hl:vs.size=cs.length) (hr : ∀ j (h:j<cs.length),RepD F w (cs[j]) (vs.getD j Go.undef)):RepD F w (.agg cs) (.agg vs)
 |tuple {cs:List PV} {vs:Array Value} (hl:vs.size=cs.length) (hr : ∀ j (h:j<cs.length),RepD F w (cs[j]) (vs.getD j Go.undef)):RepD F w (.tuple cs) (.tuple vs)
def Tr (F:Fix) (w w':World):Prop := ∀ b o,F b o->w'.cell? ⟨b,o,none⟩=w.cell? ⟨b,o,none⟩
theorem Tr.refl (F:Fix) (w:World):Tr F w w:=fun _ _ _=>rfl
theorem Tr.trans {F F':Fix} {a b c:World} (h:Tr F a b) (hF : ∀ x o,F x o->F' x o) (k:Tr F' b c):Tr F a c:=fun x o hx=>(k x o (hF x o hx)).trans (h x o hx)
theorem RepD.mono {F F':Fix} {w w':World} (hF : ∀ b o,F b o->F' b o) (ht:Tr F w w') {x:PV} {v:Value} (h:RepD F w x v):RepD F' w' x v:=by
 induction h with
 |undef v=>exact .undef v
 |int k n=>exact .int k n
 |bool b=>exact .bool b
 |str s=>exact .str s
 |nilp=>exact .nilp
 |nilf=>exact .nilf
 |nili=>exact .nili
 |nils=>exact .nils
 |emp a=>exact .emp a
 |emc a c=>exact .emc a c
 |sl hx hcap ha hsz hc _ ih=>exact .sl hx hcap ha hsz (fun i j hi hj=>⟨hF _ _ (hc i j hi hj).1,(ht _ _ (hc i j hi hj).1).trans (hc i j hi hj).2.1,(hc i j hi hj).2.2⟩) ih
 |ref hc _ ih=>exact .ref (fun j hj=>⟨hF _ _ (hc j hj).1,(ht _ _ (hc j hj).1).trans (hc j hj).2⟩) ih
 |func f=>exact .func f
 |iface _ ih=>exact .iface ih
 |agg hl _ ih=>exact .agg hl ih
 |tuple hl _ ih=>exact .tuple hl ih
structure Gh where
 F:Fix
 bx:Nat->Option Nat
 bs:Nat->Nat
 rw:Nat->Option (Nat × Nat × Nat)
 rl:Nat->Nat
inductive Rep (G:Gh) (w:World):PV->Value->Prop
 |d {x:PV} {v:Value} (h:RepD G.F w x v):Rep G w x v
 |ptr {b blk:Nat} (o:Nat) (h:G.bx b=some blk):Rep G w (.ptr b o) (.pointer (some ⟨blk,o,none⟩))
 |hs {b blk:Nat} (n o len cap:Nat) (h:G.bx b=some blk) (hc:len<=cap) (hk:o+cap*n<=G.bs b):Rep G w (.hs n b o len) (.slice (some ⟨blk,o,none⟩) len cap)
 |own {r:Nat} {l:List PV} {a:Option Addr} {cap:Nat} (h:RepD G.F w (.lst l) (.slice a l.length cap)) (hl:l.length<=G.rl r)
   (hn:l.length=G.rl r -> ∃ blk n,G.rw r=some (blk,n,cap)/\a=some ⟨blk,0,none⟩/\szAll n l=true):Rep G w (.own r l) (.slice a l.length cap)
 |rptr {r:Nat} {l:List PV} {a:Addr} {cap:Nat} (h:Rep G w (.own r l) (.slice (some a) l.length cap)):Rep G w (.rptr r l) (.pointer (some a))
 |func (f:FuncId) {cs:List PV} {vs:Array Value} (hl:vs.size=cs.length) (hr : ∀ j (h:j<cs.length),Rep G w (cs[j]) (vs.getD j Go.undef)):Rep G w (.func f cs) (.func (.func f) #[] vs)
 |iface {t:TypeId} {x:PV} {v:Value} (h:Rep G w x v):Rep G w (.iface t x) (.iface t v)
 |agg {cs:List PV} {vs:Array Value} (hl:vs.size=cs.length) (hr : ∀ j (h:j<cs.length),Rep G w (cs[j]) (vs.getD j Go.undef)):Rep G w (.agg cs) (.agg vs)
 |tuple {cs:List PV} {vs:Array Value} (hl:vs.size=cs.length) (hr : ∀ j (h:j<cs.length),Rep G w (cs[j]) (vs.getD j Go.undef)):Rep G w (.tuple cs) (.tuple vs)
structure Nxt (B:Nat) (G:Gh) (w:World) (G':Gh) (w':World):Prop where
 F : ∀ b o,G.F b o->G'.F b o
 Fn : ∀ b o,G'.F b o->G.F b o\/B<=b
 bx : ∀ b k,G.bx b=some k->G'.bx b=some k/\G'.bs b=G.bs b
 rl : ∀ r,G.rl r<=G'.rl r
 rw : ∀ r y,G'.rl r=G.rl r->G.rw r=some y->G'.rw r=some y
 tr:Tr G.F w w'
theorem Nxt.refl (B:Nat) (G:Gh) (w:World):Nxt B G w G w:=⟨fun _ _ h=>h,fun _ _ h=>.inl h,fun _ _ h=>⟨h,rfl⟩,fun _=>Nat.le_refl _,fun _ _ _ h=>h,Tr.refl _ _⟩
theorem Nxt.trans {B:Nat} {G G' G'':Gh} {w w' w'':World} (h:Nxt B G w G' w') (k:Nxt B G' w' G'' w''):Nxt B G w G'' w'' :=
 ⟨fun b o x=>k.F b o (h.F b o x),fun b o x=>(k.Fn b o x).elim (fun y=>h.Fn b o y) .inr,fun b q x=>⟨(k.bx b q (h.bx b q x).1).1,(k.bx b q (h.bx b q x).1).2.trans (h.bx b q x).2⟩,fun r=>Nat.le_trans (h.rl r) (k.rl r),
  fun r y e x=>by
   have h1:=h.rl r; have h2:=k.rl r
   exact k.rw r y (by omega) (h.rw r y (by omega) x),
  h.tr.trans h.F k.tr⟩
theorem Rep.mono {B:Nat} {G G':Gh} {w w':World} (N:Nxt B G w G' w') {x:PV} {v:Value} (h:Rep G w x v):Rep G' w' x v:=by
 induction h with
 |d h=>exact .d (h.mono N.F N.tr)
 |ptr o h=>exact .ptr o (N.bx _ _ h).1
 |hs n o len cap h hc hk=>exact .hs n o len cap (N.bx _ _ h).1 hc (by rw[(N.bx _ _ h).2]; exact hk)
 |own h hl hn =>
  refine .own (h.mono N.F N.tr) (Nat.le_trans hl (N.rl _)) (fun e => ?_)
  have:=N.rl
  rename_i r l a cap
  have h1:=N.rl r
  obtain⟨blk,n,e1,e2⟩:=hn (by omega)
  exact⟨blk,n,N.rw r _ (by omega) e1,e2⟩
 |rptr _ ih=>exact .rptr ih
 |func f hl _ ih=>exact .func f hl ih
 |iface _ ih=>exact .iface ih
 |agg hl _ ih=>exact .agg hl ih
 |tuple hl _ ih=>exact .tuple hl ih
structure BoxOk (w1 w:World) (G:Gh) (bt:List TypeId) (b:Nat) (cs:List PV):Prop where
 ex : ∃ blk vs T,G.bx b=some blk/\w1.heap.size<=blk/\w.heap[blk]? = some (.cells vs T (0,0))/\cs.length<=vs.size/\(∀ o,¬ G.F blk o)/\(∀ j (h:j<cs.length),Rep G w (cs[j]) (vs.getD j Go.undef))/\(bt[b]? = some T/\vs.size=cs.length\/bt[b]? = some hsT)/\vs.size=G.bs b
structure RowOk (w1 w:World) (G:Gh) (rt:List TypeId) (r len n:Nat):Prop where
 rl:G.rl r=len
 ex : ∃ blk cap vs T fz,G.rw r=some (blk,n,cap)/\w1.heap.size<=blk/\w.heap[blk]? = some (.cells vs T fz)/\vs.size=cap*n/\len<=cap/\(∀ o,len*n<=o -> ¬ G.F blk o)/\((rt[r]? = some T/\fz.2<=len*n)\/rt[r]? = some tagT)
def Alive (st:St) (b:Nat):Prop := ∃ c cs,st.boxes[b]? = some (c::cs)
structure Sim (w1 w:World) (G:Gh) (st:St):Prop where
 below:Below w1.heap.size w1 w
 box : ∀ b cs,st.boxes[b]? = some cs->BoxOk w1 w G st.bt b cs
 boxN : ∀ b k,G.bx b=some k->b<st.boxes.length
 boxI : ∀ b c k,G.bx b=some k->G.bx c=some k->Alive st b->Alive st c->b=c
 row : ∀ r len n,st.rows[r]? = some (len,n)->RowOk w1 w G st.rt r len n
 rowN : ∀ r y,G.rw r=some y->r<st.rows.length
 rowL : ∀ r,st.rows.length<=r->G.rl r=0
 rowI : ∀ r s k n c m d,G.rw r=some (k,n,c)->G.rw s=some (k,m,d)->r=s
 apart : ∀ b r k n c,G.bx b=some k->G.rw r=some (k,n,c)->False
 Fd : ∀ b o,G.F b o->b<w.heap.size
 btN:st.bt.length=st.boxes.length
 rtN:st.rt.length=st.rows.length
structure FrRel (G:Gh) (w:World) (fr:Fr) (a:Act):Prop where
 size:a.tmps.size=fr.length
 defers:a.defers=[]
 rep : ∀ i (h:i<fr.length),Rep G w (fr[i]) (a.tmps.getD i Go.undef)
theorem FrRel.mono {B:Nat} {G G':Gh} {w w':World} {fr:Fr} {a:Act} (N:Nxt B G w G' w') (h:FrRel G w fr a):FrRel G' w' fr a :=
 ⟨h.size,h.defers,fun i hi=>(h.rep i hi).mono N⟩
theorem FrRel.get {G:Gh} {w:World} {fr:Fr} {a:Act} (h:FrRel G w fr a) (i:Nat):Rep G w (fr.getD i .undef) (a.tmps.getD i Go.undef):=by
 by_cases hi:i<fr.length
 ·rw[List.getD_eq_getElem?_getD,List.getElem?_eq_getElem hi]; exact h.rep i hi
 ·rw[List.getD_eq_getElem?_getD,List.getElem?_eq_none (by omega)]; exact .d (.undef _)
theorem FrRel.put {G:Gh} {w:World} {fr:Fr} {a:Act} (h:FrRel G w fr a) (d:Option Nat) {x:PV} {v:Value} (hx:Rep G w x v):FrRel G w (putF d x fr) (a.put d v):=by
 cases d with
 |none=>exact h
 |some i =>
  refine⟨by simp[Act.put,putF,h.size],h.defers,fun j hj => ?_⟩
  simp only[Act.put,putF] at hj ⊢
  rw[List.length_set] at hj
  by_cases hij:i=j
  ·subst hij
   rw[List.getElem_set_self]
   rw[Array.getD_eq_getD_getElem?,Array.getElem?_setIfInBounds_self_of_lt (by rw[h.size]; exact hj)]
   exact hx
  ·rw[List.getElem_set_ne hij,Array.getD_eq_getD_getElem?,Array.getElem?_setIfInBounds_ne hij,<- Array.getD_eq_getD_getElem?]
   exact h.rep j hj
theorem RepD.cells {F:Fix} {w:World} {x:PV} {v:Value} (h:RepD F w x v) (hx:x ≠ .undef) :
  v.cells.size=x.cells.length /\ ∀ j (hj:j<x.cells.length),RepD F w (x.cells[j]) (v.cells.getD j Go.undef):=by
 cases h with
 |undef=>exact absurd rfl hx
 |agg hl hr=>exact⟨hl,hr⟩
 |sl hx' hcap ha hsz hc hr =>
  have h':=RepD.sl hx' hcap ha hsz hc hr
  rcases hx' with rfl|⟨rfl,_⟩ <;> exact⟨rfl,fun j hj=>by simp only[PV.cells,List.length_singleton,Nat.lt_one_iff] at hj; subst hj; exact h'⟩
 |int k n=>exact⟨rfl,fun j hj=>by simp only[PV.cells,List.length_singleton,Nat.lt_one_iff] at hj; subst hj; exact .int k n⟩
 |bool b=>exact⟨rfl,fun j hj=>by simp only[PV.cells,List.length_singleton,Nat.lt_one_iff] at hj; subst hj; exact .bool b⟩
 |str s=>exact⟨rfl,fun j hj=>by simp only[PV.cells,List.length_singleton,Nat.lt_one_iff] at hj; subst hj; exact .str s⟩
 |nilp=>exact⟨rfl,fun j hj=>by simp only[PV.cells,List.length_singleton,Nat.lt_one_iff] at hj; subst hj; exact .nilp⟩
 |nilf=>exact⟨rfl,fun j hj=>by simp only[PV.cells,List.length_singleton,Nat.lt_one_iff] at hj; subst hj; exact .nilf⟩
 |nili=>exact⟨rfl,fun j hj=>by simp only[PV.cells,List.length_singleton,Nat.lt_one_iff] at hj; subst hj; exact .nili⟩
 |nils=>exact⟨rfl,fun j hj=>by simp only[PV.cells,List.length_singleton,Nat.lt_one_iff] at hj; subst hj; exact .nils⟩
 |emp a=>exact⟨rfl,fun j hj=>by simp only[PV.cells,List.length_singleton,Nat.lt_one_iff] at hj; subst hj; exact .emp a⟩
 |emc a c=>exact⟨rfl,fun j hj=>by simp only[PV.cells,List.length_singleton,Nat.lt_one_iff] at hj; subst hj; exact .emc a c⟩
 |ref hc hr=>exact⟨rfl,fun j hj=>by simp only[PV.cells,List.length_singleton,Nat.lt_one_iff] at hj; subst hj; exact .ref hc hr⟩
 |func f=>exact⟨rfl,fun j hj=>by simp only[PV.cells,List.length_singleton,Nat.lt_one_iff] at hj; subst hj; exact .func f⟩
 |iface h=>exact⟨rfl,fun j hj=>by simp only[PV.cells,List.length_singleton,Nat.lt_one_iff] at hj; subst hj; exact .iface h⟩
 |tuple hl hr=>exact⟨rfl,fun j hj=>by simp only[PV.cells,List.length_singleton,Nat.lt_one_iff] at hj; subst hj; exact .tuple hl hr⟩
theorem Rep.cells {G:Gh} {w:World} {x:PV} {v:Value} (h:Rep G w x v) (hx:x ≠ .undef) :
  v.cells.size=x.cells.length /\ ∀ j (hj:j<x.cells.length),Rep G w (x.cells[j]) (v.cells.getD j Go.undef):=by
 cases h with
 |d h=>exact⟨(h.cells hx).1,fun j hj=>.d ((h.cells hx).2 j hj)⟩
 |agg hl hr=>exact⟨hl,hr⟩
 |ptr o h=>exact⟨rfl,fun j hj=>by simp only[PV.cells,List.length_singleton,Nat.lt_one_iff] at hj; subst hj; exact .ptr o h⟩
 |hs n o len cap h hc hk=>exact⟨rfl,fun j hj=>by simp only[PV.cells,List.length_singleton,Nat.lt_one_iff] at hj; subst hj; exact .hs n o len cap h hc hk⟩
 |own h hl hn=>exact⟨rfl,fun j hj=>by simp only[PV.cells,List.length_singleton,Nat.lt_one_iff] at hj; subst hj; exact .own h hl hn⟩
 |rptr h=>exact⟨rfl,fun j hj=>by simp only[PV.cells,List.length_singleton,Nat.lt_one_iff] at hj; subst hj; exact .rptr h⟩
 |func f hl hr=>exact⟨rfl,fun j hj=>by simp only[PV.cells,List.length_singleton,Nat.lt_one_iff] at hj; subst hj; exact .func f hl hr⟩
 |iface h=>exact⟨rfl,fun j hj=>by simp only[PV.cells,List.length_singleton,Nat.lt_one_iff] at hj; subst hj; exact .iface h⟩
 |tuple hl hr=>exact⟨rfl,fun j hj=>by simp only[PV.cells,List.length_singleton,Nat.lt_one_iff] at hj; subst hj; exact .tuple hl hr⟩
theorem PV.ne_undef_of_cells {x:PV} {n:Nat} (h:x.cells.length=n) (hn:0<n):x ≠ .undef:=by
 rintro rfl
 simp[PV.cells] at h
 omega
theorem RepD.none0 {F:Fix} {w:World} (a:Option Addr):RepD F w (.full []) (.slice a 0 0) :=
 .sl (l:=[]) (cap:=0) (b:=0) (o:=0) (sz:=0) (vs:=fun _=>Go.undef) (.inr ⟨rfl,rfl⟩) (Nat.le_refl _) ⟨fun h=>absurd rfl h,fun _=>rfl⟩ (fun i hi=>absurd hi (Nat.not_lt_zero _)) (fun i j hi=>absurd hi (Nat.not_lt_zero _)) (fun i hi=>absurd hi (Nat.not_lt_zero _))
theorem Rep.nm {G:Gh} {w:World} {x:PV} {v:Value} (h:Rep G w x v):Rep G w x.nm v:=by
 cases x with
 |nils=>cases h with|d h=>cases h with
  |nils=>exact .d (.none0 _)
  |sl hx=>rcases hx with hx|⟨hx,_⟩ <;> cases hx
 |emp=>cases h with|d h=>cases h with
  |emp a=>exact .d (.none0 _)
  |sl hx=>rcases hx with hx|⟨hx,_⟩ <;> cases hx
 |emc=>cases h with|d h=>cases h with
  |emc a c=>exact .d (.sl (l:=[]) (b:=0) (o:=0) (sz:=0) (vs:=fun _=>Go.undef) (.inl rfl) (Nat.zero_le _) ⟨fun h=>absurd rfl h,fun h=>by cases h⟩ (fun i hi=>absurd hi (Nat.not_lt_zero _)) (fun i j hi=>absurd hi (Nat.not_lt_zero _)) (fun i hi=>absurd hi (Nat.not_lt_zero _)))
  |sl hx=>rcases hx with hx|⟨hx,_⟩ <;> cases hx
 |_=>exact h
theorem Rep.slice {G:Gh} {w:World} {x:PV} {v:Value} {l:List PV} (h:Rep G w x v) (hx:x = .lst l\/x = .full l \/ ∃ r,x = .own r l) :
  ∃ a cap,v = .slice a l.length cap/\RepD G.F w (.lst l) v/\(x = .full l->cap=l.length):=by
 rcases hx with rfl|rfl|⟨r,rfl⟩
 ·cases h with
  |d h=>cases h with
   |sl hx hcap ha hsz hc hr =>
    rcases hx with hx|⟨hx,_⟩
    ·cases hx; exact⟨_,_,rfl,.sl (.inl rfl) hcap ha hsz hc hr,fun h=>by cases h⟩
    ·cases hx
 ·cases h with
  |d h=>cases h with
   |sl hx hcap ha hsz hc hr =>
    rcases hx with hx|⟨hx,he⟩
    ·cases hx
    ·cases hx; exact⟨_,_,rfl,.sl (.inl rfl) hcap ha hsz hc hr,fun _=>he⟩
 ·cases h with
  |d h=>cases h with
   |sl hx hcap ha hsz hc hr =>
    rcases hx with hx|⟨hx,_⟩ <;> cases hx
  |own h hl hn=>exact⟨_,_,rfl,h,fun h=>by cases h⟩
theorem mapO_some {α β : Type} {f : α -> Option β} : ∀ {l:List α} {m:List β},mapO f l=some m->m.length=l.length /\ ∀ i (h:i<l.length) (h':i<m.length),f (l[i])=some (m[i])
 |[],m,h=>by cases h; exact⟨rfl,fun i h=>by cases h⟩
 |a::l,m,h=>by
  unfold mapO at h
  cases h1:f a with
  |none=>rw[h1] at h; cases h
  |some b =>
   rw[h1] at h
   cases h2:mapO f l with
   |none=>rw[h2] at h; cases h
   |some bs =>
    rw[h2] at h
    cases h
    obtain⟨e,k⟩:=mapO_some h2
    refine⟨by simp[e],fun i hi hi' => ?_⟩
    cases i with
    |zero=>exact h1
    |succ i=>exact k i (by simpa using hi) (by simpa using hi')
theorem shutA_rep {G:Gh} {w:World} : ∀ (n:Nat) {x y:PV} {v:Value},Rep G w x v->shutA n x=some y->RepD G.F w y v
 |0,_,_,_,_,h=>by cases h
 |n+1,x,y,v,hr,h=>by
  unfold shutA at h
  cases x with
  |own r l =>
   cases h
   obtain⟨a,cap,rfl,hd,_⟩:=hr.slice (.inr (.inr ⟨r,rfl⟩))
   exact hd
  |full l =>
   cases h
   obtain⟨a,cap,rfl,hd,_⟩:=hr.slice (.inr (.inl rfl))
   exact hd
  |ptr b o=>cases h
  |hs n b o len=>cases h
  |rptr r l=>cases h
  |tuple vs=>cases h
  |func f cs =>
   cases cs with
   |nil =>
    cases h
    cases hr with
    |d h=>exact h
    |func f hl hr =>
     rename_i vs
     have:vs = #[]:=Array.eq_empty_of_size_eq_zero (by simpa using hl)
     subst this
     exact .func f
   |cons c cs=>cases h
  |iface t x =>
   simp only at h
   cases h1:shutA n x with
   |none=>rw[h1] at h; cases h
   |some z =>
    rw[h1] at h; cases h
    cases hr with
    |d h=>cases h with
     |iface h=>exact .iface (shutA_rep n (.d h) h1)
     |sl hx=>rcases hx with hx|⟨hx,_⟩ <;> cases hx
    |iface h=>exact .iface (shutA_rep n h h1)
  |agg cs =>
   simp only at h
   cases h1:mapO (shutA n) cs with
   |none=>rw[h1] at h; cases h
   |some zs =>
    rw[h1] at h; cases h
    obtain⟨e,k⟩:=mapO_some h1
    cases hr with
    |d h=>cases h with
     |agg hl hr=>exact .agg (by omega) fun j hj=>shutA_rep n (.d (hr j (by omega))) (k j (by omega) hj)
     |sl hx=>rcases hx with hx|⟨hx,_⟩ <;> cases hx
    |agg hl hr=>exact .agg (by omega) fun j hj=>shutA_rep n (hr j (by omega)) (k j (by omega) hj)
  |undef=>cases h; exact .undef v
  |int k x=>cases h; cases hr with|d h=>exact h
  |bool b=>cases h; cases hr with|d h=>exact h
  |str s=>cases h; cases hr with|d h=>exact h
  |nilp=>cases h; cases hr with|d h=>exact h
  |nilf=>cases h; cases hr with|d h=>exact h
  |nili=>cases h; cases hr with|d h=>exact h
  |nils=>cases h; obtain⟨a,cap,rfl,hd,_⟩:=(show Rep G w (PV.nm .nils) v from hr.nm).slice (.inr (.inl rfl)); exact hd
  |emp=>cases h; obtain⟨a,cap,rfl,hd,_⟩:=(show Rep G w (PV.nm .emp) v from hr.nm).slice (.inr (.inl rfl)); exact hd
  |emc=>cases h; obtain⟨a,cap,rfl,hd,_⟩:=(show Rep G w (PV.nm .emc) v from hr.nm).slice (.inl rfl); exact hd
  |lst l=>cases h; cases hr with|d h=>exact h
  |ref cs=>cases h; cases hr with|d h=>exact h
end Go.Proofs.YthjnlpfibakacaaGreatDoorPe
