/- A part of the proof of this folder's statement; it has no condition of its own. -/
import Derived.Test.YthjnlpfibakacaaGreatDoorPeMem4
set_option linter.unusedVariables false
set_option linter.unusedSimpArgs false
namespace Go.Proofs.YthjnlpfibakacaaGreatDoorPe
open Go Go.RowKit
def FnOk (P : Program) (f : FuncId) : Prop := ∃ fn, P.funcs[f]? = some fn /\ (fn.name == "runtime.NumGoroutine") = false /\ fn.body.isSome = true
theorem FnOk.enters {P:Program} {f:FuncId} (h:FnOk P f) (args:Array Value) (w:World):(callFunc f args).run P w = .ok (.enter f args) w:=by
 obtain⟨fn,hf,hname,hb⟩:=h
 have h1 : fn.name ≠ "runtime.NumGoroutine" := by simpa using hname
 obtain⟨c,hc⟩:=Option.isSome_iff_exists.1 hb
 simp[callFunc,hf,h1,hc]
def CallOk (P:Program) (w0:World) (cl:CallF):Prop :=
 ∀ f as st r st',cl f as st=some (r,st')->FnOk P f /\ ∀ w1 w G vs,Below w0.heap.size w0 w1->Sim w1 w G st->Reps G w as vs ->
  Calls P f vs w fun e w' => ∃ v G',e = .returned v/\Nxt w1.heap.size G w G' w'/\Sim w1 w' G' st'/\Rep G' w' r v
def Gh.base (F:Fix):Gh:=⟨F,fun _=>none,fun _=>0,fun _=>none,fun _=>0⟩
theorem Sim.base {w:World} {F:Fix} (h : ∀ b o,F b o->b<w.heap.size):Sim w w (Gh.base F) ⟨[],[],[],[]⟩ :=
 ⟨Below.refl _ _,fun b cs h=>by simp at h,fun b k h=>by simp[Gh.base] at h,fun b c k h=>by simp[Gh.base] at h,fun r l n h=>by simp at h,fun r y h=>by simp[Gh.base] at h,fun _ _=>rfl,fun r s k n c m d h=>by simp[Gh.base] at h,
  fun b r k n c h=>by simp[Gh.base] at h,h,rfl,rfl⟩
def Gh.boxed (G:Gh):Fix:=fun b o=>G.F b o \/ ∃ i,G.bx i=some b
theorem shutR_rep {w1 w:World} {G:Gh} {st:St} (h:Sim w1 w G st) {keep:Bool} : ∀ (n:Nat) {x y:PV} {v:Value},Rep G w x v->shutR keep st n x=some y->RepD G.boxed w y v
 |0,_,_,_,_,h=>by cases h
 |n+1,x,y,v,hr,hs=>by
  have up : ∀ {x:PV} {v:Value},RepD G.F w x v->RepD G.boxed w x v:=fun h=>h.mono (fun _ _=>.inl) (Tr.refl _ _)
  have d_inv : ∀ {x:PV},(∀ b o,x ≠ .ptr b o /\ ∀ n b o l,x ≠ .hs n b o l)->(∀ r l,x ≠ .own r l/\x ≠ .rptr r l)->(∀ f cs,x ≠ .func f cs)->(∀ t y,x ≠ .iface t y)->(∀ cs,x ≠ .agg cs)->(∀ cs,x ≠ .tuple cs)->Rep G w x v->RepD G.boxed w x v:=by
   intro x h1 h2 h3 h4 h5 h6 hx
   have h7:=(h1 0 0).2
   cases hx with
   |d h=>exact up h
   |ptr o h=>exact absurd rfl (h1 _ _).1
   |hs n o len cap=>exact absurd rfl ((h1 0 0).2 _ _ _ _)
   |own=>exact absurd rfl (h2 _ _).1
   |rptr=>exact absurd rfl (h2 _ _).2
   |func=>exact absurd rfl (h3 _ _)
   |iface=>exact absurd rfl (h4 _ _)
   |agg=>exact absurd rfl (h5 _)
   |tuple=>exact absurd rfl (h6 _)
  unfold shutR at hs
  cases x with
  |own r l =>
   cases hs
   obtain⟨a,cap,rfl,hd,_⟩:=hr.slice (.inr (.inr ⟨r,rfl⟩))
   exact up hd
  |full l =>
   cases hs
   cases keep with
   |true=>exact d_inv (by simp) (by simp) (by simp) (by simp) (by simp) (by simp) hr
   |false =>
    obtain⟨a,cap,rfl,hd,_⟩:=hr.slice (.inr (.inl rfl))
    exact up hd
  |ptr b o =>
   simp only at hs
   split at hs
   ·rename_i cs hcs
    split at hs
    ·rename_i ho
     cases h1:mapO (shutR keep st n) (cs.drop o) with
     |none=>rw[h1] at hs; cases hs
     |some zs =>
      rw[h1] at hs; cases hs
      obtain⟨e,k⟩:=mapO_some h1
      obtain⟨blk,hb,rfl⟩:=hr.ptr_inv
      obtain⟨f,f1,f2⟩:=cells_at h (o:=o) hb hcs
      exact .ref (vs:=f) (fun j hj=>⟨.inr ⟨b,hb⟩,f1 j (by omega)⟩) fun j hj=>shutR_rep h n (f2 j (by omega)) (k j (by omega) hj)
    ·cases hs
   ·cases hs
  |hs m b o len =>
   simp only at hs
   split at hs
   ·rename_i cs hcs
    split at hs
    ·rename_i ho
     split at hs
     ·rename_i zs h1
      split at hs
      ·rename_i hall
       cases hs
       obtain⟨e,k⟩:=mapO_some h1
       obtain⟨blk,cap,hb,hlc,hk,rfl⟩:=hr.hs_inv
       obtain⟨f,f1,f2⟩:=cells_at h (o:=o) hb hcs
       have hzl:zs.length=len*m:=by rw[e,List.length_take,List.length_drop]; omega
       have hz : ∀ q (hq:q<zs.length),RepD G.boxed w (zs[q]) (f q)/\(f q).oneCell'=true/\w.cell? ⟨blk,o+q,none⟩=some (f q):=by
        intro q hq
        have hq1:q<((cs.drop o).take (len*m)).length:=by omega
        have hq2:q<(cs.drop o).length:=by rw[List.length_take] at hq1; omega
        have hkq:=k q hq1 hq
        simp only[List.getElem_take] at hkq
        have hd:=shutR_rep h n (f2 q hq2) hkq
        refine⟨hd,?_,f1 q hq2⟩
        exact isCell_one (G:=Gh.base G.boxed) (w:=w) (.d hd) (List.all_eq_true.1 hall _ (List.getElem_mem hq))
       have hcl:(chunk m len zs).length=len:=by simp[chunk]
       have hm0:0<m:=Nat.pos_of_ne_zero ho.2
       suffices key:RepD G.boxed w (.lst (chunk m len zs)) (.slice (some ⟨blk,o,none⟩) (chunk m len zs).length cap) by
        rw[hcl] at key; exact key
       refine .sl (l:=chunk m len zs) (b:=blk) (o:=o) (sz:=m) (vs:=fun q=>if m=1 then f q else .agg ((List.range m).map fun j=>f (q*m+j)).toArray) (.inl rfl) (by rw[hcl]; exact hlc)
        ⟨fun _=>rfl,fun h=>by cases h⟩ (fun q hq => ?_) (fun q j hq hj => ?_) (fun q hq => ?_)
       ·rw[hcl] at hq
        by_cases h1:m=1
        ·simp only[h1,if_true]
         have:=(hz q (by rw[hzl,h1]; omega)).2.1
         generalize f q=u at this ⊢
         cases u <;> first|rfl|(cases this)
        ·simp[h1,Value.cells]
       ·rw[hcl] at hq
        have hlt:=lt_of hq hj
        obtain⟨z1,z2,z3⟩:=hz (q*m+j) (by omega)
        have hcell:(if m=1 then f q else .agg ((List.range m).map fun j=>f (q*m+j)).toArray).cells.getD j Go.undef=f (q*m+j):=by
         by_cases h1:m=1
         ·subst h1
          have hj0:j=0:=by omega
          subst hj0
          simp only[if_true,Nat.mul_one,Nat.add_zero] at z2 ⊢
          generalize f q=u at z2 ⊢
          cases u <;> first|rfl|(cases z2)
         ·rw[if_neg h1]
          simp only[Value.cells]
          rw[Array.getD_eq_getD_getElem?]
          simp[hj]
        rw[hcell]
        exact⟨.inr ⟨b,hb⟩,by rw[Nat.add_assoc]; exact z3,z2⟩
       ·have hq':q<len:=by rw[hcl] at hq; exact hq
        simp only[chunk,List.getElem_map,List.getElem_range]
        by_cases h1:m=1
        ·subst h1
         simp only[if_true]
         have hq2:q<zs.length:=by omega
         have:=(hz q hq2).1
         rw[List.getD_eq_getElem?_getD,List.getElem?_eq_getElem hq2]
         exact this
        ·simp only[h1,if_false]
         have hlm:q*m+m<=zs.length:=by
          have:=Nat.mul_le_mul_right m (show q+1<=len from hq')
          rw[Nat.add_mul] at this
          omega
         refine .agg (by simp; omega) fun j hj => ?_
         simp only[List.length_take,List.length_drop] at hj
         have hj':j<m:=by omega
         have:=(hz (q*m+j) (by omega)).1
         simp only[List.getElem_take,List.getElem_drop]
         rw[Array.getD_eq_getD_getElem?]
         simp[hj']
         exact this
      ·cases hs
     ·cases hs
    ·cases hs
   ·cases hs
  |rptr r l=>cases hs
  |tuple cs =>
   simp only at hs
   cases h1:mapO (shutR keep st n) cs with
   |none=>rw[h1] at hs; cases hs
   |some zs =>
    rw[h1] at hs; cases hs
    obtain⟨e,k⟩:=mapO_some h1
    obtain⟨vs,rfl,hl,hr⟩:=hr.tuple_inv
    exact .tuple (by omega) fun j hj=>shutR_rep h n (hr j (by omega)) (k j (by omega) hj)
  |func f cs =>
   cases cs with
   |nil =>
    cases hs
    obtain⟨vs,rfl,hl,_⟩:=hr.func_inv
    have:vs = #[]:=Array.eq_empty_of_size_eq_zero (by simpa using hl)
    subst this
    exact .func f
   |cons c cs=>cases hs
  |iface t x =>
   simp only at hs
   cases h1:shutR keep st n x with
   |none=>rw[h1] at hs; cases hs
   |some z =>
    rw[h1] at hs; cases hs
    obtain⟨u,rfl,hu⟩:=hr.iface_inv
    exact .iface (shutR_rep h n hu h1)
  |agg cs =>
   simp only at hs
   cases h1:mapO (shutR keep st n) cs with
   |none=>rw[h1] at hs; cases hs
   |some zs =>
    rw[h1] at hs; cases hs
    obtain⟨e,k⟩:=mapO_some h1
    obtain⟨vs,rfl,hl,hr⟩:=hr.agg_inv
    exact .agg (by omega) fun j hj=>shutR_rep h n (hr j (by omega)) (k j (by omega) hj)
  |undef=>cases hs; exact .undef v
  |int k x=>cases hs; exact d_inv (by simp) (by simp) (by simp) (by simp) (by simp) (by simp) hr
  |bool b=>cases hs; exact d_inv (by simp) (by simp) (by simp) (by simp) (by simp) (by simp) hr
  |str s=>cases hs; exact d_inv (by simp) (by simp) (by simp) (by simp) (by simp) (by simp) hr
  |nilp=>cases hs; exact d_inv (by simp) (by simp) (by simp) (by simp) (by simp) (by simp) hr
  |nilf=>cases hs; exact d_inv (by simp) (by simp) (by simp) (by simp) (by simp) (by simp) hr
  |nili=>cases hs; exact d_inv (by simp) (by simp) (by simp) (by simp) (by simp) (by simp) hr
  |nils =>
   cases hs
   have hr:Rep G w (.full []) v:=hr.nm
   cases keep with
   |true=>exact d_inv (by simp) (by simp) (by simp) (by simp) (by simp) (by simp) hr
   |false=>obtain⟨a,cap,rfl,hd,_⟩:=hr.slice (.inr (.inl rfl)); exact up hd
  |emp =>
   cases hs
   have hr:Rep G w (.full []) v:=hr.nm
   cases keep with
   |true=>exact d_inv (by simp) (by simp) (by simp) (by simp) (by simp) (by simp) hr
   |false=>obtain⟨a,cap,rfl,hd,_⟩:=hr.slice (.inr (.inl rfl)); exact up hd
  |emc=>cases hs; exact d_inv (by simp) (by simp) (by simp) (by simp) (by simp) (by simp) (show Rep G w (PV.nm .emc) v from hr.nm)
  |lst l=>cases hs; exact d_inv (by simp) (by simp) (by simp) (by simp) (by simp) (by simp) hr
  |ref cs=>cases hs; exact d_inv (by simp) (by simp) (by simp) (by simp) (by simp) (by simp) hr
theorem Sim.after {w1 w w':World} {G G1:Gh} {st st1:St} (h:Sim w1 w G st) (N:Nxt w.heap.size (Gh.base G.F) w G1 w') (s:Sim w w' G1 st1) :
  Nxt w1.heap.size G w { G with F:=G1.boxed } w'/\Sim w1 w' { G with F:=G1.boxed } st:=by
 have hold : ∀ b o,b<w.heap.size->G1.boxed b o->G.F b o:=by
  intro b o hb hF
  rcases hF with hF|⟨i,hi⟩
  ·rcases N.Fn b o hF with h|h
   ·exact h
   ·omega
  ·have:=(s.bx_lt hi).2.1; omega
 have NN:Nxt w1.heap.size G w { G with F:=G1.boxed } w':=by
  refine⟨fun b o hF=>.inl (N.F b o hF),fun b o hF => ?_,fun _ _ h=>⟨h,rfl⟩,fun _=>Nat.le_refl _,fun _ _ _ h=>h,N.tr⟩
  rcases Nat.lt_or_ge b w.heap.size with hb|hb
  ·exact .inl (hold b o hb hF)
  ·exact .inr (Nat.le_trans h.below.size hb)
 refine⟨NN,h.below.trans (s.below.mono h.below.size),fun b cs hcs => ?_,h.boxN,h.boxI,fun r len n hr => ?_,h.rowN,h.rowL,h.rowI,h.apart,fun b o hF => ?_,h.btN,h.rtN⟩
 ·obtain⟨blk,vs,T,e1,e2,e3,e4,e5,e6,e7⟩:=(h.box b cs hcs).ex
  have hlt:=(Array.getElem?_eq_some_iff.1 e3).1
  exact⟨blk,vs,T,e1,e2,(s.below.block blk hlt).trans e3,e4,fun o hF=>e5 o (hold blk o hlt hF),fun j hj=>(e6 j hj).mono NN,e7⟩
 ·obtain⟨e0,blk,cap,vs,T,fz,e1,e2,e3,e4,e5,e6,e7⟩:=h.row r len n hr
  have hlt:=(Array.getElem?_eq_some_iff.1 e3).1
  exact⟨e0,blk,cap,vs,T,fz,e1,e2,(s.below.block blk hlt).trans e3,e4,e5,fun o ho hF=>e6 o ho (hold blk o hlt hF),e7⟩
 ·rcases hF with hF|⟨i,hi⟩
  ·exact s.Fd b o hF
  ·exact (s.bx_lt hi).1
theorem reps_of {G:Gh} {w:World} {fr:Fr} {a:Act} (hf:FrRel G w fr a) {xs:List Operand} {ys:List Opd} (h:mapO cOpd xs=some ys):Reps G w (ys.map (·.ev fr)) (xs.map a.eval).toArray:=by
 obtain⟨e,k⟩:=mapO_some h
 refine .of_get? (by simp[e]) fun j hj => ?_
 simp only[List.length_map] at hj
 exact⟨a.eval (xs[j]'(by omega)),by simp[show j<xs.length by omega],by simp only[List.getElem_map]; exact cOpd_rep hf (k j (by omega) hj)⟩
theorem reps_shut {G:Gh} {w:World} {xs ys:List PV} {A:Array Value} (h:Reps G w xs A) {n:Nat} (hs:mapO (shutA n) xs=some ys):Reps (Gh.base G.F) w ys A:=by
 obtain⟨e,k⟩:=mapO_some hs
 exact⟨by rw[h.1,e],fun j hj=>.d (shutA_rep (G:=G) n (h.2 j (by omega)) (k j (by omega) hj))⟩
theorem shutK_rep {G:Gh} {w:World} {x y:PV} {v:Value} (h:Rep G w x v) (hs:shutK x=some y):RepD G.F w y v:=by
 unfold shutK at hs
 split at hs
 ·cases hs; cases h; assumption
 ·cases hs; cases h; assumption
 ·cases hs; cases h; assumption
 ·exact shutA_rep shutN h hs
theorem reps_argF {G:Gh} {w:World} {xs ys:List PV} {A:Array Value} (h:Reps G w xs A) {m:Nat} (hs:mapO (argF m) xs=some ys):Reps (Gh.base G.F) w ys A:=by
 unfold argF at hs
 split at hs
 ·obtain⟨e,k⟩:=mapO_some hs
  exact⟨by rw[h.1,e],fun j hj=>.d (shutK_rep (G:=G) (h.2 j (by omega)) (k j (by omega) hj))⟩
 ·exact reps_shut h hs
theorem reps_shutS {G:Gh} {w:World} : ∀ {raw:List Bool} {xs ys:List PV} {A:Array Value},Reps G w xs A->shutS raw xs=some ys->Reps G w ys A:=by
 have key : ∀ (xs:List PV) (raw:List Bool) (ys:List PV),shutS raw xs=some ys->ys.length=xs.length /\ ∀ (v:Value) j (h:j<xs.length) (h':j<ys.length),Rep G w (xs[j]) v->Rep G w (ys[j]) v:=by
  intro xs
  induction xs with
  |nil=>intro raw ys h; cases raw <;> (unfold shutS at h; cases h; exact⟨rfl,fun v j hj=>absurd hj (Nat.not_lt_zero _)⟩)
  |cons x xs ih =>
   intro raw ys h
   cases raw with
   |nil=>unfold shutS at h; cases h; exact⟨rfl,fun v j hj _ h=>h⟩
   |cons b raw =>
    cases b with
    |true =>
     unfold shutS at h
     split at h
     ·rename_i zs hz
      cases h
      obtain⟨e,k⟩:=ih _ _ hz
      refine⟨by simp[e],fun v j hj hj' hr => ?_⟩
      cases j with
      |zero=>exact hr
      |succ j=>exact k v j (by simpa using hj) (by simpa using hj') hr
     ·cases h
    |false =>
     unfold shutS at h
     split at h
     ·rename_i y zs hy hz
      cases h
      obtain⟨e,k⟩:=ih _ _ hz
      refine⟨by simp[e],fun v j hj hj' hr => ?_⟩
      cases j with
      |zero=>exact .d (shutA_rep _ hr hy)
      |succ j=>exact k v j (by simpa using hj) (by simpa using hj') hr
     ·cases h
 intro raw xs ys A h hs
 obtain⟨e,k⟩:=key xs raw ys hs
 exact⟨by rw[h.1,e],fun j hj=>k _ j (by omega) hj (h.2 j (by omega))⟩
theorem calli_ok {P:Program} {w0 w1 w:World} {cl:CallF} {G:Gh} {st:St} (hcl:CallOk P w0 cl) (hb:Below w0.heap.size w0 w1) (h:Sim w1 w G st) {f:FuncId} {as bs:List PV} {A:Array Value} (hA:Reps G w as A)
  {m:Nat} (hs:mapO (argF m) as=some bs) {r:PV} {st1:St} (he:cl f bs ⟨[],[],[],[]⟩=some (r,st1)) :
  FnOk P f/\Calls P f A w fun e w' => ∃ v G1,e = .returned v/\Nxt w.heap.size (Gh.base G.F) w G1 w'/\Sim w w' G1 st1/\Rep G1 w' r v/\Nxt w1.heap.size G w { G with F:=G1.boxed } w'/\Sim w1 w' { G with F:=G1.boxed } st:=by
 obtain⟨h1,h2⟩:=hcl _ _ _ _ _ he
 refine⟨h1,(h2 w w (Gh.base G.F) A (hb.trans (h.below.mono hb.size)) (.base h.Fd) (reps_argF hA hs)).mono ?_⟩
 rintro e w' ⟨v,G1,rfl,N,s,hr⟩
 exact⟨v,G1,rfl,N,s,hr,h.after N s⟩
theorem calli_res {P:Program} {w0 w1 w:World} {cl:CallF} {G:Gh} {st st':St} (hcl:CallOk P w0 cl) (hb:Below w0.heap.size w0 w1) (h:Sim w1 w G st) {m:Nat} {f:FuncId} {args:List Opd} {fr:Fr} {A:Array Value}
  (hA:Reps G w (args.map (·.ev fr)) A) {z:PV} (he:evOp cl (.calli m f args) fr st=some (z,st')) :
  FnOk P f/\Calls P f A w fun e w' => ∃ v G',e = .returned v/\Nxt w1.heap.size G w G' w'/\Sim w1 w' G' st'/\Rep G' w' z v /\ ∀ i k,G.bx i=some k->w'.heap[k]? = w.heap[k]? := by
 simp only[evOp] at he
 cases hs:mapO (argF m) (args.map (·.ev fr)) with
 |none=>rw[hs] at he; cases he
 |some bs =>
  rw[hs] at he
  simp only at he
  cases hc:cl f bs ⟨[],[],[],[]⟩ with
  |none=>rw[hc] at he; cases he
  |some q =>
   obtain⟨r,st1⟩:=q
   rw[hc] at he
   simp only at he
   obtain⟨k1,k2⟩:=calli_ok hcl hb h hA hs hc
   refine⟨k1,k2.mono ?_⟩
   rintro e w' ⟨v,G1,rfl,N,s,hr,N',s'⟩
   have hkeep : ∀ i k,G.bx i=some k->w'.heap[k]? = w.heap[k]? := fun i k hk=>s.below.block k (h.bx_lt hk).1
   by_cases hm2:m=2
   case neg =>
    simp only[hm2,if_false] at he
    cases hq:shutR (m % 2==1) st1 shutN r with
    |none=>rw[hq] at he; cases he
    |some y =>
     rw[hq] at he; cases he
     exact⟨v,_,rfl,N',s',.d (shutR_rep s shutN hr hq),hkeep⟩
   case pos =>
    simp only[hm2,if_true] at he
    split at he
    ·rename_i q l
     split at he
     ·rename_i m n Trow hrow hTrow
      split at he
      ·rename_i hm
       cases he
       subst hm
       cases hr with
       |d hr =>
        cases hr with
        |sl hx=>rcases hx with hx|⟨hx,_⟩ <;> cases hx
       |own hd hl hn =>
        rename_i ad cap
        obtain⟨e0,blk,cap',vs,T,fz,e1,e2,e3,e4,e5,e6,e7⟩:=s.row q l.length n hrow
        rw[hTrow] at e7
        have e7':Trow=T/\fz.2<=l.length*n\/Trow=tagT:=e7.imp (fun h=>⟨Option.some.inj h.1,h.2⟩) fun h=>Option.some.inj h
        obtain⟨blk',n',f1,rfl,f3⟩:=hn e0.symm
        rw[e1] at f1
        cases f1
        obtain⟨s2,N2⟩:=s'.addRow (r:=st.rows.length) (blk:=blk) (n:=n) (cap:=cap) (len:=l.length) (T':=Trow) (st.rows++[(l.length,n)]) (st.rt++[Trow]) (Nat.le_trans h.below.size e2) e3 e4 e5
         (fun o ho hF=>hF.elim (e6 o ho) fun ⟨i,hi⟩=>s.apart i q blk n cap hi e1) (fun b k hb=>by have:=(h.bx_lt hb).1; omega) (fun t k m c _ hr=>by have:=(h.rw_lt hr).1; omega) ⟨.inl ⟨rfl,rfl⟩,e7'⟩ (.inl ⟨rfl,rfl⟩)
        refine⟨_,_,rfl,N'.trans N2,s2,?_,hkeep⟩
        refine .own' rfl ?_ (by simp[Gh.addRow]) (fun _=>⟨blk,n,if_pos rfl,rfl,f3⟩)
        exact (hd.mono (fun b o hF=>.inl (.inl hF)) (Tr.refl _ _))
      ·cases he
     ·cases he
    ·cases hq:shutR true st1 shutN r with
     |none=>rw[hq] at he; cases he
     |some y =>
      rw[hq] at he; cases he
      exact⟨v,_,rfl,N',s',.d (shutR_rep s shutN hr hq),hkeep⟩
def keepsB (i:IOp) (fr:Fr) (id:Nat):Prop :=
 match i with
 |.store _ x _ => ∀ b o,x.ev fr = .ptr b o->id≠b
 |.calls _ _ _=>False
 |.callv _ _=>False
 |.happend _ _ _ _ _=>False
 |_=>True
abbrev After (w1 w:World) (G:Gh) (st':St) (fr':Fr) (keep:Nat->Prop) (a:Act) (d:Option Nat) (K:Act->World->Prop):Prop :=
 ∀ v w' G',Nxt w1.heap.size G w G' w'->Sim w1 w' G' st'->FrRel G' w' fr' (a.put d v)->(∀ i k,keep i->G.bx i=some k->w'.heap[k]? = w.heap[k]?)->K (a.put d v) w'
theorem wp_value {P:Program} {o:Oper} {a:Act} {w w':World} {v:Value} {K:Act->World->Prop} {Q:Exit->Act->World->Prop} (h:(execOp a.eval o).run P w = .ok (.value v) w') (hK:K (a.put o.dst v) w'):o.wp P a w K Q:=by
 unfold Oper.wp
 rw[h]
 exact hK
theorem wp_mem {P:Program} {w1 w:World} {G:Gh} {st':St} {fr:Fr} {a:Act} (hf:FrRel G w fr a) {o:Oper} {s:Sem Value} (hs:execOp a.eval o=(do pure (Next.value (<- s)))) {z:PV} (hm:MemOk P w1 w G st' s z) {K:Act->World->Prop} {Q:Exit->Act->World->Prop}
  {keep:Nat->Prop} (hK:After w1 w G st' (putF o.dst z fr) keep a o.dst K):o.wp P a w K Q:=by
 obtain⟨v,w',G',hrun,N,s',hr,hk⟩:=hm
 refine wp_value (v:=v) (w':=w') ?_ (hK _ _ G' N s' ((hf.mono N).put _ hr) fun i k _=>hk i k)
 rw[hs,Sem.run_bind,hrun]
 rfl
theorem wp_memH {P:Program} {w1 w:World} {G:Gh} {st':St} {fr:Fr} {a:Act} (hf:FrRel G w fr a) {o:Oper} {s:Sem Value} (hs:execOp a.eval o=(do pure (Next.value (<- s)))) {z:PV}
  (hm : ∃ v w' G',s.run P w = .ok v w'/\Nxt w1.heap.size G w G' w'/\Sim w1 w' G' st'/\Rep G' w' z v) {K:Act->World->Prop} {Q:Exit->Act->World->Prop} {keep:Nat->Prop} (hno : ∀ i,¬ keep i) (hK:After w1 w G st' (putF o.dst z fr) keep a o.dst K):o.wp P a w K Q:=by
 obtain⟨v,w',G',hrun,N,s',hr⟩:=hm
 refine wp_value (v:=v) (w':=w') ?_ (hK _ _ G' N s' ((hf.mono N).put _ hr) fun i k hi _=>absurd hi (hno i))
 rw[hs,Sem.run_bind,hrun]
 rfl
theorem wp_call {P:Program} {w1 w:World} {G:Gh} {st':St} {fr:Fr} {a:Act} (hf:FrRel G w fr a) {o:Oper} {f:FuncId} {A:Array Value} (hs : ∀ w,(execOp a.eval o).run P w = .ok (.enter f A) w) {z:PV}
  {keep:Nat->Prop} (hc:Calls P f A w fun e w' => ∃ v G',e = .returned v/\Nxt w1.heap.size G w G' w'/\Sim w1 w' G' st'/\Rep G' w' z v /\ ∀ i k,keep i->G.bx i=some k->w'.heap[k]? = w.heap[k]?) {K:Act->World->Prop} {Q:Exit->Act->World->Prop}
  (hK:After w1 w G st' (putF o.dst z fr) keep a o.dst K):o.wp P a w K Q:=by
 unfold Oper.wp
 rw[hs,Oper.upon_enter]
 refine hc.mono fun e w' hh => ?_
 obtain⟨v,G',rfl,N,s',hr,hk⟩:=hh
 exact hK _ _ G' N s' ((hf.mono N).put _ hr) hk
theorem call_run {P:Program} {o:Oper} {c:Call} {f:FuncId} {a:Act} (ho:o.op = .call c) (hcal:c.callee = .value (.func f)) (hf:FnOk P f) (w:World):(execOp a.eval o).run P w = .ok (.enter f (c.args.toList.map a.eval).toArray) w:=by
 have he:=hf.enters (c.args.map a.eval) w
 have e:(c.args.toList.map a.eval).toArray=c.args.map a.eval:=Array.ext' (by rw[Array.toList_map])
 rw[e]
 simp[execOp,ho,resolve,hcal,Act.eval,Deferred.ofValue,invoke,he]
theorem call_run_v {P:Program} {o:Oper} {c:Call} {f:FuncId} {a:Act} {x:Operand} {vs:Array Value} (ho:o.op = .call c) (hcal:c.callee = .value x) (hx:a.eval x = .func (.func f) #[] vs) (hf:FnOk P f) (w:World) :
  (execOp a.eval o).run P w = .ok (.enter f (c.args.map a.eval++vs)) w:=by
 have he:=hf.enters (c.args.map a.eval++vs) w
 simp[execOp,ho,resolve,hcal,hx,Deferred.ofValue,invoke,he]
theorem Reps.append {G:Gh} {w:World} {xs ys:List PV} {A B:Array Value} (h:Reps G w xs A) (k:Reps G w ys B):Reps G w (xs++ys) (A++B):=by
 refine .of_get? (by simp[h.1,k.1]) fun j hj => ?_
 simp only[List.length_append] at hj
 by_cases hlt:j<xs.length
 ·obtain⟨v,hv,hr⟩:=h.get? hlt
  exact⟨v,by rw[Array.getElem?_append_left (by rw[h.1]; exact hlt)]; exact hv,by rw[List.getElem_append_left hlt]; exact hr⟩
 ·obtain⟨v,hv,hr⟩:=k.get? (j:=j-xs.length) (by omega)
  exact⟨v,by rw[Array.getElem?_append_right (by rw[h.1]; omega),h.1]; exact hv,by rw[List.getElem_append_right (by omega)]; exact hr⟩
theorem op_ok {P:Program} {w0 w1 w:World} {cl:CallF} {G:Gh} {st st':St} {fr:Fr} {a:Act} (hcl:CallOk P w0 cl) (hb:Below w0.heap.size w0 w1) (h:Sim w1 w G st) (hf:FrRel G w fr a) {sh:FuncId->Nat} {o:Oper} {i:IOp}
  (hc:cOp P sh o.op=some i) {z:PV} (he:evOp cl i fr st=some (z,st')) {K:Act->World->Prop} {Q:Exit->Act->World->Prop} (hK:After w1 w G st' (putF o.dst z fr) (fun id=>keepsB i fr id/\Alive st id) a o.dst K):o.wp P a w K Q:=by
 by_cases hp:isPure i=true
 ·obtain⟨rfl,v,hv,hr⟩:=pure_ok hf hc hp he
  exact wp_value (hv w) (hK _ _ G (Nxt.refl _ _ _) h (hf.put _ hr) fun _ _ _ _=>rfl)
 cases ho:o.op with
 |box t x =>
  rw[ho] at hc
  simp only[cOp] at hc
  split at hc
  ·rename_i n y hn hx
   cases hc
   simp only[evOp] at he
   split at he
   ·rename_i hl
    cases he
    obtain⟨_,_,_,h0⟩:=sizeT_some hn
    exact wp_mem hf (by simp only[execOp,ho]) (box_ok h (cOpd_rep hf hx) hl h0 t) hK
   ·cases he
  ·cases hc
 |alloc t =>
  rw[ho] at hc
  simp only[cOp] at hc
  cases hz:zeroT P t with
  |none=>rw[hz] at hc; cases hc
  |some zs =>
   rw[hz] at hc; cases hc
   cases he
   exact wp_mem hf (by simp only[execOp,ho]) (zbox_ok h hz) hK
 |buildSlice t n ps =>
  rw[ho] at hc
  exact wp_mem hf (by simp only[execOp,ho]) (bslice_ok h hf hc he) hK
 |load t x =>
  rw[ho] at hc
  simp only[cOp] at hc
  split at hc
  ·rename_i m y hm hx
   cases hc
   obtain⟨rfl,b,q,f,hv,hcell,hr,hrun,_⟩:=load_ok h hm (cOpd_rep hf hx) rfl he
   refine wp_value ?_ (hK _ _ G (Nxt.refl _ _ _) h (hf.put _ hr) fun _ _ _ _=>rfl)
   simp only[execOp,ho]
   rw[Sem.run_bind,hrun w hcell]
   rfl
  ·cases hc
 |store t x y =>
  rw[ho] at hc
  simp only[cOp] at hc
  split at hc
  ·rename_i n x' y' hn hx hy
   cases hc
   simp only[evOp] at he
   split at he
   ·rename_i b q e
    split at he
    ·rename_i cs hcs
     split at he
     ·rename_i hcond
      cases he
      have hr:=cOpd_rep hf hx
      rw[e] at hr
      obtain⟨blk,hbx,hv⟩:=hr.ptr_inv
      obtain⟨w',hrun,N,s',hoth⟩:=store_ok (P:=P) h hn hbx hcs (cOpd_rep hf hy) hcond.1 hcond.2.1 hcond.2.2
      unfold Oper.wp
      have hrun':(execOp a.eval o).run P w = .ok .skip w':=by
       simp only[execOp,ho,hv]
       rw[Sem.run_bind,hrun]
       rfl
      rw[hrun',Oper.upon_skip]
      exact hK _ _ G N s' ((hf.mono N).put _ (.d (.tuple rfl fun j hj=>absurd hj (Nat.not_lt_zero _)))) fun i k hi hk=>hoth k fun e'=>hi.1 b q e (h.boxI i b blk (e' ▸ hk) hbx hi.2 (by
       cases cs with
       |nil=>obtain⟨_,_,_,h0⟩:=sizeT_some hn; simp at hcond; omega
       |cons c l=>exact⟨c,l,hcs⟩))
     ·cases he
    ·cases he
   ·cases he
  ·cases hc
 |convert s d x =>
  rw[ho] at hc
  simp only[cOp] at hc
  split at hc
  ·cases hc; exact absurd rfl hp
  ·cases hc; exact absurd rfl hp
  ·rename_i x' e hx hs hd
   split at hc
   ·rename_i it hel hi
    split at hc
    ·cases hc
     simp only[evOp] at he
     split at he
     ·rename_i l el
      cases he
      have hr:=cOpd_rep hf hx
      rw[el] at hr
      have hv:=hr.str_inv
      exact wp_mem hf (s:=convert s d (.string ⟨⟨l⟩⟩)) (by simp only[execOp,ho,hv]) (tobytes_ok h hs hd hel l) hK
     ·cases he
    ·cases hc
   ·cases hc
  ·rename_i x' e e' hx hs hd
   split at hc
   ·rename_i hel
    split at hc
    ·rename_i hsd
     subst hsd
     cases hc
     exact wp_mem hf (by simp only[execOp,ho]) (mark_ok h hs hel (cOpd_rep hf hx) he) hK
    ·cases hc
   ·cases hc
  ·rename_i x' t' hx hs hd
   split at hc
   ·rename_i hz
    cases hc
    exact wp_mem hf (by simp only[execOp,ho]) (touns_ok h hs hd hz (cOpd_rep hf hx) he) hK
   ·cases hc
  ·rename_i x' u hx hs hd
   split at hc
   ·rename_i n hn
    split at hc
    ·rename_i hl
     cases hc
     exact wp_mem hf (by simp only[execOp,ho]) (fromuns_ok h hs hd hn hl.1 hl.2 (cOpd_rep hf hx) he) hK
    ·cases hc
   ·cases hc
  ·rename_i x' e hx hs hd
   split at hc
   ·rename_i hel
    cases hc
    simp only[evOp] at he
    split at he
    ·rename_i l el
     cases hq:mapO byteP l with
     |none=>rw[hq] at he; cases he
     |some q =>
      rw[hq] at he; cases he
      exact wp_mem hf (by simp only[execOp,ho]) (tostr_ok h hs hd hel (cOpd_rep hf hx).nm el hq) hK
    ·cases he
   ·cases hc
  ·cases hc
 |call c =>
  rw[ho] at hc
  simp only[cOp,cCall] at hc
  split at hc
  ·rename_i b hbi
   split at hc
   ·split at hc
    ·split at hc
     ·cases hc; exact absurd rfl hp
     ·cases hc; exact absurd rfl hp
     ·cases hc
    ·cases hc
   ·split at hc
    ·rename_i x y t u ea et
     have eargs:c.args = #[x,y]:=by
      have:=congrArg List.toArray ea
      simpa using this
     have etys:c.argTypes = #[t,u]:=by
      have:=congrArg List.toArray et
      simpa using this
     split at hc
     ·rename_i e x' y' hel hx hy
      split at hc
      ·rename_i n it d hn hi hd
       split at hc
       ·rename_i z0 hz0
        split at hc
        ·rename_i hzs
         obtain⟨it',hi',hin,hn0⟩:=sizeT_some hn
         rw[hi] at hi'
         cases hi'
         have key:i = .append n it.bytes e x' y'->((∃ e',P.underlying u=some (.slice e'))\/(P.underlying u=some .string/\n=1))->o.wp P a w K Q:=by
          rintro rfl hk
          simp only[evOp] at he
          split at he
          ·rename_i es hes
           refine wp_mem hf (s:=Builtin.append_ #[t,u] o.type #[a.eval x,a.eval y]) ?_ (append_ok (het:=Nat.ne_of_lt hzs.2) h (elemT_some hel) hi hin hn0 hz0 hzs.1 (by split <;> first|exact cOpd_rep hf hx|exact (cOpd_rep hf hx).nm) (cOpd_rep hf hy).nm hes hk he) hK
           simp[execOp,ho,resolve,hbi,invoke,builtin,eargs,etys]
          ·cases he
         split at hc
         ·rename_i e'
          split at hc
          ·cases hc
           simp only[evOp] at he
           split at he
           ·rename_i es hes
            refine wp_memH hf (s:=Builtin.append_ #[t,u] o.type #[a.eval x,a.eval y]) ?_ (happend_ok h (elemT_some hel) hi hin hn0 hz0 hzs.1 (cOpd_rep hf hx) (cOpd_rep hf hy).nm hes (.inl ⟨_,hd⟩) he) (fun i hi=>hi.1) hK
            simp[execOp,ho,resolve,hbi,invoke,builtin,eargs,etys]
           ·cases he
          ·cases hc; exact key rfl (.inl ⟨_,hd⟩)
         ·split at hc
          ·rename_i h1
           cases hc; exact key rfl (.inr ⟨hd,h1⟩)
          ·cases hc
         ·cases hc
        ·cases hc
       ·cases hc
      ·cases hc
     ·cases hc
    ·cases hc
   ·split at hc
    ·obtain⟨y,_,rfl⟩:=Option.map_eq_some_iff.1 hc
     exact absurd rfl hp
    ·cases hc
   ·split at hc
    ·rename_i x y t u ea et
     have eargs:c.args = #[x,y]:=by
      have:=congrArg List.toArray ea
      simpa using this
     have etys:c.argTypes = #[t,u]:=by
      have:=congrArg List.toArray et
      simpa using this
     split at hc
     ·rename_i x' y' e hx hy ht
      split at hc
      ·rename_i hce
       cases hc
       refine wp_mem hf (s:=Builtin.unsafeString_ #[t,u] o.type #[a.eval x,a.eval y]) ?_ (ustr_ok h ht hce.1 (cOpd_rep hf hx) (cOpd_rep hf hy) he (Nat.ne_of_lt hce.2)) hK
       simp[execOp,ho,resolve,hbi,invoke,builtin,eargs,etys]
      ·cases hc
     ·cases hc
    ·cases hc
   ·split at hc
    ·split at hc
     ·cases hc; exact absurd rfl hp
     ·cases hc
    ·cases hc
   ·split at hc
    ·split at hc
     ·cases hc; exact absurd rfl hp
     ·cases hc
    ·cases hc
   ·cases hc
  ·rename_i fv hcal
   split at hc
   ·rename_i g
    split at hc
    ·rename_i as fn has hfn
     split at hc
     ·rename_i hok
      have hFn:FnOk P g:=⟨fn,hfn,hok.1,hok.2⟩
      have hA:=reps_of hf has
      split at hc
      ·cases hc
       exact wp_call hf (call_run ho hcal hFn) ((calli_res hcl hb h hA he).2.mono fun e w' ⟨v,G',h1,h2,h3,h4,h5⟩=>⟨v,G',h1,h2,h3,h4,fun i k _=>h5 i k⟩) hK
      ·cases hc
       exact wp_call hf (call_run ho hcal hFn) ((calli_res hcl hb h hA he).2.mono fun e w' ⟨v,G',h1,h2,h3,h4,h5⟩=>⟨v,G',h1,h2,h3,h4,fun i k _=>h5 i k⟩) hK
      ·cases hc
       exact wp_call hf (call_run ho hcal hFn) ((calli_res hcl hb h hA he).2.mono fun e w' ⟨v,G',h1,h2,h3,h4,h5⟩=>⟨v,G',h1,h2,h3,h4,fun i k _=>h5 i k⟩) hK
      ·split at hc
       ·cases hc
        exact wp_call hf (call_run ho hcal hFn) ((calli_res hcl hb h hA he).2.mono fun e w' ⟨v,G',h1,h2,h3,h4,h5⟩=>⟨v,G',h1,h2,h3,h4,fun i k _=>h5 i k⟩) hK
       ·cases hc
        simp only[evOp] at he
        split at he
        ·rename_i bs hbs
         exact wp_call hf (call_run ho hcal hFn) (((hcl _ _ _ _ _ he).2 w1 w G _ hb h (reps_shutS hA hbs)).mono fun e w' ⟨v,G',h1,h2,h3,h4⟩=>⟨v,G',h1,h2,h3,h4,fun i k hi=>hi.1.elim⟩) hK
        ·cases he
     ·split at hc
      ·split at hc
       ·cases hc; exact absurd rfl hp
       ·cases hc
      ·cases hc
    ·cases hc
   ·rename_i t
    cases hm:mapO cOpd c.args.toList with
    |none=>rw[hm] at hc; cases hc
    |some as =>
     rw[hm] at hc; cases hc
     simp only[evOp] at he
     split at he
     ·rename_i f cap hfe
      have hr:=hf.get t
      have e1:(Opd.t t).ev fr=fr.getD t .undef:=rfl
      rw[<- e1,hfe] at hr
      obtain⟨vs,hv,hl,hrs⟩:=hr.func_inv
      have hA:=reps_of hf hm
      have hA':=hA.append (B:=vs) ⟨hl,hrs⟩
      obtain⟨k1,k2⟩:=hcl _ _ _ _ _ he
      refine wp_call hf (f:=f) (A:=c.args.map a.eval++vs) (call_run_v ho hcal hv k1) ?_ hK
      have e2:(c.args.toList.map a.eval).toArray=c.args.map a.eval:=Array.ext' (by rw[Array.toList_map])
      rw[e2] at hA'
      exact (k2 w1 w G _ hb h hA').mono fun e w' ⟨v,G',h1,h2,h3,h4⟩=>⟨v,G',h1,h2,h3,h4,fun i k hi=>hi.1.elim⟩
     ·cases he
   ·cases hc
  ·cases hc
 |_ =>
  exfalso
  rw[ho] at hc
  first
   |cases hc; done
   |(refine hp ?_; simp only[cOp] at hc; obtain⟨y,_,rfl⟩:=Option.map_eq_some_iff.1 hc; rfl)
   |(refine hp ?_; simp only[cOp] at hc; (repeat' split at hc) <;> first|(cases hc; rfl)|(cases hc; done)|(obtain⟨y,_,rfl⟩:=Option.map_eq_some_iff.1 hc; rfl))
end Go.Proofs.YthjnlpfibakacaaGreatDoorPe
