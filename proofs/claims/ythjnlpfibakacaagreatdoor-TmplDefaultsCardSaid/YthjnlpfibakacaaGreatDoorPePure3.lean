/- A part of the proof of this folder's statement; it has no condition of its own. -/
import Derived.Test.YthjnlpfibakacaaGreatDoorPePure2
import Derived.Lib.UnsafeStr
import Derived.Laws.Externs
set_option linter.unusedVariables false
set_option linter.unusedSimpArgs false
namespace Go.Proofs.YthjnlpfibakacaaGreatDoorPe
open Go Go.RowKit
theorem noEsc_find {fn : Func} (h : fn.name = "internal/abi.NoEscape") : Extern.find fn = some Extern.AbiNoEscape.same := by
 have a1 : Extern.allGenericRows.lookup "internal/abi.NoEscape" = none := by kernel_rfl
 have a2 : Extern.allTypedRows.lookup "internal/abi.NoEscape" = none := by kernel_rfl
 have a3 : Extern.allRows.lookup "internal/abi.NoEscape" = some Extern.AbiNoEscape.same := by kernel_rfl
 simp[Extern.find,h,a1,a2,a3]
theorem noEsc_next {fn : Func} (h : fn.name = "internal/abi.NoEscape") (ho : noEscOk fn = true) : Extern.findNext fn = none := by
 have a1 : Extern.allNextRows.lookup "internal/abi.NoEscape" = none := by kernel_rfl
 have a2 : Extern.allNextRows.lookup "" = none := by kernel_rfl
 have ho' : fn.origin = "" := by simpa [noEscOk] using ho
 simp[Extern.findNext,h,ho',a1,a2]
theorem run_value {P:Program} {s:Sem Value} {v:Value} (h:Yv P s v) : ∀ w',(do pure (Next.value (<- s)):Sem Next).run P w' = .ok (.value v) w':=fun w'=>by
 rw[Sem.run_bind,h w']
 rfl
theorem Yv.pure {P:Program} (v:Value):Yv P (Pure.pure v) v:=fun _=>rfl
theorem conv_ok {P:Program} {s d:TypeId} {k k':IntKind} (hs:P.underlying s=some (.int k)) (hd:P.underlying d=some (.int k')) (j:IntKind) (n:Int):Yv P (convert s d (.int j n)) (.int k' (k'.wrap n)):=fun w'=>by
 simp[convert,run_und hs,run_und hd,Conv.intToInt]
theorem mm_ok {G:Gh} {w:World} {m:Bool} {x y q:PV} {v1 v2:Value} (hr:Rep G w x v1) (hs:Rep G w y v2) (hq:mmV m x y=some q) :
  ∃ v,((m=true->Builtin.max2 v1 v2=pure v)/\(m=false->Builtin.min2 v1 v2=pure v))/\Rep G w q v:=by
 unfold mmV at hq
 split at hq
 ·split at hq
  ·rename_i k a k' b e
   cases hq
   rw[hr.int_inv,hs.int_inv]
   exact⟨_,⟨fun e=>by subst e; rfl,fun e=>by subst e; rfl⟩,.d (.int _ _)⟩
  ·cases hq
 ·cases hq
theorem pure_ok {P:Program} {G:Gh} {w:World} {fr:Fr} {a:Act} (hf:FrRel G w fr a) {sh:FuncId->Nat} {o:Oper} {i:IOp} (hc:cOp P sh o.op=some i) (hp:isPure i=true) {cl:CallF} {st st':St} {z:PV}
  (h:evOp cl i fr st=some (z,st')):st'=st /\ ∃ v,(∀ w',(execOp a.eval o).run P w' = .ok (.value v) w')/\Rep G w z v:=by
 cases ho:o.op with
 |move x =>
  rw[ho] at hc
  simp only[cOp] at hc
  cases hx:cOpd x with
  |none=>rw[hx] at hc; cases hc
  |some y =>
   rw[hx] at hc; cases hc; cases h
   exact⟨rfl,_,fun w'=>by simp only[execOp,ho]; rfl,cOpd_rep hf hx⟩
 |assign x =>
  rw[ho] at hc
  simp only[cOp] at hc
  cases hx:cOpd x with
  |none=>rw[hx] at hc; cases hc
  |some y =>
   rw[hx] at hc; cases hc; cases h
   exact⟨rfl,_,fun w'=>by simp only[execOp,ho]; rfl,cOpd_rep hf hx⟩
 |nilCheck x =>
  rw[ho] at hc
  simp only[cOp] at hc
  cases hx:cOpd x with
  |none=>rw[hx] at hc; cases hc
  |some y =>
   rw[hx] at hc; cases hc
   have hr:=cOpd_rep hf hx
   simp only[evOp] at h
   split at h
   ·rename_i b p e
    cases h
    rw[e] at hr
    obtain⟨blk,hb,hv⟩:=hr.ptr_inv
    exact⟨rfl,_,fun w'=>by simp only[execOp,ho,hv]; rfl,.ptr _ hb⟩
   ·rename_i cs e
    cases h
    rw[e] at hr
    have hr':=hr
    obtain⟨b,p,vs,hv,_⟩:=hr.ref_inv
    rw[hv] at hr'
    exact⟨rfl,_,fun w'=>by simp only[execOp,ho,hv]; rfl,hr'⟩
   ·rename_i f e
    cases h
    rw[e] at hr
    obtain⟨vs,hv,hl,_⟩:=hr.func_inv
    have:vs = #[]:=Array.eq_empty_of_size_eq_zero (by simpa using hl)
    subst this
    exact⟨rfl,_,fun w'=>by simp only[execOp,ho,hv]; rfl,.d (.func f)⟩
   ·cases h
 |pick c x y =>
  rw[ho] at hc
  simp only[cOp] at hc
  split at hc
  ·rename_i c' x' y' h1 h2 h3
   cases hc
   simp only[evOp] at h
   split at h
   ·rename_i b e
    cases h
    have hr:=cOpd_rep hf h1
    rw[e] at hr
    have hv:=hr.bool_inv
    refine⟨rfl,(if b then a.eval x else a.eval y),fun w'=>by simp[execOp,ho,hv,asBool],?_⟩
    cases b
    ·exact cOpd_rep hf h3
    ·exact cOpd_rep hf h2
   ·cases h
  ·cases hc
 |build t ps =>
  rw[ho] at hc
  obtain⟨e,r,hr,hz⟩:=build_ok hf hc h
  exact⟨e,r,fun w'=>by simp only[execOp,ho]; exact run_value hr w',hz⟩
 |binOp b t x y yt =>
  rw[ho] at hc
  simp only[cOp] at hc
  split at hc
  ·rename_i x' y' h1 h2
   have hx:=cOpd_rep hf h1
   have hy:=cOpd_rep hf h2
   have hbin:i = .bin b x' y'->st'=st /\ ∃ v,(∀ w',(execOp a.eval o).run P w' = .ok (.value v) w')/\Rep G w z v:=by
    rintro rfl
    simp only[evOp] at h
    cases hb:evBin b (x'.ev fr) (y'.ev fr) with
    |none=>rw[hb] at h; cases h
    |some q =>
     rw[hb] at h; cases h
     obtain⟨r,hr,hz⟩:=bin_ok (P:=P) (t:=t) (ox:=x) (oy:=y) hx hy hb
     exact⟨rfl,r,fun w'=>by simp only[execOp,ho]; exact run_value hr w',hz⟩
   split at hc
   ·cases hc; exact hbin rfl
   ·cases hc; exact hbin rfl
   ·cases hk:eqKind P t with
    |none=>rw[hk] at hc; cases hc
    |some k =>
     rw[hk] at hc
     simp only at hc
     split at hc
     ·rename_i hcond
      split at hc
      ·cases hc
       simp only[evOp] at h
       cases hb:evEq k (x'.ev fr) (y'.ev fr) with
       |none=>rw[hb] at h; cases h
       |some q =>
        rw[hb] at h; cases h
        have:=eqs_ok false hx hy hk hcond hb
        exact⟨rfl,_,fun w'=>by simp only[execOp,ho]; exact run_value this w',.d (.bool _)⟩
      ·cases hc
       simp only[evOp] at h
       cases hb:evEq k (x'.ev fr) (y'.ev fr) with
       |none=>rw[hb] at h; cases h
       |some q =>
        rw[hb] at h; cases h
        have:=eqs_ok true hx hy hk hcond hb
        exact⟨rfl,_,fun w'=>by simp only[execOp,ho]; exact run_value this w',.d (.bool _)⟩
      ·cases hc
     ·cases hc
   ·cases hc
  ·cases hc
 |unOp u t x =>
  rw[ho] at hc
  simp only[cOp] at hc
  split at hc
  ·rename_i x' hx
   cases hc
   simp only[evOp] at h
   split at h
   ·rename_i b e
    cases h
    have hr:=cOpd_rep hf hx
    rw[e] at hr
    have hv:=hr.bool_inv
    exact⟨rfl,_,fun w'=>by simp only[execOp,ho,hv]; rfl,.d (.bool _)⟩
   ·cases h
  ·rename_i x' hx
   split at hc
   ·rename_i k hk
    cases hc
    have hr:=cOpd_rep hf hx
    simp only[evOp] at h
    rw[show (Opd.c (PV.int k 0)).ev fr=PV.int k 0 from rfl] at h
    cases hb:evBin .sub (.int k 0) (x'.ev fr) with
    |none=>rw[hb] at h; cases h
    |some q =>
     rw[hb] at h; cases h
     unfold evBin at hb
     split at hb
     ·rename_i k1 a1 k2 b1 e1 e2
      cases e1
      rw[e2] at hr
      have hv:=hr.int_inv
      split at hb
      ·rename_i hkk
       subst hkk
       cases hb
       exact⟨rfl,_,fun w'=>by simp only[execOp,ho,hv]; rfl,.d (.int _ _)⟩
      ·unfold evShift at hb
       split at hb <;> cases hb
     ·rename_i e1 _; cases e1
     ·cases hb
   ·cases hc
  ·cases hc
 |convert s d x =>
  rw[ho] at hc
  simp only[cOp] at hc
  split at hc
  ·rename_i x' k k' hx hs hd
   cases hc
   simp only[evOp] at h
   split at h
   ·rename_i j n e
    cases h
    have hr:=cOpd_rep hf hx
    rw[e] at hr
    have hv:=hr.int_inv
    exact⟨rfl,_,fun w'=>by simp only[execOp,ho,hv]; exact run_value (conv_ok hs hd j n) w',.d (.int _ _)⟩
   ·cases h
  ·rename_i x' hx hs hd
   cases hc
   simp only[evOp] at h
   split at h
   ·rename_i s e
    cases h
    have hr:=cOpd_rep hf hx
    rw[e] at hr
    have hv:=hr.str_inv
    exact⟨rfl,_,fun w'=>by simp only[execOp,ho,hv]; exact run_value (fun w'=>by simp[convert,run_und hs,run_und hd]) w',.d (.str _)⟩
   ·cases h
  ·split at hc
   ·split at hc
    ·cases hc; cases hp
    ·cases hc
   ·cases hc
  ·split at hc
   ·split at hc
    ·cases hc; cases hp
    ·cases hc
   ·cases hc
  ·split at hc
   ·cases hc; cases hp
   ·cases hc
  ·split at hc
   ·split at hc
    ·cases hc; cases hp
    ·cases hc
   ·cases hc
  ·split at hc
   ·cases hc; cases hp
   ·cases hc
  ·cases hc
 |makeInterface t x =>
  rw[ho] at hc
  simp only[cOp] at hc
  split at hc
  ·rename_i x' d hx hu
   split at hc
   ·cases hc
   ·rename_i hd
    cases hc
    cases h
    refine⟨rfl,.iface t (a.eval x),fun w' => ?_,.iface (cOpd_rep hf hx)⟩
    simp only[execOp,ho]
    refine run_value (fun w' => ?_) w'
    unfold Instr.makeInterface
    rw[Sem.run_bind,run_und hu]
    cases d <;> first|rfl|exact absurd rfl (hd _)
  ·cases hc
 |slice t x lo hi mx =>
  rw[ho] at hc
  obtain⟨e,r,hr,hz⟩:=lsub_ok hf hc h
  exact⟨e,r,fun w'=>by simp only[execOp,ho]; exact run_value hr w',hz⟩
 |fieldAddr t x j =>
  rw[ho] at hc
  simp only[cOp] at hc
  split at hc
  ·rename_i f y hff hx
   split at hc
   ·rename_i n hn
    cases hc
    obtain⟨e,r,hr,hz⟩:=off_ok hff hn (cOpd_rep hf hx) rfl h
    exact⟨e,r,fun w'=>by simp only[execOp,ho]; exact run_value hr w',hz⟩
   ·cases hc
  ·cases hc
 |field t x j =>
  rw[ho] at hc
  simp only[cOp] at hc
  split at hc
  ·rename_i f y hff hx
   split at hc
   ·rename_i n hn
    cases hc
    simp only[evOp] at h
    split at h
    ·rename_i cs e
     cases hl:loadC n (cs.drop f.offset) with
     |none=>rw[hl] at h; cases h
     |some q =>
      rw[hl] at h; cases h
      have hr:=cOpd_rep hf hx
      rw[e] at hr
      obtain⟨vs,hv,hs,hrs⟩:=hr.agg_inv
      obtain⟨r,h1,h2⟩:=part_ok (P:=P) hn hs hrs hl
      obtain⟨fs,hu,hj⟩:=fieldT_some hff
      refine⟨rfl,r,fun w' => ?_,h2⟩
      simp only[execOp,ho]
      refine run_value (fun w' => ?_) w'
      rw[hv]
      unfold Instr.field
      rw[Sem.run_bind,run_und hu]
      simp only[Result.andThen_ok,hj,asAgg]
      rw[Sem.run_bind]
      exact h1 w'
    ·cases h
   ·cases hc
  ·cases hc
 |indexAddr t x ix =>
  rw[ho] at hc
  simp only[cOp] at hc
  split at hc
  ·rename_i e x' i' he hx hi
   cases hn:sizeT P e with
   |none=>rw[hn] at hc; cases hc
   |some n =>
    rw[hn] at hc; cases hc
    have hr:=cOpd_rep hf hx
    have hri:=cOpd_rep hf hi
    simp only[evOp] at h
    split at h
    ·rename_i l k i e1 e2
     rw[e1] at hr; rw[e2] at hri
     have hv:=hri.int_inv
     cases hq:evIdx n l i with
     |none=>rw[hq] at h; cases h
     |some q =>
      rw[hq] at h; cases h
      obtain⟨ad,cap,_,hd,_⟩:=hr.slice (.inl rfl)
      obtain⟨r,h1,h2⟩:=idx_ok he hn hd hq k
      exact⟨rfl,r,fun w'=>by simp only[execOp,ho,hv]; exact run_value h1 w',h2⟩
    ·rename_i l k i e1 e2
     rw[e1] at hr; rw[e2] at hri
     have hv:=hri.int_inv
     cases hq:evIdx n l i with
     |none=>rw[hq] at h; cases h
     |some q =>
      rw[hq] at h; cases h
      obtain⟨ad,cap,_,hd,_⟩:=hr.slice (.inr (.inl rfl))
      obtain⟨r,h1,h2⟩:=idx_ok he hn hd hq k
      exact⟨rfl,r,fun w'=>by simp only[execOp,ho,hv]; exact run_value h1 w',h2⟩
    ·rename_i rr l k i e1 e2
     rw[e1] at hr; rw[e2] at hri
     have hv:=hri.int_inv
     cases hq:evIdx n l i with
     |none=>rw[hq] at h; cases h
     |some q =>
      rw[hq] at h; cases h
      obtain⟨ad,cap,_,hd,_⟩:=hr.slice (.inr (.inr ⟨rr,rfl⟩))
      obtain⟨r,h1,h2⟩:=idx_ok he hn hd hq k
      exact⟨rfl,r,fun w'=>by simp only[execOp,ho,hv]; exact run_value h1 w',h2⟩
    ·rename_i mm bb oo len k i e1 e2
     rw[e1] at hr; rw[e2] at hri
     have hv:=hri.int_inv
     cases hq:evHidx n mm bb oo len i with
     |none=>rw[hq] at h; cases h
     |some q =>
      rw[hq] at h; cases h
      obtain⟨r,h1,h2⟩:=hidx_ok he hn hr hq k
      exact⟨rfl,r,fun w'=>by simp only[execOp,ho,hv]; exact run_value h1 w',h2⟩
    ·cases h
  ·cases hc
 |index t x ix =>
  rw[ho] at hc
  simp only[cOp] at hc
  split at hc
  ·rename_i hst
   have hu:P.underlying t=some .string:=by
    unfold isStrT at hst
    split at hst
    ·rename_i h; exact h
    ·cases hst
   split at hc
   ·rename_i x' i' hx hi
    cases hc
    have hr:=cOpd_rep hf hx
    have hri:=cOpd_rep hf hi
    simp only[evOp] at h
    split at h
    ·rename_i s k i e1 e2
     rw[e1] at hr; rw[e2] at hri
     have hv:=hr.str_inv
     have hw:=hri.int_inv
     split at h
     ·rename_i h0
      split at h
      ·rename_i b hb
       cases h
       obtain⟨hlt,hge⟩:=List.getElem?_eq_some_iff.1 hb
       refine⟨rfl,.int .u8 b.toNat,fun w' => ?_,.d (.int _ _)⟩
       simp only[execOp,ho,hv,hw]
       refine run_value (fun w' => ?_) w'
       have e3:(ByteArray.mk (Array.mk s))[i.toNat]? = some b:=by
        have h':i.toNat<(ByteArray.mk (Array.mk s)).size:=hlt
        rw[getElem?_pos (ByteArray.mk (Array.mk s)) i.toNat h']
        exact congrArg some hge
       simp[Instr.index,asIntOf,run_und hu,h0,e3]
      ·cases h
     ·cases h
    ·cases h
   ·cases hc
  ·cases hc
 |extract x ix =>
  rw[ho] at hc
  simp only[cOp] at hc
  cases hx:cOpd x with
  |none=>rw[hx] at hc; cases hc
  |some y =>
   rw[hx] at hc; cases hc
   simp only[evOp] at h
   split at h
   ·rename_i vs e
    split at h
    ·rename_i v hv
     cases h
     have hr:=cOpd_rep hf hx
     rw[e] at hr
     obtain⟨us,hu,hs,hrs⟩:=hr.tuple_inv
     obtain⟨hlt,hge⟩:=List.getElem?_eq_some_iff.1 hv
     have hus:us[ix]? = some (us.getD ix Go.undef):=by rw[Array.getD_eq_getD_getElem?,Array.getElem?_eq_getElem (by omega)]; rfl
     refine⟨rfl,us.getD ix Go.undef,fun w' => ?_,by have:=hrs ix hlt; rw[hge] at this; exact this⟩
     simp only[execOp,ho,hu]
     refine run_value (fun w' => ?_) w'
     unfold Instr.extract
     simp only
     rw[hus]
     rfl
    ·cases h
   ·cases h
 |call c =>
  rw[ho] at hc
  simp only[cOp,cCall] at hc
  split at hc
  ·rename_i b hb
   split at hc
   ·split at hc
    ·rename_i x t ea et
     have eargs:c.args = #[x]:=by
      have:=congrArg List.toArray ea
      simpa using this
     have etys:c.argTypes = #[t]:=by
      have:=congrArg List.toArray et
      simpa using this
     have key : ∀ n:Nat,(∀ w',(Builtin.len_ #[t] o.type #[a.eval x]).run P w' = .ok (goInt n) w') -> ∃ v,(∀ w',(execOp a.eval o).run P w' = .ok (.value v) w')/\Rep G w (.int .i64 (n:Int)) v:=fun n hn =>
      ⟨goInt n,fun w'=>by simp[execOp,ho,resolve,hb,invoke,builtin,eargs,etys,hn],.d (.int _ _)⟩
     split at hc
     ·rename_i y hu hy
      cases hc
      have hr:=cOpd_rep hf hy
      simp only[evOp] at h
      split at h
      ·rename_i s e
       cases h
       rw[e] at hr
       have hv:=hr.str_inv
       exact⟨rfl,key s.length fun w'=>by rw[hv]; simp[Builtin.len_,run_und hu]; rfl⟩
      ·cases h
     ·rename_i el y hu hy
      cases hc
      have hr:=(cOpd_rep hf hy).nm
      have slk : ∀ (p:PV) (l:List PV),(y.ev fr).nm=p->(p = .lst l\/p = .full l \/ ∃ r,p = .own r l) -> ∀ w',(Builtin.len_ #[t] o.type #[a.eval x]).run P w' = .ok (goInt l.length) w':=by
       intro p l e hp w'
       rw[e] at hr
       obtain⟨ad,cap,hv,_⟩:=hr.slice hp
       rw[hv]
       simp[Builtin.len_,run_und hu]
      simp only[evOp] at h
      split at h
      ·rename_i l e; cases h; exact⟨rfl,key l.length (slk _ l e (.inl rfl))⟩
      ·rename_i l e; cases h; exact⟨rfl,key l.length (slk _ l e (.inr (.inl rfl)))⟩
      ·rename_i r l e; cases h; exact⟨rfl,key l.length (slk _ l e (.inr (.inr ⟨r,rfl⟩)))⟩
      ·rename_i mm bb oo len e
       cases h
       rw[e] at hr
       obtain⟨blk,cap,_,_,_,hv⟩:=hr.hs_inv
       exact⟨rfl,key len fun w'=>by rw[hv]; simp[Builtin.len_,run_und hu]⟩
      ·cases h
     ·cases hc
    ·cases hc
   ·split at hc
    ·split at hc
     ·split at hc
      ·split at hc
       ·split at hc
        ·split at hc
         ·split at hc
          ·cases hc; cases hp
          ·cases hc; cases hp
         ·split at hc
          ·cases hc; cases hp
          ·cases hc
         ·cases hc
        ·cases hc
       ·cases hc
      ·cases hc
     ·cases hc
    ·cases hc
   ·split at hc
    ·rename_i x ea
     have eargs:c.args = #[x]:=by
      have:=congrArg List.toArray ea
      simpa using this
     cases hx:cOpd x with
     |none=>rw[hx] at hc; cases hc
     |some x' =>
      rw[hx] at hc; cases hc
      have hr:=cOpd_rep hf hx
      simp only[evOp] at h
      cases hs:sdataV (x'.ev fr) with
      |none=>rw[hs] at h; cases h
      |some q =>
       rw[hs] at h
       simp only[Option.map_some,Option.some.injEq,Prod.mk.injEq] at h
       obtain⟨h1,h2⟩:=h
       subst h1
       subst h2
       have key : ∀ v,(∀ w',(Builtin.unsafeSliceData_ c.argTypes o.type #[a.eval x]).run P w' = .ok v w')->Rep G w q v->st=st /\ ∃ v,(∀ w',(execOp a.eval o).run P w' = .ok (.value v) w')/\Rep G w q v:=fun v hn hq =>
        ⟨rfl,v,fun w'=>by simp[execOp,ho,resolve,hb,invoke,builtin,eargs,hn],hq⟩
       unfold sdataV at hs
       split at hs
       ·rename_i e
        cases hs
        rw[e] at hr
        have hv:=hr.nils_inv
        exact key (.pointer none) (fun w'=>by rw[hv]; rfl) (.d .nilp)
       ·rename_i r p l e
        cases hs
        rw[e] at hr
        obtain⟨ad,n,cp,hv⟩:=hr.slice_some (.inr (.inr ⟨r,rfl⟩))
        rw[hv] at hr
        cases hr with
        |d hr=>cases hr with
         |sl hx=>rcases hx with hx|⟨hx,_⟩ <;> cases hx
        |own hd hl hn =>
         obtain⟨_,_,_,_,_,_,e1,hcap,_⟩:=hd.lst_inv
         cases e1
         exact key (.pointer (some ad)) (fun w'=>by rw[hv]; exact Go.Lib.run_unsafeSliceData_row w' _ _ _ _ _ (by simp at hcap; omega)) (.rptr (.own hd hl hn))
       ·cases hs
    ·cases hc
   ·split at hc
    ·split at hc
     ·split at hc
      ·cases hc; cases hp
      ·cases hc
     ·cases hc
    ·cases hc
   ·split at hc
    ·rename_i x y ea
     have eargs:c.args = #[x,y]:=by
      have:=congrArg List.toArray ea
      simpa using this
     split at hc
     ·rename_i x' y' hx hy
      cases hc
      have hr:=cOpd_rep hf hx
      have hs:=cOpd_rep hf hy
      simp only[evOp] at h
      obtain⟨q,hq,e⟩:=Option.map_eq_some_iff.1 h
      cases e
      obtain⟨v,hv,hR⟩:=mm_ok hr hs hq
      exact⟨rfl,v,fun w'=>by simp[execOp,ho,resolve,hb,invoke,builtin,eargs,Builtin.max_,hv.1 rfl],hR⟩
     ·cases hc
    ·cases hc
   ·split at hc
    ·rename_i x y ea
     have eargs:c.args = #[x,y]:=by
      have:=congrArg List.toArray ea
      simpa using this
     split at hc
     ·rename_i x' y' hx hy
      cases hc
      have hr:=cOpd_rep hf hx
      have hs:=cOpd_rep hf hy
      simp only[evOp] at h
      obtain⟨q,hq,e⟩:=Option.map_eq_some_iff.1 h
      cases e
      obtain⟨v,hv,hR⟩:=mm_ok hr hs hq
      exact⟨rfl,v,fun w'=>by simp[execOp,ho,resolve,hb,invoke,builtin,eargs,Builtin.min_,hv.2 rfl],hR⟩
     ·cases hc
    ·cases hc
   ·cases hc
  ·rename_i fv hcal
   split at hc
   ·rename_i g
    split at hc
    ·rename_i as fn has hfn
     split at hc
     ·split at hc
      ·cases hc; cases hp
      ·cases hc; cases hp
      ·cases hc; cases hp
      ·split at hc <;> (cases hc; cases hp)
     ·split at hc
      ·rename_i hne
       simp only[Bool.and_eq_true,beq_iff_eq] at hne
       split at hc
       ·rename_i x'
        cases hc
        simp only[evOp] at h
        cases h
        obtain⟨e1,e2⟩:=mapO_some has
        cases hargs:c.args.toList with
        |nil=>rw[hargs] at e1; cases e1
        |cons x xs =>
         rw[hargs] at e1
         have hxs:xs=[]:=List.eq_nil_of_length_eq_zero (by simpa using e1.symm)
         subst hxs
         have eargs:c.args = #[x]:=by
          have:=congrArg List.toArray hargs
          simpa using this
         have hx:cOpd x=some x':=by
          have:=e2 0 (by rw[hargs]; simp) (by simp)
          simpa [hargs] using this
         refine⟨rfl,a.eval x,fun w' => ?_,cOpd_rep hf hx⟩
         have hE:=run_callFunc_extern (P:=P) (f:=g) (fn:=fn) (e:=Extern.AbiNoEscape.same) hfn (by rw[hne.1]; decide) hne.2.1 (noEsc_next hne.1 hne.2.2) (noEsc_find hne.1) #[a.eval x] w'
         rw[show (Extern.AbiNoEscape.same #[a.eval x]).run P w' = .ok (a.eval x) w' from rfl] at hE
         simp[execOp,ho,resolve,hcal,eargs,Act.eval,Deferred.ofValue,invoke] at hE ⊢
         exact hE
       ·cases hc
      ·cases hc
    ·cases hc
   ·cases hm:mapO cOpd c.args.toList with
    |none=>rw[hm] at hc; cases hc
    |some as=>rw[hm] at hc; cases hc; cases hp
   ·cases hc
  ·cases hc
 |box t x =>
  rw[ho] at hc
  simp only[cOp] at hc
  split at hc
  ·cases hc; cases hp
  ·cases hc
 |makeFunc fn fst cap =>
  rw[ho] at hc
  simp only[cOp] at hc
  split at hc
  ·rename_i f efst
   have hfst:fst = #[]:=by
    have:=congrArg List.toArray efst
    simpa using this
   subst hfst
   obtain⟨ys,hys,rfl⟩:=Option.map_eq_some_iff.1 hc
   simp only[evOp] at h
   cases h
   obtain⟨e,k⟩:=mapO_some hys
   refine⟨rfl,.func (.func f) #[] (cap.map a.eval),fun w'=>by simp[execOp,ho,Instr.makeFunc],.func f (by simp[e]) fun j hj => ?_⟩
   simp only[List.length_map] at hj
   have hj':j<cap.size:=by simpa [e] using hj
   rw[Array.getD_eq_getD_getElem?,Array.getElem?_eq_getElem (by simpa using hj')]
   simp only[Array.getElem_map,Option.getD_some,List.getElem_map]
   have:=k j (by simpa using hj') hj
   simp only[Array.getElem_toList] at this
   exact cOpd_rep hf this
  ·cases hc
 |alloc t =>
  rw[ho] at hc
  simp only[cOp] at hc
  cases hz:zeroT P t with
  |none=>rw[hz] at hc; cases hc
  |some zs=>rw[hz] at hc; cases hc; cases hp
 |buildSlice t n ps =>
  rw[ho] at hc
  simp only[cOp] at hc
  split at hc
  ·split at hc
   ·split at hc
    ·split at hc
     ·cases hc; cases hp
     ·cases hc; cases hp
    ·cases hc
   ·cases hc
  ·cases hc
 |load t x =>
  rw[ho] at hc
  simp only[cOp] at hc
  split at hc
  ·cases hc; cases hp
  ·cases hc
 |store t x y =>
  rw[ho] at hc
  simp only[cOp] at hc
  split at hc
  ·cases hc; cases hp
  ·cases hc
 |_=>rw[ho] at hc; cases hc
end Go.Proofs.YthjnlpfibakacaaGreatDoorPe
