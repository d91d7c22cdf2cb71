/- A part of the proof of this folder's statement; it has no condition of its own. -/
import Derived.Test.YthjnlpfibakacaaGreatDoorPeCore
set_option linter.unusedVariables false
set_option linter.unusedSimpArgs false
namespace Go.Proofs.YthjnlpfibakacaaGreatDoorPe
open Go
def LeO {α : Type} (a b:Option α):Prop := ∀ r,a=some r->b=some r
theorem LeO.rfl {α : Type} {a:Option α}:LeO a a:=fun _ h=>h
def LeC (c c':CallF):Prop := ∀ f as st,LeO (c f as st) (c' f as st)
theorem evOp_mono {c c':CallF} (h:LeC c c') (op:IOp) (fr:Fr) (st:St):LeO (evOp c op fr st) (evOp c' op fr st):=by
 intro r hr
 cases op with
 |calli own f args =>
  simp only[evOp] at hr ⊢
  cases h1:mapO (argF own) (args.map (·.ev fr)) with
  |none=>rw[h1] at hr; cases hr
  |some as =>
   rw[h1] at hr
   simp only at hr ⊢
   cases h2:c f as ⟨[],[],[],[]⟩ with
   |none=>rw[h2] at hr; cases hr
   |some q=>rw[h2] at hr; rw[h f as _ q h2]; exact hr
 |calls raw f args =>
  simp only[evOp] at hr ⊢
  split at hr
  ·exact h _ _ _ r hr
  ·cases hr
 |callv x args =>
  simp only[evOp] at hr ⊢
  split at hr
  ·rename_i hx; exact h _ _ _ r hr
  ·cases hr
 |_=>exact hr
theorem evSOp_mono {c c':CallF} (h:LeC c c') (o:SOp) (fr:Fr) (st:St):LeO (evSOp c o fr st) (evSOp c' o fr st):=by
 intro r hr
 unfold evSOp at hr ⊢
 split at hr
 ·cases h1:evOp c o.op fr st with
  |none=>rw[h1] at hr; cases hr
  |some q=>rw[h1] at hr; rw[evOp_mono h _ _ _ _ h1]; exact hr
 ·exact hr
 ·cases hr
theorem evOps_mono {c c':CallF} (h:LeC c c') : ∀ (l:List SOp) (fr:Fr) (st:St),LeO (evOps c l fr st) (evOps c' l fr st)
 |[],_,_=>LeO.rfl
 |o::l,fr,st=>by
  intro r hr
  unfold evOps at hr ⊢
  cases h1:evSOp c o fr st with
  |none=>rw[h1] at hr; cases hr
  |some q=>rw[h1] at hr; rw[evSOp_mono h _ _ _ _ h1]; exact evOps_mono h l _ _ r hr
theorem evSch_mono {c c':CallF} (h:LeC c c') (st0:St) : ∀ (l:Tree) (s:Sch),LeO (evSch c st0 l s) (evSch c' st0 l s)
 |.nil,_=>LeO.rfl
 |.alt t u,s=>by
  intro r hr
  unfold evSch at hr ⊢
  cases h1:evSch c st0 t s with
  |none=>rw[h1] at hr; cases hr
  |some a =>
   cases h2:evSch c st0 u s with
   |none=>rw[h1,h2] at hr; cases hr
   |some b=>rw[h1,h2] at hr; rw[evSch_mono h st0 t s a h1,evSch_mono h st0 u s b h2]; exact hr
 |.cons o l,s=>by
  intro r hr
  unfold evSch at hr ⊢
  cases hw:wantedB s.fr o.guard with
  |none=>rw[hw] at hr; cases hr
  |some b =>
   rw[hw] at hr
   cases b with
   |false=>exact evSch_mono h st0 l _ r hr
   |true =>
    simp only at hr ⊢
    cases h1:evOp c o.op s.fr (if o.flag=1 then st0 else s.st) with
    |none=>rw[h1] at hr; cases hr
    |some q=>rw[h1] at hr; rw[evOp_mono h _ _ _ _ h1]; exact evSch_mono h st0 l _ r hr
theorem evDraw_mono {c c':CallF} (h:LeC c c') (l:Tree) (fr:Fr) (st:St):LeO (evDraw c l fr st) (evDraw c' l fr st):=by
 intro r hr
 unfold evDraw at hr ⊢
 cases h1:evSch c st l ⟨fr,st,[],[]⟩ with
 |none=>rw[h1] at hr; cases hr
 |some q=>rw[h1] at hr; rw[evSch_mono h _ _ _ _ h1]; exact hr
theorem iter_mono {s s':Fr->St->CRes} (h : ∀ fr st,LeO (s fr st) (s' fr st)) : ∀ (n m:Nat),n<=m -> ∀ fr st,LeO (iter s n fr st) (iter s' m fr st)
 |0,_,_,_,_=>fun _ hr=>by cases hr
 |n+1,0,hm,_,_=>absurd hm (by omega)
 |n+1,m+1,hm,fr,st=>by
  intro r hr
  unfold iter at hr ⊢
  cases h1:s fr st with
  |none=>rw[h1] at hr; cases hr
  |some q =>
   rw[h1] at hr; rw[h _ _ _ h1]
   obtain⟨x,fr',st'⟩:=q
   cases x with
   |normal=>exact iter_mono h n m (by omega) _ _ r hr
   |exit i=>exact hr
   |ret=>exact hr
theorem both_some {m:List Bool} {x y:CRes} {r:IX × Fr × St} (h:both m x y=some r) : ∃ f g s,x=some (.normal,f,s)/\y=some (.normal,g,s)/\r=(.normal,mask m f,s)/\mask m f=mask m g:=by
 unfold both at h
 split at h
 ·split at h
  ·rename_i hs
   cases h
   simp only[Bool.and_eq_true] at hs
   obtain rfl:=sameSt_eq hs.2
   exact⟨_,_,_,rfl,rfl,rfl,PV.eq_of_sames _ _ hs.1⟩
  ·cases h
 ·cases h
theorem sameSt_self (s:St):sameSt s s=true:=by simp[sameSt,samesL_self]
theorem both_eq {m:List Bool} {f g:Fr} {s:St} (h:mask m f=mask m g):both m (some (.normal,f,s)) (some (.normal,g,s))=some (.normal,mask m f,s):=by
 unfold both
 simp only
 rw[h,PV.sames_self,sameSt_self]
 rfl
theorem both_le {m:List Bool} {x y x' y':CRes} (h:LeO x x') (k:LeO y y'):LeO (both m x y) (both m x' y'):=by
 intro r hr
 obtain⟨f,g,s,rfl,rfl,rfl,e⟩:=both_some hr
 rw[h _ rfl,k _ rfl]
 exact both_eq e
theorem evC_mono {c c':CallF} (h:LeC c c') {n m:Nat} (hm:n<=m) : ∀ (a:IC) (fr:Fr) (st:St),LeO (evC c n a fr st) (evC c' m a fr st)
 |.ops l,fr,st=>by
  intro r hr
  unfold evC at hr ⊢
  cases h1:evOps c l fr st with
  |none=>rw[h1] at hr; cases hr
  |some q=>rw[h1] at hr; rw[evOps_mono h _ _ _ _ h1]; exact hr
 |.draw l,fr,st=>by
  intro r hr
  unfold evC at hr ⊢
  cases h1:evDraw c l fr st with
  |none=>rw[h1] at hr; cases hr
  |some q=>rw[h1] at hr; rw[evDraw_mono h _ _ _ _ h1]; exact hr
 |.seq a b,fr,st=>by
  intro r hr
  unfold evC at hr ⊢
  cases h1:evC c n a fr st with
  |none=>rw[h1] at hr; cases hr
  |some q =>
   rw[h1] at hr; rw[evC_mono h hm a _ _ _ h1]
   obtain⟨x,fr',st'⟩:=q
   cases x with
   |normal=>exact evC_mono h hm b _ _ r hr
   |exit i=>exact hr
   |ret=>exact hr
 |.cond x a b,fr,st=>by
  intro r hr
  unfold evC at hr ⊢
  split at hr
  ·rename_i cc hx
   cases cc with
   |true=>exact evC_mono h hm a _ _ r hr
   |false=>exact evC_mono h hm b _ _ r hr
  ·cases hr
 |.choose k d e T a b,fr,st=>by
  intro r hr
  unfold evC at hr ⊢
  split at hr
  ·rename_i hc
   rw[if_pos hc]
   exact both_le (evC_mono h hm a _ _) (evC_mono h hm b _ _) r hr
  ·cases hr
 |.block id a,fr,st=>by
  intro r hr
  unfold evC at hr ⊢
  cases h1:evC c n a fr st with
  |none=>rw[h1] at hr; cases hr
  |some q=>rw[h1] at hr; rw[evC_mono h hm a _ _ _ h1]; exact hr
 |.loop k a,fr,st=>by
  intro r hr
  unfold evC at hr ⊢
  refine iter_mono (fun fr st => ?_) n m hm _ _ r hr
  intro q hq
  cases h1:evC c n a fr st with
  |none=>rw[h1] at hq; cases hq
  |some p=>rw[h1] at hq; rw[evC_mono h hm a _ _ _ h1]; exact hq
 |.exit id,fr,st=>LeO.rfl
 |.ret,fr,st=>LeO.rfl
 |.skip,fr,st=>LeO.rfl
theorem evF_mono (fns:FuncId->Option IFunc) (given:FuncId->List PV->Option PV) : ∀ k,LeC (evF fns given k) (evF fns given (k+1))
 |0=>fun _ _ _ _ hr=>by cases hr
 |k+1=>fun f as st r hr=>by
  unfold evF at hr ⊢
  cases h1:fns f with
  |none=>rw[h1] at hr; exact hr
  |some c =>
   rw[h1] at hr
   simp only at hr ⊢
   cases h2:evC (evF fns given k) k c.body (as++List.replicate (c.ntmps-as.length) .undef) st with
   |none=>rw[h2] at hr; cases hr
   |some q=>rw[h2] at hr; rw[evC_mono (evF_mono fns given k) (Nat.le_succ k) _ _ _ _ h2]; exact hr
theorem evF_le (fns:FuncId->Option IFunc) (given:FuncId->List PV->Option PV) {k m:Nat} (h:k<=m):LeC (evF fns given k) (evF fns given m):=by
 induction h with
 |refl=>exact fun _ _ _=>LeO.rfl
 |step h ih=>exact fun f as st r hr=>evF_mono fns given _ f as st r (ih f as st r hr)
open Classical in
noncomputable def lim {α : Type} (g:Nat->Option α):Option α := if h : ∃ k,(g k).isSome then g h.choose else none
theorem lim_some {α : Type} {g:Nat->Option α} (hm : ∀ k m,k<=m->LeO (g k) (g m)) {r : α}:lim g=some r ↔ ∃ k,g k=some r:=by
 constructor
 ·intro h
  unfold lim at h
  split at h
  ·exact⟨_,h⟩
  ·cases h
 ·rintro⟨k,hk⟩
  have hex : ∃ k,(g k).isSome:=⟨k,by rw[hk]; rfl⟩
  unfold lim
  rw[dif_pos hex]
  obtain⟨q,hq⟩:=Option.isSome_iff_exists.1 hex.choose_spec
  rw[hq]
  rcases Nat.le_total k hex.choose with h|h
  ·have:=hm _ _ h r hk; rw[hq] at this; exact this
  ·have:=hm _ _ h q hq; rw[hk] at this; exact this.symm
noncomputable def loopW (step:Fr->St->CRes) (fr:Fr) (st:St):CRes:=lim fun n=>iter step n fr st
theorem loopW_some {step:Fr->St->CRes} {fr:Fr} {st:St} {r:IX × Fr × St}:loopW step fr st=some r ↔ ∃ n,iter step n fr st=some r :=
 lim_some fun _ _ h=>iter_mono (fun _ _=>LeO.rfl) _ _ h _ _
theorem loopW_eq (step:Fr->St->CRes) (fr:Fr) (st:St):loopW step fr st=(match step fr st with
  |some (.normal,fr',st')=>loopW step fr' st'
  |some (.exit i,fr',st')=>some (.exit i,fr',st')
  |some (.ret,fr',st')=>some (.ret,fr',st')
  |none=>none):=by
 apply Option.ext
 intro r
 rw[loopW_some]
 constructor
 ·rintro⟨n,hn⟩
  cases n with
  |zero=>cases hn
  |succ n =>
   unfold iter at hn
   cases h1:step fr st with
   |none=>rw[h1] at hn; cases hn
   |some q =>
    rw[h1] at hn
    obtain⟨x,fr',st'⟩:=q
    cases x with
    |normal=>exact loopW_some.2 ⟨n,hn⟩
    |exit i=>exact hn
    |ret=>exact hn
 ·intro hr
  cases h1:step fr st with
  |none=>rw[h1] at hr; cases hr
  |some q =>
   rw[h1] at hr
   obtain⟨x,fr',st'⟩:=q
   cases x with
   |normal =>
    obtain⟨n,hn⟩:=loopW_some.1 hr
    exact⟨n+1,by unfold iter; rw[h1]; exact hn⟩
   |exit i=>exact⟨1,by unfold iter; rw[h1]; exact hr⟩
   |ret=>exact⟨1,by unfold iter; rw[h1]; exact hr⟩
noncomputable def evW (call:CallF):IC->Fr->St->CRes
 |.ops l,fr,st=>match evOps call l fr st with
  |some (fr',st')=>some (.normal,fr',st')
  |none=>none
 |.draw l,fr,st=>match evDraw call l fr st with
  |some (fr',st')=>some (.normal,fr',st')
  |none=>none
 |.seq a b,fr,st=>match evW call a fr st with
  |some (.normal,fr',st')=>evW call b fr' st'
  |some (.exit i,fr',st')=>some (.exit i,fr',st')
  |some (.ret,fr',st')=>some (.ret,fr',st')
  |none=>none
 |.cond x a b,fr,st=>match x.ev fr with
  |.bool c=>if c then evW call a fr st else evW call b fr st
  |_=>none
 |.choose m d e T a b,fr,st=>if d<fr.length/\e<fr.length then both m (evW call a (frPick d e true fr st) (St.pick T st)) (evW call b (frPick d e false fr st) (St.pick T st)) else none
 |.block id a,fr,st=>match evW call a fr st with
  |some (.exit i,fr',st')=>if i=id then some (.normal,fr',st') else some (.exit i,fr',st')
  |some (.normal,fr',st')=>some (.normal,fr',st')
  |some (.ret,fr',st')=>some (.ret,fr',st')
  |none=>none
 |.loop m a,fr,st=>loopW (fun fr st=>(evW call a fr st).map fun r=>(r.1,if r.1 = .normal then mask m r.2.1 else r.2.1,r.2.2)) (mask m fr) st
 |.exit id,fr,st=>some (.exit id,fr,st)
 |.ret,fr,st=>some (.ret,fr,st)
 |.skip,fr,st=>some (.normal,fr,st)
theorem evC_le_evW {c c':CallF} (h:LeC c c') (n:Nat) : ∀ (a:IC) (fr:Fr) (st:St),LeO (evC c n a fr st) (evW c' a fr st)
 |.ops l,fr,st=>by
  intro r hr
  unfold evC at hr
  unfold evW
  cases h1:evOps c l fr st with
  |none=>rw[h1] at hr; cases hr
  |some q=>rw[h1] at hr; rw[evOps_mono h _ _ _ _ h1]; exact hr
 |.draw l,fr,st=>by
  intro r hr
  unfold evC at hr
  unfold evW
  cases h1:evDraw c l fr st with
  |none=>rw[h1] at hr; cases hr
  |some q=>rw[h1] at hr; rw[evDraw_mono h _ _ _ _ h1]; exact hr
 |.seq a b,fr,st=>by
  intro r hr
  unfold evC at hr
  unfold evW
  cases h1:evC c n a fr st with
  |none=>rw[h1] at hr; cases hr
  |some q =>
   rw[h1] at hr; rw[evC_le_evW h n a _ _ _ h1]
   obtain⟨x,fr',st'⟩:=q
   cases x with
   |normal=>exact evC_le_evW h n b _ _ r hr
   |exit i=>exact hr
   |ret=>exact hr
 |.cond x a b,fr,st=>by
  intro r hr
  unfold evC at hr
  unfold evW
  split at hr
  ·rename_i cc hx
   cases cc with
   |true=>simp only[hx]; exact evC_le_evW h n a _ _ r hr
   |false=>simp only[hx]; exact evC_le_evW h n b _ _ r hr
  ·cases hr
 |.choose k d e T a b,fr,st=>by
  intro r hr
  unfold evC at hr
  unfold evW
  split at hr
  ·rename_i hc
   rw[if_pos hc]
   exact both_le (evC_le_evW h n a _ _) (evC_le_evW h n b _ _) r hr
  ·cases hr
 |.block id a,fr,st=>by
  intro r hr
  unfold evC at hr
  unfold evW
  cases h1:evC c n a fr st with
  |none=>rw[h1] at hr; cases hr
  |some q=>rw[h1] at hr; rw[evC_le_evW h n a _ _ _ h1]; exact hr
 |.loop k a,fr,st=>by
  intro r hr
  unfold evC at hr
  unfold evW
  refine loopW_some.2 ⟨n,iter_mono (fun fr st => ?_) n n (Nat.le_refl n) _ _ r hr⟩
  intro q hq
  cases h1:evC c n a fr st with
  |none=>rw[h1] at hq; cases hq
  |some p=>rw[h1] at hq; rw[evC_le_evW h n a _ _ _ h1]; exact hq
 |.exit id,fr,st=>LeO.rfl
 |.ret,fr,st=>LeO.rfl
 |.skip,fr,st=>LeO.rfl
section
variable (fns:FuncId->Option IFunc) (given:FuncId->List PV->Option PV)
noncomputable def call:CallF:=fun f as st=>lim fun k=>evF fns given k f as st
theorem call_some {f:FuncId} {as:List PV} {st:St} {r:PV × St}:call fns given f as st=some r ↔ ∃ k,evF fns given k f as st=some r :=
 lim_some fun _ _ h=>evF_le fns given h f as st
theorem evF_le_call (k:Nat):LeC (evF fns given k) (call fns given):=fun _ _ _ _ h=>(call_some fns given).2 ⟨k,h⟩
theorem evOp_lim (op:IOp) (fr:Fr) (st:St) {r:PV × St} (hr:evOp (call fns given) op fr st=some r) : ∃ k,evOp (evF fns given k) op fr st=some r:=by
 cases op with
 |calli own f args =>
  simp only[evOp] at hr ⊢
  cases h1:mapO (argF own) (args.map (·.ev fr)) with
  |none=>rw[h1] at hr; cases hr
  |some as =>
   rw[h1] at hr
   simp only at hr ⊢
   cases h2:call fns given f as ⟨[],[],[],[]⟩ with
   |none=>rw[h2] at hr; cases hr
   |some q =>
    obtain⟨k,hk⟩:=(call_some fns given).1 h2
    rw[h2] at hr
    exact⟨k,by rw[hk]; exact hr⟩
 |calls raw f args =>
  simp only[evOp] at hr ⊢
  split at hr
  ·rename_i as hs; exact (call_some fns given).1 hr
  ·cases hr
 |callv x args =>
  simp only[evOp] at hr ⊢
  split at hr
  ·exact (call_some fns given).1 hr
  ·cases hr
 |_=>exact⟨0,hr⟩
theorem evSOp_lim (o:SOp) (fr:Fr) (st:St) {r:Fr × St} (hr:evSOp (call fns given) o fr st=some r) : ∃ k,evSOp (evF fns given k) o fr st=some r:=by
 unfold evSOp at hr ⊢
 split at hr
 ·cases h1:evOp (call fns given) o.op fr st with
  |none=>rw[h1] at hr; cases hr
  |some q =>
   obtain⟨k,hk⟩:=evOp_lim fns given _ _ _ h1
   rw[h1] at hr
   exact⟨k,by rw[hk]; exact hr⟩
 ·exact⟨0,hr⟩
 ·cases hr
theorem evOps_lim : ∀ (l:List SOp) (fr:Fr) (st:St) {r:Fr × St},evOps (call fns given) l fr st=some r -> ∃ k,evOps (evF fns given k) l fr st=some r
 |[],_,_,_,hr=>⟨0,hr⟩
 |o::l,fr,st,r,hr=>by
  unfold evOps at hr ⊢
  cases h1:evSOp (call fns given) o fr st with
  |none=>rw[h1] at hr; cases hr
  |some q =>
   rw[h1] at hr
   obtain⟨k,hk⟩:=evSOp_lim fns given _ _ _ h1
   obtain⟨m,hm⟩:=evOps_lim l q.1 q.2 hr
   refine⟨max k m,?_⟩
   rw[evSOp_mono (evF_le fns given (Nat.le_max_left k m)) _ _ _ _ hk]
   exact evOps_mono (evF_le fns given (Nat.le_max_right k m)) _ _ _ _ hm
theorem evSch_lim (st0:St) : ∀ (l:Tree) (s:Sch) {r:Sch},evSch (call fns given) st0 l s=some r -> ∃ k,evSch (evF fns given k) st0 l s=some r
 |.nil,_,_,hr=>⟨0,hr⟩
 |.alt t u,s,r,hr=>by
  unfold evSch at hr ⊢
  cases h1:evSch (call fns given) st0 t s with
  |none=>rw[h1] at hr; cases hr
  |some a =>
   cases h2:evSch (call fns given) st0 u s with
   |none=>rw[h1,h2] at hr; cases hr
   |some b =>
    rw[h1,h2] at hr
    obtain⟨k,hk⟩:=evSch_lim st0 t _ h1
    obtain⟨m,hm⟩:=evSch_lim st0 u _ h2
    refine⟨max k m,?_⟩
    rw[evSch_mono (evF_le fns given (Nat.le_max_left k m)) _ _ _ _ hk,evSch_mono (evF_le fns given (Nat.le_max_right k m)) _ _ _ _ hm]
    exact hr
 |.cons o l,s,r,hr=>by
  unfold evSch at hr ⊢
  cases hw:wantedB s.fr o.guard with
  |none=>rw[hw] at hr; cases hr
  |some b =>
   rw[hw] at hr
   cases b with
   |false=>exact evSch_lim st0 l _ hr
   |true =>
    simp only at hr ⊢
    cases h1:evOp (call fns given) o.op s.fr (if o.flag=1 then st0 else s.st) with
    |none=>rw[h1] at hr; cases hr
    |some q =>
     rw[h1] at hr
     obtain⟨k,hk⟩:=evOp_lim fns given _ _ _ h1
     obtain⟨m,hm⟩:=evSch_lim st0 l _ hr
     refine⟨max k m,?_⟩
     rw[evOp_mono (evF_le fns given (Nat.le_max_left k m)) _ _ _ _ hk]
     exact evSch_mono (evF_le fns given (Nat.le_max_right k m)) _ _ _ _ hm
theorem evDraw_lim (l:Tree) (fr:Fr) (st:St) {r:Fr × St} (hr:evDraw (call fns given) l fr st=some r) : ∃ k,evDraw (evF fns given k) l fr st=some r:=by
 unfold evDraw at hr ⊢
 cases h1:evSch (call fns given) st l ⟨fr,st,[],[]⟩ with
 |none=>rw[h1] at hr; cases hr
 |some q =>
  rw[h1] at hr
  obtain⟨k,hk⟩:=evSch_lim fns given _ _ _ h1
  exact⟨k,by rw[hk]; exact hr⟩
theorem iter_lim {S:Fr->St->CRes} {s:Nat->Fr->St->CRes} (hs : ∀ k m,k<=m -> ∀ fr st,LeO (s k fr st) (s m fr st)) (h : ∀ fr st r,S fr st=some r -> ∃ k,s k fr st=some r) :
  ∀ (n:Nat) (fr:Fr) (st:St) (r:IX × Fr × St),iter S n fr st=some r -> ∃ k,iter (s k) k fr st=some r
 |0,_,_,_,hr=>by cases hr
 |n+1,fr,st,r,hr=>by
  unfold iter at hr
  cases h1:S fr st with
  |none=>rw[h1] at hr; cases hr
  |some q =>
   rw[h1] at hr
   obtain⟨k,hk⟩:=h _ _ _ h1
   obtain⟨x,fr',st'⟩:=q
   cases x with
   |normal =>
    obtain⟨m,hm⟩:=iter_lim hs h n fr' st' r hr
    refine⟨max k m+1,?_⟩
    unfold iter
    rw[hs k (max k m+1) (by omega) _ _ _ hk]
    exact iter_mono (fun fr st=>hs m (max k m+1) (by omega) fr st) m (max k m) (by omega) _ _ _ hm
   |exit i=>exact⟨k+1,by unfold iter; rw[hs k (k+1) (by omega) _ _ _ hk]; exact hr⟩
   |ret=>exact⟨k+1,by unfold iter; rw[hs k (k+1) (by omega) _ _ _ hk]; exact hr⟩
theorem evW_lim : ∀ (a:IC) (fr:Fr) (st:St) {r:IX × Fr × St},evW (call fns given) a fr st=some r -> ∃ k,evC (evF fns given k) k a fr st=some r
 |.ops l,fr,st,r,hr=>by
  unfold evW at hr
  cases h1:evOps (call fns given) l fr st with
  |none=>rw[h1] at hr; cases hr
  |some q =>
   obtain⟨k,hk⟩:=evOps_lim fns given _ _ _ h1
   rw[h1] at hr
   exact⟨k,by unfold evC; rw[hk]; exact hr⟩
 |.draw l,fr,st,r,hr=>by
  unfold evW at hr
  cases h1:evDraw (call fns given) l fr st with
  |none=>rw[h1] at hr; cases hr
  |some q =>
   obtain⟨k,hk⟩:=evDraw_lim fns given _ _ _ h1
   rw[h1] at hr
   exact⟨k,by unfold evC; rw[hk]; exact hr⟩
 |.seq a b,fr,st,r,hr=>by
  unfold evW at hr
  cases h1:evW (call fns given) a fr st with
  |none=>rw[h1] at hr; cases hr
  |some q =>
   rw[h1] at hr
   obtain⟨k,hk⟩:=evW_lim a _ _ h1
   obtain⟨x,fr',st'⟩:=q
   cases x with
   |normal =>
    obtain⟨m,hm⟩:=evW_lim b _ _ hr
    refine⟨max k m,?_⟩
    unfold evC
    rw[evC_mono (evF_le fns given (Nat.le_max_left k m)) (Nat.le_max_left k m) _ _ _ _ hk]
    exact evC_mono (evF_le fns given (Nat.le_max_right k m)) (Nat.le_max_right k m) _ _ _ _ hm
   |exit i=>exact⟨k,by unfold evC; rw[hk]; exact hr⟩
   |ret=>exact⟨k,by unfold evC; rw[hk]; exact hr⟩
 |.cond x a b,fr,st,r,hr=>by
  unfold evW at hr
  split at hr
  ·rename_i cc hx
   cases cc with
   |true =>
    obtain⟨k,hk⟩:=evW_lim a _ _ hr
    exact⟨k,by unfold evC; rw[hx]; exact hk⟩
   |false =>
    obtain⟨k,hk⟩:=evW_lim b _ _ hr
    exact⟨k,by unfold evC; rw[hx]; exact hk⟩
  ·cases hr
 |.choose q d e T a b,fr,st,r,hr=>by
  unfold evW at hr
  split at hr
  ·rename_i hc
   obtain⟨f,g,s,h1,h2,rfl,h3⟩:=both_some hr
   obtain⟨k,hk⟩:=evW_lim a _ _ h1
   obtain⟨m,hm⟩:=evW_lim b _ _ h2
   refine⟨max k m,?_⟩
   unfold evC
   rw[if_pos hc,evC_mono (evF_le fns given (Nat.le_max_left k m)) (Nat.le_max_left k m) _ _ _ _ hk,evC_mono (evF_le fns given (Nat.le_max_right k m)) (Nat.le_max_right k m) _ _ _ _ hm]
   exact both_eq h3
  ·cases hr
 |.block id a,fr,st,r,hr=>by
  unfold evW at hr
  cases h1:evW (call fns given) a fr st with
  |none=>rw[h1] at hr; cases hr
  |some q =>
   obtain⟨k,hk⟩:=evW_lim a _ _ h1
   rw[h1] at hr
   exact⟨k,by unfold evC; rw[hk]; exact hr⟩
 |.loop m a,fr,st,r,hr=>by
  unfold evW at hr
  obtain⟨n,hn⟩:=loopW_some.1 hr
  have:=iter_lim (s:=fun k fr st=>(evC (evF fns given k) k a fr st).map fun r=>(r.1,if r.1 = .normal then mask m r.2.1 else r.2.1,r.2.2)) ?_ ?_ n _ _ r hn
  ·obtain⟨k,hk⟩:=this
   exact⟨k,by unfold evC; exact hk⟩
  ·intro k m h fr st q hq
   cases h1:evC (evF fns given k) k a fr st with
   |none=>simp only[h1] at hq; cases hq
   |some p=>simp only[h1] at hq; simp only[evC_mono (evF_le fns given h) h a _ _ _ h1]; exact hq
  ·intro fr st q hq
   cases h1:evW (call fns given) a fr st with
   |none=>rw[h1] at hq; cases hq
   |some p =>
    obtain⟨k,hk⟩:=evW_lim a _ _ h1
    rw[h1] at hq
    exact⟨k,by simp only[hk]; exact hq⟩
 |.exit id,fr,st,r,hr=>⟨0,hr⟩
 |.ret,fr,st,r,hr=>⟨0,hr⟩
 |.skip,fr,st,r,hr=>⟨0,hr⟩
noncomputable def callBody (cl:CallF) (c:IFunc) (as:List PV) (st:St):Option (PV × St) :=
 match evW cl c.body (as++List.replicate (c.ntmps-as.length) .undef) st with
 |some (.normal,fr',st')=>(resultsOf c.results fr' st').map (·,st')
 |some (.ret,fr',st')=>(resultsOf c.results fr' st').map (·,st')
 |_=>none
theorem call_fn {f:FuncId} {c:IFunc} (hf:fns f=some c) (as:List PV) (st:St):call fns given f as st=callBody (call fns given) c as st:=by
 apply Option.ext
 intro r
 rw[call_some]
 unfold callBody
 constructor
 ·rintro⟨k,hk⟩
  cases k with
  |zero=>cases hk
  |succ k =>
   unfold evF at hk
   rw[hf] at hk
   simp only at hk
   cases h2:evC (evF fns given k) k c.body (as++List.replicate (c.ntmps-as.length) .undef) st with
   |none=>rw[h2] at hk; cases hk
   |some q=>rw[h2] at hk; rw[evC_le_evW (evF_le_call fns given k) k _ _ _ _ h2]; exact hk
 ·intro hr
  cases h2:evW (call fns given) c.body (as++List.replicate (c.ntmps-as.length) .undef) st with
  |none=>rw[h2] at hr; cases hr
  |some q =>
   rw[h2] at hr
   obtain⟨k,hk⟩:=evW_lim fns given _ _ _ h2
   refine⟨k+1,?_⟩
   unfold evF
   rw[hf]
   simp only[hk]
   exact hr
theorem call_given {f:FuncId} (hf:fns f=none) (as:List PV) (st:St):call fns given f as st=givenV given f as st:=by
 apply Option.ext
 intro r
 rw[call_some]
 constructor
 ·rintro⟨k,hk⟩
  cases k with
  |zero=>cases hk
  |succ k=>unfold evF at hk; rw[hf] at hk; exact hk
 ·intro hr
  exact⟨1,by unfold evF; rw[hf]; exact hr⟩
end
end Go.Proofs.YthjnlpfibakacaaGreatDoorPe
