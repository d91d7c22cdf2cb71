/- A part of the proof of this folder's statement; it has no condition of its own. -/
import Derived.Test.YthjnlpfibakacaaGreatDoorEcSound3
set_option linter.unusedVariables false
set_option linter.unusedSimpArgs false
namespace Go.Proofs.YthjnlpfibakacaaGreatDoorPe
open Go
section
variable {c c':CallF}
theorem tupV_mono (h:LeC c c') (k:TOp) (vs:List PV):LeO (tupV c k vs) (tupV c' k vs):=by
 intro r hr
 cases k with
 |call m f =>
  simp only[tupV,callV] at hr ⊢
  split at hr
  ·rename_i as has
   split at hr
   ·rename_i q st' hq
    rw[h _ _ _ _ hq]
    exact hr
   ·cases hr
  ·cases hr
 |_=>exact hr
theorem evE_mono (h:LeC c c') (fr:Fr) : ∀ e:Exp,LeO (evE c fr e) (evE c' fr e):=by
 intro e
 induction e with
 |v s=>exact LeO.rfl
 |c x=>exact LeO.rfl
 |nil=>exact LeO.rfl
 |gd b g e ih1 ih2 =>
  intro r hr
  unfold evE at hr ⊢
  cases h1:evE c fr g with
  |none=>rw[h1] at hr; cases hr
  |some q =>
   rw[h1] at hr; rw[ih1 _ h1]
   simp only at hr ⊢
   split at hr
   ·exact ih2 _ hr
   ·exact hr
   ·cases hr
 |pick g a b ih1 ih2 ih3 =>
  intro r hr
  unfold evE at hr ⊢
  split at hr
  ·rename_i h1; rw[ih1 _ h1]; exact ih2 _ hr
  ·rename_i h1; rw[ih1 _ h1]; exact ih3 _ hr
  ·cases hr
 |un u x ih =>
  intro r hr
  unfold evE at hr ⊢
  cases h1:evE c fr x with
  |none=>rw[h1] at hr; cases hr
  |some q=>rw[h1] at hr; rw[ih _ h1]; exact hr
 |bi b x y ih1 ih2 =>
  intro r hr
  unfold evE at hr ⊢
  cases h1:evE c fr x with
  |none=>rw[h1] at hr; cases hr
  |some q =>
   cases h2:evE c fr y with
   |none=>rw[h1,h2] at hr; cases hr
   |some q2=>rw[h1,h2] at hr; rw[ih1 _ h1,ih2 _ h2]; exact hr
 |ssub l k x y z ih1 ih2 ih3 =>
  intro r hr
  unfold evE at hr ⊢
  cases h1:evE c fr x with
  |none=>rw[h1] at hr; cases hr
  |some q =>
   cases h2:evE c fr y with
   |none=>rw[h1,h2] at hr; cases hr
   |some q2 =>
    cases h3:evE c fr z with
    |none=>rw[h1,h2,h3] at hr; cases hr
    |some q3=>rw[h1,h2,h3] at hr; rw[ih1 _ h1,ih2 _ h2,ih3 _ h3]; exact hr
 |lsub n l k m x y z w ih1 ih2 ih3 ih4 =>
  intro r hr
  unfold evE at hr ⊢
  cases h1:evE c fr x with
  |none=>rw[h1] at hr; cases hr
  |some q =>
   cases h2:evE c fr y with
   |none=>rw[h1,h2] at hr; cases hr
   |some q2 =>
    cases h3:evE c fr z with
    |none=>rw[h1,h2,h3] at hr; cases hr
    |some q3 =>
     cases h4:evE c fr w with
     |none=>rw[h1,h2,h3,h4] at hr; cases hr
     |some q4=>rw[h1,h2,h3,h4] at hr; rw[ih1 _ h1,ih2 _ h2,ih3 _ h3,ih4 _ h4]; exact hr
 |cons x xs ih1 ih2 =>
  intro r hr
  unfold evE at hr ⊢
  cases h1:evE c fr x with
  |none=>rw[h1] at hr; cases hr
  |some q =>
   rw[h1] at hr; rw[ih1 _ h1]
   simp only at hr ⊢
   cases h2:tupleOf (evE c fr xs) with
   |none=>rw[h2] at hr; cases hr
   |some vs=>rw[ih2 _ (tupleOf_some h2)]; rw[h2] at hr; exact hr
 |tup k xs ih =>
  intro r hr
  unfold evE at hr ⊢
  cases h2:tupleOf (evE c fr xs) with
  |none=>rw[h2] at hr; cases hr
  |some vs=>rw[ih _ (tupleOf_some h2)]; rw[h2] at hr; exact tupV_mono h k vs r hr
theorem tupE_mono (h:LeC c c') (fr:Fr) (e:Exp):LeO (tupleOf (evE c fr e)) (tupleOf (evE c' fr e)):=by
 intro r hr
 rw[evE_mono h fr e _ (tupleOf_some hr)]
 rfl
theorem evEff_mono (h:LeC c c') (fr:Fr) (st:St) : ∀ op:EOp,LeO (evEff c fr st op) (evEff c' fr st op):=by
 intro op r hr
 cases op with
 |box n T x =>
  simp only[evEff] at hr ⊢
  cases h1:evE c fr x with
  |none=>rw[h1] at hr; cases hr
  |some q=>rw[h1] at hr; rw[evE_mono h _ _ _ h1]; exact hr
 |zbox zs T=>exact hr
 |load n x =>
  simp only[evEff] at hr ⊢
  cases h1:evE c fr x with
  |none=>rw[h1] at hr; cases hr
  |some q=>rw[h1] at hr; rw[evE_mono h _ _ _ h1]; exact hr
 |store n x y =>
  simp only[evEff] at hr ⊢
  cases h1:evE c fr x with
  |none=>rw[h1] at hr; cases hr
  |some q =>
   cases h2:evE c fr y with
   |none=>rw[h1,h2] at hr; cases hr
   |some q2=>rw[h1,h2] at hr; rw[evE_mono h _ _ _ h1,evE_mono h _ _ _ h2]; exact hr
 |append n b T x y =>
  simp only[evEff] at hr ⊢
  cases h1:evE c fr x with
  |none=>rw[h1] at hr; cases hr
  |some q =>
   cases h2:evE c fr y with
   |none=>rw[h1,h2] at hr; cases hr
   |some q2=>rw[h1,h2] at hr; rw[evE_mono h _ _ _ h1,evE_mono h _ _ _ h2]; exact hr
 |happend n b T x y =>
  simp only[evEff] at hr ⊢
  cases h1:evE c fr x with
  |none=>rw[h1] at hr; cases hr
  |some q =>
   cases h2:evE c fr y with
   |none=>rw[h1,h2] at hr; cases hr
   |some q2=>rw[h1,h2] at hr; rw[evE_mono h _ _ _ h1,evE_mono h _ _ _ h2]; exact hr
 |fill n x y =>
  simp only[evEff] at hr ⊢
  cases h1:evE c fr x with
  |none=>rw[h1] at hr; cases hr
  |some q =>
   cases h2:evE c fr y with
   |none=>rw[h1,h2] at hr; cases hr
   |some q2=>rw[h1,h2] at hr; rw[evE_mono h _ _ _ h1,evE_mono h _ _ _ h2]; exact hr
 |pappend n b T x y v =>
  simp only[evEff] at hr ⊢
  cases h1:evE c fr x with
  |none=>rw[h1] at hr; cases hr
  |some q =>
   cases h2:evE c fr y with
   |none=>rw[h1,h2] at hr; cases hr
   |some q2 =>
    cases h3:evE c fr v with
    |none=>rw[h1,h2,h3] at hr; cases hr
    |some q3=>rw[h1,h2,h3] at hr; rw[evE_mono h _ _ _ h1,evE_mono h _ _ _ h2,evE_mono h _ _ _ h3]; exact hr
 |mark x =>
  simp only[evEff] at hr ⊢
  cases h1:evE c fr x with
  |none=>rw[h1] at hr; cases hr
  |some q=>rw[h1] at hr; rw[evE_mono h _ _ _ h1]; exact hr
 |bown n z len a xs =>
  simp only[evEff] at hr ⊢
  cases h1:tupleOf (evE c fr xs) with
  |none=>rw[h1] at hr; cases hr
  |some vs=>rw[h1] at hr; rw[tupE_mono h _ _ _ h1]; exact hr
 |touns x =>
  simp only[evEff] at hr ⊢
  cases h1:evE c fr x with
  |none=>rw[h1] at hr; cases hr
  |some q=>rw[h1] at hr; rw[evE_mono h _ _ _ h1]; exact hr
 |fromuns n u x =>
  simp only[evEff] at hr ⊢
  cases h1:evE c fr x with
  |none=>rw[h1] at hr; cases hr
  |some q=>rw[h1] at hr; rw[evE_mono h _ _ _ h1]; exact hr
 |ustr T x y =>
  simp only[evEff] at hr ⊢
  cases h1:evE c fr x with
  |none=>rw[h1] at hr; cases hr
  |some q =>
   cases h2:evE c fr y with
   |none=>rw[h1,h2] at hr; cases hr
   |some q2=>rw[h1,h2] at hr; rw[evE_mono h _ _ _ h1,evE_mono h _ _ _ h2]; exact hr
 |callo f xs =>
  simp only[evEff] at hr ⊢
  cases h1:tupleOf (evE c fr xs) with
  |none=>rw[h1] at hr; cases hr
  |some vs =>
   rw[h1] at hr; rw[tupE_mono h _ _ _ h1]
   simp only[calloV] at hr ⊢
   split at hr
   ·split at hr
    ·rename_i hq; rw[h _ _ _ _ hq]; exact hr
    ·cases hr
   ·cases hr
 |calls raw f xs =>
  simp only[evEff] at hr ⊢
  cases h1:tupleOf (evE c fr xs) with
  |none=>rw[h1] at hr; cases hr
  |some vs =>
   rw[h1] at hr; rw[tupE_mono h _ _ _ h1]
   simp only[callsV] at hr ⊢
   split at hr
   ·exact h _ _ _ _ hr
   ·cases hr
 |callv x xs =>
  simp only[evEff] at hr ⊢
  cases h1:evE c fr x with
  |none=>rw[h1] at hr; cases hr
  |some q =>
   cases h2:tupleOf (evE c fr xs) with
   |none=>rw[h1,h2] at hr; cases hr
   |some vs =>
    rw[h1,h2] at hr; rw[evE_mono h _ _ _ h1,tupE_mono h _ _ _ h2]
    simp only[callvV] at hr ⊢
    split at hr
    ·exact h _ _ _ _ hr
    ·cases hr
 |fail=>exact hr
theorem evSets_mono (h:LeC c c') (fr:Fr) : ∀ l,LeO (evSets c fr l) (evSets c' fr l)
 |[]=>LeO.rfl
 |(s,e)::l=>by
  intro r hr
  unfold evSets at hr ⊢
  cases h1:evE c fr e with
  |none=>rw[h1] at hr; cases hr
  |some q =>
   cases h2:evSets c fr l with
   |none=>rw[h1,h2] at hr; cases hr
   |some q2=>rw[h1,h2] at hr; rw[evE_mono h _ _ _ h1,evSets_mono h fr l _ h2]; exact hr
theorem evStmt_mono (h:LeC c c') (s:EStmt) (fr:Fr) (st:St):LeO (evStmt c s fr st) (evStmt c' s fr st):=by
 intro r hr
 cases s with
 |sets l =>
  simp only[evStmt] at hr ⊢
  cases h1:evSets c fr l with
  |none=>rw[h1] at hr; cases hr
  |some q=>rw[h1] at hr; rw[evSets_mono h _ _ _ h1]; exact hr
 |chk e =>
  simp only[evStmt] at hr ⊢
  cases h1:evE c fr e with
  |none=>rw[h1] at hr; cases hr
  |some q=>rw[h1] at hr; rw[evE_mono h _ _ _ h1]; exact hr
 |swap x y =>
  simp only[evStmt,swapV] at hr ⊢
  split at hr
  ·rename_i h1
   split at hr
   ·rename_i h2
    split at hr
    ·rename_i h3
     split at hr
     ·rename_i h4
      rw[evEff_mono h _ _ _ _ h1]
      simp only
      rw[evEff_mono h _ _ _ _ h2]
      simp only
      rw[evEff_mono h _ _ _ _ h3]
      simp only
      rw[evEff_mono h _ _ _ _ h4]
      exact hr
     ·cases hr
    ·cases hr
   ·cases hr
  ·cases hr
 |eff d g op =>
  have key : ∀ {r:Fr × St},(match evEff c fr st op with|some (x,st')=>some (putF d x fr,st')|none=>none)=some r->(match evEff c' fr st op with|some (x,st')=>some (putF d x fr,st')|none=>none)=some r:=by
   intro r hr
   cases h1:evEff c fr st op with
   |none=>rw[h1] at hr; cases hr
   |some q=>rw[h1] at hr; rw[evEff_mono h _ _ _ _ h1]; exact hr
  cases g with
  |none=>exact key hr
  |some g =>
   obtain⟨g,b⟩:=g
   simp only[evStmt] at hr ⊢
   cases h1:evE c fr g with
   |none=>rw[h1] at hr; cases hr
   |some q =>
    rw[h1] at hr; rw[evE_mono h _ _ _ h1]
    simp only at hr ⊢
    split at hr
    ·exact key hr
    ·exact hr
    ·cases hr
theorem evStmts_mono (h:LeC c c') : ∀ (l:List EStmt) (fr:Fr) (st:St),LeO (evStmts c l fr st) (evStmts c' l fr st)
 |[],_,_=>LeO.rfl
 |s::l,fr,st=>by
  intro r hr
  unfold evStmts at hr ⊢
  cases h1:evStmt c s fr st with
  |none=>rw[h1] at hr; cases hr
  |some q=>rw[h1] at hr; rw[evStmt_mono h _ _ _ _ h1]; exact evStmts_mono h l _ _ r hr
theorem evRes_mono (h:LeC c c') (fr:Fr) (st:St) (e:ERes):LeO (evRes c fr st e) (evRes c' fr st e):=by
 intro r hr
 cases e with
 |e x=>exact evE_mono h _ _ _ hr
 |cell x n =>
  simp only[evRes] at hr ⊢
  split at hr
  ·rename_i hx; rw[evE_mono h _ _ _ hx]; exact hr
  ·cases hr
theorem mapO_mono {α β : Type} {f g : α -> Option β} (h : ∀ a,LeO (f a) (g a)) : ∀ l,LeO (mapO f l) (mapO g l)
 |[]=>LeO.rfl
 |a::l=>by
  intro r hr
  unfold mapO at hr ⊢
  cases h1:f a with
  |none=>rw[h1] at hr; cases hr
  |some q =>
   cases h2:mapO f l with
   |none=>rw[h1,h2] at hr; cases hr
   |some q2=>rw[h1,h2] at hr; rw[h a _ h1,mapO_mono h l _ h2]; exact hr
theorem evRets_mono (h:LeC c c') (rs:List ERes) (fr:Fr) (st:St):LeO (evRets c rs fr st) (evRets c' rs fr st):=by
 intro r hr
 unfold evRets at hr ⊢
 obtain⟨q,hq,rfl⟩:=Option.map_eq_some_iff.1 hr
 rw[mapO_mono (fun e=>evRes_mono h fr st e) _ _ hq]
 rfl
theorem roundE_mono {m:List Bool} {a b:ERs} (h:LeO a b):LeO (roundE m a) (roundE m b):=by
 intro r hr
 cases a with
 |none=>cases hr
 |some q=>rw[h q rfl]; exact hr
theorem iterE_mono {s s':Fr->St->ERs} (h : ∀ fr st,LeO (s fr st) (s' fr st)) : ∀ (n m:Nat),n<=m -> ∀ fr st,LeO (iterE s n fr st) (iterE s' m fr st)
 |0,_,_,_,_=>fun _ hr=>by cases hr
 |n+1,0,hm,_,_=>absurd hm (by omega)
 |n+1,m+1,hm,fr,st=>by
  intro r hr
  unfold iterE at hr ⊢
  cases h1:s fr st with
  |none=>rw[h1] at hr; cases hr
  |some q =>
   rw[h1] at hr; rw[h _ _ _ h1]
   obtain⟨x,fr',st'⟩:=q
   cases x with
   |normal=>exact iterE_mono h n m (by omega) _ _ r hr
   |exit i=>exact hr
   |ret v=>exact hr
theorem bothE_le {m:List Bool} {x y x' y':ERs} (h:LeO x x') (k:LeO y y'):LeO (bothE m x y) (bothE m x' y'):=by
 intro r hr
 obtain⟨f,g,s,rfl,rfl,rfl,e⟩:=bothE_some hr
 rw[h _ rfl,k _ rfl]
 exact bothE_eq e
theorem evS_mono (h:LeC c c') {n m:Nat} (hm:n<=m) : ∀ (a:EC) (fr:Fr) (st:St),LeO (evS c n a fr st) (evS c' m a fr st)
 |.st l,fr,st=>by
  intro r hr
  unfold evS at hr ⊢
  cases h1:evStmts c l fr st with
  |none=>rw[h1] at hr; cases hr
  |some q=>rw[h1] at hr; rw[evStmts_mono h _ _ _ _ h1]; exact hr
 |.seq a b,fr,st=>by
  intro r hr
  unfold evS at hr ⊢
  cases h1:evS c n a fr st with
  |none=>rw[h1] at hr; cases hr
  |some q =>
   rw[h1] at hr; rw[evS_mono h hm a _ _ _ h1]
   obtain⟨x,fr',st'⟩:=q
   cases x with
   |normal=>exact evS_mono h hm b _ _ r hr
   |exit i=>exact hr
   |ret=>exact hr
 |.cond x a b,fr,st=>by
  intro r hr
  unfold evS at hr ⊢
  split at hr
  ·rename_i cc hx
   rw[evE_mono h _ _ _ hx]
   cases cc with
   |true=>exact evS_mono h hm a _ _ r hr
   |false=>exact evS_mono h hm b _ _ r hr
  ·cases hr
 |.choose k T a b,fr,st=>by
  intro r hr
  unfold evS at hr ⊢
  exact bothE_le (evS_mono h hm a _ _) (evS_mono h hm b _ _) r hr
 |.block id a,fr,st=>by
  intro r hr
  unfold evS at hr ⊢
  cases h1:evS c n a fr st with
  |none=>rw[h1] at hr; cases hr
  |some q=>rw[h1] at hr; rw[evS_mono h hm a _ _ _ h1]; exact hr
 |.loop k a,fr,st=>by
  intro r hr
  unfold evS at hr ⊢
  exact iterE_mono (fun fr st=>roundE_mono (evS_mono h hm a fr st)) n m hm _ _ r hr
 |.exit id,fr,st=>LeO.rfl
 |.ret rs,fr,st=>by
  intro r hr
  unfold evS at hr ⊢
  cases h1:evRets c rs fr st with
  |none=>rw[h1] at hr; cases hr
  |some q=>rw[h1] at hr; rw[evRets_mono h _ _ _ _ h1]; exact hr
 |.skip,fr,st=>LeO.rfl
end
section
variable (efns:FuncId->Option EFunc) (given:FuncId->List PV->Option PV)
theorem evFE_mono : ∀ k,LeC (evFE efns given k) (evFE efns given (k+1))
 |0=>fun _ _ _ _ hr=>by cases hr
 |k+1=>fun f as st r hr=>by
  unfold evFE at hr ⊢
  cases h1:efns f with
  |none=>rw[h1] at hr; exact hr
  |some c =>
   rw[h1] at hr
   simp only at hr ⊢
   split at hr
   ·rename_i ha
    rw[if_pos ha]
    split at hr
    ·rename_i h2
     rw[evS_mono (evFE_mono k) (Nat.le_succ k) _ _ _ _ h2]
     exact hr
    ·cases hr
   ·cases hr
theorem evFE_mle {k m:Nat} (h:k<=m):LeC (evFE efns given k) (evFE efns given m):=by
 induction h with
 |refl=>exact fun _ _ _=>LeO.rfl
 |step h ih=>exact fun f as st r hr=>evFE_mono efns given _ f as st r (ih f as st r hr)
noncomputable def callE:CallF:=fun f as st=>lim fun k=>evFE efns given k f as st
theorem callE_some {f:FuncId} {as:List PV} {st:St} {r:PV × St}:callE efns given f as st=some r ↔ ∃ k,evFE efns given k f as st=some r :=
 lim_some fun _ _ h=>evFE_mle efns given h f as st
theorem evFE_le_callE (k:Nat):LeC (evFE efns given k) (callE efns given):=fun _ _ _ _ h=>(callE_some efns given).2 ⟨k,h⟩
theorem callE_le {fns:FuncId->Option IFunc} (hE:EOk fns efns):LeC (callE efns given) (call fns given):=fun f as st r h=>by
 obtain⟨k,hk⟩:=(callE_some efns given).1 h
 exact evFE_le hE given k f as st r hk
theorem tupV_lim (k:TOp) (vs:List PV) {r:PV} (hr:tupV (callE efns given) k vs=some r) : ∃ n,tupV (evFE efns given n) k vs=some r:=by
 cases k with
 |call m f =>
  simp only[tupV,callV] at hr ⊢
  split at hr
  ·rename_i as has
   split at hr
   ·rename_i q st' hq
    obtain⟨n,hn⟩:=(callE_some efns given).1 hq
    exact⟨n,by simp only[hn]; exact hr⟩
   ·cases hr
  ·cases hr
 |_=>exact⟨0,hr⟩
theorem evE_lim (fr:Fr) : ∀ (e:Exp) {r:PV},evE (callE efns given) fr e=some r -> ∃ n,evE (evFE efns given n) fr e=some r:=by
 have up : ∀ {n m:Nat} {e:Exp} {r:PV},n<=m->evE (evFE efns given n) fr e=some r->evE (evFE efns given m) fr e=some r:=fun h hr=>evE_mono (evFE_mle efns given h) fr _ _ hr
 intro e
 induction e with
 |v s=>intro r hr; exact⟨0,hr⟩
 |c x=>intro r hr; exact⟨0,hr⟩
 |nil=>intro r hr; exact⟨0,hr⟩
 |gd b g e ih1 ih2 =>
  intro r hr
  unfold evE at hr
  cases h1:evE (callE efns given) fr g with
  |none=>rw[h1] at hr; cases hr
  |some q =>
   rw[h1] at hr
   obtain⟨n,hn⟩:=ih1 h1
   simp only at hr
   split at hr
   ·rename_i hg
    obtain⟨m,hm⟩:=ih2 hr
    refine⟨max n m,?_⟩
    unfold evE
    rw[up (Nat.le_max_left n m) hn]
    simp only[hg]
    exact up (Nat.le_max_right n m) hm
   ·rename_i hg
    refine⟨n,?_⟩
    unfold evE
    rw[hn]
    simp only[hg]
    exact hr
   ·cases hr
 |pick g a b ih1 ih2 ih3 =>
  intro r hr
  unfold evE at hr
  split at hr
  ·rename_i h1
   obtain⟨n,hn⟩:=ih1 h1
   obtain⟨m,hm⟩:=ih2 hr
   refine⟨max n m,?_⟩
   unfold evE
   rw[up (Nat.le_max_left n m) hn]
   exact up (Nat.le_max_right n m) hm
  ·rename_i h1
   obtain⟨n,hn⟩:=ih1 h1
   obtain⟨m,hm⟩:=ih3 hr
   refine⟨max n m,?_⟩
   unfold evE
   rw[up (Nat.le_max_left n m) hn]
   exact up (Nat.le_max_right n m) hm
  ·cases hr
 |un u x ih =>
  intro r hr
  unfold evE at hr
  cases h1:evE (callE efns given) fr x with
  |none=>rw[h1] at hr; cases hr
  |some q =>
   rw[h1] at hr
   obtain⟨n,hn⟩:=ih h1
   exact⟨n,by unfold evE; rw[hn]; exact hr⟩
 |bi b x y ih1 ih2 =>
  intro r hr
  unfold evE at hr
  cases h1:evE (callE efns given) fr x with
  |none=>rw[h1] at hr; cases hr
  |some q =>
   cases h2:evE (callE efns given) fr y with
   |none=>rw[h1,h2] at hr; cases hr
   |some q2 =>
    rw[h1,h2] at hr
    obtain⟨n,hn⟩:=ih1 h1
    obtain⟨m,hm⟩:=ih2 h2
    refine⟨max n m,?_⟩
    unfold evE
    rw[up (Nat.le_max_left n m) hn,up (Nat.le_max_right n m) hm]
    exact hr
 |ssub l k x y z ih1 ih2 ih3 =>
  intro r hr
  unfold evE at hr
  cases h1:evE (callE efns given) fr x with
  |none=>rw[h1] at hr; cases hr
  |some q =>
   cases h2:evE (callE efns given) fr y with
   |none=>rw[h1,h2] at hr; cases hr
   |some q2 =>
    cases h3:evE (callE efns given) fr z with
    |none=>rw[h1,h2,h3] at hr; cases hr
    |some q3 =>
     rw[h1,h2,h3] at hr
     obtain⟨n,hn⟩:=ih1 h1
     obtain⟨m,hm⟩:=ih2 h2
     obtain⟨p,hp⟩:=ih3 h3
     refine⟨max n (max m p),?_⟩
     unfold evE
     rw[up (by omega) hn,up (by omega) hm,up (by omega) hp]
     exact hr
 |lsub i l k j x y z w ih1 ih2 ih3 ih4 =>
  intro r hr
  unfold evE at hr
  cases h1:evE (callE efns given) fr x with
  |none=>rw[h1] at hr; cases hr
  |some q =>
   cases h2:evE (callE efns given) fr y with
   |none=>rw[h1,h2] at hr; cases hr
   |some q2 =>
    cases h3:evE (callE efns given) fr z with
    |none=>rw[h1,h2,h3] at hr; cases hr
    |some q3 =>
     cases h4:evE (callE efns given) fr w with
     |none=>rw[h1,h2,h3,h4] at hr; cases hr
     |some q4 =>
      rw[h1,h2,h3,h4] at hr
      obtain⟨n,hn⟩:=ih1 h1
      obtain⟨m,hm⟩:=ih2 h2
      obtain⟨p,hp⟩:=ih3 h3
      obtain⟨o,ho⟩:=ih4 h4
      refine⟨max (max n o) (max m p),?_⟩
      unfold evE
      rw[up (by omega) hn,up (by omega) hm,up (by omega) hp,up (by omega) ho]
      exact hr
 |cons x xs ih1 ih2 =>
  intro r hr
  unfold evE at hr
  cases h1:evE (callE efns given) fr x with
  |none=>rw[h1] at hr; cases hr
  |some q =>
   rw[h1] at hr
   simp only at hr
   cases h2:tupleOf (evE (callE efns given) fr xs) with
   |none=>rw[h2] at hr; cases hr
   |some vs =>
    rw[h2] at hr
    obtain⟨n,hn⟩:=ih1 h1
    obtain⟨m,hm⟩:=ih2 (tupleOf_some h2)
    refine⟨max n m,?_⟩
    unfold evE
    rw[up (Nat.le_max_left n m) hn,up (Nat.le_max_right n m) hm]
    exact hr
 |tup k xs ih =>
  intro r hr
  unfold evE at hr
  cases h2:tupleOf (evE (callE efns given) fr xs) with
  |none=>rw[h2] at hr; cases hr
  |some vs =>
   rw[h2] at hr
   obtain⟨n,hn⟩:=ih (tupleOf_some h2)
   obtain⟨m,hm⟩:=tupV_lim efns given k vs hr
   refine⟨max n m,?_⟩
   unfold evE
   rw[up (Nat.le_max_left n m) hn]
   exact tupV_mono (evFE_mle efns given (Nat.le_max_right n m)) k vs r hm
theorem tupE_lim (fr:Fr) (e:Exp) {vs:List PV} (hr:tupleOf (evE (callE efns given) fr e)=some vs) : ∃ n,tupleOf (evE (evFE efns given n) fr e)=some vs:=by
 obtain⟨n,hn⟩:=evE_lim efns given fr e (tupleOf_some hr)
 exact⟨n,by rw[hn]; rfl⟩
theorem evEff_lim (fr:Fr) (st:St) (op:EOp) {r:PV × St} (hr:evEff (callE efns given) fr st op=some r) : ∃ n,evEff (evFE efns given n) fr st op=some r:=by
 have one : ∀ {x:Exp} {q:PV},evE (callE efns given) fr x=some q -> ∃ n,evE (evFE efns given n) fr x=some q:=fun h=>evE_lim efns given fr _ h
 cases op with
 |box n T x =>
  simp only[evEff] at hr ⊢
  cases h1:evE (callE efns given) fr x with
  |none=>rw[h1] at hr; cases hr
  |some q=>rw[h1] at hr; obtain⟨k,hk⟩:=one h1; exact⟨k,by rw[hk]; exact hr⟩
 |zbox zs T=>exact⟨0,hr⟩
 |load n x =>
  simp only[evEff] at hr ⊢
  cases h1:evE (callE efns given) fr x with
  |none=>rw[h1] at hr; cases hr
  |some q=>rw[h1] at hr; obtain⟨k,hk⟩:=one h1; exact⟨k,by rw[hk]; exact hr⟩
 |store n x y =>
  simp only[evEff] at hr ⊢
  cases h1:evE (callE efns given) fr x with
  |none=>rw[h1] at hr; cases hr
  |some q =>
   cases h2:evE (callE efns given) fr y with
   |none=>rw[h1,h2] at hr; cases hr
   |some q2 =>
    rw[h1,h2] at hr
    obtain⟨k,hk⟩:=one h1
    obtain⟨m,hm⟩:=one h2
    refine⟨max k m,?_⟩
    rw[evE_mono (evFE_mle efns given (Nat.le_max_left k m)) fr _ _ hk,evE_mono (evFE_mle efns given (Nat.le_max_right k m)) fr _ _ hm]
    exact hr
 |append n b T x y =>
  simp only[evEff] at hr ⊢
  cases h1:evE (callE efns given) fr x with
  |none=>rw[h1] at hr; cases hr
  |some q =>
   cases h2:evE (callE efns given) fr y with
   |none=>rw[h1,h2] at hr; cases hr
   |some q2 =>
    rw[h1,h2] at hr
    obtain⟨k,hk⟩:=one h1
    obtain⟨m,hm⟩:=one h2
    refine⟨max k m,?_⟩
    rw[evE_mono (evFE_mle efns given (Nat.le_max_left k m)) fr _ _ hk,evE_mono (evFE_mle efns given (Nat.le_max_right k m)) fr _ _ hm]
    exact hr
 |happend n b T x y =>
  simp only[evEff] at hr ⊢
  cases h1:evE (callE efns given) fr x with
  |none=>rw[h1] at hr; cases hr
  |some q =>
   cases h2:evE (callE efns given) fr y with
   |none=>rw[h1,h2] at hr; cases hr
   |some q2 =>
    rw[h1,h2] at hr
    obtain⟨k,hk⟩:=one h1
    obtain⟨m,hm⟩:=one h2
    refine⟨max k m,?_⟩
    rw[evE_mono (evFE_mle efns given (Nat.le_max_left k m)) fr _ _ hk,evE_mono (evFE_mle efns given (Nat.le_max_right k m)) fr _ _ hm]
    exact hr
 |fill n x y =>
  simp only[evEff] at hr ⊢
  cases h1:evE (callE efns given) fr x with
  |none=>rw[h1] at hr; cases hr
  |some q =>
   cases h2:evE (callE efns given) fr y with
   |none=>rw[h1,h2] at hr; cases hr
   |some q2 =>
    rw[h1,h2] at hr
    obtain⟨k,hk⟩:=one h1
    obtain⟨m,hm⟩:=one h2
    refine⟨max k m,?_⟩
    rw[evE_mono (evFE_mle efns given (Nat.le_max_left k m)) fr _ _ hk,evE_mono (evFE_mle efns given (Nat.le_max_right k m)) fr _ _ hm]
    exact hr
 |pappend n b T x y v =>
  simp only[evEff] at hr ⊢
  cases h1:evE (callE efns given) fr x with
  |none=>rw[h1] at hr; cases hr
  |some q =>
   cases h2:evE (callE efns given) fr y with
   |none=>rw[h1,h2] at hr; cases hr
   |some q2 =>
    cases h3:evE (callE efns given) fr v with
    |none=>rw[h1,h2,h3] at hr; cases hr
    |some q3 =>
     rw[h1,h2,h3] at hr
     obtain⟨k,hk⟩:=one h1
     obtain⟨m,hm⟩:=one h2
     obtain⟨p,hp⟩:=one h3
     refine⟨max k (max m p),?_⟩
     rw[evE_mono (evFE_mle efns given (show k<=max k (max m p) by omega)) fr _ _ hk,evE_mono (evFE_mle efns given (show m<=max k (max m p) by omega)) fr _ _ hm,evE_mono (evFE_mle efns given (show p<=max k (max m p) by omega)) fr _ _ hp]
     exact hr
 |mark x =>
  simp only[evEff] at hr ⊢
  cases h1:evE (callE efns given) fr x with
  |none=>rw[h1] at hr; cases hr
  |some q=>rw[h1] at hr; obtain⟨k,hk⟩:=one h1; exact⟨k,by rw[hk]; exact hr⟩
 |bown n z len a xs =>
  simp only[evEff] at hr ⊢
  cases h1:tupleOf (evE (callE efns given) fr xs) with
  |none=>rw[h1] at hr; cases hr
  |some vs=>rw[h1] at hr; obtain⟨k,hk⟩:=tupE_lim efns given fr _ h1; exact⟨k,by rw[hk]; exact hr⟩
 |touns x =>
  simp only[evEff] at hr ⊢
  cases h1:evE (callE efns given) fr x with
  |none=>rw[h1] at hr; cases hr
  |some q=>rw[h1] at hr; obtain⟨k,hk⟩:=one h1; exact⟨k,by rw[hk]; exact hr⟩
 |fromuns n u x =>
  simp only[evEff] at hr ⊢
  cases h1:evE (callE efns given) fr x with
  |none=>rw[h1] at hr; cases hr
  |some q=>rw[h1] at hr; obtain⟨k,hk⟩:=one h1; exact⟨k,by rw[hk]; exact hr⟩
 |ustr T x y =>
  simp only[evEff] at hr ⊢
  cases h1:evE (callE efns given) fr x with
  |none=>rw[h1] at hr; cases hr
  |some q =>
   cases h2:evE (callE efns given) fr y with
   |none=>rw[h1,h2] at hr; cases hr
   |some q2 =>
    rw[h1,h2] at hr
    obtain⟨k,hk⟩:=one h1
    obtain⟨m,hm⟩:=one h2
    refine⟨max k m,?_⟩
    rw[evE_mono (evFE_mle efns given (Nat.le_max_left k m)) fr _ _ hk,evE_mono (evFE_mle efns given (Nat.le_max_right k m)) fr _ _ hm]
    exact hr
 |callo f xs =>
  simp only[evEff] at hr ⊢
  cases h1:tupleOf (evE (callE efns given) fr xs) with
  |none=>rw[h1] at hr; cases hr
  |some vs =>
   rw[h1] at hr
   obtain⟨k,hk⟩:=tupE_lim efns given fr _ h1
   simp only[calloV] at hr
   split at hr
   ·rename_i as has
    split at hr
    ·rename_i q st' hq
     obtain⟨m,hm⟩:=(callE_some efns given).1 hq
     refine⟨max k m,?_⟩
     rw[tupE_mono (evFE_mle efns given (Nat.le_max_left k m)) fr _ _ hk]
     simp only[calloV,has,evFE_mle efns given (Nat.le_max_right k m) _ _ _ _ hm]
     exact hr
    ·cases hr
   ·cases hr
 |calls raw f xs =>
  simp only[evEff] at hr ⊢
  cases h1:tupleOf (evE (callE efns given) fr xs) with
  |none=>rw[h1] at hr; cases hr
  |some vs =>
   rw[h1] at hr
   obtain⟨k,hk⟩:=tupE_lim efns given fr _ h1
   simp only[callsV] at hr
   split at hr
   ·rename_i as has
    obtain⟨m,hm⟩:=(callE_some efns given).1 hr
    refine⟨max k m,?_⟩
    rw[tupE_mono (evFE_mle efns given (Nat.le_max_left k m)) fr _ _ hk]
    simp only[callsV,has,evFE_mle efns given (Nat.le_max_right k m) _ _ _ _ hm]
   ·cases hr
 |callv x xs =>
  simp only[evEff] at hr ⊢
  cases h1:evE (callE efns given) fr x with
  |none=>rw[h1] at hr; cases hr
  |some q =>
   cases h2:tupleOf (evE (callE efns given) fr xs) with
   |none=>rw[h1,h2] at hr; cases hr
   |some vs =>
    rw[h1,h2] at hr
    obtain⟨k,hk⟩:=one h1
    obtain⟨m,hm⟩:=tupE_lim efns given fr _ h2
    simp only[callvV] at hr
    split at hr
    ·obtain⟨p,hp⟩:=(callE_some efns given).1 hr
     refine⟨max k (max m p),?_⟩
     rw[evE_mono (evFE_mle efns given (by omega)) fr _ _ hk,tupE_mono (evFE_mle efns given (by omega)) fr _ _ hm]
     simp only[callvV,evFE_mle efns given (show p<=max k (max m p) by omega) _ _ _ _ hp]
    ·cases hr
 |fail=>cases hr
theorem evSets_lim (fr:Fr) : ∀ (l:List (Nat × Exp)) {r:List (Nat × PV)},evSets (callE efns given) fr l=some r -> ∃ n,evSets (evFE efns given n) fr l=some r
 |[],r,hr=>⟨0,hr⟩
 |(s,e)::l,r,hr=>by
  unfold evSets at hr
  cases h1:evE (callE efns given) fr e with
  |none=>rw[h1] at hr; cases hr
  |some q =>
   cases h2:evSets (callE efns given) fr l with
   |none=>rw[h1,h2] at hr; cases hr
   |some q2 =>
    rw[h1,h2] at hr
    obtain⟨k,hk⟩:=evE_lim efns given fr _ h1
    obtain⟨m,hm⟩:=evSets_lim fr l h2
    refine⟨max k m,?_⟩
    unfold evSets
    rw[evE_mono (evFE_mle efns given (Nat.le_max_left k m)) fr _ _ hk,evSets_mono (evFE_mle efns given (Nat.le_max_right k m)) fr _ _ hm]
    exact hr
theorem evStmt_lim (s:EStmt) (fr:Fr) (st:St) {r:Fr × St} (hr:evStmt (callE efns given) s fr st=some r) : ∃ n,evStmt (evFE efns given n) s fr st=some r:=by
 cases s with
 |sets l =>
  simp only[evStmt] at hr ⊢
  cases h1:evSets (callE efns given) fr l with
  |none=>rw[h1] at hr; cases hr
  |some q=>rw[h1] at hr; obtain⟨k,hk⟩:=evSets_lim efns given fr l h1; exact⟨k,by rw[hk]; exact hr⟩
 |chk e =>
  simp only[evStmt] at hr ⊢
  cases h1:evE (callE efns given) fr e with
  |none=>rw[h1] at hr; cases hr
  |some q=>rw[h1] at hr; obtain⟨k,hk⟩:=evE_lim efns given fr e h1; exact⟨k,by rw[hk]; exact hr⟩
 |swap x y =>
  simp only[evStmt,swapV] at hr ⊢
  split at hr
  ·rename_i h1
   split at hr
   ·rename_i h2
    split at hr
    ·rename_i h3
     split at hr
     ·rename_i h4
      obtain⟨a,ha⟩:=evEff_lim efns given _ _ _ h1
      obtain⟨b,hb⟩:=evEff_lim efns given _ _ _ h2
      obtain⟨c,hc⟩:=evEff_lim efns given _ _ _ h3
      obtain⟨d,hd⟩:=evEff_lim efns given _ _ _ h4
      refine⟨max a (max b (max c d)),?_⟩
      rw[evEff_mono (evFE_mle efns given (show a<=max a (max b (max c d)) by omega)) _ _ _ _ ha]
      simp only
      rw[evEff_mono (evFE_mle efns given (show b<=max a (max b (max c d)) by omega)) _ _ _ _ hb]
      simp only
      rw[evEff_mono (evFE_mle efns given (show c<=max a (max b (max c d)) by omega)) _ _ _ _ hc]
      simp only
      rw[evEff_mono (evFE_mle efns given (show d<=max a (max b (max c d)) by omega)) _ _ _ _ hd]
      exact hr
     ·cases hr
    ·cases hr
   ·cases hr
  ·cases hr
 |eff d g op =>
  have key : ∀ {r:Fr × St},(match evEff (callE efns given) fr st op with|some (x,st')=>some (putF d x fr,st')|none=>none)=some r -> ∃ n,(match evEff (evFE efns given n) fr st op with|some (x,st')=>some (putF d x fr,st')|none=>none)=some r:=by
   intro r hr
   cases h1:evEff (callE efns given) fr st op with
   |none=>rw[h1] at hr; cases hr
   |some q=>rw[h1] at hr; obtain⟨k,hk⟩:=evEff_lim efns given fr st op h1; exact⟨k,by rw[hk]; exact hr⟩
  cases g with
  |none=>exact key hr
  |some g =>
   obtain⟨g,b⟩:=g
   simp only[evStmt] at hr ⊢
   cases h1:evE (callE efns given) fr g with
   |none=>rw[h1] at hr; cases hr
   |some q =>
    rw[h1] at hr
    obtain⟨k,hk⟩:=evE_lim efns given fr g h1
    simp only at hr
    split at hr
    ·rename_i hg
     obtain⟨m,hm⟩:=key hr
     have h2:evStmt (evFE efns given m) (.eff d none op) fr st=some r:=hm
     refine⟨max k m,?_⟩
     rw[evE_mono (evFE_mle efns given (Nat.le_max_left k m)) fr _ _ hk]
     simp only[hg]
     exact evStmt_mono (evFE_mle efns given (Nat.le_max_right k m)) (.eff d none op) fr st _ h2
    ·rename_i hg
     exact⟨k,by rw[hk]; simp only[hg]; exact hr⟩
    ·cases hr
theorem evStmts_lim : ∀ (l:List EStmt) (fr:Fr) (st:St) {r:Fr × St},evStmts (callE efns given) l fr st=some r -> ∃ n,evStmts (evFE efns given n) l fr st=some r
 |[],fr,st,r,hr=>⟨0,hr⟩
 |s::l,fr,st,r,hr=>by
  unfold evStmts at hr
  cases h1:evStmt (callE efns given) s fr st with
  |none=>rw[h1] at hr; cases hr
  |some q =>
   rw[h1] at hr
   obtain⟨k,hk⟩:=evStmt_lim efns given s fr st h1
   obtain⟨m,hm⟩:=evStmts_lim l q.1 q.2 hr
   refine⟨max k m,?_⟩
   unfold evStmts
   rw[evStmt_mono (evFE_mle efns given (Nat.le_max_left k m)) s fr st _ hk]
   exact evStmts_mono (evFE_mle efns given (Nat.le_max_right k m)) l _ _ _ hm
theorem evRes_lim (fr:Fr) (st:St) (e:ERes) {r:PV} (hr:evRes (callE efns given) fr st e=some r) : ∃ n,evRes (evFE efns given n) fr st e=some r:=by
 cases e with
 |e x=>exact evE_lim efns given fr x hr
 |cell x k =>
  simp only[evRes] at hr ⊢
  split at hr
  ·rename_i hx
   obtain⟨n,hn⟩:=evE_lim efns given fr x hx
   exact⟨n,by rw[hn]; exact hr⟩
  ·cases hr
theorem evRess_lim (fr:Fr) (st:St) : ∀ (l:List ERes) {r:List PV},mapO (evRes (callE efns given) fr st) l=some r -> ∃ n,mapO (evRes (evFE efns given n) fr st) l=some r
 |[],r,hr=>⟨0,hr⟩
 |e::l,r,hr=>by
  unfold mapO at hr
  cases h1:evRes (callE efns given) fr st e with
  |none=>rw[h1] at hr; cases hr
  |some q =>
   cases h2:mapO (evRes (callE efns given) fr st) l with
   |none=>rw[h1,h2] at hr; cases hr
   |some q2 =>
    rw[h1,h2] at hr
    obtain⟨k,hk⟩:=evRes_lim efns given fr st e h1
    obtain⟨m,hm⟩:=evRess_lim fr st l h2
    refine⟨max k m,?_⟩
    unfold mapO
    rw[evRes_mono (evFE_mle efns given (Nat.le_max_left k m)) fr st e _ hk,mapO_mono (fun e=>evRes_mono (evFE_mle efns given (Nat.le_max_right k m)) fr st e) l _ hm]
    exact hr
theorem evRets_lim (rs:List ERes) (fr:Fr) (st:St) {r:PV} (hr:evRets (callE efns given) rs fr st=some r) : ∃ n,evRets (evFE efns given n) rs fr st=some r:=by
 unfold evRets at hr
 obtain⟨q,hq,rfl⟩:=Option.map_eq_some_iff.1 hr
 obtain⟨n,hn⟩:=evRess_lim efns given fr st rs hq
 exact⟨n,by unfold evRets; rw[hn]; rfl⟩
noncomputable def loopE (step:Fr->St->ERs) (fr:Fr) (st:St):ERs:=lim fun n=>iterE step n fr st
theorem loopE_some {step:Fr->St->ERs} {fr:Fr} {st:St} {r:EX × Fr × St}:loopE step fr st=some r ↔ ∃ n,iterE step n fr st=some r :=
 lim_some fun _ _ h=>iterE_mono (fun _ _=>LeO.rfl) _ _ h _ _
theorem loopE_eq (step:Fr->St->ERs) (fr:Fr) (st:St):loopE step fr st=(match step fr st with
  |some (.normal,fr',st')=>loopE step fr' st'
  |some (.exit i,fr',st')=>some (.exit i,fr',st')
  |some (.ret v,fr',st')=>some (.ret v,fr',st')
  |none=>none):=by
 apply Option.ext
 intro r
 rw[loopE_some]
 constructor
 ·rintro⟨n,hn⟩
  cases n with
  |zero=>cases hn
  |succ n =>
   unfold iterE at hn
   cases h1:step fr st with
   |none=>rw[h1] at hn; cases hn
   |some q =>
    rw[h1] at hn
    obtain⟨x,fr',st'⟩:=q
    cases x with
    |normal=>exact loopE_some.2 ⟨n,hn⟩
    |exit i=>exact hn
    |ret=>exact hn
 ·intro hr
  cases h1:step fr st with
  |none=>rw[h1] at hr; cases hr
  |some q =>
   rw[h1] at hr
   obtain⟨x,fr',st'⟩:=q
   cases x with
   |normal =>
    obtain⟨n,hn⟩:=loopE_some.1 hr
    exact⟨n+1,by unfold iterE; rw[h1]; exact hn⟩
   |exit i=>exact⟨1,by unfold iterE; rw[h1]; exact hr⟩
   |ret=>exact⟨1,by unfold iterE; rw[h1]; exact hr⟩
end
noncomputable def evSW (cl:CallF):EC->Fr->St->ERs
 |.st l,fr,st=>match evStmts cl l fr st with
  |some (fr',st')=>some (.normal,fr',st')
  |none=>none
 |.seq a b,fr,st=>match evSW cl a fr st with
  |some (.normal,fr',st')=>evSW cl b fr' st'
  |some (.exit i,fr',st')=>some (.exit i,fr',st')
  |some (.ret v,fr',st')=>some (.ret v,fr',st')
  |none=>none
 |.cond x a b,fr,st=>match evE cl fr x with
  |some (.bool c)=>if c then evSW cl a fr st else evSW cl b fr st
  |_=>none
 |.choose m T a b,fr,st=>bothE m (evSW cl a fr (St.pick T st)) (evSW cl b fr (St.pick T st))
 |.block id a,fr,st=>match evSW cl a fr st with
  |some (.exit i,fr',st')=>if i=id then some (.normal,fr',st') else some (.exit i,fr',st')
  |some (.normal,fr',st')=>some (.normal,fr',st')
  |some (.ret v,fr',st')=>some (.ret v,fr',st')
  |none=>none
 |.loop m a,fr,st=>loopE (fun fr st=>roundE m (evSW cl a fr st)) (mask m fr) st
 |.exit id,fr,st=>some (.exit id,fr,st)
 |.ret rs,fr,st=>match evRets cl rs fr st with
  |some v=>some (.ret v,[],st)
  |none=>none
 |.skip,fr,st=>some (.normal,fr,st)
theorem evS_le_evSW {c c':CallF} (h:LeC c c') (n:Nat) : ∀ (a:EC) (fr:Fr) (st:St),LeO (evS c n a fr st) (evSW c' a fr st)
 |.st l,fr,st=>by
  intro r hr
  unfold evS at hr
  unfold evSW
  cases h1:evStmts c l fr st with
  |none=>rw[h1] at hr; cases hr
  |some q=>rw[h1] at hr; rw[evStmts_mono h _ _ _ _ h1]; exact hr
 |.seq a b,fr,st=>by
  intro r hr
  unfold evS at hr
  unfold evSW
  cases h1:evS c n a fr st with
  |none=>rw[h1] at hr; cases hr
  |some q =>
   rw[h1] at hr; rw[evS_le_evSW h n a _ _ _ h1]
   obtain⟨x,fr',st'⟩:=q
   cases x with
   |normal=>exact evS_le_evSW h n b _ _ r hr
   |exit i=>exact hr
   |ret=>exact hr
 |.cond x a b,fr,st=>by
  intro r hr
  unfold evS at hr
  unfold evSW
  split at hr
  ·rename_i cc hx
   rw[evE_mono h _ _ _ hx]
   cases cc with
   |true=>exact evS_le_evSW h n a _ _ r hr
   |false=>exact evS_le_evSW h n b _ _ r hr
  ·cases hr
 |.choose k T a b,fr,st=>by
  intro r hr
  unfold evS at hr
  unfold evSW
  exact bothE_le (evS_le_evSW h n a _ _) (evS_le_evSW h n b _ _) r hr
 |.block id a,fr,st=>by
  intro r hr
  unfold evS at hr
  unfold evSW
  cases h1:evS c n a fr st with
  |none=>rw[h1] at hr; cases hr
  |some q=>rw[h1] at hr; rw[evS_le_evSW h n a _ _ _ h1]; exact hr
 |.loop k a,fr,st=>by
  intro r hr
  unfold evS at hr
  unfold evSW
  exact loopE_some.2 ⟨n,iterE_mono (fun fr st=>roundE_mono (evS_le_evSW h n a fr st)) n n (Nat.le_refl n) _ _ r hr⟩
 |.exit id,fr,st=>LeO.rfl
 |.ret rs,fr,st=>by
  intro r hr
  unfold evS at hr
  unfold evSW
  cases h1:evRets c rs fr st with
  |none=>rw[h1] at hr; cases hr
  |some q=>rw[h1] at hr; rw[evRets_mono h _ _ _ _ h1]; exact hr
 |.skip,fr,st=>LeO.rfl
theorem iterE_lim {S:Fr->St->ERs} {s:Nat->Fr->St->ERs} (hs : ∀ k m,k<=m -> ∀ fr st,LeO (s k fr st) (s m fr st)) (h : ∀ fr st r,S fr st=some r -> ∃ k,s k fr st=some r) :
  ∀ (n:Nat) (fr:Fr) (st:St) (r:EX × Fr × St),iterE S n fr st=some r -> ∃ k,iterE (s k) k fr st=some r
 |0,_,_,_,hr=>by cases hr
 |n+1,fr,st,r,hr=>by
  unfold iterE at hr
  cases h1:S fr st with
  |none=>rw[h1] at hr; cases hr
  |some q =>
   rw[h1] at hr
   obtain⟨k,hk⟩:=h _ _ _ h1
   obtain⟨x,fr',st'⟩:=q
   cases x with
   |normal =>
    obtain⟨m,hm⟩:=iterE_lim hs h n fr' st' r hr
    refine⟨max k m+1,?_⟩
    unfold iterE
    rw[hs k (max k m+1) (by omega) _ _ _ hk]
    exact iterE_mono (fun fr st=>hs m (max k m+1) (by omega) fr st) m (max k m) (by omega) _ _ _ hm
   |exit i=>exact⟨k+1,by unfold iterE; rw[hs k (k+1) (by omega) _ _ _ hk]; exact hr⟩
   |ret=>exact⟨k+1,by unfold iterE; rw[hs k (k+1) (by omega) _ _ _ hk]; exact hr⟩
section
variable (efns:FuncId->Option EFunc) (given:FuncId->List PV->Option PV)
theorem evSW_lim : ∀ (a:EC) (fr:Fr) (st:St) {r:EX × Fr × St},evSW (callE efns given) a fr st=some r -> ∃ k,evS (evFE efns given k) k a fr st=some r
 |.st l,fr,st,r,hr=>by
  unfold evSW at hr
  cases h1:evStmts (callE efns given) l fr st with
  |none=>rw[h1] at hr; cases hr
  |some q =>
   obtain⟨k,hk⟩:=evStmts_lim efns given l fr st h1
   rw[h1] at hr
   exact⟨k,by unfold evS; rw[hk]; exact hr⟩
 |.seq a b,fr,st,r,hr=>by
  unfold evSW at hr
  cases h1:evSW (callE efns given) a fr st with
  |none=>rw[h1] at hr; cases hr
  |some q =>
   rw[h1] at hr
   obtain⟨k,hk⟩:=evSW_lim a fr st h1
   obtain⟨x,fr',st'⟩:=q
   cases x with
   |normal =>
    obtain⟨m,hm⟩:=evSW_lim b fr' st' hr
    refine⟨max k m,?_⟩
    unfold evS
    rw[evS_mono (evFE_mle efns given (Nat.le_max_left k m)) (Nat.le_max_left k m) a _ _ _ hk]
    exact evS_mono (evFE_mle efns given (Nat.le_max_right k m)) (Nat.le_max_right k m) b _ _ _ hm
   |exit i=>exact⟨k,by unfold evS; rw[hk]; exact hr⟩
   |ret v=>exact⟨k,by unfold evS; rw[hk]; exact hr⟩
 |.cond x a b,fr,st,r,hr=>by
  unfold evSW at hr
  split at hr
  ·rename_i cc hx
   obtain⟨k,hk⟩:=evE_lim efns given fr x hx
   cases cc with
   |true =>
    obtain⟨m,hm⟩:=evSW_lim a fr st hr
    refine⟨max k m,?_⟩
    unfold evS
    rw[evE_mono (evFE_mle efns given (Nat.le_max_left k m)) fr _ _ hk]
    exact evS_mono (evFE_mle efns given (Nat.le_max_right k m)) (Nat.le_max_right k m) a _ _ _ hm
   |false =>
    obtain⟨m,hm⟩:=evSW_lim b fr st hr
    refine⟨max k m,?_⟩
    unfold evS
    rw[evE_mono (evFE_mle efns given (Nat.le_max_left k m)) fr _ _ hk]
    exact evS_mono (evFE_mle efns given (Nat.le_max_right k m)) (Nat.le_max_right k m) b _ _ _ hm
  ·cases hr
 |.choose q T a b,fr,st,r,hr=>by
  unfold evSW at hr
  obtain⟨f,g,s,h1,h2,rfl,h3⟩:=bothE_some hr
  obtain⟨k,hk⟩:=evSW_lim a _ _ h1
  obtain⟨m,hm⟩:=evSW_lim b _ _ h2
  refine⟨max k m,?_⟩
  unfold evS
  rw[evS_mono (evFE_mle efns given (Nat.le_max_left k m)) (Nat.le_max_left k m) _ _ _ _ hk,evS_mono (evFE_mle efns given (Nat.le_max_right k m)) (Nat.le_max_right k m) _ _ _ _ hm]
  exact bothE_eq h3
 |.block id a,fr,st,r,hr=>by
  unfold evSW at hr
  cases h1:evSW (callE efns given) a fr st with
  |none=>rw[h1] at hr; cases hr
  |some q =>
   rw[h1] at hr
   obtain⟨k,hk⟩:=evSW_lim a fr st h1
   exact⟨k,by unfold evS; rw[hk]; exact hr⟩
 |.loop m a,fr,st,r,hr=>by
  unfold evSW at hr
  obtain⟨n,hn⟩:=loopE_some.1 hr
  obtain⟨k,hk⟩:=iterE_lim (s:=fun k fr st=>roundE m (evS (evFE efns given k) k a fr st)) (fun k j hkj fr st=>roundE_mono (evS_mono (evFE_mle efns given hkj) hkj a fr st)) (fun fr st r hr=>by
   cases h1:evSW (callE efns given) a fr st with
   |none=>rw[h1] at hr; cases hr
   |some q =>
    obtain⟨k,hk⟩:=evSW_lim a fr st h1
    exact⟨k,by rw[hk,<- h1]; exact hr⟩) n _ _ _ hn
  exact⟨k,by unfold evS; exact hk⟩
 |.exit id,fr,st,r,hr=>⟨0,hr⟩
 |.ret rs,fr,st,r,hr=>by
  unfold evSW at hr
  cases h1:evRets (callE efns given) rs fr st with
  |none=>rw[h1] at hr; cases hr
  |some q =>
   obtain⟨k,hk⟩:=evRets_lim efns given rs fr st h1
   rw[h1] at hr
   exact⟨k,by unfold evS; rw[hk]; exact hr⟩
 |.skip,fr,st,r,hr=>⟨0,hr⟩
noncomputable def runE {α : Type} (cl:CallF) (c:EC) (fr:Fr) (st:St) (K:EX->Fr->St->Option α):Option α :=
 match evSW cl c fr st with
 |some (x,fr',st')=>K x fr' st'
 |none=>none
def retK:EX->Fr->St->Option (PV × St)
 |.ret v,_,st=>some (v,st)
 |_,_,_=>none
theorem callE_fn {f:FuncId} {c:EFunc} (hf:efns f=some c) {as:List PV} (ha:as.length=c.np) (st:St):callE efns given f as st=runE (callE efns given) c.body (startE c.nslots as) st retK:=by
 apply Option.ext
 intro r
 rw[callE_some]
 constructor
 ·rintro⟨k,hk⟩
  cases k with
  |zero=>cases hk
  |succ k =>
   unfold evFE at hk
   rw[hf] at hk
   simp only[ha,if_true] at hk
   split at hk
   ·rename_i h1
    cases hk
    unfold runE
    rw[evS_le_evSW (evFE_le_callE efns given k) k _ _ _ _ h1]
    rfl
   ·cases hk
 ·intro hr
  unfold runE at hr
  split at hr
  ·rename_i x fr' st' h1
   obtain⟨k,hk⟩:=evSW_lim efns given c.body _ _ h1
   refine⟨k+1,?_⟩
   unfold evFE
   rw[hf]
   simp only[ha,if_true,hk]
   cases x with
   |ret v=>exact hr
   |normal=>cases hr
   |exit i=>cases hr
  ·cases hr
end
section
variable {α : Type} {cl:CallF} {fr:Fr} {st:St} {K:EX->Fr->St->Option α}
theorem runE_st {l:List EStmt}:runE cl (.st l) fr st K=(match evStmts cl l fr st with
  |some (fr',st')=>K .normal fr' st'
  |none=>none):=by
 unfold runE evSW
 cases evStmts cl l fr st <;> rfl
def seqK (k:Fr->St->Option α) (K:EX->Fr->St->Option α):EX->Fr->St->Option α
 |.normal,fr,st=>k fr st
 |.exit i,fr,st=>K (.exit i) fr st
 |.ret v,fr,st=>K (.ret v) fr st
theorem runE_seq {a b:EC}:runE cl (.seq a b) fr st K=runE cl a fr st (seqK (fun fr st=>runE cl b fr st K) K):=by
 conv=>lhs; unfold runE evSW
 unfold runE
 cases evSW cl a fr st with
 |none=>rfl
 |some q =>
  obtain⟨x,fr',st'⟩:=q
  cases x <;> rfl
theorem runE_cond {e:Exp} {a b:EC}:runE cl (.cond e a b) fr st K=(match evE cl fr e with
  |some (.bool true)=>runE cl a fr st K
  |some (.bool false)=>runE cl b fr st K
  |_=>none):=by
 conv=>lhs; unfold runE evSW
 unfold runE
 cases evE cl fr e with
 |none=>rfl
 |some v =>
  cases v with
  |bool c=>cases c <;> rfl
  |_=>rfl
def idK:EX->Fr->St->ERs:=fun x fr st=>some (x,fr,st)
def bothK (K:EX->Fr->St->Option α):ERs->Option α
 |some (x,fr,st)=>K x fr st
 |none=>none
theorem runE_choose {m:List Bool} {T:TypeId} {a b:EC}:runE cl (.choose m T a b) fr st K=bothK K (bothE m (runE cl a fr (St.pick T st) idK) (runE cl b fr (St.pick T st) idK)):=by
 have e : ∀ (c:EC) (fr:Fr) (st:St),runE cl c fr st idK=evSW cl c fr st:=by
  intro c fr st
  unfold runE idK
  cases evSW cl c fr st <;> rfl
 rw[e,e]
 conv=>lhs; unfold runE evSW
 cases bothE m (evSW cl a fr (St.pick T st)) (evSW cl b fr (St.pick T st)) <;> rfl
def blockK (id:Nat) (K:EX->Fr->St->Option α):EX->Fr->St->Option α
 |.normal,fr,st=>K .normal fr st
 |.exit i,fr,st=>if i=id then K .normal fr st else K (.exit i) fr st
 |.ret v,fr,st=>K (.ret v) fr st
theorem runE_block {id:Nat} {a:EC}:runE cl (.block id a) fr st K=runE cl a fr st (blockK id K):=by
 conv=>lhs; unfold runE evSW
 unfold runE
 cases evSW cl a fr st with
 |none=>rfl
 |some q =>
  obtain⟨x,fr',st'⟩:=q
  cases x with
  |exit i =>
   simp only[blockK]
   by_cases h:i=id
   ·simp only[h,if_true]
   ·simp only[h,if_false]
  |_=>rfl
theorem runE_exit {id:Nat}:runE cl (.exit id) fr st K=K (.exit id) fr st:=rfl
theorem runE_skip:runE cl .skip fr st K=K .normal fr st:=rfl
theorem runE_ret {rs:List ERes}:runE cl (.ret rs) fr st K=(match evRets cl rs fr st with
  |some v=>K (.ret v) [] st
  |none=>none):=by
 unfold runE evSW
 cases evRets cl rs fr st <;> rfl
noncomputable def runL (cl:CallF) (m:List Bool) (a:EC) (fr:Fr) (st:St) (K:EX->Fr->St->Option α):Option α :=
 match loopE (fun fr st=>roundE m (evSW cl a fr st)) fr st with
 |some (x,fr',st')=>K x fr' st'
 |none=>none
theorem runE_loop {m:List Bool} {a:EC}:runE cl (.loop m a) fr st K=runL cl m a (mask m fr) st K:=by
 conv=>lhs; unfold runE evSW
 rfl
theorem runL_eq {m:List Bool} {a:EC}:runL cl m a fr st K=runE cl a fr st (seqK (fun fr st=>runL cl m a (mask m fr) st K) K):=by
 conv=>lhs; unfold runL
 rw[loopE_eq]
 unfold runE
 cases evSW cl a fr st with
 |none=>rfl
 |some q =>
  obtain⟨x,fr',st'⟩:=q
  cases x <;> rfl
end
end Go.Proofs.YthjnlpfibakacaaGreatDoorPe
