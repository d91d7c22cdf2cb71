/- A part of the proof of this folder's statement; it has no condition of its own. -/
import Derived.Test.YthjnlpfibakacaaGreatDoorEc
import Derived.Test.YthjnlpfibakacaaGreatDoorPeLim
import Derived.Test.YthjnlpfibakacaaGreatDoorPePure0
set_option linter.unusedVariables false
set_option linter.unusedSimpArgs false
namespace Go.Proofs.YthjnlpfibakacaaGreatDoorPe
open Go
def TOp.same:TOp->TOp->Bool
 |.call m f,.call m' f'=>decide (m=m')&&decide (f=f')
 |.build zs a,.build zs' a'=>PV.sames zs zs'&&decide (a=a')
 |.bslice n z l a,.bslice n' z' l' a'=>decide (n=n')&&(PV.sames z z'&&(decide (l=l')&&decide (a=a')))
 |.mkfn f,.mkfn f'=>decide (f=f')
 |.apart,.apart=>true
 |_,_=>false
theorem TOp.eq_of_same {a b:TOp} (h:TOp.same a b=true):a=b:=by
 cases a <;> cases b <;> simp only[TOp.same,Bool.and_eq_true,decide_eq_true_eq,Bool.false_eq_true] at h
 ·rw[h.1,h.2]
 ·rw[PV.eq_of_sames _ _ h.1,h.2]
 ·rw[h.1,PV.eq_of_sames _ _ h.2.1,h.2.2.1,h.2.2.2]
 ·rw[h]
 ·rfl
def Exp.same:Exp->Exp->Bool
 |.v s,.v s'=>decide (s=s')
 |.c x,.c y=>PV.same x y
 |.gd b g e,.gd b' g' e'=>(b==b')&&(Exp.same g g'&&Exp.same e e')
 |.pick g a b,.pick g' a' b'=>Exp.same g g'&&(Exp.same a a'&&Exp.same b b')
 |.un u x,.un u' x'=>decide (u=u')&&Exp.same x x'
 |.bi b x y,.bi b' x' y'=>decide (b=b')&&(Exp.same x x'&&Exp.same y y')
 |.ssub l h x y z,.ssub l' h' x' y' z'=>(l==l')&&((h==h')&&(Exp.same x x'&&(Exp.same y y'&&Exp.same z z')))
 |.lsub n l h m x y z w,.lsub n' l' h' m' x' y' z' w'=>decide (n=n')&&((l==l')&&((h==h')&&((m==m')&&(Exp.same x x'&&(Exp.same y y'&&(Exp.same z z'&&Exp.same w w'))))))
 |.nil,.nil=>true
 |.cons x xs,.cons x' xs'=>Exp.same x x'&&Exp.same xs xs'
 |.tup k xs,.tup k' xs'=>TOp.same k k'&&Exp.same xs xs'
 |_,_=>false
theorem Exp.eq_of_same : ∀ {a b:Exp},Exp.same a b=true->a=b:=by
 intro a
 induction a with
 |v s=>intro b h; cases b <;> simp only[Exp.same,decide_eq_true_eq,Bool.false_eq_true] at h; rw[h]
 |c x=>intro b h; cases b <;> simp only[Exp.same,Bool.false_eq_true] at h; rw[PV.eq_of_same _ _ h]
 |gd b g e ih1 ih2=>intro b h; cases b <;> simp only[Exp.same,Bool.and_eq_true,beq_iff_eq,Bool.false_eq_true] at h; rw[h.1,ih1 h.2.1,ih2 h.2.2]
 |pick g a b ih1 ih2 ih3=>intro b h; cases b <;> simp only[Exp.same,Bool.and_eq_true,Bool.false_eq_true] at h; rw[ih1 h.1,ih2 h.2.1,ih3 h.2.2]
 |un u x ih=>intro b h; cases b <;> simp only[Exp.same,Bool.and_eq_true,decide_eq_true_eq,Bool.false_eq_true] at h; rw[h.1,ih h.2]
 |bi o x y ih1 ih2=>intro b h; cases b <;> simp only[Exp.same,Bool.and_eq_true,decide_eq_true_eq,Bool.false_eq_true] at h; rw[h.1,ih1 h.2.1,ih2 h.2.2]
 |ssub l k x y z ih1 ih2 ih3=>intro b h; cases b <;> simp only[Exp.same,Bool.and_eq_true,beq_iff_eq,Bool.false_eq_true] at h; rw[h.1,h.2.1,ih1 h.2.2.1,ih2 h.2.2.2.1,ih3 h.2.2.2.2]
 |lsub n l k m x y z w ih1 ih2 ih3 ih4 =>
  intro b h; cases b <;> simp only[Exp.same,Bool.and_eq_true,beq_iff_eq,decide_eq_true_eq,Bool.false_eq_true] at h
  rw[h.1,h.2.1,h.2.2.1,h.2.2.2.1,ih1 h.2.2.2.2.1,ih2 h.2.2.2.2.2.1,ih3 h.2.2.2.2.2.2.1,ih4 h.2.2.2.2.2.2.2]
 |nil=>intro b h; cases b <;> simp only[Exp.same,Bool.false_eq_true] at h; rfl
 |cons x xs ih1 ih2=>intro b h; cases b <;> simp only[Exp.same,Bool.and_eq_true,Bool.false_eq_true] at h; rw[ih1 h.1,ih2 h.2]
 |tup k xs ih=>intro b h; cases b <;> simp only[Exp.same,Bool.and_eq_true,Bool.false_eq_true] at h; rw[TOp.eq_of_same h.1,ih h.2]
def atom:Exp->Bool
 |.v _=>true
 |.c _=>true
 |_=>false
def Exp.covers:Exp->Exp->Bool
 |.v _,_=>false
 |.c _,_=>false
 |.nil,_=>false
 |.gd b g x,p=>Exp.same (.gd b g x) p||(g.covers p||(match p with
  |.gd b' g' q=>(b==b')&&(Exp.same g g'&&(atom q||(Exp.same x q||x.covers q)))
  |_=>false))
 |.pick g x y,p=>Exp.same (.pick g x y) p||(g.covers p||(match p with
  |.gd true g' q=>Exp.same g g'&&(atom q||(Exp.same x q||x.covers q))
  |.gd false g' q=>Exp.same g g'&&(atom q||(Exp.same y q||y.covers q))
  |_=>false))
 |.un u x,p=>Exp.same (.un u x) p||x.covers p
 |.bi b x y,p=>Exp.same (.bi b x y) p||(x.covers p||y.covers p)
 |.ssub l h x y z,p=>Exp.same (.ssub l h x y z) p||(x.covers p||(y.covers p||z.covers p))
 |.lsub n l h m x y z w,p=>Exp.same (.lsub n l h m x y z w) p||(x.covers p||(y.covers p||(z.covers p||w.covers p)))
 |.cons x xs,p=>x.covers p||xs.covers p
 |.tup k xs,p=>Exp.same (.tup k xs) p||xs.covers p
theorem atom_ok {cl:CallF} {fr:Fr} {e:Exp} (h:atom e=true) : ∃ v,evE cl fr e=some v:=by
 cases e <;> first|(cases h; done)|exact⟨_,rfl⟩
theorem tupleOf_some {o:Option PV} {vs:List PV} (h:tupleOf o=some vs):o=some (.tuple vs):=by
 unfold tupleOf at h
 split at h
 ·cases h; rfl
 ·cases h
theorem covers_ok {cl:CallF} {fr:Fr} : ∀ {e p:Exp} {v:PV},e.covers p=true->evE cl fr e=some v -> ∃ u,evE cl fr p=some u:=by
 intro e
 induction e with
 |v s=>intro p v h; cases h
 |c x=>intro p v h; cases h
 |nil=>intro p v h; cases h
 |gd b g x ihg ihx =>
  intro p v h he
  unfold Exp.covers at h
  simp only[Bool.or_eq_true] at h
  rcases h with h|h|h
  ·rw[<- Exp.eq_of_same h]; exact⟨_,he⟩
  ·unfold evE at he
   cases h1:evE cl fr g with
   |none=>rw[h1] at he; cases he
   |some c=>exact ihg h h1
  ·split at h
   ·rename_i b' g' q
    simp only[Bool.and_eq_true,beq_iff_eq,Bool.or_eq_true] at h
    obtain⟨rfl,h2,h3⟩:=h
    obtain rfl:=Exp.eq_of_same h2
    unfold evE at he ⊢
    cases h1:evE cl fr g with
    |none=>rw[h1] at he; cases he
    |some c =>
     rw[h1] at he
     simp only at he ⊢
     split at he
     ·rename_i hg
      rcases h3 with h3|h3|h3
      ·exact atom_ok h3
      ·obtain rfl:=Exp.eq_of_same h3
       exact⟨_,he⟩
      ·exact ihx h3 he
     ·exact⟨_,rfl⟩
     ·cases he
   ·cases h
 |pick g x y ihg ihx ihy =>
  intro p v h he
  unfold Exp.covers at h
  simp only[Bool.or_eq_true] at h
  rcases h with h|h|h
  ·rw[<- Exp.eq_of_same h]; exact⟨_,he⟩
  ·unfold evE at he
   cases h1:evE cl fr g with
   |none=>rw[h1] at he; cases he
   |some c=>exact ihg h h1
  ·split at h
   ·rename_i g' q
    simp only[Bool.and_eq_true,Bool.or_eq_true] at h
    obtain⟨h2,h3⟩:=h
    obtain rfl:=Exp.eq_of_same h2
    unfold evE at he ⊢
    split at he
    ·rename_i hg
     rw[hg]
     simp only[guardV]
     rcases h3 with h3|h3|h3
     ·exact atom_ok h3
     ·obtain rfl:=Exp.eq_of_same h3
      exact⟨_,he⟩
     ·exact ihx h3 he
    ·rename_i hg
     rw[hg]
     exact⟨_,rfl⟩
    ·cases he
   ·rename_i g' q
    simp only[Bool.and_eq_true,Bool.or_eq_true] at h
    obtain⟨h2,h3⟩:=h
    obtain rfl:=Exp.eq_of_same h2
    unfold evE at he ⊢
    split at he
    ·rename_i hg
     rw[hg]
     exact⟨_,rfl⟩
    ·rename_i hg
     rw[hg]
     simp only[guardV]
     rcases h3 with h3|h3|h3
     ·exact atom_ok h3
     ·obtain rfl:=Exp.eq_of_same h3
      exact⟨_,he⟩
     ·exact ihy h3 he
    ·cases he
   ·cases h
 |un u x ih =>
  intro p v h he
  unfold Exp.covers at h
  simp only[Bool.or_eq_true] at h
  rcases h with h|h
  ·rw[<- Exp.eq_of_same h]; exact⟨_,he⟩
  ·unfold evE at he
   cases h1:evE cl fr x with
   |none=>rw[h1] at he; cases he
   |some c=>exact ih h h1
 |bi b x y ih1 ih2 =>
  intro p v h he
  unfold Exp.covers at h
  simp only[Bool.or_eq_true] at h
  rcases h with h|h
  ·rw[<- Exp.eq_of_same h]; exact⟨_,he⟩
  ·unfold evE at he
   cases h1:evE cl fr x with
   |none=>rw[h1] at he; cases he
   |some c =>
    rw[h1] at he
    cases h2:evE cl fr y with
    |none=>rw[h2] at he; cases he
    |some d=>exact h.elim (fun h=>ih1 h h1) (fun h=>ih2 h h2)
 |ssub l k x y z ih1 ih2 ih3 =>
  intro p v h he
  unfold Exp.covers at h
  simp only[Bool.or_eq_true] at h
  rcases h with h|h
  ·rw[<- Exp.eq_of_same h]; exact⟨_,he⟩
  ·unfold evE at he
   cases h1:evE cl fr x with
   |none=>rw[h1] at he; cases he
   |some c =>
    rw[h1] at he
    cases h2:evE cl fr y with
    |none=>rw[h2] at he; cases he
    |some d =>
     rw[h2] at he
     cases h3:evE cl fr z with
     |none=>rw[h3] at he; cases he
     |some d=>exact h.elim (fun h=>ih1 h h1) (fun h=>h.elim (fun h=>ih2 h h2) (fun h=>ih3 h h3))
 |lsub n l k m x y z w ih1 ih2 ih3 ih4 =>
  intro p v h he
  unfold Exp.covers at h
  simp only[Bool.or_eq_true] at h
  rcases h with h|h
  ·rw[<- Exp.eq_of_same h]; exact⟨_,he⟩
  ·unfold evE at he
   cases h1:evE cl fr x with
   |none=>rw[h1] at he; cases he
   |some c =>
    rw[h1] at he
    cases h2:evE cl fr y with
    |none=>rw[h2] at he; cases he
    |some d =>
     rw[h2] at he
     cases h3:evE cl fr z with
     |none=>rw[h3] at he; cases he
     |some d =>
      rw[h3] at he
      cases h4:evE cl fr w with
      |none=>rw[h4] at he; cases he
      |some d=>exact h.elim (fun h=>ih1 h h1) (fun h=>h.elim (fun h=>ih2 h h2) (fun h=>h.elim (fun h=>ih3 h h3) (fun h=>ih4 h h4)))
 |cons x xs ih1 ih2 =>
  intro p v h he
  unfold Exp.covers at h
  simp only[Bool.or_eq_true] at h
  unfold evE at he
  cases h1:evE cl fr x with
  |none=>rw[h1] at he; cases he
  |some c =>
   rw[h1] at he
   cases h2:tupleOf (evE cl fr xs) with
   |none=>rw[h2] at he; cases he
   |some d=>exact h.elim (fun h=>ih1 h h1) (fun h=>ih2 h (tupleOf_some h2))
 |tup k xs ih =>
  intro p v h he
  unfold Exp.covers at h
  simp only[Bool.or_eq_true] at h
  rcases h with h|h
  ·rw[<- Exp.eq_of_same h]; exact⟨_,he⟩
  ·unfold evE at he
   cases h2:tupleOf (evE cl fr xs) with
   |none=>rw[h2] at he; cases he
   |some d=>exact ih h (tupleOf_some h2)
def Exp.uses (s:Nat):Exp->Bool
 |.v k=>k==s
 |.c _=>false
 |.nil=>false
 |.gd _ g e=>g.uses s||e.uses s
 |.pick g a b=>g.uses s||(a.uses s||b.uses s)
 |.un _ x=>x.uses s
 |.bi _ x y=>x.uses s||y.uses s
 |.ssub _ _ x y z=>x.uses s||(y.uses s||z.uses s)
 |.lsub _ _ _ _ x y z w=>x.uses s||(y.uses s||(z.uses s||w.uses s))
 |.cons x xs=>x.uses s||xs.uses s
 |.tup _ xs=>xs.uses s
theorem evE_congr {cl:CallF} {fr fr':Fr} : ∀ {e:Exp},(∀ s,e.uses s=true->fr.getD s .undef=fr'.getD s .undef)->evE cl fr e=evE cl fr' e:=by
 intro e
 induction e with
 |v k=>intro h; unfold evE; rw[h k (by simp[Exp.uses])]
 |c x=>intro h; rfl
 |nil=>intro h; rfl
 |gd b g x ih1 ih2=>intro h; unfold evE; rw[ih1 fun s hs=>h s (by simp[Exp.uses,hs]),ih2 fun s hs=>h s (by simp[Exp.uses,hs])]
 |pick g x y ih1 ih2 ih3=>intro h; unfold evE; rw[ih1 fun s hs=>h s (by simp[Exp.uses,hs]),ih2 fun s hs=>h s (by simp[Exp.uses,hs]),ih3 fun s hs=>h s (by simp[Exp.uses,hs])]
 |un u x ih=>intro h; unfold evE; rw[ih fun s hs=>h s (by simp[Exp.uses,hs])]
 |bi b x y ih1 ih2=>intro h; unfold evE; rw[ih1 fun s hs=>h s (by simp[Exp.uses,hs]),ih2 fun s hs=>h s (by simp[Exp.uses,hs])]
 |ssub l k x y z ih1 ih2 ih3=>intro h; unfold evE; rw[ih1 fun s hs=>h s (by simp[Exp.uses,hs]),ih2 fun s hs=>h s (by simp[Exp.uses,hs]),ih3 fun s hs=>h s (by simp[Exp.uses,hs])]
 |lsub n l k m x y z w ih1 ih2 ih3 ih4=>intro h; unfold evE; rw[ih1 fun s hs=>h s (by simp[Exp.uses,hs]),ih2 fun s hs=>h s (by simp[Exp.uses,hs]),ih3 fun s hs=>h s (by simp[Exp.uses,hs]),ih4 fun s hs=>h s (by simp[Exp.uses,hs])]
 |cons x xs ih1 ih2=>intro h; unfold evE; rw[ih1 fun s hs=>h s (by simp[Exp.uses,hs]),ih2 fun s hs=>h s (by simp[Exp.uses,hs])]
 |tup k xs ih=>intro h; unfold evE; rw[ih fun s hs=>h s (by simp[Exp.uses,hs])]
structure Sy where
 m:List (Nat × Exp)
 pend:List Exp
 deriving Inhabited
def lk (t:Nat):List (Nat × Exp)->Option Exp
 |[]=>none
 |(k,e)::l=>if k=t then some e else lk t l
theorem lk_mem {t:Nat} {e:Exp} : ∀ {m:List (Nat × Exp)},lk t m=some e->(t,e)∈m
 |[],h=>by cases h
 |(k,x)::l,h=>by
  unfold lk at h
  split at h
  ·rename_i hk; cases h; subst hk; exact .head _
  ·exact .tail _ (lk_mem h)
theorem lk_none {t:Nat} {e:Exp} : ∀ {m:List (Nat × Exp)},lk t m=none->(t,e) ∉ m
 |[],h=>by simp
 |(k,x)::l,h=>by
  unfold lk at h
  split at h
  ·cases h
  ·rename_i hk
   intro hm
   cases hm with
   |head=>exact hk rfl
   |tail _ hm=>exact lk_none h hm
def slotOf (t:Nat):List Nat->Option Nat
 |[]=>none
 |k::l=>if k=t then some 0 else (slotOf t l).map (· + 1)
theorem slotOf_some {t:Nat} : ∀ {sl:List Nat} {s:Nat},slotOf t sl=some s->sl[s]? = some t
 |[],s,h=>by cases h
 |k::l,s,h=>by
  unfold slotOf at h
  split at h
  ·rename_i hk; cases h; subst hk; rfl
  ·obtain⟨q,hq,rfl⟩:=Option.map_eq_some_iff.1 h
   simpa using slotOf_some hq
theorem slotOf_none {t:Nat} : ∀ {sl:List Nat} {s:Nat},slotOf t sl=none->sl[s]? ≠ some t
 |[],s,h=>by simp
 |k::l,s,h=>by
  unfold slotOf at h
  split at h
  ·cases h
  ·rename_i hk
   rw[Option.map_eq_none_iff] at h
   cases s with
   |zero=>simpa using hk
   |succ s=>simpa using slotOf_none (s:=s) h
def lookT (sl:List Nat) (m:List (Nat × Exp)) (t:Nat):Option Exp :=
 match lk t m with
 |some e=>some e
 |none=>(slotOf t sl).map .v
def opdE (sl:List Nat) (m:List (Nat × Exp)):Opd->Option Exp
 |.t n=>lookT sl m n
 |.c v=>some (.c v)
def strip1 (b:Bool) (g:Exp):Exp->Exp
 |.gd b' g' e=>if (b==b')&&Exp.same g g' then e else .gd b' g' e
 |e=>e
def strip:Bool->Exp->Exp->Exp
 |b,.gd b' g' x,e=>strip b x (strip b' g' e)
 |b,g,e=>strip1 b g e
def mkGd:Bool->Exp->Exp->Exp
 |b,.gd b' g' x,e=>.gd b' g' (mkGd b x e)
 |b,g,e=>.gd b g e
def mkPick (g a b:Exp):Exp :=
 .pick g (strip true g a) (strip false g b)
def consE (f:Opd->Option Exp):List Opd->Option Exp
 |[]=>some .nil
 |x::l=>match f x with
  |some e=>match consE f l with
   |some es=>some (.cons e es)
   |none=>none
  |none=>none
def optE (f:Opd->Option Exp):Option Opd->Option (Bool × Exp)
 |none=>some (false,.c .undef)
 |some x=>(f x).map fun e=>(true,e)
def un1 (f:Opd->Option Exp) (u:UOp) (x:Opd):Option Exp:=(f x).map (.un u)
def bi2 (f:Opd->Option Exp) (b:BOp) (x y:Opd):Option Exp :=
 match f x with
 |some a=>(f y).map fun c=>.bi b a c
 |none=>none
def pureE (f:Opd->Option Exp) (pl:Bool):IOp->Option Exp
 |.mov x=>f x
 |.smov x=>un1 f .smov x
 |.nilchk x=>un1 f .nilchk x
 |.not x=>un1 f .not x
 |.conv k x=>un1 f (.conv k) x
 |.tobytes x=>un1 f .tobytes x
 |.tostr x=>un1 f .tostr x
 |.iface t x=>un1 f (.iface t) x
 |.off o x=>un1 f (.off o) x
 |.field n o x=>un1 f (.field n o) x
 |.ext x i=>un1 f (.ext i) x
 |.len x=>un1 f .len x
 |.slen x=>un1 f .slen x
 |.sdata x=>un1 f .sdata x
 |.load n x=>if pl then un1 f (.ld n) x else none
 |.bin op x y=>bi2 f (.bin op) x y
 |.eqs k n x y=>bi2 f (.eqs k n) x y
 |.idx n x y=>bi2 f (.idx n) x y
 |.sidx x y=>bi2 f .sidx x y
 |.mm m x y=>bi2 f (.mm m) x y
 |.pidx n x y=>bi2 f (.pidx n) x y
 |.pick c x y=>match f c with
  |some g=>match f x with
   |some a=>(f y).map fun b=>mkPick g a b
   |none=>none
  |none=>none
 |.ssub x lo hi=>match f x with
  |some a=>match optE f lo with
   |some (l,b)=>(optE f hi).map fun (h,c)=>.ssub l h a b c
   |none=>none
  |none=>none
 |.lsub n x lo hi mx=>match f x with
  |some a=>match optE f lo with
   |some (l,b)=>match optE f hi with
    |some (h,c)=>(optE f mx).map fun (m,d)=>.lsub n l h m a b c d
    |none=>none
   |none=>none
  |none=>none
 |.build zs ps=>(consE f (ps.map (·.2.2))).map (.tup (.build zs (ps.map fun p=>(p.1,p.2.1))))
 |.bslice n z len ps=>(consE f (ps.map (·.2))).map (.tup (.bslice n z len (ps.map (·.1))))
 |.mkfn fn xs=>(consE f xs).map (.tup (.mkfn fn))
 |.calli m fn xs=>if m=2 then none else (consE f xs).map (.tup (.call m fn))
 |_=>none
def effE (f:Opd->Option Exp):IOp->Option (EOp × Exp)
 |.box n T x=>(f x).map fun a=>(.box n T a,a)
 |.zbox zs T=>some (.zbox zs T,.nil)
 |.load n x=>(f x).map fun a=>(.load n a,a)
 |.store n x y=>match f x with
  |some a=>(f y).map fun b=>(.store n a b,.cons a (.cons b .nil))
  |none=>none
 |.append n bytes T x y=>match f x with
  |some a=>(f y).map fun b=>(.append n bytes T a b,.cons a (.cons b .nil))
  |none=>none
 |.happend n bytes T x y=>match f x with
  |some a=>(f y).map fun b=>(.happend n bytes T a b,.cons a (.cons b .nil))
  |none=>none
 |.pappend n bytes T x y v=>match f x with
  |some a=>match f y with
   |some b=>(f v).map fun c=>(.pappend n bytes T a b c,.cons a (.cons b (.cons c .nil)))
   |none=>none
  |none=>none
 |.fill n x y=>match f x with
  |some a=>(f y).map fun b=>(.fill n a b,.cons a (.cons b .nil))
  |none=>none
 |.bown n z len ps=>(consE f (ps.map (·.2))).map fun es=>(.bown n z len (ps.map (·.1)) es,es)
 |.mark x=>(f x).map fun a=>(.mark a,a)
 |.touns x=>(f x).map fun a=>(.touns a,a)
 |.fromuns n u x=>(f x).map fun a=>(.fromuns n u a,a)
 |.ustr T x y=>match f x with
  |some a=>(f y).map fun b=>(.ustr T a b,.cons a (.cons b .nil))
  |none=>none
 |.calli m fn xs=>if m=2 then (consE f xs).map fun es=>(.callo fn es,es) else none
 |.calls raw fn xs=>(consE f xs).map fun es=>(.calls raw fn es,es)
 |.callv x xs=>match f x with
  |some a=>(consE f xs).map fun es=>(.callv a es,.cons a es)
  |none=>none
 |.fail=>some (.fail,.nil)
 |_=>none
structure DH where
 n:Nat                             -- how many temporaries there are
 sl:List Nat                       -- the temporary of each slot
 pl:List Nat                       -- temporaries that are loaded of what stays as it is
 im:List Nat                       -- temporaries that are laid into their slots at once
def dropT (t:Nat) (m:List (Nat × Exp)):List (Nat × Exp):=m.filter fun p => !(p.1==t)
def bind1 (d:Option Nat) (e:Exp) (sy:Sy):Sy :=
 ⟨match d with
  |some t=>(t,e)::dropT t sy.m
  |none=>sy.m,if atom e then sy.pend else e::sy.pend⟩
def isPl (h:DH) (d:Option Nat):Bool:=match d with|some t=>h.pl.contains t|none=>false
def inB (h:DH) (d:Option Nat):Bool:=match d with|some t=>decide (t<h.n)|none=>true
def dPure (h:DH) (o:SOp) (sy:Sy):Option Sy :=
 if inB h o.dst then match o.guard with
  |none=>(pureE (opdE h.sl sy.m) (isPl h o.dst) o.op).map fun e=>bind1 o.dst e sy
  |some (gt,b)=>match lookT h.sl sy.m gt with
   |some g=>(pureE (fun x=>(opdE h.sl sy.m x).map (strip b g)) (isPl h o.dst) o.op).map fun e=>bind1 o.dst (mkGd b g e) sy
   |none=>none
 else none
def ovs (m:List (Nat × Exp)):List Nat->Nat->List (Nat × Exp)
 |[],_=>[]
 |t::l,s=>match lk t m with
  |some e=>(s,e)::ovs m l (s+1)
  |none=>ovs m l (s+1)
def usesAny (ss:List Nat) (e:Exp):Bool:=ss.any fun s=>e.uses s
def flush (h:DH) (sy:Sy):List EStmt × Sy :=
 let ov:=ovs sy.m h.sl 0
 if ov.isEmpty then ([],sy) else
  let ss:=ov.map (·.1)
  let rest:=sy.pend.filter fun p => !(ov.any fun q=>Exp.same q.2 p||q.2.covers p)
  ((rest.filter (usesAny ss)).map .chk++[.sets ov],
   ⟨sy.m.filter fun p=>(slotOf p.1 h.sl).isNone && !usesAny ss p.2,rest.filter fun p => !usesAny ss p⟩)
def dsOf (h:DH):Option Nat->Option Nat
 |some t=>slotOf t h.sl
 |none=>none
def dropO:Option Nat->List (Nat × Exp)->List (Nat × Exp)
 |some t,m=>dropT t m
 |none,m=>m
def dEff (h:DH) (o:SOp) (sy:Sy):Option (List EStmt × Sy) :=
 let (s0,sy):=flush h sy
 if inB h o.dst then
  let ds:=dsOf h o.dst
  let m':=(dropO o.dst sy.m).filter fun p => !usesAny ds.toList p.2
  match o.guard with
  |none=>match effE (opdE h.sl sy.m) o.op with
   |some (op,all) =>
    let rest:=sy.pend.filter fun p => !(Exp.same all p||all.covers p)
    some (s0++((rest.filter (usesAny ds.toList)).map .chk++[.eff ds none op]),⟨m',rest.filter fun p => !usesAny ds.toList p⟩)
   |none=>none
  |some (gt,b)=>match lookT h.sl sy.m gt with
   |some g=>match effE (fun x=>(opdE h.sl sy.m x).map (strip b g)) o.op with
    |some (op,all) =>
     let rest:=sy.pend.filter fun p => !(Exp.same (mkGd b g all) p||(mkGd b g all).covers p)
     some (s0++((rest.filter (usesAny ds.toList)).map .chk++[.eff ds (some (g,b)) op]),⟨m',rest.filter fun p => !usesAny ds.toList p⟩)
    |none=>none
   |none=>none
 else none
def isIm (h:DH) (d:Option Nat):Bool:=match d with|some t=>h.im.contains t|none=>false
def lay (h:DH) (d:Option Nat) (sy:Sy):List EStmt × Sy:=if isIm h d then flush h sy else ([],sy)
def dStep (h:DH) (o:SOp) (sy:Sy):Option (List EStmt × Sy) :=
 match dPure h o sy with
 |some sy'=>some (lay h o.dst sy')
 |none=>dEff h o sy
def dOps (h:DH):List SOp->Sy->Option (List EStmt × Sy)
 |[],sy=>some ([],sy)
 |o::l,sy=>match dStep h o sy with
  |some (ss,sy')=>match dOps h l sy' with
   |some (ss',sy'')=>some (ss++ss',sy'')
   |none=>none
  |none=>none
def subM (a b:List (Nat × Exp)):Bool:=a.all fun p=>b.any fun q=>(p.1==q.1)&&Exp.same p.2 q.2
def subP (a b:List Exp):Bool:=a.all fun p=>b.any fun q=>Exp.same p q
def isStore:IOp->Bool
 |.store _ _ _=>true
 |_=>false
def isLd:IOp->Bool
 |.load _ _=>true
 |_=>false
def dP (h:DH):Tree->Sy->Option Sy
 |.nil,sy=>some sy
 |.cons o t,sy=>if isStore o.op then none else match dPure h o sy with
  |some sy'=>dP h t sy'
  |none=>none
 |.alt t u,sy=>match dP h t sy,dP h u sy with
  |some a,some b=>if subM a.m b.m&&(subM b.m a.m&&subP b.pend a.pend) then some a else none
  |_,_=>none
def opdB:Opd->Opd->Bool
 |.t a,.t b=>a==b
 |.c x,.c y=>PV.same x y
 |_,_=>false
def partsB:List (Nat × Opd)->List (Nat × Opd)->Bool
 |[],[]=>true
 |p::l,q::m=>(p.1==q.1)&&(opdB p.2 q.2&&partsB l m)
 |_,_=>false
def parts3B:List (Nat × Nat × Opd)->List (Nat × Nat × Opd)->Bool
 |[],[]=>true
 |p::l,q::m=>(p.1==q.1)&&((p.2.1==q.2.1)&&(opdB p.2.2 q.2.2&&parts3B l m))
 |_,_=>false
def opdsB:List Opd->List Opd->Bool
 |[],[]=>true
 |p::l,q::m=>opdB p q&&opdsB l m
 |_,_=>false
def usesQ:IOp->Option (List Opd)
 |.zbox _ _=>some []
 |.build _ ps=>some (ps.map (·.2.2))
 |.append _ _ _ x y=>some [x,y]
 |.bslice _ _ _ ps=>some (ps.map (·.2))
 |.mov x=>some [x]
 |.fill _ x y=>some [x,y]
 |.store _ x y=>some [x,y]
 |.calli m _ as=>if m=2 then none else some as
 |_=>none
def boxQ:IOp->Bool
 |.zbox _ _=>true
 |_=>false
def rowQ:IOp->Bool
 |.append _ _ _ _ _=>true
 |_=>false
def stillQ:IOp->Bool
 |.build _ _=>true
 |.bslice _ _ _ _=>true
 |.mov _=>true
 |.fill _ _ _=>true
 |.calli m _ _=>m != 2
 |_=>false
def sameQ:IOp->IOp->Bool
 |.append n b T x y,.append n' b' T' x' y'=>(n==n')&&((b==b')&&((T==T')&&(opdB x x'&&opdB y y')))
 |.bslice n z l ps,.bslice n' z' l' ps'=>(n==n')&&(PV.sames z z'&&((l==l')&&partsB ps ps'))
 |.mov x,.mov y=>opdB x y
 |.zbox z T,.zbox z' T'=>PV.sames z z'&&(T==T')
 |.build z ps,.build z' ps'=>PV.sames z z'&&parts3B ps ps'
 |.store n x y,.store n' x' y'=>(n==n')&&(opdB x x'&&opdB y y')
 |.fill n x y,.fill n' x' y'=>(n==n')&&(opdB x x'&&opdB y y')
 |.load n x,.load n' x'=>decide (n=n')&&opdB x x'
 |.nilchk x,.nilchk x'=>opdB x x'
 |.off o x,.off o' x'=>(o==o')&&opdB x x'
 |.field n o x,.field n' o' x'=>decide (n=n')&&((o==o')&&opdB x x')
 |.idx n x i,.idx n' x' i'=>(n==n')&&(opdB x x'&&opdB i i')
 |.bin b x y,.bin b' x' y'=>decide (b=b')&&(opdB x x'&&opdB y y')
 |.eqs k g x y,.eqs k' g' x' y'=>(k==k')&&((g==g')&&(opdB x x'&&opdB y y'))
 |.len x,.len x'=>opdB x x'
 |.not x,.not x'=>opdB x x'
 |.pick c x y,.pick c' x' y'=>opdB c c'&&(opdB x x'&&opdB y y')
 |.calli m f as,.calli m' f' as'=>(m==m')&&((f==f')&&opdsB as as')
 |.ext x i,.ext x' i'=>(i==i')&&opdB x x'
 |.slen x,.slen x'=>opdB x x'
 |.conv k x,.conv k' x'=>decide (k=k')&&opdB x x'
 |.sidx x i,.sidx x' i'=>opdB x x'&&opdB i i'
 |.iface t x,.iface t' x'=>(t==t')&&opdB x x'
 |_,_=>false
def sameO (o p:SOp):Bool:=(o.flag==p.flag)&&((o.dst==p.dst)&&(decide (o.guard=p.guard)&&sameQ o.op p.op))
def swapT:Tree->Tree->Option (SOp × SOp)
 |.cons o (.cons p .nil),.cons p' (.cons o' .nil)=>if sameO o o'&&(sameO p p'&&((isStore o.op&&isStore p.op)&&((o.flag==3&&p.flag==3)&&((o.guard.isNone&&p.guard.isNone)&&(o.dst.isNone&&p.dst.isNone))))) then some (o,p) else none
 |_,_=>none
def dSwap (h:DH) (o p:SOp) (sy:Sy):Option (List EStmt × Sy) :=
 let (s0,sy):=flush h sy
 match effE (opdE h.sl sy.m) o.op,effE (opdE h.sl sy.m) p.op with
 |some (op,all),some (op',all') =>
  some (s0++[.swap op op'],⟨sy.m,sy.pend.filter fun p => !((Exp.same all p||all.covers p)||(Exp.same all' p||all'.covers p))⟩)
 |_,_=>none
def dT (h:DH):Tree->Sy->Bool->Option (List EStmt × Sy)
 |.nil,sy,_=>some ([],sy)
 |.alt t u,sy,_=>match dP h (.alt t u) sy with
  |some s=>some ([],s)
  |none=>match swapT t u with
   |some (o,p)=>dSwap h o p sy
   |none=>none
 |.cons o t,sy,mu=>if isStore o.op&&(o.flag==2||o.flag==1) then none else match dPure h o sy with
  |some sy1=>match dT h t (lay h o.dst sy1).2 mu with
   |some (ss',sy'')=>some ((lay h o.dst sy1).1++ss',sy'')
   |none=>none
  |none=>if mu&&o.flag==1 then none else if o.flag==1 && !isLd o.op then none else match dEff h o sy with
   |some (ss,sy')=>match dT h t sy' (mu || !isLd o.op) with
    |some (ss',sy'')=>some (ss++ss',sy'')
    |none=>none
   |none=>none
def notIn (d:Nat) (l:List Opd):Bool:=l.all fun x=>match x with
 |.t n=>n != d
 |.c _=>true
def apartQ (d:Nat) (o:IOp):Bool:=match usesQ o with
 |some l=>notIn d l
 |none=>false
def isStoreQ:IOp->Bool
 |.store _ _ _=>true
 |_=>false
def dstQ (d:Option Nat) (o:IOp):Bool :=
 match d with
 |some d=>apartQ d o
 |none=>(usesQ o).isSome
def neQ:Option Nat->Option Nat->Bool
 |some d,some e=>d != e
 |_,_=>true
def flag2Q (o:SOp):Bool := !(isStoreQ o.op&&o.flag==2)
def swapB0 (o p:SOp):Bool:=o.guard.isNone&&(p.guard.isNone&&(((stillQ o.op||stillQ p.op)||((boxQ o.op&&rowQ p.op)||(rowQ o.op&&boxQ p.op)))&&((neQ o.dst p.dst&&(dstQ p.dst o.op&&dstQ o.dst p.op))&&(flag2Q o&&flag2Q p))))
def usesS (o:SOp) (ts:List Nat):List Nat :=
 match o.guard with
 |some (t,_)=>t::ts
 |none=>ts
def freeOf (d:Option Nat) (l:List Nat):Bool :=
 match d with
 |some d => !l.contains d
 |none=>true
def lookSwap (o p:SOp):Bool :=
 match looksO o.op,looksO p.op with
 |some ts,some us=>neQ o.dst p.dst&&(freeOf p.dst (usesS o ts)&&freeOf o.dst (usesS p us))
 |_,_=>false
def swapB (o p:SOp):Bool:=(o.flag != 1)&&((p.flag != 1)&&(swapB0 o p||lookSwap o p))
def pullQ (o:SOp):Tree->Option Tree
 |.cons p b=>if sameO o p then some b else if swapB o p then (match pullQ o b with
  |some b'=>some (.cons p b')
  |none=>none) else none
 |_=>none
def sameT:Tree->Tree->Bool
 |.nil,.nil=>true
 |.cons o a,b=>match pullQ o b with
  |some b'=>sameT a b'
  |none=>false
 |_,_=>false
def altQ (a b:Tree):Tree:=if sameT a b then a else .alt a b
def normT:Tree->Tree
 |.nil=>.nil
 |.cons o t=>.cons o (normT t)
 |.alt t u=>altQ (normT t) (normT u)
def chks (l:List Exp):List EStmt:=l.map .chk
def preC (l:List Exp) (c:EC):EC:=if l.isEmpty then c else .seq (.st (chks l)) c
def close:EC × Option Sy->EC × Option Sy
 |(c,some sy)=>if sy.pend.isEmpty then (c,some sy) else (.seq c (.st (chks sy.pend)),some ⟨sy.m,[]⟩)
 |(c,none)=>(c,none)
def joinS:Option Sy->Option Sy->Option Sy
 |none,r=>r
 |r,none=>r
 |some a,some b=>some ⟨a.m.filter fun p=>b.m.any fun q=>(p.1==q.1)&&Exp.same p.2 q.2,[]⟩
def plainM (h:DH) (m:List (Nat × Exp)):Bool:=m.all fun p=>(slotOf p.1 h.sl).isNone
def plainO (h:DH):Option Sy->Bool
 |some s=>plainM h s.m
 |none=>true
def resE (h:DH) (m:List (Nat × Exp)):ResV->Option ERes
 |.tmp t=>(lookT h.sl m t).map .e
 |.cell t n=>(lookT h.sl m t).map fun e=>.cell e n
def ERes.ex:ERes->Exp
 |.e x=>x
 |.cell x _=>x
def dRet (h:DH) (rs:List ResV) (sy:Sy):Option EC :=
 match mapO (resE h sy.m) rs with
 |some es=>some (preC (sy.pend.filter fun p => !(es.any fun e=>Exp.same e.ex p||e.ex.covers p)) (.ret es))
 |none=>none
def mkSt (l:List EStmt):EC:=if l.isEmpty then .skip else .st l
def mkSeq (a b:EC):EC:=match a,b with
 |.skip,b=>b
 |a,.skip=>a
 |a,b=>.seq a b
def addrO:IOp->Option Opd
 |.store _ x _=>some x
 |.load _ x=>some x
 |_=>none
def heldN (o:SOp) (hl:Option (List Opd)):Option (List Opd) :=
 match (if isLd o.op then (match hl,addrO o.op with
  |some l,some x=>some (x::l)
  |_,_=>none) else hl) with
 |some l=>match o.dst with
  |some t=>if notIn t l then some l else none
  |none=>some l
 |none=>none
def dS (h:DH):Tree->Sy->Bool->Option (List Opd)->Option (List EStmt × Sy)
 |.nil,sy,_,_=>some ([],sy)
 |.alt _ _,_,_,_=>none
 |.cons o t,sy,mu,hl=>if isStore o.op&&o.flag==1 then none else if isStore o.op&&o.flag==2 then match hl,addrO o.op with
   |some l,some x=>match consE (opdE h.sl sy.m) (x::l) with
    |some es=>match dEff h o sy with
     |some (ss,sy')=>match dS h t sy' true (heldN o hl) with
      |some (ss',sy'')=>some (.chk (.tup .apart es)::(ss++ss'),sy'')
      |none=>none
     |none=>none
    |none=>none
   |_,_=>none
  else match dPure h o sy with
  |some sy1=>match dS h t (lay h o.dst sy1).2 mu (heldN o hl) with
   |some (ss',sy'')=>some ((lay h o.dst sy1).1++ss',sy'')
   |none=>none
  |none=>if mu&&o.flag==1 then none else if o.flag==1 && !isLd o.op then none else match dEff h o sy with
   |some (ss,sy')=>match dS h t sy' (mu || !isLd o.op) (heldN o hl) with
    |some (ss',sy'')=>some (ss++ss',sy'')
    |none=>none
   |none=>none
def dD (h:DH) (t:Tree) (sy:Sy):Option (List EStmt × Sy) :=
 match dT h (normT t) sy false with
 |some r=>some r
 |none=>dS h t sy false (some [])
def dReg (h:DH):IC->Sy->Option (List EStmt × Sy)
 |.ops l,sy=>dOps h l sy
 |.draw t,sy=>dD h t sy
 |_,_=>none
def retReg (h:DH) (b a:IC) (sy:Sy):Option (List EStmt × Sy) :=
 match b with
 |.ret=>dReg h a sy
 |_=>none
def dec (h:DH) (rs:List ResV):IC->Sy->Option (EC × Option Sy)
 |.ops l,sy=>match dOps h l sy with
  |some (ss,sy')=>let f:=flush h sy'; some (mkSt (ss++f.1),some f.2)
  |none=>none
 |.draw t,sy=>match dD h t sy with
  |some (ss,sy')=>let f:=flush h sy'; some (mkSt (ss++f.1),some f.2)
  |none=>none
 |.seq a b,sy=>match retReg h b a sy with
  |some (ss,sy')=>(dRet h rs sy').map fun c=>(mkSeq (mkSt ss) c,none)
  |none=>match dec h rs a sy with
   |some (ea,none)=>some (ea,none)
   |some (ea,some sy')=>match dec h rs b sy' with
    |some (eb,r)=>some (mkSeq ea eb,r)
    |none=>none
   |none=>none
 |.cond x a b,sy=>match opdE h.sl sy.m x with
  |some e=>match dec h rs a ⟨sy.m,[]⟩,dec h rs b ⟨sy.m,[]⟩ with
   |some p,some q=>some (preC (sy.pend.filter fun p => !(Exp.same e p||e.covers p)) (.cond e (close p).1 (close q).1),joinS (close p).2 (close q).2)
   |_,_=>none
  |none=>none
 |.choose m d e T a b,sy=>if (decide (d<h.n)&&decide (e<h.n))&&(((slotOf d h.sl).isNone&&(slotOf e h.sl).isNone)&&(m.zipIdx.all fun p => !p.1||(slotOf p.2 h.sl).isSome)) then
   match dec h rs a ⟨dropT d (dropT e sy.m),[]⟩,dec h rs b ⟨dropT d (dropT e sy.m),[]⟩ with
   |some p,some q=>if plainO h (close p).2&&plainO h (close q).2 then some (preC sy.pend (.choose (h.sl.map fun t=>m.getD t false) T (close p).1 (close q).1),some ⟨[],[]⟩) else none
   |_,_=>none
  else none
 |.block id a,sy=>match dec h rs a sy with
  |some p=>if plainO h (close p).2 then some (.block id (close p).1,some ⟨[],[]⟩) else none
  |none=>none
 |.loop m a,sy=>if plainM h sy.m then match dec h rs a ⟨[],[]⟩ with
   |some p=>if plainO h (close p).2 then
     some (preC sy.pend (.loop (h.sl.map fun t=>m.getD t false) (close p).1),none) else none
   |none=>none
  else none
 |.exit id,sy=>if plainM h sy.m then some (preC sy.pend (.exit id),none) else none
 |.ret,sy=>(dRet h rs sy).map fun c=>(c,none)
 |.skip,sy=>some (.skip,some sy)
def nodupB:List Nat->Bool
 |[]=>true
 |t::l => !l.contains t&&nodupB l
def decF (h:DH) (np:Nat) (c:IFunc):Option EFunc :=
 if (h.n==c.ntmps)&&(nodupB h.sl&&((h.sl.take np==List.range np)&&(h.sl.all fun t=>decide (t<c.ntmps)))) then match dec h c.results c.body ⟨[],[]⟩ with
  |some (e,none)=>some ⟨np,h.sl.length,e⟩
  |some (e,some sy)=>match dRet h c.results sy with
   |some r=>some ⟨np,h.sl.length,mkSeq e r⟩
   |none=>none
  |none=>none
 else none
end Go.Proofs.YthjnlpfibakacaaGreatDoorPe
