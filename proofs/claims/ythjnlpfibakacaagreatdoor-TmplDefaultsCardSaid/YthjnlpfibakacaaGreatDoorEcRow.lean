/- A part of the proof of this folder's statement; it has no condition of its own. -/
import Derived.Test.YthjnlpfibakacaaGreatDoorEcLim
import Derived.Test.YthjnlpfibakacaaGreatDoorPeSound3
set_option linter.unusedVariables false
namespace Go.Proofs.YthjnlpfibakacaaGreatDoorPe
open Go
inductive BT (α : Type) where
 |leaf
 |node (k:Nat) (v : α) (l r:BT α)
def BT.get {α : Type} (n:Nat):BT α -> Option α
 |.leaf=>none
 |.node k v l r=>if n=k then some v else if n<k then l.get n else r.get n
def BT.map {α β : Type} (f : α -> β):BT α -> BT β
 |.leaf=>.leaf
 |.node k v l r=>.node k (f v) (l.map f) (r.map f)
def BT.Forall {α : Type} (p:Nat -> α -> Prop):BT α -> Prop
 |.leaf=>True
 |.node k v l r=>p k v/\l.Forall p/\r.Forall p
theorem BT.get_map {α β : Type} (f : α -> β) (n:Nat) : ∀ t:BT α,(t.map f).get n=(t.get n).map f
 |.leaf=>rfl
 |.node k v l r=>by
  simp only[BT.map,BT.get]
  split
  ·rfl
  ·split
   ·exact BT.get_map f n l
   ·exact BT.get_map f n r
theorem BT.get_forall {α : Type} {p:Nat -> α -> Prop} {n:Nat} {v : α} : ∀ {t:BT α},t.Forall p->t.get n=some v->p n v
 |.leaf,_,h=>by cases h
 |.node k x l r,⟨h1,h2,h3⟩,h=>by
  unfold BT.get at h
  split at h
  ·rename_i e; cases h; subst e; exact h1
  ·split at h
   ·exact BT.get_forall h2 h
   ·exact BT.get_forall h3 h
structure ERow where
 f:Func
 h:Hints
 d:DH
 np:Nat
 e:EFunc
def rowB (P:Program) (sh:FuncId->Nat) (r:ERow):Option EFunc:=(compF P sh r.h r.f).bind (decF r.d r.np)
def fnsOf (P:Program) (sh:FuncId->Nat) (rows:FuncId->Option ERow):FuncId->Option IFunc:=fun f=>match rows f with
 |some r=>compF P sh r.h r.f
 |none=>none
def efnsOf (rows:FuncId->Option ERow):FuncId->Option EFunc:=fun f=>match rows f with
 |some r=>some r.e
 |none=>none
structure RowsOk (P:Program) (sh:FuncId->Nat) (rows:FuncId->Option ERow):Prop where
 at_ : ∀ f r, rows f = some r -> P.funcs[f]? = some r.f /\ (r.f.name == "runtime.NumGoroutine") = false /\ rowB P sh r = some r.e
theorem rowsOk_of {P : Program} {sh : FuncId -> Nat} {t : BT ERow} (h : t.Forall fun f r => P.funcs[f]? = some r.f /\ (r.f.name == "runtime.NumGoroutine") = false /\ rowB P sh r = some r.e) : RowsOk P sh fun f => t.get f :=
 ⟨fun f r hr=>BT.get_forall h hr⟩
theorem efnsOf_tree (t:BT ERow) (u:BT EFunc) (h:t.map (·.e)=u):efnsOf (fun f=>t.get f)=fun f=>u.get f:=by
 funext f
 rw[<- h,BT.get_map]
 unfold efnsOf
 simp only
 cases t.get f <;> rfl
theorem RowsOk.eok {P:Program} {sh:FuncId->Nat} {rows:FuncId->Option ERow} (h:RowsOk P sh rows):EOk (fnsOf P sh rows) (efnsOf rows):=by
 intro f
 unfold fnsOf efnsOf
 cases hr:rows f with
 |none=>exact .inr ⟨rfl,rfl⟩
 |some r =>
  obtain⟨_,_,h3⟩:=h.at_ f r hr
  obtain⟨c,hc,he⟩:=Option.bind_eq_some_iff.1 h3
  exact .inl ⟨r.e,c,r.d,r.np,rfl,hc,he⟩
theorem RowsOk.fok {P:Program} {sh:FuncId->Nat} {rows:FuncId->Option ERow} (h:RowsOk P sh rows):FnsOk P (fnsOf P sh rows):=by
 intro f c hc
 unfold fnsOf at hc
 cases hr:rows f with
 |none=>rw[hr] at hc; cases hc
 |some r =>
  rw[hr] at hc
  obtain⟨h1,h2,_⟩:=h.at_ f r hr
  exact⟨r.f,sh,r.h,h1,h2,hc⟩
end Go.Proofs.YthjnlpfibakacaaGreatDoorPe
