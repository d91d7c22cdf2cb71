/- A part of the proof of this folder's statement; it has no condition of its own. -/
import Derived.Test.YthjnlpfibakacaaGreatDoorEcForS
set_option linter.unusedVariables false
set_option linter.unusedSimpArgs false
namespace Go.Proofs.YthjnlpfibakacaaGreatDoorPe
open Go
def OutV (n:Nat) (T:TypeId) (l:List PV) (x:PV) (rows:List (Nat × Nat)) (rt:List TypeId):Prop :=
 (x.nm = .full l/\szAll n l=true) \/ ∃ r,x = .own r l/\rows[r]? = some (l.length,n)/\rt[r]? = some T
theorem nm_full {x:PV} {l:List PV} (h:x.nm = .full l):(x = .nils/\l=[])\/(x = .emp/\l=[])\/x = .full l:=by
 cases x <;> simp[PV.nm] at h <;> simp[h]
theorem OutV.nils {n:Nat} {T:TypeId} {rows:List (Nat × Nat)} {rt:List TypeId}:OutV n T [] .nils rows rt:=.inl ⟨rfl,rfl⟩
section
variable {n:Nat} {T:TypeId} {l:List PV} {x:PV} {rows:List (Nat × Nat)} {rt:List TypeId}
theorem OutV.cases {P:PV->Prop} (h:OutV n T l x rows rt) (h1:l=[]->P .nils) (h2:l=[]->P .emp) (h3:P (.full l)) (h4 : ∀ r,P (.own r l)):P x:=by
 rcases h with ⟨h,_⟩|⟨r,rfl,_⟩
 ·rcases nm_full h with ⟨rfl,e⟩|⟨rfl,e⟩|rfl
  ·exact h1 e
  ·exact h2 e
  ·exact h3
 ·exact h4 r
theorem OutV.len (h:OutV n T l x rows rt):unV .len x=some (.int .i64 (l.length:Int)):=h.cases (P:=fun x=>unV .len x=some (.int .i64 (l.length:Int))) (fun e=>by rw[e]; rfl) (fun e=>by rw[e]; rfl) rfl (fun _=>rfl)
theorem OutV.shutA (h:OutV n T l x rows rt) (k:Nat):YthjnlpfibakacaaGreatDoorPe.shutA (k+1) x=some (.lst l):=h.cases (P:=fun x=>YthjnlpfibakacaaGreatDoorPe.shutA (k+1) x=some (.lst l)) (fun e=>by rw[e]; rfl) (fun e=>by rw[e]; rfl) rfl (fun _=>rfl)
theorem OutV.shutR (h:OutV n T l x rows rt) (st:St) (k:Nat):YthjnlpfibakacaaGreatDoorPe.shutR false st (k+1) x=some (.lst l):=h.cases (P:=fun x=>YthjnlpfibakacaaGreatDoorPe.shutR false st (k+1) x=some (.lst l)) (fun e=>by rw[e]; rfl) (fun e=>by rw[e]; rfl) rfl (fun _=>rfl)
theorem OutV.cells_ (h:OutV n T l x rows rt):x.cells=[x]:=h.cases (P:=fun x=>x.cells=[x]) (fun _=>rfl) (fun _=>rfl) rfl (fun _=>rfl)
theorem OutV.cell_ (h:OutV n T l x rows rt):x.isCell=true:=h.cases (P:=fun x=>x.isCell=true) (fun _=>rfl) (fun _=>rfl) rfl (fun _=>rfl)
theorem OutV.cells (h:OutV n T l x rows rt):PV.cells.match_1 (fun _=>List PV) x (fun cs=>cs) (fun _=>[]) (fun v=>[v])=[x]:=h.cells_
theorem OutV.cell (h:OutV n T l x rows rt):PV.isCell.match_1 (fun _=>Bool) x (fun _=>false) (fun _=>false) (fun _=>false) (fun _=>true)=true:=h.cell_
theorem OutV.elems (h:OutV n T l x rows rt):elemsOf x.nm=some l:=h.cases (P:=fun x=>elemsOf x.nm=some l) (fun e=>by rw[e]; rfl) (fun e=>by rw[e]; rfl) rfl (fun _=>rfl)
theorem OutV.slc (h:OutV n T l x rows rt):slcOf x.nm=some l:=h.cases (P:=fun x=>slcOf x.nm=some l) (fun e=>by rw[e]; rfl) (fun e=>by rw[e]; rfl) rfl (fun _=>rfl)
theorem OutV.idx (h:OutV n T l x rows rt) {m:Nat} {i:Nat} {k:IntKind} (hi:i<l.length):biV (.idx m) x (.int k (i:Int))=evIdx m l (i:Int) :=
 h.cases (P:=fun x=>biV (.idx m) x (.int k (i:Int))=evIdx m l (i:Int)) (fun e=>by rw[e] at hi; simp at hi) (fun e=>by rw[e] at hi; simp at hi) rfl (fun _=>rfl)
theorem OutV.sz (h:OutV n T l x rows rt) (hl : ∀ e∈l,e.cells.length=n):szAll n l=true:=List.all_eq_true.2 fun e he=>by simp[hl e he]
theorem OutV.app {b:Nat} (h:OutV n T l x rows rt) (hr:rt.length=rows.length) {es:List PV} (hs:szAll n es=true) (hb:(l.length+es.length)*(b+1)<=70368744177664) :
  ∃ x' rows' rt',(∀ bs bt,evAppend n b T (if es.isEmpty=true then x else x.nm) es ⟨bs,rows,bt,rt⟩=some (x',⟨bs,rows',bt,rt'⟩))/\OutV n T (l++es) x' rows' rt'/\rt'.length=rows'.length/\rows.length<=rows'.length /\
   (∀ n2 T2 l2 x2,OutV n2 T2 l2 x2 rows rt->(∀ r l1,x = .own r l1->x2 ≠ .own r l2)->OutV n2 T2 l2 x2 rows' rt') /\
   (∀ i,i<rows.length->(∀ r l1,x = .own r l1->i≠r)->rows'[i]? = rows[i]? /\ rt'[i]? = rt[i]?)/\(∀ r l1,x' = .own r l1->(∃ l0,x = .own r l0)\/rows.length<=r):=by
 cases es with
 |nil =>
  refine⟨x,rows,rt,fun bs bt => ?_,by rw[List.append_nil]; exact h,hr,Nat.le_refl _,fun _ _ _ _ h _=>h,fun _ _ _=>⟨rfl,rfl⟩,fun r l1 h=>.inl ⟨l1,h⟩⟩
  show evAppend n b T x [] ⟨bs,rows,bt,rt⟩=_
  exact h.cases (P:=fun x=>evAppend n b T x [] ⟨bs,rows,bt,rt⟩=some (x,⟨bs,rows,bt,rt⟩)) (fun _=>rfl) (fun _=>rfl) rfl (fun _=>rfl)
 |cons e es =>
  rcases h with ⟨h,hz⟩|⟨r,rfl,h1,h2⟩
  ·refine⟨.own rows.length (l++e::es),rows++[(l.length+(e::es).length,n)],rt++[T],fun bs bt => ?_,.inr ⟨rows.length,rfl,by simp,by rw[<- hr]; simp⟩,by simp[hr],by simp,fun n2 T2 l2 x2 h2 hne => ?_,fun i hi _=>⟨by rw[List.getElem?_append_left hi],by rw[List.getElem?_append_left (by omega)]⟩,fun r l1 h=>.inr (by cases h; exact Nat.le_refl _)⟩
   ·show evAppend n b T x.nm (e::es) ⟨bs,rows,bt,rt⟩=_
    rw[h,A_full,hs,if_pos rfl,if_pos ⟨hb,hz⟩]
   ·rcases h2 with h2|⟨r,e1,e2,e3⟩
    ·exact .inl h2
    ·exact .inr ⟨r,e1,by rw[List.getElem?_append_left (List.getElem?_eq_some_iff.1 e2).1]; exact e2,by rw[List.getElem?_append_left (List.getElem?_eq_some_iff.1 e3).1]; exact e3⟩
  ·have hlt:r<rows.length:=(List.getElem?_eq_some_iff.1 h1).1
   refine⟨.own r (l++e::es),rows.set r (l.length+(e::es).length,n),rt,fun bs bt => ?_,.inr ⟨r,rfl,by rw[List.getElem?_set_self hlt]; simp,h2⟩,by simp[hr],by simp,fun n2 T2 l2 x2 h3 hne => ?_,fun i hi hne=>⟨by rw[List.getElem?_set_ne (fun e=>hne r l rfl e.symm)],rfl⟩,fun r' l1 h=>.inl (by cases h; exact⟨l,rfl⟩)⟩
   ·show evAppend n b T (PV.own r l).nm (e::es) ⟨bs,rows,bt,rt⟩=_
    rw[n_own,A_own,hs,if_pos rfl,if_pos ⟨hb,h1,h2⟩]
   ·rcases h3 with h3|⟨r2,e1,e2,e3⟩
    ·exact .inl h3
    ·refine .inr ⟨r2,e1,?_,e3⟩
     have:r≠r2:=fun hh=>hne r l rfl (by rw[e1,hh])
     rw[List.getElem?_set_ne this]
     exact e2
theorem OutV.app1 {b:Nat} (h:OutV n T l x rows rt) (hr:rt.length=rows.length) {e:PV} (hs:e.cells.length=n) (hb:(l.length+1)*(b+1)<=70368744177664) :
  ∃ x' rows' rt',(∀ bs bt,evAppend n b T x.nm [e] ⟨bs,rows,bt,rt⟩=some (x',⟨bs,rows',bt,rt'⟩))/\OutV n T (l++[e]) x' rows' rt'/\rt'.length=rows'.length/\rows.length<=rows'.length /\
   (∀ n2 T2 l2 x2,OutV n2 T2 l2 x2 rows rt->(∀ r l1,x = .own r l1->x2 ≠ .own r l2)->OutV n2 T2 l2 x2 rows' rt') /\
   (∀ i,i<rows.length->(∀ r l1,x = .own r l1->i≠r)->rows'[i]? = rows[i]? /\ rt'[i]? = rt[i]?)/\(∀ r l1,x' = .own r l1->(∃ l0,x = .own r l0)\/rows.length<=r):=by
 have:=h.app (b:=b) hr (es:=[e]) (by simp[szAll,hs]) hb
 exact this
end
theorem mS {f:PV->Option PV} {a b:PV} {l m:List PV} (h:f a=some b) (k:mapO f l=some m):mapO f (a::l)=some (b::m):=by
 unfold mapO
 rw[h,k]
theorem mN {f:PV->Option PV}:mapO f []=some []:=rfl
theorem ret_tup {st:St} {cs ds:List PV} (h:mapO (shutR false st 5) cs=some ds):Ret (.tuple ds) (.tuple cs) st:=by
 show (mapO (shutR false st 5) cs).map PV.tuple=_
 rw[h]; rfl
theorem shutA_agg {k:Nat} {cs ds:List PV} (h:mapO (shutA k) cs=some ds):shutA (k+1) (.agg cs)=some (.agg ds):=by
 show (mapO (shutA k) cs).map PV.agg=_
 rw[h]; rfl
theorem tup_shut {cl:CallF} {m:Nat} {f:FuncId} {vs ws:List PV} (h:mapO (argF m) vs=mapO (argF m) ws):tupV cl (.call m f) vs=tupV cl (.call m f) ws:=by
 simp only[tupV,callV,h]
theorem idx_of {n:Nat} {l:List PV} {i:Nat} {e:PV} (h:l[i]? = some e) (hn:e.cells.length=n):evIdx n l (i:Int)=some (.ref e.cells):=by
 unfold evIdx
 rw[if_pos (Int.natCast_nonneg i),Int.toNat_natCast,h]
 simp only[hn,if_true]
@[go_sem] theorem ld_one {x : PV} {cs : List PV} : loadC none (x :: cs) = some x := rfl
@[go_sem] theorem ld_refS {n : Option Nat} {cs : List PV} {st : St} : loadV n (.ref cs) st = onV (loadC n cs) fun v => some (v, st) := by
 show (loadC n cs).map (·,st)=_
 unfold onV
 cases loadC n cs <;> rfl
@[go_sem] theorem zip3_cons {o n : Nat} {l : List (Nat × Nat)} {v : PV} {vs : List PV} : zip3 ((o, n) :: l) (v :: vs) = (o, n, v) :: zip3 l vs := rfl
@[go_sem] theorem zip3_nil {vs : List PV} : zip3 [] vs = [] := rfl
@[go_sem] theorem fillP_cons {cs : List PV} {o n : Nat} {v : PV} {r : List (Nat × Nat × PV)} : fillP cs ((o, n, v) :: r) = if v.cells.length = n /\ o + n <= cs.length then fillP (cs.take o ++ (v.cells ++ cs.drop (o + n))) r else none := rfl
@[go_sem] theorem fillP_nil {cs : List PV} : fillP cs [] = some cs := rfl
@[go_sem] theorem cast2 : ((2 : Nat) : Int) = 2 := rfl
@[go_sem] theorem cast3 : ((3 : Nat) : Int) = 3 := rfl
@[go_sem] theorem cast4 : ((4 : Nat) : Int) = 4 := rfl
@[go_sem] theorem cast5 : ((5 : Nat) : Int) = 5 := rfl
@[go_sem] theorem cast6 : ((6 : Nat) : Int) = 6 := rfl
@[go_sem] theorem cast7 : ((7 : Nat) : Int) = 7 := rfl
@[go_sem] theorem cast8 : ((8 : Nat) : Int) = 8 := rfl
@[go_sem] theorem cast9 : ((9 : Nat) : Int) = 9 := rfl
@[go_sem] theorem cast10 : ((10 : Nat) : Int) = 10 := rfl
@[go_sem] theorem cast11 : ((11 : Nat) : Int) = 11 := rfl
@[go_sem] theorem cast12 : ((12 : Nat) : Int) = 12 := rfl
attribute [go_sem] Int.natCast_zero Int.natCast_one
@[go_sem] theorem succ_beq0 {n : Nat} : (n + 1 == 0) = false := rfl
@[go_sem] theorem succ_beq {n m : Nat} : (n + 1 == m + 1) = (n == m) := by simp
theorem lsub_take {n:Nat} {l:List PV} {i:Nat} {j:Int} {k:IntKind} (hj:j=(i:Int)) (hi:i<=l.length):lsubV n (.lst l) none (some (.int k j)) none=some (.lst (l.take i)):=by
 subst hj
 simp only[lsubV,hsOf,n_lst,slcOf,bnd]
 rw[if_pos ⟨by omega,by omega⟩]
 simp[sizesOk]
section
variable {α : Type} {l m:List α} {k j:Nat} {x y : α}
@[go_sem] theorem bs_get : (l.set k x ++ m)[l.length + j]? = m[j]? := by
 rw[List.getElem?_append_right (by simp),List.length_set,Nat.add_sub_cancel_left]
@[go_sem] theorem bs_get0 : (l.set k x ++ m)[l.length]? = m[0]? := by
 rw[List.getElem?_append_right (by simp),List.length_set,Nat.sub_self]
@[go_sem] theorem bs_set : (l.set k x ++ m).set (l.length + j) y = l.set k x ++ m.set j y := by
 rw[List.set_append_right _ _ (by simp),List.length_set,Nat.add_sub_cancel_left]
@[go_sem] theorem bs_set0 : (l.set k x ++ m).set l.length y = l.set k x ++ m.set 0 y := by
 rw[List.set_append_right _ _ (by simp),List.length_set,Nat.sub_self]
end
attribute [go_sem] List.length_set List.set_set
@[go_sem] theorem add_succ_r {n m : Nat} : n + (m + 1) + 1 = n + (m + 1 + 1) := rfl
@[go_sem] theorem nk_beq {n m : Nat} : (n + (m + 1) == n) = false := beq_eq_false_iff_ne.2 (by omega)
@[go_sem] theorem add_beq {n a b : Nat} : (n + a == n + b) = (a == b) := by rw [Bool.eq_iff_iff, beq_iff_eq, beq_iff_eq]; omega
@[go_sem] theorem nk1_beq {n : Nat} : (n + 1 == n) = false := beq_eq_false_iff_ne.2 (by omega)
@[go_sem] theorem nk2_beq {n : Nat} : (n + 2 == n) = false := beq_eq_false_iff_ne.2 (by omega)
@[go_sem] theorem nk3_beq {n : Nat} : (n + 3 == n) = false := beq_eq_false_iff_ne.2 (by omega)
@[go_sem] theorem nk4_beq {n : Nat} : (n + 4 == n) = false := beq_eq_false_iff_ne.2 (by omega)
@[go_sem] theorem nk5_beq {n : Nat} : (n + 5 == n) = false := beq_eq_false_iff_ne.2 (by omega)
@[go_sem] theorem nk6_beq {n : Nat} : (n + 6 == n) = false := beq_eq_false_iff_ne.2 (by omega)
@[go_sem] theorem nk7_beq {n : Nat} : (n + 7 == n) = false := beq_eq_false_iff_ne.2 (by omega)
@[go_sem] theorem nk8_beq {n : Nat} : (n + 8 == n) = false := beq_eq_false_iff_ne.2 (by omega)
@[go_sem] theorem nk9_beq {n : Nat} : (n + 9 == n) = false := beq_eq_false_iff_ne.2 (by omega)
@[go_sem] theorem nk10_beq {n : Nat} : (n + 10 == n) = false := beq_eq_false_iff_ne.2 (by omega)
@[go_sem] theorem nk11_beq {n : Nat} : (n + 11 == n) = false := beq_eq_false_iff_ne.2 (by omega)
@[go_sem] theorem nk12_beq {n : Nat} : (n + 12 == n) = false := beq_eq_false_iff_ne.2 (by omega)
@[go_sem] theorem nk13_beq {n : Nat} : (n + 13 == n) = false := beq_eq_false_iff_ne.2 (by omega)
@[go_sem] theorem nk14_beq {n : Nat} : (n + 14 == n) = false := beq_eq_false_iff_ne.2 (by omega)
@[go_sem] theorem nk15_beq {n : Nat} : (n + 15 == n) = false := beq_eq_false_iff_ne.2 (by omega)
def SlV (l:List PV) (x:PV):Prop:=slcOf x.nm=some l
theorem OutV.sl {n:Nat} {T:TypeId} {l:List PV} {x:PV} {rows:List (Nat × Nat)} {rt:List TypeId} (h:OutV n T l x rows rt):SlV l x:=h.slc
section
variable {l:List PV} {x:PV}
theorem SlV.cases {P:PV->Prop} (h:SlV l x) (h1:l=[]->P .nils) (h2:l=[]->P .emp) (h3:P (.full l)) (h4 : ∀ r,P (.own r l)) (h5:P (.lst l)) (h6:l=[]->P .emc):P x:=by
 unfold SlV at h
 cases x <;> simp only[PV.nm,slcOf,Option.some.injEq] at h <;> first|(cases h; done)|skip
 ·exact h1 h.symm
 ·exact h2 h.symm
 ·exact h6 h.symm
 ·subst h; exact h5
 ·subst h; exact h3
 ·subst h; exact h4 _
theorem SlV.or (h:SlV l x):(x = .nils/\l=[])\/(x = .emp/\l=[])\/(x = .emc/\l=[])\/x = .full l\/(∃ r,x = .own r l)\/x = .lst l :=
 h.cases (P:=fun x=>(x = .nils/\l=[])\/(x = .emp/\l=[])\/(x = .emc/\l=[])\/x = .full l\/(∃ r,x = .own r l)\/x = .lst l) (fun e=>.inl ⟨rfl,e⟩) (fun e=>.inr (.inl ⟨rfl,e⟩)) (.inr (.inr (.inr (.inl rfl)))) (fun r=>.inr (.inr (.inr (.inr (.inl ⟨r,rfl⟩))))) (.inr (.inr (.inr (.inr (.inr rfl))))) (fun e=>.inr (.inr (.inl ⟨rfl,e⟩)))
theorem SlV.shutA (h:SlV l x) (k:Nat):YthjnlpfibakacaaGreatDoorPe.shutA (k+1) x=some (.lst l):=h.cases (P:=fun x=>YthjnlpfibakacaaGreatDoorPe.shutA (k+1) x=some (.lst l)) (fun e=>by rw[e]; rfl) (fun e=>by rw[e]; rfl) rfl (fun _=>rfl) rfl (fun e=>by rw[e]; rfl)
theorem SlV.shutR (h:SlV l x) (st:St) (k:Nat):YthjnlpfibakacaaGreatDoorPe.shutR false st (k+1) x=some (.lst l):=h.cases (P:=fun x=>YthjnlpfibakacaaGreatDoorPe.shutR false st (k+1) x=some (.lst l)) (fun e=>by rw[e]; rfl) (fun e=>by rw[e]; rfl) rfl (fun _=>rfl) rfl (fun e=>by rw[e]; rfl)
theorem SlV.cells (h:SlV l x):PV.cells.match_1 (fun _=>List PV) x (fun cs=>cs) (fun _=>[]) (fun v=>[v])=[x]:=h.cases (P:=fun x=>x.cells=[x]) (fun _=>rfl) (fun _=>rfl) rfl (fun _=>rfl) rfl (fun _=>rfl)
theorem SlV.cell (h:SlV l x):PV.isCell.match_1 (fun _=>Bool) x (fun _=>false) (fun _=>false) (fun _=>false) (fun _=>true)=true:=h.cases (P:=fun x=>x.isCell=true) (fun _=>rfl) (fun _=>rfl) rfl (fun _=>rfl) rfl (fun _=>rfl)
theorem SlV.len (h:SlV l x):unV .len x=some (.int .i64 (l.length:Int)):=h.cases (P:=fun x=>unV .len x=some (.int .i64 (l.length:Int))) (fun e=>by rw[e]; rfl) (fun e=>by rw[e]; rfl) rfl (fun _=>rfl) rfl (fun e=>by rw[e]; rfl)
end
structure Kp (k:Nat) (st st':St):Prop where
 bl:st.boxes.length<=st'.boxes.length
 bx : ∀ i,i<st.boxes.length->i≠k->st'.boxes[i]? = st.boxes[i]?
 rl:st.rows.length<=st'.rows.length
 rw : ∀ i,i<st.rows.length->st'.rows[i]? = st.rows[i]? /\ st'.rt[i]? = st.rt[i]?
 rn:st'.rt.length=st'.rows.length
theorem Kp.trans {k:Nat} {a b c:St} (h:Kp k a b) (g:Kp k b c):Kp k a c :=
 ⟨Nat.le_trans h.bl g.bl,fun i hi hne=>(g.bx i (Nat.lt_of_lt_of_le hi h.bl) hne).trans (h.bx i hi hne),Nat.le_trans h.rl g.rl,fun i hi=>⟨(g.rw i (Nat.lt_of_lt_of_le hi h.rl)).1.trans (h.rw i hi).1,(g.rw i (Nat.lt_of_lt_of_le hi h.rl)).2.trans (h.rw i hi).2⟩,g.rn⟩
theorem Kp.out {k:Nat} {st st':St} (h:Kp k st st') {n:Nat} {T:TypeId} {l:List PV} {x:PV} (hO:OutV n T l x st.rows st.rt):OutV n T l x st'.rows st'.rt:=by
 rcases hO with hO|⟨r,e1,e2,e3⟩
 ·exact .inl hO
 ·have hr:=(List.getElem?_eq_some_iff.1 e2).1
  exact .inr ⟨r,e1,(h.rw r hr).1.trans e2,(h.rw r hr).2.trans e3⟩
theorem Kp.split {k:Nat} {pre mid:List (List PV)} {rows:List (Nat × Nat)} {bt rt:List TypeId} {st':St} (h:Kp k ⟨pre++mid,rows,bt,rt⟩ st') (hk:k<pre.length) :
  ∃ pre' rest,st'.boxes=pre'++(mid++rest)/\pre'.length=pre.length/\(∀ i,i≠k->pre'[i]? = pre[i]?)/\pre'[k]? = st'.boxes[k]? := by
 have hl:(pre++mid).length<=st'.boxes.length:=h.bl
 rw[List.length_append] at hl
 have hpl:(st'.boxes.take pre.length).length=pre.length:=by rw[List.length_take]; omega
 refine⟨st'.boxes.take pre.length,st'.boxes.drop (pre.length+mid.length),?_,hpl,?_,?_⟩
 ·apply List.ext_getElem?
  intro i
  by_cases h1:i<pre.length
  ·rw[List.getElem?_append_left (by rw[hpl]; exact h1),List.getElem?_take_of_lt h1]
  ·rw[List.getElem?_append_right (by rw[hpl]; omega),hpl]
   by_cases h2:i<pre.length+mid.length
   ·rw[List.getElem?_append_left (by omega),h.bx i (by simp; omega) (by omega),List.getElem?_append_right (by omega)]
   ·rw[List.getElem?_append_right (by omega),List.getElem?_drop]
    congr 1
    omega
 ·intro i hi
  by_cases h1:i<pre.length
  ·rw[List.getElem?_take_of_lt h1,h.bx i (by simp; omega) hi,List.getElem?_append_left h1]
  ·rw[List.getElem?_eq_none (by rw[hpl]; omega),List.getElem?_eq_none (by omega)]
 ·rw[List.getElem?_take_of_lt hk]
theorem wrapN {n:Nat} (h:n+1<9223372036854775808):IntKind.i64.wrap ((n:Int)+1)=((n+1:Nat):Int):=by rw[IntKind.wrap_i64]; omega
theorem take_succ_at {α : Type} {l:List α} {n:Nat} (h:n<l.length):l.take (n+1)=l.take n++[l[n]]:=by simp
theorem map_at {α β : Type} {f : α -> β} {l:List α} {n:Nat} (h:n<l.length):(l.map f)[n]? = some (f l[n]):=by simp[h]
end Go.Proofs.YthjnlpfibakacaaGreatDoorPe
