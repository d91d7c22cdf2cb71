/- A part of the proof of this folder's statement; it has no condition of its own. -/
import Derived.Test.YthjnlpfibakacaaGreatDoorEcOut2
set_option linter.unusedVariables false
set_option linter.unusedSimpArgs false
namespace Go.Proofs.YthjnlpfibakacaaGreatDoorPe
open Go
section
variable {n:Nat} {T:TypeId} {l:List PV} {x:PV} {rows:List (Nat × Nat)} {rt:List TypeId}
def Unlike (x y:PV):Prop := ∀ r l m,x = .own r l->y ≠ .own r m
theorem OutV.app1o {b:Nat} (h:OutV n T l x rows rt) (hr:rt.length=rows.length) {e:PV} (hs:e.cells.length=n) (hb:(l.length+1)*(b+1)<=70368744177664) :
  ∃ r rows' rt',(∀ bs bt,evAppend n b T x.nm [e] ⟨bs,rows,bt,rt⟩=some (.own r (l++[e]),⟨bs,rows',bt,rt'⟩))/\OutV n T (l++[e]) (.own r (l++[e])) rows' rt'/\rt'.length=rows'.length/\rows.length<=rows'.length /\
   (∀ n2 T2 l2 x2,OutV n2 T2 l2 x2 rows rt->Unlike x x2->OutV n2 T2 l2 x2 rows' rt'/\Unlike (.own r (l++[e])) x2):=by
 obtain⟨x',rows',rt',h1,h2,h3,h4,h5,h6,h7⟩:=h.app1 (b:=b) hr hs hb
 have hx : ∃ r,x' = .own r (l++[e]):=by
  have k:=h1 [] []
  have hz:szAll n [e]=true:=by simp[szAll,hs]
  rcases h with ⟨h,hl⟩|⟨r,rfl,e1,e2⟩
  ·rw[h,A_full,hz,if_pos rfl,if_pos ⟨by simpa using hb,hl⟩] at k
   cases k
   exact⟨_,rfl⟩
  ·rw[n_own,A_own,hz,if_pos rfl,if_pos ⟨by simpa using hb,e1,e2⟩] at k
   cases k
   exact⟨_,rfl⟩
 obtain⟨r,rfl⟩:=hx
 refine⟨r,rows',rt',h1,h2,h3,h4,fun n2 T2 l2 x2 k hne=>⟨h5 n2 T2 l2 x2 k fun r' l1 e0 e1=>hne r' l1 l2 e0 e1,fun r' l1 m e0 e1 => ?_⟩⟩
 cases e0
 rcases h7 r _ rfl with ⟨l0,h⟩|h
 ·exact hne r l0 m h e1
 ·rcases k with ⟨k,_⟩|⟨r2,e3,e4,_⟩
  ·rw[e1] at k; cases k
  ·rw[e1] at e3
   cases e3
   have:=(List.getElem?_eq_some_iff.1 e4).1
   omega
theorem Unlike.nils {y:PV}:Unlike .nils y:=fun r l m h=>by cases h
theorem Unlike.symm {x y:PV} (h:Unlike x y):Unlike y x:=fun r l m h1 h2=>h r m l h2 h1
end
@[go_sem] theorem U_lenhs {n b o len : Nat} : unV .len (.hs n b o len) = some (.int .i64 (len : Int)) := rfl
@[go_sem] theorem B_idxhs {n m b o len : Nat} {i : Int} {k : IntKind} : biV (.idx n) (.hs m b o len) (.int k i) = evHidx n m b o len i := rfl
theorem hs_at {n b j len:Nat} (h:j<len):evHidx n n b 0 len (j:Int)=some (.ptr b (0+j*n)):=by
 unfold evHidx
 rw[if_pos ⟨rfl,by omega,by omega⟩,Int.toNat_natCast]
@[go_sem] theorem n_hs {n b o len : Nat} : PV.nm (.hs n b o len) = .hs n b o len := rfl
theorem happend_hs {n b bb len:Nat} {es:List PV} {e:PV} {cs:List PV} {st:St} (hb:st.boxes[bb]? = some cs) (h1:szAll n (e::es)=true) (h2:len*n<=cs.length) (h3:0<cs.length) (h4:st.bt[bb]? = some hsT) (h5:(len+(e::es).length)*(b+1)<=70368744177664) :
  happendV n b (.hs n bb 0 len) (.full (e::es)) st=some (.hs n st.boxes.length 0 (len+(e::es).length),⟨st.boxes.set bb []++[cs.take (len*n)++cellsL (e::es)],st.rows,st.bt++[hsT],st.rt⟩):=by
 show evHappend n b (.hs n bb 0 len) (e::es) st=_
 unfold evHappend
 simp only[h1,if_true,n_hs,hb]
 rw[if_pos ⟨trivial,h2,h3,h4,h5⟩]
theorem happend_nil {n b:Nat} {es:List PV} {e:PV} {st:St} (h1:szAll n (e::es)=true) (h5:(e::es).length*(b+1)<=70368744177664) :
  happendV n b .nils (.full (e::es)) st=some (.hs n st.boxes.length 0 (0+(e::es).length),⟨st.boxes++[cellsL (e::es)],st.rows,st.bt++[hsT],st.rt⟩):=by
 show evHappend n b .nils (e::es) st=_
 unfold evHappend
 simp only[h1,if_true,n_nils]
 rw[if_pos ⟨by simpa using h5,rfl⟩]
 rfl
@[go_sem] theorem K_id {x : EX} {fr : Fr} {st : St} : idK x fr st = some (x, fr, st) := rfl
@[go_sem] theorem K_both {α : Type} {K : EX -> Fr -> St -> Option α} {x : EX} {fr : Fr} {st : St} : bothK K (some (x, fr, st)) = K x fr st := rfl
attribute [go_sem] bothE_eq
def swap2 (a b:Option (PV × St)) (fr:Fr):Option (Fr × St) :=
 match a,b with
 |some (_,s),some (_,t)=>if sameSt s t=true then some (fr,s) else none
 |_,_=>none
@[go_sem] theorem T_swap {cl : CallF} {x y : EOp} {fr : Fr} {st : St} : evStmt cl (.swap x y) fr st = swapV (evEff cl fr st x) (fun st => evEff cl fr st y) (evEff cl fr st y) (fun st => evEff cl fr st x) fr := rfl
@[go_sem] theorem swapV_some {u v : PV} {s t : St} {b d : St -> Option (PV × St)} {fr : Fr} : swapV (some (u, s)) b (some (v, t)) d fr = swap2 (b s) (d t) fr := by
 unfold swapV swap2
 simp only
 cases b s with
 |none=>rfl
 |some p=>cases d t <;> rfl
@[go_sem] theorem swap2_some {u v : PV} {s : St} {fr : Fr} : swap2 (some (u, s)) (some (v, s)) fr = some (fr, s) := by
 unfold swap2
 simp only
 rw[if_pos (sameSt_self _)]
end Go.Proofs.YthjnlpfibakacaaGreatDoorPe
