/- A part of the proof of this folder's statement; it has no condition of its own. -/
import Derived.Test.YthjnlpfibakacaaGreatDoorTmpfLexM
set_option linter.unusedVariables false
set_option linter.unusedSimpArgs false
set_option maxRecDepth 1000000
namespace Go.Proofs.YthjnlpfibakacaaGreatDoorPe.Tmpf
open Go Go.Proofs.YthjnlpfibakacaaGreatDoorPe Go.Proofs.YthjnlpfibakacaaGreatDoorPe.TmpfCode
theorem shape_t {s:List UInt8} (hs:s.length<4611686018427387904):tupV (callE efns given) (.call 0 f_ref1_Shape) [.str s]=some (.bool (shapeM s)):=callV_of rfl (shape_ok given hs ⟨[],[],[],[]⟩) rfl
end Go.Proofs.YthjnlpfibakacaaGreatDoorPe.Tmpf
set_option linter.unusedVariables false
set_option linter.unusedSimpArgs false
set_option maxRecDepth 1000000
namespace Go.Proofs.YthjnlpfibakacaaGreatDoorPe.Tmpf
open Go Go.Proofs.YthjnlpfibakacaaGreatDoorPe Go.Proofs.YthjnlpfibakacaaGreatDoorPe.TmpfCode
inductive TokK:Tk->Prop
 |sign (k:Int) (h:k=4\/k=5\/k=8):TokK ⟨k,0,[]⟩
 |str (s:List UInt8) (h:s.length<=1000):TokK ⟨3,0,s⟩
 |name (k:Int) (s:List UInt8) (hk:k=6\/k=7) (h:goodM s=true):TokK ⟨k,0,s⟩
 |int (i:Int) (h:I64 i):TokK ⟨1,i,[]⟩
 |sym (s:List UInt8) (h1:s≠[]) (h2:s.length<=40) (h3:s.all signB=true) (h4:(parseM s).2=2):TokK ⟨2,0,s⟩
end Go.Proofs.YthjnlpfibakacaaGreatDoorPe.Tmpf
set_option linter.unusedVariables false
set_option linter.unusedSimpArgs false
set_option maxRecDepth 1000000
namespace Go.Proofs.YthjnlpfibakacaaGreatDoorPe.Tmpf
open Go Go.Proofs.YthjnlpfibakacaaGreatDoorPe Go.Proofs.YthjnlpfibakacaaGreatDoorPe.TmpfCode
end Go.Proofs.YthjnlpfibakacaaGreatDoorPe.Tmpf
set_option linter.unusedVariables false
set_option linter.unusedSimpArgs false
set_option maxRecDepth 1000000
namespace Go.Proofs.YthjnlpfibakacaaGreatDoorPe.Tmpf
open Go Go.Proofs.YthjnlpfibakacaaGreatDoorPe Go.Proofs.YthjnlpfibakacaaGreatDoorPe.TmpfCode
def EndB:List UInt8->Prop
 |[]=>True
 |c::_=>signB c=false/\partB c=false
def Stops (p:UInt8->Bool):List UInt8->Prop
 |[]=>True
 |c::_=>p c=false
theorem EndB.sign {r:List UInt8} (h:EndB r):Stops signB r:=by
 cases r with
 |nil=>trivial
 |cons c r=>exact h.1
theorem EndB.part {r:List UInt8} (h:EndB r):Stops partB r:=by
 cases r with
 |nil=>trivial
 |cons c r=>exact h.2
theorem tobytes_ok {s:List UInt8}:unV .tobytes (.str s)=some (.lst (byts s)):=rfl
def rightM (v:Vl):Bool :=
 if v.k=1 then decide (v.s=[])
 else if v.k=2 then decide (v.i=0)&&decide (1<=v.s.length)&&decide (v.s.length<=40) && !(shapeM v.s)&&v.s.all signB
 else if v.k=3 then decide (v.i=0)&&decide (v.s.length<=1000)
 else false
end Go.Proofs.YthjnlpfibakacaaGreatDoorPe.Tmpf
set_option linter.unusedVariables false
set_option linter.unusedSimpArgs false
set_option maxRecDepth 100000
namespace Go.Proofs.YthjnlpfibakacaaGreatDoorPe.Tmpf
open Go Go.Proofs Go.Proofs.YthjnlpfibakacaaGreatDoorPe Go.Proofs.YthjnlpfibakacaaGreatDoorPe.TmpfCode
theorem rightB_loop (v:Vl) (hs:v.s.length<=9223372036854775807) {K:EX->Fr->St->Option (PV × St)} : ∀ (d n:Nat) (ok:Bool),v.s.length-n=d->n<=v.s.length ->
  ∃ i x1 x2,runL (callE efns given) [false,true,true,true,false,false,false,false,false,false,false,false,false,false,false,false] b_ref3_Right_0
   [.undef,.ptr 0 0,.bool ok,.int .i64 n,.undef,.undef,.undef,.undef,.undef,.undef,.undef,.undef,.undef,.undef,.undef,.undef] ⟨[v.cells'],[],[T_ref3_Right_0],[]⟩ K =
   K (.exit 1) [.undef,.ptr 0 0,.bool (ok&&(v.s.drop n).all signB),i,.undef,.undef,.undef,.undef,.undef,.undef,.undef,.undef,x1,x2,.undef,.undef] ⟨[v.cells'],[],[T_ref3_Right_0],[]⟩:=by
 intro d
 induction d with
 |zero =>
  intro n ok hd hn
  have:n=v.s.length:=by omega
  subst this
  refine⟨.int .i64 v.s.length,.str v.s,.undef,?_⟩
  rw[runL_eq,List.drop_length,List.all_nil,Bool.and_true]
  generalize runL _ _ b_ref3_Right_0=L
  simp only[b_ref3_Right_0,Vl.cells',go_sem,Int.lt_irrefl,if_false]
 |succ d ih =>
  intro n ok hd hn
  have hlt:n<v.s.length:=by omega
  obtain⟨c,hc⟩ : ∃ c,v.s[n]? = some c:=⟨v.s[n],List.getElem?_eq_getElem hlt⟩
  have w1:IntKind.i64.wrap ((n:Int)+1)=((n+1:Nat):Int):=by rw[IntWalk.i64_in _ (by omega)]; omega
  have c1:((n:Int)<(v.s.length:Int))=True:=eq_true (by omega)
  have hb:=rsignB_t c
  rw[drop_at hc,List.all_cons]
  cases ok with
  |true =>
   obtain⟨i,x1,x2,hr⟩:=ih (n+1) (signB c) (by omega) (by omega)
   refine⟨i,x1,x2,?_⟩
   rw[runL_eq]
   generalize runL _ _ b_ref3_Right_0=L at hr ⊢
   simp only[Vl.cells'] at hr
   simp only[b_ref3_Right_0,Vl.cells',go_sem,sidx_at hc,c1,w1,hb,hr,Bool.true_and]
  |false =>
   obtain⟨i,x1,x2,hr⟩:=ih (n+1) false (by omega) (by omega)
   refine⟨i,x1,x2,?_⟩
   rw[runL_eq]
   generalize runL _ _ b_ref3_Right_0=L at hr ⊢
   simp only[Vl.cells'] at hr
   simp only[b_ref3_Right_0,Vl.cells',go_sem,c1,w1,hr,Bool.false_and]
theorem rightM_t (v:Vl) (hs:v.s.length<=9223372036854775807):tupV (callE efns given) (.call 0 f_ref3_Right) [v.p]=some (.bool (rightM v)):=by
 have key : ∃ st,callE efns given f_ref3_Right [v.p] ⟨[],[],[],[]⟩=some (.bool (rightM v),st):=by
  refine⟨⟨[v.cells'],[],[T_ref3_Right_0],[]⟩,?_⟩
  unfold rightM
  by_cases h1:v.k=1
  ·rw[if_pos h1,callE_fn efns given (c:=e_ref3_Right) rfl rfl]
   simp only[e_ref3_Right,Vl.p,Vl.cells',go_sem,h1]
  ·rw[if_neg h1]
   by_cases h2:v.k=2
   ·rw[if_pos h2,callE_fn efns given (c:=e_ref3_Right) rfl rfl]
    by_cases hi:v.i=0
    ·by_cases l1:(v.s.length:Int)>=1
     ·have l1':1<=v.s.length:=by omega
      by_cases l2:(v.s.length:Int)<=40
      ·have l2':v.s.length<=40:=by omega
       have sh:=shape_t (s:=v.s) (by omega)
       simp only[e_ref3_Right,Vl.p,Vl.cells',go_sem,h2,hi,sh,l1,l2]
       generalize hK:blockK 1 _=K
       obtain⟨i,x1,x2,hr⟩:=rightB_loop v hs (K:=K) v.s.length 0 (!(shapeM v.s)) rfl (by omega)
       simp only[Vl.cells',h2,hi] at hr
       refine Eq.trans hr ?_
       rw[<- hK]
       simp only[go_sem,Vl.cells',h2,hi,List.drop_zero,l1',l2',decide_true,Bool.true_and]
      ·have l2' : ¬ v.s.length<=40:=by omega
       simp only[e_ref3_Right,Vl.p,Vl.cells',go_sem,h2,hi,l1,l2]
       generalize hK:blockK 1 _=K
       obtain⟨i,x1,x2,hr⟩:=rightB_loop v hs (K:=K) v.s.length 0 (false) rfl (by omega)
       simp only[Vl.cells',h2,hi] at hr
       refine Eq.trans hr ?_
       rw[<- hK]
       simp only[go_sem,Vl.cells',h2,hi,List.drop_zero,l1',l2',decide_true,decide_false,Bool.true_and,Bool.and_false,Bool.false_and]
     ·have l1' : ¬ 1<=v.s.length:=by omega
      simp only[e_ref3_Right,Vl.p,Vl.cells',go_sem,h2,hi,l1]
      generalize hK:blockK 1 _=K
      obtain⟨i,x1,x2,hr⟩:=rightB_loop v hs (K:=K) v.s.length 0 (false) rfl (by omega)
      simp only[Vl.cells',h2,hi] at hr
      refine Eq.trans hr ?_
      rw[<- hK]
      simp only[go_sem,Vl.cells',h2,hi,List.drop_zero,l1',decide_true,decide_false,Bool.true_and,Bool.and_false,Bool.false_and]
    ·simp only[e_ref3_Right,Vl.p,Vl.cells',go_sem,h2,hi]
     generalize hK:blockK 1 _=K
     obtain⟨i,x1,x2,hr⟩:=rightB_loop v hs (K:=K) v.s.length 0 (false) rfl (by omega)
     simp only[Vl.cells',h2] at hr
     refine Eq.trans hr ?_
     rw[<- hK]
     simp only[go_sem,Vl.cells',h2,hi,List.drop_zero,decide_false,Bool.false_and]
   ·rw[if_neg h2]
    by_cases h3:v.k=3
    ·rw[if_pos h3,callE_fn efns given (c:=e_ref3_Right) rfl rfl]
     by_cases hi:v.i=0
     ·have e:decide ((v.s.length:Int)<=1000)=decide (v.s.length<=1000):=by
       rw[decide_eq_decide]; omega
      simp only[e_ref3_Right,Vl.p,Vl.cells',go_sem,h3,hi,e,decide_true,Bool.true_and]
     ·simp only[e_ref3_Right,Vl.p,Vl.cells',go_sem,h3,hi,decide_false,Bool.false_and]
    ·rw[if_neg h3,callE_fn efns given (c:=e_ref3_Right) rfl rfl]
     simp only[e_ref3_Right,Vl.p,Vl.cells',go_sem,h1,h2,h3]
 obtain⟨st,h⟩:=key
 exact callV_of rfl h rfl
end Go.Proofs.YthjnlpfibakacaaGreatDoorPe.Tmpf
