/- A part of the proof of this folder's statement; it has no condition of its own. -/
import Derived.Test.YthjnlpfibakacaaGreatDoorTmplBld
import Derived.Test.YthjnlpfibakacaaGreatDoorTmplNum
import Derived.Test.YthjnlpfibakacaaGreatDoorTmplGivt
set_option linter.unusedVariables false
set_option linter.unusedSimpArgs false
set_option maxRecDepth 100000
namespace Go.Proofs.YthjnlpfibakacaaGreatDoorPe.Tmpl
open Go Go.Proofs.YthjnlpfibakacaaGreatDoorPe Go.Proofs.YthjnlpfibakacaaGreatDoorPe.TmplCode
structure Vl where
 k:Int
 i:Int
 s:List UInt8
 deriving DecidableEq
def Vl.p (v:Vl):PV:=.agg [.int .i64 v.k,.int .i64 v.i,.str v.s]
def orM:List Int->Int
 |[]=>0
 |x::l=>if x=0 then orM l else x
def cmpI (a b:Int):Int:=if a<b then -1 else if a>b then 1 else 0
def cmpS (a b:List UInt8):Int:=if Op.bytesLess a b=true then -1 else if a=b then 0 else 1
def ints (l:List Int):List PV:=l.map (.int .i64)
theorem idx_at {n:Nat} {l:List PV} {i:Nat} {e:PV} (h:l[i]? = some e) (hn:e.cells.length=n):evIdx n l (i:Int)=some (.ref e.cells):=by
 unfold evIdx
 rw[if_pos (Int.natCast_nonneg i),Int.toNat_natCast,h]
 simp only[hn,if_true]
section
variable (given:FuncId->List PV->Option PV)
theorem isNaN_ok {i:Int}:callE efns given f_cmp_isNaN_int [.int .i64 i] ⟨[],[],[],[]⟩=some (.bool false,⟨[],[],[],[]⟩):=by
 rw[callE_fn efns given (c:=e_cmp_isNaN_int) rfl rfl]
 simp only[e_cmp_isNaN_int,go_sem]
 simp
theorem compareI_ok {a b:Int}:callE efns given f_cmp_Compare_int [.int .i64 a,.int .i64 b] ⟨[],[],[],[]⟩=some (.int .i64 (cmpI a b),⟨[],[],[],[]⟩):=by
 unfold cmpI
 rw[callE_fn efns given (c:=e_cmp_Compare_int) rfl rfl]
 simp only[e_cmp_Compare_int,go_sem,V_call,isNaN_ok]
 by_cases h1:a<b
 ·simp only[h1,if_true]
 ·by_cases h2:a>b
  ·simp only[h1,h2,if_true,if_false]
  ·simp only[h1,h2,if_false]
theorem isNaN64_ok {i:Int}:callE efns given f_cmp_isNaN_int64 [.int .i64 i] ⟨[],[],[],[]⟩=some (.bool false,⟨[],[],[],[]⟩):=by
 rw[callE_fn efns given (c:=e_cmp_isNaN_int64) rfl rfl]
 simp only[e_cmp_isNaN_int64,go_sem]
 simp
theorem compare64_ok {a b:Int}:callE efns given f_cmp_Compare_int64 [.int .i64 a,.int .i64 b] ⟨[],[],[],[]⟩=some (.int .i64 (cmpI a b),⟨[],[],[],[]⟩):=by
 unfold cmpI
 rw[callE_fn efns given (c:=e_cmp_Compare_int64) rfl rfl]
 simp only[e_cmp_Compare_int64,go_sem,V_call,isNaN64_ok]
 by_cases h1:a<b
 ·simp only[h1,if_true]
 ·by_cases h2:a>b
  ·simp only[h1,h2,if_true,if_false]
  ·simp only[h1,h2,if_false]
theorem isNaNs_ok {s:List UInt8}:callE efns given f_cmp_isNaN_string [.str s] ⟨[],[],[],[]⟩=some (.bool false,⟨[],[],[],[]⟩):=by
 rw[callE_fn efns given (c:=e_cmp_isNaN_string) rfl rfl]
 simp only[e_cmp_isNaN_string,go_sem]
 simp
theorem compareS_ok {a b:List UInt8}:callE efns given f_cmp_Compare_string [.str a,.str b] ⟨[],[],[],[]⟩=some (.int .i64 (cmpS a b),⟨[],[],[],[]⟩):=by
 rw[callE_fn efns given (c:=e_cmp_Compare_string) rfl rfl]
 simp only[e_cmp_Compare_string,go_sem,V_call,isNaNs_ok]
 unfold cmpS
 cases h1:Op.bytesLess a b
 ·by_cases h2:a=b
  ·simp[h2]
  ·simp[h2]
 ·simp
theorem or_loop {st:St} {K:EX->Fr->St->Option (PV × St)} {l:List Int} (hl:l.length<4611686018427387904) : ∀ (d n:Nat),l.length-n=d->n<=l.length ->
  ∃ i,runL (callE efns given) [false,true,true,true,true] b_cmp_Or_int_0 [.undef,.int .i64 0,.lst (ints l),.int .i64 l.length,.int .i64 n] st K=if orM (l.drop n)=0 then K (.exit 0) [.undef,.int .i64 0,.lst (ints l),.int .i64 l.length,i] st
   else K (.ret (.int .i64 (orM (l.drop n)))) [] st:=by
 intro d
 induction d with
 |zero =>
  intro n hd hn
  have:n=l.length:=by omega
  subst this
  refine⟨.int .i64 l.length,?_⟩
  rw[runL_eq,List.drop_length]
  generalize runL _ _ b_cmp_Or_int_0=L
  simp only[b_cmp_Or_int_0,go_sem,orM,Int.lt_irrefl,if_false,if_true]
 |succ d ih =>
  intro n hd hn
  have hlt:n<l.length:=by omega
  obtain⟨i,hi⟩:=ih (n+1) (by omega) (by omega)
  refine⟨i,?_⟩
  have ga:(ints l)[n]? = some (.int .i64 l[n]):=by simp[ints,hlt]
  have w1:IntKind.i64.wrap ((n:Int)+1)=((n+1:Nat):Int):=by rw[IntWalk.i64_in _ (by omega)]; omega
  have c1:(n:Int)<(l.length:Int):=by omega
  rw[runL_eq,List.drop_eq_getElem_cons hlt]
  generalize runL _ _ b_cmp_Or_int_0=L at hi ⊢
  simp only[b_cmp_Or_int_0,go_sem,idx_at (n:=1) ga rfl,c1,w1,if_true,hi,orM]
  by_cases h0:l[n]=0
  ·simp only[h0,ne_eq,not_true_eq_false,if_false,if_true]
  ·simp only[h0,ne_eq,not_false_eq_true,if_false,if_true]
theorem or_ok {l:List Int} (hl:l.length<4611686018427387904):callE efns given f_cmp_Or_int [.lst (ints l)] ⟨[],[],[],[]⟩=some (.int .i64 (orM l),⟨[],[],[],[]⟩):=by
 rw[callE_fn efns given (c:=e_cmp_Or_int) rfl rfl]
 have hlen:unV .len (.lst (ints l))=some (.int .i64 l.length):=by
  show some (PV.int .i64 ((ints l).length:Nat))=_
  simp[ints]
 simp only[e_cmp_Or_int,go_sem,hlen]
 generalize hK:blockK 0 _=K
 obtain⟨i,hi⟩:=or_loop given (st:=⟨[],[],[],[]⟩) (K:=K) hl l.length 0 rfl (by omega)
 refine Eq.trans hi ?_
 rw[List.drop_zero]
 split
 ·rename_i h
  rw[<- hK,h]
  simp only[go_sem]
 ·rw[<- hK]
  rfl
def cmpV (v w:Vl):Int:=orM [cmpI v.k w.k,cmpI v.i w.i,cmpS v.s w.s]
theorem compare_ok (v w:Vl) : ∃ st,callE efns given f_val_Compare [v.p,w.p] ⟨[],[],[],[]⟩=some (.int .i64 (cmpV v w),st):=by
 have h3:callE efns given f_cmp_Or_int [.lst [.int .i64 (cmpI v.k w.k),.int .i64 (cmpI v.i w.i),.int .i64 (cmpS v.s w.s)]] ⟨[],[],[],[]⟩=_:=or_ok given (l:=[cmpI v.k w.k,cmpI v.i w.i,cmpS v.s w.s]) (by simp)
 refine⟨?_,?_⟩
 rotate_left
 ·rw[callE_fn efns given (c:=e_val_Compare) rfl rfl]
  have h1:=compareI_ok given (a:=v.k) (b:=w.k)
  have h2:=compare64_ok given (a:=v.i) (b:=w.i)
  have hb : ∀ a b c:Int,tupV (callE efns given) (.bslice 1 [.int .i64 0] 3 [0,1,2]) [.int .i64 a,.int .i64 b,.int .i64 c]=some (.full [.int .i64 a,.int .i64 b,.int .i64 c]):=fun a b c=>rfl
  simp only[e_val_Compare,Vl.p,go_sem,V_call,h1,h2,compareS_ok,hb,h3]
  rfl
theorem ofSym_ok {s:List UInt8} : ∃ st,callE efns given f_val_OfSym [.str s] ⟨[],[],[],[]⟩=some (Vl.p ⟨2,0,s⟩,st):=by
 refine⟨?_,?_⟩
 rotate_left
 ·rw[callE_fn efns given (c:=e_val_OfSym) rfl rfl]
  simp only[e_val_OfSym,go_sem,zip3,fillP]
  rfl
theorem rsym_ok {s:List UInt8} : ∃ st,callE efns given f_ref3_Sym [.str s] ⟨[],[],[],[]⟩=some (Vl.p ⟨2,0,s⟩,st):=by
 refine⟨?_,?_⟩
 rotate_left
 ·rw[callE_fn efns given (c:=e_ref3_Sym) rfl rfl]
  simp only[e_ref3_Sym,go_sem,zip3,fillP]
  rfl
theorem ofSym_t {s:List UInt8}:tupV (callE efns given) (.call 0 f_val_OfSym) [.str s]=some (Vl.p ⟨2,0,s⟩):=by
 obtain⟨st,h⟩:=ofSym_ok given
 exact callV_of rfl h rfl
theorem rsym_t {s:List UInt8}:tupV (callE efns given) (.call 0 f_ref3_Sym) [.str s]=some (Vl.p ⟨2,0,s⟩):=by
 obtain⟨st,h⟩:=rsym_ok given
 exact callV_of rfl h rfl
theorem compare_t (v w:Vl):tupV (callE efns given) (.call 0 f_val_Compare) [v.p,w.p]=some (.int .i64 (cmpV v w)):=by
 obtain⟨st,h⟩:=compare_ok given v w
 exact callV_of rfl h rfl
theorem same_ok (v w:Vl) : ∃ st,callE efns given f_val_Same [v.p,w.p] ⟨[],[],[],[]⟩=some (.bool (decide (cmpV v w=0)),st):=by
 refine⟨⟨[v.p.cells,w.p.cells],[],[T_val_Same_0,T_val_Same_0],[]⟩,?_⟩
 rw[callE_fn efns given (c:=e_val_Same) rfl rfl]
 have h:=compare_t given v w
 simp only[Vl.p] at h
 simp only[e_val_Same,Vl.p,go_sem,h]
theorem rsame_ok (v w:Vl) : ∃ st,callE efns given f_ref3_Same [v.p,w.p] ⟨[],[],[],[]⟩=some (.bool (decide (v=w)),st):=by
 refine⟨⟨[v.p.cells,w.p.cells],[],[T_ref3_Same_0,T_ref3_Same_0],[]⟩,?_⟩
 rw[callE_fn efns given (c:=e_ref3_Same) rfl rfl]
 obtain⟨k,i,s⟩:=v
 obtain⟨k',i',s'⟩:=w
 by_cases h1:k=k'
 ·subst h1
  by_cases h2:i=i'
  ·subst h2
   simp only[e_ref3_Same,Vl.p,go_sem]
   simp
  ·simp only[e_ref3_Same,Vl.p,go_sem,h2]
   simp[h2]
 ·simp only[e_ref3_Same,Vl.p,go_sem,h1]
  simp[h1]
theorem same_t (v w:Vl):tupV (callE efns given) (.call 0 f_val_Same) [v.p,w.p]=some (.bool (decide (cmpV v w=0))):=by
 obtain⟨st,h⟩:=same_ok given v w
 exact callV_of rfl h rfl
theorem rsame_t (v w:Vl):tupV (callE efns given) (.call 0 f_ref3_Same) [v.p,w.p]=some (.bool (decide (v=w))):=by
 obtain⟨st,h⟩:=rsame_ok given v w
 exact callV_of rfl h rfl
end
end Go.Proofs.YthjnlpfibakacaaGreatDoorPe.Tmpl
set_option linter.unusedVariables false
set_option linter.unusedSimpArgs false
set_option maxRecDepth 1000000
namespace Go.Proofs.YthjnlpfibakacaaGreatDoorPe.Tmpl
open Go Go.Proofs.YthjnlpfibakacaaGreatDoorPe Go.Proofs.YthjnlpfibakacaaGreatDoorPe.TmplCode
theorem cmpI_spec (a b:Int):(a<b/\cmpI a b = -1)\/(a=b/\cmpI a b=0)\/(a>b/\cmpI a b=1):=by
 unfold cmpI
 by_cases h1:a<b
 ·exact .inl ⟨h1,if_pos h1⟩
 ·by_cases h2:a>b
  ·exact .inr (.inr ⟨h2,by rw[if_neg h1,if_pos h2]⟩)
  ·exact .inr (.inl ⟨by omega,by rw[if_neg h1,if_neg h2]⟩)
def lex (p r:Int):Int:=if p=0 then r else p
def c3:List UInt8->List UInt8->Int
 |[],[]=>0
 |[],_::_ => -1
 |_::_,[]=>1
 |a::x,b::y=>lex (cmpI a.toNat b.toNat) (c3 x y)
theorem u8_eq {a b:UInt8} (h:(a.toNat:Int)=b.toNat):a=b:=UInt8.toNat_inj.1 (by omega)
theorem u8_lt {a b:UInt8}:(a<b)=((a.toNat:Int)<b.toNat):=by
 have:a<b ↔ a.toNat<b.toNat:=UInt8.lt_iff_toNat_lt
 rw[propext this]
 simp
theorem cmpS_eq : ∀ a b:List UInt8,cmpS a b=c3 a b
 |[],[]=>rfl
 |[],_::_=>rfl
 |_::_,[]=>rfl
 |a::x,b::y=>by
  have ih:=cmpS_eq x y
  unfold cmpS at ih ⊢
  unfold c3 lex
  rw[<- ih]
  have e:Op.bytesLess (a::x) (b::y)=(decide (a<b)||(a==b&&Op.bytesLess x y)):=rfl
  rw[e]
  rcases cmpI_spec a.toNat b.toNat with ⟨q,h⟩|⟨q,h⟩|⟨q,h⟩
  ·have:a<b:=by rw[u8_lt]; exact q
   rw[h]; simp[this]
  ·have:=u8_eq q
   subst this
   rw[h]
   simp[UInt8.lt_irrefl]
  ·have h1 : ¬ a<b:=by rw[u8_lt]; omega
   have h2:a≠b:=by rintro rfl; omega
   rw[h]; simp[h1,h2]
def Vl.cells' (v:Vl):List PV:=[.int .i64 v.k,.int .i64 v.i,.str v.s]
end Go.Proofs.YthjnlpfibakacaaGreatDoorPe.Tmpl
set_option linter.unusedVariables false
set_option linter.unusedSimpArgs false
set_option maxRecDepth 1000000
namespace Go.Proofs.YthjnlpfibakacaaGreatDoorPe.Tmpl
open Go Go.Proofs.YthjnlpfibakacaaGreatDoorPe Go.Proofs.YthjnlpfibakacaaGreatDoorPe.TmplCode
theorem code_eq {c:UInt8} {n:Nat} (hn:n<256):((c.toNat:Int)=(n:Int))=(c=UInt8.ofNat n):=toNat_eq hn
theorem drop_at {s:List UInt8} {n:Nat} {c:UInt8} (hc:s[n]? = some c):s.drop n=c::s.drop (n+1):=by
 obtain⟨hlt,rfl⟩:=List.getElem?_eq_some_iff.1 hc
 rw[List.drop_eq_getElem_cons hlt]
end Go.Proofs.YthjnlpfibakacaaGreatDoorPe.Tmpl
set_option linter.unusedVariables false
set_option linter.unusedSimpArgs false
set_option maxRecDepth 1000000
namespace Go.Proofs.YthjnlpfibakacaaGreatDoorPe.Tmpl
open Go Go.Proofs.YthjnlpfibakacaaGreatDoorPe Go.Proofs.YthjnlpfibakacaaGreatDoorPe.TmplCode
def Small (v:Vl):Prop:=I64 v.k/\I64 v.i/\v.s.length<=1100
end Go.Proofs.YthjnlpfibakacaaGreatDoorPe.Tmpl
