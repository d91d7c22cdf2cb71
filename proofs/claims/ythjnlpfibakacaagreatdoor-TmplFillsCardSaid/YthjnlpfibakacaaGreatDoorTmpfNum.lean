/- A part of the proof of this folder's statement; it has no condition of its own. -/
import Derived.Test.YthjnlpfibakacaaGreatDoorTmpfCode
import Derived.Test.YthjnlpfibakacaaGreatDoorEcWp
import Derived.IntWalk
set_option linter.unusedVariables false
set_option linter.unusedSimpArgs false
set_option maxRecDepth 100000
namespace Go.Proofs.YthjnlpfibakacaaGreatDoorPe.Tmpf
open Go Go.Proofs.YthjnlpfibakacaaGreatDoorPe Go.Proofs.YthjnlpfibakacaaGreatDoorPe.TmpfCode
abbrev I64 (n:Int):Prop := -9223372036854775808<=n/\n<=9223372036854775807
def fit (n:Int):Int × Int:=if I64 n then (n,0) else (0,11)
theorem fst_fit {n:Int}:I64 (fit n).1:=by
 unfold fit
 split
 ·assumption
 ·decide
section
variable (given:FuncId->List PV->Option PV)
theorem mul_abs (a b:Int):(if a<0 then -a else a)*(if b<0 then -b else b)=if (a<0)=(b<0) then a*b else -(a*b):=by
 by_cases h1:a<0 <;> by_cases h2:b<0 <;> simp only[h1,h2,if_true,if_false,eq_self_iff_true] <;> simp[Int.neg_mul,Int.mul_neg]
end
end Go.Proofs.YthjnlpfibakacaaGreatDoorPe.Tmpf
set_option linter.unusedVariables false
set_option linter.unusedSimpArgs false
set_option maxRecDepth 100000
namespace Go.Proofs.YthjnlpfibakacaaGreatDoorPe.Tmpf
open Go Go.Proofs.YthjnlpfibakacaaGreatDoorPe Go.Proofs.YthjnlpfibakacaaGreatDoorPe.TmpfCode
def digit (c:UInt8):Bool:=decide (48<=c.toNat)&&decide (c.toNat<=57)
section
variable (given:FuncId->List PV->Option PV)
variable {α : Type} {K:EX->Fr->St->Option α}
def step10 (v:Nat) (c:UInt8):Nat:=10*v+(c.toNat-48)
def acc (v:Nat) (l:List UInt8):Nat:=l.foldl step10 v
theorem acc_cons {v:Nat} {c:UInt8} {r:List UInt8}:acc v (c::r)=acc (10*v+(c.toNat-48)) r:=by
 unfold acc
 rw[List.foldl_cons,step10]
theorem acc_ge (l:List UInt8) : ∀ (v:Nat),v<=acc v l:=by
 induction l with
 |nil=>intro v; exact Nat.le_refl v
 |cons c r ih =>
  intro v
  have:=ih (10*v+(c.toNat-48))
  rw[acc_cons]
  omega
theorem digit_bounds {c:UInt8} (h:digit c=true):48<=c.toNat/\c.toNat<=57:=by
 unfold digit at h
 simpa using h
def parseM (s:List UInt8):Int × Int :=
 let t:=match s with
  |45::r=>(true,r)
  |43::r=>(false,r)
  |r=>(false,r)
 if t.2=[] \/ ¬ t.2.all digit=true then (0,2) else fit (if t.1 then -(acc 0 t.2:Int) else (acc 0 t.2:Int))
end
end Go.Proofs.YthjnlpfibakacaaGreatDoorPe.Tmpf
set_option linter.unusedVariables false
set_option linter.unusedSimpArgs false
set_option maxRecDepth 100000
namespace Go.Proofs.YthjnlpfibakacaaGreatDoorPe.Tmpf
open Go Go.Proofs.YthjnlpfibakacaaGreatDoorPe Go.Proofs.YthjnlpfibakacaaGreatDoorPe.TmpfCode
section
variable (given:FuncId->List PV->Option PV)
variable {α : Type} {K:EX->Fr->St->Option α}
theorem size_ok {a:Int} (ha:I64 a) (st:St):callE efns given f_ref1_size [.int .i64 a] st=some (.int .u64 (if a<0 then -a else a),st):=by
 rw[callE_fn efns given (c:=e_ref1_size) rfl rfl]
 simp only[e_ref1_size,go_sem,V_call]
 split <;> simp only[IntKind.wrap_u64,IntKind.wrap_i64] <;> congr 3 <;> omega
theorem radd_ok {a b:Int} (ha:I64 a) (hb:I64 b) (st:St):callE efns given f_ref1_Add [.int .i64 a,.int .i64 b] st=some (.tuple [.int .i64 (fit (a+b)).1,.int .i64 (fit (a+b)).2],st):=by
 rw[callE_fn efns given (c:=e_ref1_Add) rfl rfl]
 simp only[e_ref1_Add,go_sem,V_call,IntKind.wrap_i64,fit]
 split
 ·rw[if_neg (by omega)]
 ·rw[if_pos (by omega)]; simp only; congr 5; omega
theorem rmul_ok {a b:Int} (ha:I64 a) (hb:I64 b) (st:St):callE efns given f_ref1_Mul [.int .i64 a,.int .i64 b] st=some (.tuple [.int .i64 (fit (a*b)).1,.int .i64 (fit (a*b)).2],st):=by
 rw[callE_fn efns given (c:=e_ref1_Mul) rfl rfl]
 have h1:=size_ok given ha ⟨[],[],[],[]⟩
 have h2:=size_ok given hb ⟨[],[],[],[]⟩
 have hab:=mul_abs a b
 have hx:(0:Int)<=(if a<0 then -a else a):=by split <;> omega
 have hy:(0:Int)<=(if b<0 then -b else b):=by split <;> omega
 have hdd:((decide (a<0)==decide (b<0))=false) = ¬((a<0)=(b<0)):=by by_cases h4:a<0 <;> by_cases h5:b<0 <;> simp[h4,h5]
 have hdt:((decide (a<0)==decide (b<0))=true)=((a<0)=(b<0)):=by by_cases h4:a<0 <;> by_cases h5:b<0 <;> simp[h4,h5]
 have key : ∀ (x y:Int) (top:Int),0<=x->0<=y->x≠0->0<=top->(y>top.tdiv x ↔ x*y>top):=by
  intro x y top h0 h1 h2 h3
  have hx0:0<x:=by omega
  rw[Int.tdiv_eq_ediv_of_nonneg h3]
  constructor
  ·intro h
   have:=(Int.ediv_lt_iff_lt_mul hx0).1 h
   rw[Int.mul_comm]; exact this
  ·intro h
   refine (Int.ediv_lt_iff_lt_mul hx0).2 ?_
   rw[Int.mul_comm]; exact h
 simp only[e_ref1_Mul,go_sem,V_call,h1,h2,hdd,hdt]
 generalize (if a<0 then -a else a)=x at hab hx h1 ⊢
 generalize (if b<0 then -b else b)=y at hab hy h2 ⊢
 have w1:IntKind.u64.wrap (9223372036854775807+1)=9223372036854775808:=by rw[IntKind.wrap_u64]; decide
 have wtop : ∀ {top:Int},0<=top->top<=9223372036854775808->IntKind.u64.wrap (top.tdiv x)=top.tdiv x:=by
  intro top h3 h4
  rw[Int.tdiv_eq_ediv_of_nonneg h3]
  have:=Int.ediv_nonneg h3 hx
  have:=Int.ediv_le_self x h3
  exact IntWalk.u64_in _ (by omega)
 rw[w1,wtop (by decide) (by decide),wtop (by decide) (by decide)]
 by_cases hx0:x=0
 ·have h0:a*b=0:=by
   rw[hx0,Int.zero_mul] at hab
   split at hab <;> omega
  have e0:fit 0=(0,0):=by unfold fit; rw[if_pos (by decide)]
  have e1:IntKind.i64.wrap 0=0:=IntWalk.i64_in _ (by decide)
  simp only[hx0,h0,e0,e1]
  simp
 ·have k1:=key x y 9223372036854775808 hx hy hx0 (by decide)
  have k2:=key x y 9223372036854775807 hx hy hx0 (by decide)
  rw[hab] at k1 k2
  simp only[k1,k2,ne_eq,hx0,not_false_iff,if_true,if_false,fit,IntKind.wrap_i64]
  generalize a*b=M at hab ⊢
  by_cases hd:(a<0)=(b<0) <;> simp only[hd,if_true,if_false,not_true,not_false_iff] at hab ⊢ <;> (have hM:=Int.mul_nonneg hx hy) <;> rw[hab] at hM <;> (repeat' split) <;> first|(exfalso; omega)|rfl|(congr 5; omega)
theorem shape_loop {s:List UInt8} (hs:s.length<4611686018427387904) {fr0:Int} {st:St} : ∀ (d n:Nat),s.length-n=d->n<=s.length ->
  runL (callE efns given) [true,true,true] b_ref1_Shape_0 [.str s,.int .i64 fr0,.int .i64 n] st K =
   if (s.drop n).all digit=true then K (.exit 0) [.str s,.int .i64 fr0,.int .i64 s.length] st else K (.ret (.bool false)) [] st:=by
 intro d
 induction d with
 |zero =>
  intro n hd hn
  have:n=s.length:=by omega
  subst this
  rw[runL_eq]
  simp only[b_ref1_Shape_0,go_sem,V_call]
  simp
 |succ d ih =>
  intro n hd hn
  have hlt:n<s.length:=by omega
  obtain⟨c,hc⟩ : ∃ c,s[n]? = some c:=⟨s[n],List.getElem?_eq_getElem hlt⟩
  have hdr:s.drop n=c::s.drop (n+1):=by
   rw[List.drop_eq_getElem_cons hlt]
   rw[List.getElem?_eq_getElem hlt] at hc
   rw[Option.some.inj hc]
  rw[runL_eq]
  generalize hL:runL _ _ b_ref1_Shape_0=L at ih ⊢
  simp only[b_ref1_Shape_0,go_sem,V_call,sidx_at hc]
  rw[if_pos (by omega),IntWalk.i64_in _ (by omega),hdr,List.all_cons]
  have hd':digit c=true ↔ ¬ ((c.toNat:Int)<48\/(c.toNat:Int)>57):=by
   unfold digit
   simp
   omega
  by_cases h:(c.toNat:Int)<48\/(c.toNat:Int)>57
  ·have:digit c=false:=by
    rw[Bool.eq_false_iff]
    exact fun h'=>hd'.1 h' h
   rw[if_pos h,this]
   simp
  ·have:digit c=true:=hd'.2 h
   rw[if_neg h,this,Bool.true_and]
   exact ih (n+1) (by omega) (by omega)
def parts (s:List UInt8):Bool × List UInt8 :=
 match s with
 |45::r=>(true,r)
 |43::r=>(false,r)
 |r=>(false,r)
def shapeM (s:List UInt8):Bool := !(parts s).2.isEmpty&&(parts s).2.all digit
theorem parseM_eq (s:List UInt8):parseM s=if shapeM s=true then fit (if (parts s).1=true then -(acc 0 (parts s).2:Int) else (acc 0 (parts s).2:Int)) else (0,2):=by
 have e:parseM s=if (parts s).2=[] \/ ¬ (parts s).2.all digit=true then (0,2) else fit (if (parts s).1=true then -(acc 0 (parts s).2:Int) else (acc 0 (parts s).2:Int)):=rfl
 rw[e]
 unfold shapeM
 cases h:(parts s).2 with
 |nil=>simp
 |cons c r =>
  by_cases h2:(c::r).all digit=true
  ·simp[h2]
  ·simp[h2]
theorem toNat_eq {c:UInt8} {n:Nat} (hn:n<256):((c.toNat:Int)=(n:Int))=(c=UInt8.ofNat n):=by
 apply propext
 constructor
 ·intro h
  apply UInt8.toNat_inj.1
  have:c.toNat=n:=by omega
  rw[this]
  simp[Nat.mod_eq_of_lt hn]
 ·rintro rfl
  simp[Nat.mod_eq_of_lt hn]
theorem parts_cons {c:UInt8} {r:List UInt8}:parts (c::r)=if c=45 then (true,r) else if c=43 then (false,r) else (false,c::r):=by
 unfold parts
 split
 ·rename_i h; cases h; simp
 ·rename_i h; cases h; simp
 ·rename_i h1 h2
  rw[if_neg fun h=>h1 r (by rw[h]),if_neg fun h=>h2 r (by rw[h])]
theorem shape_ok {s:List UInt8} (hs:s.length<4611686018427387904) (st:St):callE efns given f_ref1_Shape [.str s] st=some (.bool (shapeM s),st):=by
 rw[callE_fn efns given (c:=e_ref1_Shape) rfl rfl]
 have loop:=fun {K:EX->Fr->St->Option (PV × St)} (f0:Int) (n:Nat) (hn:n<=s.length)=>shape_loop given (K:=K) hs (fr0:=f0) (st:=st) (s.length-n) n rfl hn
 cases s with
 |nil =>
  have l0:=fun {K:EX->Fr->St->Option (PV × St)}=>loop (K:=K) 0 0 (Nat.zero_le _)
  simp only[Int.natCast_zero,List.drop_zero] at l0
  simp only[e_ref1_Shape,go_sem,V_call]
  simp only[List.length_nil,Int.natCast_zero] at l0 ⊢
  simp only[l0,go_sem,V_call]
  simp[shapeM,parts]
 |cons c r =>
  have l0:=fun {K:EX->Fr->St->Option (PV × St)}=>loop (K:=K) 0 0 (Nat.zero_le _)
  have l1:=fun {K:EX->Fr->St->Option (PV × St)}=>loop (K:=K) 1 1 (by simp)
  simp only[Int.natCast_zero,List.drop_zero] at l0
  simp only[List.drop_succ_cons,List.drop_zero,Int.natCast_one] at l1
  have hc:biV .sidx (.str (c::r)) (.int .i64 0)=some (.int .u8 c.toNat):=sidx_at (n:=0) rfl
  have e43:((c.toNat:Int)=43)=(c=43):=toNat_eq (n:=43) (by decide)
  have e45:((c.toNat:Int)=45)=(c=45):=toNat_eq (n:=45) (by decide)
  simp only[e_ref1_Shape,go_sem,V_call,hc,l0,l1,e43,e45]
  unfold shapeM
  rw[parts_cons]
  have hpos:(((r.length+1:Nat):Int)>0)=True:=eq_true (by omega)
  have hone:(((r.length+1:Nat):Int)>1)=(r.isEmpty=false):=by
   apply propext
   cases r <;> simp
   omega
  simp only[hpos,hone,true_and]
  clear loop l0 l1 hc hpos hone
  by_cases h45:c=45
  ·subst h45
   simp only[if_true,or_true]
   generalize r.all digit=D
   generalize r.isEmpty=E
   cases D <;> cases E <;> simp
  ·by_cases h43:c=43
   ·subst h43
    simp only[if_true,true_or,h45,if_false]
    generalize r.all digit=D
    generalize r.isEmpty=E
    cases D <;> cases E <;> simp
   ·simp only[h45,h43,or_self,if_false,List.isEmpty_cons,List.all_cons]
    generalize r.all digit=D
    generalize digit c=E
    cases D <;> cases E <;> simp
def sg (neg:Bool) (v:Nat):Int:=if neg=true then -(v:Int) else (v:Int)
theorem sg_cases (neg:Bool) (v:Nat):(neg=true/\sg neg v = -(v:Int))\/(neg=false/\sg neg v=(v:Int)):=by cases neg <;> simp[sg]
theorem rparse_loop {s:List UInt8} (hs:s.length<4611686018427387904) (neg:Bool) {st:St} : ∀ (d n v:Nat),s.length-n=d->n<=s.length->I64 (sg neg v)->(s.drop n).all digit=true ->
  runL (callE efns given) [true,true,true,true,false,false,false,false,false] b_ref1_Parse_0 [.str s,.bool neg,.int .i64 (sg neg v),.int .i64 n,.undef,.undef,.undef,.undef,.undef] st K =
   if I64 (sg neg (acc v (s.drop n))) then K (.exit 0) [.str s,.bool neg,.int .i64 (sg neg (acc v (s.drop n))),.int .i64 s.length,.undef,.undef,.undef,.undef,.undef] st else K (.ret (.tuple [.int .i64 0,.int .i64 11])) [] st:=by
 intro d
 induction d with
 |zero =>
  intro n v hd hn hv hdig
  have:n=s.length:=by omega
  subst this
  rw[runL_eq]
  simp only[b_ref1_Parse_0,go_sem,V_call]
  rw[if_neg (by omega),List.drop_length,show acc v []=v from rfl,if_pos hv]
 |succ d ih =>
  intro n v hd hn hv hdig
  have hlt:n<s.length:=by omega
  obtain⟨c,hc⟩ : ∃ c,s[n]? = some c:=⟨s[n],List.getElem?_eq_getElem hlt⟩
  have hdr:s.drop n=c::s.drop (n+1):=by
   rw[List.drop_eq_getElem_cons hlt]
   rw[List.getElem?_eq_getElem hlt] at hc
   rw[Option.some.inj hc]
  rw[hdr,List.all_cons,Bool.and_eq_true] at hdig
  have hb:=digit_bounds hdig.1
  have hge:=acc_ge (s.drop (n+1)) (10*v+(c.toNat-48))
  have h1:=rmul_ok given (a:=sg neg v) (b:=10) hv (by omega) ⟨[],[],[],[]⟩
  have w8:IntKind.u8.wrap ((c.toNat:Int)-48)=((c.toNat-48:Nat):Int):=by rw[IntKind.wrap_u8]; omega
  have w64:IntKind.i64.wrap ((c.toNat-48:Nat):Int)=((c.toNat-48:Nat):Int):=IntWalk.i64_in _ (by omega)
  have w65:IntKind.i64.wrap (0-((c.toNat-48:Nat):Int)) = -((c.toNat-48:Nat):Int):=by rw[IntWalk.i64_in _ (by omega)]; omega
  have n43:((c.toNat:Int)=43)=False:=eq_false (by omega)
  have n45:((c.toNat:Int)=45)=False:=eq_false (by omega)
  have hs1:=sg_cases neg v
  have hs2:=sg_cases neg (acc (10*v+(c.toNat-48)) (s.drop (n+1)))
  have hs3:=sg_cases neg (10*v+(c.toNat-48))
  have hs4:=sg_cases neg (c.toNat-48)
  rw[runL_eq,hdr,acc_cons]
  generalize hL:runL _ _ b_ref1_Parse_0=L at ih ⊢
  by_cases h10:I64 (sg neg v*10)
  ·have h2:=radd_ok given (a:=sg neg v*10) (b:=sg neg (c.toNat-48)) h10 (by rcases hs4 with ⟨_,h⟩|⟨_,h⟩ <;> rw[h] <;> omega) ⟨[],[],[],[]⟩
   simp only[fit,if_pos h10] at h1
   have e:sg neg v*10+sg neg (c.toNat-48)=sg neg (10*v+(c.toNat-48)):=by cases neg <;> simp[sg] <;> omega
   rw[e] at h2
   by_cases h11:I64 (sg neg (10*v+(c.toNat-48)))
   ·simp only[fit,if_pos h11] at h2
    have:=ih (n+1) (10*v+(c.toNat-48)) (by omega) (by omega) h11 hdig.2
    rw[<- this]
    cases neg with
    |true =>
     simp only[sg,if_true] at h1 h2 ⊢
     simp only[b_ref1_Parse_0,go_sem,V_call,sidx_at hc,h1,h2,w8,w64,w65,n43,n45]
     rw[if_pos (by omega),IntWalk.i64_in _ (by omega)]
     rfl
    |false =>
     simp only[sg,Bool.false_eq_true,if_false] at h1 h2 ⊢
     simp only[b_ref1_Parse_0,go_sem,V_call,sidx_at hc,h1,h2,w8,w64,w65,n43,n45]
     rw[if_pos (by omega),IntWalk.i64_in _ (by omega)]
     rfl
   ·simp only[fit,if_neg h11] at h2
    rw[if_neg (by cases neg <;> simp only[sg,if_true,Bool.false_eq_true,if_false] at h11 ⊢ <;> omega)]
    cases neg with
    |true =>
     simp only[sg,if_true] at h1 h2 ⊢
     simp only[b_ref1_Parse_0,go_sem,V_call,sidx_at hc,h1,h2,w8,w64,w65,n43,n45]
     rw[if_pos (by omega),if_neg (by decide),if_pos (by decide)]
    |false =>
     simp only[sg,Bool.false_eq_true,if_false] at h1 h2 ⊢
     simp only[b_ref1_Parse_0,go_sem,V_call,sidx_at hc,h1,h2,w8,w64,w65,n43,n45]
     rw[if_pos (by omega),if_neg (by decide),if_pos (by decide)]
  ·simp only[fit,if_neg h10] at h1
   rw[if_neg (by cases neg <;> simp only[sg,if_true,Bool.false_eq_true,if_false] at h10 ⊢ <;> omega)]
   cases neg with
   |true =>
    simp only[sg,if_true] at h1 ⊢
    simp only[b_ref1_Parse_0,go_sem,V_call,sidx_at hc,h1,w8,w64,w65,n43,n45]
    rw[if_pos (by omega),if_pos (by decide)]
   |false =>
    simp only[sg,Bool.false_eq_true,if_false] at h1 ⊢
    simp only[b_ref1_Parse_0,go_sem,V_call,sidx_at hc,h1,w8,w64,w65,n43,n45]
    rw[if_pos (by omega),if_pos (by decide)]
theorem rparse_ok {s:List UInt8} (hs:s.length<4611686018427387904) (st:St):callE efns given f_ref1_Parse [.str s] st=some (.tuple [.int .i64 (parseM s).1,.int .i64 (parseM s).2],st):=by
 rw[callE_fn efns given (c:=e_ref1_Parse) rfl rfl]
 have hsh:=shape_ok given hs ⟨[],[],[],[]⟩
 rw[parseM_eq]
 cases h:shapeM s with
 |false =>
  rw[h] at hsh
  simp only[e_ref1_Parse,go_sem,V_call,hsh]
 |true =>
  rw[h] at hsh
  have loop:=fun {K:EX->Fr->St->Option (PV × St)} (neg:Bool) (n v:Nat) (hn:n<=s.length) (hv:I64 (sg neg v)) (hd:(s.drop n).all digit=true)=>rparse_loop given (K:=K) hs neg (st:=st) (s.length-n) n v rfl hn hv hd
  cases s with
  |nil=>simp[shapeM,parts] at h
  |cons c r =>
   have hc:biV .sidx (.str (c::r)) (.int .i64 0)=some (.int .u8 c.toNat):=sidx_at (n:=0) rfl
   have e43:((c.toNat:Int)=43)=(c=43):=toNat_eq (n:=43) (by decide)
   have e45:((c.toNat:Int)=45)=(c=45):=toNat_eq (n:=45) (by decide)
   unfold shapeM at h
   rw[parts_cons] at h ⊢
   simp only[e_ref1_Parse,go_sem,V_call,hsh,hc,e45]
   have first : ∀ neg:Bool,(c=45\/c=43) -> ∀ (st:St) (K:EX->Fr->St->Option (PV × St)),runL (callE efns given) [true,true,true,true,false,false,false,false,false] b_ref1_Parse_0 [.str (c::r),.bool neg,.int .i64 0,.int .i64 0,.undef,.undef,.undef,.undef,.undef] st K =
     runL (callE efns given) [true,true,true,true,false,false,false,false,false] b_ref1_Parse_0 [.str (c::r),.bool neg,.int .i64 0,.int .i64 1,.undef,.undef,.undef,.undef,.undef] st K:=by
    intro neg h st K
    conv=>lhs; rw[runL_eq]
    generalize hL:runL _ _ b_ref1_Parse_0=L
    rcases h with h|h
    ·subst h
     simp only[b_ref1_Parse_0,go_sem,V_call,hc]
     rw[if_pos (by omega),if_pos (by decide)]
     rfl
    ·subst h
     simp only[b_ref1_Parse_0,go_sem,V_call,hc]
     rw[if_pos (by omega),if_pos (by decide)]
     rfl
   by_cases h45:c=45
   ·subst h45
    simp only[if_true] at h ⊢
    rw[Bool.and_eq_true] at h
    rw[show decide True=true from rfl,first true (.inl rfl)]
    have:=loop (K:=blockK 0 (seqK (fun fr st=>some (PV.tuple [List.getD fr 2 PV.undef,PV.int IntKind.i64 0],st)) retK)) true 1 0 (by simp) (by decide) h.2
    refine Eq.trans this ?_
    simp only[sg,if_true,List.drop_one,List.tail_cons,fit]
    split <;> rfl
   ·by_cases h43:c=43
    ·subst h43
     simp only[if_true,h45,if_false] at h ⊢
     rw[Bool.and_eq_true] at h
     rw[show decide False=false from rfl,first false (.inr rfl)]
     have:=loop (K:=blockK 0 (seqK (fun fr st=>some (PV.tuple [List.getD fr 2 PV.undef,PV.int IntKind.i64 0],st)) retK)) false 1 0 (by simp) (by decide) h.2
     refine Eq.trans this ?_
     simp only[sg,Bool.false_eq_true,if_false,List.drop_one,List.tail_cons,fit]
     split <;> rfl
    ·simp only[h43,h45,if_false] at h ⊢
     rw[Bool.and_eq_true] at h
     rw[show decide False=false from rfl]
     have:=loop (K:=blockK 0 (seqK (fun fr st=>some (PV.tuple [List.getD fr 2 PV.undef,PV.int IntKind.i64 0],st)) retK)) false 0 0 (by simp) (by decide) h.2
     refine Eq.trans this ?_
     simp only[sg,Bool.false_eq_true,if_false,List.drop_zero,fit]
     split <;> rfl
end
end Go.Proofs.YthjnlpfibakacaaGreatDoorPe.Tmpf
