/- A part of the proof of this folder's statement; it has no condition of its own. -/
import Derived.Test.YtnlknpeelpnbaaaGreatDoorReadCode
import Derived.Test.YtnlknpeelpnbaaaGreatDoorEcWp
import Derived.IntWalk
set_option linter.unusedVariables false
set_option linter.unusedSimpArgs false
set_option maxRecDepth 100000
namespace Go.Proofs.YtnlknpeelpnbaaaGreatDoorPe.Read
open Go Go.Proofs.YtnlknpeelpnbaaaGreatDoorPe Go.Proofs.YtnlknpeelpnbaaaGreatDoorPe.ReadCode
abbrev I64 (n:Int):Prop := -9223372036854775808<=n/\n<=9223372036854775807
abbrev U64 (n:Int):Prop:=0<=n/\n<=18446744073709551615
def fit (n:Int):Int × Int:=if I64 n then (n,0) else (0,11)
theorem fst_fit {n:Int}:I64 (fit n).1:=by
 unfold fit
 split
 ·assumption
 ·decide
section
variable (given:FuncId->List PV->Option PV)
theorem abs_ok {a:Int} (ha:I64 a) (st:St):callE efns given f_num_abs [.int .i64 a] st=some (.int .u64 (if a<0 then -a else a),st):=by
 rw[callE_fn efns given (c:=e_num_abs) rfl rfl]
 simp only[e_num_abs,go_sem,V_call]
 split <;> simp only[IntKind.wrap_u64] <;> congr 3 <;> omega
theorem sub_ok {a b:Int} (ha:I64 a) (hb:I64 b) (st:St):callE efns given f_num_Sub [.int .i64 a,.int .i64 b] st=some (.tuple [.int .i64 (fit (a-b)).1,.int .i64 (fit (a-b)).2],st):=by
 rw[callE_fn efns given (c:=e_num_Sub) rfl rfl]
 simp only[e_num_Sub,go_sem,V_call,IntKind.wrap_i64,fit]
 split
 ·rw[if_neg (by omega)]
 ·rw[if_pos (by omega)]; simp only; congr 5; omega
theorem shr32 {a:Int}:evShift .shr .u64 a 32=some (.int .u64 (a / 4294967296)):=by
 have:(2:Int) ^ min (32:Int).toNat IntKind.u64.bits=4294967296:=by decide
 simp only[evShift,show ¬ ((32:Int)<0) by decide,if_false,this]
 rw[Int.fdiv_eq_ediv_of_nonneg _ (by decide)]
theorem mask32 {a:Int} (ha:0<=a):evBits .and .u64 a 4294967295=some (.int .u64 (a % 4294967296)):=by
 obtain⟨n,rfl⟩:=Int.eq_ofNat_of_zero_le ha
 have h1:(BitVec.ofInt IntKind.u64.bits (n:Int) &&& BitVec.ofInt IntKind.u64.bits 4294967295).toNat=n % 4294967296:=by
  rw[BitVec.toNat_and]
  have e1:(BitVec.ofInt IntKind.u64.bits (n:Int)).toNat=n % 2 ^ 64:=by simp[BitVec.toNat_ofInt,IntKind.bits]
  have e2:(BitVec.ofInt IntKind.u64.bits 4294967295).toNat=2 ^ 32-1:=by decide
  rw[e1,e2,Nat.and_two_pow_sub_one_eq_mod]
  omega
 simp only[evBits,h1,IntKind.wrap_u64]
 congr 2
 omega
theorem mul64_ok {a b:Int} (ha:U64 a) (hb:U64 b) (st:St):callE efns given f_math_bits_Mul64 [.int .u64 a,.int .u64 b] st=some (.tuple [.int .u64 (a*b / 18446744073709551616),.int .u64 (a*b % 18446744073709551616)],st):=by
 rw[callE_fn efns given (c:=e_math_bits_Mul64) rfl rfl]
 have ha0:0<=a % 4294967296/\a % 4294967296<=4294967295:=by omega
 have hb0:0<=b % 4294967296/\b % 4294967296<=4294967295:=by omega
 have ha1:0<=a / 4294967296/\a / 4294967296<=4294967295:=by omega
 have hb1:0<=b / 4294967296/\b / 4294967296<=4294967295:=by omega
 have hab:a*b=(a / 4294967296*(b / 4294967296))*18446744073709551616+(a / 4294967296*(b % 4294967296)+a % 4294967296*(b / 4294967296))*4294967296+a % 4294967296*(b % 4294967296):=by
  have h1:a=a / 4294967296*4294967296+a % 4294967296:=by omega
  have h2:b=b / 4294967296*4294967296+b % 4294967296:=by omega
  generalize a / 4294967296=p at *
  generalize a % 4294967296=q at *
  generalize b / 4294967296=r at *
  generalize b % 4294967296=s at *
  subst h1; subst h2
  rw[Int.add_mul,Int.mul_add,Int.mul_add]
  have e1:p*4294967296*(r*4294967296)=p*r*18446744073709551616:=by
   rw[show (18446744073709551616:Int)=4294967296*4294967296 by decide,Int.mul_assoc,Int.mul_left_comm 4294967296 r,<- Int.mul_assoc,<- Int.mul_assoc]
  have e2:p*4294967296*s=p*s*4294967296:=by rw[Int.mul_assoc,Int.mul_comm 4294967296 s,<- Int.mul_assoc]
  have e3:q*(r*4294967296)=q*r*4294967296:=by rw[<- Int.mul_assoc]
  rw[e1,e2,e3]
  omega
 have bnd : ∀ {x y:Int},(0<=x/\x<=4294967295)->(0<=y/\y<=4294967295)->0<=x*y/\x*y<=18446744065119617025:=by
  intro x y hx hy
  refine⟨Int.mul_nonneg hx.1 hy.1,?_⟩
  have:=Int.mul_le_mul hx.2 hy.2 hy.1 (by decide)
  omega
 have b1:=bnd ha1 hb1
 have b2:=bnd ha1 hb0
 have b3:=bnd ha0 hb1
 have b4:=bnd ha0 hb0
 have w : ∀ {n:Int},U64 n->IntKind.u64.wrap n=n:=fun h=>IntWalk.u64_in _ h
 simp only[e_math_bits_Mul64,go_sem,V_call,shr32,mask32 ha.1,mask32 hb.1]
 generalize a / 4294967296*(b / 4294967296)=S at *
 generalize a / 4294967296*(b % 4294967296)=Q at *
 generalize a % 4294967296*(b / 4294967296)=R at *
 generalize a % 4294967296*(b % 4294967296)=T at *
 rw[w (n:=T) (by omega),w (n:=Q) (by omega),w (n:=R) (by omega),w (n:=S) (by omega)]
 rw[w (n:=Q+T / 4294967296) (by omega)]
 rw[mask32 (by omega)]
 simp only[go_sem,V_call,shr32]
 rw[w (n:=(Q+T / 4294967296) % 4294967296+R) (by omega)]
 rw[w (n:=S+(Q+T / 4294967296) / 4294967296) (by omega)]
 rw[w (n:=S+(Q+T / 4294967296) / 4294967296+((Q+T / 4294967296) % 4294967296+R) / 4294967296) (by omega)]
 rw[IntKind.wrap_u64]
 congr 5
 omega
theorem mul_abs (a b:Int):(if a<0 then -a else a)*(if b<0 then -b else b)=if (a<0)=(b<0) then a*b else -(a*b):=by
 by_cases h1:a<0 <;> by_cases h2:b<0 <;> simp only[h1,h2,if_true,if_false,eq_self_iff_true] <;> simp[Int.neg_mul,Int.mul_neg]
theorem mul_sign {a b:Int}:0<=(if (a<0)=(b<0) then a*b else -(a*b)):=by
 rw[<- mul_abs]
 exact Int.mul_nonneg (by split <;> omega) (by split <;> omega)
theorem mul_ok {a b:Int} (ha:I64 a) (hb:I64 b) (st:St):callE efns given f_num_Mul [.int .i64 a,.int .i64 b] st=some (.tuple [.int .i64 (fit (a*b)).1,.int .i64 (fit (a*b)).2],st):=by
 rw[callE_fn efns given (c:=e_num_Mul) rfl rfl]
 have h1:=abs_ok given ha ⟨[],[],[],[]⟩
 have h2:=abs_ok given hb ⟨[],[],[],[]⟩
 have ub:U64 (if a<0 then -a else a):=by split <;> omega
 have uc:U64 (if b<0 then -b else b):=by split <;> omega
 have h3:=mul64_ok given ub uc ⟨[],[],[],[]⟩
 rw[mul_abs] at h3
 have hs:=mul_sign (a:=a) (b:=b)
 simp only[e_num_Mul,go_sem,V_call,h1,h2,h3]
 have hdd:((decide (a<0)==decide (b<0))=false) = ¬((a<0)=(b<0)):=by by_cases h4:a<0 <;> by_cases h5:b<0 <;> simp[h4,h5]
 have hdt:((decide (a<0)==decide (b<0))=true)=((a<0)=(b<0)):=by by_cases h4:a<0 <;> by_cases h5:b<0 <;> simp[h4,h5]
 simp only[hdd,hdt,fit,IntKind.wrap_i64,IntKind.wrap_u64]
 generalize a*b=M at hs ⊢
 by_cases hd:(a<0)=(b<0) <;> simp only[hd,if_true,if_false,not_true,not_false_iff,and_true,and_false] at hs ⊢ <;> (repeat' split) <;> first|(exfalso; omega)|rfl|(congr 5; omega)
end
end Go.Proofs.YtnlknpeelpnbaaaGreatDoorPe.Read
set_option linter.unusedVariables false
set_option linter.unusedSimpArgs false
set_option maxRecDepth 100000
namespace Go.Proofs.YtnlknpeelpnbaaaGreatDoorPe.Read
open Go Go.Proofs.YtnlknpeelpnbaaaGreatDoorPe Go.Proofs.YtnlknpeelpnbaaaGreatDoorPe.ReadCode
def digit (c:UInt8):Bool:=decide (48<=c.toNat)&&decide (c.toNat<=57)
section
variable (given:FuncId->List PV->Option PV)
variable {α : Type} {K:EX->Fr->St->Option α}
theorem parse_loop0 {s:List UInt8} (hs:s.length<4611686018427387904) {mi:Bool} {st:St} : ∀ (d n:Nat),s.length-n=d->n<=s.length ->
  runL (callE efns given) [false,true,true,false,false,false,true,true,false,false,false,false,false] b_num_Parse_0 [.undef,.str s,.bool mi,.undef,.undef,.undef,.int .i64 s.length,.int .i64 n,.undef,.undef,.undef,.undef,.undef] st K =
   if (s.drop n).all digit=true then K (.exit 3) [.undef,.str s,.bool mi,.undef,.undef,.undef,.int .i64 s.length,.int .i64 s.length,.undef,.undef,.undef,.undef,.undef] st else K (.ret (.tuple [.int .i64 0,.int .i64 2])) [] st:=by
 intro d
 induction d with
 |zero =>
  intro n hd hn
  have:n=s.length:=by omega
  subst this
  rw[runL_eq]
  simp only[b_num_Parse_0,go_sem,V_call]
  simp
 |succ d ih =>
  intro n hd hn
  have hlt:n<s.length:=by omega
  obtain⟨c,hc⟩ : ∃ c,s[n]? = some c:=⟨s[n],List.getElem?_eq_getElem hlt⟩
  have hdr:s.drop n=c::s.drop (n+1):=by
   rw[List.drop_eq_getElem_cons hlt]
   rw[List.getElem?_eq_getElem hlt] at hc
   rw[Option.some.inj hc]
  rw[runL_eq]
  generalize hL:runL _ _ b_num_Parse_0=L at ih ⊢
  simp only[b_num_Parse_0,go_sem,V_call,sidx_at hc]
  rw[if_pos (by omega),IntWalk.i64_in _ (by omega),hdr,List.all_cons]
  have hd':digit c=true ↔ ¬ ((c.toNat:Int)<48\/(c.toNat:Int)>57):=by
   unfold digit
   simp
   omega
  by_cases h:(c.toNat:Int)<48\/(c.toNat:Int)>57
  ·have:digit c=false:=by
    rw[Bool.eq_false_iff]
    exact fun h'=>hd'.1 h' h
   rw[if_pos h,this]
   simp
  ·have:digit c=true:=hd'.2 h
   rw[if_neg h,this,Bool.true_and]
   exact ih (n+1) (by omega) (by omega)
def step10 (v:Nat) (c:UInt8):Nat:=10*v+(c.toNat-48)
def acc (v:Nat) (l:List UInt8):Nat:=l.foldl step10 v
theorem acc_cons {v:Nat} {c:UInt8} {r:List UInt8}:acc v (c::r)=acc (10*v+(c.toNat-48)) r:=by
 unfold acc
 rw[List.foldl_cons,step10]
theorem acc_ge (l:List UInt8) : ∀ (v:Nat),v<=acc v l:=by
 induction l with
 |nil=>intro v; exact Nat.le_refl v
 |cons c r ih =>
  intro v
  have:=ih (10*v+(c.toNat-48))
  rw[acc_cons]
  omega
theorem digit_bounds {c:UInt8} (h:digit c=true):48<=c.toNat/\c.toNat<=57:=by
 unfold digit at h
 simpa using h
theorem parse_loop1 {s:List UInt8} (hs:s.length<4611686018427387904) {mi:Bool} {st:St} : ∀ (d n v:Nat),s.length-n=d->n<=s.length->v<=9223372036854775808->(s.drop n).all digit=true ->
  runL (callE efns given) [false,true,true,true,false,false,false,false,true,true,false,false,false] b_num_Parse_1 [.undef,.str s,.bool mi,.int .i64 (-(v:Int)),.undef,.undef,.undef,.undef,.int .i64 s.length,.int .i64 n,.undef,.undef,.undef] st K =
   if acc v (s.drop n)<=9223372036854775808 then K (.exit 5) [.undef,.str s,.bool mi,.int .i64 (-(acc v (s.drop n):Int)),.undef,.undef,.undef,.undef,.int .i64 s.length,.int .i64 s.length,.undef,.undef,.undef] st else K (.ret (.tuple [.int .i64 0,.int .i64 11])) [] st:=by
 intro d
 induction d with
 |zero =>
  intro n v hd hn hv hdig
  have:n=s.length:=by omega
  subst this
  rw[runL_eq]
  simp only[b_num_Parse_1,go_sem,V_call]
  rw[if_neg (by omega),List.drop_length,show acc v []=v from rfl,if_pos hv]
 |succ d ih =>
  intro n v hd hn hv hdig
  have hlt:n<s.length:=by omega
  obtain⟨c,hc⟩ : ∃ c,s[n]? = some c:=⟨s[n],List.getElem?_eq_getElem hlt⟩
  have hdr:s.drop n=c::s.drop (n+1):=by
   rw[List.drop_eq_getElem_cons hlt]
   rw[List.getElem?_eq_getElem hlt] at hc
   rw[Option.some.inj hc]
  rw[hdr,List.all_cons,Bool.and_eq_true] at hdig
  have hb:=digit_bounds hdig.1
  have hge:=acc_ge (s.drop (n+1)) (10*v+(c.toNat-48))
  have h1:=mul_ok given (a := -(v:Int)) (b:=10) (by omega) (by omega) ⟨[],[],[],[]⟩
  have w8:IntKind.u8.wrap ((c.toNat:Int)-48)=((c.toNat-48:Nat):Int):=by rw[IntKind.wrap_u8]; omega
  have w64:IntKind.i64.wrap ((c.toNat-48:Nat):Int)=((c.toNat-48:Nat):Int):=IntWalk.i64_in _ (by omega)
  rw[runL_eq,hdr,acc_cons]
  generalize hL:runL _ _ b_num_Parse_1=L at ih ⊢
  by_cases h10:I64 (-(v:Int)*10)
  ·have h2:=sub_ok given (a := -(v:Int)*10) (b:=((c.toNat-48:Nat):Int)) h10 (by omega) ⟨[],[],[],[]⟩
   simp only[fit,if_pos h10] at h1
   by_cases h11:I64 (-(v:Int)*10-((c.toNat-48:Nat):Int))
   ·simp only[fit,if_pos h11] at h2
    simp only[b_num_Parse_1,go_sem,V_call,sidx_at hc,h1,h2,w8,w64]
    rw[if_pos (by omega),if_neg (by omega),IntWalk.i64_in _ (by omega)]
    have e : -(v:Int)*10-((c.toNat-48:Nat):Int) = -((10*v+(c.toNat-48):Nat):Int):=by omega
    rw[e]
    exact ih (n+1) (10*v+(c.toNat-48)) (by omega) (by omega) (by omega) hdig.2
   ·simp only[fit,if_neg h11] at h2
    simp only[b_num_Parse_1,go_sem,V_call,sidx_at hc,h1,h2,w8,w64]
    rw[if_pos (by omega),if_pos (by decide),if_neg (by omega)]
  ·simp only[fit,if_neg h10] at h1
   simp only[b_num_Parse_1,go_sem,V_call,sidx_at hc,h1,w8,w64]
   rw[if_pos (by omega),if_neg (by decide),if_pos (by decide),if_neg (by omega)]
theorem prefix_ok {s p:List UInt8} (hs:s.length<4611686018427387904) (hp:p.length<4611686018427387904) (st:St):callE efns given f_internal_stringslite_HasPrefix [.str s,.str p] st=some (.bool (decide (p.length<=s.length/\s.take p.length=p)),st):=by
 rw[callE_fn efns given (c:=e_internal_stringslite_HasPrefix) rfl rfl]
 by_cases h:p.length<=s.length
 ·simp only[e_internal_stringslite_HasPrefix,go_sem,V_call,ssub_hi (Int.natCast_nonneg _) (show (p.length:Int)<=s.length by omega),Int.toNat_natCast,h]
  simp[h]
 ·have h' : ¬ ((s.length:Int)>=p.length):=by omega
  simp only[e_internal_stringslite_HasPrefix,go_sem,V_call,h,h']
theorem hasPrefix_ok {s p:List UInt8} (hs:s.length<4611686018427387904) (hp:p.length<4611686018427387904) (st:St):callE efns given f_strings_HasPrefix [.str s,.str p] st=some (.bool (decide (p.length<=s.length/\s.take p.length=p)),st):=by
 rw[callE_fn efns given (c:=e_strings_HasPrefix) rfl rfl]
 simp only[e_strings_HasPrefix,go_sem,V_call,prefix_ok given hs hp]
def parseM (s:List UInt8):Int × Int :=
 let t:=match s with
  |45::r=>(true,r)
  |43::r=>(false,r)
  |r=>(false,r)
 if t.2=[] \/ ¬ t.2.all digit=true then (0,2) else fit (if t.1 then -(acc 0 t.2:Int) else (acc 0 t.2:Int))
theorem parse_tail {s:List UInt8} (hs:s.length<4611686018427387904) (mi:Bool) (y:PV) (st:St) : ∀ (fr:Fr),fr=[y,.str s,.bool mi,.undef,.undef,.undef,.undef,.undef,.undef,.undef,.undef,.undef,.undef] ->
  runE (callE efns given) (match e_num_Parse.body with | .seq _ (.seq _ c)=>c|c=>c) fr st retK=some (.tuple [.int .i64 (if s=[] \/ ¬ s.all digit=true then (0,2) else fit (if mi then -(acc 0 s:Int) else (acc 0 s:Int))).1,.int .i64 (if s=[] \/ ¬ s.all digit=true then (0,2) else fit (if mi then -(acc 0 s:Int) else (acc 0 s:Int))).2],st):=by
 rintro fr rfl
 have l0:=fun {K:EX->Fr->St->Option (PV × St)}=>parse_loop0 given (K:=K) hs (mi:=mi) (st:=st) s.length 0 (by omega) (by omega)
 simp only[e_num_Parse,go_sem,V_call]
 simp only[Int.natCast_zero,List.drop_zero] at l0
 simp only[l0,go_sem,V_call]
 by_cases h1:s=[]
 ·subst h1
  simp
 ·by_cases h2:s.all digit=true
  ·have l1:=fun {K:EX->Fr->St->Option (PV × St)}=>parse_loop1 given (K:=K) hs (mi:=mi) (st:=st) s.length 0 0 (by omega) (by omega) (by omega) (by simpa using h2)
   simp only[Int.natCast_zero,List.drop_zero,Int.neg_zero] at l1
   by_cases h3:acc 0 s<=9223372036854775808
   ·have h4:=sub_ok given (a:=0) (b := -(acc 0 s:Int)) (by omega) (by omega) ⟨[],[],[],[]⟩
    simp only[l1,go_sem,V_call,h1,h2,h3,h4]
    rw[Int.zero_sub,Int.neg_neg]
    cases mi with
    |true =>
     have:I64 (-(acc 0 s:Int)):=by omega
     have e:fit (-(acc 0 s:Int))=(-(acc 0 s:Int),0):=by unfold fit; rw[if_pos this]
     simp[e]
    |false=>simp
   ·simp only[l1,go_sem,V_call,h1,h2,h3]
    have e:fit (if mi=true then -(acc 0 s:Int) else (acc 0 s:Int))=(0,11):=by
     unfold fit
     rw[if_neg]
     cases mi
     ·simp only[Bool.false_eq_true,if_false]; omega
     ·simp only[if_true]; omega
    rw[e]
  ·simp[h1,h2]
theorem parse_ok {s:List UInt8} (hs:s.length<4611686018427387904) (st:St):callE efns given f_num_Parse [.str s] st=some (.tuple [.int .i64 (parseM s).1,.int .i64 (parseM s).2],st):=by
 rw[callE_fn efns given (c:=e_num_Parse) rfl rfl]
 have p1:=hasPrefix_ok given hs (p:=[45]) (by decide) ⟨[],[],[],[]⟩
 have p2:=hasPrefix_ok given hs (p:=[43]) (by decide) ⟨[],[],[],[]⟩
 have tail:=fun (t:List UInt8) (ht:t.length<4611686018427387904) (mi:Bool)=>parse_tail given ht mi (.str s) st _ rfl
 change runE _ (.seq _ (.seq _ (match e_num_Parse.body with | .seq _ (.seq _ c)=>c|c=>c))) _ _ _=_
 generalize (match e_num_Parse.body with | .seq _ (.seq _ c)=>c|c=>c)=C at tail ⊢
 cases s with
 |nil =>
  simp only[go_sem,V_call,e_num_Parse,p1,p2,tail [] (by decide) false]
  simp[tail [] (by decide) false,parseM]
 |cons c r =>
  have e1:ssubV (.str (c::r)) (some (.int .i64 1)) none=some (.str r):=ssub_lo (k:=.i64) (i:=1) (by decide) (by simp; omega)
  have hr:r.length<4611686018427387904:=by simp at hs; omega
  have e45:(1<=r.length+1/\[c]=[(45:UInt8)])=(c=45):=by simp
  have e43:(1<=r.length+1/\[c]=[(43:UInt8)])=(c=43):=by simp
  simp only[go_sem,V_call,e_num_Parse,p1,p2,e1,e45,e43,tail (c::r) hs false,tail r hr true,tail r hr false]
  by_cases h45:c=45
  ·subst h45; simp[parseM]
  ·by_cases h43:c=43
   ·subst h43; simp[parseM]
   ·have:parseM (c::r)=if (c::r)=[] \/ ¬ (c::r).all digit=true then (0,2) else fit (acc 0 (c::r):Int):=by
     unfold parseM
     split
     ·rename_i h; cases h; exact absurd rfl h45
     ·rename_i h; cases h; exact absurd rfl h43
     ·simp
    rw[this]
    simp[h45,h43]
end
end Go.Proofs.YtnlknpeelpnbaaaGreatDoorPe.Read
set_option linter.unusedVariables false
set_option linter.unusedSimpArgs false
set_option maxRecDepth 100000
namespace Go.Proofs.YtnlknpeelpnbaaaGreatDoorPe.Read
open Go Go.Proofs.YtnlknpeelpnbaaaGreatDoorPe Go.Proofs.YtnlknpeelpnbaaaGreatDoorPe.ReadCode
section
variable (given:FuncId->List PV->Option PV)
variable {α : Type} {K:EX->Fr->St->Option α}
theorem size_ok {a:Int} (ha:I64 a) (st:St):callE efns given f_ref1_size [.int .i64 a] st=some (.int .u64 (if a<0 then -a else a),st):=by
 rw[callE_fn efns given (c:=e_ref1_size) rfl rfl]
 simp only[e_ref1_size,go_sem,V_call]
 split <;> simp only[IntKind.wrap_u64,IntKind.wrap_i64] <;> congr 3 <;> omega
theorem radd_ok {a b:Int} (ha:I64 a) (hb:I64 b) (st:St):callE efns given f_ref1_Add [.int .i64 a,.int .i64 b] st=some (.tuple [.int .i64 (fit (a+b)).1,.int .i64 (fit (a+b)).2],st):=by
 rw[callE_fn efns given (c:=e_ref1_Add) rfl rfl]
 simp only[e_ref1_Add,go_sem,V_call,IntKind.wrap_i64,fit]
 split
 ·rw[if_neg (by omega)]
 ·rw[if_pos (by omega)]; simp only; congr 5; omega
theorem rmul_ok {a b:Int} (ha:I64 a) (hb:I64 b) (st:St):callE efns given f_ref1_Mul [.int .i64 a,.int .i64 b] st=some (.tuple [.int .i64 (fit (a*b)).1,.int .i64 (fit (a*b)).2],st):=by
 rw[callE_fn efns given (c:=e_ref1_Mul) rfl rfl]
 have h1:=size_ok given ha ⟨[],[],[],[]⟩
 have h2:=size_ok given hb ⟨[],[],[],[]⟩
 have hab:=mul_abs a b
 have hx:(0:Int)<=(if a<0 then -a else a):=by split <;> omega
 have hy:(0:Int)<=(if b<0 then -b else b):=by split <;> omega
 have hdd:((decide (a<0)==decide (b<0))=false) = ¬((a<0)=(b<0)):=by by_cases h4:a<0 <;> by_cases h5:b<0 <;> simp[h4,h5]
 have hdt:((decide (a<0)==decide (b<0))=true)=((a<0)=(b<0)):=by by_cases h4:a<0 <;> by_cases h5:b<0 <;> simp[h4,h5]
 have key : ∀ (x y:Int) (top:Int),0<=x->0<=y->x≠0->0<=top->(y>top.tdiv x ↔ x*y>top):=by
  intro x y top h0 h1 h2 h3
  have hx0:0<x:=by omega
  rw[Int.tdiv_eq_ediv_of_nonneg h3]
  constructor
  ·intro h
   have:=(Int.ediv_lt_iff_lt_mul hx0).1 h
   rw[Int.mul_comm]; exact this
  ·intro h
   refine (Int.ediv_lt_iff_lt_mul hx0).2 ?_
   rw[Int.mul_comm]; exact h
 simp only[e_ref1_Mul,go_sem,V_call,h1,h2,hdd,hdt]
 generalize (if a<0 then -a else a)=x at hab hx h1 ⊢
 generalize (if b<0 then -b else b)=y at hab hy h2 ⊢
 have w1:IntKind.u64.wrap (9223372036854775807+1)=9223372036854775808:=by rw[IntKind.wrap_u64]; decide
 have wtop : ∀ {top:Int},0<=top->top<=9223372036854775808->IntKind.u64.wrap (top.tdiv x)=top.tdiv x:=by
  intro top h3 h4
  rw[Int.tdiv_eq_ediv_of_nonneg h3]
  have:=Int.ediv_nonneg h3 hx
  have:=Int.ediv_le_self x h3
  exact IntWalk.u64_in _ (by omega)
 rw[w1,wtop (by decide) (by decide),wtop (by decide) (by decide)]
 by_cases hx0:x=0
 ·have h0:a*b=0:=by
   rw[hx0,Int.zero_mul] at hab
   split at hab <;> omega
  have e0:fit 0=(0,0):=by unfold fit; rw[if_pos (by decide)]
  have e1:IntKind.i64.wrap 0=0:=IntWalk.i64_in _ (by decide)
  simp only[hx0,h0,e0,e1]
  simp
 ·have k1:=key x y 9223372036854775808 hx hy hx0 (by decide)
  have k2:=key x y 9223372036854775807 hx hy hx0 (by decide)
  rw[hab] at k1 k2
  simp only[k1,k2,ne_eq,hx0,not_false_iff,if_true,if_false,fit,IntKind.wrap_i64]
  generalize a*b=M at hab ⊢
  by_cases hd:(a<0)=(b<0) <;> simp only[hd,if_true,if_false,not_true,not_false_iff] at hab ⊢ <;> (have hM:=Int.mul_nonneg hx hy) <;> rw[hab] at hM <;> (repeat' split) <;> first|(exfalso; omega)|rfl|(congr 5; omega)
theorem shape_loop {s:List UInt8} (hs:s.length<4611686018427387904) {fr0:Int} {st:St} : ∀ (d n:Nat),s.length-n=d->n<=s.length ->
  runL (callE efns given) [true,true,true] b_ref1_Shape_0 [.str s,.int .i64 fr0,.int .i64 n] st K =
   if (s.drop n).all digit=true then K (.exit 0) [.str s,.int .i64 fr0,.int .i64 s.length] st else K (.ret (.bool false)) [] st:=by
 intro d
 induction d with
 |zero =>
  intro n hd hn
  have:n=s.length:=by omega
  subst this
  rw[runL_eq]
  simp only[b_ref1_Shape_0,go_sem,V_call]
  simp
 |succ d ih =>
  intro n hd hn
  have hlt:n<s.length:=by omega
  obtain⟨c,hc⟩ : ∃ c,s[n]? = some c:=⟨s[n],List.getElem?_eq_getElem hlt⟩
  have hdr:s.drop n=c::s.drop (n+1):=by
   rw[List.drop_eq_getElem_cons hlt]
   rw[List.getElem?_eq_getElem hlt] at hc
   rw[Option.some.inj hc]
  rw[runL_eq]
  generalize hL:runL _ _ b_ref1_Shape_0=L at ih ⊢
  simp only[b_ref1_Shape_0,go_sem,V_call,sidx_at hc]
  rw[if_pos (by omega),IntWalk.i64_in _ (by omega),hdr,List.all_cons]
  have hd':digit c=true ↔ ¬ ((c.toNat:Int)<48\/(c.toNat:Int)>57):=by
   unfold digit
   simp
   omega
  by_cases h:(c.toNat:Int)<48\/(c.toNat:Int)>57
  ·have:digit c=false:=by
    rw[Bool.eq_false_iff]
    exact fun h'=>hd'.1 h' h
   rw[if_pos h,this]
   simp
  ·have:digit c=true:=hd'.2 h
   rw[if_neg h,this,Bool.true_and]
   exact ih (n+1) (by omega) (by omega)
def parts (s:List UInt8):Bool × List UInt8 :=
 match s with
 |45::r=>(true,r)
 |43::r=>(false,r)
 |r=>(false,r)
def shapeM (s:List UInt8):Bool := !(parts s).2.isEmpty&&(parts s).2.all digit
theorem parseM_eq (s:List UInt8):parseM s=if shapeM s=true then fit (if (parts s).1=true then -(acc 0 (parts s).2:Int) else (acc 0 (parts s).2:Int)) else (0,2):=by
 have e:parseM s=if (parts s).2=[] \/ ¬ (parts s).2.all digit=true then (0,2) else fit (if (parts s).1=true then -(acc 0 (parts s).2:Int) else (acc 0 (parts s).2:Int)):=rfl
 rw[e]
 unfold shapeM
 cases h:(parts s).2 with
 |nil=>simp
 |cons c r =>
  by_cases h2:(c::r).all digit=true
  ·simp[h2]
  ·simp[h2]
theorem toNat_eq {c:UInt8} {n:Nat} (hn:n<256):((c.toNat:Int)=(n:Int))=(c=UInt8.ofNat n):=by
 apply propext
 constructor
 ·intro h
  apply UInt8.toNat_inj.1
  have:c.toNat=n:=by omega
  rw[this]
  simp[Nat.mod_eq_of_lt hn]
 ·rintro rfl
  simp[Nat.mod_eq_of_lt hn]
theorem parts_cons {c:UInt8} {r:List UInt8}:parts (c::r)=if c=45 then (true,r) else if c=43 then (false,r) else (false,c::r):=by
 unfold parts
 split
 ·rename_i h; cases h; simp
 ·rename_i h; cases h; simp
 ·rename_i h1 h2
  rw[if_neg fun h=>h1 r (by rw[h]),if_neg fun h=>h2 r (by rw[h])]
theorem shape_ok {s:List UInt8} (hs:s.length<4611686018427387904) (st:St):callE efns given f_ref1_Shape [.str s] st=some (.bool (shapeM s),st):=by
 rw[callE_fn efns given (c:=e_ref1_Shape) rfl rfl]
 have loop:=fun {K:EX->Fr->St->Option (PV × St)} (f0:Int) (n:Nat) (hn:n<=s.length)=>shape_loop given (K:=K) hs (fr0:=f0) (st:=st) (s.length-n) n rfl hn
 cases s with
 |nil =>
  have l0:=fun {K:EX->Fr->St->Option (PV × St)}=>loop (K:=K) 0 0 (Nat.zero_le _)
  simp only[Int.natCast_zero,List.drop_zero] at l0
  simp only[e_ref1_Shape,go_sem,V_call]
  simp only[List.length_nil,Int.natCast_zero] at l0 ⊢
  simp only[l0,go_sem,V_call]
  simp[shapeM,parts]
 |cons c r =>
  have l0:=fun {K:EX->Fr->St->Option (PV × St)}=>loop (K:=K) 0 0 (Nat.zero_le _)
  have l1:=fun {K:EX->Fr->St->Option (PV × St)}=>loop (K:=K) 1 1 (by simp)
  simp only[Int.natCast_zero,List.drop_zero] at l0
  simp only[List.drop_succ_cons,List.drop_zero,Int.natCast_one] at l1
  have hc:biV .sidx (.str (c::r)) (.int .i64 0)=some (.int .u8 c.toNat):=sidx_at (n:=0) rfl
  have e43:((c.toNat:Int)=43)=(c=43):=toNat_eq (n:=43) (by decide)
  have e45:((c.toNat:Int)=45)=(c=45):=toNat_eq (n:=45) (by decide)
  simp only[e_ref1_Shape,go_sem,V_call,hc,l0,l1,e43,e45]
  unfold shapeM
  rw[parts_cons]
  have hpos:(((r.length+1:Nat):Int)>0)=True:=eq_true (by omega)
  have hone:(((r.length+1:Nat):Int)>1)=(r.isEmpty=false):=by
   apply propext
   cases r <;> simp
   omega
  simp only[hpos,hone,true_and]
  clear loop l0 l1 hc hpos hone
  by_cases h45:c=45
  ·subst h45
   simp only[if_true,or_true]
   generalize r.all digit=D
   generalize r.isEmpty=E
   cases D <;> cases E <;> simp
  ·by_cases h43:c=43
   ·subst h43
    simp only[if_true,true_or,h45,if_false]
    generalize r.all digit=D
    generalize r.isEmpty=E
    cases D <;> cases E <;> simp
   ·simp only[h45,h43,or_self,if_false,List.isEmpty_cons,List.all_cons]
    generalize r.all digit=D
    generalize digit c=E
    cases D <;> cases E <;> simp
def sg (neg:Bool) (v:Nat):Int:=if neg=true then -(v:Int) else (v:Int)
theorem sg_cases (neg:Bool) (v:Nat):(neg=true/\sg neg v = -(v:Int))\/(neg=false/\sg neg v=(v:Int)):=by cases neg <;> simp[sg]
theorem rparse_loop {s:List UInt8} (hs:s.length<4611686018427387904) (neg:Bool) {st:St} : ∀ (d n v:Nat),s.length-n=d->n<=s.length->I64 (sg neg v)->(s.drop n).all digit=true ->
  runL (callE efns given) [true,true,true,true,false,false,false,false,false] b_ref1_Parse_0 [.str s,.bool neg,.int .i64 (sg neg v),.int .i64 n,.undef,.undef,.undef,.undef,.undef] st K =
   if I64 (sg neg (acc v (s.drop n))) then K (.exit 0) [.str s,.bool neg,.int .i64 (sg neg (acc v (s.drop n))),.int .i64 s.length,.undef,.undef,.undef,.undef,.undef] st else K (.ret (.tuple [.int .i64 0,.int .i64 11])) [] st:=by
 intro d
 induction d with
 |zero =>
  intro n v hd hn hv hdig
  have:n=s.length:=by omega
  subst this
  rw[runL_eq]
  simp only[b_ref1_Parse_0,go_sem,V_call]
  rw[if_neg (by omega),List.drop_length,show acc v []=v from rfl,if_pos hv]
 |succ d ih =>
  intro n v hd hn hv hdig
  have hlt:n<s.length:=by omega
  obtain⟨c,hc⟩ : ∃ c,s[n]? = some c:=⟨s[n],List.getElem?_eq_getElem hlt⟩
  have hdr:s.drop n=c::s.drop (n+1):=by
   rw[List.drop_eq_getElem_cons hlt]
   rw[List.getElem?_eq_getElem hlt] at hc
   rw[Option.some.inj hc]
  rw[hdr,List.all_cons,Bool.and_eq_true] at hdig
  have hb:=digit_bounds hdig.1
  have hge:=acc_ge (s.drop (n+1)) (10*v+(c.toNat-48))
  have h1:=rmul_ok given (a:=sg neg v) (b:=10) hv (by omega) ⟨[],[],[],[]⟩
  have w8:IntKind.u8.wrap ((c.toNat:Int)-48)=((c.toNat-48:Nat):Int):=by rw[IntKind.wrap_u8]; omega
  have w64:IntKind.i64.wrap ((c.toNat-48:Nat):Int)=((c.toNat-48:Nat):Int):=IntWalk.i64_in _ (by omega)
  have w65:IntKind.i64.wrap (0-((c.toNat-48:Nat):Int)) = -((c.toNat-48:Nat):Int):=by rw[IntWalk.i64_in _ (by omega)]; omega
  have n43:((c.toNat:Int)=43)=False:=eq_false (by omega)
  have n45:((c.toNat:Int)=45)=False:=eq_false (by omega)
  have hs1:=sg_cases neg v
  have hs2:=sg_cases neg (acc (10*v+(c.toNat-48)) (s.drop (n+1)))
  have hs3:=sg_cases neg (10*v+(c.toNat-48))
  have hs4:=sg_cases neg (c.toNat-48)
  rw[runL_eq,hdr,acc_cons]
  generalize hL:runL _ _ b_ref1_Parse_0=L at ih ⊢
  by_cases h10:I64 (sg neg v*10)
  ·have h2:=radd_ok given (a:=sg neg v*10) (b:=sg neg (c.toNat-48)) h10 (by rcases hs4 with ⟨_,h⟩|⟨_,h⟩ <;> rw[h] <;> omega) ⟨[],[],[],[]⟩
   simp only[fit,if_pos h10] at h1
   have e:sg neg v*10+sg neg (c.toNat-48)=sg neg (10*v+(c.toNat-48)):=by cases neg <;> simp[sg] <;> omega
   rw[e] at h2
   by_cases h11:I64 (sg neg (10*v+(c.toNat-48)))
   ·simp only[fit,if_pos h11] at h2
    have:=ih (n+1) (10*v+(c.toNat-48)) (by omega) (by omega) h11 hdig.2
    rw[<- this]
    cases neg with
    |true =>
     simp only[sg,if_true] at h1 h2 ⊢
     simp only[b_ref1_Parse_0,go_sem,V_call,sidx_at hc,h1,h2,w8,w64,w65,n43,n45]
     rw[if_pos (by omega),IntWalk.i64_in _ (by omega)]
     rfl
    |false =>
     simp only[sg,Bool.false_eq_true,if_false] at h1 h2 ⊢
     simp only[b_ref1_Parse_0,go_sem,V_call,sidx_at hc,h1,h2,w8,w64,w65,n43,n45]
     rw[if_pos (by omega),IntWalk.i64_in _ (by omega)]
     rfl
   ·simp only[fit,if_neg h11] at h2
    rw[if_neg (by cases neg <;> simp only[sg,if_true,Bool.false_eq_true,if_false] at h11 ⊢ <;> omega)]
    cases neg with
    |true =>
     simp only[sg,if_true] at h1 h2 ⊢
     simp only[b_ref1_Parse_0,go_sem,V_call,sidx_at hc,h1,h2,w8,w64,w65,n43,n45]
     rw[if_pos (by omega),if_neg (by decide),if_pos (by decide)]
    |false =>
     simp only[sg,Bool.false_eq_true,if_false] at h1 h2 ⊢
     simp only[b_ref1_Parse_0,go_sem,V_call,sidx_at hc,h1,h2,w8,w64,w65,n43,n45]
     rw[if_pos (by omega),if_neg (by decide),if_pos (by decide)]
  ·simp only[fit,if_neg h10] at h1
   rw[if_neg (by cases neg <;> simp only[sg,if_true,Bool.false_eq_true,if_false] at h10 ⊢ <;> omega)]
   cases neg with
   |true =>
    simp only[sg,if_true] at h1 ⊢
    simp only[b_ref1_Parse_0,go_sem,V_call,sidx_at hc,h1,w8,w64,w65,n43,n45]
    rw[if_pos (by omega),if_pos (by decide)]
   |false =>
    simp only[sg,Bool.false_eq_true,if_false] at h1 ⊢
    simp only[b_ref1_Parse_0,go_sem,V_call,sidx_at hc,h1,w8,w64,w65,n43,n45]
    rw[if_pos (by omega),if_pos (by decide)]
theorem rparse_ok {s:List UInt8} (hs:s.length<4611686018427387904) (st:St):callE efns given f_ref1_Parse [.str s] st=some (.tuple [.int .i64 (parseM s).1,.int .i64 (parseM s).2],st):=by
 rw[callE_fn efns given (c:=e_ref1_Parse) rfl rfl]
 have hsh:=shape_ok given hs ⟨[],[],[],[]⟩
 rw[parseM_eq]
 cases h:shapeM s with
 |false =>
  rw[h] at hsh
  simp only[e_ref1_Parse,go_sem,V_call,hsh]
 |true =>
  rw[h] at hsh
  have loop:=fun {K:EX->Fr->St->Option (PV × St)} (neg:Bool) (n v:Nat) (hn:n<=s.length) (hv:I64 (sg neg v)) (hd:(s.drop n).all digit=true)=>rparse_loop given (K:=K) hs neg (st:=st) (s.length-n) n v rfl hn hv hd
  cases s with
  |nil=>simp[shapeM,parts] at h
  |cons c r =>
   have hc:biV .sidx (.str (c::r)) (.int .i64 0)=some (.int .u8 c.toNat):=sidx_at (n:=0) rfl
   have e43:((c.toNat:Int)=43)=(c=43):=toNat_eq (n:=43) (by decide)
   have e45:((c.toNat:Int)=45)=(c=45):=toNat_eq (n:=45) (by decide)
   unfold shapeM at h
   rw[parts_cons] at h ⊢
   simp only[e_ref1_Parse,go_sem,V_call,hsh,hc,e45]
   have first : ∀ neg:Bool,(c=45\/c=43) -> ∀ (st:St) (K:EX->Fr->St->Option (PV × St)),runL (callE efns given) [true,true,true,true,false,false,false,false,false] b_ref1_Parse_0 [.str (c::r),.bool neg,.int .i64 0,.int .i64 0,.undef,.undef,.undef,.undef,.undef] st K =
     runL (callE efns given) [true,true,true,true,false,false,false,false,false] b_ref1_Parse_0 [.str (c::r),.bool neg,.int .i64 0,.int .i64 1,.undef,.undef,.undef,.undef,.undef] st K:=by
    intro neg h st K
    conv=>lhs; rw[runL_eq]
    generalize hL:runL _ _ b_ref1_Parse_0=L
    rcases h with h|h
    ·subst h
     simp only[b_ref1_Parse_0,go_sem,V_call,hc]
     rw[if_pos (by omega),if_pos (by decide)]
     rfl
    ·subst h
     simp only[b_ref1_Parse_0,go_sem,V_call,hc]
     rw[if_pos (by omega),if_pos (by decide)]
     rfl
   by_cases h45:c=45
   ·subst h45
    simp only[if_true] at h ⊢
    rw[Bool.and_eq_true] at h
    rw[show decide True=true from rfl,first true (.inl rfl)]
    have:=loop (K:=blockK 0 (seqK (fun fr st=>some (PV.tuple [List.getD fr 2 PV.undef,PV.int IntKind.i64 0],st)) retK)) true 1 0 (by simp) (by decide) h.2
    refine Eq.trans this ?_
    simp only[sg,if_true,List.drop_one,List.tail_cons,fit]
    split <;> rfl
   ·by_cases h43:c=43
    ·subst h43
     simp only[if_true,h45,if_false] at h ⊢
     rw[Bool.and_eq_true] at h
     rw[show decide False=false from rfl,first false (.inr rfl)]
     have:=loop (K:=blockK 0 (seqK (fun fr st=>some (PV.tuple [List.getD fr 2 PV.undef,PV.int IntKind.i64 0],st)) retK)) false 1 0 (by simp) (by decide) h.2
     refine Eq.trans this ?_
     simp only[sg,Bool.false_eq_true,if_false,List.drop_one,List.tail_cons,fit]
     split <;> rfl
    ·simp only[h43,h45,if_false] at h ⊢
     rw[Bool.and_eq_true] at h
     rw[show decide False=false from rfl]
     have:=loop (K:=blockK 0 (seqK (fun fr st=>some (PV.tuple [List.getD fr 2 PV.undef,PV.int IntKind.i64 0],st)) retK)) false 0 0 (by simp) (by decide) h.2
     refine Eq.trans this ?_
     simp only[sg,Bool.false_eq_true,if_false,List.drop_zero,fit]
     split <;> rfl
end
end Go.Proofs.YtnlknpeelpnbaaaGreatDoorPe.Read
