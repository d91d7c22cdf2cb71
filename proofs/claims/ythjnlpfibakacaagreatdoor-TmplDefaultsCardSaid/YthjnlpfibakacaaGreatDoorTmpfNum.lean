/- A part of the proof of this folder's statement; it has no condition of its own. -/
import Derived.Test.YthjnlpfibakacaaGreatDoorTmpfCode
import Derived.Test.YthjnlpfibakacaaGreatDoorEcWp
import Derived.IntWalk
set_option linter.unusedVariables false
set_option linter.unusedSimpArgs false
set_option maxRecDepth 100000
namespace Go.Proofs.YthjnlpfibakacaaGreatDoorPe.Tmpf
open Go Go.Proofs.YthjnlpfibakacaaGreatDoorPe Go.Proofs.YthjnlpfibakacaaGreatDoorPe.TmpfCode
abbrev I64 (n:Int):Prop := -9223372036854775808<=n/\n<=9223372036854775807
def fit (n:Int):Int × Int:=if I64 n then (n,0) else (0,11)
section
variable (given:FuncId->List PV->Option PV)
end
end Go.Proofs.YthjnlpfibakacaaGreatDoorPe.Tmpf
set_option linter.unusedVariables false
set_option linter.unusedSimpArgs false
set_option maxRecDepth 100000
namespace Go.Proofs.YthjnlpfibakacaaGreatDoorPe.Tmpf
open Go Go.Proofs.YthjnlpfibakacaaGreatDoorPe Go.Proofs.YthjnlpfibakacaaGreatDoorPe.TmpfCode
def digit (c:UInt8):Bool:=decide (48<=c.toNat)&&decide (c.toNat<=57)
section
variable (given:FuncId->List PV->Option PV)
variable {α : Type} {K:EX->Fr->St->Option α}
def step10 (v:Nat) (c:UInt8):Nat:=10*v+(c.toNat-48)
def acc (v:Nat) (l:List UInt8):Nat:=l.foldl step10 v
theorem acc_cons {v:Nat} {c:UInt8} {r:List UInt8}:acc v (c::r)=acc (10*v+(c.toNat-48)) r:=by
 unfold acc
 rw[List.foldl_cons,step10]
def parseM (s:List UInt8):Int × Int :=
 let t:=match s with
  |45::r=>(true,r)
  |43::r=>(false,r)
  |r=>(false,r)
 if t.2=[] \/ ¬ t.2.all digit=true then (0,2) else fit (if t.1 then -(acc 0 t.2:Int) else (acc 0 t.2:Int))
end
end Go.Proofs.YthjnlpfibakacaaGreatDoorPe.Tmpf
set_option linter.unusedVariables false
set_option linter.unusedSimpArgs false
set_option maxRecDepth 100000
namespace Go.Proofs.YthjnlpfibakacaaGreatDoorPe.Tmpf
open Go Go.Proofs.YthjnlpfibakacaaGreatDoorPe Go.Proofs.YthjnlpfibakacaaGreatDoorPe.TmpfCode
section
variable (given:FuncId->List PV->Option PV)
variable {α : Type} {K:EX->Fr->St->Option α}
theorem shape_loop {s:List UInt8} (hs:s.length<4611686018427387904) {fr0:Int} {st:St} : ∀ (d n:Nat),s.length-n=d->n<=s.length ->
  runL (callE efns given) [true,true,true] b_ref1_Shape_0 [.str s,.int .i64 fr0,.int .i64 n] st K =
   if (s.drop n).all digit=true then K (.exit 0) [.str s,.int .i64 fr0,.int .i64 s.length] st else K (.ret (.bool false)) [] st:=by
 intro d
 induction d with
 |zero =>
  intro n hd hn
  have:n=s.length:=by omega
  subst this
  rw[runL_eq]
  simp only[b_ref1_Shape_0,go_sem,V_call]
  simp
 |succ d ih =>
  intro n hd hn
  have hlt:n<s.length:=by omega
  obtain⟨c,hc⟩ : ∃ c,s[n]? = some c:=⟨s[n],List.getElem?_eq_getElem hlt⟩
  have hdr:s.drop n=c::s.drop (n+1):=by
   rw[List.drop_eq_getElem_cons hlt]
   rw[List.getElem?_eq_getElem hlt] at hc
   rw[Option.some.inj hc]
  rw[runL_eq]
  generalize hL:runL _ _ b_ref1_Shape_0=L at ih ⊢
  simp only[b_ref1_Shape_0,go_sem,V_call,sidx_at hc]
  rw[if_pos (by omega),IntWalk.i64_in _ (by omega),hdr,List.all_cons]
  have hd':digit c=true ↔ ¬ ((c.toNat:Int)<48\/(c.toNat:Int)>57):=by
   unfold digit
   simp
   omega
  by_cases h:(c.toNat:Int)<48\/(c.toNat:Int)>57
  ·have:digit c=false:=by
    rw[Bool.eq_false_iff]
    exact fun h'=>hd'.1 h' h
   rw[if_pos h,this]
   simp
  ·have:digit c=true:=hd'.2 h
   rw[if_neg h,this,Bool.true_and]
   exact ih (n+1) (by omega) (by omega)
def parts (s:List UInt8):Bool × List UInt8 :=
 match s with
 |45::r=>(true,r)
 |43::r=>(false,r)
 |r=>(false,r)
def shapeM (s:List UInt8):Bool := !(parts s).2.isEmpty&&(parts s).2.all digit
theorem toNat_eq {c:UInt8} {n:Nat} (hn:n<256):((c.toNat:Int)=(n:Int))=(c=UInt8.ofNat n):=by
 apply propext
 constructor
 ·intro h
  apply UInt8.toNat_inj.1
  have:c.toNat=n:=by omega
  rw[this]
  simp[Nat.mod_eq_of_lt hn]
 ·rintro rfl
  simp[Nat.mod_eq_of_lt hn]
theorem parts_cons {c:UInt8} {r:List UInt8}:parts (c::r)=if c=45 then (true,r) else if c=43 then (false,r) else (false,c::r):=by
 unfold parts
 split
 ·rename_i h; cases h; simp
 ·rename_i h; cases h; simp
 ·rename_i h1 h2
  rw[if_neg fun h=>h1 r (by rw[h]),if_neg fun h=>h2 r (by rw[h])]
theorem shape_ok {s:List UInt8} (hs:s.length<4611686018427387904) (st:St):callE efns given f_ref1_Shape [.str s] st=some (.bool (shapeM s),st):=by
 rw[callE_fn efns given (c:=e_ref1_Shape) rfl rfl]
 have loop:=fun {K:EX->Fr->St->Option (PV × St)} (f0:Int) (n:Nat) (hn:n<=s.length)=>shape_loop given (K:=K) hs (fr0:=f0) (st:=st) (s.length-n) n rfl hn
 cases s with
 |nil =>
  have l0:=fun {K:EX->Fr->St->Option (PV × St)}=>loop (K:=K) 0 0 (Nat.zero_le _)
  simp only[Int.natCast_zero,List.drop_zero] at l0
  simp only[e_ref1_Shape,go_sem,V_call]
  simp only[List.length_nil,Int.natCast_zero] at l0 ⊢
  simp only[l0,go_sem,V_call]
  simp[shapeM,parts]
 |cons c r =>
  have l0:=fun {K:EX->Fr->St->Option (PV × St)}=>loop (K:=K) 0 0 (Nat.zero_le _)
  have l1:=fun {K:EX->Fr->St->Option (PV × St)}=>loop (K:=K) 1 1 (by simp)
  simp only[Int.natCast_zero,List.drop_zero] at l0
  simp only[List.drop_succ_cons,List.drop_zero,Int.natCast_one] at l1
  have hc:biV .sidx (.str (c::r)) (.int .i64 0)=some (.int .u8 c.toNat):=sidx_at (n:=0) rfl
  have e43:((c.toNat:Int)=43)=(c=43):=toNat_eq (n:=43) (by decide)
  have e45:((c.toNat:Int)=45)=(c=45):=toNat_eq (n:=45) (by decide)
  simp only[e_ref1_Shape,go_sem,V_call,hc,l0,l1,e43,e45]
  unfold shapeM
  rw[parts_cons]
  have hpos:(((r.length+1:Nat):Int)>0)=True:=eq_true (by omega)
  have hone:(((r.length+1:Nat):Int)>1)=(r.isEmpty=false):=by
   apply propext
   cases r <;> simp
   omega
  simp only[hpos,hone,true_and]
  clear loop l0 l1 hc hpos hone
  by_cases h45:c=45
  ·subst h45
   simp only[if_true,or_true]
   generalize r.all digit=D
   generalize r.isEmpty=E
   cases D <;> cases E <;> simp
  ·by_cases h43:c=43
   ·subst h43
    simp only[if_true,true_or,h45,if_false]
    generalize r.all digit=D
    generalize r.isEmpty=E
    cases D <;> cases E <;> simp
   ·simp only[h45,h43,or_self,if_false,List.isEmpty_cons,List.all_cons]
    generalize r.all digit=D
    generalize digit c=E
    cases D <;> cases E <;> simp
end
end Go.Proofs.YthjnlpfibakacaaGreatDoorPe.Tmpf
