/- A part of the proof of this folder's statement; it has no condition of its own. -/
import Derived.Test.YtdhhaipppjgicaaGreatDoorPatfCode
import Derived.Test.YtdhhaipppjgicaaGreatDoorEcWp
import Derived.IntWalk
set_option linter.unusedVariables false
set_option linter.unusedSimpArgs false
set_option maxRecDepth 100000
namespace Go.Proofs.YtdhhaipppjgicaaGreatDoorPe.Patf
open Go Go.Proofs.YtdhhaipppjgicaaGreatDoorPe Go.Proofs.YtdhhaipppjgicaaGreatDoorPe.PatfCode
abbrev I64 (n:Int):Prop := -9223372036854775808<=n/\n<=9223372036854775807
def fit (n:Int):Int × Int:=if I64 n then (n,0) else (0,11)
section
variable (given:FuncId->List PV->Option PV)
end
end Go.Proofs.YtdhhaipppjgicaaGreatDoorPe.Patf
set_option linter.unusedVariables false
set_option linter.unusedSimpArgs false
set_option maxRecDepth 100000
namespace Go.Proofs.YtdhhaipppjgicaaGreatDoorPe.Patf
open Go Go.Proofs.YtdhhaipppjgicaaGreatDoorPe Go.Proofs.YtdhhaipppjgicaaGreatDoorPe.PatfCode
def digit (c:UInt8):Bool:=decide (48<=c.toNat)&&decide (c.toNat<=57)
section
variable (given:FuncId->List PV->Option PV)
variable {α : Type} {K:EX->Fr->St->Option α}
def step10 (v:Nat) (c:UInt8):Nat:=10*v+(c.toNat-48)
def acc (v:Nat) (l:List UInt8):Nat:=l.foldl step10 v
theorem acc_cons {v:Nat} {c:UInt8} {r:List UInt8}:acc v (c::r)=acc (10*v+(c.toNat-48)) r:=by
 unfold acc
 rw[List.foldl_cons,step10]
def parseM (s:List UInt8):Int × Int :=
 let t:=match s with
  |45::r=>(true,r)
  |43::r=>(false,r)
  |r=>(false,r)
 if t.2=[] \/ ¬ t.2.all digit=true then (0,2) else fit (if t.1 then -(acc 0 t.2:Int) else (acc 0 t.2:Int))
end
end Go.Proofs.YtdhhaipppjgicaaGreatDoorPe.Patf
set_option linter.unusedVariables false
set_option linter.unusedSimpArgs false
set_option maxRecDepth 100000
namespace Go.Proofs.YtdhhaipppjgicaaGreatDoorPe.Patf
open Go Go.Proofs.YtdhhaipppjgicaaGreatDoorPe Go.Proofs.YtdhhaipppjgicaaGreatDoorPe.PatfCode
section
variable (given:FuncId->List PV->Option PV)
variable {α : Type} {K:EX->Fr->St->Option α}
def parts (s:List UInt8):Bool × List UInt8 :=
 match s with
 |45::r=>(true,r)
 |43::r=>(false,r)
 |r=>(false,r)
end
end Go.Proofs.YtdhhaipppjgicaaGreatDoorPe.Patf
