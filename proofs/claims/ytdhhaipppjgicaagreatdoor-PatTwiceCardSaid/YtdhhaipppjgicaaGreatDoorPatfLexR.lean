/- A part of the proof of this folder's statement; it has no condition of its own. -/
import Derived.Test.YtdhhaipppjgicaaGreatDoorPatfLexM
set_option linter.unusedVariables false
set_option linter.unusedSimpArgs false
set_option maxRecDepth 1000000
namespace Go.Proofs.YtdhhaipppjgicaaGreatDoorPe.Patf
open Go Go.Proofs.YtdhhaipppjgicaaGreatDoorPe Go.Proofs.YtdhhaipppjgicaaGreatDoorPe.PatfCode
end Go.Proofs.YtdhhaipppjgicaaGreatDoorPe.Patf
set_option linter.unusedVariables false
set_option linter.unusedSimpArgs false
set_option maxRecDepth 1000000
namespace Go.Proofs.YtdhhaipppjgicaaGreatDoorPe.Patf
open Go Go.Proofs.YtdhhaipppjgicaaGreatDoorPe Go.Proofs.YtdhhaipppjgicaaGreatDoorPe.PatfCode
inductive TokK:Tk->Prop
 |sign (k:Int) (h:k=4\/k=5\/k=8):TokK ⟨k,0,[]⟩
 |str (s:List UInt8) (h:s.length<=1000):TokK ⟨3,0,s⟩
 |name (k:Int) (s:List UInt8) (hk:k=6\/k=7) (h:goodM s=true):TokK ⟨k,0,s⟩
 |int (i:Int) (h:I64 i):TokK ⟨1,i,[]⟩
 |sym (s:List UInt8) (h1:s≠[]) (h2:s.length<=40) (h3:s.all signB=true) (h4:(parseM s).2=2):TokK ⟨2,0,s⟩
end Go.Proofs.YtdhhaipppjgicaaGreatDoorPe.Patf
set_option linter.unusedVariables false
set_option linter.unusedSimpArgs false
set_option maxRecDepth 1000000
namespace Go.Proofs.YtdhhaipppjgicaaGreatDoorPe.Patf
open Go Go.Proofs.YtdhhaipppjgicaaGreatDoorPe Go.Proofs.YtdhhaipppjgicaaGreatDoorPe.PatfCode
end Go.Proofs.YtdhhaipppjgicaaGreatDoorPe.Patf
set_option linter.unusedVariables false
set_option linter.unusedSimpArgs false
set_option maxRecDepth 1000000
namespace Go.Proofs.YtdhhaipppjgicaaGreatDoorPe.Patf
open Go Go.Proofs.YtdhhaipppjgicaaGreatDoorPe Go.Proofs.YtdhhaipppjgicaaGreatDoorPe.PatfCode
def EndB:List UInt8->Prop
 |[]=>True
 |c::_=>signB c=false/\partB c=false
def Stops (p:UInt8->Bool):List UInt8->Prop
 |[]=>True
 |c::_=>p c=false
theorem EndB.sign {r:List UInt8} (h:EndB r):Stops signB r:=by
 cases r with
 |nil=>trivial
 |cons c r=>exact h.1
theorem EndB.part {r:List UInt8} (h:EndB r):Stops partB r:=by
 cases r with
 |nil=>trivial
 |cons c r=>exact h.2
theorem tobytes_ok {s:List UInt8}:unV .tobytes (.str s)=some (.lst (byts s)):=rfl
end Go.Proofs.YtdhhaipppjgicaaGreatDoorPe.Patf
set_option linter.unusedVariables false
set_option linter.unusedSimpArgs false
set_option maxRecDepth 100000
namespace Go.Proofs.YtdhhaipppjgicaaGreatDoorPe.Patf
open Go Go.Proofs Go.Proofs.YtdhhaipppjgicaaGreatDoorPe Go.Proofs.YtdhhaipppjgicaaGreatDoorPe.PatfCode
end Go.Proofs.YtdhhaipppjgicaaGreatDoorPe.Patf
