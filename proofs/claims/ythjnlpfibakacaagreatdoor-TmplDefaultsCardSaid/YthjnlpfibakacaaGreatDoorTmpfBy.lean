/- A part of the proof of this folder's statement; it has no condition of its own. -/
import Derived.Test.YthjnlpfibakacaaGreatDoorTmpfNt
import Derived.Test.YthjnlpfibakacaaGreatDoorTmpfGivt
import Derived.Test.YthjnlpfibakacaaGreatDoorEcWp2
set_option linter.unusedVariables false
set_option linter.unusedSimpArgs false
set_option maxRecDepth 100000
namespace Go.Proofs.YthjnlpfibakacaaGreatDoorPe.Tmpf
open Go Go.Proofs Go.Proofs.YthjnlpfibakacaaGreatDoorPe Go.Proofs.YthjnlpfibakacaaGreatDoorPe.TmpfCode
def IsTrue (o:Option (PV × St)):Prop:=Good (fun v _=>v = .bool true) o
theorem IsTrue.ex {o:Option (PV × St)} (h:IsTrue o) : ∃ st,o=some (.bool true,st):=by
 obtain⟨v,st,h,rfl⟩:=h
 exact⟨st,h⟩
end Go.Proofs.YthjnlpfibakacaaGreatDoorPe.Tmpf
set_option linter.unusedVariables false
set_option linter.unusedSimpArgs false
set_option maxRecDepth 100000
namespace Go.Proofs.YthjnlpfibakacaaGreatDoorPe.Tmpf
open Go Go.Proofs Go.Proofs.YthjnlpfibakacaaGreatDoorPe Go.Proofs.YthjnlpfibakacaaGreatDoorPe.TmpfCode
inductive PosOk (M:Nat):Nd->Prop where
 |mk {k pos i:Int} {s:List UInt8} {kids:List Nd} (h:0<=pos/\pos<=M) (hk : ∀ x∈kids,PosOk M x):PosOk M (.mk k pos i s kids)
theorem PosOk.pos {M:Nat} {x:Nd} (h:PosOk M x):0<=x.pos/\x.pos<=M:=by cases h; assumption
theorem PosOk.kids {M:Nat} {x:Nd} (h:PosOk M x) : ∀ y∈x.kids,PosOk M y:=by cases h; assumption
end Go.Proofs.YthjnlpfibakacaaGreatDoorPe.Tmpf
set_option maxRecDepth 1000000
namespace Go.Proofs.YthjnlpfibakacaaGreatDoorPe.Tmpf
open Go Go.Proofs Go.Proofs.YthjnlpfibakacaaGreatDoorPe Go.Proofs.YthjnlpfibakacaaGreatDoorPe.TmpfCode
theorem known_t:tupV (callE efns given) (.call 0 f_law9_known) []=some (.bool true):=run_t (k:=100) (by kernel_rfl)
end Go.Proofs.YthjnlpfibakacaaGreatDoorPe.Tmpf
