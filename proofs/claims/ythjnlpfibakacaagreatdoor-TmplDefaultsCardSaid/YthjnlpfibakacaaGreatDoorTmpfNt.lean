/- A part of the proof of this folder's statement; it has no condition of its own. -/
import Derived.Test.YthjnlpfibakacaaGreatDoorTmpfRm
set_option linter.unusedVariables false
set_option linter.unusedSimpArgs false
set_option maxRecDepth 100000
namespace Go.Proofs.YthjnlpfibakacaaGreatDoorPe.Tmpf
open Go Go.Proofs Go.Proofs.YthjnlpfibakacaaGreatDoorPe Go.Proofs.YthjnlpfibakacaaGreatDoorPe.TmpfCode
end Go.Proofs.YthjnlpfibakacaaGreatDoorPe.Tmpf
set_option linter.unusedVariables false
set_option linter.unusedSimpArgs false
set_option maxRecDepth 100000
namespace Go.Proofs.YthjnlpfibakacaaGreatDoorPe.Tmpf
open Go Go.Proofs Go.Proofs.YthjnlpfibakacaaGreatDoorPe Go.Proofs.YthjnlpfibakacaaGreatDoorPe.TmpfCode
inductive Wf:Nd->Prop where
 |leaf (k pos i:Int) (s:List UInt8) (h:TokK ⟨k,i,s⟩) (h4 : ¬ k=4) (h5 : ¬ k=5) (h8 : ¬ k=8):Wf (.mk k pos i s [])
 |no (pos:Int) (k p i:Int) (s:List UInt8) (h:TokK ⟨k,i,s⟩) (h4 : ¬ k=4) (h5 : ¬ k=5) (h8 : ¬ k=8):Wf (.mk 8 pos 0 [] [.mk k p i s []])
 |list (pos:Int) (l:List Nd) (h : ∀ x,x∈l->Wf x):Wf (.mk 0 pos 0 [] l)
theorem Wf.kids {x:Nd} (h:Wf x) : ∀ y∈x.kids,Wf y:=by
 cases h with
 |leaf=>intro y hy; cases hy
 |no pos k p i s h h4 h5 h8 =>
  intro y hy
  simp only[Nd.kids,List.mem_singleton] at hy
  subst hy
  exact .leaf k p i s h h4 h5 h8
 |list pos l h=>exact h
end Go.Proofs.YthjnlpfibakacaaGreatDoorPe.Tmpf
set_option linter.unusedVariables false
set_option linter.unusedSimpArgs false
set_option maxRecDepth 100000
namespace Go.Proofs.YthjnlpfibakacaaGreatDoorPe.Tmpf
open Go Go.Proofs Go.Proofs.YthjnlpfibakacaaGreatDoorPe Go.Proofs.YthjnlpfibakacaaGreatDoorPe.TmpfCode
end Go.Proofs.YthjnlpfibakacaaGreatDoorPe.Tmpf
set_option linter.unusedVariables false
set_option linter.unusedSimpArgs false
set_option maxRecDepth 100000
namespace Go.Proofs.YthjnlpfibakacaaGreatDoorPe.Tmpf
open Go Go.Proofs Go.Proofs.YthjnlpfibakacaaGreatDoorPe Go.Proofs.YthjnlpfibakacaaGreatDoorPe.TmpfCode
end Go.Proofs.YthjnlpfibakacaaGreatDoorPe.Tmpf
