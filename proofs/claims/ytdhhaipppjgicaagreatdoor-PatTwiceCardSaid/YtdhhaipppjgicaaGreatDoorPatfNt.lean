/- A part of the proof of this folder's statement; it has no condition of its own. -/
import Derived.Test.YtdhhaipppjgicaaGreatDoorPatfRm
set_option linter.unusedVariables false
set_option linter.unusedSimpArgs false
set_option maxRecDepth 100000
namespace Go.Proofs.YtdhhaipppjgicaaGreatDoorPe.Patf
open Go Go.Proofs Go.Proofs.YtdhhaipppjgicaaGreatDoorPe Go.Proofs.YtdhhaipppjgicaaGreatDoorPe.PatfCode
end Go.Proofs.YtdhhaipppjgicaaGreatDoorPe.Patf
set_option linter.unusedVariables false
set_option linter.unusedSimpArgs false
set_option maxRecDepth 100000
namespace Go.Proofs.YtdhhaipppjgicaaGreatDoorPe.Patf
open Go Go.Proofs Go.Proofs.YtdhhaipppjgicaaGreatDoorPe Go.Proofs.YtdhhaipppjgicaaGreatDoorPe.PatfCode
inductive Wf:Nd->Prop where
 |leaf (k pos i:Int) (s:List UInt8) (h:TokK ⟨k,i,s⟩) (h4 : ¬ k=4) (h5 : ¬ k=5) (h8 : ¬ k=8):Wf (.mk k pos i s [])
 |no (pos:Int) (k p i:Int) (s:List UInt8) (h:TokK ⟨k,i,s⟩) (h4 : ¬ k=4) (h5 : ¬ k=5) (h8 : ¬ k=8):Wf (.mk 8 pos 0 [] [.mk k p i s []])
 |list (pos:Int) (l:List Nd) (h : ∀ x,x∈l->Wf x):Wf (.mk 0 pos 0 [] l)
theorem Wf.kids {x:Nd} (h:Wf x) : ∀ y∈x.kids,Wf y:=by
 cases h with
 |leaf=>intro y hy; cases hy
 |no pos k p i s h h4 h5 h8 =>
  intro y hy
  simp only[Nd.kids,List.mem_singleton] at hy
  subst hy
  exact .leaf k p i s h h4 h5 h8
 |list pos l h=>exact h
end Go.Proofs.YtdhhaipppjgicaaGreatDoorPe.Patf
set_option linter.unusedVariables false
set_option linter.unusedSimpArgs false
set_option maxRecDepth 100000
namespace Go.Proofs.YtdhhaipppjgicaaGreatDoorPe.Patf
open Go Go.Proofs Go.Proofs.YtdhhaipppjgicaaGreatDoorPe Go.Proofs.YtdhhaipppjgicaaGreatDoorPe.PatfCode
theorem upto {p:Int->Prop} (h:p 1/\p 2/\p 3/\p 4/\p 5/\p 6/\p 7/\p 8/\p 9/\p 10/\p 11) {e:Int} (h1:1<=e) (h2:e<=11):p e:=by
 obtain⟨a1,a2,a3,a4,a5,a6,a7,a8,a9,a10,a11⟩:=h
 rcases (by omega:e=1\/e=2\/e=3\/e=4\/e=5\/e=6\/e=7\/e=8\/e=9\/e=10\/e=11) with rfl|rfl|rfl|rfl|rfl|rfl|rfl|rfl|rfl|rfl|rfl <;> assumption
end Go.Proofs.YtdhhaipppjgicaaGreatDoorPe.Patf
set_option linter.unusedVariables false
set_option linter.unusedSimpArgs false
set_option maxRecDepth 100000
namespace Go.Proofs.YtdhhaipppjgicaaGreatDoorPe.Patf
open Go Go.Proofs Go.Proofs.YtdhhaipppjgicaaGreatDoorPe Go.Proofs.YtdhhaipppjgicaaGreatDoorPe.PatfCode
end Go.Proofs.YtdhhaipppjgicaaGreatDoorPe.Patf
