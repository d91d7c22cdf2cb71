/-
  No cell of these rows narrows 'for every input' (looked for: loops, veiled, ifaces, maps, wideKeys, modest, calm, conditions, laid).
  DERIVED. THE GIVEN ROWS OF THIS SEAT. 4 by the template 'for every input the law returns true; each argument reads behind the call as it read before'; 0 by the template 'total and deterministic' (their statements: YtgjklaobjnjhpaaTotals.lean).
  GIVEN WITH THE SEED: the statements are not yours to turn. If you find one false, say at which input.
  Laid BY PROGRAM, IN A SANDBOX (cutbox-rows.mjs): the forced cells as the released guide's own fill.sh prints them over the translation a40e7aaffef4cfd4… (all of the seat's roots in one cut). By AI agents, Wed Nov 11 2026. No macro, syntax, notation, axiom, sorry.
-/
import Derived.Test.YtgjklaobjnjhpaaChecked
import GoSem.Claim
import GoSem.ClaimJoined
import GoSem.ClaimMapViews
import Derived.JoinedTies
import Derived.KernelRfl
namespace Go.Proofs.Ytgjklaobjnjhpaa
/- THE CELL 'sum', in the pinned program and in every row, IS THE sha256 OF THE DUMP (.gsa) THAT YtgjklaobjnjhpaaProg.lean LOADS. Nothing in Lean hashes anything: it is a label: what it is worth is what the hold of that sum in a sandbox is worth. -/
noncomputable def Try.pinned : Pinned := { name := "ytgjklaobjnjhpaa", sum := "a40e7aaffef4cfd4ba540609358e9e98b92b802b91fb77719af68517f12fcbcc", checked := Try.checked }
namespace Rows
def none {H : Type} : Left H := { results := [], args := [] }

/-- 'whelklaw13.NormOrs': WHATEVER THE INPUT: true; the input reads as it did. -/
def normOrsSpec : ChangeSpec := { name := "normOrs", fn := fun _ => fun
  | [d] => { results := [.lit (.bool true)], args := [d] }
  | _ => none }
def normOrsRow : OpenClaim := { program := "ytgjklaobjnjhpaa", sum := "a40e7aaffef4cfd4ba540609358e9e98b92b802b91fb77719af68517f12fcbcc", func := "whelk/whelklaw13.NormOrs", spec := "normOrs", unfollowed := true, recurses := true, apart := false }
def NormOrsSaid : Prop := normOrsRow.holds Try.pinned (OpenSpec.ofChange normOrsSpec)

/-- ITS FALSE NEIGHBOUR: 'it returns false'. Refute it at one input. -/
def normOrsWrong : ChangeSpec := { name := "normOrs", fn := fun _ => fun
  | [d] => { results := [.lit (.bool false)], args := [d] }
  | _ => none }
def NormOrsWrongFalsely : Prop := normOrsRow.holds Try.pinned (OpenSpec.ofChange normOrsWrong)

/-- 'whelklaw13.NormNots': WHATEVER THE INPUT: true; the input reads as it did. -/
def normNotsSpec : ChangeSpec := { name := "normNots", fn := fun _ => fun
  | [d] => { results := [.lit (.bool true)], args := [d] }
  | _ => none }
def normNotsRow : OpenClaim := { program := "ytgjklaobjnjhpaa", sum := "a40e7aaffef4cfd4ba540609358e9e98b92b802b91fb77719af68517f12fcbcc", func := "whelk/whelklaw13.NormNots", spec := "normNots", unfollowed := true, recurses := true, apart := false }
def NormNotsSaid : Prop := normNotsRow.holds Try.pinned (OpenSpec.ofChange normNotsSpec)

/-- ITS FALSE NEIGHBOUR: 'it returns false'. Refute it at one input. -/
def normNotsWrong : ChangeSpec := { name := "normNots", fn := fun _ => fun
  | [d] => { results := [.lit (.bool false)], args := [d] }
  | _ => none }
def NormNotsWrongFalsely : Prop := normNotsRow.holds Try.pinned (OpenSpec.ofChange normNotsWrong)

/-- 'whelklaw13.NormLogics': WHATEVER THE INPUT: true; the input reads as it did. -/
def normLogicsSpec : ChangeSpec := { name := "normLogics", fn := fun _ => fun
  | [d1, d2] => { results := [.lit (.bool true)], args := [d1, d2] }
  | _ => none }
def normLogicsRow : OpenClaim := { program := "ytgjklaobjnjhpaa", sum := "a40e7aaffef4cfd4ba540609358e9e98b92b802b91fb77719af68517f12fcbcc", func := "whelk/whelklaw13.NormLogics", spec := "normLogics", unfollowed := true, recurses := true, apart := false }
def NormLogicsSaid : Prop := normLogicsRow.holds Try.pinned (OpenSpec.ofChange normLogicsSpec)

/-- ITS FALSE NEIGHBOUR: 'it returns false'. Refute it at one input. -/
def normLogicsWrong : ChangeSpec := { name := "normLogics", fn := fun _ => fun
  | [d1, d2] => { results := [.lit (.bool false)], args := [d1, d2] }
  | _ => none }
def NormLogicsWrongFalsely : Prop := normLogicsRow.holds Try.pinned (OpenSpec.ofChange normLogicsWrong)

/-- 'whelklaw13.NormLong': WHATEVER THE INPUT: true; the input reads as it did. -/
def normLongSpec : ChangeSpec := { name := "normLong", fn := fun _ => fun
  | [d1, d2] => { results := [.lit (.bool true)], args := [d1, d2] }
  | _ => none }
def normLongRow : OpenClaim := { program := "ytgjklaobjnjhpaa", sum := "a40e7aaffef4cfd4ba540609358e9e98b92b802b91fb77719af68517f12fcbcc", func := "whelk/whelklaw13.NormLong", spec := "normLong", unfollowed := true, recurses := true, apart := false }
def NormLongSaid : Prop := normLongRow.holds Try.pinned (OpenSpec.ofChange normLongSpec)

/-- ITS FALSE NEIGHBOUR: 'it returns false'. Refute it at one input. -/
def normLongWrong : ChangeSpec := { name := "normLong", fn := fun _ => fun
  | [d1, d2] => { results := [.lit (.bool false)], args := [d1, d2] }
  | _ => none }
def NormLongWrongFalsely : Prop := normLongRow.holds Try.pinned (OpenSpec.ofChange normLongWrong)

/- THE SECOND FORM. 'bulk': how many values and letters a reading holds, each counted each time it is reached (what is shared counts as often as it is met; a slice's spare places count too). A statement '..UptoSaid' is the law's where the arguments, and the package variables that the reading takes, are together of bulk at most 1048576: NARROWER than '..Said'. Prove '..Said' where nothing that the law and all that it calls make is longer than what came in: it says more and counts as full. Else prove '..UptoSaid'. A law counts once. -/
mutual
def uptoBulk {H : Type} : DataW H → Nat
  | .lit (.string bytes) => bytes.length + 1
  | .lit _ => 1
  | .nil => 1
  | .ptr d => uptoBulk d + 1
  | .slice elems spare => uptoBulkAll elems + uptoBulkAll spare + 1
  | .agg parts => uptoBulkAll parts + 1
  | .iface _ d => uptoBulk d + 1
  | .map entries => uptoBulkEntries entries + 1
  | .held _ => 1
def uptoBulkAll {H : Type} : List (DataW H) → Nat
  | [] => 0
  | d :: r => uptoBulk d + uptoBulkAll r
def uptoBulkEntries {H : Type} : List (Lit × DataW H) → Nat
  | [] => 0
  | x :: r => uptoBulkEntry x + uptoBulkEntries r
def uptoBulkEntry {H : Type} : Lit × DataW H → Nat
  | (.string bytes, d) => bytes.length + uptoBulk d + 1
  | (_, d) => uptoBulk d + 1
 end
def uptoSmall : (H : Type) → List (DataW H) → Bool := fun _ ds => decide (uptoBulkAll ds ≤ 1048576)
def OpenSpec.upto (s : _root_.Go.ChangeSpec) : _root_.Go.OpenSpec := { _root_.Go.OpenSpec.ofChange s with cond := some uptoSmall }

/-- 'whelklaw13.NormOrs', WHERE WHAT IT READS IS OF BULK AT MOST 1048576: true; the input reads as it did. -/
def normOrsUptoRow : OpenClaim := { program := "ytgjklaobjnjhpaa", sum := "a40e7aaffef4cfd4ba540609358e9e98b92b802b91fb77719af68517f12fcbcc", func := "whelk/whelklaw13.NormOrs", spec := "normOrs", unfollowed := true, recurses := true, apart := false, narrowed := true }
def NormOrsUptoSaid : Prop := normOrsUptoRow.holds Try.pinned (OpenSpec.upto normOrsSpec)

/-- 'whelklaw13.NormNots', WHERE WHAT IT READS IS OF BULK AT MOST 1048576: true; the input reads as it did. -/
def normNotsUptoRow : OpenClaim := { program := "ytgjklaobjnjhpaa", sum := "a40e7aaffef4cfd4ba540609358e9e98b92b802b91fb77719af68517f12fcbcc", func := "whelk/whelklaw13.NormNots", spec := "normNots", unfollowed := true, recurses := true, apart := false, narrowed := true }
def NormNotsUptoSaid : Prop := normNotsUptoRow.holds Try.pinned (OpenSpec.upto normNotsSpec)

/-- 'whelklaw13.NormLogics', WHERE WHAT IT READS IS OF BULK AT MOST 1048576: true; the input reads as it did. -/
def normLogicsUptoRow : OpenClaim := { program := "ytgjklaobjnjhpaa", sum := "a40e7aaffef4cfd4ba540609358e9e98b92b802b91fb77719af68517f12fcbcc", func := "whelk/whelklaw13.NormLogics", spec := "normLogics", unfollowed := true, recurses := true, apart := false, narrowed := true }
def NormLogicsUptoSaid : Prop := normLogicsUptoRow.holds Try.pinned (OpenSpec.upto normLogicsSpec)

/-- 'whelklaw13.NormLong', WHERE WHAT IT READS IS OF BULK AT MOST 1048576: true; the input reads as it did. -/
def normLongUptoRow : OpenClaim := { program := "ytgjklaobjnjhpaa", sum := "a40e7aaffef4cfd4ba540609358e9e98b92b802b91fb77719af68517f12fcbcc", func := "whelk/whelklaw13.NormLong", spec := "normLong", unfollowed := true, recurses := true, apart := false, narrowed := true }
def NormLongUptoSaid : Prop := normLongUptoRow.holds Try.pinned (OpenSpec.upto normLongSpec)

end Rows
end Go.Proofs.Ytgjklaobjnjhpaa
