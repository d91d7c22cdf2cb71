/-
  No cell of these rows narrows 'for every input' (looked for: loops, veiled, ifaces, maps, wideKeys, modest, calm, conditions, laid).
  DERIVED. THE GIVEN ROWS OF THIS SEAT. 3 by the template 'for every input the law returns true; each argument reads behind the call as it read before'; 0 by the template 'total and deterministic' (their statements: YtngkdpiajikcjaaTotals.lean).
  GIVEN WITH THE SEED: the statements are not yours to turn. If you find one false, say at which input.
  Laid BY PROGRAM, IN A SANDBOX (cutbox-rows.mjs): the forced cells as the released guide's own fill.sh prints them over the translation 747f98bb6f85705f… (all of the seat's roots in one cut). By AI agents, Wed Nov 11 2026. No macro, syntax, notation, axiom, sorry.
-/
import Derived.Test.YtngkdpiajikcjaaChecked
import GoSem.Claim
import GoSem.ClaimJoined
import GoSem.ClaimMapViews
import Derived.JoinedTies
import Derived.KernelRfl
namespace Go.Proofs.Ytngkdpiajikcjaa
/- THE CELL 'sum', in the pinned program and in every row, IS THE sha256 OF THE DUMP (.gsa) THAT YtngkdpiajikcjaaProg.lean LOADS. Nothing in Lean hashes anything: it is a label: what it is worth is what the hold of that sum in a sandbox is worth. -/
noncomputable def Try.pinned : Pinned := { name := "ytngkdpiajikcjaa", sum := "747f98bb6f85705faa9ac937d23c8db76b3310df9fb8b9f56aa6d0dd828ee72b", checked := Try.checked }
namespace Rows
def none {H : Type} : Left H := { results := [], args := [] }

/-- 'whelklaw18.DeltaAny': WHATEVER THE INPUT: true; the input reads as it did. -/
def deltaAnySpec : ChangeSpec := { name := "deltaAny", fn := fun _ => fun
  | [d1, d2] => { results := [.lit (.bool true)], args := [d1, d2] }
  | _ => none }
def deltaAnyRow : OpenClaim := { program := "ytngkdpiajikcjaa", sum := "747f98bb6f85705faa9ac937d23c8db76b3310df9fb8b9f56aa6d0dd828ee72b", func := "whelk/whelklaw18.DeltaAny", spec := "deltaAny", unfollowed := true, recurses := true, apart := false }
def DeltaAnySaid : Prop := deltaAnyRow.holds Try.pinned (OpenSpec.ofChange deltaAnySpec)

/-- ITS FALSE NEIGHBOUR: 'it returns false'. Refute it at one input. -/
def deltaAnyWrong : ChangeSpec := { name := "deltaAny", fn := fun _ => fun
  | [d1, d2] => { results := [.lit (.bool false)], args := [d1, d2] }
  | _ => none }
def DeltaAnyWrongFalsely : Prop := deltaAnyRow.holds Try.pinned (OpenSpec.ofChange deltaAnyWrong)

/-- 'whelklaw18.DeltaMerges': WHATEVER THE INPUT: true; the input reads as it did. -/
def deltaMergesSpec : ChangeSpec := { name := "deltaMerges", fn := fun _ => fun
  | [d] => { results := [.lit (.bool true)], args := [d] }
  | _ => none }
def deltaMergesRow : OpenClaim := { program := "ytngkdpiajikcjaa", sum := "747f98bb6f85705faa9ac937d23c8db76b3310df9fb8b9f56aa6d0dd828ee72b", func := "whelk/whelklaw18.DeltaMerges", spec := "deltaMerges", unfollowed := true, recurses := true, apart := false }
def DeltaMergesSaid : Prop := deltaMergesRow.holds Try.pinned (OpenSpec.ofChange deltaMergesSpec)

/-- ITS FALSE NEIGHBOUR: 'it returns false'. Refute it at one input. -/
def deltaMergesWrong : ChangeSpec := { name := "deltaMerges", fn := fun _ => fun
  | [d] => { results := [.lit (.bool false)], args := [d] }
  | _ => none }
def DeltaMergesWrongFalsely : Prop := deltaMergesRow.holds Try.pinned (OpenSpec.ofChange deltaMergesWrong)

/-- 'whelklaw18.DeltaTurns': WHATEVER THE INPUT: true; the input reads as it did. -/
def deltaTurnsSpec : ChangeSpec := { name := "deltaTurns", fn := fun _ => fun
  | [d1, d2] => { results := [.lit (.bool true)], args := [d1, d2] }
  | _ => none }
def deltaTurnsRow : OpenClaim := { program := "ytngkdpiajikcjaa", sum := "747f98bb6f85705faa9ac937d23c8db76b3310df9fb8b9f56aa6d0dd828ee72b", func := "whelk/whelklaw18.DeltaTurns", spec := "deltaTurns", unfollowed := true, recurses := true, apart := false }
def DeltaTurnsSaid : Prop := deltaTurnsRow.holds Try.pinned (OpenSpec.ofChange deltaTurnsSpec)

/-- ITS FALSE NEIGHBOUR: 'it returns false'. Refute it at one input. -/
def deltaTurnsWrong : ChangeSpec := { name := "deltaTurns", fn := fun _ => fun
  | [d1, d2] => { results := [.lit (.bool false)], args := [d1, d2] }
  | _ => none }
def DeltaTurnsWrongFalsely : Prop := deltaTurnsRow.holds Try.pinned (OpenSpec.ofChange deltaTurnsWrong)

/- THE SECOND FORM. 'bulk': how many values and letters a reading holds, each counted each time it is reached (what is shared counts as often as it is met; a slice's spare places count too). A statement '..UptoSaid' is the law's where the arguments, and the package variables that the reading takes, are together of bulk at most 1048576: NARROWER than '..Said'. Prove '..Said' where nothing that the law and all that it calls make is longer than what came in: it says more and counts as full. Else prove '..UptoSaid'. A law counts once. -/
mutual
def uptoBulk {H : Type} : DataW H → Nat
  | .lit (.string bytes) => bytes.length + 1
  | .lit _ => 1
  | .nil => 1
  | .ptr d => uptoBulk d + 1
  | .slice elems spare => uptoBulkAll elems + uptoBulkAll spare + 1
  | .agg parts => uptoBulkAll parts + 1
  | .iface _ d => uptoBulk d + 1
  | .map entries => uptoBulkEntries entries + 1
  | .held _ => 1
def uptoBulkAll {H : Type} : List (DataW H) → Nat
  | [] => 0
  | d :: r => uptoBulk d + uptoBulkAll r
def uptoBulkEntries {H : Type} : List (Lit × DataW H) → Nat
  | [] => 0
  | x :: r => uptoBulkEntry x + uptoBulkEntries r
def uptoBulkEntry {H : Type} : Lit × DataW H → Nat
  | (.string bytes, d) => bytes.length + uptoBulk d + 1
  | (_, d) => uptoBulk d + 1
 end
def uptoSmall : (H : Type) → List (DataW H) → Bool := fun _ ds => decide (uptoBulkAll ds ≤ 1048576)
def OpenSpec.upto (s : _root_.Go.ChangeSpec) : _root_.Go.OpenSpec := { _root_.Go.OpenSpec.ofChange s with cond := some uptoSmall }

/-- 'whelklaw18.DeltaAny', WHERE WHAT IT READS IS OF BULK AT MOST 1048576: true; the input reads as it did. -/
def deltaAnyUptoRow : OpenClaim := { program := "ytngkdpiajikcjaa", sum := "747f98bb6f85705faa9ac937d23c8db76b3310df9fb8b9f56aa6d0dd828ee72b", func := "whelk/whelklaw18.DeltaAny", spec := "deltaAny", unfollowed := true, recurses := true, apart := false, narrowed := true }
def DeltaAnyUptoSaid : Prop := deltaAnyUptoRow.holds Try.pinned (OpenSpec.upto deltaAnySpec)

/-- 'whelklaw18.DeltaMerges', WHERE WHAT IT READS IS OF BULK AT MOST 1048576: true; the input reads as it did. -/
def deltaMergesUptoRow : OpenClaim := { program := "ytngkdpiajikcjaa", sum := "747f98bb6f85705faa9ac937d23c8db76b3310df9fb8b9f56aa6d0dd828ee72b", func := "whelk/whelklaw18.DeltaMerges", spec := "deltaMerges", unfollowed := true, recurses := true, apart := false, narrowed := true }
def DeltaMergesUptoSaid : Prop := deltaMergesUptoRow.holds Try.pinned (OpenSpec.upto deltaMergesSpec)

/-- 'whelklaw18.DeltaTurns', WHERE WHAT IT READS IS OF BULK AT MOST 1048576: true; the input reads as it did. -/
def deltaTurnsUptoRow : OpenClaim := { program := "ytngkdpiajikcjaa", sum := "747f98bb6f85705faa9ac937d23c8db76b3310df9fb8b9f56aa6d0dd828ee72b", func := "whelk/whelklaw18.DeltaTurns", spec := "deltaTurns", unfollowed := true, recurses := true, apart := false, narrowed := true }
def DeltaTurnsUptoSaid : Prop := deltaTurnsUptoRow.holds Try.pinned (OpenSpec.upto deltaTurnsSpec)

end Rows
end Go.Proofs.Ytngkdpiajikcjaa
