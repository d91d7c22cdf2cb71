/- A part of the proof of this folder's statement; it has no condition of its own. -/
import Derived.Test.YtdhhaipppjgicaaGreatDoorPeLaw
import Derived.Test.YtdhhaipppjgicaaGreatDoorPatfBy
import Derived.Stop.LaidErr
import Derived.Test.YtdhhaipppjgicaaGreatDoorCards
import Derived.Test.YtdhhaipppjgicaaGreatDoorTie
import Derived.Deep.DeepHandedRow
import Derived.Deep.DeepWitnessRowRef
import Derived.Lib.LaidTab
import Derived.LaidHandle
import Derived.ProofKit
import Derived.SizedLaws
set_option maxRecDepth 1000000
set_option linter.unusedVariables false
namespace Go.Proofs.YtdhhaipppjgicaaGreatDoorPe.Patf
open Go Go.Proofs Go.Proofs.YtdhhaipppjgicaaGreatDoor Go.RowKit Go.ChangeShapes Go.WideShapes Go.ChangeAt Go.Proofs.YtdhhaipppjgicaaGreatDoorPe Go.Proofs.YtdhhaipppjgicaaGreatDoorPe.PatfCode
theorem own:ownKnob Tryz.prog.godebug=none:=by kernel_rfl
theorem laidOut:laidOutB Tryz.prog=true:=by kernel_rfl
def tabOf:DataW Unit->Array Value
 |.agg l=>(l.map fun
  |.lit (.int k n)=>Value.int k n
  |_=>Go.undef).toArray
 |_ => #[]
noncomputable def laidWorld (os:Os):World :=
 let w0:=World.holding Tryz.prog os ⟨#[],#[],[]⟩
 let put (h:Array Obj) (n:String) (d:DataW Unit):Array Obj:=h.modify ((Tryz.prog.globalNamed n).getD 0) fun
  |.cells _ t frozen=>.cells (tabOf d) t frozen
  |o=>o
 let h1 := put w0.heap "math/bits.deBruijn32tab" Rows.laid_math_bits_deBruijn32tab
 let h2 := put h1 "math/bits.deBruijn64tab" Rows.laid_math_bits_deBruijn64tab
 let h3 := put h2 "internal/strconv.uint64pow10" Rows.laid_internal_strconv_uint64pow10
 { w0 with heap:=h3 }
theorem tab_of {W : World} (h : laidMet Tryz.prog Rows.patTwiceRow.laid W) : Lib.TabIs Tryz.prog W "internal/strconv.uint64pow10" .u64 Lib.pow10Tab := by
 have h3 : laidMet Tryz.prog [("internal/strconv.uint64pow10", Rows.laid_internal_strconv_uint64pow10)] W := laidMet.tail (laidMet.tail h)
 have e:(Rows.laid_internal_strconv_uint64pow10:DataW Unit)=Lib.tabData .u64 Lib.pow10Tab:=by kernel_rfl
 rw[e] at h3
 exact Lib.tabIs_of_head (g:=2) (t:=275) (e:=232) (n:=20) (by kernel_rfl) (by kernel_rfl) (by kernel_rfl) (by kernel_rfl) (by kernel_rfl) (by kernel_rfl) h3
theorem lift {f:FuncId} {xs:List PV} (h : ∃ st',callE efns given f xs ⟨[],[],[],[]⟩=some (.bool true,st')) : ∃ st',call (fnsOf Tryz.prog sh rows) given f xs ⟨[],[],[],[]⟩=some (.bool true,st'):=by
 obtain⟨st',h⟩:=h
 refine⟨st',callE_le efns given ?_ _ _ _ _ h⟩
 rw[<- efns_eq]
 exact rows_ok.eok
theorem fits2:Fits Tryz.prog (.int .i64) 2:=show Tryz.prog.underlying 2=some (.int .i64) by kernel_rfl
theorem fits4:Fits Tryz.prog (.bool) 4:=show Tryz.prog.underlying 4=some (.bool) by kernel_rfl
end Go.Proofs.YtdhhaipppjgicaaGreatDoorPe.Patf
