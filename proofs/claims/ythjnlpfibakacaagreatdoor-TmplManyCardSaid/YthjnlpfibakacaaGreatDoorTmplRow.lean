/- A part of the proof of this folder's statement; it has no condition of its own. -/
import Derived.Test.YthjnlpfibakacaaGreatDoorPeLaw
import Derived.Test.YthjnlpfibakacaaGreatDoorTmplBy
import Derived.Stop.LaidErr
import Derived.Test.YthjnlpfibakacaaGreatDoorCards
import Derived.Test.YthjnlpfibakacaaGreatDoorTie
import Derived.Deep.DeepHandedRow
import Derived.Deep.DeepWitnessRowRef
import Derived.Lib.LaidTab
import Derived.LaidHandle
import Derived.ProofKit
import Derived.SizedLaws
set_option maxRecDepth 1000000
set_option linter.unusedVariables false
namespace Go.Proofs.YthjnlpfibakacaaGreatDoorPe.Tmpl
open Go Go.Proofs Go.Proofs.YthjnlpfibakacaaGreatDoor Go.RowKit Go.ChangeShapes Go.WideShapes Go.ChangeAt Go.Proofs.YthjnlpfibakacaaGreatDoorPe Go.Proofs.YthjnlpfibakacaaGreatDoorPe.TmplCode
theorem own:ownKnob Tryz.prog.godebug=none:=by kernel_rfl
theorem laidOut:laidOutB Tryz.prog=true:=by kernel_rfl
def tabOf:DataW Unit->Array Value
 |.agg l=>(l.map fun
  |.lit (.int k n)=>Value.int k n
  |_=>Go.undef).toArray
 |_ => #[]
noncomputable def laidWorld (os:Os):World :=
 let w0:=World.holding Tryz.prog os ⟨#[],#[],[]⟩
 let put (h:Array Obj) (n:String) (d:DataW Unit):Array Obj:=h.modify ((Tryz.prog.globalNamed n).getD 0) fun
  |.cells _ t frozen=>.cells (tabOf d) t frozen
  |o=>o
 let h1 := put w0.heap "math/bits.deBruijn32tab" Rows.laid_math_bits_deBruijn32tab
 let h2 := put h1 "math/bits.deBruijn64tab" Rows.laid_math_bits_deBruijn64tab
 let h3 := put h2 "internal/strconv.uint64pow10" Rows.laid_internal_strconv_uint64pow10
 let hh := h3.modify ((Tryz.prog.globalNamed "errors.errorType").getD 0) fun
  |.cells _ t frozen=>.cells #[.iface 197 (.agg #[.pointer (some ⟨5,63,none⟩)])] t frozen
  |o=>o
 { w0 with heap:=hh }
theorem et : Tryz.prog.globalNamed "errors.errorType" = some 0 := by kernel_rfl
theorem rt : (Tryz.prog.cutTypes.find? (·.1 == "internal/reflectlite.rtype")).map (·.2) = some 197 := by kernel_rfl
theorem oneRow:((List.range 272).filter fun t=>Tryz.prog.rowNamed t [101,114,114,111,114])=[63]:=by kernel_rfl
theorem ntypes:Tryz.prog.types.size=272:=by kernel_rfl
theorem laid_halves {W : World} (h : laidMetH Tryz.prog Rows.tmplBytesRow.laid W) : laidMet Tryz.prog [("math/bits.deBruijn32tab", Rows.laid_math_bits_deBruijn32tab), ("math/bits.deBruijn64tab", Rows.laid_math_bits_deBruijn64tab), ("internal/strconv.uint64pow10", Rows.laid_internal_strconv_uint64pow10)] W /\ handlesMet Tryz.prog [("errors.errorType", Rows.laid_errors_errorType)] W := h
theorem handle_of {W:World} (h:laidMetH Tryz.prog Rows.tmplBytesRow.laid W):W.cell? ⟨0,0,none⟩=some Errs.typeCell:=by
 obtain⟨name,u,ty,e1,e2,e3,e4,e5⟩:=(laid_halves h).2 _ (List.mem_singleton.2 rfl)
 have en:name=[101,114,114,111,114]:=(Option.some.inj e1).symm
 subst en
 obtain rfl:=Option.some.inj (rt.symm.trans e2)
 have hm:ty∈(List.range 272).filter fun t=>Tryz.prog.rowNamed t [101,114,114,111,114]:=List.mem_filter.2 ⟨List.mem_range.2 (by rw[<- ntypes]; exact e3),e4⟩
 rw[oneRow] at hm
 obtain rfl:=List.mem_singleton.1 hm
 have hh:typeHandle Tryz.prog 63 = .pointer (some ⟨5,63,none⟩):=by kernel_rfl
 rw[hh] at e5
 simpa using World.var?_cell et e5 0
theorem tab_of {W : World} (h : laidMetH Tryz.prog Rows.tmplBytesRow.laid W) : Lib.TabIs Tryz.prog W "internal/strconv.uint64pow10" .u64 Lib.pow10Tab := by
 have h3 : laidMet Tryz.prog [("internal/strconv.uint64pow10", Rows.laid_internal_strconv_uint64pow10)] W := laidMet.tail (laidMet.tail (laid_halves h).1)
 have e:(Rows.laid_internal_strconv_uint64pow10:DataW Unit)=Lib.tabData .u64 Lib.pow10Tab:=by kernel_rfl
 rw[e] at h3
 exact Lib.tabIs_of_head (g:=2) (t:=235) (e:=193) (n:=20) (by kernel_rfl) (by kernel_rfl) (by kernel_rfl) (by kernel_rfl) (by kernel_rfl) (by kernel_rfl) h3
theorem lift {f:FuncId} {xs:List PV} (h : ∃ st',callE efns given f xs ⟨[],[],[],[]⟩=some (.bool true,st')) : ∃ st',call (fnsOf Tryz.prog sh rows) given f xs ⟨[],[],[],[]⟩=some (.bool true,st'):=by
 obtain⟨st',h⟩:=h
 refine⟨st',callE_le efns given ?_ _ _ _ _ h⟩
 rw[<- efns_eq]
 exact rows_ok.eok
theorem fits3:Fits Tryz.prog (.int .i64) 3:=show Tryz.prog.underlying 3=some (.int .i64) by kernel_rfl
end Go.Proofs.YthjnlpfibakacaaGreatDoorPe.Tmpl
