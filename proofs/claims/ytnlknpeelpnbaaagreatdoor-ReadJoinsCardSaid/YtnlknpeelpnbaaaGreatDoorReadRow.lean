/- A part of the proof of this folder's statement; it has no condition of its own. -/
import Derived.Test.YtnlknpeelpnbaaaGreatDoorPeLaw
import Derived.Test.YtnlknpeelpnbaaaGreatDoorReadBy
import Derived.Stop.LaidErr
import Derived.Test.YtnlknpeelpnbaaaGreatDoorCards
import Derived.Test.YtnlknpeelpnbaaaGreatDoorTie
import Derived.Deep.DeepHandedRow
import Derived.Deep.DeepWitnessRowRef
import Derived.Lib.LaidTab
import Derived.LaidHandle
import Derived.ProofKit
import Derived.SizedLaws
set_option maxRecDepth 1000000
set_option linter.unusedVariables false
namespace Go.Proofs.YtnlknpeelpnbaaaGreatDoorPe.Read
open Go Go.Proofs Go.Proofs.YtnlknpeelpnbaaaGreatDoor Go.RowKit Go.ChangeShapes Go.WideShapes Go.ChangeAt Go.Proofs.YtnlknpeelpnbaaaGreatDoorPe Go.Proofs.YtnlknpeelpnbaaaGreatDoorPe.ReadCode
theorem own:ownKnob Tryz.prog.godebug=none:=by kernel_rfl
theorem laidOut:laidOutB Tryz.prog=true:=by kernel_rfl
def tabOf:DataW Unit->Array Value
 |.agg l=>(l.map fun
  |.lit (.int k n)=>Value.int k n
  |_=>Go.undef).toArray
 |_ => #[]
noncomputable def laidWorld (os:Os):World :=
 let w0:=World.holding Tryz.prog os ⟨#[],#[],[]⟩
 let put (h:Array Obj) (n:String) (d:DataW Unit):Array Obj:=h.modify ((Tryz.prog.globalNamed n).getD 0) fun
  |.cells _ t frozen=>.cells (tabOf d) t frozen
  |o=>o
 let h1 := put w0.heap "math/bits.deBruijn32tab" Rows.laid_math_bits_deBruijn32tab
 let h2 := put h1 "math/bits.deBruijn64tab" Rows.laid_math_bits_deBruijn64tab
 let h3 := put h2 "internal/strconv.uint64pow10" Rows.laid_internal_strconv_uint64pow10
 let hh := h3.modify ((Tryz.prog.globalNamed "errors.errorType").getD 0) fun
  |.cells _ t frozen=>.cells #[.iface 149 (.agg #[.pointer (some ⟨5,26,none⟩)])] t frozen
  |o=>o
 { w0 with heap:=hh }
theorem et : Tryz.prog.globalNamed "errors.errorType" = some 0 := by kernel_rfl
theorem rt : (Tryz.prog.cutTypes.find? (·.1 == "internal/reflectlite.rtype")).map (·.2) = some 149 := by kernel_rfl
theorem oneRow:((List.range 223).filter fun t=>Tryz.prog.rowNamed t [101,114,114,111,114])=[26]:=by kernel_rfl
theorem ntypes:Tryz.prog.types.size=223:=by kernel_rfl
theorem laid_halves {W : World} (h : laidMetH Tryz.prog Rows.readBytesRow.laid W) : laidMet Tryz.prog [("math/bits.deBruijn32tab", Rows.laid_math_bits_deBruijn32tab), ("math/bits.deBruijn64tab", Rows.laid_math_bits_deBruijn64tab), ("internal/strconv.uint64pow10", Rows.laid_internal_strconv_uint64pow10)] W /\ handlesMet Tryz.prog [("errors.errorType", Rows.laid_errors_errorType)] W := h
theorem handle_of {W:World} (h:laidMetH Tryz.prog Rows.readBytesRow.laid W):W.cell? ⟨0,0,none⟩=some Errs.typeCell:=by
 obtain⟨name,u,ty,e1,e2,e3,e4,e5⟩:=(laid_halves h).2 _ (List.mem_singleton.2 rfl)
 have en:name=[101,114,114,111,114]:=(Option.some.inj e1).symm
 subst en
 obtain rfl:=Option.some.inj (rt.symm.trans e2)
 have hm:ty∈(List.range 223).filter fun t=>Tryz.prog.rowNamed t [101,114,114,111,114]:=List.mem_filter.2 ⟨List.mem_range.2 (by rw[<- ntypes]; exact e3),e4⟩
 rw[oneRow] at hm
 obtain rfl:=List.mem_singleton.1 hm
 have hh:typeHandle Tryz.prog 26 = .pointer (some ⟨5,26,none⟩):=by kernel_rfl
 rw[hh] at e5
 simpa using World.var?_cell et e5 0
theorem tab_of {W : World} (h : laidMetH Tryz.prog Rows.readBytesRow.laid W) : Lib.TabIs Tryz.prog W "internal/strconv.uint64pow10" .u64 Lib.pow10Tab := by
 have h3 : laidMet Tryz.prog [("internal/strconv.uint64pow10", Rows.laid_internal_strconv_uint64pow10)] W := laidMet.tail (laidMet.tail (laid_halves h).1)
 have e:(Rows.laid_internal_strconv_uint64pow10:DataW Unit)=Lib.tabData .u64 Lib.pow10Tab:=by kernel_rfl
 rw[e] at h3
 exact Lib.tabIs_of_head (g:=2) (t:=185) (e:=146) (n:=20) (by kernel_rfl) (by kernel_rfl) (by kernel_rfl) (by kernel_rfl) (by kernel_rfl) (by kernel_rfl) h3
theorem lift {f:FuncId} {xs:List PV} (h : ∃ st',callE efns given f xs ⟨[],[],[],[]⟩=some (.bool true,st')) : ∃ st',call (fnsOf Tryz.prog sh rows) given f xs ⟨[],[],[],[]⟩=some (.bool true,st'):=by
 obtain⟨st',h⟩:=h
 refine⟨st',callE_le efns given ?_ _ _ _ _ h⟩
 rw[<- efns_eq]
 exact rows_ok.eok
theorem in8 {n:Int} (h:(Lit.int .u8 n).wf=true):0<=n/\n<=255:=by
 simp only[Lit.wf,Bool.and_eq_true,decide_eq_true_eq] at h
 have h1:IntKind.u8.min=0:=by decide
 have h2:IntKind.u8.max=255:=by decide
 omega
theorem fits5:Fits Tryz.prog (.int .u8) 5:=show Tryz.prog.underlying 5=some (.int .u8) by kernel_rfl
theorem fits22:Fits Tryz.prog (.sl (.int .u8)) 22:=⟨5,by kernel_rfl,by kernel_rfl,fits5⟩
theorem typedB {x:PV} (h:Typed (.sl (.int .u8)) x) : ∃ b,x = .lst (byts b):=by
 obtain⟨l,rfl,hm,hl⟩:=h
 clear hm
 suffices ∃ b,l=byts b by
  obtain⟨b,rfl⟩:=this
  exact⟨b,rfl⟩
 induction l with
 |nil=>exact⟨[],rfl⟩
 |cons y l ih =>
  obtain⟨b,rfl⟩:=ih fun z hz=>hl z (List.mem_cons.2 (.inr hz))
  obtain⟨n,rfl,h⟩:=hl y (List.mem_cons.2 (.inl rfl))
  have:=in8 h
  refine⟨UInt8.ofNat n.toNat::b,?_⟩
  have e:(((UInt8.ofNat n.toNat).toNat:Nat):Int)=n:=by rw[UInt8.toNat_ofNat']; omega
  show _=PV.int .u8 (((UInt8.ofNat n.toNat).toNat:Nat):Int)::byts b
  rw[e]
end Go.Proofs.YtnlknpeelpnbaaaGreatDoorPe.Read
