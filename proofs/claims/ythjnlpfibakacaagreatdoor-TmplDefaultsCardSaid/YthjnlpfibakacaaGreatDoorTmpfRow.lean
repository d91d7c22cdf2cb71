/- A part of the proof of this folder's statement; it has no condition of its own. -/
import Derived.Test.YthjnlpfibakacaaGreatDoorPeLaw
import Derived.Test.YthjnlpfibakacaaGreatDoorTmpfBy
import Derived.Stop.LaidErr
import Derived.Test.YthjnlpfibakacaaGreatDoorCards
import Derived.Test.YthjnlpfibakacaaGreatDoorTie
import Derived.Deep.DeepHandedRow
import Derived.Deep.DeepWitnessRowRef
import Derived.Lib.LaidTab
import Derived.LaidHandle
import Derived.ProofKit
import Derived.SizedLaws
set_option maxRecDepth 1000000
set_option linter.unusedVariables false
namespace Go.Proofs.YthjnlpfibakacaaGreatDoorPe.Tmpf
open Go Go.Proofs Go.Proofs.YthjnlpfibakacaaGreatDoor Go.RowKit Go.ChangeShapes Go.WideShapes Go.ChangeAt Go.Proofs.YthjnlpfibakacaaGreatDoorPe Go.Proofs.YthjnlpfibakacaaGreatDoorPe.TmpfCode
theorem own:ownKnob Tryz.prog.godebug=none:=by kernel_rfl
theorem laidOut:laidOutB Tryz.prog=true:=by kernel_rfl
def tabOf:DataW Unit->Array Value
 |.agg l=>(l.map fun
  |.lit (.int k n)=>Value.int k n
  |_=>Go.undef).toArray
 |_ => #[]
noncomputable def laidWorld (os:Os):World :=
 let w0:=World.holding Tryz.prog os ⟨#[],#[],[]⟩
 let put (h:Array Obj) (n:String) (d:DataW Unit):Array Obj:=h.modify ((Tryz.prog.globalNamed n).getD 0) fun
  |.cells _ t frozen=>.cells (tabOf d) t frozen
  |o=>o
 let h1 := put w0.heap "math/bits.deBruijn32tab" Rows.laid_math_bits_deBruijn32tab
 let h2 := put h1 "math/bits.deBruijn64tab" Rows.laid_math_bits_deBruijn64tab
 let h3 := put h2 "internal/strconv.uint64pow10" Rows.laid_internal_strconv_uint64pow10
 { w0 with heap:=h3 }
theorem tab_of {W : World} (h : laidMet Tryz.prog Rows.tmplFillsRow.laid W) : Lib.TabIs Tryz.prog W "internal/strconv.uint64pow10" .u64 Lib.pow10Tab := by
 have h3 : laidMet Tryz.prog [("internal/strconv.uint64pow10", Rows.laid_internal_strconv_uint64pow10)] W := laidMet.tail (laidMet.tail h)
 have e:(Rows.laid_internal_strconv_uint64pow10:DataW Unit)=Lib.tabData .u64 Lib.pow10Tab:=by kernel_rfl
 rw[e] at h3
 exact Lib.tabIs_of_head (g:=2) (t:=235) (e:=193) (n:=20) (by kernel_rfl) (by kernel_rfl) (by kernel_rfl) (by kernel_rfl) (by kernel_rfl) (by kernel_rfl) h3
theorem lift {f:FuncId} {xs:List PV} (h : ∃ st',callE efns given f xs ⟨[],[],[],[]⟩=some (.bool true,st')) : ∃ st',call (fnsOf Tryz.prog sh rows) given f xs ⟨[],[],[],[]⟩=some (.bool true,st'):=by
 obtain⟨st',h⟩:=h
 refine⟨st',callE_le efns given ?_ _ _ _ _ h⟩
 rw[<- efns_eq]
 exact rows_ok.eok
theorem in64 {n:Int} (h:(Lit.int .i64 n).wf=true):I64 n:=by
 simp only[Lit.wf,Bool.and_eq_true,decide_eq_true_eq] at h
 have h1:IntKind.i64.min = -9223372036854775808:=by decide
 have h2:IntKind.i64.max=9223372036854775807:=by decide
 omega
theorem in8 {n:Int} (h:(Lit.int .u8 n).wf=true):0<=n/\n<=255:=by
 simp only[Lit.wf,Bool.and_eq_true,decide_eq_true_eq] at h
 have h1:IntKind.u8.min=0:=by decide
 have h2:IntKind.u8.max=255:=by decide
 omega
theorem fits5:Fits Tryz.prog (.int .u8) 5:=show Tryz.prog.underlying 5=some (.int .u8) by kernel_rfl
theorem fits41:Fits Tryz.prog (.st3 (.int .i64) (.int .i64) .str) 41:=⟨_,_,_,Tryz.underlying41,⟨rfl,rfl,rfl⟩,⟨by kernel_rfl,by kernel_rfl,by kernel_rfl,by kernel_rfl⟩,⟨rfl,rfl,rfl⟩,(show Tryz.prog.underlying _=some (.int .i64) by kernel_rfl),(show Tryz.prog.underlying _=some (.int .i64) by kernel_rfl),(show Tryz.prog.underlying _=some .string by kernel_rfl)⟩
theorem fits24:Fits Tryz.prog (.sl (.st3 (.int .i64) (.int .i64) .str)) 24:=⟨41,by kernel_rfl,by kernel_rfl,fits41⟩
theorem typedV {x:PV} (h:Typed (.st3 (.int .i64) (.int .i64) .str) x) : ∃ v:Vl,x=v.p/\I64 v.k/\I64 v.i/\v.s.length<=maxLen:=by
 obtain⟨p,q,r,rfl,⟨k,rfl,hk⟩,⟨i,rfl,hi⟩,⟨s,rfl,hs⟩⟩:=h
 exact⟨⟨k,i,s⟩,rfl,in64 hk,in64 hi,hs⟩
theorem typedVs {x:PV} (h:Typed (.sl (.st3 (.int .i64) (.int .i64) .str)) x) : ∃ l:List Vl,x = .lst (l.map Vl.p) /\ ∀ v∈l,I64 v.k/\I64 v.i/\v.s.length<=maxLen:=by
 obtain⟨l,rfl,hm,hl⟩:=h
 clear hm
 suffices ∃ m:List Vl,l=m.map Vl.p /\ ∀ v∈m,I64 v.k/\I64 v.i/\v.s.length<=maxLen by
  obtain⟨m,rfl,h⟩:=this
  exact⟨m,rfl,h⟩
 induction l with
 |nil=>exact⟨[],rfl,fun v hv=>by cases hv⟩
 |cons y l ih =>
  obtain⟨m,rfl,hm⟩:=ih fun z hz=>hl z (List.mem_cons.2 (.inr hz))
  obtain⟨v,rfl,h1,h2,h3⟩:=typedV (hl y (List.mem_cons.2 (.inl rfl)))
  refine⟨v::m,rfl,fun w hw => ?_⟩
  rcases List.mem_cons.1 hw with rfl|hw
  ·exact⟨h1,h2,h3⟩
  ·exact hm w hw
end Go.Proofs.YthjnlpfibakacaaGreatDoorPe.Tmpf
