/- ReadFaultsCardSaid: the given statement holds of the given program at every input; its conditions are those that stand in the statement itself. -/
import Derived.Test.YtplcjcdjjppooaaGreatDoorFltRow
import Derived.Test.YtplcjcdjjppooaaGreatDoorFltBy
set_option maxRecDepth 1000000
set_option linter.unusedVariables false
namespace Go.Proofs.YtplcjcdjjppooaaGreatDoorPe.Flt
open Go Go.Proofs Go.Proofs.YtplcjcdjjppooaaGreatDoor Go.RowKit Go.ChangeShapes Go.WideShapes Go.ChangeAt Go.Proofs.YtplcjcdjjppooaaGreatDoorPe Go.Proofs.YtplcjcdjjppooaaGreatDoorPe.FltCode
theorem faults_call : ∀ xs,TypedAll [.sl (.str),.sl (.int .i64),.int .i64] xs -> ∃ st',call (fnsOf Tryz.prog sh rows) given 3 xs ⟨[],[],[],[]⟩=some (.bool true,st'):=by
 intro xs h
 obtain⟨x,y,z,rfl,hx,hy,⟨n,rfl,hn⟩⟩:=typed3 h
 obtain⟨p,rfl⟩:=typedS hx
 obtain⟨l,rfl,hl⟩:=typedI hy
 exact lift (faults_law p l n hl).ex
theorem faults_witness (os:Os) {H:Type} (enc:TypeId × Value->H) :
  (OpenSpec.ofChange Rows.readFaultsSpec).preRow enc Tryz.prog Tryz.f3 Rows.readFaultsRow.domain false Rows.readFaultsRow.laid ((laidWorld os).forCall (fun _ _=>0) ⟨#[],#[.slice none 0 0,.slice none 0 0,.int .i64 0],[]⟩).memory #[.slice none 0 0,.slice none 0 0,.int .i64 0]:=by
 have hw:(DataW.whole enc Tryz.prog ((laidWorld os).forCall (fun _ _=>0) ⟨#[],#[.slice none 0 0,.slice none 0 0,.int .i64 0],[]⟩).memory Tryz.f3.params.toList (OpenSpec.ofChange Rows.readFaultsSpec).vars false (#[.slice none 0 0,.slice none 0 0,.int .i64 0]:Array Value).toList 8).map (fun x=>(x.1,x.2.1)) =
   some ([.nil,.nil,.lit (.int .i64 0)],[]):=by kernel_rfl
 obtain⟨⟨x1,x2,x3⟩,hx,hx1⟩:=Option.map_eq_some_iff.1 hw
 simp only[Prod.mk.injEq] at hx1
 obtain⟨rfl,rfl⟩:=hx1
 exact OpenSpec.preRow_of_cond 8 hx (by kernel_rfl) (fun k hk=>by cases hk) (by kernel_rfl) (laidMetH_of_parts (laidMet_of_run' 8 (by kernel_rfl) (by kernel_rfl)) (by kernel_rfl))
theorem faults_lifted (os:Os) (started:os.Started) (H:Type) (enc:TypeId × Value->H) (F:Stop.Interp) :
  ReturnsInHanded {} Tryz.checked os 3 .any ((OpenSpec.ofChange Rows.readFaultsSpec).preRow enc Tryz.prog Tryz.f3 Rows.readFaultsRow.domain false Rows.readFaultsRow.laid) (((OpenSpec.ofChange Rows.readFaultsSpec).at F).post enc Tryz.prog Tryz.f3 false true false false):=by
 refine returnsInHanded_of_row (C:=Tryz.checked) (s:=OpenSpec.ofChange Rows.readFaultsSpec) own started (by kernel_rfl) g3
  (witness_row_atRef (enc:=enc) (C:=Tryz.checked) false (laidWorld os) #[.slice none 0 0,.slice none 0 0,.int .i64 0] rfl (by kernel_rfl) (by kernel_rfl) (by kernel_rfl) (faults_witness os enc)) ?_
 intro W base args ds gs before hval hW _ _ _ hL _ _
 refine law_contract (ss:=[.sl (.str),.sl (.int .i64),.int .i64]) (tb:=4) follows_ok rows_ok.fok laidOut rfl ?_ ?_ (by kernel_rfl) (by kernel_rfl) ?_ faults_call (given_ok (tab_of hL) (handle_of hL)) hval hW
 ·exact⟨fits22,fits23,fits3,trivial⟩
 ·intro t ht
  have h:Tryz.f3.params.toList=[22,23,3]:=by kernel_rfl
  rw[h] at ht
  simp only[List.mem_cons,List.not_mem_nil,or_false] at ht
  rcases ht with rfl|rfl|rfl <;> exact⟨by kernel_rfl,of_decide_eq_true (by kernel_rfl)⟩
 ·intro ds hd
  match ds,hd with
  |[d0,d1,d2],_=>rfl
theorem faults_holds:Rows.ReadFaultsSaid :=
 OpenClaim.holds_of_cond 3 Tryz.f3 rfl rfl rfl rfl rfl rfl rfl ⟨rfl,rfl,rfl,rfl,rfl⟩ rfl rfl rfl rfl rfl (by kernel_rfl) g3 (by kernel_rfl)
  (of_decide_eq_true (by kernel_rfl)) (by unfold Func.isWrapper; rw[if_neg (of_decide_eq_false (by kernel_rfl))]; exact⟨rfl,rfl⟩)
  (fun os started H enc _ F0=>by rw[OpenClaim.pre_eq_preRow]; exact faults_lifted os started H enc F0)
theorem faults_card:Rows.ReadFaultsCardSaid :=
 Claim7.holds_tied_plain_at .later [] [.data, .data, .data, .handle] true (true, "695f75cd0e133fa7818cf0b29a1f59ce4ef2b9ae147ac4b3604cf9beca4ad375") true
  faults_holds (fun _ h=>by cases h) (by kernel_rfl) (fun _ h=>by cases h) readFaults_row_tie rfl ⟨rfl,rfl⟩ (by kernel_rfl) rfl
  (fun f fn hf hfn=>by
   obtain rfl : f = 3 := Option.some.inj ((show Tryz.prog.funcNamed "whelk/whelklaw5.ReadFaults" = some 3 by kernel_rfl).symm.trans hf) |>.symm
   obtain rfl:fn=Tryz.f3:=(Option.some.inj (g3.symm.trans hfn)).symm
   exact⟨by kernel_rfl,fun j t ht=>by
    have hp:Tryz.f3.params = #[22,23,3]:=by kernel_rfl
    rw[hp] at ht
    have h3:t∈([22,23,3]:List TypeId):=by
     have:=List.mem_of_getElem? (l:=[22,23,3]) (i:=j) (a:=t) (by simpa using ht)
     exact this
    simp only[List.mem_cons,List.not_mem_nil,or_false] at h3
    rcases h3 with rfl|rfl|rfl <;> exact (show Tryz.prog.wantsStandIn _=false by kernel_rfl)⟩)
  (by kernel_rfl)
end Go.Proofs.YtplcjcdjjppooaaGreatDoorPe.Flt
namespace Go.Proofs.YtplcjcdjjppooaaGreatDoor
theorem readFaults_proved:Rows.ReadFaultsCardSaid:=Go.Proofs.YtplcjcdjjppooaaGreatDoorPe.Flt.faults_card
end Go.Proofs.YtplcjcdjjppooaaGreatDoor
