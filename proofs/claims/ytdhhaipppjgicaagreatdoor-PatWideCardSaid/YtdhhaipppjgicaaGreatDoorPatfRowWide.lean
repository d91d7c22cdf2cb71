/- PatWideCardSaid: the given statement holds of the given program at every input; its conditions are those that stand in the statement itself. -/
import Derived.Test.YtdhhaipppjgicaaGreatDoorPatfRow
import Derived.Test.YtdhhaipppjgicaaGreatDoorPatfTm
set_option maxRecDepth 1000000
set_option linter.unusedVariables false
namespace Go.Proofs.YtdhhaipppjgicaaGreatDoorPe.Patf
open Go Go.Proofs Go.Proofs.YtdhhaipppjgicaaGreatDoor Go.RowKit Go.ChangeShapes Go.WideShapes Go.ChangeAt Go.Proofs.YtdhhaipppjgicaaGreatDoorPe Go.Proofs.YtdhhaipppjgicaaGreatDoorPe.PatfCode
theorem wide_call : ∀ xs,TypedAll [.st3 (.int .i64) .str (.sl (.st3 (.int .i64) (.int .i64) .str)),.int .u8] xs -> ∃ st',call (fnsOf Tryz.prog sh rows) given 5 xs ⟨[],[],[],[]⟩=some (.bool true,st'):=by
 intro xs h
 obtain⟨x,y,rfl,hx,⟨n,rfl,hn⟩⟩:=typed2 h
 obtain⟨f,rfl,hf⟩:=typedF hx
 have h1:=in8 hn
 exact lift (wide_law f n h1.1).ex
theorem wide_witness (os:Os) {H:Type} (enc:TypeId × Value->H) :
  (OpenSpec.ofChange Rows.patWideSpec).preRow enc Tryz.prog Tryz.f5 Rows.patWideRow.domain false Rows.patWideRow.laid ((laidWorld os).forCall (fun _ _=>0) ⟨#[],#[.agg #[.int .i64 0,.string ⟨⟨[]⟩⟩,.slice none 0 0],.int .u8 0],[]⟩).memory #[.agg #[.int .i64 0,.string ⟨⟨[]⟩⟩,.slice none 0 0],.int .u8 0]:=by
 have hw:(DataW.whole enc Tryz.prog ((laidWorld os).forCall (fun _ _=>0) ⟨#[],#[.agg #[.int .i64 0,.string ⟨⟨[]⟩⟩,.slice none 0 0],.int .u8 0],[]⟩).memory Tryz.f5.params.toList (OpenSpec.ofChange Rows.patWideSpec).vars false (#[.agg #[.int .i64 0,.string ⟨⟨[]⟩⟩,.slice none 0 0],.int .u8 0]:Array Value).toList 8).map (fun x=>(x.1,x.2.1)) =
   some ([.agg [.lit (.int .i64 0),.lit (.string []),.nil],.lit (.int .u8 0)],[]):=by kernel_rfl
 obtain⟨⟨x1,x2,x3⟩,hx,hx1⟩:=Option.map_eq_some_iff.1 hw
 simp only[Prod.mk.injEq] at hx1
 obtain⟨rfl,rfl⟩:=hx1
 exact OpenSpec.preRow_of_cond 8 hx (by kernel_rfl) (fun k hk=>by cases hk) (by kernel_rfl) (laidMet_of_run' 8 (by kernel_rfl) (by kernel_rfl))
theorem wide_lifted (os:Os) (started:os.Started) (H:Type) (enc:TypeId × Value->H) (F:Stop.Interp) :
  ReturnsInHanded {} Tryz.checked os 5 .any ((OpenSpec.ofChange Rows.patWideSpec).preRow enc Tryz.prog Tryz.f5 Rows.patWideRow.domain false Rows.patWideRow.laid) (((OpenSpec.ofChange Rows.patWideSpec).at F).post enc Tryz.prog Tryz.f5 false true false false):=by
 refine returnsInHanded_of_row (C:=Tryz.checked) (s:=OpenSpec.ofChange Rows.patWideSpec) own started (by kernel_rfl) g5
  (witness_row_atRef (enc:=enc) (C:=Tryz.checked) false (laidWorld os) #[.agg #[.int .i64 0,.string ⟨⟨[]⟩⟩,.slice none 0 0],.int .u8 0] rfl (by kernel_rfl) (by kernel_rfl) (by kernel_rfl) (wide_witness os enc)) ?_
 intro W base args ds gs before hval hW _ _ _ hL _ _
 refine law_contract (ss:=[.st3 (.int .i64) .str (.sl (.st3 (.int .i64) (.int .i64) .str)),.int .u8]) (tb:=4) follows_ok rows_ok.fok laidOut rfl ?_ ?_ (by kernel_rfl) (by kernel_rfl) ?_ wide_call (given_ok (tab_of hL)) hval hW
 ·exact⟨fits25,fits5,trivial⟩
 ·intro t ht
  have h:Tryz.f5.params.toList=[25,5]:=by kernel_rfl
  rw[h] at ht
  simp only[List.mem_cons,List.not_mem_nil,or_false] at ht
  rcases ht with rfl|rfl <;> exact⟨by kernel_rfl,of_decide_eq_true (by kernel_rfl)⟩
 ·intro ds hd
  match ds,hd with
  |[d0,d1],_=>rfl
theorem wide_holds:Rows.PatWideSaid :=
 OpenClaim.holds_of_cond 5 Tryz.f5 rfl rfl rfl rfl rfl rfl rfl ⟨rfl,rfl,rfl,rfl,rfl⟩ rfl rfl rfl rfl rfl (by kernel_rfl) g5 (by kernel_rfl)
  (of_decide_eq_true (by kernel_rfl)) (by unfold Func.isWrapper; rw[if_neg (of_decide_eq_false (by kernel_rfl))]; exact⟨rfl,rfl⟩)
  (fun os started H enc _ F0=>by rw[OpenClaim.pre_eq_preRow]; exact wide_lifted os started H enc F0)
theorem wide_card:Rows.PatWideCardSaid :=
 Claim7.holds_tied_plain_at .later [] [.data, .data, .data] true (true, "ff3e90d03d992cba68c06b3ea811042610df50b467eaef3c2e22e9bfb45be4c9") true
  wide_holds (fun _ h=>by cases h) (by kernel_rfl) (fun _ h=>by cases h) patWide_row_tie rfl ⟨rfl,rfl⟩ (by kernel_rfl) rfl
  (fun f fn hf hfn=>by
   obtain rfl : f = 5 := Option.some.inj ((show Tryz.prog.funcNamed "whelk/whelklaw11.PatWide" = some 5 by kernel_rfl).symm.trans hf) |>.symm
   obtain rfl:fn=Tryz.f5:=(Option.some.inj (g5.symm.trans hfn)).symm
   exact⟨by kernel_rfl,fun j t ht=>by
    have hp:Tryz.f5.params = #[25,5]:=by kernel_rfl
    rw[hp] at ht
    have h3:t∈([25,5]:List TypeId):=by
     have:=List.mem_of_getElem? (l:=[25,5]) (i:=j) (a:=t) (by simpa using ht)
     exact this
    simp only[List.mem_cons,List.not_mem_nil,or_false] at h3
    rcases h3 with rfl|rfl <;> exact (show Tryz.prog.wantsStandIn _=false by kernel_rfl)⟩)
  (by kernel_rfl)
end Go.Proofs.YtdhhaipppjgicaaGreatDoorPe.Patf
namespace Go.Proofs.YtdhhaipppjgicaaGreatDoor
theorem patWide_proved:Rows.PatWideCardSaid:=Go.Proofs.YtdhhaipppjgicaaGreatDoorPe.Patf.wide_card
end Go.Proofs.YtdhhaipppjgicaaGreatDoor
