/- PatTwiceCardSaid: the given statement holds of the given program at every input; its conditions are those that stand in the statement itself. -/
import Derived.Test.YtdhhaipppjgicaaGreatDoorPatfRow
import Derived.Test.YtdhhaipppjgicaaGreatDoorPatfTm
set_option maxRecDepth 1000000
set_option linter.unusedVariables false
namespace Go.Proofs.YtdhhaipppjgicaaGreatDoorPe.Patf
open Go Go.Proofs Go.Proofs.YtdhhaipppjgicaaGreatDoor Go.RowKit Go.ChangeShapes Go.WideShapes Go.ChangeAt Go.Proofs.YtdhhaipppjgicaaGreatDoorPe Go.Proofs.YtdhhaipppjgicaaGreatDoorPe.PatfCode
theorem twice_call : ∀ xs,TypedAll [.int .i64,.int .i64,.bool] xs -> ∃ st',call (fnsOf Tryz.prog sh rows) given 4 xs ⟨[],[],[],[]⟩=some (.bool true,st'):=by
 intro xs h
 obtain⟨x,y,z,rfl,⟨a,rfl,ha⟩,⟨b,rfl,hb⟩,⟨c,rfl⟩⟩:=typed3 h
 exact lift (twice_law a b c).ex
theorem twice_witness (os:Os) {H:Type} (enc:TypeId × Value->H) :
  (OpenSpec.ofChange Rows.patTwiceSpec).preRow enc Tryz.prog Tryz.f4 Rows.patTwiceRow.domain false Rows.patTwiceRow.laid ((laidWorld os).forCall (fun _ _=>0) ⟨#[],#[.int .i64 0,.int .i64 0,.bool false],[]⟩).memory #[.int .i64 0,.int .i64 0,.bool false]:=by
 have hw:(DataW.whole enc Tryz.prog ((laidWorld os).forCall (fun _ _=>0) ⟨#[],#[.int .i64 0,.int .i64 0,.bool false],[]⟩).memory Tryz.f4.params.toList (OpenSpec.ofChange Rows.patTwiceSpec).vars false (#[.int .i64 0,.int .i64 0,.bool false]:Array Value).toList 8).map (fun x=>(x.1,x.2.1)) =
   some ([.lit (.int .i64 0),.lit (.int .i64 0),.lit (.bool false)],[]):=by kernel_rfl
 obtain⟨⟨x1,x2,x3⟩,hx,hx1⟩:=Option.map_eq_some_iff.1 hw
 simp only[Prod.mk.injEq] at hx1
 obtain⟨rfl,rfl⟩:=hx1
 exact OpenSpec.preRow_of_cond 8 hx (by kernel_rfl) (fun k hk=>by cases hk) (by kernel_rfl) (laidMet_of_run' 8 (by kernel_rfl) (by kernel_rfl))
theorem twice_lifted (os:Os) (started:os.Started) (H:Type) (enc:TypeId × Value->H) (F:Stop.Interp) :
  ReturnsInHanded {} Tryz.checked os 4 .any ((OpenSpec.ofChange Rows.patTwiceSpec).preRow enc Tryz.prog Tryz.f4 Rows.patTwiceRow.domain false Rows.patTwiceRow.laid) (((OpenSpec.ofChange Rows.patTwiceSpec).at F).post enc Tryz.prog Tryz.f4 false true false false):=by
 refine returnsInHanded_of_row (C:=Tryz.checked) (s:=OpenSpec.ofChange Rows.patTwiceSpec) own started (by kernel_rfl) g4
  (witness_row_atRef (enc:=enc) (C:=Tryz.checked) false (laidWorld os) #[.int .i64 0,.int .i64 0,.bool false] rfl (by kernel_rfl) (by kernel_rfl) (by kernel_rfl) (twice_witness os enc)) ?_
 intro W base args ds gs before hval hW _ _ _ hL _ _
 refine law_contract (ss:=[.int .i64,.int .i64,.bool]) (tb:=4) follows_ok rows_ok.fok laidOut rfl ?_ ?_ (by kernel_rfl) (by kernel_rfl) ?_ twice_call (given_ok (tab_of hL)) hval hW
 ·exact⟨fits2,fits2,fits4,trivial⟩
 ·intro t ht
  have h:Tryz.f4.params.toList=[2,2,4]:=by kernel_rfl
  rw[h] at ht
  simp only[List.mem_cons,List.not_mem_nil,or_false] at ht
  rcases ht with rfl|rfl|rfl <;> exact⟨by kernel_rfl,of_decide_eq_true (by kernel_rfl)⟩
 ·intro ds hd
  match ds,hd with
  |[d0,d1,d2],_=>rfl
theorem twice_holds:Rows.PatTwiceSaid :=
 OpenClaim.holds_of_cond 4 Tryz.f4 rfl rfl rfl rfl rfl rfl rfl ⟨rfl,rfl,rfl,rfl,rfl⟩ rfl rfl rfl rfl rfl (by kernel_rfl) g4 (by kernel_rfl)
  (of_decide_eq_true (by kernel_rfl)) (by unfold Func.isWrapper; rw[if_neg (of_decide_eq_false (by kernel_rfl))]; exact⟨rfl,rfl⟩)
  (fun os started H enc _ F0=>by rw[OpenClaim.pre_eq_preRow]; exact twice_lifted os started H enc F0)
theorem twice_card:Rows.PatTwiceCardSaid :=
 Claim7.holds_tied_plain_at .later [] [.data, .data, .data] true (true, "ff3e90d03d992cba68c06b3ea811042610df50b467eaef3c2e22e9bfb45be4c9") true
  twice_holds (fun _ h=>by cases h) (by kernel_rfl) (fun _ h=>by cases h) patTwice_row_tie rfl ⟨rfl,rfl⟩ (by kernel_rfl) rfl
  (fun f fn hf hfn=>by
   obtain rfl : f = 4 := Option.some.inj ((show Tryz.prog.funcNamed "whelk/whelklaw11.PatTwice" = some 4 by kernel_rfl).symm.trans hf) |>.symm
   obtain rfl:fn=Tryz.f4:=(Option.some.inj (g4.symm.trans hfn)).symm
   exact⟨by kernel_rfl,fun j t ht=>by
    have hp:Tryz.f4.params = #[2,2,4]:=by kernel_rfl
    rw[hp] at ht
    have h3:t∈([2,2,4]:List TypeId):=by
     have:=List.mem_of_getElem? (l:=[2,2,4]) (i:=j) (a:=t) (by simpa using ht)
     exact this
    simp only[List.mem_cons,List.not_mem_nil,or_false] at h3
    rcases h3 with rfl|rfl|rfl <;> exact (show Tryz.prog.wantsStandIn _=false by kernel_rfl)⟩)
  (by kernel_rfl)
end Go.Proofs.YtdhhaipppjgicaaGreatDoorPe.Patf
namespace Go.Proofs.YtdhhaipppjgicaaGreatDoor
theorem patTwice_proved:Rows.PatTwiceCardSaid:=Go.Proofs.YtdhhaipppjgicaaGreatDoorPe.Patf.twice_card
end Go.Proofs.YtdhhaipppjgicaaGreatDoor
