/- PatMatchesCardSaid: the given statement holds of the given program at every input; its conditions are those that stand in the statement itself. -/
import Derived.Test.YtdhhaipppjgicaaGreatDoorPatfRow
import Derived.Test.YtdhhaipppjgicaaGreatDoorPatfTm
set_option maxRecDepth 1000000
set_option linter.unusedVariables false
namespace Go.Proofs.YtdhhaipppjgicaaGreatDoorPe.Patf
open Go Go.Proofs Go.Proofs.YtdhhaipppjgicaaGreatDoor Go.RowKit Go.ChangeShapes Go.WideShapes Go.ChangeAt Go.Proofs.YtdhhaipppjgicaaGreatDoorPe Go.Proofs.YtdhhaipppjgicaaGreatDoorPe.PatfCode
theorem matches_call : ∀ xs,TypedAllN [false,false,true] [.sl (.int .u8),.st3 (.int .i64) .str (.sl (.st3 (.int .i64) (.int .i64) .str)),.sl (.st13 .str (.st3 (.int .i64) (.int .i64) .str))] xs -> ∃ st',call (fnsOf Tryz.prog sh rows) given 3 xs ⟨[],[],[],[]⟩=some (.bool true,st'):=by
 intro xs h
 obtain⟨x,y,z,rfl,hx,hy,hz⟩:=typedN3 h
 obtain⟨b,rfl⟩:=typedB hx
 obtain⟨f,rfl,hf⟩:=typedF hy
 obtain⟨l,hl,hl2⟩:=typedE hz
 exact lift (matches_law b f hl hf hl2).ex
theorem matches_witness (os:Os) {H:Type} (enc:TypeId × Value->H) :
  (OpenSpec.ofChange Rows.patMatchesSpec).preRow enc Tryz.prog Tryz.f3 Rows.patMatchesRow.domain false Rows.patMatchesRow.laid ((laidWorld os).forCall (fun _ _=>0) ⟨#[],#[.slice none 0 0,.agg #[.int .i64 0,.string ⟨⟨[]⟩⟩,.slice none 0 0],.slice none 0 0],[]⟩).memory #[.slice none 0 0,.agg #[.int .i64 0,.string ⟨⟨[]⟩⟩,.slice none 0 0],.slice none 0 0]:=by
 have hw:(DataW.whole enc Tryz.prog ((laidWorld os).forCall (fun _ _=>0) ⟨#[],#[.slice none 0 0,.agg #[.int .i64 0,.string ⟨⟨[]⟩⟩,.slice none 0 0],.slice none 0 0],[]⟩).memory Tryz.f3.params.toList (OpenSpec.ofChange Rows.patMatchesSpec).vars false (#[.slice none 0 0,.agg #[.int .i64 0,.string ⟨⟨[]⟩⟩,.slice none 0 0],.slice none 0 0]:Array Value).toList 8).map (fun x=>(x.1,x.2.1)) =
   some ([.nil,.agg [.lit (.int .i64 0),.lit (.string []),.nil],.nil],[]):=by kernel_rfl
 obtain⟨⟨x1,x2,x3⟩,hx,hx1⟩:=Option.map_eq_some_iff.1 hw
 simp only[Prod.mk.injEq] at hx1
 obtain⟨rfl,rfl⟩:=hx1
 exact OpenSpec.preRow_of_cond 8 hx (by kernel_rfl) (fun k hk=>by cases hk) (by kernel_rfl) (laidMet_of_run' 8 (by kernel_rfl) (by kernel_rfl))
theorem matches_lifted (os:Os) (started:os.Started) (H:Type) (enc:TypeId × Value->H) (F:Stop.Interp) :
  ReturnsInHanded {} Tryz.checked os 3 .any ((OpenSpec.ofChange Rows.patMatchesSpec).preRow enc Tryz.prog Tryz.f3 Rows.patMatchesRow.domain false Rows.patMatchesRow.laid) (((OpenSpec.ofChange Rows.patMatchesSpec).at F).post enc Tryz.prog Tryz.f3 false true false false):=by
 refine returnsInHanded_of_row (C:=Tryz.checked) (s:=OpenSpec.ofChange Rows.patMatchesSpec) own started (by kernel_rfl) g3
  (witness_row_atRef (enc:=enc) (C:=Tryz.checked) false (laidWorld os) #[.slice none 0 0,.agg #[.int .i64 0,.string ⟨⟨[]⟩⟩,.slice none 0 0],.slice none 0 0] rfl (by kernel_rfl) (by kernel_rfl) (by kernel_rfl) (matches_witness os enc)) ?_
 intro W base args ds gs before hval hW _ _ _ hL _ _
 refine law_contractN [false,false,true] (ss:=[.sl (.int .u8),.st3 (.int .i64) .str (.sl (.st3 (.int .i64) (.int .i64) .str)),.sl (.st13 .str (.st3 (.int .i64) (.int .i64) .str))]) (tb:=4) follows_ok rows_ok.fok laidOut rfl ?_ ?_ (by kernel_rfl) (by kernel_rfl) ?_ rfl matches_call (given_ok (tab_of hL)) hval hW
 ·exact⟨fits22,fits25,fits26,trivial⟩
 ·intro t ht
  have h:Tryz.f3.params.toList=[22,25,26]:=by kernel_rfl
  rw[h] at ht
  simp only[List.mem_cons,List.not_mem_nil,or_false] at ht
  rcases ht with rfl|rfl|rfl <;> exact⟨by kernel_rfl,of_decide_eq_true (by kernel_rfl)⟩
 ·intro ds hd
  match ds,hd with
  |[d0,d1,d2],_=>rfl
theorem matches_holds:Rows.PatMatchesSaid :=
 OpenClaim.holds_of_cond 3 Tryz.f3 rfl rfl rfl rfl rfl rfl rfl ⟨rfl,rfl,rfl,rfl,rfl⟩ rfl rfl rfl rfl rfl (by kernel_rfl) g3 (by kernel_rfl)
  (of_decide_eq_true (by kernel_rfl)) (by unfold Func.isWrapper; rw[if_neg (of_decide_eq_false (by kernel_rfl))]; exact⟨rfl,rfl⟩)
  (fun os started H enc _ F0=>by rw[OpenClaim.pre_eq_preRow]; exact matches_lifted os started H enc F0)
theorem matches_card:Rows.PatMatchesCardSaid :=
 Claim7.holds_tied_plain_at .later [] [.data, .data, .data] true (true, "ff3e90d03d992cba68c06b3ea811042610df50b467eaef3c2e22e9bfb45be4c9") true
  matches_holds (fun _ h=>by cases h) (by kernel_rfl) (fun _ h=>by cases h) patMatches_row_tie rfl ⟨rfl,rfl⟩ (by kernel_rfl) rfl
  (fun f fn hf hfn=>by
   obtain rfl : f = 3 := Option.some.inj ((show Tryz.prog.funcNamed "whelk/whelklaw11.PatMatches" = some 3 by kernel_rfl).symm.trans hf) |>.symm
   obtain rfl:fn=Tryz.f3:=(Option.some.inj (g3.symm.trans hfn)).symm
   exact⟨by kernel_rfl,fun j t ht=>by
    have hp:Tryz.f3.params = #[22,25,26]:=by kernel_rfl
    rw[hp] at ht
    have h3:t∈([22,25,26]:List TypeId):=by
     have:=List.mem_of_getElem? (l:=[22,25,26]) (i:=j) (a:=t) (by simpa using ht)
     exact this
    simp only[List.mem_cons,List.not_mem_nil,or_false] at h3
    rcases h3 with rfl|rfl|rfl <;> exact (show Tryz.prog.wantsStandIn _=false by kernel_rfl)⟩)
  (by kernel_rfl)
end Go.Proofs.YtdhhaipppjgicaaGreatDoorPe.Patf
namespace Go.Proofs.YtdhhaipppjgicaaGreatDoor
theorem patMatches_proved:Rows.PatMatchesCardSaid:=Go.Proofs.YtdhhaipppjgicaaGreatDoorPe.Patf.matches_card
end Go.Proofs.YtdhhaipppjgicaaGreatDoor
