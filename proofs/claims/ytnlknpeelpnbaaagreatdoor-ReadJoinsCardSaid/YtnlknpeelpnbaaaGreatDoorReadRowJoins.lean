/- ReadJoinsCardSaid: the given statement holds of the given program at every input; its conditions are those that stand in the statement itself. -/
import Derived.Test.YtnlknpeelpnbaaaGreatDoorReadRow
import Derived.Test.YtnlknpeelpnbaaaGreatDoorReadJn
set_option maxRecDepth 1000000
set_option linter.unusedVariables false
namespace Go.Proofs.YtnlknpeelpnbaaaGreatDoorPe.Read
open Go Go.Proofs Go.Proofs.YtnlknpeelpnbaaaGreatDoor Go.RowKit Go.ChangeShapes Go.WideShapes Go.ChangeAt Go.Proofs.YtnlknpeelpnbaaaGreatDoorPe Go.Proofs.YtnlknpeelpnbaaaGreatDoorPe.ReadCode
theorem joins_call : ∀ xs,TypedAll [.sl (.int .u8),.sl (.int .u8)] xs -> ∃ st',call (fnsOf Tryz.prog sh rows) given 6 xs ⟨[],[],[],[]⟩=some (.bool true,st'):=by
 intro xs h
 obtain⟨x,y,rfl,hx,hy⟩:=typed2 h
 obtain⟨a,rfl⟩:=typedB hx
 obtain⟨b,rfl⟩:=typedB hy
 exact lift (joins_law a b).ex
theorem joins_witness (os:Os) {H:Type} (enc:TypeId × Value->H) :
  (OpenSpec.ofChange Rows.readJoinsSpec).preRow enc Tryz.prog Tryz.f6 Rows.readJoinsRow.domain false Rows.readJoinsRow.laid ((laidWorld os).forCall (fun _ _=>0) ⟨#[],#[.slice none 0 0,.slice none 0 0],[]⟩).memory #[.slice none 0 0,.slice none 0 0]:=by
 have hw:(DataW.whole enc Tryz.prog ((laidWorld os).forCall (fun _ _=>0) ⟨#[],#[.slice none 0 0,.slice none 0 0],[]⟩).memory Tryz.f6.params.toList (OpenSpec.ofChange Rows.readJoinsSpec).vars false (#[.slice none 0 0,.slice none 0 0]:Array Value).toList 8).map (fun x=>(x.1,x.2.1)) =
   some ([.nil,.nil],[]):=by kernel_rfl
 obtain⟨⟨x1,x2,x3⟩,hx,hx1⟩:=Option.map_eq_some_iff.1 hw
 simp only[Prod.mk.injEq] at hx1
 obtain⟨rfl,rfl⟩:=hx1
 exact OpenSpec.preRow_of_cond 8 hx (by kernel_rfl) (fun k hk=>by cases hk) (by kernel_rfl) (laidMetH_of_parts (laidMet_of_run' 8 (by kernel_rfl) (by kernel_rfl)) (by kernel_rfl))
theorem joins_lifted (os:Os) (started:os.Started) (H:Type) (enc:TypeId × Value->H) (F:Stop.Interp) :
  ReturnsInHanded {} Tryz.checked os 6 .any ((OpenSpec.ofChange Rows.readJoinsSpec).preRow enc Tryz.prog Tryz.f6 Rows.readJoinsRow.domain false Rows.readJoinsRow.laid) (((OpenSpec.ofChange Rows.readJoinsSpec).at F).post enc Tryz.prog Tryz.f6 false true false false):=by
 refine returnsInHanded_of_row (C:=Tryz.checked) (s:=OpenSpec.ofChange Rows.readJoinsSpec) own started (by kernel_rfl) g6
  (witness_row_atRef (enc:=enc) (C:=Tryz.checked) false (laidWorld os) #[.slice none 0 0,.slice none 0 0] rfl (by kernel_rfl) (by kernel_rfl) (by kernel_rfl) (joins_witness os enc)) ?_
 intro W base args ds gs before hval hW _ _ _ hL _ _
 refine law_contract (ss:=[.sl (.int .u8),.sl (.int .u8)]) (tb:=4) follows_ok rows_ok.fok laidOut rfl ?_ ?_ (by kernel_rfl) (by kernel_rfl) ?_ joins_call (given_ok (tab_of hL) (handle_of hL)) hval hW
 ·exact⟨fits22,fits22,trivial⟩
 ·intro t ht
  have h:Tryz.f6.params.toList=[22,22]:=by kernel_rfl
  rw[h] at ht
  simp only[List.mem_cons,List.not_mem_nil,or_false] at ht
  rcases ht with rfl|rfl <;> exact⟨by kernel_rfl,of_decide_eq_true (by kernel_rfl)⟩
 ·intro ds hd
  match ds,hd with
  |[d0,d1],_=>rfl
theorem joins_holds:Rows.ReadJoinsSaid :=
 OpenClaim.holds_of_cond 6 Tryz.f6 rfl rfl rfl rfl rfl rfl rfl ⟨rfl,rfl,rfl,rfl,rfl⟩ rfl rfl rfl rfl rfl (by kernel_rfl) g6 (by kernel_rfl)
  (of_decide_eq_true (by kernel_rfl)) (by unfold Func.isWrapper; rw[if_neg (of_decide_eq_false (by kernel_rfl))]; exact⟨rfl,rfl⟩)
  (fun os started H enc _ F0=>by rw[OpenClaim.pre_eq_preRow]; exact joins_lifted os started H enc F0)
theorem joins_card:Rows.ReadJoinsCardSaid :=
 Claim7.holds_tied_plain_at .later [] [.data, .data, .data, .handle] true (true, "c14aa5727697d8e7bb57567bfbceaaba5a08a6ab9a9dc9cdd49eca58e969f824") true
  joins_holds (fun _ h=>by cases h) (by kernel_rfl) (fun _ h=>by cases h) readJoins_row_tie rfl ⟨rfl,rfl⟩ (by kernel_rfl) rfl
  (fun f fn hf hfn=>by
   obtain rfl : f = 6 := Option.some.inj ((show Tryz.prog.funcNamed "whelk/whelklaw5.ReadJoins" = some 6 by kernel_rfl).symm.trans hf) |>.symm
   obtain rfl:fn=Tryz.f6:=(Option.some.inj (g6.symm.trans hfn)).symm
   exact⟨by kernel_rfl,fun j t ht=>by
    have hp:Tryz.f6.params = #[22,22]:=by kernel_rfl
    rw[hp] at ht
    have h3:t∈([22,22]:List TypeId):=by
     have:=List.mem_of_getElem? (l:=[22,22]) (i:=j) (a:=t) (by simpa using ht)
     exact this
    simp only[List.mem_cons,List.not_mem_nil,or_false] at h3
    rcases h3 with rfl|rfl <;> exact (show Tryz.prog.wantsStandIn _=false by kernel_rfl)⟩)
  (by kernel_rfl)
end Go.Proofs.YtnlknpeelpnbaaaGreatDoorPe.Read
namespace Go.Proofs.YtnlknpeelpnbaaaGreatDoor
theorem readJoins_proved:Rows.ReadJoinsCardSaid:=Go.Proofs.YtnlknpeelpnbaaaGreatDoorPe.Read.joins_card
end Go.Proofs.YtnlknpeelpnbaaaGreatDoor
