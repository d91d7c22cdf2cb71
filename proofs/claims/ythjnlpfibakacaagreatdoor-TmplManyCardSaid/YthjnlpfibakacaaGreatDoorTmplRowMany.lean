/- TmplManyCardSaid: the given statement holds of the given program at every input; its conditions are those that stand in the statement itself. -/
import Derived.Test.YthjnlpfibakacaaGreatDoorTmplRow
import Derived.Test.YthjnlpfibakacaaGreatDoorTmplTm
set_option maxRecDepth 1000000
set_option linter.unusedVariables false
namespace Go.Proofs.YthjnlpfibakacaaGreatDoorPe.Tmpl
open Go Go.Proofs Go.Proofs.YthjnlpfibakacaaGreatDoor Go.RowKit Go.ChangeShapes Go.WideShapes Go.ChangeAt Go.Proofs.YthjnlpfibakacaaGreatDoorPe Go.Proofs.YthjnlpfibakacaaGreatDoorPe.TmplCode
theorem many_call : ∀ xs,TypedAll [.int .i64] xs -> ∃ st',call (fnsOf Tryz.prog sh rows) given 6 xs ⟨[],[],[],[]⟩=some (.bool true,st'):=by
 intro xs h
 obtain⟨x,rfl,⟨n,rfl,hn⟩⟩:=typed1 h
 exact lift (many_law n).ex
theorem many_witness (os:Os) {H:Type} (enc:TypeId × Value->H) :
  (OpenSpec.ofChange Rows.tmplManySpec).preRow enc Tryz.prog Tryz.f6 Rows.tmplManyRow.domain false Rows.tmplManyRow.laid ((laidWorld os).forCall (fun _ _=>0) ⟨#[],#[.int .i64 0],[]⟩).memory #[.int .i64 0]:=by
 have hw:(DataW.whole enc Tryz.prog ((laidWorld os).forCall (fun _ _=>0) ⟨#[],#[.int .i64 0],[]⟩).memory Tryz.f6.params.toList (OpenSpec.ofChange Rows.tmplManySpec).vars false (#[.int .i64 0]:Array Value).toList 8).map (fun x=>(x.1,x.2.1)) =
   some ([.lit (.int .i64 0)],[]):=by kernel_rfl
 obtain⟨⟨x1,x2,x3⟩,hx,hx1⟩:=Option.map_eq_some_iff.1 hw
 simp only[Prod.mk.injEq] at hx1
 obtain⟨rfl,rfl⟩:=hx1
 exact OpenSpec.preRow_of_cond 8 hx (by kernel_rfl) (fun k hk=>by cases hk) (by kernel_rfl) (laidMetH_of_parts (laidMet_of_run' 8 (by kernel_rfl) (by kernel_rfl)) (by kernel_rfl))
theorem many_lifted (os:Os) (started:os.Started) (H:Type) (enc:TypeId × Value->H) (F:Stop.Interp) :
  ReturnsInHanded {} Tryz.checked os 6 .any ((OpenSpec.ofChange Rows.tmplManySpec).preRow enc Tryz.prog Tryz.f6 Rows.tmplManyRow.domain false Rows.tmplManyRow.laid) (((OpenSpec.ofChange Rows.tmplManySpec).at F).post enc Tryz.prog Tryz.f6 false true false false):=by
 refine returnsInHanded_of_row (C:=Tryz.checked) (s:=OpenSpec.ofChange Rows.tmplManySpec) own started (by kernel_rfl) g6
  (witness_row_atRef (enc:=enc) (C:=Tryz.checked) false (laidWorld os) #[.int .i64 0] rfl (by kernel_rfl) (by kernel_rfl) (by kernel_rfl) (many_witness os enc)) ?_
 intro W base args ds gs before hval hW _ _ _ hL _ _
 refine law_contract (ss:=[.int .i64]) (tb:=4) follows_ok rows_ok.fok laidOut rfl ?_ ?_ (by kernel_rfl) (by kernel_rfl) ?_ many_call (given_ok (tab_of hL) (handle_of hL)) hval hW
 ·exact⟨fits3,trivial⟩
 ·intro t ht
  have h:Tryz.f6.params.toList=[3]:=by kernel_rfl
  rw[h] at ht
  simp only[List.mem_cons,List.not_mem_nil,or_false] at ht
  subst ht <;> exact⟨by kernel_rfl,of_decide_eq_true (by kernel_rfl)⟩
 ·intro ds hd
  match ds,hd with
  |[d0],_=>rfl
theorem many_holds:Rows.TmplManySaid :=
 OpenClaim.holds_of_cond 6 Tryz.f6 rfl rfl rfl rfl rfl rfl rfl ⟨rfl,rfl,rfl,rfl,rfl⟩ rfl rfl rfl rfl rfl (by kernel_rfl) g6 (by kernel_rfl)
  (of_decide_eq_true (by kernel_rfl)) (by unfold Func.isWrapper; rw[if_neg (of_decide_eq_false (by kernel_rfl))]; exact⟨rfl,rfl⟩)
  (fun os started H enc _ F0=>by rw[OpenClaim.pre_eq_preRow]; exact many_lifted os started H enc F0)
theorem many_card:Rows.TmplManyCardSaid :=
 Claim7.holds_tied_plain_at .later [] [.data, .data, .data, .handle] true (true, "4bdc147249a5a3b61431d1097d4307cf0baa48dbe9e55efd73d3342c654a0b88") true
  many_holds (fun _ h=>by cases h) (by kernel_rfl) (fun _ h=>by cases h) tmplMany_row_tie rfl ⟨rfl,rfl⟩ (by kernel_rfl) rfl
  (fun f fn hf hfn=>by
   obtain rfl : f = 6 := Option.some.inj ((show Tryz.prog.funcNamed "whelk/whelklaw9.TmplMany" = some 6 by kernel_rfl).symm.trans hf) |>.symm
   obtain rfl:fn=Tryz.f6:=(Option.some.inj (g6.symm.trans hfn)).symm
   exact⟨by kernel_rfl,fun j t ht=>by
    have hp:Tryz.f6.params = #[3]:=by kernel_rfl
    rw[hp] at ht
    have h3:t∈([3]:List TypeId):=by
     have:=List.mem_of_getElem? (l:=[3]) (i:=j) (a:=t) (by simpa using ht)
     exact this
    simp only[List.mem_cons,List.not_mem_nil,or_false] at h3
    subst h3 <;> exact (show Tryz.prog.wantsStandIn _=false by kernel_rfl)⟩)
  (by kernel_rfl)
end Go.Proofs.YthjnlpfibakacaaGreatDoorPe.Tmpl
namespace Go.Proofs.YthjnlpfibakacaaGreatDoor
theorem tmplMany_proved:Rows.TmplManyCardSaid:=Go.Proofs.YthjnlpfibakacaaGreatDoorPe.Tmpl.many_card
end Go.Proofs.YthjnlpfibakacaaGreatDoor
