/- TmplDefaultsCardSaid: the given statement holds of the given program at every input; its conditions are those that stand in the statement itself. -/
import Derived.Test.YthjnlpfibakacaaGreatDoorTmpfRow
import Derived.Test.YthjnlpfibakacaaGreatDoorTmpfTx
set_option maxRecDepth 1000000
set_option linter.unusedVariables false
namespace Go.Proofs.YthjnlpfibakacaaGreatDoorPe.Tmpf
open Go Go.Proofs Go.Proofs.YthjnlpfibakacaaGreatDoor Go.RowKit Go.ChangeShapes Go.WideShapes Go.ChangeAt Go.Proofs.YthjnlpfibakacaaGreatDoorPe Go.Proofs.YthjnlpfibakacaaGreatDoorPe.TmpfCode
theorem defaults_call : ∀ xs,TypedAll [.sl (.st3 (.int .i64) (.int .i64) .str),.int .u8,.int .u8] xs -> ∃ st',call (fnsOf Tryz.prog sh rows) given 4 xs ⟨[],[],[],[]⟩=some (.bool true,st'):=by
 intro xs h
 obtain⟨x,y,z,rfl,hx,⟨n,rfl,hn⟩,⟨m,rfl,hm⟩⟩:=typed3 h
 obtain⟨l,rfl,hl⟩:=typedVs hx
 have h1:=in8 hn
 have h2:=in8 hm
 obtain⟨n,rfl⟩ : ∃ k:Nat,n=k:=⟨n.toNat,by omega⟩
 obtain⟨m,rfl⟩ : ∃ k:Nat,m=k:=⟨m.toNat,by omega⟩
 exact lift (defaults_law l n m (by omega) (by omega) hl).ex
theorem defaults_witness (os:Os) {H:Type} (enc:TypeId × Value->H) :
  (OpenSpec.ofChange Rows.tmplDefaultsSpec).preRow enc Tryz.prog Tryz.f4 Rows.tmplDefaultsRow.domain false Rows.tmplDefaultsRow.laid ((laidWorld os).forCall (fun _ _=>0) ⟨#[],#[.slice none 0 0,.int .u8 0,.int .u8 0],[]⟩).memory #[.slice none 0 0,.int .u8 0,.int .u8 0]:=by
 have hw:(DataW.whole enc Tryz.prog ((laidWorld os).forCall (fun _ _=>0) ⟨#[],#[.slice none 0 0,.int .u8 0,.int .u8 0],[]⟩).memory Tryz.f4.params.toList (OpenSpec.ofChange Rows.tmplDefaultsSpec).vars false (#[.slice none 0 0,.int .u8 0,.int .u8 0]:Array Value).toList 8).map (fun x=>(x.1,x.2.1)) =
   some ([.nil,.lit (.int .u8 0),.lit (.int .u8 0)],[]):=by kernel_rfl
 obtain⟨⟨x1,x2,x3⟩,hx,hx1⟩:=Option.map_eq_some_iff.1 hw
 simp only[Prod.mk.injEq] at hx1
 obtain⟨rfl,rfl⟩:=hx1
 exact OpenSpec.preRow_of_cond 8 hx (by kernel_rfl) (fun k hk=>by cases hk) (by kernel_rfl) (laidMet_of_run' 8 (by kernel_rfl) (by kernel_rfl))
theorem defaults_lifted (os:Os) (started:os.Started) (H:Type) (enc:TypeId × Value->H) (F:Stop.Interp) :
  ReturnsInHanded {} Tryz.checked os 4 .any ((OpenSpec.ofChange Rows.tmplDefaultsSpec).preRow enc Tryz.prog Tryz.f4 Rows.tmplDefaultsRow.domain false Rows.tmplDefaultsRow.laid) (((OpenSpec.ofChange Rows.tmplDefaultsSpec).at F).post enc Tryz.prog Tryz.f4 false true false false):=by
 refine returnsInHanded_of_row (C:=Tryz.checked) (s:=OpenSpec.ofChange Rows.tmplDefaultsSpec) own started (by kernel_rfl) g4
  (witness_row_atRef (enc:=enc) (C:=Tryz.checked) false (laidWorld os) #[.slice none 0 0,.int .u8 0,.int .u8 0] rfl (by kernel_rfl) (by kernel_rfl) (by kernel_rfl) (defaults_witness os enc)) ?_
 intro W base args ds gs before hval hW _ _ _ hL _ _
 refine law_contract (ss:=[.sl (.st3 (.int .i64) (.int .i64) .str),.int .u8,.int .u8]) (tb:=4) follows_ok rows_ok.fok laidOut rfl ?_ ?_ (by kernel_rfl) (by kernel_rfl) ?_ defaults_call (given_ok (tab_of hL)) hval hW
 ·exact⟨fits24,fits5,fits5,trivial⟩
 ·intro t ht
  have h:Tryz.f4.params.toList=[24,5,5]:=by kernel_rfl
  rw[h] at ht
  simp only[List.mem_cons,List.not_mem_nil,or_false] at ht
  rcases ht with rfl|rfl|rfl <;> exact⟨by kernel_rfl,of_decide_eq_true (by kernel_rfl)⟩
 ·intro ds hd
  match ds,hd with
  |[d0,d1,d2],_=>rfl
theorem defaults_holds:Rows.TmplDefaultsSaid :=
 OpenClaim.holds_of_cond 4 Tryz.f4 rfl rfl rfl rfl rfl rfl rfl ⟨rfl,rfl,rfl,rfl,rfl⟩ rfl rfl rfl rfl rfl (by kernel_rfl) g4 (by kernel_rfl)
  (of_decide_eq_true (by kernel_rfl)) (by unfold Func.isWrapper; rw[if_neg (of_decide_eq_false (by kernel_rfl))]; exact⟨rfl,rfl⟩)
  (fun os started H enc _ F0=>by rw[OpenClaim.pre_eq_preRow]; exact defaults_lifted os started H enc F0)
theorem defaults_card:Rows.TmplDefaultsCardSaid :=
 Claim7.holds_tied_plain_at .later [] [.data, .data, .data] true (true, "4bdc147249a5a3b61431d1097d4307cf0baa48dbe9e55efd73d3342c654a0b88") true
  defaults_holds (fun _ h=>by cases h) (by kernel_rfl) (fun _ h=>by cases h) tmplDefaults_row_tie rfl ⟨rfl,rfl⟩ (by kernel_rfl) rfl
  (fun f fn hf hfn=>by
   obtain rfl : f = 4 := Option.some.inj ((show Tryz.prog.funcNamed "whelk/whelklaw9.TmplDefaults" = some 4 by kernel_rfl).symm.trans hf) |>.symm
   obtain rfl:fn=Tryz.f4:=(Option.some.inj (g4.symm.trans hfn)).symm
   exact⟨by kernel_rfl,fun j t ht=>by
    have hp:Tryz.f4.params = #[24,5,5]:=by kernel_rfl
    rw[hp] at ht
    have h3:t∈([24,5,5]:List TypeId):=by
     have:=List.mem_of_getElem? (l:=[24,5,5]) (i:=j) (a:=t) (by simpa using ht)
     exact this
    simp only[List.mem_cons,List.not_mem_nil,or_false] at h3
    rcases h3 with rfl|rfl|rfl <;> exact (show Tryz.prog.wantsStandIn _=false by kernel_rfl)⟩)
  (by kernel_rfl)
end Go.Proofs.YthjnlpfibakacaaGreatDoorPe.Tmpf
namespace Go.Proofs.YthjnlpfibakacaaGreatDoor
theorem tmplDefaults_proved:Rows.TmplDefaultsCardSaid:=Go.Proofs.YthjnlpfibakacaaGreatDoorPe.Tmpf.defaults_card
end Go.Proofs.YthjnlpfibakacaaGreatDoor
