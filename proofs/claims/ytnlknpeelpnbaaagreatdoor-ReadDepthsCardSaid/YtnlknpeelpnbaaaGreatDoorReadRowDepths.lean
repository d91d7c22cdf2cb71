/- ReadDepthsCardSaid: the given statement holds of the given program at every input; its conditions are those that stand in the statement itself. -/
import Derived.Test.YtnlknpeelpnbaaaGreatDoorReadRow
import Derived.Test.YtnlknpeelpnbaaaGreatDoorReadDp
set_option maxRecDepth 1000000
set_option linter.unusedVariables false
namespace Go.Proofs.YtnlknpeelpnbaaaGreatDoorPe.Read
open Go Go.Proofs Go.Proofs.YtnlknpeelpnbaaaGreatDoor Go.RowKit Go.ChangeShapes Go.WideShapes Go.ChangeAt Go.Proofs.YtnlknpeelpnbaaaGreatDoorPe Go.Proofs.YtnlknpeelpnbaaaGreatDoorPe.ReadCode
theorem depths_call : ∀ xs, TypedAll [.int .i64] xs -> ∃ st', call (fnsOf Tryz.prog sh rows) given 5 xs ⟨[], [], [], []⟩ = some (.bool true, st') := by
 intro xs h
 obtain ⟨x, rfl, ⟨n, rfl, hn⟩⟩ := typed1 h
 exact lift (depths_law n (in64 hn)).ex
theorem depths_witness (os : Os) {H : Type} (enc : TypeId × Value -> H) :
  (OpenSpec.ofChange Rows.readDepthsSpec).preRow enc Tryz.prog Tryz.f5 Rows.readDepthsRow.domain false Rows.readDepthsRow.laid ((laidWorld os).forCall (fun _ _ => 0) ⟨#[], #[.int .i64 0], []⟩).memory #[.int .i64 0] := by
 have hw : (DataW.whole enc Tryz.prog ((laidWorld os).forCall (fun _ _ => 0) ⟨#[], #[.int .i64 0], []⟩).memory Tryz.f5.params.toList (OpenSpec.ofChange Rows.readDepthsSpec).vars false (#[.int .i64 0] : Array Value).toList 8).map (fun x => (x.1, x.2.1)) =
   some ([.lit (.int .i64 0)], []) := by kernel_rfl
 obtain ⟨⟨x1, x2, x3⟩, hx, hx1⟩ := Option.map_eq_some_iff.1 hw
 simp only [Prod.mk.injEq] at hx1
 obtain ⟨rfl, rfl⟩ := hx1
 exact OpenSpec.preRow_of_cond 8 hx (by kernel_rfl) (fun k hk => by cases hk) (by kernel_rfl) (laidMetH_of_parts (laidMet_of_run' 8 (by kernel_rfl) (by kernel_rfl)) (by kernel_rfl))
theorem depths_lifted (os : Os) (started : os.Started) (H : Type) (enc : TypeId × Value -> H) (F : Stop.Interp) :
  ReturnsInHanded {} Tryz.checked os 5 .any ((OpenSpec.ofChange Rows.readDepthsSpec).preRow enc Tryz.prog Tryz.f5 Rows.readDepthsRow.domain false Rows.readDepthsRow.laid) (((OpenSpec.ofChange Rows.readDepthsSpec).at F).post enc Tryz.prog Tryz.f5 false true false false) := by
 refine returnsInHanded_of_row (C := Tryz.checked) (s := OpenSpec.ofChange Rows.readDepthsSpec) own started (by kernel_rfl) g5
  (witness_row_atRef (enc := enc) (C := Tryz.checked) false (laidWorld os) #[.int .i64 0] rfl (by kernel_rfl) (by kernel_rfl) (by kernel_rfl) (depths_witness os enc)) ?_
 intro W base args ds gs before hval hW _ _ _ hL _ _
 refine law_contract (ss := [.int .i64]) (tb := 4) follows_ok rows_ok.fok laidOut rfl ?_ ?_ (by kernel_rfl) (by kernel_rfl) ?_ depths_call (given_ok (tab_of hL) (handle_of hL)) hval hW
 ·exact ⟨fits3, trivial⟩
 ·intro t ht
  have h : Tryz.f5.params.toList = [3] := by kernel_rfl
  rw [h] at ht
  simp only [List.mem_cons, List.not_mem_nil, or_false] at ht
  subst ht <;> exact ⟨by kernel_rfl, of_decide_eq_true (by kernel_rfl)⟩
 ·intro ds hd
  match ds, hd with
  | [d0], _ => rfl
theorem depths_holds : Rows.ReadDepthsSaid :=
 OpenClaim.holds_of_cond 5 Tryz.f5 rfl rfl rfl rfl rfl rfl rfl ⟨rfl, rfl, rfl, rfl, rfl⟩ rfl rfl rfl rfl rfl (by kernel_rfl) g5 (by kernel_rfl)
  (of_decide_eq_true (by kernel_rfl)) (by unfold Func.isWrapper; rw [if_neg (of_decide_eq_false (by kernel_rfl))]; exact ⟨rfl, rfl⟩)
  (fun os started H enc _ F0 => by rw [OpenClaim.pre_eq_preRow]; exact depths_lifted os started H enc F0)
theorem depths_card : Rows.ReadDepthsCardSaid :=
 Claim7.holds_tied_plain_at .later [] [.data, .data, .data, .handle] true (true, "c14aa5727697d8e7bb57567bfbceaaba5a08a6ab9a9dc9cdd49eca58e969f824") true
  depths_holds (fun _ h => by cases h) (by kernel_rfl) (fun _ h => by cases h) readDepths_row_tie rfl ⟨rfl, rfl⟩ (by kernel_rfl) rfl
  (fun f fn hf hfn => by
   obtain rfl : f = 5 := Option.some.inj ((show Tryz.prog.funcNamed "whelk/whelklaw5.ReadDepths" = some 5 by kernel_rfl).symm.trans hf) |>.symm
   obtain rfl : fn = Tryz.f5 := (Option.some.inj (g5.symm.trans hfn)).symm
   exact ⟨by kernel_rfl, fun j t ht => by
    have hp : Tryz.f5.params = #[3] := by kernel_rfl
    rw [hp] at ht
    have h3 : t ∈ ([3] : List TypeId) := by
     have := List.mem_of_getElem? (l := [3]) (i := j) (a := t) (by simpa using ht)
     exact this
    simp only [List.mem_cons, List.not_mem_nil, or_false] at h3
    subst h3 <;> exact (show Tryz.prog.wantsStandIn _ = false by kernel_rfl)⟩)
  (by kernel_rfl)
end Go.Proofs.YtnlknpeelpnbaaaGreatDoorPe.Read
namespace Go.Proofs.YtnlknpeelpnbaaaGreatDoor
theorem readDepths_proved : Rows.ReadDepthsCardSaid := Go.Proofs.YtnlknpeelpnbaaaGreatDoorPe.Read.depths_card
end Go.Proofs.YtnlknpeelpnbaaaGreatDoor
