/- ReadCountsCardSaid: the given statement holds of the given program at every input; its conditions are those that stand in the statement itself. -/
import Derived.Test.YtnlknpeelpnbaaaGreatDoorReadRow
import Derived.Test.YtnlknpeelpnbaaaGreatDoorReadCo
set_option maxRecDepth 1000000
set_option linter.unusedVariables false
namespace Go.Proofs.YtnlknpeelpnbaaaGreatDoorPe.Read
open Go Go.Proofs Go.Proofs.YtnlknpeelpnbaaaGreatDoor Go.RowKit Go.ChangeShapes Go.WideShapes Go.ChangeAt Go.Proofs.YtnlknpeelpnbaaaGreatDoorPe Go.Proofs.YtnlknpeelpnbaaaGreatDoorPe.ReadCode
theorem counts_call : ∀ xs, TypedAll [.sl (.int .u8)] xs -> ∃ st', call (fnsOf Tryz.prog sh rows) given 8 xs ⟨[], [], [], []⟩ = some (.bool true, st') := by
 intro xs h
 obtain ⟨x, rfl, hx⟩ := typed1 h
 obtain ⟨b, rfl⟩ := typedB hx
 exact lift (counts_law b).ex
theorem counts_witness (os : Os) {H : Type} (enc : TypeId × Value -> H) :
  (OpenSpec.ofChange Rows.readCountsSpec).preRow enc Tryz.prog Tryz.f8 Rows.readCountsRow.domain false Rows.readCountsRow.laid ((laidWorld os).forCall (fun _ _ => 0) ⟨#[], #[.slice none 0 0], []⟩).memory #[.slice none 0 0] := by
 have hw : (DataW.whole enc Tryz.prog ((laidWorld os).forCall (fun _ _ => 0) ⟨#[], #[.slice none 0 0], []⟩).memory Tryz.f8.params.toList (OpenSpec.ofChange Rows.readCountsSpec).vars false (#[.slice none 0 0] : Array Value).toList 8).map (fun x => (x.1, x.2.1)) =
   some ([.nil], []) := by kernel_rfl
 obtain ⟨⟨x1, x2, x3⟩, hx, hx1⟩ := Option.map_eq_some_iff.1 hw
 simp only [Prod.mk.injEq] at hx1
 obtain ⟨rfl, rfl⟩ := hx1
 exact OpenSpec.preRow_of_cond 8 hx (by kernel_rfl) (fun k hk => by cases hk) (by kernel_rfl) (laidMetH_of_parts (laidMet_of_run' 8 (by kernel_rfl) (by kernel_rfl)) (by kernel_rfl))
theorem counts_lifted (os : Os) (started : os.Started) (H : Type) (enc : TypeId × Value -> H) (F : Stop.Interp) :
  ReturnsInHanded {} Tryz.checked os 8 .any ((OpenSpec.ofChange Rows.readCountsSpec).preRow enc Tryz.prog Tryz.f8 Rows.readCountsRow.domain false Rows.readCountsRow.laid) (((OpenSpec.ofChange Rows.readCountsSpec).at F).post enc Tryz.prog Tryz.f8 false true false false) := by
 refine returnsInHanded_of_row (C := Tryz.checked) (s := OpenSpec.ofChange Rows.readCountsSpec) own started (by kernel_rfl) g8
  (witness_row_atRef (enc := enc) (C := Tryz.checked) false (laidWorld os) #[.slice none 0 0] rfl (by kernel_rfl) (by kernel_rfl) (by kernel_rfl) (counts_witness os enc)) ?_
 intro W base args ds gs before hval hW _ _ _ hL _ _
 refine law_contract (ss := [.sl (.int .u8)]) (tb := 4) follows_ok rows_ok.fok laidOut rfl ?_ ?_ (by kernel_rfl) (by kernel_rfl) ?_ counts_call (given_ok (tab_of hL) (handle_of hL)) hval hW
 ·exact ⟨fits22, trivial⟩
 ·intro t ht
  have h : Tryz.f8.params.toList = [22] := by kernel_rfl
  rw [h] at ht
  simp only [List.mem_cons, List.not_mem_nil, or_false] at ht
  subst ht <;> exact ⟨by kernel_rfl, of_decide_eq_true (by kernel_rfl)⟩
 ·intro ds hd
  match ds, hd with
  | [d0], _ => rfl
theorem counts_holds : Rows.ReadCountsSaid :=
 OpenClaim.holds_of_cond 8 Tryz.f8 rfl rfl rfl rfl rfl rfl rfl ⟨rfl, rfl, rfl, rfl, rfl⟩ rfl rfl rfl rfl rfl (by kernel_rfl) g8 (by kernel_rfl)
  (of_decide_eq_true (by kernel_rfl)) (by unfold Func.isWrapper; rw [if_neg (of_decide_eq_false (by kernel_rfl))]; exact ⟨rfl, rfl⟩)
  (fun os started H enc _ F0 => by rw [OpenClaim.pre_eq_preRow]; exact counts_lifted os started H enc F0)
theorem counts_card : Rows.ReadCountsCardSaid :=
 Claim7.holds_tied_plain_at .later [] [.data, .data, .data, .handle] true (true, "c14aa5727697d8e7bb57567bfbceaaba5a08a6ab9a9dc9cdd49eca58e969f824") true
  counts_holds (fun _ h => by cases h) (by kernel_rfl) (fun _ h => by cases h) readCounts_row_tie rfl ⟨rfl, rfl⟩ (by kernel_rfl) rfl
  (fun f fn hf hfn => by
   obtain rfl : f = 8 := Option.some.inj ((show Tryz.prog.funcNamed "whelk/whelklaw5.ReadCounts" = some 8 by kernel_rfl).symm.trans hf) |>.symm
   obtain rfl : fn = Tryz.f8 := (Option.some.inj (g8.symm.trans hfn)).symm
   exact ⟨by kernel_rfl, fun j t ht => by
    have hp : Tryz.f8.params = #[22] := by kernel_rfl
    rw [hp] at ht
    have h3 : t ∈ ([22] : List TypeId) := by
     have := List.mem_of_getElem? (l := [22]) (i := j) (a := t) (by simpa using ht)
     exact this
    simp only [List.mem_cons, List.not_mem_nil, or_false] at h3
    subst h3 <;> exact (show Tryz.prog.wantsStandIn _ = false by kernel_rfl)⟩)
  (by kernel_rfl)
end Go.Proofs.YtnlknpeelpnbaaaGreatDoorPe.Read
namespace Go.Proofs.YtnlknpeelpnbaaaGreatDoor
theorem readCounts_proved : Rows.ReadCountsCardSaid := Go.Proofs.YtnlknpeelpnbaaaGreatDoorPe.Read.counts_card
end Go.Proofs.YtnlknpeelpnbaaaGreatDoor
