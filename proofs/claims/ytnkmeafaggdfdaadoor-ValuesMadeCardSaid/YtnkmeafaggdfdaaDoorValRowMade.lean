/- THE ROW of ValuesMade: its contract, and its tied card. -/
import Derived.Test.YtnkmeafaggdfdaaDoorValRow
set_option maxRecDepth 1000000
set_option linter.unusedVariables false
namespace Go.Proofs.YtnkmeafaggdfdaaDoorPe.Val
open Go Go.Proofs Go.Proofs.YtnkmeafaggdfdaaDoor Go.RowKit Go.ChangeShapes Go.WideShapes Go.ChangeAt Go.Proofs.YtnkmeafaggdfdaaDoorPe Go.Proofs.YtnkmeafaggdfdaaDoorPe.ValCode

theorem made_call : ∀ xs, TypedAll [.int .i64, .str, .bool] xs → ∃ st', call (fnsOf Tryd.prog sh rows) given 6 xs ⟨[], [], [], []⟩ = some (.bool true, st') := by
  intro xs h
  obtain ⟨x, y, z, rfl, hx, hy, hz⟩ := typed3 h
  obtain ⟨i, rfl, _⟩ := hx
  obtain ⟨s, rfl, hs⟩ := hy
  obtain ⟨b, rfl⟩ := hz
  exact lift made_law

theorem made_witness (os : Os) {H : Type} (enc : TypeId × Value → H) :
    (OpenSpec.ofChange Rows.valuesMadeSpec).preRow enc Tryd.prog Tryd.f6 Rows.valuesMadeRow.domain false Rows.valuesMadeRow.laid ((laidWorld os).forCall (fun _ _ => 0) ⟨#[], #[.int .i64 0, .string ⟨⟨[]⟩⟩, .bool false], []⟩).memory #[.int .i64 0, .string ⟨⟨[]⟩⟩, .bool false] := by
  have hw : (DataW.whole enc Tryd.prog ((laidWorld os).forCall (fun _ _ => 0) ⟨#[], #[.int .i64 0, .string ⟨⟨[]⟩⟩, .bool false], []⟩).memory Tryd.f6.params.toList (OpenSpec.ofChange Rows.valuesMadeSpec).vars false (#[.int .i64 0, .string ⟨⟨[]⟩⟩, .bool false] : Array Value).toList 8).map (fun x => (x.1, x.2.1)) =
      some ([.lit (.int .i64 0), .lit (.string []), .lit (.bool false)], []) := by kernel_rfl
  obtain ⟨⟨x1, x2, x3⟩, hx, hx1⟩ := Option.map_eq_some_iff.1 hw
  simp only [Prod.mk.injEq] at hx1
  obtain ⟨rfl, rfl⟩ := hx1
  exact OpenSpec.preRow_of_cond 8 hx (by kernel_rfl) (fun k hk => by cases hk) (by kernel_rfl) (laidMet_of_run' 8 (by kernel_rfl) (by kernel_rfl))

theorem made_lifted (os : Os) (started : os.Started) (H : Type) (enc : TypeId × Value → H) (F : Stop.Interp) :
    ReturnsInHanded {} Tryd.checked os 6 .any ((OpenSpec.ofChange Rows.valuesMadeSpec).preRow enc Tryd.prog Tryd.f6 Rows.valuesMadeRow.domain false Rows.valuesMadeRow.laid) (((OpenSpec.ofChange Rows.valuesMadeSpec).at F).post enc Tryd.prog Tryd.f6 false true false false) := by
  refine returnsInHanded_of_row (C := Tryd.checked) (s := OpenSpec.ofChange Rows.valuesMadeSpec) own started (by kernel_rfl) g6
    (witness_row_atRef (enc := enc) (C := Tryd.checked) false (laidWorld os) #[.int .i64 0, .string ⟨⟨[]⟩⟩, .bool false] rfl (by kernel_rfl) (by kernel_rfl) (by kernel_rfl) (made_witness os enc)) ?_
  intro W base args ds gs before hval hW _ _ _ hL _ _
  refine law_contract (ss := [.int .i64, .str, .bool]) (tb := 4) follows_ok rows_ok.fok laidOut rfl ?_ ?_ (by kernel_rfl) (by kernel_rfl) ?_ made_call (given_ok (tab_of hL)) hval hW
  · exact ⟨fits2, fits9, fits4, trivial⟩
  · intro t ht
    have h : Tryd.f6.params.toList = [2, 9, 4] := by kernel_rfl
    rw [h] at ht
    simp only [List.mem_cons, List.not_mem_nil, or_false] at ht
    rcases ht with rfl | rfl | rfl <;> exact ⟨by kernel_rfl, of_decide_eq_true (by kernel_rfl)⟩
  · intro ds hd
    match ds, hd with
    | [d0, d1, d2], _ => rfl

theorem made_holds : Rows.ValuesMadeSaid :=
  OpenClaim.holds_of_cond 6 Tryd.f6 rfl rfl rfl rfl rfl rfl rfl ⟨rfl, rfl, rfl, rfl, rfl⟩ rfl rfl rfl rfl rfl (by kernel_rfl) g6 (by kernel_rfl)
    (of_decide_eq_true (by kernel_rfl)) (by unfold Func.isWrapper; rw [if_neg (of_decide_eq_false (by kernel_rfl))]; exact ⟨rfl, rfl⟩)
    (fun os started H enc _ F0 => by rw [OpenClaim.pre_eq_preRow]; exact made_lifted os started H enc F0)

theorem made_card : Rows.ValuesMadeCardSaid :=
  Claim7.holds_tied_plain_at .later [] [.data, .data, .data] true (true, "298733b3c5957b6f518ff04831f3661ad0e75abb3f14754ed25f542080133d68") false
    made_holds (fun _ h => by cases h) (by kernel_rfl) (fun _ h => by cases h) valuesMade_row_tie rfl ⟨rfl, rfl⟩ (by kernel_rfl) rfl
    (fun f fn hf hfn => by
      obtain rfl : f = 6 := Option.some.inj ((show Tryd.prog.funcNamed "whelk/whelklaw3.ValuesMade" = some 6 by kernel_rfl).symm.trans hf) |>.symm
      obtain rfl : fn = Tryd.f6 := (Option.some.inj (g6.symm.trans hfn)).symm
      exact ⟨by kernel_rfl, fun j t ht => by
        have hp : Tryd.f6.params = #[2, 9, 4] := by kernel_rfl
        rw [hp] at ht
        have h3 : t ∈ ([2, 9, 4] : List TypeId) := by
          have := List.mem_of_getElem? (l := [2, 9, 4]) (i := j) (a := t) (by simpa using ht)
          exact this
        simp only [List.mem_cons, List.not_mem_nil, or_false] at h3
        rcases h3 with rfl | rfl | rfl <;> exact (show Tryd.prog.wantsStandIn _ = false by kernel_rfl)⟩)
    (by kernel_rfl)

end Go.Proofs.YtnkmeafaggdfdaaDoorPe.Val
namespace Go.Proofs.YtnkmeafaggdfdaaDoor
/-- What is claimed. -/
theorem valuesMade_proved : Rows.ValuesMadeCardSaid := Go.Proofs.YtnkmeafaggdfdaaDoorPe.Val.made_card
end Go.Proofs.YtnkmeafaggdfdaaDoor
