/- THE ROW of ValuesRows: its contract, and its tied card. -/
import Derived.Test.YtnkmeafaggdfdaaDoorValRow
import Derived.Test.YtnkmeafaggdfdaaDoorValVRows
set_option maxRecDepth 1000000
set_option linter.unusedVariables false
namespace Go.Proofs.YtnkmeafaggdfdaaDoorPe.Val
open Go Go.Proofs Go.Proofs.YtnkmeafaggdfdaaDoor Go.RowKit Go.ChangeShapes Go.WideShapes Go.ChangeAt Go.Proofs.YtnkmeafaggdfdaaDoorPe Go.Proofs.YtnkmeafaggdfdaaDoorPe.ValCode

theorem rows_call : ∀ xs, TypedAll [.sl (.st3 (.int .i64) (.int .i64) .str), .sl (.st3 (.int .i64) (.int .i64) .str)] xs → ∃ st', call (fnsOf Tryd.prog sh rows) given 4 xs ⟨[], [], [], []⟩ = some (.bool true, st') := by
  intro xs h
  obtain ⟨x, y, rfl, hx, hy⟩ := typed2 h
  obtain ⟨a, rfl, ha⟩ := typedVs hx
  obtain ⟨b, rfl, hb⟩ := typedVs hy
  exact lift (rows_law ha hb)

theorem rows_witness (os : Os) {H : Type} (enc : TypeId × Value → H) :
    (OpenSpec.ofChange Rows.valuesRowsSpec).preRow enc Tryd.prog Tryd.f4 Rows.valuesRowsRow.domain false Rows.valuesRowsRow.laid ((laidWorld os).forCall (fun _ _ => 0) ⟨#[], #[.slice none 0 0, .slice none 0 0], []⟩).memory #[.slice none 0 0, .slice none 0 0] := by
  have hw : (DataW.whole enc Tryd.prog ((laidWorld os).forCall (fun _ _ => 0) ⟨#[], #[.slice none 0 0, .slice none 0 0], []⟩).memory Tryd.f4.params.toList (OpenSpec.ofChange Rows.valuesRowsSpec).vars false (#[.slice none 0 0, .slice none 0 0] : Array Value).toList 8).map (fun x => (x.1, x.2.1)) =
      some ([.nil, .nil], []) := by kernel_rfl
  obtain ⟨⟨x1, x2, x3⟩, hx, hx1⟩ := Option.map_eq_some_iff.1 hw
  simp only [Prod.mk.injEq] at hx1
  obtain ⟨rfl, rfl⟩ := hx1
  exact OpenSpec.preRow_of_cond 8 hx (by kernel_rfl) (fun k hk => by cases hk) (by kernel_rfl) (laidMet_of_run' 8 (by kernel_rfl) (by kernel_rfl))

theorem rows_lifted (os : Os) (started : os.Started) (H : Type) (enc : TypeId × Value → H) (F : Stop.Interp) :
    ReturnsInHanded {} Tryd.checked os 4 .any ((OpenSpec.ofChange Rows.valuesRowsSpec).preRow enc Tryd.prog Tryd.f4 Rows.valuesRowsRow.domain false Rows.valuesRowsRow.laid) (((OpenSpec.ofChange Rows.valuesRowsSpec).at F).post enc Tryd.prog Tryd.f4 false true false false) := by
  refine returnsInHanded_of_row (C := Tryd.checked) (s := OpenSpec.ofChange Rows.valuesRowsSpec) own started (by kernel_rfl) g4
    (witness_row_atRef (enc := enc) (C := Tryd.checked) false (laidWorld os) #[.slice none 0 0, .slice none 0 0] rfl (by kernel_rfl) (by kernel_rfl) (by kernel_rfl) (rows_witness os enc)) ?_
  intro W base args ds gs before hval hW _ _ _ hL _ _
  refine law_contract (ss := [.sl (.st3 (.int .i64) (.int .i64) .str), .sl (.st3 (.int .i64) (.int .i64) .str)]) (tb := 4) follows_ok rows_ok.fok laidOut rfl ?_ ?_ (by kernel_rfl) (by kernel_rfl) ?_ rows_call (given_ok (tab_of hL)) hval hW
  · exact ⟨fits28, fits28, trivial⟩
  · intro t ht
    have h : Tryd.f4.params.toList = [28, 28] := by kernel_rfl
    rw [h] at ht
    simp only [List.mem_cons, List.not_mem_nil, or_false] at ht
    rcases ht with rfl | rfl <;> exact ⟨by kernel_rfl, of_decide_eq_true (by kernel_rfl)⟩
  · intro ds hd
    match ds, hd with
    | [d0, d1], _ => rfl

theorem rows_holds : Rows.ValuesRowsSaid :=
  OpenClaim.holds_of_cond 4 Tryd.f4 rfl rfl rfl rfl rfl rfl rfl ⟨rfl, rfl, rfl, rfl, rfl⟩ rfl rfl rfl rfl rfl (by kernel_rfl) g4 (by kernel_rfl)
    (of_decide_eq_true (by kernel_rfl)) (by unfold Func.isWrapper; rw [if_neg (of_decide_eq_false (by kernel_rfl))]; exact ⟨rfl, rfl⟩)
    (fun os started H enc _ F0 => by rw [OpenClaim.pre_eq_preRow]; exact rows_lifted os started H enc F0)

theorem rows_card : Rows.ValuesRowsCardSaid :=
  Claim7.holds_tied_plain_at .later [] [.data, .data, .data] true (true, "298733b3c5957b6f518ff04831f3661ad0e75abb3f14754ed25f542080133d68") false
    rows_holds (fun _ h => by cases h) (by kernel_rfl) (fun _ h => by cases h) valuesRows_row_tie rfl ⟨rfl, rfl⟩ (by kernel_rfl) rfl
    (fun f fn hf hfn => by
      obtain rfl : f = 4 := Option.some.inj ((show Tryd.prog.funcNamed "whelk/whelklaw3.ValuesRows" = some 4 by kernel_rfl).symm.trans hf) |>.symm
      obtain rfl : fn = Tryd.f4 := (Option.some.inj (g4.symm.trans hfn)).symm
      exact ⟨by kernel_rfl, fun j t ht => by
        have hp : Tryd.f4.params = #[28, 28] := by kernel_rfl
        rw [hp] at ht
        have h3 : t ∈ ([28, 28] : List TypeId) := by
          have := List.mem_of_getElem? (l := [28, 28]) (i := j) (a := t) (by simpa using ht)
          exact this
        simp only [List.mem_cons, List.not_mem_nil, or_false] at h3
        rcases h3 with rfl | rfl <;> exact (show Tryd.prog.wantsStandIn _ = false by kernel_rfl)⟩)
    (by kernel_rfl)

end Go.Proofs.YtnkmeafaggdfdaaDoorPe.Val
namespace Go.Proofs.YtnkmeafaggdfdaaDoor
/-- What is claimed. -/
theorem valuesRows_proved : Rows.ValuesRowsCardSaid := Go.Proofs.YtnkmeafaggdfdaaDoorPe.Val.rows_card
end Go.Proofs.YtnkmeafaggdfdaaDoor
