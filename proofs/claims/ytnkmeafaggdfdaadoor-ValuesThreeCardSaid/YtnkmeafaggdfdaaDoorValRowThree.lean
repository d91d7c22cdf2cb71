/- THE ROW of ValuesThree: its contract, and its tied card. -/
import Derived.Test.YtnkmeafaggdfdaaDoorValRow
set_option maxRecDepth 1000000
set_option linter.unusedVariables false
namespace Go.Proofs.YtnkmeafaggdfdaaDoorPe.Val
open Go Go.Proofs Go.Proofs.YtnkmeafaggdfdaaDoor Go.RowKit Go.ChangeShapes Go.WideShapes Go.ChangeAt Go.Proofs.YtnkmeafaggdfdaaDoorPe Go.Proofs.YtnkmeafaggdfdaaDoorPe.ValCode

theorem three_call : ∀ xs, TypedAll [.st3 (.int .i64) (.int .i64) .str, .st3 (.int .i64) (.int .i64) .str, .st3 (.int .i64) (.int .i64) .str] xs → ∃ st', call (fnsOf Tryd.prog sh rows) given 5 xs ⟨[], [], [], []⟩ = some (.bool true, st') := by
  intro xs h
  obtain ⟨x, y, z, rfl, hx, hy, hz⟩ := typed3 h
  obtain ⟨a, rfl, _⟩ := typedV hx
  obtain ⟨b, rfl, _⟩ := typedV hy
  obtain ⟨c, rfl, _⟩ := typedV hz
  exact lift (three_law a b c)

theorem three_witness (os : Os) {H : Type} (enc : TypeId × Value → H) :
    (OpenSpec.ofChange Rows.valuesThreeSpec).preRow enc Tryd.prog Tryd.f5 Rows.valuesThreeRow.domain false Rows.valuesThreeRow.laid ((laidWorld os).forCall (fun _ _ => 0) ⟨#[], #[.agg #[.int .i64 0, .int .i64 0, .string ⟨⟨[]⟩⟩], .agg #[.int .i64 0, .int .i64 0, .string ⟨⟨[]⟩⟩], .agg #[.int .i64 0, .int .i64 0, .string ⟨⟨[]⟩⟩]], []⟩).memory #[.agg #[.int .i64 0, .int .i64 0, .string ⟨⟨[]⟩⟩], .agg #[.int .i64 0, .int .i64 0, .string ⟨⟨[]⟩⟩], .agg #[.int .i64 0, .int .i64 0, .string ⟨⟨[]⟩⟩]] := by
  have hw : (DataW.whole enc Tryd.prog ((laidWorld os).forCall (fun _ _ => 0) ⟨#[], #[.agg #[.int .i64 0, .int .i64 0, .string ⟨⟨[]⟩⟩], .agg #[.int .i64 0, .int .i64 0, .string ⟨⟨[]⟩⟩], .agg #[.int .i64 0, .int .i64 0, .string ⟨⟨[]⟩⟩]], []⟩).memory Tryd.f5.params.toList (OpenSpec.ofChange Rows.valuesThreeSpec).vars false (#[.agg #[.int .i64 0, .int .i64 0, .string ⟨⟨[]⟩⟩], .agg #[.int .i64 0, .int .i64 0, .string ⟨⟨[]⟩⟩], .agg #[.int .i64 0, .int .i64 0, .string ⟨⟨[]⟩⟩]] : Array Value).toList 8).map (fun x => (x.1, x.2.1)) =
      some ([.agg [.lit (.int .i64 0), .lit (.int .i64 0), .lit (.string [])], .agg [.lit (.int .i64 0), .lit (.int .i64 0), .lit (.string [])], .agg [.lit (.int .i64 0), .lit (.int .i64 0), .lit (.string [])]], []) := by kernel_rfl
  obtain ⟨⟨x1, x2, x3⟩, hx, hx1⟩ := Option.map_eq_some_iff.1 hw
  simp only [Prod.mk.injEq] at hx1
  obtain ⟨rfl, rfl⟩ := hx1
  exact OpenSpec.preRow_of_cond 8 hx (by kernel_rfl) (fun k hk => by cases hk) (by kernel_rfl) (laidMet_of_run' 8 (by kernel_rfl) (by kernel_rfl))

theorem three_lifted (os : Os) (started : os.Started) (H : Type) (enc : TypeId × Value → H) (F : Stop.Interp) :
    ReturnsInHanded {} Tryd.checked os 5 .any ((OpenSpec.ofChange Rows.valuesThreeSpec).preRow enc Tryd.prog Tryd.f5 Rows.valuesThreeRow.domain false Rows.valuesThreeRow.laid) (((OpenSpec.ofChange Rows.valuesThreeSpec).at F).post enc Tryd.prog Tryd.f5 false true false false) := by
  refine returnsInHanded_of_row (C := Tryd.checked) (s := OpenSpec.ofChange Rows.valuesThreeSpec) own started (by kernel_rfl) g5
    (witness_row_atRef (enc := enc) (C := Tryd.checked) false (laidWorld os) #[.agg #[.int .i64 0, .int .i64 0, .string ⟨⟨[]⟩⟩], .agg #[.int .i64 0, .int .i64 0, .string ⟨⟨[]⟩⟩], .agg #[.int .i64 0, .int .i64 0, .string ⟨⟨[]⟩⟩]] rfl (by kernel_rfl) (by kernel_rfl) (by kernel_rfl) (three_witness os enc)) ?_
  intro W base args ds gs before hval hW _ _ _ hL _ _
  refine law_contract (ss := [.st3 (.int .i64) (.int .i64) .str, .st3 (.int .i64) (.int .i64) .str, .st3 (.int .i64) (.int .i64) .str]) (tb := 4) follows_ok rows_ok.fok laidOut rfl ?_ ?_ (by kernel_rfl) (by kernel_rfl) ?_ three_call (given_ok (tab_of hL)) hval hW
  · exact ⟨fits23, fits23, fits23, trivial⟩
  · intro t ht
    have h : Tryd.f5.params.toList = [23, 23, 23] := by kernel_rfl
    rw [h] at ht
    simp only [List.mem_cons, List.not_mem_nil, or_false] at ht
    rcases ht with rfl | rfl | rfl <;> exact ⟨by kernel_rfl, of_decide_eq_true (by kernel_rfl)⟩
  · intro ds hd
    match ds, hd with
    | [d0, d1, d2], _ => rfl

theorem three_holds : Rows.ValuesThreeSaid :=
  OpenClaim.holds_of_cond 5 Tryd.f5 rfl rfl rfl rfl rfl rfl rfl ⟨rfl, rfl, rfl, rfl, rfl⟩ rfl rfl rfl rfl rfl (by kernel_rfl) g5 (by kernel_rfl)
    (of_decide_eq_true (by kernel_rfl)) (by unfold Func.isWrapper; rw [if_neg (of_decide_eq_false (by kernel_rfl))]; exact ⟨rfl, rfl⟩)
    (fun os started H enc _ F0 => by rw [OpenClaim.pre_eq_preRow]; exact three_lifted os started H enc F0)

theorem three_card : Rows.ValuesThreeCardSaid :=
  Claim7.holds_tied_plain_at .later [] [.data, .data, .data] true (true, "298733b3c5957b6f518ff04831f3661ad0e75abb3f14754ed25f542080133d68") false
    three_holds (fun _ h => by cases h) (by kernel_rfl) (fun _ h => by cases h) valuesThree_row_tie rfl ⟨rfl, rfl⟩ (by kernel_rfl) rfl
    (fun f fn hf hfn => by
      obtain rfl : f = 5 := Option.some.inj ((show Tryd.prog.funcNamed "whelk/whelklaw3.ValuesThree" = some 5 by kernel_rfl).symm.trans hf) |>.symm
      obtain rfl : fn = Tryd.f5 := (Option.some.inj (g5.symm.trans hfn)).symm
      exact ⟨by kernel_rfl, fun j t ht => by
        have hp : Tryd.f5.params = #[23, 23, 23] := by kernel_rfl
        rw [hp] at ht
        have h3 : t ∈ ([23, 23, 23] : List TypeId) := by
          have := List.mem_of_getElem? (l := [23, 23, 23]) (i := j) (a := t) (by simpa using ht)
          exact this
        simp only [List.mem_cons, List.not_mem_nil, or_false] at h3
        rcases h3 with rfl | rfl | rfl <;> exact (show Tryd.prog.wantsStandIn _ = false by kernel_rfl)⟩)
    (by kernel_rfl)

end Go.Proofs.YtnkmeafaggdfdaaDoorPe.Val
namespace Go.Proofs.YtnkmeafaggdfdaaDoor
/-- What is claimed. -/
theorem valuesThree_proved : Rows.ValuesThreeCardSaid := Go.Proofs.YtnkmeafaggdfdaaDoorPe.Val.three_card
end Go.Proofs.YtnkmeafaggdfdaaDoor
