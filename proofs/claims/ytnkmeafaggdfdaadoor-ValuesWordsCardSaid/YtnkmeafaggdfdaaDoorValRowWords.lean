/- THE ROW of ValuesWords: its contract, and its tied card. -/
import Derived.Test.YtnkmeafaggdfdaaDoorValRow
import Derived.Test.YtnkmeafaggdfdaaDoorValVWords
set_option maxRecDepth 1000000
set_option linter.unusedVariables false
namespace Go.Proofs.YtnkmeafaggdfdaaDoorPe.Val
open Go Go.Proofs Go.Proofs.YtnkmeafaggdfdaaDoor Go.RowKit Go.ChangeShapes Go.WideShapes Go.ChangeAt Go.Proofs.YtnkmeafaggdfdaaDoorPe Go.Proofs.YtnkmeafaggdfdaaDoorPe.ValCode

theorem words_call : ∀ xs, TypedAll [.st3 (.int .i64) (.int .i64) .str] xs → ∃ st', call (fnsOf Tryd.prog sh rows) given 3 xs ⟨[], [], [], []⟩ = some (.bool true, st') := by
  intro xs h
  obtain ⟨x, rfl, hx⟩ := typed1 h
  obtain ⟨a, rfl, _, hi, hs⟩ := typedV hx
  exact lift (words_law a hi hs)

theorem words_witness (os : Os) {H : Type} (enc : TypeId × Value → H) :
    (OpenSpec.ofChange Rows.valuesWordsSpec).preRow enc Tryd.prog Tryd.f3 Rows.valuesWordsRow.domain false Rows.valuesWordsRow.laid ((laidWorld os).forCall (fun _ _ => 0) ⟨#[], #[.agg #[.int .i64 0, .int .i64 0, .string ⟨⟨[]⟩⟩]], []⟩).memory #[.agg #[.int .i64 0, .int .i64 0, .string ⟨⟨[]⟩⟩]] := by
  have hw : (DataW.whole enc Tryd.prog ((laidWorld os).forCall (fun _ _ => 0) ⟨#[], #[.agg #[.int .i64 0, .int .i64 0, .string ⟨⟨[]⟩⟩]], []⟩).memory Tryd.f3.params.toList (OpenSpec.ofChange Rows.valuesWordsSpec).vars false (#[.agg #[.int .i64 0, .int .i64 0, .string ⟨⟨[]⟩⟩]] : Array Value).toList 8).map (fun x => (x.1, x.2.1)) =
      some ([.agg [.lit (.int .i64 0), .lit (.int .i64 0), .lit (.string [])]], []) := by kernel_rfl
  obtain ⟨⟨x1, x2, x3⟩, hx, hx1⟩ := Option.map_eq_some_iff.1 hw
  simp only [Prod.mk.injEq] at hx1
  obtain ⟨rfl, rfl⟩ := hx1
  exact OpenSpec.preRow_of_cond 8 hx (by kernel_rfl) (fun k hk => by cases hk) (by kernel_rfl) (laidMet_of_run' 8 (by kernel_rfl) (by kernel_rfl))

theorem words_lifted (os : Os) (started : os.Started) (H : Type) (enc : TypeId × Value → H) (F : Stop.Interp) :
    ReturnsInHanded {} Tryd.checked os 3 .any ((OpenSpec.ofChange Rows.valuesWordsSpec).preRow enc Tryd.prog Tryd.f3 Rows.valuesWordsRow.domain false Rows.valuesWordsRow.laid) (((OpenSpec.ofChange Rows.valuesWordsSpec).at F).post enc Tryd.prog Tryd.f3 false true false false) := by
  refine returnsInHanded_of_row (C := Tryd.checked) (s := OpenSpec.ofChange Rows.valuesWordsSpec) own started (by kernel_rfl) g3
    (witness_row_atRef (enc := enc) (C := Tryd.checked) false (laidWorld os) #[.agg #[.int .i64 0, .int .i64 0, .string ⟨⟨[]⟩⟩]] rfl (by kernel_rfl) (by kernel_rfl) (by kernel_rfl) (words_witness os enc)) ?_
  intro W base args ds gs before hval hW _ _ _ hL _ _
  refine law_contract (ss := [.st3 (.int .i64) (.int .i64) .str]) (tb := 4) follows_ok rows_ok.fok laidOut rfl ?_ ?_ (by kernel_rfl) (by kernel_rfl) ?_ words_call (given_ok (tab_of hL)) hval hW
  · exact ⟨fits23, trivial⟩
  · intro t ht
    have h : Tryd.f3.params.toList = [23] := by kernel_rfl
    rw [h] at ht
    simp only [List.mem_cons, List.not_mem_nil, or_false] at ht
    subst ht <;> exact ⟨by kernel_rfl, of_decide_eq_true (by kernel_rfl)⟩
  · intro ds hd
    match ds, hd with
    | [d0], _ => rfl

theorem words_holds : Rows.ValuesWordsSaid :=
  OpenClaim.holds_of_cond 3 Tryd.f3 rfl rfl rfl rfl rfl rfl rfl ⟨rfl, rfl, rfl, rfl, rfl⟩ rfl rfl rfl rfl rfl (by kernel_rfl) g3 (by kernel_rfl)
    (of_decide_eq_true (by kernel_rfl)) (by unfold Func.isWrapper; rw [if_neg (of_decide_eq_false (by kernel_rfl))]; exact ⟨rfl, rfl⟩)
    (fun os started H enc _ F0 => by rw [OpenClaim.pre_eq_preRow]; exact words_lifted os started H enc F0)

theorem words_card : Rows.ValuesWordsCardSaid :=
  Claim7.holds_tied_plain_at .later [] [.data, .data, .data] true (true, "298733b3c5957b6f518ff04831f3661ad0e75abb3f14754ed25f542080133d68") false
    words_holds (fun _ h => by cases h) (by kernel_rfl) (fun _ h => by cases h) valuesWords_row_tie rfl ⟨rfl, rfl⟩ (by kernel_rfl) rfl
    (fun f fn hf hfn => by
      obtain rfl : f = 3 := Option.some.inj ((show Tryd.prog.funcNamed "whelk/whelklaw3.ValuesWords" = some 3 by kernel_rfl).symm.trans hf) |>.symm
      obtain rfl : fn = Tryd.f3 := (Option.some.inj (g3.symm.trans hfn)).symm
      exact ⟨by kernel_rfl, fun j t ht => by
        have hp : Tryd.f3.params = #[23] := by kernel_rfl
        rw [hp] at ht
        have h3 : t ∈ ([23] : List TypeId) := by
          have := List.mem_of_getElem? (l := [23]) (i := j) (a := t) (by simpa using ht)
          exact this
        simp only [List.mem_cons, List.not_mem_nil, or_false] at h3
        subst h3 <;> exact (show Tryd.prog.wantsStandIn _ = false by kernel_rfl)⟩)
    (by kernel_rfl)

end Go.Proofs.YtnkmeafaggdfdaaDoorPe.Val
namespace Go.Proofs.YtnkmeafaggdfdaaDoor
/-- What is claimed. -/
theorem valuesWords_proved : Rows.ValuesWordsCardSaid := Go.Proofs.YtnkmeafaggdfdaaDoorPe.Val.words_card
end Go.Proofs.YtnkmeafaggdfdaaDoor
