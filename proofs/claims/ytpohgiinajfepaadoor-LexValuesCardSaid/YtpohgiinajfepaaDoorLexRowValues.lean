/- THE ROW of LexValues: its contract, and its tied card. -/
import Derived.Test.YtpohgiinajfepaaDoorLexRow
import Derived.Test.YtpohgiinajfepaaDoorLexLexW
set_option maxRecDepth 1000000
set_option linter.unusedVariables false
namespace Go.Proofs.YtpohgiinajfepaaDoorPe.Lex
open Go Go.Proofs Go.Proofs.YtpohgiinajfepaaDoor Go.RowKit Go.ChangeShapes Go.WideShapes Go.ChangeAt Go.Proofs.YtpohgiinajfepaaDoorPe Go.Proofs.YtpohgiinajfepaaDoorPe.LexCode

theorem values_call : ∀ xs, TypedAll [.st3 (.int .i64) (.int .i64) .str] xs → ∃ st', call (fnsOf Tryd.prog sh rows) given 5 xs ⟨[], [], [], []⟩ = some (.bool true, st') := by
  intro xs h
  obtain ⟨x, rfl, hx⟩ := typed1 h
  obtain ⟨v, rfl, _, hi, hs⟩ := typedV hx
  exact lift (values_law v hi hs)

theorem values_witness (os : Os) {H : Type} (enc : TypeId × Value → H) :
    (OpenSpec.ofChange Rows.lexValuesSpec).preRow enc Tryd.prog Tryd.f5 Rows.lexValuesRow.domain false Rows.lexValuesRow.laid ((laidWorld os).forCall (fun _ _ => 0) ⟨#[], #[.agg #[.int .i64 0, .int .i64 0, .string ⟨⟨[]⟩⟩]], []⟩).memory #[.agg #[.int .i64 0, .int .i64 0, .string ⟨⟨[]⟩⟩]] := by
  have hw : (DataW.whole enc Tryd.prog ((laidWorld os).forCall (fun _ _ => 0) ⟨#[], #[.agg #[.int .i64 0, .int .i64 0, .string ⟨⟨[]⟩⟩]], []⟩).memory Tryd.f5.params.toList (OpenSpec.ofChange Rows.lexValuesSpec).vars false (#[.agg #[.int .i64 0, .int .i64 0, .string ⟨⟨[]⟩⟩]] : Array Value).toList 8).map (fun x => (x.1, x.2.1)) =
      some ([.agg [.lit (.int .i64 0), .lit (.int .i64 0), .lit (.string [])]], []) := by kernel_rfl
  obtain ⟨⟨x1, x2, x3⟩, hx, hx1⟩ := Option.map_eq_some_iff.1 hw
  simp only [Prod.mk.injEq] at hx1
  obtain ⟨rfl, rfl⟩ := hx1
  exact OpenSpec.preRow_of_cond 8 hx (by kernel_rfl) (fun k hk => by cases hk) (by kernel_rfl) (laidMetH_of_parts (laidMet_of_run' 8 (by kernel_rfl) (by kernel_rfl)) (by kernel_rfl))

theorem values_lifted (os : Os) (started : os.Started) (H : Type) (enc : TypeId × Value → H) (F : Stop.Interp) :
    ReturnsInHanded {} Tryd.checked os 5 .any ((OpenSpec.ofChange Rows.lexValuesSpec).preRow enc Tryd.prog Tryd.f5 Rows.lexValuesRow.domain false Rows.lexValuesRow.laid) (((OpenSpec.ofChange Rows.lexValuesSpec).at F).post enc Tryd.prog Tryd.f5 false true false false) := by
  refine returnsInHanded_of_row (C := Tryd.checked) (s := OpenSpec.ofChange Rows.lexValuesSpec) own started (by kernel_rfl) g5
    (witness_row_atRef (enc := enc) (C := Tryd.checked) false (laidWorld os) #[.agg #[.int .i64 0, .int .i64 0, .string ⟨⟨[]⟩⟩]] rfl (by kernel_rfl) (by kernel_rfl) (by kernel_rfl) (values_witness os enc)) ?_
  intro W base args ds gs before hval hW _ _ _ hL _ _
  refine law_contract (ss := [.st3 (.int .i64) (.int .i64) .str]) (tb := 4) follows_ok rows_ok.fok laidOut rfl ?_ ?_ (by kernel_rfl) (by kernel_rfl) ?_ values_call (given_ok (tab_of hL) (handle_of hL)) hval hW
  · exact ⟨fits48, trivial⟩
  · intro t ht
    have h : Tryd.f5.params.toList = [48] := by kernel_rfl
    rw [h] at ht
    simp only [List.mem_cons, List.not_mem_nil, or_false] at ht
    subst ht <;> exact ⟨by kernel_rfl, of_decide_eq_true (by kernel_rfl)⟩
  · intro ds hd
    match ds, hd with
    | [d0], _ => rfl

theorem values_holds : Rows.LexValuesSaid :=
  OpenClaim.holds_of_cond 5 Tryd.f5 rfl rfl rfl rfl rfl rfl rfl ⟨rfl, rfl, rfl, rfl, rfl⟩ rfl rfl rfl rfl rfl (by kernel_rfl) g5 (by kernel_rfl)
    (of_decide_eq_true (by kernel_rfl)) (by unfold Func.isWrapper; rw [if_neg (of_decide_eq_false (by kernel_rfl))]; exact ⟨rfl, rfl⟩)
    (fun os started H enc _ F0 => by rw [OpenClaim.pre_eq_preRow]; exact values_lifted os started H enc F0)

theorem values_card : Rows.LexValuesCardSaid :=
  Claim7.holds_tied_plain_at .later [] [.data, .data, .data, .handle] true (true, "41ed655162c58f08dccbc67ed1b66264d2f5aded32ba8a6925aafa8e75d89ea7") true
    values_holds (fun _ h => by cases h) (by kernel_rfl) (fun _ h => by cases h) lexValues_row_tie rfl ⟨rfl, rfl⟩ (by kernel_rfl) rfl
    (fun f fn hf hfn => by
      obtain rfl : f = 5 := Option.some.inj ((show Tryd.prog.funcNamed "whelk/whelklaw4.LexValues" = some 5 by kernel_rfl).symm.trans hf) |>.symm
      obtain rfl : fn = Tryd.f5 := (Option.some.inj (g5.symm.trans hfn)).symm
      exact ⟨by kernel_rfl, fun j t ht => by
        have hp : Tryd.f5.params = #[48] := by kernel_rfl
        rw [hp] at ht
        have h3 : t ∈ ([48] : List TypeId) := by
          have := List.mem_of_getElem? (l := [48]) (i := j) (a := t) (by simpa using ht)
          exact this
        simp only [List.mem_cons, List.not_mem_nil, or_false] at h3
        subst h3 <;> exact (show Tryd.prog.wantsStandIn _ = false by kernel_rfl)⟩)
    (by kernel_rfl)

end Go.Proofs.YtpohgiinajfepaaDoorPe.Lex
namespace Go.Proofs.YtpohgiinajfepaaDoor
/-- What is claimed. -/
theorem lexValues_proved : Rows.LexValuesCardSaid := Go.Proofs.YtpohgiinajfepaaDoorPe.Lex.values_card
end Go.Proofs.YtpohgiinajfepaaDoor
