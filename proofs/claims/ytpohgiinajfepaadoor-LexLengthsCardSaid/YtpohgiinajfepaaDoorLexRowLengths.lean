/- THE ROW of LexLengths: its contract, and its tied card. -/
import Derived.Test.YtpohgiinajfepaaDoorLexRow
import Derived.Test.YtpohgiinajfepaaDoorLexLexX
set_option maxRecDepth 1000000
set_option linter.unusedVariables false
namespace Go.Proofs.YtpohgiinajfepaaDoorPe.Lex
open Go Go.Proofs Go.Proofs.YtpohgiinajfepaaDoor Go.RowKit Go.ChangeShapes Go.WideShapes Go.ChangeAt Go.Proofs.YtpohgiinajfepaaDoorPe Go.Proofs.YtpohgiinajfepaaDoorPe.LexCode

theorem lengths_call : ∀ xs, TypedAll [.int .i64, .int .u8] xs → ∃ st', call (fnsOf Tryd.prog sh rows) given 6 xs ⟨[], [], [], []⟩ = some (.bool true, st') := by
  intro xs h
  obtain ⟨x, y, rfl, ⟨n, rfl, hn⟩, ⟨k, rfl, hk⟩⟩ := typed2 h
  exact lift (lengths_law n (in64 hn) k (in8 hk))

theorem lengths_witness (os : Os) {H : Type} (enc : TypeId × Value → H) :
    (OpenSpec.ofChange Rows.lexLengthsSpec).preRow enc Tryd.prog Tryd.f6 Rows.lexLengthsRow.domain false Rows.lexLengthsRow.laid ((laidWorld os).forCall (fun _ _ => 0) ⟨#[], #[.int .i64 0, .int .u8 0], []⟩).memory #[.int .i64 0, .int .u8 0] := by
  have hw : (DataW.whole enc Tryd.prog ((laidWorld os).forCall (fun _ _ => 0) ⟨#[], #[.int .i64 0, .int .u8 0], []⟩).memory Tryd.f6.params.toList (OpenSpec.ofChange Rows.lexLengthsSpec).vars false (#[.int .i64 0, .int .u8 0] : Array Value).toList 8).map (fun x => (x.1, x.2.1)) =
      some ([.lit (.int .i64 0), .lit (.int .u8 0)], []) := by kernel_rfl
  obtain ⟨⟨x1, x2, x3⟩, hx, hx1⟩ := Option.map_eq_some_iff.1 hw
  simp only [Prod.mk.injEq] at hx1
  obtain ⟨rfl, rfl⟩ := hx1
  exact OpenSpec.preRow_of_cond 8 hx (by kernel_rfl) (fun k hk => by cases hk) (by kernel_rfl) (laidMetH_of_parts (laidMet_of_run' 8 (by kernel_rfl) (by kernel_rfl)) (by kernel_rfl))

theorem lengths_lifted (os : Os) (started : os.Started) (H : Type) (enc : TypeId × Value → H) (F : Stop.Interp) :
    ReturnsInHanded {} Tryd.checked os 6 .any ((OpenSpec.ofChange Rows.lexLengthsSpec).preRow enc Tryd.prog Tryd.f6 Rows.lexLengthsRow.domain false Rows.lexLengthsRow.laid) (((OpenSpec.ofChange Rows.lexLengthsSpec).at F).post enc Tryd.prog Tryd.f6 false true false false) := by
  refine returnsInHanded_of_row (C := Tryd.checked) (s := OpenSpec.ofChange Rows.lexLengthsSpec) own started (by kernel_rfl) g6
    (witness_row_atRef (enc := enc) (C := Tryd.checked) false (laidWorld os) #[.int .i64 0, .int .u8 0] rfl (by kernel_rfl) (by kernel_rfl) (by kernel_rfl) (lengths_witness os enc)) ?_
  intro W base args ds gs before hval hW _ _ _ hL _ _
  refine law_contract (ss := [.int .i64, .int .u8]) (tb := 4) follows_ok rows_ok.fok laidOut rfl ?_ ?_ (by kernel_rfl) (by kernel_rfl) ?_ lengths_call (given_ok (tab_of hL) (handle_of hL)) hval hW
  · exact ⟨fits3, fits5, trivial⟩
  · intro t ht
    have h : Tryd.f6.params.toList = [3, 5] := by kernel_rfl
    rw [h] at ht
    simp only [List.mem_cons, List.not_mem_nil, or_false] at ht
    rcases ht with rfl | rfl <;> exact ⟨by kernel_rfl, of_decide_eq_true (by kernel_rfl)⟩
  · intro ds hd
    match ds, hd with
    | [d0, d1], _ => rfl

theorem lengths_holds : Rows.LexLengthsSaid :=
  OpenClaim.holds_of_cond 6 Tryd.f6 rfl rfl rfl rfl rfl rfl rfl ⟨rfl, rfl, rfl, rfl, rfl⟩ rfl rfl rfl rfl rfl (by kernel_rfl) g6 (by kernel_rfl)
    (of_decide_eq_true (by kernel_rfl)) (by unfold Func.isWrapper; rw [if_neg (of_decide_eq_false (by kernel_rfl))]; exact ⟨rfl, rfl⟩)
    (fun os started H enc _ F0 => by rw [OpenClaim.pre_eq_preRow]; exact lengths_lifted os started H enc F0)

theorem lengths_card : Rows.LexLengthsCardSaid :=
  Claim7.holds_tied_plain_at .later [] [.data, .data, .data, .handle] true (true, "41ed655162c58f08dccbc67ed1b66264d2f5aded32ba8a6925aafa8e75d89ea7") true
    lengths_holds (fun _ h => by cases h) (by kernel_rfl) (fun _ h => by cases h) lexLengths_row_tie rfl ⟨rfl, rfl⟩ (by kernel_rfl) rfl
    (fun f fn hf hfn => by
      obtain rfl : f = 6 := Option.some.inj ((show Tryd.prog.funcNamed "whelk/whelklaw4.LexLengths" = some 6 by kernel_rfl).symm.trans hf) |>.symm
      obtain rfl : fn = Tryd.f6 := (Option.some.inj (g6.symm.trans hfn)).symm
      exact ⟨by kernel_rfl, fun j t ht => by
        have hp : Tryd.f6.params = #[3, 5] := by kernel_rfl
        rw [hp] at ht
        have h3 : t ∈ ([3, 5] : List TypeId) := by
          have := List.mem_of_getElem? (l := [3, 5]) (i := j) (a := t) (by simpa using ht)
          exact this
        simp only [List.mem_cons, List.not_mem_nil, or_false] at h3
        rcases h3 with rfl | rfl <;> exact (show Tryd.prog.wantsStandIn _ = false by kernel_rfl)⟩)
    (by kernel_rfl)

end Go.Proofs.YtpohgiinajfepaaDoorPe.Lex
namespace Go.Proofs.YtpohgiinajfepaaDoor
/-- What is claimed. -/
theorem lexLengths_proved : Rows.LexLengthsCardSaid := Go.Proofs.YtpohgiinajfepaaDoorPe.Lex.lengths_card
end Go.Proofs.YtpohgiinajfepaaDoor
