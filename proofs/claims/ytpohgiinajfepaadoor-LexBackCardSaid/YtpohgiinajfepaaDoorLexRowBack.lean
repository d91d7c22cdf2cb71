/- THE ROW of LexBack: its contract, and its tied card. -/
import Derived.Test.YtpohgiinajfepaaDoorLexRow
import Derived.Test.YtpohgiinajfepaaDoorLexLexZ
set_option maxRecDepth 1000000
set_option linter.unusedVariables false
namespace Go.Proofs.YtpohgiinajfepaaDoorPe.Lex
open Go Go.Proofs Go.Proofs.YtpohgiinajfepaaDoor Go.RowKit Go.ChangeShapes Go.WideShapes Go.ChangeAt Go.Proofs.YtpohgiinajfepaaDoorPe Go.Proofs.YtpohgiinajfepaaDoorPe.LexCode

theorem back_call : ∀ xs, TypedAll [.sl (.int .u8), .sl (.int .u8)] xs → ∃ st', call (fnsOf Tryd.prog sh rows) given 4 xs ⟨[], [], [], []⟩ = some (.bool true, st') := by
  intro xs h
  obtain ⟨x, y, rfl, hx, hy⟩ := typed2 h
  obtain ⟨a, rfl⟩ := typedB hx
  obtain ⟨b, rfl⟩ := typedB hy
  exact lift (back_law a b)

theorem back_witness (os : Os) {H : Type} (enc : TypeId × Value → H) :
    (OpenSpec.ofChange Rows.lexBackSpec).preRow enc Tryd.prog Tryd.f4 Rows.lexBackRow.domain false Rows.lexBackRow.laid ((laidWorld os).forCall (fun _ _ => 0) ⟨#[], #[.slice none 0 0, .slice none 0 0], []⟩).memory #[.slice none 0 0, .slice none 0 0] := by
  have hw : (DataW.whole enc Tryd.prog ((laidWorld os).forCall (fun _ _ => 0) ⟨#[], #[.slice none 0 0, .slice none 0 0], []⟩).memory Tryd.f4.params.toList (OpenSpec.ofChange Rows.lexBackSpec).vars false (#[.slice none 0 0, .slice none 0 0] : Array Value).toList 8).map (fun x => (x.1, x.2.1)) =
      some ([.nil, .nil], []) := by kernel_rfl
  obtain ⟨⟨x1, x2, x3⟩, hx, hx1⟩ := Option.map_eq_some_iff.1 hw
  simp only [Prod.mk.injEq] at hx1
  obtain ⟨rfl, rfl⟩ := hx1
  exact OpenSpec.preRow_of_cond 8 hx (by kernel_rfl) (fun k hk => by cases hk) (by kernel_rfl) (laidMetH_of_parts (laidMet_of_run' 8 (by kernel_rfl) (by kernel_rfl)) (by kernel_rfl))

theorem back_lifted (os : Os) (started : os.Started) (H : Type) (enc : TypeId × Value → H) (F : Stop.Interp) :
    ReturnsInHanded {} Tryd.checked os 4 .any ((OpenSpec.ofChange Rows.lexBackSpec).preRow enc Tryd.prog Tryd.f4 Rows.lexBackRow.domain false Rows.lexBackRow.laid) (((OpenSpec.ofChange Rows.lexBackSpec).at F).post enc Tryd.prog Tryd.f4 false true false false) := by
  refine returnsInHanded_of_row (C := Tryd.checked) (s := OpenSpec.ofChange Rows.lexBackSpec) own started (by kernel_rfl) g4
    (witness_row_atRef (enc := enc) (C := Tryd.checked) false (laidWorld os) #[.slice none 0 0, .slice none 0 0] rfl (by kernel_rfl) (by kernel_rfl) (by kernel_rfl) (back_witness os enc)) ?_
  intro W base args ds gs before hval hW _ _ _ hL _ _
  refine law_contract (ss := [.sl (.int .u8), .sl (.int .u8)]) (tb := 4) follows_ok rows_ok.fok laidOut rfl ?_ ?_ (by kernel_rfl) (by kernel_rfl) ?_ back_call (given_ok (tab_of hL) (handle_of hL)) hval hW
  · exact ⟨fits22, fits22, trivial⟩
  · intro t ht
    have h : Tryd.f4.params.toList = [22, 22] := by kernel_rfl
    rw [h] at ht
    simp only [List.mem_cons, List.not_mem_nil, or_false] at ht
    rcases ht with rfl | rfl <;> exact ⟨by kernel_rfl, of_decide_eq_true (by kernel_rfl)⟩
  · intro ds hd
    match ds, hd with
    | [d0, d1], _ => rfl

theorem back_holds : Rows.LexBackSaid :=
  OpenClaim.holds_of_cond 4 Tryd.f4 rfl rfl rfl rfl rfl rfl rfl ⟨rfl, rfl, rfl, rfl, rfl⟩ rfl rfl rfl rfl rfl (by kernel_rfl) g4 (by kernel_rfl)
    (of_decide_eq_true (by kernel_rfl)) (by unfold Func.isWrapper; rw [if_neg (of_decide_eq_false (by kernel_rfl))]; exact ⟨rfl, rfl⟩)
    (fun os started H enc _ F0 => by rw [OpenClaim.pre_eq_preRow]; exact back_lifted os started H enc F0)

theorem back_card : Rows.LexBackCardSaid :=
  Claim7.holds_tied_plain_at .later [] [.data, .data, .data, .handle] true (true, "41ed655162c58f08dccbc67ed1b66264d2f5aded32ba8a6925aafa8e75d89ea7") true
    back_holds (fun _ h => by cases h) (by kernel_rfl) (fun _ h => by cases h) lexBack_row_tie rfl ⟨rfl, rfl⟩ (by kernel_rfl) rfl
    (fun f fn hf hfn => by
      obtain rfl : f = 4 := Option.some.inj ((show Tryd.prog.funcNamed "whelk/whelklaw4.LexBack" = some 4 by kernel_rfl).symm.trans hf) |>.symm
      obtain rfl : fn = Tryd.f4 := (Option.some.inj (g4.symm.trans hfn)).symm
      exact ⟨by kernel_rfl, fun j t ht => by
        have hp : Tryd.f4.params = #[22, 22] := by kernel_rfl
        rw [hp] at ht
        have h3 : t ∈ ([22, 22] : List TypeId) := by
          have := List.mem_of_getElem? (l := [22, 22]) (i := j) (a := t) (by simpa using ht)
          exact this
        simp only [List.mem_cons, List.not_mem_nil, or_false] at h3
        rcases h3 with rfl | rfl <;> exact (show Tryd.prog.wantsStandIn _ = false by kernel_rfl)⟩)
    (by kernel_rfl)

end Go.Proofs.YtpohgiinajfepaaDoorPe.Lex
namespace Go.Proofs.YtpohgiinajfepaaDoor
/-- What is claimed. -/
theorem lexBack_proved : Rows.LexBackCardSaid := Go.Proofs.YtpohgiinajfepaaDoorPe.Lex.back_card
end Go.Proofs.YtpohgiinajfepaaDoor
