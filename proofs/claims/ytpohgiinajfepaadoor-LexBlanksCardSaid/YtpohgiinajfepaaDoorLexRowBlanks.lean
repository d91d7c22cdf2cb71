/- THE ROW of LexBlanks: its contract, and its tied card. -/
import Derived.Test.YtpohgiinajfepaaDoorLexRow
import Derived.Test.YtpohgiinajfepaaDoorLexLexY
set_option maxRecDepth 1000000
set_option linter.unusedVariables false
namespace Go.Proofs.YtpohgiinajfepaaDoorPe.Lex
open Go Go.Proofs Go.Proofs.YtpohgiinajfepaaDoor Go.RowKit Go.ChangeShapes Go.WideShapes Go.ChangeAt Go.Proofs.YtpohgiinajfepaaDoorPe Go.Proofs.YtpohgiinajfepaaDoorPe.LexCode

theorem blanks_call : ∀ xs, TypedAll [.sl (.int .u8)] xs → ∃ st', call (fnsOf Tryd.prog sh rows) given 7 xs ⟨[], [], [], []⟩ = some (.bool true, st') := by
  intro xs h
  obtain ⟨x, rfl, hx⟩ := typed1 h
  obtain ⟨b, rfl⟩ := typedB hx
  exact lift (blanks_law b)

theorem blanks_witness (os : Os) {H : Type} (enc : TypeId × Value → H) :
    (OpenSpec.ofChange Rows.lexBlanksSpec).preRow enc Tryd.prog Tryd.f7 Rows.lexBlanksRow.domain false Rows.lexBlanksRow.laid ((laidWorld os).forCall (fun _ _ => 0) ⟨#[], #[.slice none 0 0], []⟩).memory #[.slice none 0 0] := by
  have hw : (DataW.whole enc Tryd.prog ((laidWorld os).forCall (fun _ _ => 0) ⟨#[], #[.slice none 0 0], []⟩).memory Tryd.f7.params.toList (OpenSpec.ofChange Rows.lexBlanksSpec).vars false (#[.slice none 0 0] : Array Value).toList 8).map (fun x => (x.1, x.2.1)) =
      some ([.nil], []) := by kernel_rfl
  obtain ⟨⟨x1, x2, x3⟩, hx, hx1⟩ := Option.map_eq_some_iff.1 hw
  simp only [Prod.mk.injEq] at hx1
  obtain ⟨rfl, rfl⟩ := hx1
  exact OpenSpec.preRow_of_cond 8 hx (by kernel_rfl) (fun k hk => by cases hk) (by kernel_rfl) (laidMetH_of_parts (laidMet_of_run' 8 (by kernel_rfl) (by kernel_rfl)) (by kernel_rfl))

theorem blanks_lifted (os : Os) (started : os.Started) (H : Type) (enc : TypeId × Value → H) (F : Stop.Interp) :
    ReturnsInHanded {} Tryd.checked os 7 .any ((OpenSpec.ofChange Rows.lexBlanksSpec).preRow enc Tryd.prog Tryd.f7 Rows.lexBlanksRow.domain false Rows.lexBlanksRow.laid) (((OpenSpec.ofChange Rows.lexBlanksSpec).at F).post enc Tryd.prog Tryd.f7 false true false false) := by
  refine returnsInHanded_of_row (C := Tryd.checked) (s := OpenSpec.ofChange Rows.lexBlanksSpec) own started (by kernel_rfl) g7
    (witness_row_atRef (enc := enc) (C := Tryd.checked) false (laidWorld os) #[.slice none 0 0] rfl (by kernel_rfl) (by kernel_rfl) (by kernel_rfl) (blanks_witness os enc)) ?_
  intro W base args ds gs before hval hW _ _ _ hL _ _
  refine law_contract (ss := [.sl (.int .u8)]) (tb := 4) follows_ok rows_ok.fok laidOut rfl ?_ ?_ (by kernel_rfl) (by kernel_rfl) ?_ blanks_call (given_ok (tab_of hL) (handle_of hL)) hval hW
  · exact ⟨fits22, trivial⟩
  · intro t ht
    have h : Tryd.f7.params.toList = [22] := by kernel_rfl
    rw [h] at ht
    simp only [List.mem_cons, List.not_mem_nil, or_false] at ht
    subst ht <;> exact ⟨by kernel_rfl, of_decide_eq_true (by kernel_rfl)⟩
  · intro ds hd
    match ds, hd with
    | [d0], _ => rfl

theorem blanks_holds : Rows.LexBlanksSaid :=
  OpenClaim.holds_of_cond 7 Tryd.f7 rfl rfl rfl rfl rfl rfl rfl ⟨rfl, rfl, rfl, rfl, rfl⟩ rfl rfl rfl rfl rfl (by kernel_rfl) g7 (by kernel_rfl)
    (of_decide_eq_true (by kernel_rfl)) (by unfold Func.isWrapper; rw [if_neg (of_decide_eq_false (by kernel_rfl))]; exact ⟨rfl, rfl⟩)
    (fun os started H enc _ F0 => by rw [OpenClaim.pre_eq_preRow]; exact blanks_lifted os started H enc F0)

theorem blanks_card : Rows.LexBlanksCardSaid :=
  Claim7.holds_tied_plain_at .later [] [.data, .data, .data, .handle] true (true, "41ed655162c58f08dccbc67ed1b66264d2f5aded32ba8a6925aafa8e75d89ea7") true
    blanks_holds (fun _ h => by cases h) (by kernel_rfl) (fun _ h => by cases h) lexBlanks_row_tie rfl ⟨rfl, rfl⟩ (by kernel_rfl) rfl
    (fun f fn hf hfn => by
      obtain rfl : f = 7 := Option.some.inj ((show Tryd.prog.funcNamed "whelk/whelklaw4.LexBlanks" = some 7 by kernel_rfl).symm.trans hf) |>.symm
      obtain rfl : fn = Tryd.f7 := (Option.some.inj (g7.symm.trans hfn)).symm
      exact ⟨by kernel_rfl, fun j t ht => by
        have hp : Tryd.f7.params = #[22] := by kernel_rfl
        rw [hp] at ht
        have h3 : t ∈ ([22] : List TypeId) := by
          have := List.mem_of_getElem? (l := [22]) (i := j) (a := t) (by simpa using ht)
          exact this
        simp only [List.mem_cons, List.not_mem_nil, or_false] at h3
        subst h3 <;> exact (show Tryd.prog.wantsStandIn _ = false by kernel_rfl)⟩)
    (by kernel_rfl)

end Go.Proofs.YtpohgiinajfepaaDoorPe.Lex
namespace Go.Proofs.YtpohgiinajfepaaDoor
/-- What is claimed. -/
theorem lexBlanks_proved : Rows.LexBlanksCardSaid := Go.Proofs.YtpohgiinajfepaaDoorPe.Lex.blanks_card
end Go.Proofs.YtpohgiinajfepaaDoor
