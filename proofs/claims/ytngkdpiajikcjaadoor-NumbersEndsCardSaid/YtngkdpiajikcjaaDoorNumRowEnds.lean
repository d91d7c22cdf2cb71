/- THE ROW of NumbersEnds: its contract, and its tied card. -/
import Derived.Test.YtngkdpiajikcjaaDoorNumRow
set_option maxRecDepth 1000000
set_option linter.unusedVariables false
namespace Go.Proofs.YtngkdpiajikcjaaDoorPe.Num
open Go Go.Proofs Go.Proofs.YtngkdpiajikcjaaDoor Go.RowKit Go.ChangeShapes Go.WideShapes Go.ChangeAt Go.Proofs.YtngkdpiajikcjaaDoorPe Go.Proofs.YtngkdpiajikcjaaDoorPe.NumCode

theorem ends_call : ∀ xs, TypedAll [.int .u8] xs → ∃ st', call (fnsOf Tryd.prog sh rows) given 7 xs ⟨[], []⟩ = some (.bool true, st') := by
  intro xs h
  obtain ⟨xa, rfl, ha⟩ := typed1 h
  obtain ⟨na, rfl, wa⟩ := ha
  exact lift (ends_law (in8 wa))

theorem ends_witness (os : Os) {H : Type} (enc : TypeId × Value → H) :
    (OpenSpec.ofChange Rows.numbersEndsSpec).preRow enc Tryd.prog Tryd.f7 Rows.numbersEndsRow.domain false Rows.numbersEndsRow.laid ((laidWorld os).forCall (fun _ _ => 0) ⟨#[], #[.int .u8 0], []⟩).memory #[.int .u8 0] := by
  have hw : (DataW.whole enc Tryd.prog ((laidWorld os).forCall (fun _ _ => 0) ⟨#[], #[.int .u8 0], []⟩).memory Tryd.f7.params.toList (OpenSpec.ofChange Rows.numbersEndsSpec).vars false (#[.int .u8 0] : Array Value).toList 8).map (fun x => (x.1, x.2.1)) =
      some ([.lit (.int .u8 0)], []) := by kernel_rfl
  obtain ⟨⟨x1, x2, x3⟩, hx, hx1⟩ := Option.map_eq_some_iff.1 hw
  simp only [Prod.mk.injEq] at hx1
  obtain ⟨rfl, rfl⟩ := hx1
  exact OpenSpec.preRow_of_cond 8 hx (by kernel_rfl) (fun k hk => by cases hk) (by kernel_rfl) (laidMet_of_run' 8 (by kernel_rfl) (by kernel_rfl))

theorem ends_lifted (os : Os) (started : os.Started) (H : Type) (enc : TypeId × Value → H) (F : Stop.Interp) :
    ReturnsInHanded {} Tryd.checked os 7 .any ((OpenSpec.ofChange Rows.numbersEndsSpec).preRow enc Tryd.prog Tryd.f7 Rows.numbersEndsRow.domain false Rows.numbersEndsRow.laid) (((OpenSpec.ofChange Rows.numbersEndsSpec).at F).post enc Tryd.prog Tryd.f7 false true false false) := by
  refine returnsInHanded_of_row (C := Tryd.checked) (s := OpenSpec.ofChange Rows.numbersEndsSpec) own started (by kernel_rfl) g7
    (witness_row_atRef (enc := enc) (C := Tryd.checked) false (laidWorld os) #[.int .u8 0] rfl (by kernel_rfl) (by kernel_rfl) (by kernel_rfl) (ends_witness os enc)) ?_
  intro W base args ds gs before hval hW _ _ _ hL _ _
  refine law_contract (ss := [.int .u8]) (tb := 4) follows_ok rows_ok.fok laidOut rfl ?_ ?_ (by kernel_rfl) (by kernel_rfl) ?_ ends_call (given_ok (tab_of hL)) hval hW
  · exact ⟨fits5, trivial⟩
  · intro t ht
    have h : Tryd.f7.params.toList = [5] := by kernel_rfl
    rw [h] at ht
    simp only [List.mem_cons, List.not_mem_nil, or_false] at ht
    subst ht <;> exact ⟨by kernel_rfl, of_decide_eq_true (by kernel_rfl)⟩
  · intro ds hd
    match ds, hd with
    | [da], _ => rfl

theorem ends_holds : Rows.NumbersEndsSaid :=
  OpenClaim.holds_of_cond 7 Tryd.f7 rfl rfl rfl rfl rfl rfl rfl ⟨rfl, rfl, rfl, rfl, rfl⟩ rfl rfl rfl rfl rfl (by kernel_rfl) g7 (by kernel_rfl)
    (of_decide_eq_true (by kernel_rfl)) (by unfold Func.isWrapper; rw [if_neg (of_decide_eq_false (by kernel_rfl))]; exact ⟨rfl, rfl⟩)
    (fun os started H enc _ F0 => by rw [OpenClaim.pre_eq_preRow]; exact ends_lifted os started H enc F0)

theorem ends_card : Rows.NumbersEndsCardSaid :=
  Claim7.holds_tied_plain_at .later [] [.data, .data, .data] true (true, "11530804ee873770c3867b2717b6f64100dd70ec0c840b8e7327d78e296d922d") false
    ends_holds (fun _ h => by cases h) (by kernel_rfl) (fun _ h => by cases h) numbersEnds_row_tie rfl ⟨rfl, rfl⟩ (by kernel_rfl) rfl
    (fun f fn hf hfn => by
      obtain rfl : f = 7 := Option.some.inj ((show Tryd.prog.funcNamed "whelk/whelklaw1.NumbersEnds" = some 7 by kernel_rfl).symm.trans hf) |>.symm
      obtain rfl : fn = Tryd.f7 := (Option.some.inj (g7.symm.trans hfn)).symm
      exact ⟨by kernel_rfl, fun j t ht => by
        have hp : Tryd.f7.params = #[5] := by kernel_rfl
        rw [hp] at ht
        have h3 : t ∈ ([5] : List TypeId) := by
          have := List.mem_of_getElem? (l := [5]) (i := j) (a := t) (by simpa using ht)
          exact this
        simp only [List.mem_cons, List.not_mem_nil, or_false] at h3
        subst h3 <;> exact (show Tryd.prog.wantsStandIn _ = false by kernel_rfl)⟩)
    (by kernel_rfl)

end Go.Proofs.YtngkdpiajikcjaaDoorPe.Num
namespace Go.Proofs.YtngkdpiajikcjaaDoor
/-- What is claimed. -/
theorem numbersEnds_proved : Rows.NumbersEndsCardSaid := Go.Proofs.YtngkdpiajikcjaaDoorPe.Num.ends_card
end Go.Proofs.YtngkdpiajikcjaaDoor
