/- THE ROW of NumbersTurn: its contract, and its tied card. -/
import Derived.Test.YtngkdpiajikcjaaDoorNumRow
set_option maxRecDepth 1000000
set_option linter.unusedVariables false
namespace Go.Proofs.YtngkdpiajikcjaaDoorPe.Num
open Go Go.Proofs Go.Proofs.YtngkdpiajikcjaaDoor Go.RowKit Go.ChangeShapes Go.WideShapes Go.ChangeAt Go.Proofs.YtngkdpiajikcjaaDoorPe Go.Proofs.YtngkdpiajikcjaaDoorPe.NumCode

theorem turn_call : ∀ xs, TypedAll [.int .i64, .int .i64] xs → ∃ st', call (fnsOf Tryd.prog sh rows) given 8 xs ⟨[], []⟩ = some (.bool true, st') := by
  intro xs h
  obtain ⟨xa, xb, rfl, ha, hb⟩ := typed2 h
  obtain ⟨na, rfl, wa⟩ := ha
  obtain ⟨nb, rfl, wb⟩ := hb
  exact lift (turn_law (in64 wa) (in64 wb))

theorem turn_witness (os : Os) {H : Type} (enc : TypeId × Value → H) :
    (OpenSpec.ofChange Rows.numbersTurnSpec).preRow enc Tryd.prog Tryd.f8 Rows.numbersTurnRow.domain false Rows.numbersTurnRow.laid ((laidWorld os).forCall (fun _ _ => 0) ⟨#[], #[.int .i64 0, .int .i64 0], []⟩).memory #[.int .i64 0, .int .i64 0] := by
  have hw : (DataW.whole enc Tryd.prog ((laidWorld os).forCall (fun _ _ => 0) ⟨#[], #[.int .i64 0, .int .i64 0], []⟩).memory Tryd.f8.params.toList (OpenSpec.ofChange Rows.numbersTurnSpec).vars false (#[.int .i64 0, .int .i64 0] : Array Value).toList 8).map (fun x => (x.1, x.2.1)) =
      some ([.lit (.int .i64 0), .lit (.int .i64 0)], []) := by kernel_rfl
  obtain ⟨⟨x1, x2, x3⟩, hx, hx1⟩ := Option.map_eq_some_iff.1 hw
  simp only [Prod.mk.injEq] at hx1
  obtain ⟨rfl, rfl⟩ := hx1
  exact OpenSpec.preRow_of_cond 8 hx (by kernel_rfl) (fun k hk => by cases hk) (by kernel_rfl) (laidMet_of_run' 8 (by kernel_rfl) (by kernel_rfl))

theorem turn_lifted (os : Os) (started : os.Started) (H : Type) (enc : TypeId × Value → H) (F : Stop.Interp) :
    ReturnsInHanded {} Tryd.checked os 8 .any ((OpenSpec.ofChange Rows.numbersTurnSpec).preRow enc Tryd.prog Tryd.f8 Rows.numbersTurnRow.domain false Rows.numbersTurnRow.laid) (((OpenSpec.ofChange Rows.numbersTurnSpec).at F).post enc Tryd.prog Tryd.f8 false true false false) := by
  refine returnsInHanded_of_row (C := Tryd.checked) (s := OpenSpec.ofChange Rows.numbersTurnSpec) own started (by kernel_rfl) g8
    (witness_row_atRef (enc := enc) (C := Tryd.checked) false (laidWorld os) #[.int .i64 0, .int .i64 0] rfl (by kernel_rfl) (by kernel_rfl) (by kernel_rfl) (turn_witness os enc)) ?_
  intro W base args ds gs before hval hW _ _ _ hL _ _
  refine law_contract (ss := [.int .i64, .int .i64]) (tb := 4) follows_ok rows_ok.fok laidOut rfl ?_ ?_ (by kernel_rfl) (by kernel_rfl) ?_ turn_call (given_ok (tab_of hL)) hval hW
  · exact ⟨fits2, fits2, trivial⟩
  · intro t ht
    have h : Tryd.f8.params.toList = [2, 2] := by kernel_rfl
    rw [h] at ht
    simp only [List.mem_cons, List.not_mem_nil, or_false] at ht
    rcases ht with rfl | rfl <;> exact ⟨by kernel_rfl, of_decide_eq_true (by kernel_rfl)⟩
  · intro ds hd
    match ds, hd with
    | [da, db], _ => rfl

theorem turn_holds : Rows.NumbersTurnSaid :=
  OpenClaim.holds_of_cond 8 Tryd.f8 rfl rfl rfl rfl rfl rfl rfl ⟨rfl, rfl, rfl, rfl, rfl⟩ rfl rfl rfl rfl rfl (by kernel_rfl) g8 (by kernel_rfl)
    (of_decide_eq_true (by kernel_rfl)) (by unfold Func.isWrapper; rw [if_neg (of_decide_eq_false (by kernel_rfl))]; exact ⟨rfl, rfl⟩)
    (fun os started H enc _ F0 => by rw [OpenClaim.pre_eq_preRow]; exact turn_lifted os started H enc F0)

theorem turn_card : Rows.NumbersTurnCardSaid :=
  Claim7.holds_tied_plain_at .later [] [.data, .data, .data] true (true, "11530804ee873770c3867b2717b6f64100dd70ec0c840b8e7327d78e296d922d") false
    turn_holds (fun _ h => by cases h) (by kernel_rfl) (fun _ h => by cases h) numbersTurn_row_tie rfl ⟨rfl, rfl⟩ (by kernel_rfl) rfl
    (fun f fn hf hfn => by
      obtain rfl : f = 8 := Option.some.inj ((show Tryd.prog.funcNamed "whelk/whelklaw1.NumbersTurn" = some 8 by kernel_rfl).symm.trans hf) |>.symm
      obtain rfl : fn = Tryd.f8 := (Option.some.inj (g8.symm.trans hfn)).symm
      exact ⟨by kernel_rfl, fun j t ht => by
        have hp : Tryd.f8.params = #[2, 2] := by kernel_rfl
        rw [hp] at ht
        have h3 : t ∈ ([2, 2] : List TypeId) := by
          have := List.mem_of_getElem? (l := [2, 2]) (i := j) (a := t) (by simpa using ht)
          exact this
        simp only [List.mem_cons, List.not_mem_nil, or_false] at h3
        rcases h3 with rfl | rfl <;> exact (show Tryd.prog.wantsStandIn _ = false by kernel_rfl)⟩)
    (by kernel_rfl)

end Go.Proofs.YtngkdpiajikcjaaDoorPe.Num
namespace Go.Proofs.YtngkdpiajikcjaaDoor
/-- What is claimed. -/
theorem numbersTurn_proved : Rows.NumbersTurnCardSaid := Go.Proofs.YtngkdpiajikcjaaDoorPe.Num.turn_card
end Go.Proofs.YtngkdpiajikcjaaDoor
