/- THE ROW of DeltaMerges. -/
import Derived.Test.YtngkdpiajikcjaaDeltaRow
import Derived.Test.YtngkdpiajikcjaaDeltaDMerges
set_option maxRecDepth 1000000
set_option linter.unusedVariables false
namespace Go.Proofs.YtngkdpiajikcjaaPe.Delta
open Go Go.Proofs Go.Proofs.Ytngkdpiajikcjaa Go.RowKit Go.ChangeShapes Go.WideShapes Go.ChangeAt Go.Proofs.YtngkdpiajikcjaaPe Go.Proofs.YtngkdpiajikcjaaPe.DeltaCode

theorem rows3 : ∀ {l : List PV}, (∀ y ∈ l, Typed (.sl (.sl (.int .i64))) y) → ∃ a : List (List (List Int)), l = a.map rowsP
  | [], _ => ⟨[], rfl⟩
  | y :: l, h => by
    obtain ⟨m, rfl, _, hm⟩ := h y (by simp)
    obtain ⟨b, rfl⟩ := rowsT hm
    obtain ⟨a, rfl⟩ := rows3 (l := l) fun y hy => h y (by simp [hy])
    exact ⟨b :: a, rfl⟩

theorem merges_call : ∀ xs, TypedAll [.sl (.sl (.sl (.int .i64)))] xs → ∃ st', call (fnsOf Try.prog sh outR) given 4 xs ⟨[], []⟩ = some (.bool true, st') := by
  intro xs h
  obtain ⟨xa, rfl, ha⟩ := typed1 h
  obtain ⟨la, rfl, _, ea⟩ := ha
  obtain ⟨a, rfl⟩ := rows3 ea
  exact lift merges_law

theorem merges_lifted (os : Os) (started : os.Started) (H : Type) (enc : TypeId × Value → H) :
    ReturnsInHanded {} Try.checked os 4 .any (Rows.deltaMergesSpec.pre6 enc Try.prog Try.f4 Rows.deltaMergesRow.domain false) (Rows.deltaMergesSpec.post enc Try.prog Try.f4 false true false false) := by
  refine returnsInHanded_of_change (C := Try.checked) own started (by kernel_rfl) g4
    (ChangeSpec.witness6 (enc := enc) (C := Try.checked) false ⟨#[], #[.slice none 0 0], []⟩ 8 (by kernel_rfl) (by kernel_rfl) (by kernel_rfl) (by kernel_rfl)) ?_
  intro W base args ds gs before hval hW hcnd _
  refine law_contract (ss := [.sl (.sl (.sl (.int .i64)))]) (tb := 4) follows_ok out_ok.fok laidOut rfl ?_ ?_ (by kernel_rfl) (by kernel_rfl) ?_ merges_call given_ok hval hW
  · exact ⟨fits39, trivial⟩
  · intro t ht
    have : t = 39 := by
      have h : Try.f4.params.toList = [39] := by kernel_rfl
      rw [h] at ht
      simpa using ht
    subst this
    exact ⟨by kernel_rfl, of_decide_eq_true (by kernel_rfl)⟩
  · intro ds hd
    match ds, hd with
    | [a], _ => rfl

theorem merges_holds : Rows.DeltaMergesSaid :=
  OpenClaim.holds_of_wide 4 Try.f4 rfl rfl rfl rfl rfl rfl rfl ⟨rfl, rfl, rfl, rfl, rfl⟩ rfl rfl rfl rfl rfl (by kernel_rfl) g4 (by kernel_rfl)
    (of_decide_eq_true (by kernel_rfl)) (by unfold Func.isWrapper; first | (rw [if_pos (by decide +kernel)]; kernel_rfl) | (rw [if_neg (by decide +kernel)]; exact ⟨rfl, rfl⟩))
    (fun os started H enc _ => merges_lifted os started H enc)
end Go.Proofs.YtngkdpiajikcjaaPe.Delta
namespace Go.Proofs.Ytngkdpiajikcjaa
/-- What is claimed. -/
theorem deltaMerges_proved : Rows.DeltaMergesSaid := Go.Proofs.YtngkdpiajikcjaaPe.Delta.merges_holds
end Go.Proofs.Ytngkdpiajikcjaa
