/- THE ROW of DeltaAny. -/
import Derived.Test.YtngkdpiajikcjaaDeltaRow
import Derived.Test.YtngkdpiajikcjaaDeltaDAny
set_option maxRecDepth 1000000
set_option linter.unusedVariables false
namespace Go.Proofs.YtngkdpiajikcjaaPe.Delta
open Go Go.Proofs Go.Proofs.Ytngkdpiajikcjaa Go.RowKit Go.ChangeShapes Go.WideShapes Go.ChangeAt Go.Proofs.YtngkdpiajikcjaaPe Go.Proofs.YtngkdpiajikcjaaPe.DeltaCode

theorem any_call : ∀ xs, TypedAll [.sl (.sl (.int .i64)), .sl (.sl (.int .i64))] xs → ∃ st', call (fnsOf Try.prog sh outR) given 3 xs ⟨[], []⟩ = some (.bool true, st') := by
  intro xs h
  obtain ⟨xa, xb, rfl, ha, hb⟩ := typed2 h
  obtain ⟨la, rfl, _, ea⟩ := ha
  obtain ⟨lb, rfl, _, eb⟩ := hb
  obtain ⟨a, rfl⟩ := rowsT ea
  obtain ⟨b, rfl⟩ := rowsT eb
  exact lift any_law

theorem any_lifted (os : Os) (started : os.Started) (H : Type) (enc : TypeId × Value → H) :
    ReturnsInHanded {} Try.checked os 3 .any (Rows.deltaAnySpec.pre6 enc Try.prog Try.f3 Rows.deltaAnyRow.domain false) (Rows.deltaAnySpec.post enc Try.prog Try.f3 false true false false) := by
  refine returnsInHanded_of_change (C := Try.checked) own started (by kernel_rfl) g3
    (ChangeSpec.witness6 (enc := enc) (C := Try.checked) false ⟨#[], #[.slice none 0 0, .slice none 0 0], []⟩ 8 (by kernel_rfl) (by kernel_rfl) (by kernel_rfl) (by kernel_rfl)) ?_
  intro W base args ds gs before hval hW hcnd _
  refine law_contract (ss := [.sl (.sl (.int .i64)), .sl (.sl (.int .i64))]) (tb := 4) follows_ok out_ok.fok laidOut rfl ?_ ?_ (by kernel_rfl) (by kernel_rfl) ?_ any_call given_ok hval hW
  · exact ⟨fits22, fits22, trivial⟩
  · intro t ht
    have : t = 22 := by
      have h : Try.f3.params.toList = [22, 22] := by kernel_rfl
      rw [h] at ht
      simpa using ht
    subst this
    exact ⟨by kernel_rfl, of_decide_eq_true (by kernel_rfl)⟩
  · intro ds hd
    match ds, hd with
    | [a, b], _ => rfl

theorem any_holds : Rows.DeltaAnySaid :=
  OpenClaim.holds_of_wide 3 Try.f3 rfl rfl rfl rfl rfl rfl rfl ⟨rfl, rfl, rfl, rfl, rfl⟩ rfl rfl rfl rfl rfl (by kernel_rfl) g3 (by kernel_rfl)
    (of_decide_eq_true (by kernel_rfl)) (by unfold Func.isWrapper; first | (rw [if_pos (by decide +kernel)]; kernel_rfl) | (rw [if_neg (by decide +kernel)]; exact ⟨rfl, rfl⟩))
    (fun os started H enc _ => any_lifted os started H enc)
end Go.Proofs.YtngkdpiajikcjaaPe.Delta
namespace Go.Proofs.Ytngkdpiajikcjaa
/-- What is claimed. -/
theorem deltaAny_proved : Rows.DeltaAnySaid := Go.Proofs.YtngkdpiajikcjaaPe.Delta.any_holds
end Go.Proofs.Ytngkdpiajikcjaa
