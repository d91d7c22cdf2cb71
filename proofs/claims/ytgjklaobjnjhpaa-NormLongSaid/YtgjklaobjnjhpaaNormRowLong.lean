/- NormLongSaid: the given statement holds of the given program at every input; its conditions are those that stand in the statement itself. -/
import Derived.Test.YtgjklaobjnjhpaaNormRow
import Derived.Test.YtgjklaobjnjhpaaNormNk
/- THE ROW of NormLong. -/
set_option maxRecDepth 1000000
set_option linter.unusedVariables false
namespace Go.Proofs.YtgjklaobjnjhpaaPe.Norm
open Go Go.Proofs Go.Proofs.Ytgjklaobjnjhpaa Go.RowKit Go.ChangeShapes Go.WideShapes Go.ChangeAt Go.Proofs.YtgjklaobjnjhpaaPe Go.Proofs.YtgjklaobjnjhpaaPe.NormCode

theorem long_call : ∀ xs, TypedAll [.int .u8, .bool] xs → ∃ st', call (fnsOf Try.prog sh rows) given 6 xs ⟨[], [], [], []⟩ = some (.bool true, st') := by
  intro xs h
  obtain ⟨x, y, rfl, ⟨n, rfl, hn⟩, ⟨g, rfl⟩⟩ := typed2 h
  exact lift (long_law n (in8 hn) g)

theorem long_lifted (os : Os) (started : os.Started) (H : Type) (enc : TypeId × Value → H) :
    ReturnsInHanded {} Try.checked os 6 .any (Rows.normLongSpec.pre6 enc Try.prog Try.f6 Rows.normLongRow.domain false) (Rows.normLongSpec.post enc Try.prog Try.f6 false true false false) := by
  refine returnsInHanded_of_change (C := Try.checked) own started (by kernel_rfl) g6
    (ChangeSpec.witness6 (enc := enc) (C := Try.checked) false ⟨#[], #[.int .u8 0, .bool false], []⟩ 8 (by kernel_rfl) (by kernel_rfl) (by kernel_rfl) (by kernel_rfl)) ?_
  intro W base args ds gs before hval hW hcnd _
  refine law_contract (ss := [.int .u8, .bool]) (tb := 4) follows_ok rows_ok.fok laidOut rfl ?_ ?_ (by kernel_rfl) (by kernel_rfl) ?_ long_call given_ok hval hW
  · exact ⟨fitsU, fitsO, trivial⟩
  · intro t ht
    have h : Try.f6.params.toList = [5, 4] := by kernel_rfl
    rw [h] at ht
    simp only [List.mem_cons, List.not_mem_nil, or_false] at ht
    rcases ht with rfl | rfl <;> exact ⟨by kernel_rfl, of_decide_eq_true (by kernel_rfl)⟩
  · intro ds hd
    match ds, hd with
    | [a, b], _ => rfl

theorem long_holds : Rows.NormLongSaid :=
  OpenClaim.holds_of_wide 6 Try.f6 rfl rfl rfl rfl rfl rfl rfl ⟨rfl, rfl, rfl, rfl, rfl⟩ rfl rfl rfl rfl rfl (by kernel_rfl) g6 (by kernel_rfl)
    (of_decide_eq_true (by kernel_rfl)) (by unfold Func.isWrapper; first | (rw [if_pos (by decide +kernel)]; kernel_rfl) | (rw [if_neg (by decide +kernel)]; exact ⟨rfl, rfl⟩))
    (fun os started H enc _ => long_lifted os started H enc)
end Go.Proofs.YtgjklaobjnjhpaaPe.Norm
namespace Go.Proofs.Ytgjklaobjnjhpaa
/-- What is claimed. -/
theorem normLong_proved : Rows.NormLongSaid := Go.Proofs.YtgjklaobjnjhpaaPe.Norm.long_holds
end Go.Proofs.Ytgjklaobjnjhpaa

