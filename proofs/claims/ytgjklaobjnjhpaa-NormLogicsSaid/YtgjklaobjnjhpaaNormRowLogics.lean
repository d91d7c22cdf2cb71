/- NormLogicsSaid: the given statement holds of the given program at every input; its conditions are those that stand in the statement itself. -/
import Derived.Test.YtgjklaobjnjhpaaNormRow
import Derived.Test.YtgjklaobjnjhpaaNormNn
/- THE ROW of NormLogics. -/
set_option maxRecDepth 1000000
set_option linter.unusedVariables false
namespace Go.Proofs.YtgjklaobjnjhpaaPe.Norm
open Go Go.Proofs Go.Proofs.Ytgjklaobjnjhpaa Go.RowKit Go.ChangeShapes Go.WideShapes Go.ChangeAt Go.Proofs.YtgjklaobjnjhpaaPe Go.Proofs.YtgjklaobjnjhpaaPe.NormCode

theorem logics_call : ∀ xs, TypedAll [.int .u8, .int .u8] xs → ∃ st', call (fnsOf Try.prog sh rows) given 5 xs ⟨[], [], [], []⟩ = some (.bool true, st') := by
  intro xs h
  obtain ⟨x, y, rfl, ⟨n, rfl, hn⟩, ⟨k, rfl, hk⟩⟩ := typed2 h
  exact lift (logics_law n k (in8 hn) (in8 hk))

theorem logics_lifted (os : Os) (started : os.Started) (H : Type) (enc : TypeId × Value → H) :
    ReturnsInHanded {} Try.checked os 5 .any (Rows.normLogicsSpec.pre6 enc Try.prog Try.f5 Rows.normLogicsRow.domain false) (Rows.normLogicsSpec.post enc Try.prog Try.f5 false true false false) := by
  refine returnsInHanded_of_change (C := Try.checked) own started (by kernel_rfl) g5
    (ChangeSpec.witness6 (enc := enc) (C := Try.checked) false ⟨#[], #[.int .u8 0, .int .u8 0], []⟩ 8 (by kernel_rfl) (by kernel_rfl) (by kernel_rfl) (by kernel_rfl)) ?_
  intro W base args ds gs before hval hW hcnd _
  refine law_contract (ss := [.int .u8, .int .u8]) (tb := 4) follows_ok rows_ok.fok laidOut rfl ?_ ?_ (by kernel_rfl) (by kernel_rfl) ?_ logics_call given_ok hval hW
  · exact ⟨fitsU, fitsU, trivial⟩
  · intro t ht
    have h : Try.f5.params.toList = [5, 5] := by kernel_rfl
    rw [h] at ht
    simp only [List.mem_cons, List.not_mem_nil, or_false] at ht
    rcases ht with rfl | rfl <;> exact ⟨by kernel_rfl, of_decide_eq_true (by kernel_rfl)⟩
  · intro ds hd
    match ds, hd with
    | [a, b], _ => rfl

theorem logics_holds : Rows.NormLogicsSaid :=
  OpenClaim.holds_of_wide 5 Try.f5 rfl rfl rfl rfl rfl rfl rfl ⟨rfl, rfl, rfl, rfl, rfl⟩ rfl rfl rfl rfl rfl (by kernel_rfl) g5 (by kernel_rfl)
    (of_decide_eq_true (by kernel_rfl)) (by unfold Func.isWrapper; first | (rw [if_pos (by decide +kernel)]; kernel_rfl) | (rw [if_neg (by decide +kernel)]; exact ⟨rfl, rfl⟩))
    (fun os started H enc _ => logics_lifted os started H enc)
end Go.Proofs.YtgjklaobjnjhpaaPe.Norm
namespace Go.Proofs.Ytgjklaobjnjhpaa
/-- What is claimed. -/
theorem normLogics_proved : Rows.NormLogicsSaid := Go.Proofs.YtgjklaobjnjhpaaPe.Norm.logics_holds
end Go.Proofs.Ytgjklaobjnjhpaa

