/- NormNotsSaid: the given statement holds of the given program at every input; its conditions are those that stand in the statement itself. -/
import Derived.Test.YtgjklaobjnjhpaaNormRow
import Derived.Test.YtgjklaobjnjhpaaNormNo
/- THE ROW of NormNots. -/
set_option maxRecDepth 1000000
set_option linter.unusedVariables false
namespace Go.Proofs.YtgjklaobjnjhpaaPe.Norm
open Go Go.Proofs Go.Proofs.Ytgjklaobjnjhpaa Go.RowKit Go.ChangeShapes Go.WideShapes Go.ChangeAt Go.Proofs.YtgjklaobjnjhpaaPe Go.Proofs.YtgjklaobjnjhpaaPe.NormCode

theorem nots_call : ∀ xs, TypedAll [.int .u8] xs → ∃ st', call (fnsOf Try.prog sh rows) given 4 xs ⟨[], [], [], []⟩ = some (.bool true, st') := by
  intro xs h
  obtain ⟨x, rfl, ⟨n, rfl, hn⟩⟩ := typed1 h
  exact lift (nots_law n (in8 hn))

theorem nots_lifted (os : Os) (started : os.Started) (H : Type) (enc : TypeId × Value → H) :
    ReturnsInHanded {} Try.checked os 4 .any (Rows.normNotsSpec.pre6 enc Try.prog Try.f4 Rows.normNotsRow.domain false) (Rows.normNotsSpec.post enc Try.prog Try.f4 false true false false) := by
  refine returnsInHanded_of_change (C := Try.checked) own started (by kernel_rfl) g4
    (ChangeSpec.witness6 (enc := enc) (C := Try.checked) false ⟨#[], #[.int .u8 0], []⟩ 8 (by kernel_rfl) (by kernel_rfl) (by kernel_rfl) (by kernel_rfl)) ?_
  intro W base args ds gs before hval hW hcnd _
  refine law_contract (ss := [.int .u8]) (tb := 4) follows_ok rows_ok.fok laidOut rfl ?_ ?_ (by kernel_rfl) (by kernel_rfl) ?_ nots_call given_ok hval hW
  · exact ⟨fitsU, trivial⟩
  · intro t ht
    have h : Try.f4.params.toList = [5] := by kernel_rfl
    rw [h] at ht
    simp only [List.mem_cons, List.not_mem_nil, or_false] at ht
    subst ht; exact ⟨by kernel_rfl, of_decide_eq_true (by kernel_rfl)⟩
  · intro ds hd
    match ds, hd with
    | [a], _ => rfl

theorem nots_holds : Rows.NormNotsSaid :=
  OpenClaim.holds_of_wide 4 Try.f4 rfl rfl rfl rfl rfl rfl rfl ⟨rfl, rfl, rfl, rfl, rfl⟩ rfl rfl rfl rfl rfl (by kernel_rfl) g4 (by kernel_rfl)
    (of_decide_eq_true (by kernel_rfl)) (by unfold Func.isWrapper; first | (rw [if_pos (by decide +kernel)]; kernel_rfl) | (rw [if_neg (by decide +kernel)]; exact ⟨rfl, rfl⟩))
    (fun os started H enc _ => nots_lifted os started H enc)
end Go.Proofs.YtgjklaobjnjhpaaPe.Norm
namespace Go.Proofs.Ytgjklaobjnjhpaa
/-- What is claimed. -/
theorem normNots_proved : Rows.NormNotsSaid := Go.Proofs.YtgjklaobjnjhpaaPe.Norm.nots_holds
end Go.Proofs.Ytgjklaobjnjhpaa

