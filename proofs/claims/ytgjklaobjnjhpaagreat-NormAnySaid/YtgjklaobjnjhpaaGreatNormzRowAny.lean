/- NormAnySaid: the given statement holds of the given program at every input; its conditions are those that stand in the statement itself. -/
import Derived.Test.YtgjklaobjnjhpaaGreatNormzRow
/- THE ROW of NormAny. -/
set_option maxRecDepth 1000000
set_option linter.unusedVariables false
namespace Go.Proofs.YtgjklaobjnjhpaaGreatPe.Normz
open Go Go.Proofs Go.Proofs.YtgjklaobjnjhpaaGreat Go.RowKit Go.ChangeShapes Go.WideShapes Go.ChangeAt Go.Proofs.YtgjklaobjnjhpaaGreatPe Go.Proofs.YtgjklaobjnjhpaaGreatPe.NormzCode

theorem any_call : ∀ xs, TypedAll [.sl (.int .u8)] xs → ∃ st', call (fnsOf Tryz.prog sh rows) given 3 xs ⟨[], [], [], []⟩ = some (.bool true, st') := by
  intro xs h
  obtain ⟨x, rfl, hx⟩ := typed1 h
  obtain ⟨b, rfl⟩ := typedB hx
  exact lift (any_law b)

theorem any_lifted (os : Os) (started : os.Started) (H : Type) (enc : TypeId × Value → H) :
    ReturnsInHanded {} Tryz.checked os 3 .any (Rows.normAnySpec.pre6 enc Tryz.prog Tryz.f3 Rows.normAnyRow.domain false) (Rows.normAnySpec.post enc Tryz.prog Tryz.f3 false true false false) := by
  refine returnsInHanded_of_change (C := Tryz.checked) own started (by kernel_rfl) g3
    (ChangeSpec.witness6 (enc := enc) (C := Tryz.checked) false ⟨#[], #[.slice none 0 0], []⟩ 8 (by kernel_rfl) (by kernel_rfl) (by kernel_rfl) (by kernel_rfl)) ?_
  intro W base args ds gs before hval hW hcnd _
  refine law_contract (ss := [.sl (.int .u8)]) (tb := 4) follows_ok rows_ok.fok laidOut rfl ?_ ?_ (by kernel_rfl) (by kernel_rfl) ?_ any_call given_ok hval hW
  · exact ⟨fitsB, trivial⟩
  · intro t ht
    have h : Tryz.f3.params.toList = [22] := by kernel_rfl
    rw [h] at ht
    simp only [List.mem_cons, List.not_mem_nil, or_false] at ht
    subst ht; exact ⟨by kernel_rfl, of_decide_eq_true (by kernel_rfl)⟩
  · intro ds hd
    match ds, hd with
    | [a], _ => rfl

theorem any_holds : Rows.NormAnySaid :=
  OpenClaim.holds_of_wide 3 Tryz.f3 rfl rfl rfl rfl rfl rfl rfl ⟨rfl, rfl, rfl, rfl, rfl⟩ rfl rfl rfl rfl rfl (by kernel_rfl) g3 (by kernel_rfl)
    (of_decide_eq_true (by kernel_rfl)) (by unfold Func.isWrapper; first | (rw [if_pos (by decide +kernel)]; kernel_rfl) | (rw [if_neg (by decide +kernel)]; exact ⟨rfl, rfl⟩))
    (fun os started H enc _ => any_lifted os started H enc)
end Go.Proofs.YtgjklaobjnjhpaaGreatPe.Normz
namespace Go.Proofs.YtgjklaobjnjhpaaGreat
/-- What is claimed. -/
theorem normAny_proved : Rows.NormAnySaid := Go.Proofs.YtgjklaobjnjhpaaGreatPe.Normz.any_holds
end Go.Proofs.YtgjklaobjnjhpaaGreat

