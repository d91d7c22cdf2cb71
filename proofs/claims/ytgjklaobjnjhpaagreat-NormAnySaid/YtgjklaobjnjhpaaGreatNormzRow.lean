/- A part of the proof of this folder's statement; it has no condition of its own. -/
import Derived.Test.YtgjklaobjnjhpaaGreatPeLaw
import Derived.Test.YtgjklaobjnjhpaaGreatNormzZk
import Derived.Test.YtgjklaobjnjhpaaGreatNormzGivt
import Derived.Test.YtgjklaobjnjhpaaGreatRows
import Derived.ProofKit
/- THE ROWS of the laws of norm: what they share. -/
set_option maxRecDepth 1000000
set_option linter.unusedVariables false
namespace Go.Proofs.YtgjklaobjnjhpaaGreatPe.Normz
open Go Go.Proofs Go.Proofs.YtgjklaobjnjhpaaGreat Go.RowKit Go.ChangeShapes Go.WideShapes Go.ChangeAt Go.Proofs.YtgjklaobjnjhpaaGreatPe Go.Proofs.YtgjklaobjnjhpaaGreatPe.NormzCode

theorem own : ownKnob Tryz.prog.godebug = none := by kernel_rfl
theorem laidOut : laidOutB Tryz.prog = true := by kernel_rfl
theorem fitsU : Fits Tryz.prog (.int .u8) 5 := show Tryz.prog.underlying 5 = some (.int .u8) by kernel_rfl
theorem fitsO : Fits Tryz.prog .bool 4 := show Tryz.prog.underlying 4 = some .bool by kernel_rfl
theorem fitsB : Fits Tryz.prog (.sl (.int .u8)) 22 := ⟨5, by kernel_rfl, by kernel_rfl, fitsU⟩
theorem in8 {n : Int} (h : (Lit.int .u8 n).wf = true) : 0 ≤ n ∧ n < 256 := by
  simp only [Lit.wf, Bool.and_eq_true, decide_eq_true_eq] at h
  have h1 : IntKind.u8.min = 0 := by decide
  have h2 : IntKind.u8.max = 255 := by decide
  omega

/-- What the evaluator of expressions says, the evaluator of code says. -/
theorem lift {f : FuncId} {xs : List PV} (h : ∃ st', callE efns given f xs ⟨[], [], [], []⟩ = some (.bool true, st')) : ∃ st', call (fnsOf Tryz.prog sh rows) given f xs ⟨[], [], [], []⟩ = some (.bool true, st') := by
  obtain ⟨st', h⟩ := h
  refine ⟨st', callE_le efns given ?_ _ _ _ _ h⟩
  rw [← efns_eq]
  exact rows_ok.eok
/-- Bytes. -/
theorem typedB {x : PV} (h : Typed (.sl (.int .u8)) x) : ∃ b, x = .lst (byts b) := by
  obtain ⟨l, rfl, hm, hl⟩ := h
  clear hm
  suffices ∃ b, l = byts b by
    obtain ⟨b, rfl⟩ := this
    exact ⟨b, rfl⟩
  induction l with
  | nil => exact ⟨[], rfl⟩
  | cons y l ih =>
    obtain ⟨b, rfl⟩ := ih fun z hz => hl z (List.mem_cons.2 (.inr hz))
    obtain ⟨n, rfl, h⟩ := hl y (List.mem_cons.2 (.inl rfl))
    have := in8 h
    refine ⟨UInt8.ofNat n.toNat :: b, ?_⟩
    have e : (((UInt8.ofNat n.toNat).toNat : Nat) : Int) = n := by rw [UInt8.toNat_ofNat']; omega
    show _ = PV.int .u8 (((UInt8.ofNat n.toNat).toNat : Nat) : Int) :: byts b
    rw [e]
end Go.Proofs.YtgjklaobjnjhpaaGreatPe.Normz

