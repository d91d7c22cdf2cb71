/- THE ROWS of the laws of values: each row's contract, and its tied card. -/
import Derived.Test.YtnkmeafaggdfdaaDoorPeLaw
import Derived.Test.YtnkmeafaggdfdaaDoorValVThree
import Derived.Stop.LaidErr
import Derived.Test.YtnkmeafaggdfdaaDoorCards
import Derived.Test.YtnkmeafaggdfdaaDoorTie
import Derived.Deep.DeepHandedRow
import Derived.Deep.DeepWitnessRowRef
import Derived.Lib.LaidTab
import Derived.ProofKit
import Derived.SizedLaws
set_option maxRecDepth 1000000
set_option linter.unusedVariables false
namespace Go.Proofs.YtnkmeafaggdfdaaDoorPe.Val
open Go Go.Proofs Go.Proofs.YtnkmeafaggdfdaaDoor Go.RowKit Go.ChangeShapes Go.WideShapes Go.ChangeAt Go.Proofs.YtnkmeafaggdfdaaDoorPe Go.Proofs.YtnkmeafaggdfdaaDoorPe.ValCode

theorem own : ownKnob Tryd.prog.godebug = none := by kernel_rfl
theorem laidOut : laidOutB Tryd.prog = true := by kernel_rfl

/-- THE WITNESS: the settled world, the tables as their initialisers lay them. -/
def tabOf : DataW Unit → Array Value
  | .agg l => (l.map fun
    | .lit (.int k n) => Value.int k n
    | _ => Go.undef).toArray
  | _ => #[]
noncomputable def laidWorld (os : Os) : World :=
  let w0 := World.holding Tryd.prog os ⟨#[], #[], []⟩
  let put (h : Array Obj) (n : String) (d : DataW Unit) : Array Obj := h.modify ((Tryd.prog.globalNamed n).getD 0) fun
    | .cells _ t frozen => .cells (tabOf d) t frozen
    | o => o
  let h1 := put w0.heap "math/bits.deBruijn32tab" Rows.laid_math_bits_deBruijn32tab
  let h2 := put h1 "math/bits.deBruijn64tab" Rows.laid_math_bits_deBruijn64tab
  let h3 := put h2 "internal/strconv.uint64pow10" Rows.laid_internal_strconv_uint64pow10
  { w0 with heap := h3 }

theorem tab_of {W : World} (h : laidMet Tryd.prog Rows.valuesWordsRow.laid W) : Lib.TabIs Tryd.prog W "internal/strconv.uint64pow10" .u64 Lib.pow10Tab := by
  have h3 : laidMet Tryd.prog [("internal/strconv.uint64pow10", Rows.laid_internal_strconv_uint64pow10)] W := laidMet.tail (laidMet.tail h)
  have e : (Rows.laid_internal_strconv_uint64pow10 : DataW Unit) = Lib.tabData .u64 Lib.pow10Tab := by kernel_rfl
  rw [e] at h3
  exact Lib.tabIs_of_head (g := 0) (t := 79) (e := 58) (n := 20) (by kernel_rfl) (by kernel_rfl) (by kernel_rfl) (by kernel_rfl) (by kernel_rfl) (by kernel_rfl) h3

/-- What the evaluator of expressions says, the evaluator of code says. -/
theorem lift {f : FuncId} {xs : List PV} (h : ∃ st', callE efns given f xs ⟨[], [], [], []⟩ = some (.bool true, st')) : ∃ st', call (fnsOf Tryd.prog sh rows) given f xs ⟨[], [], [], []⟩ = some (.bool true, st') := by
  obtain ⟨st', h⟩ := h
  refine ⟨st', callE_le efns given ?_ _ _ _ _ h⟩
  rw [← efns_eq]
  exact rows_ok.eok

theorem in64 {n : Int} (h : (Lit.int .i64 n).wf = true) : I64 n := by
  simp only [Lit.wf, Bool.and_eq_true, decide_eq_true_eq] at h
  have h1 : IntKind.i64.min = -9223372036854775808 := by decide
  have h2 : IntKind.i64.max = 9223372036854775807 := by decide
  omega
theorem in8 {n : Int} (h : (Lit.int .u8 n).wf = true) : 0 ≤ n ∧ n ≤ 255 := by
  simp only [Lit.wf, Bool.and_eq_true, decide_eq_true_eq] at h
  have h1 : IntKind.u8.min = 0 := by decide
  have h2 : IntKind.u8.max = 255 := by decide
  omega

theorem fits23 : Fits Tryd.prog (.st3 (.int .i64) (.int .i64) .str) 23 := ⟨_, _, _, Tryd.underlying23, ⟨rfl, rfl, rfl⟩, ⟨by kernel_rfl, by kernel_rfl, by kernel_rfl, by kernel_rfl⟩, ⟨rfl, rfl, rfl⟩, (show Tryd.prog.underlying _ = some (.int .i64) by kernel_rfl), (show Tryd.prog.underlying _ = some (.int .i64) by kernel_rfl), (show Tryd.prog.underlying _ = some .string by kernel_rfl)⟩
theorem fits2 : Fits Tryd.prog (.int .i64) 2 := show Tryd.prog.underlying 2 = some (.int .i64) by kernel_rfl
theorem fits9 : Fits Tryd.prog (.str) 9 := show Tryd.prog.underlying 9 = some (.string) by kernel_rfl
theorem fits4 : Fits Tryd.prog (.bool) 4 := show Tryd.prog.underlying 4 = some (.bool) by kernel_rfl
theorem fits28 : Fits Tryd.prog (.sl (.st3 (.int .i64) (.int .i64) .str)) 28 := ⟨23, by kernel_rfl, by kernel_rfl, fits23⟩
/-- A value. -/
theorem typedV {x : PV} (h : Typed (.st3 (.int .i64) (.int .i64) .str) x) : ∃ v : Vl, x = v.p ∧ I64 v.k ∧ I64 v.i ∧ v.s.length ≤ maxLen := by
  obtain ⟨p, q, r, rfl, ⟨k, rfl, hk⟩, ⟨i, rfl, hi⟩, ⟨s, rfl, hs⟩⟩ := h
  exact ⟨⟨k, i, s⟩, rfl, in64 hk, in64 hi, hs⟩
theorem typedVs {x : PV} (h : Typed (.sl (.st3 (.int .i64) (.int .i64) .str)) x) : ∃ l : List Vl, x = .lst (l.map Vl.p) ∧ ∀ v ∈ l, I64 v.k ∧ I64 v.i := by
  obtain ⟨l, rfl, hm, hl⟩ := h
  clear hm
  suffices ∃ m : List Vl, l = m.map Vl.p ∧ ∀ v ∈ m, I64 v.k ∧ I64 v.i by
    obtain ⟨m, rfl, h⟩ := this
    exact ⟨m, rfl, h⟩
  induction l with
  | nil => exact ⟨[], rfl, fun v hv => by cases hv⟩
  | cons y l ih =>
    obtain ⟨m, rfl, hm⟩ := ih fun z hz => hl z (List.mem_cons.2 (.inr hz))
    obtain ⟨v, rfl, h1, h2, _⟩ := typedV (hl y (List.mem_cons.2 (.inl rfl)))
    refine ⟨v :: m, rfl, fun w hw => ?_⟩
    rcases List.mem_cons.1 hw with rfl | hw
    · exact ⟨h1, h2⟩
    · exact hm w hw


end Go.Proofs.YtnkmeafaggdfdaaDoorPe.Val
