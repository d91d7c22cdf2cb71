/- The order of values is one order; the laws ValuesThree and ValuesMade. -/
import Derived.Test.YtpohgiinajfepaaDoorLexVal
import Derived.Test.YtpohgiinajfepaaDoorLexGivt
set_option linter.unusedVariables false
set_option linter.unusedSimpArgs false
set_option maxRecDepth 1000000
namespace Go.Proofs.YtpohgiinajfepaaDoorPe.Lex
open Go Go.Proofs.YtpohgiinajfepaaDoorPe Go.Proofs.YtpohgiinajfepaaDoorPe.LexCode
attribute [local go_sem] V_bslice

/-- Neither turns. -/
def Weak (x y z : Int) : Prop := (x ≤ 0 → y ≤ 0 → z ≤ 0) ∧ (x ≥ 0 → y ≥ 0 → z ≥ 0)

theorem cmpI_spec (a b : Int) : (a < b ∧ cmpI a b = -1) ∨ (a = b ∧ cmpI a b = 0) ∨ (a > b ∧ cmpI a b = 1) := by
  unfold cmpI
  by_cases h1 : a < b
  · exact .inl ⟨h1, if_pos h1⟩
  · by_cases h2 : a > b
    · exact .inr (.inr ⟨h2, by rw [if_neg h1, if_pos h2]⟩)
    · exact .inr (.inl ⟨by omega, by rw [if_neg h1, if_neg h2]⟩)

def lex (p r : Int) : Int := if p = 0 then r else p
theorem weak_lex {a b c : Int} {r1 r2 r3 : Int} (h : Weak r1 r2 r3) : Weak (lex (cmpI a b) r1) (lex (cmpI b c) r2) (lex (cmpI a c) r3) := by
  obtain ⟨h1, h2⟩ := h
  unfold lex
  rcases cmpI_spec a b with ⟨q1, e1⟩ | ⟨q1, e1⟩ | ⟨q1, e1⟩ <;> rcases cmpI_spec b c with ⟨q2, e2⟩ | ⟨q2, e2⟩ | ⟨q2, e2⟩ <;> rcases cmpI_spec a c with ⟨q3, e3⟩ | ⟨q3, e3⟩ | ⟨q3, e3⟩ <;>
    first | (exfalso; omega) | (rw [e1, e2, e3]; simp only [Int.reduceEq, Int.reduceNeg, if_true, if_false]; constructor <;> intros <;> first | omega | (exact h1 (by assumption) (by assumption)) | (exact h2 (by assumption) (by assumption)))

/-- The order of texts, byte by byte. -/
def c3 : List UInt8 → List UInt8 → Int
  | [], [] => 0
  | [], _ :: _ => -1
  | _ :: _, [] => 1
  | a :: x, b :: y => lex (cmpI a.toNat b.toNat) (c3 x y)

theorem u8_eq {a b : UInt8} (h : (a.toNat : Int) = b.toNat) : a = b := UInt8.toNat_inj.1 (by omega)
theorem u8_lt {a b : UInt8} : (a < b) = ((a.toNat : Int) < b.toNat) := by
  have : a < b ↔ a.toNat < b.toNat := UInt8.lt_iff_toNat_lt
  rw [propext this]
  simp

theorem cmpS_eq : ∀ a b : List UInt8, cmpS a b = c3 a b
  | [], [] => rfl
  | [], _ :: _ => rfl
  | _ :: _, [] => rfl
  | a :: x, b :: y => by
    have ih := cmpS_eq x y
    unfold cmpS at ih ⊢
    unfold c3 lex
    rw [← ih]
    have e : Op.bytesLess (a :: x) (b :: y) = (decide (a < b) || (a == b && Op.bytesLess x y)) := rfl
    rw [e]
    rcases cmpI_spec a.toNat b.toNat with ⟨q, h⟩ | ⟨q, h⟩ | ⟨q, h⟩
    · have : a < b := by rw [u8_lt]; exact q
      rw [h]; simp [this]
    · have := u8_eq q
      subst this
      rw [h]
      simp [UInt8.lt_irrefl]
    · have h1 : ¬ a < b := by rw [u8_lt]; omega
      have h2 : a ≠ b := by rintro rfl; omega
      rw [h]; simp [h1, h2]

theorem weak_c3 : ∀ a b c : List UInt8, Weak (c3 a b) (c3 b c) (c3 a c)
  | [], [], [] => by simp [Weak, c3]
  | [], [], _ :: _ => by simp [Weak, c3]
  | [], _ :: _, [] => by simp [Weak, c3]
  | [], _ :: _, _ :: _ => by simp [Weak, c3]
  | _ :: _, [], [] => by simp [Weak, c3]
  | _ :: _, [], _ :: _ => by simp [Weak, c3]
  | _ :: _, _ :: _, [] => by simp [Weak, c3]
  | a :: x, b :: y, c :: z => by
    simp only [c3]
    exact weak_lex (weak_c3 x y z)

theorem cmpV_weak (a b c : Vl) : Weak (cmpV a b) (cmpV b c) (cmpV a c) := by
  have e : ∀ v w : Vl, cmpV v w = lex (cmpI v.k w.k) (lex (cmpI v.i w.i) (cmpS v.s w.s)) := by
    intro v w
    simp only [cmpV, orM, lex]
    split
    · split
      · split
        · rename_i h; exact h.symm
        · rfl
      · rfl
    · rfl
  rw [e, e, e]
  refine weak_lex (weak_lex ?_)
  rw [cmpS_eq, cmpS_eq, cmpS_eq]
  exact weak_c3 _ _ _

def Vl.cells' (v : Vl) : List PV := [.int .i64 v.k, .int .i64 v.i, .str v.s]

theorem rightI_t {i : Int} : tupV (callE efns given) (.call 0 f_val_Right) [Vl.p ⟨1, i, []⟩] = some (.bool true) := by
  refine callV_of (r := .bool true) («as» := [Vl.p ⟨1, i, []⟩]) (st := ⟨[Vl.cells' ⟨1, i, []⟩], [], [T_val_Right_0], []⟩) rfl ?_ rfl
  rw [callE_fn efns given (c := e_val_Right) rfl rfl]
  simp only [e_val_Right, Vl.p, Vl.cells', go_sem]

theorem rightS_t {s : List UInt8} (hs : s.length ≤ 1000) : tupV (callE efns given) (.call 0 f_val_Right) [Vl.p ⟨3, 0, s⟩] = some (.bool true) := by
  refine callV_of (r := .bool true) («as» := [Vl.p ⟨3, 0, s⟩]) (st := ⟨[Vl.cells' ⟨3, 0, s⟩], [], [T_val_Right_0], []⟩) rfl ?_ rfl
  rw [callE_fn efns given (c := e_val_Right) rfl rfl]
  have : ((s.length : Int) ≤ 1000) = True := by simp; omega
  simp only [e_val_Right, Vl.p, Vl.cells', go_sem, this]

theorem symbolTF (b : Bool) : tupV (callE efns given) (.call 0 f_val_symbol) [.str (boolV b).s] = some (.bool true) := by
  have h : trueO (evFE efns given 70 f_val_symbol [.str (boolV b).s] ⟨[], [], [], []⟩) = true := by cases b <;> kernel_rfl
  obtain ⟨st, h⟩ := trueO_some h
  exact callV_of rfl ((callE_some efns given).2 ⟨70, h⟩) rfl

theorem rightB_t (b : Bool) : tupV (callE efns given) (.call 0 f_val_Right) [(boolV b).p] = some (.bool true) := by
  refine callV_of (r := .bool true) («as» := [(boolV b).p]) (st := ⟨[Vl.cells' (boolV b)], [], [T_val_Right_0], []⟩) rfl ?_ rfl
  rw [callE_fn efns given (c := e_val_Right) rfl rfl]
  have h1 : (boolV b).k = 2 := rfl
  have h2 : (boolV b).i = 0 := rfl
  simp only [e_val_Right, Vl.p, Vl.cells', go_sem, h1, h2, symbolTF b]

end Go.Proofs.YtpohgiinajfepaaDoorPe.Lex
