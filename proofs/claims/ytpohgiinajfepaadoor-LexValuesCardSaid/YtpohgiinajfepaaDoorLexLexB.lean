/- Bytes: what may stand where (each looked at by the kernel). -/
import Derived.Test.YtpohgiinajfepaaDoorLexLexM
set_option linter.unusedVariables false
set_option linter.unusedSimpArgs false
set_option maxRecDepth 1000000
namespace Go.Proofs.YtpohgiinajfepaaDoorPe.Lex
open Go Go.Proofs.YtpohgiinajfepaaDoorPe Go.Proofs.YtpohgiinajfepaaDoorPe.LexCode

def isB (r : Option (PV × St)) (b : Bool) : Bool :=
  match r with
  | some (.bool x, _) => x == b
  | _ => false
def isI (r : Option (PV × St)) (n : Int) : Bool :=
  match r with
  | some (.int .i64 x, _) => x == n
  | _ => false
theorem isB_some {r : Option (PV × St)} {b : Bool} (h : isB r b = true) : ∃ st, r = some (.bool b, st) := by
  unfold isB at h
  split at h
  · rename_i x st
    have : x = b := by simpa using h
    subst this
    exact ⟨st, rfl⟩
  · cases h
theorem isI_some {r : Option (PV × St)} {n : Int} (h : isI r n = true) : ∃ st, r = some (.int .i64 n, st) := by
  unfold isI at h
  split at h
  · rename_i x st
    have : x = n := by simpa using h
    subst this
    exact ⟨st, rfl⟩
  · cases h
def byteRun (k : Nat) (f : FuncId) (p : UInt8 → Bool) : Bool := (List.range 256).all fun n => isB (evFE efns given k f [.int .u8 (n : Int)] ⟨[], [], [], []⟩) (p (UInt8.ofNat n))
def byteInt (k : Nat) (f : FuncId) (p : UInt8 → Int) : Bool := (List.range 256).all fun n => isI (evFE efns given k f [.int .u8 (n : Int)] ⟨[], [], [], []⟩) (p (UInt8.ofNat n))
theorem byte_t {k : Nat} {f : FuncId} {p : UInt8 → Bool} (h : byteRun k f p = true) (c : UInt8) : tupV (callE efns given) (.call 0 f) [.int .u8 c.toNat] = some (.bool (p c)) := by
  have := List.all_eq_true.1 h c.toNat (List.mem_range.2 c.toNat_lt)
  rw [UInt8.ofNat_toNat] at this
  obtain ⟨st, h⟩ := isB_some this
  exact callV_of rfl ((callE_some efns given).2 ⟨k, h⟩) rfl
theorem byteI_t {k : Nat} {f : FuncId} {p : UInt8 → Int} (h : byteInt k f p = true) (c : UInt8) : tupV (callE efns given) (.call 0 f) [.int .u8 c.toNat] = some (.int .i64 (p c)) := by
  have := List.all_eq_true.1 h c.toNat (List.mem_range.2 c.toNat_lt)
  rw [UInt8.ofNat_toNat] at this
  obtain ⟨st, h⟩ := isI_some this
  exact callV_of rfl ((callE_some efns given).2 ⟨k, h⟩) rfl

def classM (c : UInt8) : Int := if letterB c = true then 2 else if partB c = true then 1 else 0
theorem letter_t (c : UInt8) : tupV (callE efns given) (.call 0 f_ref3_letter) [.int .u8 c.toNat] = some (.bool (letterB c)) := byte_t (k := 10) (by kernel_rfl) c
theorem rpart_t (c : UInt8) : tupV (callE efns given) (.call 0 f_ref3_Part) [.int .u8 c.toNat] = some (.bool (partB c)) := byte_t (k := 10) (by kernel_rfl) c
theorem rsignB_t (c : UInt8) : tupV (callE efns given) (.call 0 f_ref3_Sign) [.int .u8 c.toNat] = some (.bool (signB c)) := byte_t (k := 10) (by kernel_rfl) c
theorem blank_t (c : UInt8) : tupV (callE efns given) (.call 0 f_ref4_blank) [.int .u8 c.toNat] = some (.bool (blankB c)) := byte_t (k := 10) (by kernel_rfl) c
theorem vsign_t (c : UInt8) : tupV (callE efns given) (.call 0 f_val_sign) [.int .u8 c.toNat] = some (.bool (signB c)) := byte_t (k := 10) (by kernel_rfl) c
theorem class_t (c : UInt8) : tupV (callE efns given) (.call 0 f_sym_class) [.int .u8 c.toNat] = some (.int .i64 (classM c)) := byteI_t (k := 10) (by kernel_rfl) c
theorem part_t (c : UInt8) : tupV (callE efns given) (.call 0 f_lex_part) [.int .u8 c.toNat] = some (.bool (partB c)) := byte_t (k := 20) (by kernel_rfl) c
theorem sign_t (c : UInt8) : tupV (callE efns given) (.call 0 f_lex_sign) [.int .u8 c.toNat] = some (.bool (signB c)) := byte_t (k := 20) (by kernel_rfl) c

theorem classM_letter {c : UInt8} : (classM c < 2) = (letterB c = false) := by
  unfold classM
  cases h : letterB c with
  | true => simp
  | false =>
    simp only [Bool.false_eq_true, if_false]
    split <;> simp
theorem letter_part {c : UInt8} (h : letterB c = true) : partB c = true := by unfold partB; rw [h]; rfl
theorem classM_zero {c : UInt8} : (classM c = 0) = (partB c = false) := by
  unfold classM
  by_cases h : letterB c = true
  · rw [if_pos h, letter_part h]; simp
  · rw [if_neg h]
    cases partB c <;> simp
end Go.Proofs.YtpohgiinajfepaaDoorPe.Lex
