/- num: what its functions come to. -/
import Derived.Test.YtpohgiinajfepaaDoorLexCode
import Derived.Test.YtpohgiinajfepaaDoorEcWp
import Derived.IntWalk
set_option linter.unusedVariables false
set_option linter.unusedSimpArgs false
set_option maxRecDepth 100000
namespace Go.Proofs.YtpohgiinajfepaaDoorPe.Lex
open Go Go.Proofs.YtpohgiinajfepaaDoorPe Go.Proofs.YtpohgiinajfepaaDoorPe.LexCode
attribute [local go_sem] V_bslice

/-- A number that a word of 64 bits holds. -/
abbrev I64 (n : Int) : Prop := -9223372036854775808 ≤ n ∧ n ≤ 9223372036854775807
abbrev U64 (n : Int) : Prop := 0 ≤ n ∧ n ≤ 18446744073709551615

/-- A number, if there is room for it; or 'range'. -/
def fit (n : Int) : Int × Int := if I64 n then (n, 0) else (0, 11)

theorem tdiv_in {a b : Int} (ha : I64 a) (hb : I64 b) (h0 : b ≠ 0) (h1 : ¬ (a = -9223372036854775808 ∧ b = -1)) : -9223372036854775808 ≤ a.tdiv b ∧ a.tdiv b ≤ 9223372036854775807 := by
  have hn : (a.tdiv b).natAbs = a.natAbs / b.natAbs := Int.natAbs_tdiv ..
  have h2 : a.natAbs / b.natAbs ≤ a.natAbs := Nat.div_le_self ..
  by_cases h3 : a.natAbs / b.natAbs ≤ 9223372036854775807
  · omega
  · have h4 : a = -9223372036854775808 := by omega
    have h5 : b.natAbs = 1 := by
      rcases Nat.lt_or_ge b.natAbs 2 with h | h
      · omega
      · have : a.natAbs / b.natAbs ≤ a.natAbs / 2 := Nat.div_le_div_left h (by decide)
        omega
    have h6 : b = 1 := by omega
    subst h6
    rw [Int.tdiv_one]
    omega

theorem set_same {α : Type} {l : List α} {i : Nat} {x : α} (h : l[i]? = some x) : l.set i x = l := by
  obtain ⟨hi, rfl⟩ := List.getElem?_eq_some_iff.1 h
  exact List.set_getElem_self hi

theorem fst_fit {n : Int} : I64 (fit n).1 := by
  unfold fit
  split
  · assumption
  · decide

section
variable (given : FuncId → List PV → Option PV)

theorem abs_ok {a : Int} (ha : I64 a) (st : St) : callE efns given f_num_abs [.int .i64 a] st = some (.int .u64 (if a < 0 then -a else a), st) := by
  rw [callE_fn efns given (c := e_num_abs) rfl rfl]
  simp only [e_num_abs, go_sem, V_call]
  split <;> simp only [IntKind.wrap_u64] <;> congr 3 <;> omega

theorem sub_ok {a b : Int} (ha : I64 a) (hb : I64 b) (st : St) : callE efns given f_num_Sub [.int .i64 a, .int .i64 b] st = some (.tuple [.int .i64 (fit (a - b)).1, .int .i64 (fit (a - b)).2], st) := by
  rw [callE_fn efns given (c := e_num_Sub) rfl rfl]
  simp only [e_num_Sub, go_sem, V_call, IntKind.wrap_i64, fit]
  split
  · rw [if_neg (by omega)]
  · rw [if_pos (by omega)]; simp only; congr 5; omega

theorem shr32 {a : Int} : evShift .shr .u64 a 32 = some (.int .u64 (a / 4294967296)) := by
  have : (2 : Int) ^ min (32 : Int).toNat IntKind.u64.bits = 4294967296 := by decide
  simp only [evShift, show ¬ ((32 : Int) < 0) by decide, if_false, this]
  rw [Int.fdiv_eq_ediv_of_nonneg _ (by decide)]

theorem mask32 {a : Int} (ha : 0 ≤ a) : evBits .and .u64 a 4294967295 = some (.int .u64 (a % 4294967296)) := by
  obtain ⟨n, rfl⟩ := Int.eq_ofNat_of_zero_le ha
  have h1 : (BitVec.ofInt IntKind.u64.bits (n : Int) &&& BitVec.ofInt IntKind.u64.bits 4294967295).toNat = n % 4294967296 := by
    rw [BitVec.toNat_and]
    have e1 : (BitVec.ofInt IntKind.u64.bits (n : Int)).toNat = n % 2 ^ 64 := by simp [BitVec.toNat_ofInt, IntKind.bits]
    have e2 : (BitVec.ofInt IntKind.u64.bits 4294967295).toNat = 2 ^ 32 - 1 := by decide
    rw [e1, e2, Nat.and_two_pow_sub_one_eq_mod]
    omega
  simp only [evBits, h1, IntKind.wrap_u64]
  congr 2
  omega

theorem mul64_ok {a b : Int} (ha : U64 a) (hb : U64 b) (st : St) : callE efns given f_math_bits_Mul64 [.int .u64 a, .int .u64 b] st = some (.tuple [.int .u64 (a * b / 18446744073709551616), .int .u64 (a * b % 18446744073709551616)], st) := by
  rw [callE_fn efns given (c := e_math_bits_Mul64) rfl rfl]
  have ha0 : 0 ≤ a % 4294967296 ∧ a % 4294967296 ≤ 4294967295 := by omega
  have hb0 : 0 ≤ b % 4294967296 ∧ b % 4294967296 ≤ 4294967295 := by omega
  have ha1 : 0 ≤ a / 4294967296 ∧ a / 4294967296 ≤ 4294967295 := by omega
  have hb1 : 0 ≤ b / 4294967296 ∧ b / 4294967296 ≤ 4294967295 := by omega
  have hab : a * b = (a / 4294967296 * (b / 4294967296)) * 18446744073709551616 + (a / 4294967296 * (b % 4294967296) + a % 4294967296 * (b / 4294967296)) * 4294967296 + a % 4294967296 * (b % 4294967296) := by
    have h1 : a = a / 4294967296 * 4294967296 + a % 4294967296 := by omega
    have h2 : b = b / 4294967296 * 4294967296 + b % 4294967296 := by omega
    generalize a / 4294967296 = p at *
    generalize a % 4294967296 = q at *
    generalize b / 4294967296 = r at *
    generalize b % 4294967296 = s at *
    subst h1; subst h2
    rw [Int.add_mul, Int.mul_add, Int.mul_add]
    have e1 : p * 4294967296 * (r * 4294967296) = p * r * 18446744073709551616 := by
      rw [show (18446744073709551616 : Int) = 4294967296 * 4294967296 by decide, Int.mul_assoc, Int.mul_left_comm 4294967296 r, ← Int.mul_assoc, ← Int.mul_assoc]
    have e2 : p * 4294967296 * s = p * s * 4294967296 := by rw [Int.mul_assoc, Int.mul_comm 4294967296 s, ← Int.mul_assoc]
    have e3 : q * (r * 4294967296) = q * r * 4294967296 := by rw [← Int.mul_assoc]
    rw [e1, e2, e3]
    omega
  have bnd : ∀ {x y : Int}, (0 ≤ x ∧ x ≤ 4294967295) → (0 ≤ y ∧ y ≤ 4294967295) → 0 ≤ x * y ∧ x * y ≤ 18446744065119617025 := by
    intro x y hx hy
    refine ⟨Int.mul_nonneg hx.1 hy.1, ?_⟩
    have := Int.mul_le_mul hx.2 hy.2 hy.1 (by decide)
    omega
  have b1 := bnd ha1 hb1
  have b2 := bnd ha1 hb0
  have b3 := bnd ha0 hb1
  have b4 := bnd ha0 hb0
  have w : ∀ {n : Int}, U64 n → IntKind.u64.wrap n = n := fun h => IntWalk.u64_in _ h
  simp only [e_math_bits_Mul64, go_sem, V_call, shr32, mask32 ha.1, mask32 hb.1]
  generalize a / 4294967296 * (b / 4294967296) = S at *
  generalize a / 4294967296 * (b % 4294967296) = Q at *
  generalize a % 4294967296 * (b / 4294967296) = R at *
  generalize a % 4294967296 * (b % 4294967296) = T at *
  rw [w (n := T) (by omega), w (n := Q) (by omega), w (n := R) (by omega), w (n := S) (by omega)]
  rw [w (n := Q + T / 4294967296) (by omega)]
  rw [mask32 (by omega)]
  simp only [go_sem, V_call, shr32]
  rw [w (n := (Q + T / 4294967296) % 4294967296 + R) (by omega)]
  rw [w (n := S + (Q + T / 4294967296) / 4294967296) (by omega)]
  rw [w (n := S + (Q + T / 4294967296) / 4294967296 + ((Q + T / 4294967296) % 4294967296 + R) / 4294967296) (by omega)]
  rw [IntKind.wrap_u64]
  congr 5
  omega

theorem mul_abs (a b : Int) : (if a < 0 then -a else a) * (if b < 0 then -b else b) = if (a < 0) = (b < 0) then a * b else -(a * b) := by
  by_cases h1 : a < 0 <;> by_cases h2 : b < 0 <;> simp only [h1, h2, if_true, if_false, eq_self_iff_true] <;> simp [Int.neg_mul, Int.mul_neg]

theorem mul_sign {a b : Int} : 0 ≤ (if (a < 0) = (b < 0) then a * b else -(a * b)) := by
  rw [← mul_abs]
  exact Int.mul_nonneg (by split <;> omega) (by split <;> omega)

theorem mul_ok {a b : Int} (ha : I64 a) (hb : I64 b) (st : St) : callE efns given f_num_Mul [.int .i64 a, .int .i64 b] st = some (.tuple [.int .i64 (fit (a * b)).1, .int .i64 (fit (a * b)).2], st) := by
  rw [callE_fn efns given (c := e_num_Mul) rfl rfl]
  have h1 := abs_ok given ha ⟨[], [], [], []⟩
  have h2 := abs_ok given hb ⟨[], [], [], []⟩
  have ub : U64 (if a < 0 then -a else a) := by split <;> omega
  have uc : U64 (if b < 0 then -b else b) := by split <;> omega
  have h3 := mul64_ok given ub uc ⟨[], [], [], []⟩
  rw [mul_abs] at h3
  have hs := mul_sign (a := a) (b := b)
  simp only [e_num_Mul, go_sem, V_call, h1, h2, h3]
  have hdd : ((decide (a < 0) == decide (b < 0)) = false) = ¬((a < 0) = (b < 0)) := by by_cases h4 : a < 0 <;> by_cases h5 : b < 0 <;> simp [h4, h5]
  have hdt : ((decide (a < 0) == decide (b < 0)) = true) = ((a < 0) = (b < 0)) := by by_cases h4 : a < 0 <;> by_cases h5 : b < 0 <;> simp [h4, h5]
  simp only [hdd, hdt, fit, IntKind.wrap_i64, IntKind.wrap_u64]
  generalize a * b = M at hs ⊢
  by_cases hd : (a < 0) = (b < 0) <;> simp only [hd, if_true, if_false, not_true, not_false_iff, and_true, and_false] at hs ⊢ <;> (repeat' split) <;> first | (exfalso; omega) | rfl | (congr 5; omega)

/-- Steps taken: the answer, and what is left. -/
def useM (l n : Int) : Int × Int := if n < 0 then (1, l) else if l < n then (9, 0) else (0, l - n)

end
end Go.Proofs.YtpohgiinajfepaaDoorPe.Lex
