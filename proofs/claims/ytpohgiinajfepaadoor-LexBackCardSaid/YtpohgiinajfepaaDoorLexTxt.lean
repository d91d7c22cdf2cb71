/- Numbers' texts: what they read as; which bytes are in them. -/
import Derived.Test.YtpohgiinajfepaaDoorLexGivt
set_option maxRecDepth 1000000
set_option linter.unusedVariables false
set_option linter.unusedSimpArgs false
namespace Go.Proofs.YtpohgiinajfepaaDoorPe.Lex
open Go Go.Proofs Go.Proofs.YtpohgiinajfepaaDoorPe Go.Proofs.YtpohgiinajfepaaDoorPe.LexCode

theorem acc_append (l : List UInt8) (c : UInt8) : ∀ v, acc v (l ++ [c]) = 10 * acc v l + (c.toNat - 48) := by
  induction l with
  | nil => intro v; rw [List.nil_append, acc_cons]; rfl
  | cons d r ih => intro v; rw [List.cons_append, acc_cons, acc_cons, ih]

theorem dec_ok (u : Nat) : acc 0 (Lib.decDigits u) = u ∧ (Lib.decDigits u).all digit = true ∧ Lib.decDigits u ≠ [] := by
  induction u using Nat.strongRecOn with
  | _ u ih =>
    have hc : ∀ x, x < 10 → (UInt8.ofNat (48 + x)).toNat = 48 + x := by intro x hx; rw [UInt8.toNat_ofNat']; omega
    have hdg : ∀ x, x < 10 → digit (UInt8.ofNat (48 + x)) = true := by
      intro x hx
      unfold digit
      rw [hc x hx]
      simp
      omega
    rw [Lib.decDigits]
    split
    · rename_i h
      refine ⟨?_, ?_, by simp⟩
      · rw [acc_cons, hc u h]; show acc _ [] = _; simp [acc]
      · rw [List.all_cons, hdg u h]; rfl
    · rename_i h
      obtain ⟨h1, h2, h3⟩ := ih (u / 10) (by omega)
      refine ⟨?_, ?_, by simp⟩
      · rw [acc_append, h1, hc _ (by omega)]; omega
      · rw [List.all_append, h2, List.all_cons, hdg (u % 10) (by omega)]; rfl

theorem parseM_text {n : Int} (hn : I64 n) : parseM (text n) = (n, 0) := by
  rw [text_eq (by omega) (by omega), Lib.itoa, parseM_eq]
  by_cases h : n < 0
  · obtain ⟨h1, h2, h3⟩ := dec_ok n.natAbs
    rw [if_pos h]
    have hp : parts (45 :: Lib.decDigits n.natAbs) = (true, Lib.decDigits n.natAbs) := rfl
    have hs : shapeM (45 :: Lib.decDigits n.natAbs) = true := by
      unfold shapeM
      rw [hp, h2]
      cases hh : Lib.decDigits n.natAbs with
      | nil => exact absurd hh h3
      | cons c r => rfl
    rw [hs, if_pos rfl, hp]
    simp only [if_true]
    rw [h1, fit]
    rw [show (-(n.natAbs : Int)) = n by omega, if_pos hn]
  · obtain ⟨h1, h2, h3⟩ := dec_ok n.toNat
    rw [if_neg h]
    have hp : parts (Lib.decDigits n.toNat) = (false, Lib.decDigits n.toNat) := by
      cases hh : Lib.decDigits n.toNat with
      | nil => exact absurd hh h3
      | cons c r =>
        rw [hh, List.all_cons, Bool.and_eq_true] at h2
        have hb := digit_bounds h2.1
        rw [parts_cons, if_neg, if_neg]
        · intro h; subst h; revert hb; decide
        · intro h; subst h; revert hb; decide
    have hs : shapeM (Lib.decDigits n.toNat) = true := by
      unfold shapeM
      rw [hp, h2]
      cases hh : Lib.decDigits n.toNat with
      | nil => exact absurd hh h3
      | cons c r => rfl
    rw [hs, if_pos rfl, hp]
    simp only [Bool.false_eq_true, if_false]
    rw [h1, fit]
    rw [show ((n.toNat : Int)) = n by omega, if_pos hn]

theorem text_inj {n m : Int} (hn : I64 n) (hm : I64 m) (h : text n = text m) : n = m := by
  have h1 := parseM_text hn
  have h2 := parseM_text hm
  rw [h, h2] at h1
  exact (Prod.mk.inj h1).1.symm

theorem text_mem {n : Int} (hn : I64 n) {c : UInt8} (hc : c ∈ text n) : c = 45 ∨ digit c = true := by
  rw [text_eq (by omega) (by omega)] at hc
  unfold Lib.itoa at hc
  split at hc
  · rcases List.mem_cons.1 hc with h | h
    · exact .inl h
    · exact .inr (List.all_eq_true.1 (dec_ok _).2.1 _ h)
  · exact .inr (List.all_eq_true.1 (dec_ok _).2.1 _ hc)

theorem text_no {n : Int} (hn : I64 n) {x : UInt8} (hx : x = 32 ∨ x = 58) : x ∉ text n := by
  intro h
  rcases text_mem hn h with rfl | h
  · revert hx; decide
  · have := digit_bounds h
    rcases hx with rfl | rfl <;> (revert this; decide)

/-- Cut at the first such byte. -/
theorem cut_at {x : UInt8} : ∀ {a b r s : List UInt8}, x ∉ a → x ∉ b → a ++ x :: r = b ++ x :: s → a = b ∧ r = s
  | [], [], r, s, _, _, h => ⟨rfl, (List.cons.inj h).2⟩
  | [], c :: b, r, s, _, hb, h => absurd (List.mem_cons.2 (.inl (List.cons.inj h).1)) hb
  | c :: a, [], r, s, ha, _, h => absurd (List.mem_cons.2 (.inl (List.cons.inj h).1.symm)) ha
  | c :: a, d :: b, r, s, ha, hb, h => by
    obtain ⟨h1, h2⟩ := List.cons.inj h
    obtain ⟨e1, e2⟩ := cut_at (fun k => ha (List.mem_cons.2 (.inr k))) (fun k => hb (List.mem_cons.2 (.inr k))) h2
    exact ⟨by rw [h1, e1], e2⟩

end Go.Proofs.YtpohgiinajfepaaDoorPe.Lex
