/- The laws of the numbers: what each comes to. -/
import Derived.Test.YtngkdpiajikcjaaDoorNumGiven
import Derived.Test.YtngkdpiajikcjaaDoorEcWp2
set_option maxRecDepth 1000000
set_option linter.unusedVariables false
set_option linter.unusedSimpArgs false
namespace Go.Proofs.YtngkdpiajikcjaaDoorPe.Num
open Go Go.Proofs Go.Proofs.YtngkdpiajikcjaaDoorPe Go.Proofs.YtngkdpiajikcjaaDoorPe.NumCode

def isTrue : Option (PV × St) → Bool
  | some (.bool b, _) => b
  | _ => false
theorem isTrue_some {r : Option (PV × St)} (h : isTrue r = true) : ∃ st', r = some (.bool true, st') := by
  unfold isTrue at h
  split at h
  · rename_i b st; cases h; exact ⟨st, rfl⟩
  · cases h
theorem known_run : isTrue (evFE efns given 70 f_law1_known [] ⟨[], []⟩) = true := by kernel_rfl
theorem known_ok : ∃ st', callE efns given f_law1_known [] ⟨[], []⟩ = some (.bool true, st') := by
  obtain ⟨st', h⟩ := isTrue_some known_run
  exact ⟨st', (callE_some efns given).2 ⟨70, h⟩⟩

theorem any_law {a b : Int} (ha : I64 a) (hb : I64 b) : ∃ st', callE efns given f_law1_NumbersAny [.int .i64 a, .int .i64 b] ⟨[], []⟩ = some (.bool true, st') := by
  obtain ⟨st1, hk⟩ := known_ok
  rw [callE_fn efns given (c := e_law1_NumbersAny) rfl rfl]
  simp only [e_law1_NumbersAny, go_sem, hk, add_ok given ha hb ⟨[], []⟩, radd_ok given ha hb ⟨[], []⟩, sub_ok given ha hb ⟨[], []⟩, rsub_ok given ha hb ⟨[], []⟩,
    mul_ok given ha hb ⟨[], []⟩, rmul_ok given ha hb ⟨[], []⟩, div_ok given ha hb ⟨[], []⟩, rdiv_ok given ha hb ⟨[], []⟩, mod_ok given ha hb ⟨[], []⟩, rmod_ok given ha hb ⟨[], []⟩]
  simp only [ne_eq, not_true_eq_false, or_self, if_false]
  exact ⟨_, rfl⟩

theorem ends_law {d : Int} (hd : 0 ≤ d ∧ d ≤ 255) : ∃ st', callE efns given f_law1_NumbersEnds [.int .u8 d] ⟨[], []⟩ = some (.bool true, st') := by
  obtain ⟨st1, hk⟩ := known_ok
  have w1 : IntKind.i64.wrap d = d := IntWalk.i64_in _ (by omega)
  have w2 : IntKind.i64.wrap (9223372036854775807 - d) = 9223372036854775807 - d := IntWalk.i64_in _ (by omega)
  have w3 : IntKind.i64.wrap (d + 1) = d + 1 := IntWalk.i64_in _ (by omega)
  have w4 : IntKind.i64.wrap (-9223372036854775808 + d) = -9223372036854775808 + d := IntWalk.i64_in _ (by omega)
  have a1 := add_ok given (a := 9223372036854775807 - d) (b := d) (by omega) (by omega) ⟨[], []⟩
  have a2 := add_ok given (a := 9223372036854775807 - d) (b := d + 1) (by omega) (by omega) ⟨[], []⟩
  have a3 := sub_ok given (a := -9223372036854775808 + d) (b := d) (by omega) (by omega) ⟨[], []⟩
  have a4 := sub_ok given (a := -9223372036854775808 + d) (b := d + 1) (by omega) (by omega) ⟨[], []⟩
  have a5 := mul_ok given (a := -9223372036854775808) (b := -1) (by omega) (by omega) ⟨[], []⟩
  have a6 := div_ok given (a := -9223372036854775808) (b := -1) (by omega) (by omega) ⟨[], []⟩
  have a7 := mod_ok given (a := -9223372036854775808) (b := -1) (by omega) (by omega) ⟨[], []⟩
  rw [callE_fn efns given (c := e_law1_NumbersEnds) rfl rfl]
  simp only [e_law1_NumbersEnds, go_sem, hk, w1, w2, w3, w4, a1, a2, a3, a4, a5, a6, a7]
  rw [show 9223372036854775807 - d + d = 9223372036854775807 by omega, show -9223372036854775808 + d - d = -9223372036854775808 by omega, show 9223372036854775807 - d + (d + 1) = 9223372036854775808 by omega, show -9223372036854775808 + d - (d + 1) = -9223372036854775809 by omega]
  exact ⟨_, rfl⟩

theorem turn_law {a b : Int} (ha : I64 a) (hb : I64 b) : ∃ st', callE efns given f_law1_NumbersTurn [.int .i64 a, .int .i64 b] ⟨[], []⟩ = some (.bool true, st') := by
  obtain ⟨st1, hk⟩ := known_ok
  rw [callE_fn efns given (c := e_law1_NumbersTurn) rfl rfl]
  simp only [e_law1_NumbersTurn, go_sem, hk, add_ok given ha hb ⟨[], []⟩, add_ok given hb ha ⟨[], []⟩, sub_ok given ha hb ⟨[], []⟩, sub_ok given hb ha ⟨[], []⟩, mul_ok given ha hb ⟨[], []⟩, mul_ok given hb ha ⟨[], []⟩]
  rw [Int.add_comm b a, Int.mul_comm b a]
  simp only [decide_true, Bool.and_true, Bool.true_and]
  have h : (decide ((fit (a - b)).snd ≠ 0) || decide ((fit (b - a)).snd ≠ 0) || decide ((fit (a - b)).fst = IntKind.i64.wrap (0 - (fit (b - a)).fst))) = true := by
    unfold fit
    by_cases h1 : I64 (a - b)
    · by_cases h2 : I64 (b - a)
      · rw [if_pos h1, if_pos h2, IntWalk.i64_in _ (by omega)]
        simp
        omega
      · rw [if_neg h2]
        simp
    · rw [if_neg h1]
      simp
  rw [h]
  exact ⟨_, rfl⟩

theorem nat_tmod (m : Nat) (b : Int) : (m : Int).tmod b = ((m % b.natAbs : Nat) : Int) := by cases b <;> rfl

theorem tmod_abs (a b : Int) : a.tmod b = if a < 0 then -((a.natAbs % b.natAbs : Nat) : Int) else ((a.natAbs % b.natAbs : Nat) : Int) := by
  split
  · rename_i h
    obtain ⟨m, rfl⟩ : ∃ m : Nat, a = -m := ⟨a.natAbs, by omega⟩
    rw [Int.neg_tmod, Int.natAbs_neg, Int.natAbs_natCast, nat_tmod]
  · rename_i h
    obtain ⟨m, rfl⟩ : ∃ m : Nat, a = m := ⟨a.natAbs, by omega⟩
    rw [Int.natAbs_natCast, nat_tmod]

theorem is_true {x : Bool} {st : St} (h : x = true) : ∃ st', some (PV.bool x, st) = some (PV.bool true, st') := ⟨st, by rw [h]⟩

theorem parts_law {a b : Int} (ha : I64 a) (hb : I64 b) : ∃ st', callE efns given f_law1_NumbersParts [.int .i64 a, .int .i64 b] ⟨[], []⟩ = some (.bool true, st') := by
  obtain ⟨st1, hk⟩ := known_ok
  rw [callE_fn efns given (c := e_law1_NumbersParts) rfl rfl]
  by_cases hb0 : b = 0
  · subst hb0
    simp only [e_law1_NumbersParts, go_sem, hk, div_ok given ha hb ⟨[], []⟩, mod_ok given ha hb ⟨[], []⟩, true_or, if_true]
    exact ⟨_, rfl⟩
  · by_cases hm : a = -9223372036854775808 ∧ b = -1
    · obtain ⟨rfl, rfl⟩ := hm
      simp only [e_law1_NumbersParts, go_sem, hk, div_ok given ha hb ⟨[], []⟩, mod_ok given ha hb ⟨[], []⟩]
      rw [if_neg (by decide), if_pos (by decide)]
      exact ⟨_, rfl⟩
    · have hd := tdiv_in ha hb hb0 hm
      have h1 := div_ok given ha hb ⟨[], []⟩
      rw [if_neg (by omega), if_neg (by omega)] at h1
      have hmod : (if b = 0 ∨ b = -1 then 0 else a.tmod b) = a.tmod b := by
        by_cases h : b = -1
        · subst h; simp
        · rw [if_neg (by omega)]
      have h2 := mod_ok given ha hb ⟨[], []⟩
      rw [hmod, if_neg hb0] at h2
      have key := Int.mul_tdiv_add_tmod a b
      rw [Int.mul_comm] at key
      have h3 := mul_ok given (a := a.tdiv b) (b := b) hd hb ⟨[], []⟩
      have hr := tmod_abs a b
      have hr1 := Nat.mod_lt a.natAbs (show 0 < b.natAbs by omega)
      have hr2 := Nat.mod_le a.natAbs b.natAbs
      generalize a.natAbs % b.natAbs = R at hr hr1 hr2
      generalize a.tmod b = r at h2 key hr ⊢
      generalize a.tdiv b = q at h1 h3 key hd ⊢
      generalize q * b = M at h3 key
      have hM : I64 M := by split at hr <;> omega
      rw [fit, if_pos hM] at h3
      have h4 := add_ok given (a := M) (b := r) hM (by split at hr <;> omega) ⟨[], []⟩
      rw [key, fit, if_pos ha] at h4
      simp only [e_law1_NumbersParts, go_sem, hk, h1, h2, h3, h4, hb0, if_false]
      have w : IntKind.i64.wrap (0 - r) = -r := by
        rw [IntWalk.i64_in _ (by split at hr <;> omega)]; omega
      have w0 : IntKind.i64.wrap (IntKind.i64.wrap (0 + 0) + 0) = 0 := by decide
      rw [if_neg (by decide), w, w0]
      refine is_true ?_
      simp only [Bool.and_eq_true, Bool.or_eq_true, beq_iff_eq, decide_eq_true_eq, decide_eq_decide, decide_true, true_and]
      split at hr <;> omega

theorem acc_append (l : List UInt8) (c : UInt8) : ∀ v, acc v (l ++ [c]) = 10 * acc v l + (c.toNat - 48) := by
  induction l with
  | nil => intro v; rw [List.nil_append, acc_cons]; rfl
  | cons d r ih => intro v; rw [List.cons_append, acc_cons, acc_cons, ih]

theorem dec_ok (u : Nat) : acc 0 (Lib.decDigits u) = u ∧ (Lib.decDigits u).all digit = true ∧ Lib.decDigits u ≠ [] := by
  induction u using Nat.strongRecOn with
  | _ u ih =>
    have hc : ∀ x, x < 10 → (UInt8.ofNat (48 + x)).toNat = 48 + x := by intro x hx; rw [UInt8.toNat_ofNat']; omega
    have hdg : ∀ x, x < 10 → digit (UInt8.ofNat (48 + x)) = true := by
      intro x hx
      unfold digit
      rw [hc x hx]
      simp
      omega
    rw [Lib.decDigits]
    split
    · rename_i h
      refine ⟨?_, ?_, by simp⟩
      · rw [acc_cons, hc u h]; show acc _ [] = _; simp [acc]
      · rw [List.all_cons, hdg u h]; rfl
    · rename_i h
      obtain ⟨h1, h2, h3⟩ := ih (u / 10) (by omega)
      refine ⟨?_, ?_, by simp⟩
      · rw [acc_append, h1, hc _ (by omega)]; omega
      · rw [List.all_append, h2, List.all_cons, hdg (u % 10) (by omega)]; rfl

theorem parseM_text {n : Int} (hn : I64 n) : parseM (text n) = (n, 0) := by
  rw [text_eq (by omega) (by omega), Lib.itoa, parseM_eq]
  by_cases h : n < 0
  · obtain ⟨h1, h2, h3⟩ := dec_ok n.natAbs
    rw [if_pos h]
    have hp : parts (45 :: Lib.decDigits n.natAbs) = (true, Lib.decDigits n.natAbs) := rfl
    have hs : shapeM (45 :: Lib.decDigits n.natAbs) = true := by
      unfold shapeM
      rw [hp, h2]
      cases hh : Lib.decDigits n.natAbs with
      | nil => exact absurd hh h3
      | cons c r => rfl
    rw [hs, if_pos rfl, hp]
    simp only [if_true]
    rw [h1, fit]
    rw [show (-(n.natAbs : Int)) = n by omega, if_pos hn]
  · obtain ⟨h1, h2, h3⟩ := dec_ok n.toNat
    rw [if_neg h]
    have hp : parts (Lib.decDigits n.toNat) = (false, Lib.decDigits n.toNat) := by
      cases hh : Lib.decDigits n.toNat with
      | nil => exact absurd hh h3
      | cons c r =>
        rw [hh, List.all_cons, Bool.and_eq_true] at h2
        have hb := digit_bounds h2.1
        rw [parts_cons, if_neg, if_neg]
        · intro h; subst h; revert hb; decide
        · intro h; subst h; revert hb; decide
    have hs : shapeM (Lib.decDigits n.toNat) = true := by
      unfold shapeM
      rw [hp, h2]
      cases hh : Lib.decDigits n.toNat with
      | nil => exact absurd hh h3
      | cons c r => rfl
    rw [hs, if_pos rfl, hp]
    simp only [Bool.false_eq_true, if_false]
    rw [h1, fit]
    rw [show ((n.toNat : Int)) = n by omega, if_pos hn]

theorem text_len {n : Int} (hn : I64 n) : (text n).length ≤ 100 := by
  rw [text_eq (by omega) (by omega), Lib.itoa]
  split
  · have := decDigits_len 19 n.natAbs (by omega)
    simp only [List.length_cons]; omega
  · have := decDigits_len 19 n.toNat (by omega)
    omega

theorem words_law {s : List UInt8} {n : Int} (hn : I64 n) : ∃ st', callE efns given f_law1_NumbersWords [.str s, .int .i64 n] ⟨[], []⟩ = some (.bool true, st') := by
  obtain ⟨st1, hk⟩ := known_ok
  rw [callE_fn efns given (c := e_law1_NumbersWords) rfl rfl]
  by_cases hs : (s.length : Int) > 100
  · simp only [e_law1_NumbersWords, go_sem, hk, hs, if_true]
    exact ⟨_, rfl⟩
  · have hl := text_len hn
    have h1 := parse_ok given (s := s) (by omega) ⟨[], []⟩
    have h2 := rparse_ok given (s := s) (by omega) ⟨[], []⟩
    have h3 := parse_ok given (s := text n) (by omega) ⟨[], []⟩
    rw [parseM_text hn] at h3
    simp only [e_law1_NumbersWords, go_sem, hk, hs, if_false, h1, h2, h3, text_ok hn ⟨[], []⟩, rtext_ok hn ⟨[], []⟩]
    exact ⟨_, rfl⟩

theorem idx_at {l : List PV} {n : Nat} {k : IntKind} {x : Int} (h : l[n]? = some (.int k x)) : evIdx 1 l (n : Int) = some (.ref [.int k x]) := by
  unfold evIdx
  rw [if_pos (Int.natCast_nonneg n), Int.toNat_natCast, h]
  rfl

theorem ld1 {x : PV} : loadV none (.ptr 0 0) ⟨[[x]], []⟩ = some (x, ⟨[[x]], []⟩) := rfl
theorem sto1 {x : Int} {y : PV} : storeV 1 (.ptr 0 0) (.agg [.int .i64 x]) ⟨[[y]], []⟩ = some (.tuple [], ⟨[[.int .i64 x]], []⟩) := rfl
theorem fl1 {x y : Int} : fillP [.int .i64 y] (zip3 [(0, 1)] [.int .i64 x]) = some [.int .i64 x] := rfl

theorem fuel_loop {K : EX → Fr → St → Option (PV × St)} {l : List PV} (hlen : l.length ≤ 60) (hl : ∀ y ∈ l, ∃ n, y = .int .i64 n ∧ I64 n) : ∀ (d n : Nat) (m : Int) (u7 u8 : PV), l.length - n = d → n ≤ l.length → 0 ≤ m → m ≤ 1099511627776 →
    ∃ (m' : Int) (u7' u8' : PV), runL (callE efns given) [false, true, true, true, true, false, false, false, false] b_law1_NumbersFuel_0 [.undef, .lst l, .ptr 0 0, .int .i64 m, .int .i64 n, .undef, .undef, .undef, .undef] ⟨[[.int .i64 m]], []⟩ K =
      K (.exit 0) [.undef, .lst l, .ptr 0 0, .int .i64 m', .int .i64 l.length, .undef, .undef, u7', u8'] ⟨[[.int .i64 m']], []⟩ := by
  intro d
  induction d with
  | zero =>
    intro n m u7 u8 hd hn h0 h1
    have : n = l.length := by omega
    subst this
    refine ⟨m, .undef, .undef, ?_⟩
    rw [runL_eq]
    simp only [b_law1_NumbersFuel_0, go_sem]
    rw [if_neg (by omega)]
  | succ d ih =>
    intro n m u7 u8 hd hn h0 h1
    have hlt : n < l.length := by omega
    obtain ⟨x, hx, hx64⟩ := hl l[n] (List.getElem_mem hlt)
    have hg : l[n]? = some (.int .i64 x) := by rw [List.getElem?_eq_getElem hlt, hx]
    have hU := use_ok given (b := 0) (n := x) (st := ⟨[[.int .i64 m]], []⟩) (l := m) hx64 (by omega) rfl
    rw [runL_eq]
    generalize hL : runL _ _ b_law1_NumbersFuel_0 = L at ih ⊢
    have w1 : IntKind.i64.wrap ((n : Int) + 1) = ((n + 1 : Nat) : Int) := by rw [IntWalk.i64_in _ (by omega)]; omega
    have hb0 : ({ boxes := [[.int .i64 m]], rows := [] } : St).boxes[0]? = some [.int .i64 m] := rfl
    have w2 : ¬ x < 0 → ¬ m < x → IntKind.i64.wrap (m - x) = m - x := fun h h2 => IntWalk.i64_in _ (by omega)
    rw [useM] at hU
    by_cases hx0 : x < 0
    · rw [if_pos hx0] at hU
      obtain ⟨m', u7', u8', hh⟩ := ih (n + 1) m .undef .undef (by omega) (by omega) h0 h1
      refine ⟨m', u7', u8', ?_⟩
      rw [← hh]
      simp only [b_law1_NumbersFuel_0, go_sem, hU, w1, idx_at hg, hx0, if_true, List.set, ld1, ne_eq, not_true_eq_false, decide_false]
      rw [if_pos (by omega)]
    · rw [if_neg hx0] at hU
      by_cases hx1 : m < x
      · rw [if_pos hx1] at hU
        obtain ⟨m', u7', u8', hh⟩ := ih (n + 1) 0 .undef .undef (by omega) (by omega) (by omega) (by omega)
        refine ⟨m', u7', u8', ?_⟩
        rw [← hh]
        simp only [b_law1_NumbersFuel_0, go_sem, hU, w1, w2, idx_at hg, hx0, hx1, not_false_eq_true, if_true, if_false, List.set, ld1, ne_eq, not_true_eq_false, decide_false]

        rw [if_pos (by omega)]
      · rw [if_neg hx1] at hU
        obtain ⟨m', u7', u8', hh⟩ := ih (n + 1) (m - x) .undef .undef (by omega) (by omega) (by omega) (by omega)
        refine ⟨m', u7', u8', ?_⟩
        rw [← hh]
        simp only [b_law1_NumbersFuel_0, go_sem, hU, w1, w2, idx_at hg, hx0, hx1, not_false_eq_true, if_true, if_false, List.set, ld1, ne_eq, not_true_eq_false, decide_false]

        rw [if_pos (by omega)]


theorem fuel_law {left : Int} {l : List PV} (hleft : I64 left) (hl : ∀ y ∈ l, ∃ n, y = .int .i64 n ∧ I64 n) : ∃ st', callE efns given f_law1_NumbersFuel [.int .i64 left, .lst l] ⟨[], []⟩ = some (.bool true, st') := by
  obtain ⟨st1, hk⟩ := known_ok
  rw [callE_fn efns given (c := e_law1_NumbersFuel) rfl rfl]
  by_cases h : (left < 0 ∨ left > 1099511627776) ∨ (l.length : Int) > 60
  · simp only [e_law1_NumbersFuel, go_sem, hk, h, if_true]
    exact ⟨_, rfl⟩
  · have hlen : l.length ≤ 60 := by omega
    simp only [e_law1_NumbersFuel, go_sem, hk, h, if_false, fl1, sto1]
    generalize hK : blockK 0 _ = K
    obtain ⟨m', a, b, hh⟩ := fuel_loop (K := K) hlen hl l.length 0 left .undef .undef rfl (by omega) (by omega) (by omega)
    refine ⟨⟨[[.int .i64 m']], []⟩, Eq.trans hh ?_⟩
    rw [← hK]
    rfl
end Go.Proofs.YtngkdpiajikcjaaDoorPe.Num
