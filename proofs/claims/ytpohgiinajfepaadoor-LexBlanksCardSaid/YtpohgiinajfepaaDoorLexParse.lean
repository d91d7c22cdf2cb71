/- num.Parse: what it comes to. -/
import Derived.Test.YtpohgiinajfepaaDoorLexNum
set_option linter.unusedVariables false
set_option linter.unusedSimpArgs false
set_option maxRecDepth 100000
namespace Go.Proofs.YtpohgiinajfepaaDoorPe.Lex
open Go Go.Proofs.YtpohgiinajfepaaDoorPe Go.Proofs.YtpohgiinajfepaaDoorPe.LexCode
attribute [local go_sem] V_bslice

def digit (c : UInt8) : Bool := decide (48 ≤ c.toNat) && decide (c.toNat ≤ 57)

section
variable (given : FuncId → List PV → Option PV)
variable {α : Type} {K : EX → Fr → St → Option α}

theorem parse_loop0 {s : List UInt8} (hs : s.length < 4611686018427387904) {mi : Bool} {st : St} : ∀ (d n : Nat), s.length - n = d → n ≤ s.length →
    runL (callE efns given) [false, true, true, false, false, false, true, true, false, false, false, false, false] b_num_Parse_0 [.undef, .str s, .bool mi, .undef, .undef, .undef, .int .i64 s.length, .int .i64 n, .undef, .undef, .undef, .undef, .undef] st K =
      if (s.drop n).all digit = true then K (.exit 3) [.undef, .str s, .bool mi, .undef, .undef, .undef, .int .i64 s.length, .int .i64 s.length, .undef, .undef, .undef, .undef, .undef] st else K (.ret (.tuple [.int .i64 0, .int .i64 2])) [] st := by
  intro d
  induction d with
  | zero =>
    intro n hd hn
    have : n = s.length := by omega
    subst this
    rw [runL_eq]
    simp only [b_num_Parse_0, go_sem, V_call]
    simp
  | succ d ih =>
    intro n hd hn
    have hlt : n < s.length := by omega
    obtain ⟨c, hc⟩ : ∃ c, s[n]? = some c := ⟨s[n], List.getElem?_eq_getElem hlt⟩
    have hdr : s.drop n = c :: s.drop (n + 1) := by
      rw [List.drop_eq_getElem_cons hlt]
      rw [List.getElem?_eq_getElem hlt] at hc
      rw [Option.some.inj hc]
    rw [runL_eq]
    generalize hL : runL _ _ b_num_Parse_0 = L at ih ⊢
    simp only [b_num_Parse_0, go_sem, V_call, sidx_at hc]
    rw [if_pos (by omega), IntWalk.i64_in _ (by omega), hdr, List.all_cons]
    have hd' : digit c = true ↔ ¬ ((c.toNat : Int) < 48 ∨ (c.toNat : Int) > 57) := by
      unfold digit
      simp
      omega
    by_cases h : (c.toNat : Int) < 48 ∨ (c.toNat : Int) > 57
    · have : digit c = false := by
        rw [Bool.eq_false_iff]
        exact fun h' => hd'.1 h' h
      rw [if_pos h, this]
      simp
    · have : digit c = true := hd'.2 h
      rw [if_neg h, this, Bool.true_and]
      exact ih (n + 1) (by omega) (by omega)

/-- Digits behind a number. -/
def step10 (v : Nat) (c : UInt8) : Nat := 10 * v + (c.toNat - 48)
def acc (v : Nat) (l : List UInt8) : Nat := l.foldl step10 v
theorem acc_cons {v : Nat} {c : UInt8} {r : List UInt8} : acc v (c :: r) = acc (10 * v + (c.toNat - 48)) r := by
  unfold acc
  rw [List.foldl_cons, step10]
theorem acc_ge (l : List UInt8) : ∀ (v : Nat), v ≤ acc v l := by
  induction l with
  | nil => intro v; exact Nat.le_refl v
  | cons c r ih =>
    intro v
    have := ih (10 * v + (c.toNat - 48))
    rw [acc_cons]
    omega

theorem digit_bounds {c : UInt8} (h : digit c = true) : 48 ≤ c.toNat ∧ c.toNat ≤ 57 := by
  unfold digit at h
  simpa using h

theorem parse_loop1 {s : List UInt8} (hs : s.length < 4611686018427387904) {mi : Bool} {st : St} : ∀ (d n v : Nat), s.length - n = d → n ≤ s.length → v ≤ 9223372036854775808 → (s.drop n).all digit = true →
    runL (callE efns given) [false, true, true, true, false, false, false, false, true, true, false, false, false] b_num_Parse_1 [.undef, .str s, .bool mi, .int .i64 (-(v : Int)), .undef, .undef, .undef, .undef, .int .i64 s.length, .int .i64 n, .undef, .undef, .undef] st K =
      if acc v (s.drop n) ≤ 9223372036854775808 then K (.exit 5) [.undef, .str s, .bool mi, .int .i64 (-(acc v (s.drop n) : Int)), .undef, .undef, .undef, .undef, .int .i64 s.length, .int .i64 s.length, .undef, .undef, .undef] st else K (.ret (.tuple [.int .i64 0, .int .i64 11])) [] st := by
  intro d
  induction d with
  | zero =>
    intro n v hd hn hv hdig
    have : n = s.length := by omega
    subst this
    rw [runL_eq]
    simp only [b_num_Parse_1, go_sem, V_call]
    rw [if_neg (by omega), List.drop_length, show acc v [] = v from rfl, if_pos hv]
  | succ d ih =>
    intro n v hd hn hv hdig
    have hlt : n < s.length := by omega
    obtain ⟨c, hc⟩ : ∃ c, s[n]? = some c := ⟨s[n], List.getElem?_eq_getElem hlt⟩
    have hdr : s.drop n = c :: s.drop (n + 1) := by
      rw [List.drop_eq_getElem_cons hlt]
      rw [List.getElem?_eq_getElem hlt] at hc
      rw [Option.some.inj hc]
    rw [hdr, List.all_cons, Bool.and_eq_true] at hdig
    have hb := digit_bounds hdig.1
    have hge := acc_ge (s.drop (n + 1)) (10 * v + (c.toNat - 48))
    have h1 := mul_ok given (a := -(v : Int)) (b := 10) (by omega) (by omega) ⟨[], [], [], []⟩
    have w8 : IntKind.u8.wrap ((c.toNat : Int) - 48) = ((c.toNat - 48 : Nat) : Int) := by rw [IntKind.wrap_u8]; omega
    have w64 : IntKind.i64.wrap ((c.toNat - 48 : Nat) : Int) = ((c.toNat - 48 : Nat) : Int) := IntWalk.i64_in _ (by omega)
    rw [runL_eq, hdr, acc_cons]
    generalize hL : runL _ _ b_num_Parse_1 = L at ih ⊢
    by_cases h10 : I64 (-(v : Int) * 10)
    · have h2 := sub_ok given (a := -(v : Int) * 10) (b := ((c.toNat - 48 : Nat) : Int)) h10 (by omega) ⟨[], [], [], []⟩
      simp only [fit, if_pos h10] at h1
      by_cases h11 : I64 (-(v : Int) * 10 - ((c.toNat - 48 : Nat) : Int))
      · simp only [fit, if_pos h11] at h2
        simp only [b_num_Parse_1, go_sem, V_call, sidx_at hc, h1, h2, w8, w64]
        rw [if_pos (by omega), if_neg (by omega), IntWalk.i64_in _ (by omega)]
        have e : -(v : Int) * 10 - ((c.toNat - 48 : Nat) : Int) = -((10 * v + (c.toNat - 48) : Nat) : Int) := by omega
        rw [e]
        exact ih (n + 1) (10 * v + (c.toNat - 48)) (by omega) (by omega) (by omega) hdig.2
      · simp only [fit, if_neg h11] at h2
        simp only [b_num_Parse_1, go_sem, V_call, sidx_at hc, h1, h2, w8, w64]
        rw [if_pos (by omega), if_pos (by decide), if_neg (by omega)]
    · simp only [fit, if_neg h10] at h1
      simp only [b_num_Parse_1, go_sem, V_call, sidx_at hc, h1, w8, w64]
      rw [if_pos (by omega), if_neg (by decide), if_pos (by decide), if_neg (by omega)]

theorem prefix_ok {s p : List UInt8} (hs : s.length < 4611686018427387904) (hp : p.length < 4611686018427387904) (st : St) : callE efns given f_internal_stringslite_HasPrefix [.str s, .str p] st = some (.bool (decide (p.length ≤ s.length ∧ s.take p.length = p)), st) := by
  rw [callE_fn efns given (c := e_internal_stringslite_HasPrefix) rfl rfl]
  by_cases h : p.length ≤ s.length
  · simp only [e_internal_stringslite_HasPrefix, go_sem, V_call, ssub_hi (Int.natCast_nonneg _) (show (p.length : Int) ≤ s.length by omega), Int.toNat_natCast, h]
    simp [h]
  · have h' : ¬ ((s.length : Int) ≥ p.length) := by omega
    simp only [e_internal_stringslite_HasPrefix, go_sem, V_call, h, h']
theorem hasPrefix_ok {s p : List UInt8} (hs : s.length < 4611686018427387904) (hp : p.length < 4611686018427387904) (st : St) : callE efns given f_strings_HasPrefix [.str s, .str p] st = some (.bool (decide (p.length ≤ s.length ∧ s.take p.length = p)), st) := by
  rw [callE_fn efns given (c := e_strings_HasPrefix) rfl rfl]
  simp only [e_strings_HasPrefix, go_sem, V_call, prefix_ok given hs hp]

/-- A text's number. -/
def parseM (s : List UInt8) : Int × Int :=
  let t := match s with
    | 45 :: r => (true, r)
    | 43 :: r => (false, r)
    | r => (false, r)
  if t.2 = [] ∨ ¬ t.2.all digit = true then (0, 2) else fit (if t.1 then -(acc 0 t.2 : Int) else (acc 0 t.2 : Int))

/-- What follows the sign. -/
theorem parse_tail {s : List UInt8} (hs : s.length < 4611686018427387904) (mi : Bool) (y : PV) (st : St) : ∀ (fr : Fr), fr = [y, .str s, .bool mi, .undef, .undef, .undef, .undef, .undef, .undef, .undef, .undef, .undef, .undef] →
    runE (callE efns given) (match e_num_Parse.body with | .seq _ (.seq _ c) => c | c => c) fr st retK = some (.tuple [.int .i64 (if s = [] ∨ ¬ s.all digit = true then (0, 2) else fit (if mi then -(acc 0 s : Int) else (acc 0 s : Int))).1, .int .i64 (if s = [] ∨ ¬ s.all digit = true then (0, 2) else fit (if mi then -(acc 0 s : Int) else (acc 0 s : Int))).2], st) := by
  rintro fr rfl
  have l0 := fun {K : EX → Fr → St → Option (PV × St)} => parse_loop0 given (K := K) hs (mi := mi) (st := st) s.length 0 (by omega) (by omega)
  simp only [e_num_Parse, go_sem, V_call]
  simp only [Int.natCast_zero, List.drop_zero] at l0
  simp only [l0, go_sem, V_call]
  by_cases h1 : s = []
  · subst h1
    simp
  · by_cases h2 : s.all digit = true
    · have l1 := fun {K : EX → Fr → St → Option (PV × St)} => parse_loop1 given (K := K) hs (mi := mi) (st := st) s.length 0 0 (by omega) (by omega) (by omega) (by simpa using h2)
      simp only [Int.natCast_zero, List.drop_zero, Int.neg_zero] at l1
      by_cases h3 : acc 0 s ≤ 9223372036854775808
      · have h4 := sub_ok given (a := 0) (b := -(acc 0 s : Int)) (by omega) (by omega) ⟨[], [], [], []⟩
        simp only [l1, go_sem, V_call, h1, h2, h3, h4]
        rw [Int.zero_sub, Int.neg_neg]
        cases mi with
        | true =>
          have : I64 (-(acc 0 s : Int)) := by omega
          have e : fit (-(acc 0 s : Int)) = (-(acc 0 s : Int), 0) := by unfold fit; rw [if_pos this]
          simp [e]
        | false => simp
      · simp only [l1, go_sem, V_call, h1, h2, h3]
        have e : fit (if mi = true then -(acc 0 s : Int) else (acc 0 s : Int)) = (0, 11) := by
          unfold fit
          rw [if_neg]
          cases mi
          · simp only [Bool.false_eq_true, if_false]; omega
          · simp only [if_true]; omega
        rw [e]
    · simp [h1, h2]

theorem parse_ok {s : List UInt8} (hs : s.length < 4611686018427387904) (st : St) : callE efns given f_num_Parse [.str s] st = some (.tuple [.int .i64 (parseM s).1, .int .i64 (parseM s).2], st) := by
  rw [callE_fn efns given (c := e_num_Parse) rfl rfl]
  have p1 := hasPrefix_ok given hs (p := [45]) (by decide) ⟨[], [], [], []⟩
  have p2 := hasPrefix_ok given hs (p := [43]) (by decide) ⟨[], [], [], []⟩
  have tail := fun (t : List UInt8) (ht : t.length < 4611686018427387904) (mi : Bool) => parse_tail given ht mi (.str s) st _ rfl
  change runE _ (.seq _ (.seq _ (match e_num_Parse.body with | .seq _ (.seq _ c) => c | c => c))) _ _ _ = _
  generalize (match e_num_Parse.body with | .seq _ (.seq _ c) => c | c => c) = C at tail ⊢
  cases s with
  | nil =>
    simp only [go_sem, V_call, e_num_Parse, p1, p2, tail [] (by decide) false]
    simp [tail [] (by decide) false, parseM]
  | cons c r =>
    have e1 : ssubV (.str (c :: r)) (some (.int .i64 1)) none = some (.str r) := ssub_lo (k := .i64) (i := 1) (by decide) (by simp; omega)
    have hr : r.length < 4611686018427387904 := by simp at hs; omega
    have e45 : (1 ≤ r.length + 1 ∧ [c] = [(45 : UInt8)]) = (c = 45) := by simp
    have e43 : (1 ≤ r.length + 1 ∧ [c] = [(43 : UInt8)]) = (c = 43) := by simp
    simp only [go_sem, V_call, e_num_Parse, p1, p2, e1, e45, e43, tail (c :: r) hs false, tail r hr true, tail r hr false]
    by_cases h45 : c = 45
    · subst h45; simp [parseM]
    · by_cases h43 : c = 43
      · subst h43; simp [parseM]
      · have : parseM (c :: r) = if (c :: r) = [] ∨ ¬ (c :: r).all digit = true then (0, 2) else fit (acc 0 (c :: r) : Int) := by
          unfold parseM
          split
          · rename_i h; cases h; exact absurd rfl h45
          · rename_i h; cases h; exact absurd rfl h43
          · simp
        rw [this]
        simp [h45, h43]
end
end Go.Proofs.YtpohgiinajfepaaDoorPe.Lex
