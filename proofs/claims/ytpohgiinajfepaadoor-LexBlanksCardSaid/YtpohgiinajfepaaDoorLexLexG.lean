/- Bytes: what may stand where (each looked at by the kernel); names. -/
import Derived.Test.YtpohgiinajfepaaDoorLexLexM
set_option linter.unusedVariables false
set_option linter.unusedSimpArgs false
set_option maxRecDepth 1000000
namespace Go.Proofs.YtpohgiinajfepaaDoorPe.Lex
open Go Go.Proofs.YtpohgiinajfepaaDoorPe Go.Proofs.YtpohgiinajfepaaDoorPe.LexCode
attribute [local go_sem] V_bslice

def isB (r : Option (PV × St)) (b : Bool) : Bool :=
  match r with
  | some (.bool x, _) => x == b
  | _ => false
def isI (r : Option (PV × St)) (n : Int) : Bool :=
  match r with
  | some (.int .i64 x, _) => x == n
  | _ => false
theorem isB_some {r : Option (PV × St)} {b : Bool} (h : isB r b = true) : ∃ st, r = some (.bool b, st) := by
  unfold isB at h
  split at h
  · rename_i x st
    have : x = b := by simpa using h
    subst this
    exact ⟨st, rfl⟩
  · cases h
theorem isI_some {r : Option (PV × St)} {n : Int} (h : isI r n = true) : ∃ st, r = some (.int .i64 n, st) := by
  unfold isI at h
  split at h
  · rename_i x st
    have : x = n := by simpa using h
    subst this
    exact ⟨st, rfl⟩
  · cases h
def byteRun (k : Nat) (f : FuncId) (p : UInt8 → Bool) : Bool := (List.range 256).all fun n => isB (evFE efns given k f [.int .u8 (n : Int)] ⟨[], [], [], []⟩) (p (UInt8.ofNat n))
def byteInt (k : Nat) (f : FuncId) (p : UInt8 → Int) : Bool := (List.range 256).all fun n => isI (evFE efns given k f [.int .u8 (n : Int)] ⟨[], [], [], []⟩) (p (UInt8.ofNat n))
theorem byte_t {k : Nat} {f : FuncId} {p : UInt8 → Bool} (h : byteRun k f p = true) (c : UInt8) : tupV (callE efns given) (.call 0 f) [.int .u8 c.toNat] = some (.bool (p c)) := by
  have := List.all_eq_true.1 h c.toNat (List.mem_range.2 c.toNat_lt)
  rw [UInt8.ofNat_toNat] at this
  obtain ⟨st, h⟩ := isB_some this
  exact callV_of rfl ((callE_some efns given).2 ⟨k, h⟩) rfl
theorem byteI_t {k : Nat} {f : FuncId} {p : UInt8 → Int} (h : byteInt k f p = true) (c : UInt8) : tupV (callE efns given) (.call 0 f) [.int .u8 c.toNat] = some (.int .i64 (p c)) := by
  have := List.all_eq_true.1 h c.toNat (List.mem_range.2 c.toNat_lt)
  rw [UInt8.ofNat_toNat] at this
  obtain ⟨st, h⟩ := isI_some this
  exact callV_of rfl ((callE_some efns given).2 ⟨k, h⟩) rfl

def classM (c : UInt8) : Int := if letterB c = true then 2 else if partB c = true then 1 else 0
theorem letter_t (c : UInt8) : tupV (callE efns given) (.call 0 f_ref3_letter) [.int .u8 c.toNat] = some (.bool (letterB c)) := byte_t (k := 10) (by kernel_rfl) c
theorem rpart_t (c : UInt8) : tupV (callE efns given) (.call 0 f_ref3_Part) [.int .u8 c.toNat] = some (.bool (partB c)) := byte_t (k := 10) (by kernel_rfl) c
theorem rsignB_t (c : UInt8) : tupV (callE efns given) (.call 0 f_ref3_Sign) [.int .u8 c.toNat] = some (.bool (signB c)) := byte_t (k := 10) (by kernel_rfl) c
theorem blank_t (c : UInt8) : tupV (callE efns given) (.call 0 f_ref4_blank) [.int .u8 c.toNat] = some (.bool (blankB c)) := byte_t (k := 10) (by kernel_rfl) c
theorem vsign_t (c : UInt8) : tupV (callE efns given) (.call 0 f_val_sign) [.int .u8 c.toNat] = some (.bool (signB c)) := byte_t (k := 10) (by kernel_rfl) c
theorem class_t (c : UInt8) : tupV (callE efns given) (.call 0 f_sym_class) [.int .u8 c.toNat] = some (.int .i64 (classM c)) := byteI_t (k := 10) (by kernel_rfl) c
theorem part_t (c : UInt8) : tupV (callE efns given) (.call 0 f_lex_part) [.int .u8 c.toNat] = some (.bool (partB c)) := byte_t (k := 20) (by kernel_rfl) c
theorem sign_t (c : UInt8) : tupV (callE efns given) (.call 0 f_lex_sign) [.int .u8 c.toNat] = some (.bool (signB c)) := byte_t (k := 20) (by kernel_rfl) c

theorem classM_letter {c : UInt8} : (classM c < 2) = (letterB c = false) := by
  unfold classM
  cases h : letterB c with
  | true => simp
  | false =>
    simp only [Bool.false_eq_true, if_false]
    split <;> simp
theorem letter_part {c : UInt8} (h : letterB c = true) : partB c = true := by unfold partB; rw [h]; rfl
theorem classM_zero {c : UInt8} : (classM c = 0) = (partB c = false) := by
  unfold classM
  by_cases h : letterB c = true
  · rw [if_pos h, letter_part h]; simp
  · rw [if_neg h]
    cases partB c <;> simp

theorem good_loop {s : List UInt8} (hs : s.length < 4611686018427387904) {st : St} {K : EX → Fr → St → Option (PV × St)} : ∀ (d n : Nat), s.length - n = d → n ≤ s.length →
    runL (callE efns given) [true, true, true] b_sym_Good_0 [.str s, .int .i64 s.length, .int .i64 n] st K =
      if (s.drop n).all partB = true then K (.exit 0) [.str s, .int .i64 s.length, .int .i64 s.length] st else K (.ret (.bool false)) [] st := by
  intro d
  induction d with
  | zero =>
    intro n hd hn
    have : n = s.length := by omega
    subst this
    rw [runL_eq, List.drop_length]
    generalize runL _ _ b_sym_Good_0 = L
    simp only [b_sym_Good_0, go_sem, Int.lt_irrefl, if_false, List.all_nil, if_true]
  | succ d ih =>
    intro n hd hn
    have hlt : n < s.length := by omega
    obtain ⟨c, hc⟩ : ∃ c, s[n]? = some c := ⟨s[n], List.getElem?_eq_getElem hlt⟩
    have w1 : IntKind.i64.wrap ((n : Int) + 1) = ((n + 1 : Nat) : Int) := by rw [IntWalk.i64_in _ (by omega)]; omega
    have c1 : ((n : Int) < (s.length : Int)) = True := eq_true (by omega)
    have hr := ih (n + 1) (by omega) (by omega)
    rw [runL_eq, drop_at hc, List.all_cons]
    generalize runL _ _ b_sym_Good_0 = L at hr ⊢
    have hz := @classM_zero c
    cases hp : partB c with
    | true =>
      have hz' : (classM c = 0) = False := by rw [hz, hp]; simp
      simp only [b_sym_Good_0, go_sem, sidx_at hc, c1, w1, class_t, hz', hr, Bool.true_and, if_false, if_true]
    | false =>
      have hz' : (classM c = 0) = True := by rw [hz, hp]; simp
      simp only [b_sym_Good_0, go_sem, sidx_at hc, c1, w1, class_t, hz', Bool.false_and, if_true, Bool.false_eq_true, if_false]

theorem goodM_at {s : List UInt8} {c : UInt8} (hc : s[0]? = some c) : goodM s = (decide (s.length ≤ 40) && letterB c && s.all partB) := by
  cases s with
  | nil => cases hc
  | cons d r => cases hc; rfl

theorem good_ok {s : List UInt8} (hs : s.length < 4611686018427387904) : callE efns given f_sym_Good [.str s] ⟨[], [], [], []⟩ = some (.bool (goodM s), ⟨[], [], [], []⟩) := by
  rw [callE_fn efns given (c := e_sym_Good) rfl rfl]
  by_cases h0 : s = []
  · subst h0
    simp [e_sym_Good, go_sem, goodM]
  obtain ⟨c, hc⟩ : ∃ c, s[0]? = some c := by
    cases s with
    | nil => exact absurd rfl h0
    | cons c r => exact ⟨c, rfl⟩
  have hlt : 0 < s.length := List.length_pos_iff.2 h0
  have c1 : ((s.length : Int) < 1) = False := eq_false (by omega)
  have hx : biV .sidx (.str s) (.int .i64 0) = some (.int .u8 c.toNat) := sidx_at (n := 0) hc
  rw [goodM_at hc]
  by_cases h40 : (s.length : Int) > 40
  · have : ¬ s.length ≤ 40 := by omega
    rw [decide_eq_false this, Bool.false_and, Bool.false_and]
    simp only [e_sym_Good, go_sem, c1, h40, if_true, if_false, false_or, true_or, or_true]
  · have : s.length ≤ 40 := by omega
    rw [decide_eq_true this, Bool.true_and]
    cases hl : letterB c with
    | false =>
      have hz : (classM c < 2) = True := by rw [classM_letter, hl]; simp
      rw [Bool.false_and]
      simp only [e_sym_Good, go_sem, c1, h40, hx, class_t, hz, if_true, if_false, false_or, or_false, Bool.false_eq_true, decide_false, Bool.or_false, Bool.false_or, not_false_eq_true]
    | true =>
      have hz : (classM c < 2) = False := by rw [classM_letter, hl]; simp
      rw [Bool.true_and]
      simp only [e_sym_Good, go_sem, c1, h40, hx, class_t, hz, if_true, if_false, false_or, or_false, Bool.false_eq_true, decide_false, Bool.or_false, Bool.false_or]
      generalize hK : blockK 0 _ = K
      have hh := good_loop hs (st := ⟨[], [], [], []⟩) (K := K) _ 0 rfl (by omega)
      rw [List.drop_zero] at hh
      refine Eq.trans hh ?_
      rw [← hK]
      cases s.all partB with
      | true => simp only [go_sem, if_true]
      | false => simp only [go_sem, Bool.false_eq_true, if_false]
theorem good_t {s : List UInt8} (hs : s.length < 4611686018427387904) : tupV (callE efns given) (.call 0 f_sym_Good) [.str s] = some (.bool (goodM s)) := callV_of rfl (good_ok hs) rfl

theorem rgood_loop {s : List UInt8} (hs : s.length < 4611686018427387904) {st : St} {K : EX → Fr → St → Option (PV × St)} : ∀ (d n : Nat), s.length - n = d → n ≤ s.length →
    runL (callE efns given) [true, true] b_ref3_Good_0 [.str s, .int .i64 n] st K =
      if (s.drop n).all partB = true then K (.exit 0) [.str s, .int .i64 s.length] st else K (.ret (.bool false)) [] st := by
  intro d
  induction d with
  | zero =>
    intro n hd hn
    have : n = s.length := by omega
    subst this
    rw [runL_eq, List.drop_length]
    generalize runL _ _ b_ref3_Good_0 = L
    simp only [b_ref3_Good_0, go_sem, Int.lt_irrefl, if_false, List.all_nil, if_true]
  | succ d ih =>
    intro n hd hn
    have hlt : n < s.length := by omega
    obtain ⟨c, hc⟩ : ∃ c, s[n]? = some c := ⟨s[n], List.getElem?_eq_getElem hlt⟩
    have w1 : IntKind.i64.wrap ((n : Int) + 1) = ((n + 1 : Nat) : Int) := by rw [IntWalk.i64_in _ (by omega)]; omega
    have c1 : ((n : Int) < (s.length : Int)) = True := eq_true (by omega)
    have hr := ih (n + 1) (by omega) (by omega)
    rw [runL_eq, drop_at hc, List.all_cons]
    generalize runL _ _ b_ref3_Good_0 = L at hr ⊢
    cases hp : partB c with
    | true => simp only [b_ref3_Good_0, go_sem, sidx_at hc, c1, w1, rpart_t, hp, hr, Bool.true_and, if_true]
    | false => simp only [b_ref3_Good_0, go_sem, sidx_at hc, c1, w1, rpart_t, hp, Bool.false_and, if_true, Bool.false_eq_true, if_false]
theorem rgood_ok {s : List UInt8} (hs : s.length < 4611686018427387904) : callE efns given f_ref3_Good [.str s] ⟨[], [], [], []⟩ = some (.bool (goodM s), ⟨[], [], [], []⟩) := by
  rw [callE_fn efns given (c := e_ref3_Good) rfl rfl]
  by_cases h0 : s = []
  · subst h0
    simp [e_ref3_Good, go_sem, goodM]
  obtain ⟨c, hc⟩ : ∃ c, s[0]? = some c := by
    cases s with
    | nil => exact absurd rfl h0
    | cons c r => exact ⟨c, rfl⟩
  have hlt : 0 < s.length := List.length_pos_iff.2 h0
  have c1 : ((s.length : Int) = 0) = False := eq_false (by omega)
  have hx : biV .sidx (.str s) (.int .i64 0) = some (.int .u8 c.toNat) := sidx_at (n := 0) hc
  rw [goodM_at hc]
  by_cases h40 : (s.length : Int) > 40
  · have : ¬ s.length ≤ 40 := by omega
    rw [decide_eq_false this, Bool.false_and, Bool.false_and]
    simp only [e_ref3_Good, go_sem, c1, h40, if_true, if_false, false_or, true_or, or_true]
  · have : s.length ≤ 40 := by omega
    rw [decide_eq_true this, Bool.true_and]
    cases hl : letterB c with
    | false =>

      rw [Bool.false_and]
      simp only [e_ref3_Good, go_sem, c1, h40, hx, letter_t, hl, if_true, if_false, false_or, or_false, Bool.false_eq_true, decide_false, Bool.or_false, Bool.false_or, not_false_eq_true]
    | true =>

      rw [Bool.true_and]
      simp only [e_ref3_Good, go_sem, c1, h40, hx, letter_t, hl, if_true, if_false, false_or, or_false, Bool.false_eq_true, decide_false, Bool.or_false, Bool.false_or]
      generalize hK : blockK 0 _ = K
      have hh := rgood_loop hs (st := ⟨[], [], [], []⟩) (K := K) _ 0 rfl (by omega)
      rw [List.drop_zero] at hh
      refine Eq.trans hh ?_
      rw [← hK]
      cases s.all partB with
      | true => simp only [go_sem, if_true]
      | false => simp only [go_sem, Bool.false_eq_true, if_false]
theorem rgood_t {s : List UInt8} (hs : s.length < 4611686018427387904) : tupV (callE efns given) (.call 0 f_ref3_Good) [.str s] = some (.bool (goodM s)) := callV_of rfl (rgood_ok hs) rfl
end Go.Proofs.YtpohgiinajfepaaDoorPe.Lex
