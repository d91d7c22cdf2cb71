/- Names: sym.Good and the document's. -/
import Derived.Test.YtpohgiinajfepaaDoorLexLexB
set_option linter.unusedVariables false
set_option linter.unusedSimpArgs false
set_option maxRecDepth 1000000
namespace Go.Proofs.YtpohgiinajfepaaDoorPe.Lex
open Go Go.Proofs.YtpohgiinajfepaaDoorPe Go.Proofs.YtpohgiinajfepaaDoorPe.LexCode

theorem good_loop {s : List UInt8} (hs : s.length < 4611686018427387904) {st : St} {K : EX → Fr → St → Option (PV × St)} : ∀ (d n : Nat), s.length - n = d → n ≤ s.length →
    runL (callE efns given) [true, true, true] b_sym_Good_0 [.str s, .int .i64 s.length, .int .i64 n] st K =
      if (s.drop n).all partB = true then K (.exit 0) [.str s, .int .i64 s.length, .int .i64 s.length] st else K (.ret (.bool false)) [] st := by
  intro d
  induction d with
  | zero =>
    intro n hd hn
    have : n = s.length := by omega
    subst this
    rw [runL_eq, List.drop_length]
    generalize runL _ _ b_sym_Good_0 = L
    simp only [b_sym_Good_0, go_sem, Int.lt_irrefl, if_false, List.all_nil, if_true]
  | succ d ih =>
    intro n hd hn
    have hlt : n < s.length := by omega
    obtain ⟨c, hc⟩ : ∃ c, s[n]? = some c := ⟨s[n], List.getElem?_eq_getElem hlt⟩
    have w1 : IntKind.i64.wrap ((n : Int) + 1) = ((n + 1 : Nat) : Int) := by rw [IntWalk.i64_in _ (by omega)]; omega
    have c1 : ((n : Int) < (s.length : Int)) = True := eq_true (by omega)
    have hr := ih (n + 1) (by omega) (by omega)
    rw [runL_eq, drop_at hc, List.all_cons]
    generalize runL _ _ b_sym_Good_0 = L at hr ⊢
    have hz := @classM_zero c
    cases hp : partB c with
    | true =>
      have hz' : (classM c = 0) = False := by rw [hz, hp]; simp
      simp only [b_sym_Good_0, go_sem, sidx_at hc, c1, w1, class_t, hz', hr, Bool.true_and, if_false, if_true]
    | false =>
      have hz' : (classM c = 0) = True := by rw [hz, hp]; simp
      simp only [b_sym_Good_0, go_sem, sidx_at hc, c1, w1, class_t, hz', Bool.false_and, if_true, Bool.false_eq_true, if_false]

theorem goodM_at {s : List UInt8} {c : UInt8} (hc : s[0]? = some c) : goodM s = (decide (s.length ≤ 40) && letterB c && s.all partB) := by
  cases s with
  | nil => cases hc
  | cons d r => cases hc; rfl

theorem good_ok {s : List UInt8} (hs : s.length < 4611686018427387904) : callE efns given f_sym_Good [.str s] ⟨[], [], [], []⟩ = some (.bool (goodM s), ⟨[], [], [], []⟩) := by
  rw [callE_fn efns given (c := e_sym_Good) rfl rfl]
  by_cases h0 : s = []
  · subst h0
    simp [e_sym_Good, go_sem, goodM]
  obtain ⟨c, hc⟩ : ∃ c, s[0]? = some c := by
    cases s with
    | nil => exact absurd rfl h0
    | cons c r => exact ⟨c, rfl⟩
  have hlt : 0 < s.length := List.length_pos_iff.2 h0
  have c1 : ((s.length : Int) < 1) = False := eq_false (by omega)
  have hx : biV .sidx (.str s) (.int .i64 0) = some (.int .u8 c.toNat) := sidx_at (n := 0) hc
  rw [goodM_at hc]
  by_cases h40 : (s.length : Int) > 40
  · have : ¬ s.length ≤ 40 := by omega
    rw [decide_eq_false this, Bool.false_and, Bool.false_and]
    simp only [e_sym_Good, go_sem, c1, h40, if_true, if_false, false_or, true_or, or_true]
  · have : s.length ≤ 40 := by omega
    rw [decide_eq_true this, Bool.true_and]
    cases hl : letterB c with
    | false =>
      have hz : (classM c < 2) = True := by rw [classM_letter, hl]; simp
      rw [Bool.false_and]
      simp only [e_sym_Good, go_sem, c1, h40, hx, class_t, hz, if_true, if_false, false_or, or_false, Bool.false_eq_true, decide_false, Bool.or_false, Bool.false_or, not_false_eq_true]
    | true =>
      have hz : (classM c < 2) = False := by rw [classM_letter, hl]; simp
      rw [Bool.true_and]
      simp only [e_sym_Good, go_sem, c1, h40, hx, class_t, hz, if_true, if_false, false_or, or_false, Bool.false_eq_true, decide_false, Bool.or_false, Bool.false_or]
      generalize hK : blockK 0 _ = K
      have hh := good_loop hs (st := ⟨[], [], [], []⟩) (K := K) _ 0 rfl (by omega)
      rw [List.drop_zero] at hh
      refine Eq.trans hh ?_
      rw [← hK]
      cases s.all partB with
      | true => simp only [go_sem, if_true]
      | false => simp only [go_sem, Bool.false_eq_true, if_false]
theorem good_t {s : List UInt8} (hs : s.length < 4611686018427387904) : tupV (callE efns given) (.call 0 f_sym_Good) [.str s] = some (.bool (goodM s)) := callV_of rfl (good_ok hs) rfl

theorem rgood_loop {s : List UInt8} (hs : s.length < 4611686018427387904) {st : St} {K : EX → Fr → St → Option (PV × St)} : ∀ (d n : Nat), s.length - n = d → n ≤ s.length →
    runL (callE efns given) [true, true] b_ref3_Good_0 [.str s, .int .i64 n] st K =
      if (s.drop n).all partB = true then K (.exit 0) [.str s, .int .i64 s.length] st else K (.ret (.bool false)) [] st := by
  intro d
  induction d with
  | zero =>
    intro n hd hn
    have : n = s.length := by omega
    subst this
    rw [runL_eq, List.drop_length]
    generalize runL _ _ b_ref3_Good_0 = L
    simp only [b_ref3_Good_0, go_sem, Int.lt_irrefl, if_false, List.all_nil, if_true]
  | succ d ih =>
    intro n hd hn
    have hlt : n < s.length := by omega
    obtain ⟨c, hc⟩ : ∃ c, s[n]? = some c := ⟨s[n], List.getElem?_eq_getElem hlt⟩
    have w1 : IntKind.i64.wrap ((n : Int) + 1) = ((n + 1 : Nat) : Int) := by rw [IntWalk.i64_in _ (by omega)]; omega
    have c1 : ((n : Int) < (s.length : Int)) = True := eq_true (by omega)
    have hr := ih (n + 1) (by omega) (by omega)
    rw [runL_eq, drop_at hc, List.all_cons]
    generalize runL _ _ b_ref3_Good_0 = L at hr ⊢
    cases hp : partB c with
    | true => simp only [b_ref3_Good_0, go_sem, sidx_at hc, c1, w1, rpart_t, hp, hr, Bool.true_and, if_true]
    | false => simp only [b_ref3_Good_0, go_sem, sidx_at hc, c1, w1, rpart_t, hp, Bool.false_and, if_true, Bool.false_eq_true, if_false]
theorem rgood_ok {s : List UInt8} (hs : s.length < 4611686018427387904) : callE efns given f_ref3_Good [.str s] ⟨[], [], [], []⟩ = some (.bool (goodM s), ⟨[], [], [], []⟩) := by
  rw [callE_fn efns given (c := e_ref3_Good) rfl rfl]
  by_cases h0 : s = []
  · subst h0
    simp [e_ref3_Good, go_sem, goodM]
  obtain ⟨c, hc⟩ : ∃ c, s[0]? = some c := by
    cases s with
    | nil => exact absurd rfl h0
    | cons c r => exact ⟨c, rfl⟩
  have hlt : 0 < s.length := List.length_pos_iff.2 h0
  have c1 : ((s.length : Int) = 0) = False := eq_false (by omega)
  have hx : biV .sidx (.str s) (.int .i64 0) = some (.int .u8 c.toNat) := sidx_at (n := 0) hc
  rw [goodM_at hc]
  by_cases h40 : (s.length : Int) > 40
  · have : ¬ s.length ≤ 40 := by omega
    rw [decide_eq_false this, Bool.false_and, Bool.false_and]
    simp only [e_ref3_Good, go_sem, c1, h40, if_true, if_false, false_or, true_or, or_true]
  · have : s.length ≤ 40 := by omega
    rw [decide_eq_true this, Bool.true_and]
    cases hl : letterB c with
    | false =>

      rw [Bool.false_and]
      simp only [e_ref3_Good, go_sem, c1, h40, hx, letter_t, hl, if_true, if_false, false_or, or_false, Bool.false_eq_true, decide_false, Bool.or_false, Bool.false_or, not_false_eq_true]
    | true =>

      rw [Bool.true_and]
      simp only [e_ref3_Good, go_sem, c1, h40, hx, letter_t, hl, if_true, if_false, false_or, or_false, Bool.false_eq_true, decide_false, Bool.or_false, Bool.false_or]
      generalize hK : blockK 0 _ = K
      have hh := rgood_loop hs (st := ⟨[], [], [], []⟩) (K := K) _ 0 rfl (by omega)
      rw [List.drop_zero] at hh
      refine Eq.trans hh ?_
      rw [← hK]
      cases s.all partB with
      | true => simp only [go_sem, if_true]
      | false => simp only [go_sem, Bool.false_eq_true, if_false]
theorem rgood_t {s : List UInt8} (hs : s.length < 4611686018427387904) : tupV (callE efns given) (.call 0 f_ref3_Good) [.str s] = some (.bool (goodM s)) := callV_of rfl (rgood_ok hs) rfl
end Go.Proofs.YtpohgiinajfepaaDoorPe.Lex
