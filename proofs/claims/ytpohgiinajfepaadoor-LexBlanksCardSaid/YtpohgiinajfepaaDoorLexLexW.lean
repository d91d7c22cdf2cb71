/- Plain laws of tokens; the law LexValues. -/
import Derived.Test.YtpohgiinajfepaaDoorLexLexQ
import Derived.Test.YtpohgiinajfepaaDoorLexLexL
set_option linter.unusedVariables false
set_option linter.unusedSimpArgs false
set_option maxRecDepth 1000000
namespace Go.Proofs.YtpohgiinajfepaaDoorPe.Lex
open Go Go.Proofs.YtpohgiinajfepaaDoorPe Go.Proofs.YtpohgiinajfepaaDoorPe.LexCode
attribute [local go_sem] V_bslice

/-- No sign and no part of a name begins here. -/
def EndB : List UInt8 → Prop
  | [] => True
  | c :: _ => signB c = false ∧ partB c = false
def Stops (p : UInt8 → Bool) : List UInt8 → Prop
  | [] => True
  | c :: _ => p c = false
theorem EndB.sign {r : List UInt8} (h : EndB r) : Stops signB r := by
  cases r with
  | nil => trivial
  | cons c r => exact h.1
theorem EndB.part {r : List UInt8} (h : EndB r) : Stops partB r := by
  cases r with
  | nil => trivial
  | cons c r => exact h.2
theorem tw_end {p : UInt8 → Bool} {w r : List UInt8} (hw : w.all p = true) (hr : Stops p r) : (w ++ r).takeWhile p = w := by
  induction w with
  | nil =>
    cases r with
    | nil => rfl
    | cons c r => rw [List.nil_append, List.takeWhile_cons, if_neg (by rw [hr]; decide)]
  | cons c w ih =>
    simp only [List.all_cons, Bool.and_eq_true] at hw
    rw [List.cons_append, List.takeWhile_cons, if_pos hw.1, ih hw.2]

def tkT (t : Tk) : List UInt8 :=
  if t.k = 4 then [40] else if t.k = 5 then [41] else if t.k = 8 then [126] else if t.k = 6 then 63 :: t.s else if t.k = 7 then 63 :: 42 :: (t.s ++ [42]) else textV ⟨t.k, t.i, t.s⟩
theorem tokT_eq (t : Tok) : tokT t = tkT t.tk := rfl

theorem nameM_end {s r : List UInt8} (h : goodM s = true) (hr : Stops partB r) : nameM (s ++ r) = .ok s := by
  obtain ⟨h1, h2, h3⟩ := goodM_len h
  unfold nameM
  rw [tw_end h3 hr, if_neg (by omega), if_pos h]
theorem wordM_int {w r : List UInt8} (hw : w.all signB = true) (hr : Stops signB r) (h0 : w ≠ []) (hp : (parseM w).2 = 0) : wordM (w ++ r) = .ok (⟨1, (parseM w).1, []⟩, w.length) := by
  unfold wordM
  rw [tw_end hw hr, if_neg h0, if_pos hp]
theorem wordM_sym {w r : List UInt8} (hw : w.all signB = true) (hr : Stops signB r) (h0 : w ≠ []) (hp : (parseM w).2 = 2) (hl : w.length ≤ 40) : wordM (w ++ r) = .ok (⟨2, 0, w⟩, w.length) := by
  unfold wordM
  rw [tw_end hw hr, if_neg h0, if_neg (by rw [hp]; decide), if_neg (by rw [hp]; decide), if_neg (by omega)]
theorem strM_escs (r : List UInt8) : ∀ (s acc : List UInt8) (i : Nat), (acc ++ s).length ≤ 1000 → strM (escs s ++ 34 :: r) acc i = .ok (acc ++ s, i + (escs s).length + 1)
  | [], acc, i, h => by
    have : ¬ acc.length > 1000 := by simp at h; omega
    show strM (34 :: r) acc i = _
    rw [strM_end, if_neg this, List.append_nil]
    rfl
  | c :: s, acc, i, h => by
    have ih := strM_escs r s (acc ++ [c])
    by_cases hc : c = 34 ∨ c = 92
    · have e : escs (c :: s) = 92 :: c :: escs s := by
        simp [escs, esc, hc]
      rw [e, List.cons_append, List.cons_append, strM_esc, ih _ (by rw [List.append_assoc]; exact h), List.append_assoc]
      simp only [List.length_cons, List.singleton_append]
      congr 2
      omega
    · have h34 : c ≠ 34 := fun e => hc (.inl e)
      have h92 : c ≠ 92 := fun e => hc (.inr e)
      have e : escs (c :: s) = c :: escs s := by
        simp [escs, esc, h34, h92]
      rw [e, List.cons_append, strM_cons h34 h92, ih _ (by rw [List.append_assoc]; exact h), List.append_assoc]
      simp only [List.length_cons, List.singleton_append]
      congr 2
      omega

theorem sign_first {c : UInt8} (h : signB c = true) : c ≠ 40 ∧ c ≠ 41 ∧ c ≠ 126 ∧ c ≠ 34 ∧ c ≠ 63 ∧ c ≠ 59 ∧ blankB c = false := by
  refine ⟨?_, ?_, ?_, ?_, ?_, ?_, ?_⟩
  · rintro rfl; revert h; decide
  · rintro rfl; revert h; decide
  · rintro rfl; revert h; decide
  · rintro rfl; revert h; decide
  · rintro rfl; revert h; decide
  · rintro rfl; revert h; decide
  · cases hb : blankB c with
    | false => rfl
    | true =>
      have hb4 : c = 32 ∨ c = 9 ∨ c = 10 ∨ c = 13 := by simpa [blankB, or_assoc] using hb
      rcases hb4 with rfl | rfl | rfl | rfl <;> (revert h; decide)
theorem oneM_word {w r : List UInt8} (hw : w.all signB = true) (h0 : w ≠ []) : oneM (w ++ r) = wordM (w ++ r) := by
  cases w with
  | nil => exact absurd rfl h0
  | cons c w =>
    simp only [List.all_cons, Bool.and_eq_true] at hw
    obtain ⟨h1, h2, h3, h4, h5, _⟩ := sign_first hw.1
    rw [List.cons_append, oneM_cons, if_neg h1, if_neg h2, if_neg h3, if_neg h4, if_neg h5]

theorem digit_sign {c : UInt8} (h : c = 45 ∨ digit c = true) : signB c = true := by
  rcases h with rfl | h
  · decide
  · have hb := digit_bounds h
    have e : c = UInt8.ofNat c.toNat := by simp
    have : c.toNat = 48 ∨ c.toNat = 49 ∨ c.toNat = 50 ∨ c.toNat = 51 ∨ c.toNat = 52 ∨ c.toNat = 53 ∨ c.toNat = 54 ∨ c.toNat = 55 ∨ c.toNat = 56 ∨ c.toNat = 57 := by omega
    rw [e]
    rcases this with h | h | h | h | h | h | h | h | h | h <;> (rw [h]; decide)
theorem text_sign {n : Int} (hn : I64 n) : (text n).all signB = true := List.all_eq_true.2 fun c hc => digit_sign (text_mem hn hc)
theorem text_ne {n : Int} (hn : I64 n) : text n ≠ [] := by
  intro h
  have := parseM_text hn
  rw [h] at this
  have h2 : (parseM []).2 = 2 := by decide
  rw [this] at h2
  cases h2

theorem oneM_back {t : Tk} (h : TokK t) {r : List UInt8} (hr : EndB r) : oneM (tkT t ++ r) = .ok (t, (tkT t).length) := by
  cases h with
  | sign k hk =>
    rcases hk with rfl | rfl | rfl
    · show oneM (40 :: r) = _
      rw [oneM_cons, if_pos rfl]; rfl
    · show oneM (41 :: r) = _
      rw [oneM_cons, if_neg (by decide), if_pos rfl]; rfl
    · show oneM (126 :: r) = _
      rw [oneM_cons, if_neg (by decide), if_neg (by decide), if_pos rfl]; rfl
  | str s hs =>
    have e : tkT ⟨3, 0, s⟩ = 34 :: (escs s ++ [34]) := rfl
    rw [e, List.cons_append, oneM_cons, if_neg (by decide), if_neg (by decide), if_neg (by decide), if_pos rfl, List.append_assoc, List.singleton_append, strM_escs r s [] 0 (by simpa using hs)]
    simp only [List.nil_append, List.length_cons, List.length_append, List.length_nil]
    congr 2
    omega
  | name k s hk hs =>
    rcases hk with rfl | rfl
    · have e : tkT ⟨6, 0, s⟩ = 63 :: s := rfl
      have hst : isStar (s ++ r) = false := by
        cases s with
        | nil => exact absurd rfl (goodM_len hs).2.1
        | cons c s =>
          simp only [goodM, Bool.and_eq_true] at hs
          have hl := hs.1.2
          have : c ≠ 42 := by rintro rfl; revert hl; decide
          simp [isStar, this]
      rw [e, List.cons_append, oneM_cons, if_neg (by decide), if_neg (by decide), if_neg (by decide), if_neg (by decide), if_pos rfl]
      unfold varM
      rw [hst, if_neg (by decide), nameM_end hs hr.part]
      rfl
    · have e : tkT ⟨7, 0, s⟩ = 63 :: 42 :: (s ++ [42]) := rfl
      rw [e, List.cons_append, oneM_cons, if_neg (by decide), if_neg (by decide), if_neg (by decide), if_neg (by decide), if_pos rfl]
      unfold varM
      rw [List.cons_append, if_pos (by rfl), List.drop_succ_cons, List.drop_zero, List.append_assoc, nameM_end hs (show Stops partB ([42] ++ r) from (by decide : partB 42 = false))]
      simp only [List.drop_left, List.singleton_append, isStar, decide_true, if_true, List.length_cons, List.length_append, List.length_nil]
  | int i hi =>
    have e : tkT ⟨1, i, []⟩ = text i := rfl
    rw [e, oneM_word (text_sign hi) (text_ne hi), wordM_int (text_sign hi) hr.sign (text_ne hi) (by rw [parseM_text hi]), parseM_text hi]
  | sym s h1 h2 h3 h4 =>
    have e : tkT ⟨2, 0, s⟩ = s := rfl
    rw [e, oneM_word h3 h1, wordM_sym h3 hr.sign h1 h4 h2]

/-- A token's text begins with no blank. -/
theorem tkT_first {t : Tk} (h : TokK t) : ∃ c r, tkT t = c :: r ∧ blankB c = false ∧ c ≠ 59 := by
  have word : ∀ {w : List UInt8}, w.all signB = true → w ≠ [] → ∃ c r, w = c :: r ∧ blankB c = false ∧ c ≠ 59 := by
    intro w hw h0
    cases w with
    | nil => exact absurd rfl h0
    | cons c w =>
      simp only [List.all_cons, Bool.and_eq_true] at hw
      obtain ⟨_, _, _, _, _, h6, h7⟩ := sign_first hw.1
      exact ⟨c, w, rfl, h7, h6⟩
  cases h with
  | sign k hk =>
    rcases hk with rfl | rfl | rfl
    · exact ⟨40, [], rfl, by decide, by decide⟩
    · exact ⟨41, [], rfl, by decide, by decide⟩
    · exact ⟨126, [], rfl, by decide, by decide⟩
  | str s hs => exact ⟨34, escs s ++ [34], rfl, by decide, by decide⟩
  | name k s hk hs =>
    rcases hk with rfl | rfl
    · exact ⟨63, s, rfl, by decide, by decide⟩
    · exact ⟨63, 42 :: (s ++ [42]), rfl, by decide, by decide⟩
  | int i hi => exact word (text_sign hi) (text_ne hi)
  | sym s h1 h2 h3 h4 => exact word h3 h1

theorem scanM_eq {p q : Nat} {s t : List UInt8} (h : skipM false s = skipM false t) (hp : p + (s.length - (skipM false t).length) = q + (t.length - (skipM false t).length)) : scanM p s = scanM q t := by
  rw [← scanM_skip p s, ← scanM_skip q t, h, hp]
/-- A text of one token, then what is behind it. -/
theorem scanM_tok {t : Tk} (h : TokK t) {r : List UInt8} (hr : EndB r) (p : Nat) : scanM p (tkT t ++ r) = match scanM (p + (tkT t).length) r with
    | .error e => .error e
    | .ok l => .ok (⟨t.k, p, t.i, t.s⟩ :: l) := by
  have ho := oneM_back h hr
  obtain ⟨c, r', e, h1, h2⟩ := tkT_first h
  have hs : skipM false (tkT t ++ r) = c :: (r' ++ r) := by rw [e, List.cons_append, skipM_f, if_neg (by rw [h1]; decide), if_neg h2]
  have e2 : tkT t ++ r = c :: (r' ++ r) := by rw [e, List.cons_append]
  have hl : (tkT t).length = r'.length + 1 := by rw [e]; rfl
  rw [scanM_cons hs]
  rw [e2] at ho
  rw [ho, e2]
  simp only [List.length_cons, hl, Nat.add_sub_cancel, Nat.sub_self, Nat.add_zero, List.drop_left]
  rfl

theorem scanM_one {t : Tk} (h : TokK t) (p : Nat) : scanM p (tkT t) = .ok [⟨t.k, p, t.i, t.s⟩] := by
  have := scanM_tok h (r := []) trivial p
  rw [List.append_nil, scanM_nil (s := []) rfl] at this
  exact this
theorem scanM_bad {c : UInt8} {r : List UInt8} {e : Int} (h1 : blankB c = false) (h2 : c ≠ 59) (ho : oneM (c :: r) = .error e) : scanM 0 (c :: r) = .error (0, e) := by
  have hs : skipM false (c :: r) = c :: r := by rw [skipM_f, if_neg (by rw [h1]; decide), if_neg h2]
  rw [scanM_cons hs, ho]
  simp only [List.length_cons, Nat.sub_self, Nat.add_zero]

/-- How long texts are. -/
theorem text_len {n : Int} (hn : I64 n) : (text n).length ≤ 21 := by
  rw [text_eq (by omega) (by omega)]
  unfold Lib.itoa
  split
  · have := decDigits_len 19 n.natAbs (by omega)
    simp only [List.length_cons]; omega
  · have := decDigits_len 19 n.toNat (by omega)
    omega
theorem strM_size : ∀ (m : Nat) (s acc : List UInt8) (i : Nat) (t : List UInt8) (q : Nat), s.length ≤ m → strM s acc i = .ok (t, q) → t.length + i + 1 ≤ q + acc.length := by
  intro m
  induction m with
  | zero =>
    intro s acc i t q hm h
    cases s with
    | nil => cases h
    | cons => simp at hm
  | succ m ih =>
    intro s acc i t q hm h
    cases s with
    | nil => cases h
    | cons c r =>
      by_cases h34 : c = 34
      · subst h34
        rw [strM_end] at h
        split at h
        · cases h
        · cases h; omega
      · by_cases h92 : c = 92
        · subst h92
          cases r with
          | nil => rw [strM_esc0] at h; cases h
          | cons d r =>
            rw [strM_esc] at h
            have := ih r _ _ _ _ (by simp only [List.length_cons] at hm; omega) h
            simp only [List.length_append, List.length_singleton] at this
            omega
        · rw [strM_cons h34 h92] at h
          have := ih r _ _ _ _ (by simp only [List.length_cons] at hm; omega) h
          simp only [List.length_append, List.length_singleton] at this
          omega
theorem tkT_len {s : List UInt8} {t : Tk} {m : Nat} (h : oneM s = .ok (t, m)) : (tkT t).length ≤ 21 * m := by
  have hm := oneM_le h
  cases s with
  | nil => cases h
  | cons c r =>
    rw [oneM_cons] at h
    split at h
    · cases h; simp [tkT]
    split at h
    · cases h; simp [tkT]
    split at h
    · cases h; simp [tkT]
    split at h
    · split at h
      · cases h
      · rename_i t' ht
        cases h
        have h1 := strM_size _ r [] 0 t'.1 t'.2 (Nat.le_refl _) ht
        have h2 := (escs_len t'.1).2
        have e : tkT ⟨3, 0, t'.1⟩ = 34 :: (escs t'.1 ++ [34]) := rfl
        rw [e]
        simp only [List.length_cons, List.length_append, List.length_nil] at h1 ⊢
        omega
    split at h
    · unfold varM at h
      split at h
      · split at h
        · cases h
        · rename_i t' ht
          split at h
          · cases h
            have e : tkT ⟨7, 0, t'⟩ = 63 :: 42 :: (t' ++ [42]) := rfl
            rw [e]
            simp only [List.length_cons, List.length_append, List.length_nil]
            omega
          · cases h
      · split at h
        · cases h
        · rename_i t' ht
          cases h
          have e : tkT ⟨6, 0, t'⟩ = 63 :: t' := rfl
          rw [e]
          simp only [List.length_cons]
          omega
    · unfold wordM at h
      split at h
      · cases h
      split at h
      · cases h
        have e : tkT ⟨1, (parseM ((c :: r).takeWhile signB)).1, []⟩ = text (parseM ((c :: r).takeWhile signB)).1 := rfl
        have := text_len (parseM_in ((c :: r).takeWhile signB))
        rw [e]
        omega
      split at h
      · cases h
      split at h
      · cases h
      · cases h
        have e : tkT ⟨2, 0, (c :: r).takeWhile signB⟩ = (c :: r).takeWhile signB := rfl
        rw [e]
        omega
def sizeL (l : List Tok) : Nat := (l.map fun t => (tokT t).length).sum
theorem scanM_size : ∀ (m : Nat) (s : List UInt8) (n : Nat) (l : List Tok), s.length ≤ m → scanM n s = .ok l → sizeL l ≤ 21 * s.length := by
  intro m
  induction m with
  | zero =>
    intro s n l hm h
    have : s = [] := List.eq_nil_of_length_eq_zero (by omega)
    subst this
    rw [scanM_nil rfl] at h
    cases h
    simp [sizeL]
  | succ m ih =>
    intro s n l hm h
    cases hs : skipM false s with
    | nil =>
      rw [scanM_nil hs] at h
      cases h
      simp [sizeL]
    | cons c r =>
      have hle := skipM_le s false
      rw [hs, List.length_cons] at hle
      rw [scanM_cons hs] at h
      split at h
      · cases h
      · rename_i tk ho
        split at h
        · cases h
        · rename_i l' hl'
          cases h
          have h1 := ih _ _ _ (by rw [List.length_drop]; omega) hl'
          have h2 := tkT_len (t := tk.1) (m := tk.2) ho
          have h3 := oneM_le (t := tk.1) (m := tk.2) ho
          have e : sizeL (⟨tk.1.k, n + (s.length - (r.length + 1)), tk.1.i, tk.1.s⟩ :: l') = (tkT tk.1).length + sizeL l' := by
            simp [sizeL, tokT_eq, Tok.tk]
          rw [e]
          rw [List.length_drop] at h1
          simp only [List.length_cons] at h3
          omega

theorem tobytes_ok {s : List UInt8} : unV .tobytes (.str s) = some (.lst (byts s)) := rfl
theorem rightB_loop (v : Vl) (hs : v.s.length ≤ 9223372036854775807) {K : EX → Fr → St → Option (PV × St)} : ∀ (d n : Nat) (ok : Bool), v.s.length - n = d → n ≤ v.s.length →
    ∃ i x1 x2, runL (callE efns given) [false, true, true, true, false, false, false, false, false, false, false, false, false, false, false, false] b_ref3_Right_0
      [.undef, .ptr 0 0, .bool ok, .int .i64 n, .undef, .undef, .undef, .undef, .undef, .undef, .undef, .undef, .undef, .undef, .undef, .undef] ⟨[v.cells'], [], [T_ref3_Right_0], []⟩ K =
      K (.exit 1) [.undef, .ptr 0 0, .bool (ok && (v.s.drop n).all signB), i, .undef, .undef, .undef, .undef, .undef, .undef, .undef, .undef, x1, x2, .undef, .undef] ⟨[v.cells'], [], [T_ref3_Right_0], []⟩ := by
  intro d
  induction d with
  | zero =>
    intro n ok hd hn
    have : n = v.s.length := by omega
    subst this
    refine ⟨.int .i64 v.s.length, .str v.s, .undef, ?_⟩
    rw [runL_eq, List.drop_length, List.all_nil, Bool.and_true]
    generalize runL _ _ b_ref3_Right_0 = L
    simp only [b_ref3_Right_0, Vl.cells', go_sem, Int.lt_irrefl, if_false]
  | succ d ih =>
    intro n ok hd hn
    have hlt : n < v.s.length := by omega
    obtain ⟨c, hc⟩ : ∃ c, v.s[n]? = some c := ⟨v.s[n], List.getElem?_eq_getElem hlt⟩
    have w1 : IntKind.i64.wrap ((n : Int) + 1) = ((n + 1 : Nat) : Int) := by rw [IntWalk.i64_in _ (by omega)]; omega
    have c1 : ((n : Int) < (v.s.length : Int)) = True := eq_true (by omega)
    have hb := rsignB_t c
    rw [drop_at hc, List.all_cons]
    cases ok with
    | true =>
      obtain ⟨i, x1, x2, hr⟩ := ih (n + 1) (signB c) (by omega) (by omega)
      refine ⟨i, x1, x2, ?_⟩
      rw [runL_eq]
      generalize runL _ _ b_ref3_Right_0 = L at hr ⊢
      simp only [Vl.cells'] at hr
      simp only [b_ref3_Right_0, Vl.cells', go_sem, sidx_at hc, c1, w1, hb, hr, Bool.true_and]
    | false =>
      obtain ⟨i, x1, x2, hr⟩ := ih (n + 1) false (by omega) (by omega)
      refine ⟨i, x1, x2, ?_⟩
      rw [runL_eq]
      generalize runL _ _ b_ref3_Right_0 = L at hr ⊢
      simp only [Vl.cells'] at hr
      simp only [b_ref3_Right_0, Vl.cells', go_sem, c1, w1, hr, Bool.false_and]

def rightM (v : Vl) : Bool :=
  if v.k = 1 then decide (v.s = [])
  else if v.k = 2 then decide (v.i = 0) && decide (1 ≤ v.s.length) && decide (v.s.length ≤ 40) && !(shapeM v.s) && v.s.all signB
  else if v.k = 3 then decide (v.i = 0) && decide (v.s.length ≤ 1000)
  else false
theorem rightM_t (v : Vl) (hs : v.s.length ≤ 9223372036854775807) : tupV (callE efns given) (.call 0 f_ref3_Right) [v.p] = some (.bool (rightM v)) := by
  have key : ∃ st, callE efns given f_ref3_Right [v.p] ⟨[], [], [], []⟩ = some (.bool (rightM v), st) := by
    refine ⟨⟨[v.cells'], [], [T_ref3_Right_0], []⟩, ?_⟩
    unfold rightM
    by_cases h1 : v.k = 1
    · rw [if_pos h1, callE_fn efns given (c := e_ref3_Right) rfl rfl]
      simp only [e_ref3_Right, Vl.p, Vl.cells', go_sem, h1]
    · rw [if_neg h1]
      by_cases h2 : v.k = 2
      · rw [if_pos h2, callE_fn efns given (c := e_ref3_Right) rfl rfl]
        by_cases hi : v.i = 0
        · by_cases l1 : (v.s.length : Int) ≥ 1
          · have l1' : 1 ≤ v.s.length := by omega
            by_cases l2 : (v.s.length : Int) ≤ 40
            · have l2' : v.s.length ≤ 40 := by omega
              have sh := shape_t (s := v.s) (by omega)
              simp only [e_ref3_Right, Vl.p, Vl.cells', go_sem, h2, hi, sh, l1, l2]
              generalize hK : blockK 1 _ = K
              obtain ⟨i, x1, x2, hr⟩ := rightB_loop v hs (K := K) v.s.length 0 (!(shapeM v.s)) rfl (by omega)
              simp only [Vl.cells', h2, hi] at hr
              refine Eq.trans hr ?_
              rw [← hK]
              simp only [go_sem, Vl.cells', h2, hi, List.drop_zero, l1', l2', decide_true, Bool.true_and]
            · have l2' : ¬ v.s.length ≤ 40 := by omega
              simp only [e_ref3_Right, Vl.p, Vl.cells', go_sem, h2, hi, l1, l2]
              generalize hK : blockK 1 _ = K
              obtain ⟨i, x1, x2, hr⟩ := rightB_loop v hs (K := K) v.s.length 0 (false) rfl (by omega)
              simp only [Vl.cells', h2, hi] at hr
              refine Eq.trans hr ?_
              rw [← hK]
              simp only [go_sem, Vl.cells', h2, hi, List.drop_zero, l1', l2', decide_true, decide_false, Bool.true_and, Bool.and_false, Bool.false_and]
          · have l1' : ¬ 1 ≤ v.s.length := by omega
            simp only [e_ref3_Right, Vl.p, Vl.cells', go_sem, h2, hi, l1]
            generalize hK : blockK 1 _ = K
            obtain ⟨i, x1, x2, hr⟩ := rightB_loop v hs (K := K) v.s.length 0 (false) rfl (by omega)
            simp only [Vl.cells', h2, hi] at hr
            refine Eq.trans hr ?_
            rw [← hK]
            simp only [go_sem, Vl.cells', h2, hi, List.drop_zero, l1', decide_true, decide_false, Bool.true_and, Bool.and_false, Bool.false_and]
        · simp only [e_ref3_Right, Vl.p, Vl.cells', go_sem, h2, hi]
          generalize hK : blockK 1 _ = K
          obtain ⟨i, x1, x2, hr⟩ := rightB_loop v hs (K := K) v.s.length 0 (false) rfl (by omega)
          simp only [Vl.cells', h2] at hr
          refine Eq.trans hr ?_
          rw [← hK]
          simp only [go_sem, Vl.cells', h2, hi, List.drop_zero, decide_false, Bool.false_and]
      · rw [if_neg h2]
        by_cases h3 : v.k = 3
        · rw [if_pos h3, callE_fn efns given (c := e_ref3_Right) rfl rfl]
          by_cases hi : v.i = 0
          · have e : decide ((v.s.length : Int) ≤ 1000) = decide (v.s.length ≤ 1000) := by
              rw [decide_eq_decide]; omega
            simp only [e_ref3_Right, Vl.p, Vl.cells', go_sem, h3, hi, e, decide_true, Bool.true_and]
          · simp only [e_ref3_Right, Vl.p, Vl.cells', go_sem, h3, hi, decide_false, Bool.false_and]
        · rw [if_neg h3, callE_fn efns given (c := e_ref3_Right) rfl rfl]
          simp only [e_ref3_Right, Vl.p, Vl.cells', go_sem, h1, h2, h3]
  obtain ⟨st, h⟩ := key
  exact callV_of rfl h rfl

theorem shapeM_two {s : List UInt8} (h : shapeM s = false) : (parseM s).2 = 2 := by
  rw [parseM_eq, if_neg (by rw [h]; decide)]
theorem rightM_kind {v : Vl} (hi : I64 v.i) (h : rightM v = true) : TokK ⟨v.k, v.i, v.s⟩ ∧ (v.k = 1 ∨ v.k = 2 ∨ v.k = 3) := by
  obtain ⟨k, i, s⟩ := v
  unfold rightM at h
  simp only at h hi ⊢
  split at h
  · rename_i hk
    have : s = [] := by simpa using h
    subst this hk
    exact ⟨.int i hi, .inl rfl⟩
  · split at h
    · rename_i hk
      simp only [Bool.and_eq_true, decide_eq_true_eq, Bool.not_eq_true'] at h
      obtain ⟨⟨⟨⟨h1, h2⟩, h3⟩, h4⟩, h5⟩ := h
      subst h1 hk
      exact ⟨.sym s (by rintro rfl; simp at h2) h3 h5 (shapeM_two h4), .inr (.inl rfl)⟩
    · split at h
      · rename_i hk
        simp only [Bool.and_eq_true, decide_eq_true_eq] at h
        obtain ⟨h1, h2⟩ := h
        subst h1 hk
        exact ⟨.str s h2, .inr (.inr rfl)⟩
      · cases h
theorem tkT_val {v : Vl} (h : v.k = 1 ∨ v.k = 2 ∨ v.k = 3) : tkT ⟨v.k, v.i, v.s⟩ = textV v := by
  unfold tkT
  rw [if_neg (by simp only; omega), if_neg (by simp only; omega), if_neg (by simp only; omega), if_neg (by simp only; omega), if_neg (by simp only; omega)]
theorem tkT_short {t : Tk} (h : TokK t) : (tkT t).length ≤ 2100 := by
  cases h with
  | sign k hk => rcases hk with rfl | rfl | rfl <;> simp [tkT]
  | str s hs =>
    have := (escs_len s).2
    have e : tkT ⟨3, 0, s⟩ = 34 :: (escs s ++ [34]) := rfl
    rw [e]
    simp only [List.length_cons, List.length_append, List.length_nil]
    omega
  | name k s hk hs =>
    have := (goodM_len hs).1
    rcases hk with rfl | rfl
    · have e : tkT ⟨6, 0, s⟩ = 63 :: s := rfl
      rw [e]; simp only [List.length_cons]; omega
    · have e : tkT ⟨7, 0, s⟩ = 63 :: 42 :: (s ++ [42]) := rfl
      rw [e]; simp only [List.length_cons, List.length_append, List.length_nil]; omega
  | int i hi =>
    have e : tkT ⟨1, i, []⟩ = text i := rfl
    have := text_len hi
    rw [e]; omega
  | sym s h1 h2 h3 h4 =>
    have e : tkT ⟨2, 0, s⟩ = s := rfl
    rw [e]; omega
theorem scanL_one {t : Tk} (h : TokK t) : scanL (tkT t) = .ok [⟨t.k, 0, t.i, t.s⟩] := by
  have := tkT_short h
  unfold scanL
  rw [if_neg (by omega), scanM_one h]

theorem values_law (v : Vl) (hi : I64 v.i) (hs : v.s.length ≤ maxLen) : ∃ st, callE efns given f_law4_LexValues [v.p] ⟨[], [], [], []⟩ = some (.bool true, st) := by
  have hml : maxLen ≤ 9223372036854775807 := by decide
  have hr := rightM_t v (by omega)
  unfold Vl.p at hr
  cases hR : rightM v with
  | false =>
    rw [hR] at hr
    refine ⟨⟨[[.int .i64 v.k, .int .i64 v.i, .str v.s]], [], [T_law4_LexValues_0], []⟩, ?_⟩
    rw [callE_fn efns given (c := e_law4_LexValues) rfl rfl]
    simp only [e_law4_LexValues, Vl.p, go_sem, known_t, hr, if_true, if_false, Bool.not_true, Bool.not_false, Bool.false_eq_true]
  | true =>
    rw [hR] at hr
    obtain ⟨hk, h3⟩ := rightM_kind hi hR
    have hsm := hk.small
    have ht := rtextV_t v (by have := hsm.2; simp only at this; omega) hi
    unfold Vl.p at ht
    have hsc := scan_t (textV v)
    have h1 := scanL_one hk
    rw [tkT_val h3] at h1
    rw [h1] at hsc
    unfold scanV at hsc
    have hidx : evIdx 4 ([(⟨v.k, 0, v.i, v.s⟩ : Tok)].map Tok.p) 0 = some (.ref [.int .i64 v.k, .int .i64 ((0 : Nat) : Int), .int .i64 v.i, .str v.s]) := by
      have := tok_at (l := [⟨v.k, 0, v.i, v.s⟩]) (n := 0) (t := ⟨v.k, 0, v.i, v.s⟩) rfl
      exact this
    refine ⟨⟨[[.int .i64 v.k, .int .i64 v.i, .str v.s]], [], [T_law4_LexValues_0], []⟩, ?_⟩
    rw [callE_fn efns given (c := e_law4_LexValues) rfl rfl]
    simp only [List.map_cons, List.map_nil] at hsc hidx
    have z0 : (((0 : Nat) : Int) = 0) = True := eq_true rfl
    have z1 : (((0 + 1 : Nat) : Int) = 1) = True := eq_true rfl
    simp only [e_law4_LexValues, Vl.p, go_sem, known_t, hr, ht, tobytes_ok, hsc, hidx, z0, z1, if_true, if_false, Bool.not_true, Bool.not_false, Bool.false_eq_true, decide_true]
end Go.Proofs.YtpohgiinajfepaaDoorPe.Lex
