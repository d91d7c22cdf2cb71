/- A part of the proof of this folder's statement; it has no condition of its own. -/
import Derived.Test.YtnlknpeelpnbaaaGreatDoorReadLexM
set_option linter.unusedVariables false
set_option linter.unusedSimpArgs false
set_option maxRecDepth 1000000
namespace Go.Proofs.YtnlknpeelpnbaaaGreatDoorPe.Read
open Go Go.Proofs.YtnlknpeelpnbaaaGreatDoorPe Go.Proofs.YtnlknpeelpnbaaaGreatDoorPe.ReadCode
end Go.Proofs.YtnlknpeelpnbaaaGreatDoorPe.Read
set_option linter.unusedVariables false
set_option linter.unusedSimpArgs false
set_option maxRecDepth 1000000
namespace Go.Proofs.YtnlknpeelpnbaaaGreatDoorPe.Read
open Go Go.Proofs.YtnlknpeelpnbaaaGreatDoorPe Go.Proofs.YtnlknpeelpnbaaaGreatDoorPe.ReadCode
def tokT (t : Tok) : List UInt8 :=
 if t.k = 4 then [40] else if t.k = 5 then [41] else if t.k = 8 then [126] else if t.k = 6 then 63 :: t.s else if t.k = 7 then 63 :: 42 :: (t.s ++ [42]) else textV ⟨t.k, t.i, t.s⟩
def Tok.Small (t : Tok) : Prop := I64 t.i /\ t.s.length <= 100000
theorem text_t (t : Tok) (h : t.Small) : tupV (callE efns given) (.call 0 f_lex_Text) [t.p] = some (.str (tokT t)) := by
 have tv := textV_t ⟨t.k, t.i, t.s⟩ h.2 h.1
 unfold Vl.p at tv
 have hl1 : (1 + t.s.length <= 4611686018427387904) = True := eq_true (by have := h.2; omega)
 have hl2 : (2 + t.s.length <= 4611686018427387904) = True := eq_true (by have := h.2; omega)
 have hl3 : (t.s.length + 1 + 1 + 1 <= 4611686018427387904) = True := eq_true (by have := h.2; omega)
 have hl0 : (t.s.length + 1 <= 4611686018427387904) = True := eq_true (by have := h.2; omega)
 have key : callE efns given f_lex_Text [t.p] ⟨[], [], [], []⟩ = some (.str (tokT t), ⟨[t.cells'], [], [T_lex_Text_0], []⟩) := by
  rw [callE_fn efns given (c := e_lex_Text) rfl rfl]
  unfold tokT
  by_cases h4 : t.k = 4
  ·rw [if_pos h4]
   simp only [e_lex_Text, Tok.p, Tok.cells', go_sem, h4, if_true]
  rw [if_neg h4]
  by_cases h5 : t.k = 5
  ·rw [if_pos h5]
   simp only [e_lex_Text, Tok.p, Tok.cells', go_sem, h5, if_true, if_false]
  rw [if_neg h5]
  by_cases h8 : t.k = 8
  ·rw [if_pos h8]
   simp only [e_lex_Text, Tok.p, Tok.cells', go_sem, h8, if_true, if_false]
  rw [if_neg h8]
  by_cases h6 : t.k = 6
  ·rw [if_pos h6]
   simp only [e_lex_Text, Tok.p, Tok.cells', go_sem, h6, if_true, if_false, List.length_cons, List.length_nil, Nat.zero_add, hl1, List.singleton_append]
  rw [if_neg h6]
  by_cases h7 : t.k = 7
  ·rw [if_pos h7]
   simp only [e_lex_Text, Tok.p, Tok.cells', go_sem, h7, if_true, if_false, List.length_cons, List.length_nil, Nat.zero_add, hl1, hl2, hl3, List.length_append, List.cons_append, List.nil_append]
  rw [if_neg h7]
  simp only [e_lex_Text, Tok.p, Tok.cells', go_sem, h4, h5, h6, h7, h8, if_true, if_false, zip3, fillP, tv]
 exact callV_of rfl key rfl
theorem strM_len : ∀ (m : Nat) (s acc : List UInt8) (i : Nat) (t : List UInt8) (q : Nat), s.length <= m -> strM s acc i = .ok (t, q) -> t.length <= 1000 := by
 intro m
 induction m with
 | zero =>
  intro s acc i t q hm h
  cases s with
  | nil => cases h
  | cons => simp at hm
 | succ m ih =>
  intro s acc i t q hm h
  cases s with
  | nil => cases h
  | cons c r =>
   by_cases h34 : c = 34
   ·subst h34
    rw [strM_end] at h
    split at h
    ·cases h
    ·cases h; omega
   ·by_cases h92 : c = 92
    ·subst h92
     cases r with
     | nil => rw [strM_esc0] at h; cases h
     | cons d r => rw [strM_esc] at h; exact ih r _ _ _ _ (by simp only [List.length_cons] at hm; omega) h
    ·rw [strM_cons h34 h92] at h
     exact ih r _ _ _ _ (by simp only [List.length_cons] at hm; omega) h
theorem parseM_in (s : List UInt8) : I64 (parseM s).1 := by
 rw [parseM_eq]
 split
 ·exact fst_fit
 ·exact ⟨by decide, by decide⟩
inductive TokK : Tk -> Prop
 | sign (k : Int) (h : k = 4 \/ k = 5 \/ k = 8) : TokK ⟨k, 0, []⟩
 | str (s : List UInt8) (h : s.length <= 1000) : TokK ⟨3, 0, s⟩
 | name (k : Int) (s : List UInt8) (hk : k = 6 \/ k = 7) (h : goodM s = true) : TokK ⟨k, 0, s⟩
 | int (i : Int) (h : I64 i) : TokK ⟨1, i, []⟩
 | sym (s : List UInt8) (h1 : s ≠ []) (h2 : s.length <= 40) (h3 : s.all signB = true) (h4 : (parseM s).2 = 2) : TokK ⟨2, 0, s⟩
theorem all_while {α : Type} (p : α -> Bool) : ∀ l : List α, (l.takeWhile p).all p = true
 | [] => rfl
 | c :: r => by
  rw [List.takeWhile_cons]
  split
  ·rename_i h; rw [List.all_cons, h, all_while p r]; rfl
  ·rfl
theorem oneM_kind {s : List UInt8} {t : Tk} {m : Nat} (h : oneM s = .ok (t, m)) : TokK t := by
 cases s with
 | nil => cases h
 | cons c r =>
  rw [oneM_cons] at h
  split at h
  ·cases h; exact .sign 4 (.inl rfl)
  split at h
  ·cases h; exact .sign 5 (.inr (.inl rfl))
  split at h
  ·cases h; exact .sign 8 (.inr (.inr rfl))
  split at h
  ·split at h
   ·cases h
   ·rename_i t' ht
    cases h
    exact .str _ (strM_len _ _ _ _ t'.1 t'.2 (Nat.le_refl _) ht)
  split at h
  ·unfold varM at h
   split at h
   ·split at h
    ·cases h
    ·rename_i t' ht
     split at h
     ·cases h; exact .name 7 _ (.inr rfl) (nameM_le ht).2.2.2
     ·cases h
   ·split at h
    ·cases h
    ·rename_i t' ht
     cases h; exact .name 6 _ (.inl rfl) (nameM_le ht).2.2.2
  ·unfold wordM at h
   split at h
   ·cases h
   rename_i h0
   split at h
   ·cases h; exact .int _ (parseM_in _)
   split at h
   ·cases h
   rename_i h2
   split at h
   ·cases h
   ·cases h; exact .sym _ h0 (by omega) (all_while _ _) (by omega)
theorem goodM_len {s : List UInt8} (h : goodM s = true) : s.length <= 40 /\ s ≠ [] /\ s.all partB = true := by
 cases s with
 | nil => cases h
 | cons c r =>
  simp only [goodM, Bool.and_eq_true, decide_eq_true_eq] at h
  exact ⟨h.1.1, by simp, h.2⟩
theorem TokK.small {t : Tk} (h : TokK t) : I64 t.i /\ t.s.length <= 1000 := by
 have h0 : I64 0 := ⟨by decide, by decide⟩
 cases h with
 | sign k h => exact ⟨h0, by simp⟩
 | str s h => exact ⟨h0, h⟩
 | name k s hk h => exact ⟨h0, by have := (goodM_len h).1; simp only; omega⟩
 | int i h => exact ⟨h, by simp⟩
 | sym s h1 h2 h3 h4 => exact ⟨h0, by simp only; omega⟩
def Tok.tk (t : Tok) : Tk := ⟨t.k, t.i, t.s⟩
theorem scanM_kind : ∀ (m : Nat) (s : List UInt8) (n : Nat) (l : List Tok), s.length <= m -> scanM n s = .ok l -> ∀ t ∈ l, TokK t.tk := by
 intro m
 induction m with
 | zero =>
  intro s n l hm h t ht
  have : s = [] := List.eq_nil_of_length_eq_zero (by omega)
  subst this
  rw [scanM_nil rfl] at h
  cases h
  simp at ht
 | succ m ih =>
  intro s n l hm h t ht
  cases hs : skipM false s with
  | nil =>
   rw [scanM_nil hs] at h
   cases h
   simp at ht
  | cons c r =>
   have hle := skipM_le s false
   rw [hs, List.length_cons] at hle
   rw [scanM_cons hs] at h
   split at h
   ·cases h
   ·rename_i tk ho
    split at h
    ·cases h
    ·rename_i l' hl'
     cases h
     rcases List.mem_cons.1 ht with rfl | ht
     ·exact oneM_kind (t := tk.1) (m := tk.2) ho
     ·exact ih _ _ _ (by rw [List.length_drop]; omega) hl' t ht
theorem scanL_kind {b : List UInt8} {l : List Tok} (h : scanL b = .ok l) : ∀ t ∈ l, TokK t.tk := by
 unfold scanL at h
 split at h
 ·cases h
 ·exact scanM_kind _ _ _ _ (Nat.le_refl _) h
theorem Tok.small {t : Tok} (h : TokK t.tk) : t.Small := ⟨h.small.1, by have := h.small.2; simp only [Tok.tk] at this; omega⟩
end Go.Proofs.YtnlknpeelpnbaaaGreatDoorPe.Read
set_option linter.unusedVariables false
set_option linter.unusedSimpArgs false
set_option maxRecDepth 1000000
namespace Go.Proofs.YtnlknpeelpnbaaaGreatDoorPe.Read
open Go Go.Proofs.YtnlknpeelpnbaaaGreatDoorPe Go.Proofs.YtnlknpeelpnbaaaGreatDoorPe.ReadCode
theorem scanM_len : ∀ (m : Nat) (s : List UInt8) (n : Nat) (l : List Tok), s.length <= m -> scanM n s = .ok l -> l.length <= s.length := by
 intro m
 induction m with
 | zero =>
  intro s n l hm h
  have : s = [] := List.eq_nil_of_length_eq_zero (by omega)
  subst this
  rw [scanM_nil rfl] at h
  cases h
  simp
 | succ m ih =>
  intro s n l hm h
  cases hs : skipM false s with
  | nil =>
   rw [scanM_nil hs] at h
   cases h
   simp
  | cons c r =>
   have hle := skipM_le s false
   rw [hs, List.length_cons] at hle
   rw [scanM_cons hs] at h
   split at h
   ·cases h
   ·rename_i tk ho
    split at h
    ·cases h
    ·rename_i l' hl'
     cases h
     have := ih _ _ _ (by rw [List.length_drop]; omega) hl'
     rw [List.length_drop] at this
     simp only [List.length_cons]
     omega
theorem scanL_len {b : List UInt8} {l : List Tok} (h : scanL b = .ok l) : l.length <= b.length /\ b.length <= 65536 := by
 unfold scanL at h
 split at h
 ·cases h
 ·exact ⟨scanM_len _ _ _ _ (Nat.le_refl _) h, by omega⟩
end Go.Proofs.YtnlknpeelpnbaaaGreatDoorPe.Read
set_option linter.unusedVariables false
set_option linter.unusedSimpArgs false
set_option maxRecDepth 1000000
namespace Go.Proofs.YtnlknpeelpnbaaaGreatDoorPe.Read
open Go Go.Proofs.YtnlknpeelpnbaaaGreatDoorPe Go.Proofs.YtnlknpeelpnbaaaGreatDoorPe.ReadCode
def EndB : List UInt8 -> Prop
 | [] => True
 | c :: _ => signB c = false /\ partB c = false
def Stops (p : UInt8 -> Bool) : List UInt8 -> Prop
 | [] => True
 | c :: _ => p c = false
theorem EndB.sign {r : List UInt8} (h : EndB r) : Stops signB r := by
 cases r with
 | nil => trivial
 | cons c r => exact h.1
theorem EndB.part {r : List UInt8} (h : EndB r) : Stops partB r := by
 cases r with
 | nil => trivial
 | cons c r => exact h.2
theorem tw_end {p : UInt8 -> Bool} {w r : List UInt8} (hw : w.all p = true) (hr : Stops p r) : (w ++ r).takeWhile p = w := by
 induction w with
 | nil =>
  cases r with
  | nil => rfl
  | cons c r => rw [List.nil_append, List.takeWhile_cons, if_neg (by rw [hr]; decide)]
 | cons c w ih =>
  simp only [List.all_cons, Bool.and_eq_true] at hw
  rw [List.cons_append, List.takeWhile_cons, if_pos hw.1, ih hw.2]
def tkT (t : Tk) : List UInt8 :=
 if t.k = 4 then [40] else if t.k = 5 then [41] else if t.k = 8 then [126] else if t.k = 6 then 63 :: t.s else if t.k = 7 then 63 :: 42 :: (t.s ++ [42]) else textV ⟨t.k, t.i, t.s⟩
theorem tokT_eq (t : Tok) : tokT t = tkT t.tk := rfl
theorem nameM_end {s r : List UInt8} (h : goodM s = true) (hr : Stops partB r) : nameM (s ++ r) = .ok s := by
 obtain ⟨h1, h2, h3⟩ := goodM_len h
 unfold nameM
 rw [tw_end h3 hr, if_neg (by omega), if_pos h]
theorem wordM_int {w r : List UInt8} (hw : w.all signB = true) (hr : Stops signB r) (h0 : w ≠ []) (hp : (parseM w).2 = 0) : wordM (w ++ r) = .ok (⟨1, (parseM w).1, []⟩, w.length) := by
 unfold wordM
 rw [tw_end hw hr, if_neg h0, if_pos hp]
theorem wordM_sym {w r : List UInt8} (hw : w.all signB = true) (hr : Stops signB r) (h0 : w ≠ []) (hp : (parseM w).2 = 2) (hl : w.length <= 40) : wordM (w ++ r) = .ok (⟨2, 0, w⟩, w.length) := by
 unfold wordM
 rw [tw_end hw hr, if_neg h0, if_neg (by rw [hp]; decide), if_neg (by rw [hp]; decide), if_neg (by omega)]
theorem strM_escs (r : List UInt8) : ∀ (s acc : List UInt8) (i : Nat), (acc ++ s).length <= 1000 -> strM (escs s ++ 34 :: r) acc i = .ok (acc ++ s, i + (escs s).length + 1)
 | [], acc, i, h => by
  have : ¬ acc.length > 1000 := by simp at h; omega
  show strM (34 :: r) acc i = _
  rw [strM_end, if_neg this, List.append_nil]
  rfl
 | c :: s, acc, i, h => by
  have ih := strM_escs r s (acc ++ [c])
  by_cases hc : c = 34 \/ c = 92
  ·have e : escs (c :: s) = 92 :: c :: escs s := by
    simp [escs, esc, hc]
   rw [e, List.cons_append, List.cons_append, strM_esc, ih _ (by rw [List.append_assoc]; exact h), List.append_assoc]
   simp only [List.length_cons, List.singleton_append]
   congr 2
   omega
  ·have h34 : c ≠ 34 := fun e => hc (.inl e)
   have h92 : c ≠ 92 := fun e => hc (.inr e)
   have e : escs (c :: s) = c :: escs s := by
    simp [escs, esc, h34, h92]
   rw [e, List.cons_append, strM_cons h34 h92, ih _ (by rw [List.append_assoc]; exact h), List.append_assoc]
   simp only [List.length_cons, List.singleton_append]
   congr 2
   omega
theorem sign_first {c : UInt8} (h : signB c = true) : c ≠ 40 /\ c ≠ 41 /\ c ≠ 126 /\ c ≠ 34 /\ c ≠ 63 /\ c ≠ 59 /\ blankB c = false := by
 refine ⟨?_, ?_, ?_, ?_, ?_, ?_, ?_⟩
 ·rintro rfl; revert h; decide
 ·rintro rfl; revert h; decide
 ·rintro rfl; revert h; decide
 ·rintro rfl; revert h; decide
 ·rintro rfl; revert h; decide
 ·rintro rfl; revert h; decide
 ·cases hb : blankB c with
  | false => rfl
  | true =>
   have hb4 : c = 32 \/ c = 9 \/ c = 10 \/ c = 13 := by simpa [blankB, or_assoc] using hb
   rcases hb4 with rfl | rfl | rfl | rfl <;> (revert h; decide)
theorem oneM_word {w r : List UInt8} (hw : w.all signB = true) (h0 : w ≠ []) : oneM (w ++ r) = wordM (w ++ r) := by
 cases w with
 | nil => exact absurd rfl h0
 | cons c w =>
  simp only [List.all_cons, Bool.and_eq_true] at hw
  obtain ⟨h1, h2, h3, h4, h5, _⟩ := sign_first hw.1
  rw [List.cons_append, oneM_cons, if_neg h1, if_neg h2, if_neg h3, if_neg h4, if_neg h5]
theorem digit_sign {c : UInt8} (h : c = 45 \/ digit c = true) : signB c = true := by
 rcases h with rfl | h
 ·decide
 ·have hb := digit_bounds h
  have e : c = UInt8.ofNat c.toNat := by simp
  have : c.toNat = 48 \/ c.toNat = 49 \/ c.toNat = 50 \/ c.toNat = 51 \/ c.toNat = 52 \/ c.toNat = 53 \/ c.toNat = 54 \/ c.toNat = 55 \/ c.toNat = 56 \/ c.toNat = 57 := by omega
  rw [e]
  rcases this with h | h | h | h | h | h | h | h | h | h <;> (rw [h]; decide)
theorem text_sign {n : Int} (hn : I64 n) : (text n).all signB = true := List.all_eq_true.2 fun c hc => digit_sign (text_mem hn hc)
theorem text_ne {n : Int} (hn : I64 n) : text n ≠ [] := by
 intro h
 have := parseM_text hn
 rw [h] at this
 have h2 : (parseM []).2 = 2 := by decide
 rw [this] at h2
 cases h2
theorem oneM_back {t : Tk} (h : TokK t) {r : List UInt8} (hr : EndB r) : oneM (tkT t ++ r) = .ok (t, (tkT t).length) := by
 cases h with
 | sign k hk =>
  rcases hk with rfl | rfl | rfl
  ·show oneM (40 :: r) = _
   rw [oneM_cons, if_pos rfl]; rfl
  ·show oneM (41 :: r) = _
   rw [oneM_cons, if_neg (by decide), if_pos rfl]; rfl
  ·show oneM (126 :: r) = _
   rw [oneM_cons, if_neg (by decide), if_neg (by decide), if_pos rfl]; rfl
 | str s hs =>
  have e : tkT ⟨3, 0, s⟩ = 34 :: (escs s ++ [34]) := rfl
  rw [e, List.cons_append, oneM_cons, if_neg (by decide), if_neg (by decide), if_neg (by decide), if_pos rfl, List.append_assoc, List.singleton_append, strM_escs r s [] 0 (by simpa using hs)]
  simp only [List.nil_append, List.length_cons, List.length_append, List.length_nil]
  congr 2
  omega
 | name k s hk hs =>
  rcases hk with rfl | rfl
  ·have e : tkT ⟨6, 0, s⟩ = 63 :: s := rfl
   have hst : isStar (s ++ r) = false := by
    cases s with
    | nil => exact absurd rfl (goodM_len hs).2.1
    | cons c s =>
     simp only [goodM, Bool.and_eq_true] at hs
     have hl := hs.1.2
     have : c ≠ 42 := by rintro rfl; revert hl; decide
     simp [isStar, this]
   rw [e, List.cons_append, oneM_cons, if_neg (by decide), if_neg (by decide), if_neg (by decide), if_neg (by decide), if_pos rfl]
   unfold varM
   rw [hst, if_neg (by decide), nameM_end hs hr.part]
   rfl
  ·have e : tkT ⟨7, 0, s⟩ = 63 :: 42 :: (s ++ [42]) := rfl
   rw [e, List.cons_append, oneM_cons, if_neg (by decide), if_neg (by decide), if_neg (by decide), if_neg (by decide), if_pos rfl]
   unfold varM
   rw [List.cons_append, if_pos (by rfl), List.drop_succ_cons, List.drop_zero, List.append_assoc, nameM_end hs (show Stops partB ([42] ++ r) from (by decide : partB 42 = false))]
   simp only [List.drop_left, List.singleton_append, isStar, decide_true, if_true, List.length_cons, List.length_append, List.length_nil]
 | int i hi =>
  have e : tkT ⟨1, i, []⟩ = text i := rfl
  rw [e, oneM_word (text_sign hi) (text_ne hi), wordM_int (text_sign hi) hr.sign (text_ne hi) (by rw [parseM_text hi]), parseM_text hi]
 | sym s h1 h2 h3 h4 =>
  have e : tkT ⟨2, 0, s⟩ = s := rfl
  rw [e, oneM_word h3 h1, wordM_sym h3 hr.sign h1 h4 h2]
theorem tkT_first {t : Tk} (h : TokK t) : ∃ c r, tkT t = c :: r /\ blankB c = false /\ c ≠ 59 := by
 have word : ∀ {w : List UInt8}, w.all signB = true -> w ≠ [] -> ∃ c r, w = c :: r /\ blankB c = false /\ c ≠ 59 := by
  intro w hw h0
  cases w with
  | nil => exact absurd rfl h0
  | cons c w =>
   simp only [List.all_cons, Bool.and_eq_true] at hw
   obtain ⟨_, _, _, _, _, h6, h7⟩ := sign_first hw.1
   exact ⟨c, w, rfl, h7, h6⟩
 cases h with
 | sign k hk =>
  rcases hk with rfl | rfl | rfl
  ·exact ⟨40, [], rfl, by decide, by decide⟩
  ·exact ⟨41, [], rfl, by decide, by decide⟩
  ·exact ⟨126, [], rfl, by decide, by decide⟩
 | str s hs => exact ⟨34, escs s ++ [34], rfl, by decide, by decide⟩
 | name k s hk hs =>
  rcases hk with rfl | rfl
  ·exact ⟨63, s, rfl, by decide, by decide⟩
  ·exact ⟨63, 42 :: (s ++ [42]), rfl, by decide, by decide⟩
 | int i hi => exact word (text_sign hi) (text_ne hi)
 | sym s h1 h2 h3 h4 => exact word h3 h1
theorem scanM_eq {p q : Nat} {s t : List UInt8} (h : skipM false s = skipM false t) (hp : p + (s.length - (skipM false t).length) = q + (t.length - (skipM false t).length)) : scanM p s = scanM q t := by
 rw [<- scanM_skip p s, <- scanM_skip q t, h, hp]
theorem scanM_tok {t : Tk} (h : TokK t) {r : List UInt8} (hr : EndB r) (p : Nat) : scanM p (tkT t ++ r) = match scanM (p + (tkT t).length) r with
  | .error e => .error e
  | .ok l => .ok (⟨t.k, p, t.i, t.s⟩ :: l) := by
 have ho := oneM_back h hr
 obtain ⟨c, r', e, h1, h2⟩ := tkT_first h
 have hs : skipM false (tkT t ++ r) = c :: (r' ++ r) := by rw [e, List.cons_append, skipM_f, if_neg (by rw [h1]; decide), if_neg h2]
 have e2 : tkT t ++ r = c :: (r' ++ r) := by rw [e, List.cons_append]
 have hl : (tkT t).length = r'.length + 1 := by rw [e]; rfl
 rw [scanM_cons hs]
 rw [e2] at ho
 rw [ho, e2]
 simp only [List.length_cons, hl, Nat.add_sub_cancel, Nat.sub_self, Nat.add_zero, List.drop_left]
 rfl
theorem text_len {n : Int} (hn : I64 n) : (text n).length <= 21 := by
 rw [text_eq (by omega) (by omega)]
 unfold Lib.itoa
 split
 ·have := decDigits_len 19 n.natAbs (by omega)
  simp only [List.length_cons]; omega
 ·have := decDigits_len 19 n.toNat (by omega)
  omega
theorem strM_size : ∀ (m : Nat) (s acc : List UInt8) (i : Nat) (t : List UInt8) (q : Nat), s.length <= m -> strM s acc i = .ok (t, q) -> t.length + i + 1 <= q + acc.length := by
 intro m
 induction m with
 | zero =>
  intro s acc i t q hm h
  cases s with
  | nil => cases h
  | cons => simp at hm
 | succ m ih =>
  intro s acc i t q hm h
  cases s with
  | nil => cases h
  | cons c r =>
   by_cases h34 : c = 34
   ·subst h34
    rw [strM_end] at h
    split at h
    ·cases h
    ·cases h; omega
   ·by_cases h92 : c = 92
    ·subst h92
     cases r with
     | nil => rw [strM_esc0] at h; cases h
     | cons d r =>
      rw [strM_esc] at h
      have := ih r _ _ _ _ (by simp only [List.length_cons] at hm; omega) h
      simp only [List.length_append, List.length_singleton] at this
      omega
    ·rw [strM_cons h34 h92] at h
     have := ih r _ _ _ _ (by simp only [List.length_cons] at hm; omega) h
     simp only [List.length_append, List.length_singleton] at this
     omega
theorem tkT_len {s : List UInt8} {t : Tk} {m : Nat} (h : oneM s = .ok (t, m)) : (tkT t).length <= 21 * m := by
 have hm := oneM_le h
 cases s with
 | nil => cases h
 | cons c r =>
  rw [oneM_cons] at h
  split at h
  ·cases h; simp [tkT]
  split at h
  ·cases h; simp [tkT]
  split at h
  ·cases h; simp [tkT]
  split at h
  ·split at h
   ·cases h
   ·rename_i t' ht
    cases h
    have h1 := strM_size _ r [] 0 t'.1 t'.2 (Nat.le_refl _) ht
    have h2 := (escs_len t'.1).2
    have e : tkT ⟨3, 0, t'.1⟩ = 34 :: (escs t'.1 ++ [34]) := rfl
    rw [e]
    simp only [List.length_cons, List.length_append, List.length_nil] at h1 ⊢
    omega
  split at h
  ·unfold varM at h
   split at h
   ·split at h
    ·cases h
    ·rename_i t' ht
     split at h
     ·cases h
      have e : tkT ⟨7, 0, t'⟩ = 63 :: 42 :: (t' ++ [42]) := rfl
      rw [e]
      simp only [List.length_cons, List.length_append, List.length_nil]
      omega
     ·cases h
   ·split at h
    ·cases h
    ·rename_i t' ht
     cases h
     have e : tkT ⟨6, 0, t'⟩ = 63 :: t' := rfl
     rw [e]
     simp only [List.length_cons]
     omega
  ·unfold wordM at h
   split at h
   ·cases h
   split at h
   ·cases h
    have e : tkT ⟨1, (parseM ((c :: r).takeWhile signB)).1, []⟩ = text (parseM ((c :: r).takeWhile signB)).1 := rfl
    have := text_len (parseM_in ((c :: r).takeWhile signB))
    rw [e]
    omega
   split at h
   ·cases h
   split at h
   ·cases h
   ·cases h
    have e : tkT ⟨2, 0, (c :: r).takeWhile signB⟩ = (c :: r).takeWhile signB := rfl
    rw [e]
    omega
def sizeL (l : List Tok) : Nat := (l.map fun t => (tokT t).length).sum
theorem scanM_size : ∀ (m : Nat) (s : List UInt8) (n : Nat) (l : List Tok), s.length <= m -> scanM n s = .ok l -> sizeL l <= 21 * s.length := by
 intro m
 induction m with
 | zero =>
  intro s n l hm h
  have : s = [] := List.eq_nil_of_length_eq_zero (by omega)
  subst this
  rw [scanM_nil rfl] at h
  cases h
  simp [sizeL]
 | succ m ih =>
  intro s n l hm h
  cases hs : skipM false s with
  | nil =>
   rw [scanM_nil hs] at h
   cases h
   simp [sizeL]
  | cons c r =>
   have hle := skipM_le s false
   rw [hs, List.length_cons] at hle
   rw [scanM_cons hs] at h
   split at h
   ·cases h
   ·rename_i tk ho
    split at h
    ·cases h
    ·rename_i l' hl'
     cases h
     have h1 := ih _ _ _ (by rw [List.length_drop]; omega) hl'
     have h2 := tkT_len (t := tk.1) (m := tk.2) ho
     have h3 := oneM_le (t := tk.1) (m := tk.2) ho
     have e : sizeL (⟨tk.1.k, n + (s.length - (r.length + 1)), tk.1.i, tk.1.s⟩ :: l') = (tkT tk.1).length + sizeL l' := by
      simp [sizeL, tokT_eq, Tok.tk]
     rw [e]
     rw [List.length_drop] at h1
     simp only [List.length_cons] at h3
     omega
theorem tobytes_ok {s : List UInt8} : unV .tobytes (.str s) = some (.lst (byts s)) := rfl
theorem tkT_short {t : Tk} (h : TokK t) : (tkT t).length <= 2100 := by
 cases h with
 | sign k hk => rcases hk with rfl | rfl | rfl <;> simp [tkT]
 | str s hs =>
  have := (escs_len s).2
  have e : tkT ⟨3, 0, s⟩ = 34 :: (escs s ++ [34]) := rfl
  rw [e]
  simp only [List.length_cons, List.length_append, List.length_nil]
  omega
 | name k s hk hs =>
  have := (goodM_len hs).1
  rcases hk with rfl | rfl
  ·have e : tkT ⟨6, 0, s⟩ = 63 :: s := rfl
   rw [e]; simp only [List.length_cons]; omega
  ·have e : tkT ⟨7, 0, s⟩ = 63 :: 42 :: (s ++ [42]) := rfl
   rw [e]; simp only [List.length_cons, List.length_append, List.length_nil]; omega
 | int i hi =>
  have e : tkT ⟨1, i, []⟩ = text i := rfl
  have := text_len hi
  rw [e]; omega
 | sym s h1 h2 h3 h4 =>
  have e : tkT ⟨2, 0, s⟩ = s := rfl
  rw [e]; omega
end Go.Proofs.YtnlknpeelpnbaaaGreatDoorPe.Read
