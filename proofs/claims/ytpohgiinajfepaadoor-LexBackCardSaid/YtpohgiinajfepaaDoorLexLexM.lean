/- What a text's tokens are: the plain model. -/
import Derived.Test.YtpohgiinajfepaaDoorLexVWords
import Derived.Test.YtpohgiinajfepaaDoorLexTxt
set_option linter.unusedVariables false
set_option linter.unusedSimpArgs false
set_option maxRecDepth 100000
namespace Go.Proofs.YtpohgiinajfepaaDoorPe.Lex
open Go Go.Proofs.YtpohgiinajfepaaDoorPe Go.Proofs.YtpohgiinajfepaaDoorPe.LexCode

def letterB (c : UInt8) : Bool := (decide (97 ≤ c.toNat) && decide (c.toNat ≤ 122)) || (decide (65 ≤ c.toNat) && decide (c.toNat ≤ 90))
def partB (c : UInt8) : Bool := letterB c || (decide (48 ≤ c.toNat) && decide (c.toNat ≤ 57)) || decide (c = 45) || decide (c = 95)
def signB (c : UInt8) : Bool := decide (33 ≤ c.toNat) && decide (c.toNat ≤ 126) && !(decide (c = 40)) && !(decide (c = 41)) && !(decide (c = 34)) && !(decide (c = 59)) && !(decide (c = 63)) && !(decide (c = 126))
def blankB (c : UInt8) : Bool := decide (c = 32) || decide (c = 9) || decide (c = 10) || decide (c = 13)
/-- A name. -/
def goodM (s : List UInt8) : Bool :=
  match s with
  | [] => false
  | c :: r => decide (s.length ≤ 40) && letterB c && s.all partB

/-- A token: its kind, its number, its text. -/
structure Tk where
  k : Int
  i : Int
  s : List UInt8
  deriving DecidableEq, Inhabited

abbrev Res (α : Type) := Except Int α

def nameM (s : List UInt8) : Res (List UInt8) :=
  if (s.takeWhile partB).length > 40 then .error 4 else if goodM (s.takeWhile partB) = true then .ok (s.takeWhile partB) else .error 2
def wordM (s : List UInt8) : Res (Tk × Nat) :=
  if s.takeWhile signB = [] then .error 2
  else if (parseM (s.takeWhile signB)).2 = 0 then .ok (⟨1, (parseM (s.takeWhile signB)).1, []⟩, (s.takeWhile signB).length)
  else if (parseM (s.takeWhile signB)).2 ≠ 2 then .error (parseM (s.takeWhile signB)).2
  else if (s.takeWhile signB).length > 40 then .error 4
  else .ok (⟨2, 0, s.takeWhile signB⟩, (s.takeWhile signB).length)
/-- A string behind its mark: what was read, how far. -/
def strM : List UInt8 → List UInt8 → Nat → Res (List UInt8 × Nat)
  | [], _, _ => .error 3
  | c :: r, acc, n => if c = 34 then (if acc.length > 1000 then .error 4 else .ok (acc, n + 1))
    else if c = 92 then (match r with
      | [] => .error 3
      | d :: r' => strM r' (acc ++ [d]) (n + 2))
    else strM r (acc ++ [c]) (n + 1)
def isStar : List UInt8 → Bool
  | c :: _ => decide (c = 42)
  | [] => false
def varM (r : List UInt8) : Res (Tk × Nat) :=
  if isStar r = true then (match nameM (r.drop 1) with
    | .error e => .error e
    | .ok t => if isStar ((r.drop 1).drop t.length) = true then .ok (⟨7, 0, t⟩, t.length + 3) else .error 2)
  else (match nameM r with
    | .error e => .error e
    | .ok t => .ok (⟨6, 0, t⟩, t.length + 1))
def oneM : List UInt8 → Res (Tk × Nat)
  | [] => .error 2
  | c :: r => if c = 40 then .ok (⟨4, 0, []⟩, 1) else if c = 41 then .ok (⟨5, 0, []⟩, 1) else if c = 126 then .ok (⟨8, 0, []⟩, 1)
    else if c = 34 then (match strM r [] 0 with
      | .error e => .error e
      | .ok t => .ok (⟨3, 0, t.1⟩, t.2 + 1))
    else if c = 63 then varM r
    else wordM (c :: r)

/-- Behind blanks and comments; within a comment? -/
def skipM : Bool → List UInt8 → List UInt8
  | _, [] => []
  | true, c :: r => if c = 10 then skipM false r else skipM true r
  | false, c :: r => if blankB c = true then skipM false r else if c = 59 then skipM true r else c :: r

theorem skipM_t {c : UInt8} {r : List UInt8} : skipM true (c :: r) = if c = 10 then skipM false r else skipM true r := rfl
theorem skipM_f {c : UInt8} {r : List UInt8} : skipM false (c :: r) = if blankB c = true then skipM false r else if c = 59 then skipM true r else c :: r := rfl
theorem oneM_cons {c : UInt8} {r : List UInt8} : oneM (c :: r) = if c = 40 then .ok (⟨4, 0, []⟩, 1) else if c = 41 then .ok (⟨5, 0, []⟩, 1) else if c = 126 then .ok (⟨8, 0, []⟩, 1)
    else if c = 34 then (match strM r [] 0 with
      | .error e => .error e
      | .ok t => .ok (⟨3, 0, t.1⟩, t.2 + 1))
    else if c = 63 then varM r
    else wordM (c :: r) := rfl

theorem skipM_le : ∀ (s : List UInt8) (b : Bool), (skipM b s).length ≤ s.length
  | [], b => by cases b <;> exact Nat.le_refl _
  | c :: r, true => by
    unfold skipM
    have h1 := skipM_le r false
    have h2 := skipM_le r true
    split
    · simp only [List.length_cons]; omega
    · simp only [List.length_cons]; omega
  | c :: r, false => by
    unfold skipM
    have h1 := skipM_le r false
    have h2 := skipM_le r true
    split
    · simp only [List.length_cons]; omega
    · split
      · simp only [List.length_cons]; omega
      · exact Nat.le_refl _

theorem skipM_suffix : ∀ (s : List UInt8) (b : Bool), skipM b s = s.drop (s.length - (skipM b s).length)
  | [], b => by cases b <;> rfl
  | c :: r, true => by
    unfold skipM
    have h1 := skipM_suffix r false
    have h2 := skipM_suffix r true
    have l1 := skipM_le r false
    have l2 := skipM_le r true
    split
    · rw [List.length_cons, show r.length + 1 - (skipM false r).length = (r.length - (skipM false r).length) + 1 by omega, List.drop_succ_cons]; exact h1
    · rw [List.length_cons, show r.length + 1 - (skipM true r).length = (r.length - (skipM true r).length) + 1 by omega, List.drop_succ_cons]; exact h2
  | c :: r, false => by
    unfold skipM
    have h1 := skipM_suffix r false
    have h2 := skipM_suffix r true
    have l1 := skipM_le r false
    have l2 := skipM_le r true
    split
    · rw [List.length_cons, show r.length + 1 - (skipM false r).length = (r.length - (skipM false r).length) + 1 by omega, List.drop_succ_cons]; exact h1
    · split
      · rw [List.length_cons, show r.length + 1 - (skipM true r).length = (r.length - (skipM true r).length) + 1 by omega, List.drop_succ_cons]; exact h2
      · simp

/-- A token at its place. -/
structure Tok where
  k : Int
  pos : Nat
  i : Int
  s : List UInt8
  deriving DecidableEq, Inhabited
def Tok.p (t : Tok) : PV := .agg [.int .i64 t.k, .int .i64 t.pos, .int .i64 t.i, .str t.s]
def Tok.cells' (t : Tok) : List PV := [.int .i64 t.k, .int .i64 t.pos, .int .i64 t.i, .str t.s]

/-- All tokens of a text that begins at a place; or the place of the first that is none, and why. -/
def scanM (pos : Nat) (s : List UInt8) : Except (Nat × Int) (List Tok) :=
  match h : skipM false s with
  | [] => .ok []
  | c :: r => match oneM (c :: r) with
    | .error e => .error (pos + (s.length - (r.length + 1)), e)
    | .ok t => match scanM (pos + (s.length - (r.length + 1)) + (t.2 - 1 + 1)) (r.drop (t.2 - 1)) with
      | .error e => .error e
      | .ok l => .ok (⟨t.1.k, pos + (s.length - (r.length + 1)), t.1.i, t.1.s⟩ :: l)
termination_by s.length
decreasing_by
  have h1 := skipM_le s false
  rw [h] at h1
  simp only [List.length_cons, List.length_drop] at h1 ⊢
  omega

theorem scanM_nil {pos : Nat} {s : List UInt8} (h : skipM false s = []) : scanM pos s = .ok [] := by
  rw [scanM]
  split
  · rfl
  · rename_i h'; rw [h] at h'; cases h'
theorem scanM_cons {pos : Nat} {s : List UInt8} {c : UInt8} {r : List UInt8} (h : skipM false s = c :: r) : scanM pos s = match oneM (c :: r) with
    | .error e => .error (pos + (s.length - (r.length + 1)), e)
    | .ok t => match scanM (pos + (s.length - (r.length + 1)) + (t.2 - 1 + 1)) (r.drop (t.2 - 1)) with
      | .error e => .error e
      | .ok l => .ok (⟨t.1.k, pos + (s.length - (r.length + 1)), t.1.i, t.1.s⟩ :: l) := by
  rw [scanM]
  split
  · rename_i h'; rw [h] at h'; cases h'
  · rename_i h'
    rw [h] at h'
    cases h'
    rfl

theorem skipM_skip : ∀ (s : List UInt8) (b : Bool), skipM false (skipM b s) = skipM b s
  | [], b => by cases b <;> rfl
  | c :: r, true => by
    rw [skipM_t]
    split
    · exact skipM_skip r false
    · exact skipM_skip r true
  | c :: r, false => by
    rw [skipM_f]
    split
    · exact skipM_skip r false
    · split
      · exact skipM_skip r true
      · rename_i h1 h2
        rw [skipM_f, if_neg h1, if_neg h2]
/-- Blanks ahead alone turn no more than the places. -/
theorem scanM_skip (pos : Nat) (s : List UInt8) : scanM (pos + (s.length - (skipM false s).length)) (skipM false s) = scanM pos s := by
  have hl := skipM_le s false
  cases h : skipM false s with
  | nil =>
    rw [scanM_nil h, scanM_nil rfl]
  | cons c r =>
    rw [h] at hl
    have h2 : skipM false (c :: r) = c :: r := by
      have := skipM_skip s false
      rw [h] at this
      exact this
    rw [scanM_cons h2, scanM_cons h]
    simp only [List.length_cons] at hl ⊢
    have e : pos + (s.length - (r.length + 1)) + (r.length + 1 - (r.length + 1)) = pos + (s.length - (r.length + 1)) := by omega
    rw [e]

/-- How far a token goes: not less than one byte, not beyond the text. -/
theorem takeWhile_le {α : Type} (p : α → Bool) (l : List α) : (l.takeWhile p).length ≤ l.length := (List.takeWhile_sublist p).length_le
theorem strM_le : ∀ (s acc : List UInt8) (n : Nat) (t : List UInt8) (m : Nat), strM s acc n = .ok (t, m) → n + 1 ≤ m ∧ m ≤ n + s.length
  | [], acc, n, t, m, h => by cases h
  | [c], acc, n, t, m, h => by
    unfold strM at h
    split at h
    · split at h
      · cases h
      · cases h; simp
    · split at h
      · cases h
      · cases h
  | c :: d :: r, acc, n, t, m, h => by
    unfold strM at h
    split at h
    · split at h
      · cases h
      · cases h; simp
    · split at h
      · have := strM_le r _ _ _ _ h
        simp only [List.length_cons]; omega
      · have := strM_le (d :: r) _ _ _ _ h
        simp only [List.length_cons] at this ⊢; omega
theorem nameM_le {s t : List UInt8} (h : nameM s = .ok t) : t = s.takeWhile partB ∧ t.length ≤ s.length ∧ t ≠ [] ∧ goodM t = true := by
  unfold nameM at h
  split at h
  · cases h
  · split at h
    · rename_i hg
      cases h
      refine ⟨rfl, takeWhile_le _ _, ?_, hg⟩
      intro h0
      rw [h0] at hg
      cases hg
    · cases h
theorem wordM_le {s : List UInt8} {t : Tk} {m : Nat} (h : wordM s = .ok (t, m)) : 1 ≤ m ∧ m ≤ s.length := by
  have hl := takeWhile_le signB s
  unfold wordM at h
  split at h
  · cases h
  · rename_i h0
    have : 1 ≤ (s.takeWhile signB).length := by
      cases hh : s.takeWhile signB with
      | nil => exact absurd hh h0
      | cons => simp
    split at h
    · cases h; exact ⟨this, hl⟩
    · split at h
      · cases h
      · split at h
        · cases h
        · cases h; exact ⟨this, hl⟩
theorem isStar_iff {s : List UInt8} : isStar s = true ↔ ∃ r, s = 42 :: r := by
  cases s with
  | nil => simp [isStar]
  | cons c r => simp [isStar]
theorem oneM_le {s : List UInt8} {t : Tk} {m : Nat} (h : oneM s = .ok (t, m)) : 1 ≤ m ∧ m ≤ s.length := by
  cases s with
  | nil => cases h
  | cons c r =>
    rw [oneM_cons] at h
    split at h
    · cases h; simp
    split at h
    · cases h; simp
    split at h
    · cases h; simp
    split at h
    · split at h
      · cases h
      · rename_i t' ht
        cases h
        have := strM_le _ _ _ _ _ ht
        simp only [List.length_cons]
        omega
    split at h
    · unfold varM at h
      split at h
      · rename_i hs
        obtain ⟨r', rfl⟩ := isStar_iff.1 hs
        split at h
        · cases h
        · rename_i t' ht
          have := nameM_le ht
          split at h
          · rename_i h2
            obtain ⟨r2, h3⟩ := isStar_iff.1 h2
            have h4 := congrArg List.length h3
            simp only [List.drop_succ_cons, List.drop_zero, List.length_drop, List.length_cons] at h4
            cases h
            simp only [List.length_cons]
            omega
          · cases h
      · split at h
        · cases h
        · rename_i t' ht
          have := nameM_le ht
          cases h
          simp only [List.length_cons]
          omega
    · exact wordM_le h
end Go.Proofs.YtpohgiinajfepaaDoorPe.Lex
