/- A part of the proof of this folder's statement; it has no condition of its own. -/
import Derived.Test.YtgjklaobjnjhpaaNormNp
/- The law NormOrs: every product is so. -/
set_option linter.unusedVariables false
set_option linter.unusedSimpArgs false
set_option maxRecDepth 100000
namespace Go.Proofs.YtgjklaobjnjhpaaPe.Norm
open Go Go.Proofs Go.Proofs.YtgjklaobjnjhpaaPe Go.Proofs.YtgjklaobjnjhpaaPe.NormCode

def prodL : List Nat → Nat
  | [] => 1
  | k :: n => k * prodL n
theorem prodL_append : ∀ a b : List Nat, prodL (a ++ b) = prodL a * prodL b
  | [], b => by simp [prodL]
  | k :: a, b => by simp [prodL, prodL_append a b, Nat.mul_assoc]
theorem prodL_pos : ∀ {n : List Nat}, Five n → 1 ≤ prodL n
  | [], _ => Nat.le_refl _
  | k :: n, h => by
    have h1 := (h k (by simp)).1
    have h2 := prodL_pos (n := n) fun x hx => h x (by simp [hx])
    exact Nat.mul_pos h1 h2
/-- What is left of a number behind the last s digits. -/
def orXs (n : List Nat) (i : Nat) : Nat → Nat
  | 0 => i
  | s + 1 => orXs n i s / (n.getD (n.length - 1 - s) 1)
def oneT (c : Ce) (v : Nat) : Bool := match c.pt.l with
  | [t] => decide (t.v.i = (v : Int))
  | _ => false
def orDig (n : List Nat) (l : List Ce) (i s : Nat) : Bool := match l[n.length - 1 - s]? with
  | some c => oneT c (orXs n i s % (n.getD (n.length - 1 - s) 1))
  | none => false
def orRow (n : List Nat) (l : List Ce) (i : Nat) : Bool := decide (l.length = n.length) && (List.range n.length).all (orDig n l i)
def orRows (n : List Nat) : Nat → List Al → Bool
  | _, [] => true
  | i, a :: l => orRow n a.lits i && orRows n (i + 1) l
theorem orRows_at {n : List Nat} : ∀ {l : List Al} {i j : Nat} (h : orRows n i l = true) (hj : j < l.length), orRow n l[j].lits (i + j) = true
  | a :: l, i, 0, h, _ => by
    rw [orRows, Bool.and_eq_true] at h
    exact h.1
  | a :: l, i, j + 1, h, hj => by
    rw [orRows, Bool.and_eq_true] at h
    have := orRows_at h.2 (j := j) (by simpa using hj)
    rw [show i + (j + 1) = i + 1 + j by omega]
    simpa using this
def leafOK (n : List Nat) (out : List Rw) : Bool := match altsM out [[]] [] with
  | .error _ => false
  | .ok l => decide (prodL n ≤ 16) && decide (l.length = prodL n) && orRows n 0 l
def chkT : Nat → List Nat → List Rw → Bool
  | 0, n, out => leafOK n out
  | d + 1, n, out => leafOK n out && [1, 2, 3, 4, 5].all fun k => match joinM (rowsK k) out [] with
    | .error e => decide (e = 4) && decide (16 < prodL (n ++ [k]))
    | .ok o => chkT d (n ++ [k]) o
theorem chk_ok : chkT 6 [] [[]] = true := by kernel_rfl
theorem chk_leaf : ∀ {d : Nat} {n : List Nat} {out : List Rw}, chkT d n out = true → leafOK n out = true
  | 0, n, out, h => h
  | d + 1, n, out, h => by
    rw [chkT, Bool.and_eq_true] at h
    exact h.1
theorem chk_go : ∀ {m : List Nat} (hm : Five m) {d : Nat} {n : List Nat} {out : List Rw} (hd : m.length ≤ d) (h : chkT d n out = true), match goJ m out with
    | .error e => e = 4 ∧ 16 < prodL (n ++ m)
    | .ok o => leafOK (n ++ m) o = true
  | [], _, d, n, out, _, h => by
    rw [goJ, List.append_nil]
    exact chk_leaf h
  | k :: m, hm, 0, n, out, hd, h => by simp at hd
  | k :: m, hm, d + 1, n, out, hd, h => by
    rw [chkT, Bool.and_eq_true] at h
    have hk := hm k (by simp)
    have h2 := List.all_eq_true.1 h.2 k (by
      rcases five_cases hk with rfl | rfl | rfl | rfl | rfl <;> simp)
    rw [goJ]
    cases hj : joinM (rowsK k) out [] with
    | error e =>
      rw [hj] at h2
      simp only [Bool.and_eq_true, decide_eq_true_eq] at h2
      have hp := prodL_pos (n := m) fun x hx => hm x (by simp [hx])
      refine ⟨h2.1, ?_⟩
      have e1 : n ++ k :: m = (n ++ [k]) ++ m := by simp
      rw [e1, prodL_append]
      exact Nat.lt_of_lt_of_le h2.2 (Nat.le_mul_of_pos_right _ hp)
    | ok o =>
      rw [hj] at h2
      have := chk_go (m := m) (fun x hx => hm x (by simp [hx])) (by simpa using hd) h2
      rw [List.append_assoc, List.singleton_append] at this
      exact this
/-- What the conditions of an or upon or are, made plain. -/
theorem or_facts {n : List Nat} (h : Five n) (hl : n.length ≤ 6) : (16 < prodL n ∧ normM (n.map orC) = .error 4) ∨ (prodL n ≤ 16 ∧ ∃ l, normM (n.map orC) = .ok l ∧ l.length = prodL n ∧ orRows n 0 l = true) := by
  have hg := chk_go h hl chk_ok
  rw [norm_or h]
  rw [List.nil_append] at hg
  cases hj : goJ n [[]] with
  | error e =>
    rw [hj] at hg
    simp only at hg
    rw [hg.1]
    exact .inl ⟨hg.2, rfl⟩
  | ok o =>
    rw [hj] at hg
    simp only at hg ⊢
    unfold leafOK at hg
    cases ha : altsM o [[]] [] with
    | error e => rw [ha] at hg; cases hg
    | ok l =>
      rw [ha] at hg
      simp only [Bool.and_eq_true, decide_eq_true_eq] at hg
      exact .inr ⟨hg.1.1, l, rfl, hg.1.2, hg.2⟩
theorem oneT_of {c : Ce} {v : Nat} (h : oneT c v = true) : ∃ t, c.pt.l = [t] ∧ t.v.i = (v : Int) := by
  unfold oneT at h
  split at h
  · rename_i t ht
    exact ⟨t, ht, by simpa using h⟩
  · cases h
theorem orDig_of {n : List Nat} {l : List Ce} {i s : Nat} (hs : s < n.length) (h : orRow n l i = true) : l.length = n.length ∧ ∃ (hj : n.length - 1 - s < l.length) (t : Ts), l[n.length - 1 - s].pt.l = [t] ∧ t.v.i = ((orXs n i s % (n.getD (n.length - 1 - s) 1) : Nat) : Int) := by
  unfold orRow at h
  simp only [Bool.and_eq_true, decide_eq_true_eq] at h
  have hj : n.length - 1 - s < l.length := by omega
  have h2 := List.all_eq_true.1 h.2 s (List.mem_range.2 hs)
  unfold orDig at h2
  rw [List.getElem?_eq_getElem hj] at h2
  exact ⟨h.1, hj, oneT_of h2⟩
end Go.Proofs.YtgjklaobjnjhpaaPe.Norm

