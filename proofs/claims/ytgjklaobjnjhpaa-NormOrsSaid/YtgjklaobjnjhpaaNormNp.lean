/- A part of the proof of this folder's statement; it has no condition of its own. -/
import Derived.Test.YtgjklaobjnjhpaaNormNo
/- The law NormOrs: the text is read; its conditions made plain. -/
set_option linter.unusedVariables false
set_option linter.unusedSimpArgs false
set_option maxRecDepth 100000
namespace Go.Proofs.YtgjklaobjnjhpaaPe.Norm
open Go Go.Proofs Go.Proofs.YtgjklaobjnjhpaaPe Go.Proofs.YtgjklaobjnjhpaaPe.NormCode

def orT : List Nat → List UInt8
  | [] => []
  | k :: n => 40 :: 111 :: 114 :: (pS k ++ 41 :: orT n)
theorem orT_append : ∀ a b : List Nat, orT (a ++ b) = orT a ++ orT b
  | [], b => rfl
  | k :: a, b => by simp [orT, orT_append a b]
def Five (n : List Nat) : Prop := ∀ k ∈ n, 1 ≤ k ∧ k ≤ 5
theorem five_cases {k : Nat} (h : 1 ≤ k ∧ k ≤ 5) : k = 1 ∨ k = 2 ∨ k = 3 ∨ k = 4 ∨ k = 5 := by omega

/-! ### Scanned -/
def push (t : List Tok) : Except (Nat × Int) (List Tok) → Except (Nat × Int) (List Tok)
  | .error e => .error e
  | .ok m => .ok (t ++ m)
theorem push_push (a b : List Tok) (x : Except (Nat × Int) (List Tok)) : push a (push b x) = push (a ++ b) x := by
  cases x <;> simp [push]
theorem scanS1 {pos p q n : Nat} {s r r' : List UInt8} {c : UInt8} {t : Tk} (hs : skipM false s = c :: r) (h1 : oneM (c :: r) = .ok (t, n)) (hp : pos + (s.length - (r.length + 1)) = p) (hq : p + (n - 1 + 1) = q) (hd : r.drop (n - 1) = r') :
    scanM pos s = push [⟨t.k, p, t.i, t.s⟩] (scanM q r') := by
  rw [scanM_cons hs, h1]
  simp only
  rw [hp, hq, hd]
  cases scanM q r' <;> rfl
def tK (j p : Nat) : List Tok := [⟨4, p + 1, 0, []⟩, ⟨2, p + 2, 0, [112]⟩, ⟨4, p + 4, 0, []⟩, ⟨2, p + 5, 0, [97]⟩, ⟨1, p + 7, j, []⟩, ⟨5, p + 8, 0, []⟩, ⟨5, p + 9, 0, []⟩]
theorem one_dig {j : Nat} (h : j ≤ 9) (r : List UInt8) : oneM (UInt8.ofNat (48 + j) :: 41 :: r) = .ok (⟨1, j, []⟩, 1) := by
  have : j = 0 ∨ j = 1 ∨ j = 2 ∨ j = 3 ∨ j = 4 ∨ j = 5 ∨ j = 6 ∨ j = 7 ∨ j = 8 ∨ j = 9 := by omega
  rcases this with rfl | rfl | rfl | rfl | rfl | rfl | rfl | rfl | rfl | rfl <;> exact rfl
theorem skip_dig {j : Nat} (h : j ≤ 9) (r : List UInt8) : skipM false (32 :: UInt8.ofNat (48 + j) :: r) = UInt8.ofNat (48 + j) :: r := by
  have : j = 0 ∨ j = 1 ∨ j = 2 ∨ j = 3 ∨ j = 4 ∨ j = 5 ∨ j = 6 ∨ j = 7 ∨ j = 8 ∨ j = 9 := by omega
  rcases this with rfl | rfl | rfl | rfl | rfl | rfl | rfl | rfl | rfl | rfl <;> rfl
theorem scan_kid {j : Nat} (h : j ≤ 9) (p : Nat) (r : List UInt8) : scanM p (pK j ++ r) = push (tK j p) (scanM (p + 10) r) := by
  show scanM p (32 :: 40 :: 112 :: 32 :: 40 :: 97 :: 32 :: UInt8.ofNat (48 + j) :: 41 :: 41 :: r) = _
  rw [scanS1 (p := p + 1) (q := p + 2) (n := 1) (c := 40) (t := ⟨4, 0, []⟩) (r' := 112 :: 32 :: 40 :: 97 :: 32 :: UInt8.ofNat (48 + j) :: 41 :: 41 :: r) rfl rfl (by simp only [List.length_cons]; omega) (by omega) rfl]
  rw [scanS1 (p := p + 2) (q := p + 3) (n := 1) (c := 112) (t := ⟨2, 0, [112]⟩) (r' := 32 :: 40 :: 97 :: 32 :: UInt8.ofNat (48 + j) :: 41 :: 41 :: r) rfl (by kernel_rfl) (by simp only [List.length_cons]; omega) (by omega) rfl]
  rw [scanS1 (p := p + 4) (q := p + 5) (n := 1) (c := 40) (t := ⟨4, 0, []⟩) (r' := 97 :: 32 :: UInt8.ofNat (48 + j) :: 41 :: 41 :: r) rfl rfl (by simp only [List.length_cons]; omega) (by omega) rfl]
  rw [scanS1 (p := p + 5) (q := p + 6) (n := 1) (c := 97) (t := ⟨2, 0, [97]⟩) (r' := 32 :: UInt8.ofNat (48 + j) :: 41 :: 41 :: r) rfl (by kernel_rfl) (by simp only [List.length_cons]; omega) (by omega) rfl]
  rw [scanS1 (p := p + 7) (q := p + 8) (n := 1) (c := UInt8.ofNat (48 + j)) (t := ⟨1, j, []⟩) (r' := 41 :: 41 :: r) (skip_dig h _) (one_dig h _) (by simp only [List.length_cons]; omega) (by omega) rfl]
  rw [scanS1 (p := p + 8) (q := p + 9) (n := 1) (c := 41) (t := ⟨5, 0, []⟩) (r' := 41 :: r) rfl rfl (by simp only [List.length_cons]; omega) (by omega) rfl]
  rw [scanS1 (p := p + 9) (q := p + 10) (n := 1) (c := 41) (t := ⟨5, 0, []⟩) (r' := r) rfl rfl (by simp only [List.length_cons]; omega) (by omega) rfl]
  simp only [push_push]
  rfl
def tP : Nat → Nat → List Tok
  | 0, _ => []
  | k + 1, p => tP k p ++ tK k (p + 10 * k)
theorem scan_kids : ∀ {k : Nat} (h : k ≤ 9) (p : Nat) (r : List UInt8), scanM p (pS k ++ r) = push (tP k p) (scanM (p + 10 * k) r)
  | 0, _, p, r => by
    show scanM p r = push [] (scanM p r)
    cases scanM p r <;> rfl
  | k + 1, h, p, r => by
    rw [pS, List.append_assoc, scan_kids (by omega), scan_kid (by omega), push_push]
    rfl
theorem pS_head : ∀ {k : Nat}, 1 ≤ k → ∃ t, pS k = 32 :: t
  | 1, _ => ⟨_, rfl⟩
  | k + 2, _ => by
    obtain ⟨t, ht⟩ := pS_head (k := k + 1) (by omega)
    exact ⟨t ++ pK (k + 1), by rw [pS, ht]; rfl⟩
def tG (k p : Nat) : List Tok := ⟨4, p, 0, []⟩ :: ⟨2, p + 1, 0, [111, 114]⟩ :: (tP k (p + 3) ++ [⟨5, p + 3 + 10 * k, 0, []⟩])
theorem scan_group {k : Nat} (h : 1 ≤ k ∧ k ≤ 5) (p : Nat) (r : List UInt8) : scanM p (40 :: 111 :: 114 :: (pS k ++ 41 :: r)) = push (tG k p) (scanM (p + (4 + 10 * k)) r) := by
  obtain ⟨t, ht⟩ := pS_head h.1
  have hw : oneM (111 :: 114 :: (pS k ++ 41 :: r)) = .ok (⟨2, 0, [111, 114]⟩, 2) := by rw [ht]; kernel_rfl
  rw [scanS1 (p := p) (q := p + 1) (n := 1) (c := 40) (t := ⟨4, 0, []⟩) (r' := 111 :: 114 :: (pS k ++ 41 :: r)) rfl rfl (by simp only [List.length_cons]; omega) (by omega) rfl]
  rw [scanS1 (p := p + 1) (q := p + 3) (n := 2) (c := 111) (t := ⟨2, 0, [111, 114]⟩) (r' := pS k ++ 41 :: r) rfl hw (by simp only [List.length_cons]; omega) (by omega) rfl]
  rw [scan_kids (by omega)]
  rw [scanS1 (p := p + 3 + 10 * k) (q := p + (4 + 10 * k)) (n := 1) (c := 41) (t := ⟨5, 0, []⟩) (r' := r) rfl rfl (by simp only [List.length_cons]; omega) (by omega) rfl]
  simp only [push_push]
  simp [tG]
def tO : List Nat → Nat → List Tok
  | [], _ => []
  | k :: n, p => tG k p ++ tO n (p + (4 + 10 * k))
theorem scan_or : ∀ {n : List Nat} (h : Five n) (p : Nat), scanM p (orT n) = .ok (tO n p)
  | [], _, p => scanM_nil rfl
  | k :: n, h, p => by
    rw [orT, scan_group (h k (by simp)), scan_or (n := n) fun x hx => h x (by simp [hx])]
    rfl

/-! ### Read -/
def ndK (j p : Nat) : Nd := .mk 0 (p + 1 : Nat) 0 [] [.mk 2 (p + 2 : Nat) 0 [112] [], .mk 0 (p + 4 : Nat) 0 [] [.mk 2 (p + 5 : Nat) 0 [97] [], .mk 1 (p + 7 : Nat) j [] []]]
def nP : Nat → Nat → List Nd
  | 0, _ => []
  | k + 1, p => nP k p ++ [ndK k (p + 10 * k)]
theorem read_kid {f d j p n : Nat} {r : List Tok} (hd : d ≤ 20) (hn : n + 5 ≤ 4096) : nodeM (f + 7) d (tK j p ++ r) n = .ok (ndK j p, r, n + 5) := by
  have c0 : ¬ d ≥ 32 := by omega
  have c0' : ¬ d + 1 ≥ 32 := by omega
  have c1 : ¬ n + 1 > 4096 := by omega
  have c2 : ¬ n + 1 + 1 > 4096 := by omega
  have c3 : ¬ n + 1 + 1 + 1 > 4096 := by omega
  have c4 : ¬ n + 1 + 1 + 1 + 1 > 4096 := by omega
  have c5 : ¬ n + 1 + 1 + 1 + 1 + 1 > 4096 := by omega
  simp only [tK, List.cons_append, List.nil_append, nodeM, kidsM, if_neg c0, if_neg c0', if_neg c1, if_neg c2, if_neg c3, if_neg c4, if_neg c5, show ¬ ((4 : Int) = 5) by decide, show ¬ ((4 : Int) = 8) by decide, show ¬ ((2 : Int) = 5) by decide, show ¬ ((2 : Int) = 8) by decide, show ¬ ((2 : Int) = 4) by decide, show ¬ ((1 : Int) = 5) by decide, show ¬ ((1 : Int) = 8) by decide, show ¬ ((1 : Int) = 4) by decide, if_true, if_false]
  rfl
theorem read_kids : ∀ {k f d p pos n : Nat} {i : Int} {s : List UInt8} {r : List Tok} {acc : List Nd} (hf : 8 ≤ f) (hd : d ≤ 19) (hn : n + 5 * k ≤ 4096), kidsM (f + k) d pos i s (tP k p ++ r) n acc = kidsM f d pos i s r (n + 5 * k) (acc ++ nP k p)
  | 0, f, d, p, pos, n, i, s, r, acc, hf, hd, hn => by simp [tP, nP]
  | k + 1, f, d, p, pos, n, i, s, r, acc, hf, hd, hn => by
    rw [tP, List.append_assoc, show f + (k + 1) = (f + 1) + k by omega, read_kids (by omega) hd (by omega)]
    obtain ⟨g, rfl⟩ : ∃ g, f = g + 7 := ⟨f - 7, by omega⟩
    have hk := read_kid (f := g) (d := d + 1) (j := k) (p := p + 10 * k) (n := n + 5 * k) (r := r) (by omega) (by omega)
    have hh : tK k (p + 10 * k) ++ r = ⟨4, p + 10 * k + 1, 0, []⟩ :: ((tK k (p + 10 * k)).tail ++ r) := rfl
    rw [hh] at hk ⊢
    rw [kidsM]
    simp only [hk, show ¬ ((4 : Int) = 5) by decide, if_false]
    rw [nP, List.append_assoc, show n + 5 * k + 5 = n + 5 * (k + 1) by omega]
def ndG (k p : Nat) : Nd := .mk 0 (p : Nat) 0 [] (.mk 2 (p + 1 : Nat) 0 [111, 114] [] :: nP k (p + 3))
theorem node_word {f d n p : Nat} {i : Int} {w : List UInt8} {ts : List Tok} (hn : n + 1 ≤ 4096) : nodeM (f + 1) d (⟨2, p, i, w⟩ :: ts) n = .ok (.mk 2 (p : Nat) i w [], ts, n + 1) := by
  have c1 : ¬ n + 1 > 4096 := by omega
  cases ts <;> simp only [nodeM, if_neg c1, show ¬ ((2 : Int) = 5) by decide, show ¬ ((2 : Int) = 8) by decide, show ¬ ((2 : Int) = 4) by decide, if_false]
theorem read_group {k p n : Nat} {f : Nat} {r : List Tok} (hn : n + (2 + 5 * k) ≤ 4096) : nodeM (f + k + 11) 0 (tG k p ++ r) n = .ok (ndG k p, r, n + (2 + 5 * k)) := by
  have c1 : ¬ n + 1 > 4096 := by omega
  have hk := read_kids (k := k) (f := f + 8 + 1) (d := 0) (p := p + 3) (pos := p) (n := n + 1 + 1) (i := 0) (s := []) (r := ⟨5, p + 3 + 10 * k, 0, []⟩ :: r) (acc := [.mk 2 (p + 1 : Nat) 0 [111, 114] []]) (by omega) (by omega) (by omega)
  rw [show f + 8 + 1 + k = f + k + 9 by omega] at hk
  rw [kidsM] at hk
  simp only [if_true] at hk
  have hw := node_word (f := f + k + 8) (d := 0 + 1) (n := n + 1) (p := p + 1) (i := 0) (w := [111, 114]) (ts := tP k (p + 3) ++ ⟨5, p + 3 + 10 * k, 0, []⟩ :: r) (by omega)
  have hh : tG k p ++ r = ⟨4, p, 0, []⟩ :: ⟨2, p + 1, 0, [111, 114]⟩ :: (tP k (p + 3) ++ ⟨5, p + 3 + 10 * k, 0, []⟩ :: r) := by simp [tG]
  rw [hh, nodeM]
  simp only [if_neg c1, show ¬ ((4 : Int) = 5) by decide, show ¬ ((4 : Int) = 8) by decide, show ¬ (0 ≥ 32) by decide, if_true, if_false]
  rw [kidsM]
  simp only [hw, show ¬ ((2 : Int) = 5) by decide, if_false, List.nil_append]
  rw [hk, show n + 1 + 1 + 5 * k = n + (2 + 5 * k) by omega]
  rfl
def nO : List Nat → Nat → List Nd
  | [], _ => []
  | k :: n, p => ndG k p :: nO n (p + (4 + 10 * k))
theorem tP_len : ∀ k p, (tP k p).length = 7 * k
  | 0, _ => rfl
  | k + 1, p => by rw [tP, List.length_append, tP_len k p]; show 7 * k + 7 = _; omega
theorem read_or : ∀ {n : List Nat} (h : Five n) {f p c : Nat} {acc : List Nd} (hf : n.length < f) (hc : c + 27 * n.length ≤ 4096), readT f (tO n p) c acc = .ok (acc ++ nO n p)
  | [], _, f + 1, p, c, acc, hf, hc => by simp [readT, tO, nO]
  | k :: n, h, f + 1, p, c, acc, hf, hc => by
    have h5 := h k (by simp)
    rw [List.length_cons] at hf hc
    have hg : ∃ g, 2 * (tG k p ++ tO n (p + (4 + 10 * k))).length = g + k + 11 := ⟨2 * (tG k p ++ tO n (p + (4 + 10 * k))).length - k - 11, by rw [tG]; simp only [List.length_append, List.length_cons, tP_len, List.length_nil]; omega⟩
    obtain ⟨g, hg⟩ := hg
    have hr := read_group (k := k) (p := p) (n := c) (f := g) (r := tO n (p + (4 + 10 * k))) (by omega)
    rw [← hg] at hr
    rw [tO]
    have hh : tG k p ++ tO n (p + (4 + 10 * k)) = ⟨4, p, 0, []⟩ :: ((tG k p).tail ++ tO n (p + (4 + 10 * k))) := rfl
    rw [hh] at hr ⊢
    rw [readT]
    simp only [hr]
    rw [read_or (fun x hx => h x (by simp [hx])) (by omega) (by omega), nO]
    simp
  | k :: n, h, 0, p, c, acc, hf, hc => by omega
  | [], _, 0, _, _, _, hf, _ => by simp at hf

/-! ### Conditions -/
def orC (k : Nat) : Ce := match condM 20 twoL fun1 (ndG k 0) with
  | .ok c => c
  | .error _ => default
theorem cond_group {k : Nat} (h : 1 ≤ k ∧ k ≤ 5) (f p : Nat) : condM (f + 10) twoL fun1 (ndG k p) = .ok (orC k) := by
  rcases five_cases h with rfl | rfl | rfl | rfl | rfl <;> kernel_rfl
theorem szs_nP : ∀ k p, Nd.szs (nP k p) = 5 * k
  | 0, _ => by simp [nP, Nd.szs]
  | k + 1, p => by
    have ha : ∀ a b : List Nd, Nd.szs (a ++ b) = Nd.szs a + Nd.szs b := by
      intro a b
      induction a with
      | nil => simp [Nd.szs]
      | cons x a ih => simp only [List.cons_append, Nd.szs, ih]; omega
    rw [nP, ha, szs_nP k p]
    simp only [ndK, Nd.szs, Nd.sz]
    omega
theorem sz_ndG (k p : Nat) : (ndG k p).sz = 2 + 5 * k := by
  simp only [ndG, Nd.sz, Nd.szs, szs_nP]
  omega
theorem conds_or : ∀ {n : List Nat} (h : Five n) {f p : Nat} {acc : List Ce} (hf : 2 * Nd.szs (nO n p) + 1 ≤ f), condsM f twoL fun1 (nO n p) acc = .ok (acc ++ n.map orC)
  | [], _, f + 1, p, acc, hf => by simp [condsM, nO]
  | k :: n, h, f + 1, p, acc, hf => by
    have h5 := h k (by simp)
    rw [nO, Nd.szs, sz_ndG] at hf
    obtain ⟨g, rfl⟩ : ∃ g, f = g + 10 := ⟨f - 10, by omega⟩
    rw [nO]
    unfold condsM
    simp only [cond_group h5, show ¬ ((ndG k p).k = 6) from by show ¬ ((0 : Int) = 6); decide, if_false]
    rw [conds_or (fun x hx => h x (by simp [hx])) (by omega)]
    simp
  | _ :: _, _, 0, _, _, hf => by omega
  | [], _, 0, _, _, hf => by omega
theorem orT_len : ∀ {n : List Nat} (h : Five n), (orT n).length ≤ 54 * n.length
  | [], _ => by simp [orT]
  | k :: n, h => by
    have h5 := h k (by simp)
    have := orT_len (n := n) fun x hx => h x (by simp [hx])
    simp only [orT, List.length_cons, List.length_append, pS_len]
    omega
theorem tO_len : ∀ (n : List Nat) (p : Nat), n.length ≤ (tO n p).length
  | [], _ => Nat.le_refl _
  | k :: n, p => by
    have := tO_len n (p + (4 + 10 * k))
    simp only [tO, tG, List.length_append, List.length_cons]
    omega
theorem conds_text {n : List Nat} (h : Five n) (hl : n.length ≤ 6) : condsB (orT n) = some (n.map orC) := by
  have h1 := orT_len h
  unfold condsB readM scanL readL
  rw [if_neg (by omega), if_neg (by omega), scan_or h]
  simp only
  rw [read_or h (by have := tO_len n 0; omega) (by omega)]
  simp only [List.nil_append]
  rw [conds_or h (Nat.le_refl _)]
  rfl

/-! ### Made plain -/
def rowsK (k : Nat) : List Rw := match oneN 20 (orC k) with
  | .ok r => r
  | .error _ => []
theorem one_or {k : Nat} (h : 1 ≤ k ∧ k ≤ 5) (f : Nat) : oneN (f + 3 * k + 3) (orC k) = .ok (rowsK k) := by
  rcases five_cases h with rfl | rfl | rfl | rfl | rfl <;> kernel_rfl
theorem sz_orC {k : Nat} (h : 1 ≤ k ∧ k ≤ 5) : (orC k).sz = k + 1 ∧ (orC k).k = 5 ∧ Ce.logL (orC k).kids = false := by
  rcases five_cases h with rfl | rfl | rfl | rfl | rfl <;> exact ⟨by kernel_rfl, by kernel_rfl, by kernel_rfl⟩
def goJ : List Nat → List Rw → Ei (List Rw)
  | [], out => .ok out
  | k :: n, out => match joinM (rowsK k) out [] with
    | .error e => .error e
    | .ok o => goJ n o
theorem and_or : ∀ {n : List Nat} (h : Five n) {f : Nat} {out : List Rw} (hf : 3 * Ce.szs (n.map orC) + 1 ≤ f), andN f (n.map orC) out = goJ n out
  | [], _, f + 1, out, hf => by simp [andN, goJ]
  | k :: n, h, f + 1, out, hf => by
    have h5 := h k (by simp)
    rw [List.map_cons, Ce.szs, (sz_orC h5).1] at hf
    obtain ⟨g, rfl⟩ : ∃ g, f = g + 3 * k + 3 := ⟨f - (3 * k + 3), by omega⟩
    rw [List.map_cons, andN, goJ]
    simp only [one_or h5]
    cases joinM (rowsK k) out [] with
    | error e => rfl
    | ok o => exact and_or (fun x hx => h x (by simp [hx])) (by omega)
  | _ :: _, _, 0, _, hf => by omega
  | [], _, 0, _, hf => by omega
theorem bad_or : ∀ {n : List Nat} (h : Five n) (i : Nat), badN i (n.map orC) = false
  | [], _, _ => rfl
  | k :: n, h, i => by
    obtain ⟨_, h2, h3⟩ := sz_orC (h k (by simp))
    rw [List.map_cons, badN, h2, h3, bad_or (n := n) (fun x hx => h x (by simp [hx])) (i + 1)]
    simp
theorem norm_or {n : List Nat} (h : Five n) : normM (n.map orC) = match goJ n [[]] with
    | .error e => .error e
    | .ok b => altsM b [[]] [] := by
  have hh : headN (n.map orC) = 0 := by
    cases n with
    | nil => rfl
    | cons k n =>
      obtain ⟨_, h2, _⟩ := sz_orC (h k (by simp))
      show (if (orC k).k = 8 then 1 else 0) = 0
      rw [h2]
      rfl
  unfold normM
  rw [bad_or h, hh, List.take_zero, List.drop_zero]
  have e1 : andF [] = .ok [[]] := rfl
  have e2 : andF (n.map orC) = goJ n [[]] := and_or h (Nat.le_refl _)
  rw [e1, e2]
  simp only [Bool.false_eq_true, if_false]
  cases goJ n [[]] <;> rfl
end Go.Proofs.YtgjklaobjnjhpaaPe.Norm

