/- A part of the proof of this folder's statement; it has no condition of its own. -/
import Derived.Test.YtgjklaobjnjhpaaNormNn
/- The law NormNots. -/
set_option linter.unusedVariables false
set_option linter.unusedSimpArgs false
set_option maxRecDepth 100000
namespace Go.Proofs.YtgjklaobjnjhpaaPe.Norm
open Go Go.Proofs Go.Proofs.YtgjklaobjnjhpaaPe Go.Proofs.YtgjklaobjnjhpaaPe.NormCode

def pK (j : Nat) : List UInt8 := [32, 40, 112, 32, 40, 97, 32, UInt8.ofNat (48 + j), 41, 41]
def pS : Nat → List UInt8
  | 0 => []
  | n + 1 => pS n ++ pK n
theorem pS_len : ∀ n, (pS n).length = n * 10
  | 0 => rfl
  | n + 1 => by rw [pS, List.length_append, pS_len n]; show n * 10 + 10 = _; omega
def notA (m : Nat) : List UInt8 := 40 :: 110 :: 111 :: 116 :: 32 :: 40 :: 111 :: 114 :: (pS m ++ [41, 41])
def notB (m : Nat) : List UInt8 := 40 :: 101 :: 120 :: 105 :: 115 :: 116 :: 115 :: 32 :: 40 :: 111 :: 114 :: (pS m ++ [41, 41])
def notOne (i : Nat) (c d : Ce) : Bool := decide (c.k = 3) && decide (d.k = 3) && (match c.kids with
  | [e] => match e.pt.l with
    | t :: _ => decide (t.v.i = (i : Int))
    | [] => false
  | _ => false)
def notAll : Nat → List Ce → List Ce → Bool
  | _, [], [] => true
  | i, c :: l, d :: m => notOne i c d && notAll (i + 1) l m
  | _, _, _ => false
theorem notAll_at : ∀ {i : Nat} {l m : List Ce} (h : notAll i l m = true) {j : Nat} (hj : j < l.length) (hm : j < m.length), notOne (i + j) l[j] m[j] = true
  | _, [], [], _, _, hj, _ => by simp at hj
  | i, c :: l, d :: m, h, 0, _, _ => by
    rw [notAll, Bool.and_eq_true] at h
    exact h.1
  | i, c :: l, d :: m, h, j + 1, hj, hm => by
    rw [notAll, Bool.and_eq_true] at h
    have := notAll_at h.2 (j := j) (by simpa using hj) (by simpa using hm)
    rw [show i + (j + 1) = i + 1 + j by omega]
    simpa using this
  | _, [], d :: m, h, _, _, _ => by simp [notAll] at h
  | _, c :: l, [], h, _, _, _ => by simp [notAll] at h
def notChk (m : Nat) : Bool := match norm1K (notA m), norm1K (notB m) with
  | some [a], some [b] => match b.lits with
    | [x] => decide (a.lits.length = m) && decide (x.kids.length = m) && notAll 0 a.lits x.kids
    | _ => false
  | _, _ => false
theorem notChk_ok : ((List.range 8).all fun m => notChk (m + 1)) = true := by kernel_rfl
theorem not_facts {m : Nat} (h0 : 1 ≤ m) (h : m ≤ 8) : ∃ a b x, norm1K (notA m) = some [a] ∧ norm1K (notB m) = some [b] ∧ b.lits = [x] ∧ a.lits.length = m ∧ x.kids.length = m ∧ notAll 0 a.lits x.kids = true := by
  have hc := List.all_eq_true.1 notChk_ok (m - 1) (List.mem_range.2 (by omega))
  rw [show m - 1 + 1 = m by omega] at hc
  unfold notChk at hc
  split at hc
  · rename_i a b ha hb
    split at hc
    · rename_i x hx
      simp only [Bool.and_eq_true, decide_eq_true_eq] at hc
      exact ⟨a, b, x, ha, hb, hx, hc.1.1, hc.1.2, hc.2⟩
    · cases hc
  · cases hc
theorem notOne_of {i : Nat} {c d : Ce} (h : notOne i c d = true) : c.k = 3 ∧ d.k = 3 ∧ ∃ e t ts, c.kids = [e] ∧ e.pt.l = t :: ts ∧ t.v.i = (i : Int) := by
  unfold notOne at h
  simp only [Bool.and_eq_true, decide_eq_true_eq] at h
  obtain ⟨⟨h1, h2⟩, h3⟩ := h
  refine ⟨h1, h2, ?_⟩
  split at h3
  · rename_i e he
    split at h3
    · rename_i t ts ht
      exact ⟨e, t, ts, he, ht, by simpa using h3⟩
    · cases h3
  · cases h3
theorem u8_48 {i : Nat} (h : i ≤ 10) : IntKind.u8.wrap (IntKind.i64.wrap (48 + (i : Int))) = ((48 + i : Nat) : Int) := by
  rw [IntKind.wrap_i64]
  have : i = 0 ∨ i = 1 ∨ i = 2 ∨ i = 3 ∨ i = 4 ∨ i = 5 ∨ i = 6 ∨ i = 7 ∨ i = 8 ∨ i = 9 ∨ i = 10 := by omega
  rcases this with rfl | rfl | rfl | rfl | rfl | rfl | rfl | rfl | rfl | rfl | rfl <;> decide

theorem nots_law (n : Int) (hn : 0 ≤ n ∧ n < 256) : ∃ st, callE efns given f_law13_NormNots [.int .u8 n] ⟨[], [], [], []⟩ = some (.bool true, st) := by
  have hk := known_t
  obtain ⟨m, hm1, hm2, hm⟩ : ∃ m : Nat, 1 ≤ m ∧ m ≤ 8 ∧ IntKind.i64.wrap (1 + IntKind.i64.wrap (n.tmod 8)) = (m : Int) := by
    refine ⟨(1 + n.tmod 8).toNat, ?_, ?_, ?_⟩
    · rw [Int.tmod_eq_emod_of_nonneg hn.1]; omega
    · rw [Int.tmod_eq_emod_of_nonneg hn.1]; omega
    · rw [Int.tmod_eq_emod_of_nonneg hn.1, IntKind.wrap_i64, IntKind.wrap_i64]; omega
  obtain ⟨a, b, x, ha, hb, hx, hl, hl2, hall⟩ := not_facts hm1 hm2
  have hlen := pS_len m
  have hn1 := norm1_t (notA m)
  have hn2 := norm1_t (notB m)
  rw [← norm1K_eq] at hn1 hn2
  rw [ha] at hn1
  rw [hb] at hn2
  simp only [n1V, List.map_cons, List.map_nil, notA, notB] at hn1 hn2
  have at0 : evIdx 2 [Al.p a] 0 = some (.ref [.lst (a.lits.map Ce.p), .int .i64 (a.logic : Int)]) := n1_at (l := [a]) (n := 0) (by simp)
  have at1 : evIdx 2 [Al.p b] 0 = some (.ref [.lst [x.p], .int .i64 (b.logic : Int)]) := by
    have := n1_at (l := [b]) (n := 0) (by simp)
    simpa [hx] using this
  have atx : evIdx 11 [x.p] 0 = some (.ref x.cells) := by
    have := Ce.at_ (l := [x]) (n := 0) (by simp)
    simpa using this
  have e1 : ((a.lits.length : Int) = (m : Int)) = True := eq_true (by omega)
  have e2 : ((x.kids.length : Int) = (m : Int)) = True := eq_true (by omega)
  have key : Good (fun v _ => v = .bool true) (callE efns given f_law13_NormNots [.int .u8 n] ⟨[], [], [], []⟩) := by
    rw [callE_fn efns given (c := e_law13_NormNots) rfl rfl]
    simp only [e_law13_NormNots, go_sem, hk, hm, show ((8 : Int) = 0) = False from by simp]
    refine Good.for m (fun i fr st => fr = [.undef, .int .i64 (m : Int), .str (pS i), .int .i64 (i : Int)] ++ List.replicate 10 .undef ∧ st = ⟨[], [], [], []⟩) ?_ ?_ ?_
    · rintro i fr st hi ⟨rfl, rfl⟩ k hk'
      have c1 : ((i : Int) < (m : Int)) = True := eq_true (by omega)
      have hl2 := pS_len i
      have c2 : ((pS i).length + 7 ≤ 4611686018427387904) = True := eq_true (by omega)
      have c3 : ((pS i).length + 7 + 1 ≤ 4611686018427387904) = True := eq_true (by omega)
      have c4 : ((pS i).length + 7 + 1 + 2 ≤ 4611686018427387904) = True := eq_true (by omega)
      have c5 : ((pS i).length + 8 + 2 ≤ 4611686018427387904) = True := eq_true (by omega)
      simp only [List.replicate, List.cons_append, List.nil_append, b_law13_NormNots_0, go_sem, c1, c2, c3, c4, c5, u8_48 (i := i) (by omega), wrapN (n := i) (by omega)]
      rw [Int.toNat_natCast]
      exact hk' _ _ ⟨rfl, rfl⟩
    · rintro fr st ⟨rfl, rfl⟩ k
      have c2 : (8 + (pS m).length ≤ 4611686018427387904) = True := eq_true (by omega)
      have c3 : (8 + (pS m).length + 2 ≤ 4611686018427387904) = True := eq_true (by omega)
      have c4 : (11 + (pS m).length ≤ 4611686018427387904) = True := eq_true (by omega)
      have c5 : (11 + (pS m).length + 2 ≤ 4611686018427387904) = True := eq_true (by omega)
      have c6 : ((pS m).length ≤ 4611686018427387896) = True := eq_true (by omega)
      have c7 : ((pS m).length ≤ 4611686018427387894) = True := eq_true (by omega)
      have c8 : ((pS m).length ≤ 4611686018427387893) = True := eq_true (by omega)
      have c9 : ((pS m).length ≤ 4611686018427387891) = True := eq_true (by omega)
      simp only [List.replicate, List.cons_append, List.nil_append, List.length_cons, List.length_nil, List.length_map, b_law13_NormNots_0, go_sem, Int.lt_irrefl, c2, c3, c4, c5, c6, c7, c8, c9, hn1, hn2, at0, at1, atx, e1, e2, Ce.cells, ne_eq, not_true_eq_false]
      refine Good.for m (fun i fr st => fr = [.undef, .int .i64 (m : Int), .undef, .undef, .lst [a.p], .lst [b.p], .undef, .int .i64 (i : Int)] ++ List.replicate 6 .undef ∧ ∃ bs bt, st = ⟨bs, [], bt, []⟩) ?_ ?_ ?_
      · rintro i fr st hi ⟨rfl, bs, bt, rfl⟩ k hk'
        have c1 : ((i : Int) < (m : Int)) = True := eq_true (by omega)
        have ho := notAll_at hall (j := i) (by omega) (by omega)
        have ac := Ce.at_ (l := a.lits) (n := i) (by omega)
        have ad := Ce.at_ (l := x.kids) (n := i) (by omega)
        rw [Nat.zero_add] at ho
        revert ho ac ad
        generalize a.lits[i] = c
        generalize x.kids[i] = d
        intro ho ac ad
        obtain ⟨h1, h2, e, t, ts, h3, h4, h5⟩ := notOne_of ho
        have ae : evIdx 11 [e.p] 0 = some (.ref e.cells) := by
          have := Ce.at_ (l := [e]) (n := 0) (by simp)
          simpa using this
        have at' : evIdx 6 (t.p :: ts.map Ts.p) 0 = some (.ref t.cells) := by
          have := Ts.at_ (l := t :: ts) (n := 0) (by simp)
          simpa using this
        have d1 : (c.k = 3) = True := eq_true h1
        have d2 : (d.k = 3) = True := eq_true h2
        have d3 : (t.v.i = (i : Int)) = True := eq_true h5
        simp only [Ce.cells] at ac ad ae
        rw [h3] at ac
        rw [h4] at ae
        simp only [List.map_cons, List.map_nil] at ac ae
        simp only [Ts.cells] at at'
        simp only [List.replicate, List.cons_append, List.nil_append, b_law13_NormNots_1, go_sem, c1, at0, at1, atx, Ce.cells, ac, ad, ae, at', d1, d2, d3, ne_eq, not_true_eq_false, wrapN (n := i) (by omega)]
        exact hk' _ _ ⟨rfl, _, _, rfl⟩
      · rintro fr st ⟨rfl, bs, bt, rfl⟩ k
        simp only [List.replicate, List.cons_append, List.nil_append, b_law13_NormNots_1, go_sem, Int.lt_irrefl]
        exact Good.done rfl
      · exact ⟨rfl, _, _, rfl⟩
    · exact ⟨rfl, rfl⟩
  obtain ⟨v, st, h, rfl⟩ := key
  exact ⟨st, h⟩
end Go.Proofs.YtgjklaobjnjhpaaPe.Norm

