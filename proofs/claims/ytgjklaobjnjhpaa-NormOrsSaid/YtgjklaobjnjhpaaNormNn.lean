/- A part of the proof of this folder's statement; it has no condition of its own. -/
import Derived.Test.YtgjklaobjnjhpaaNormNk
/- The law NormLogics. -/
set_option linter.unusedVariables false
set_option linter.unusedSimpArgs false
set_option maxRecDepth 100000
namespace Go.Proofs.YtgjklaobjnjhpaaPe.Norm
open Go Go.Proofs Go.Proofs.YtgjklaobjnjhpaaPe Go.Proofs.YtgjklaobjnjhpaaPe.NormCode

def repB (b w : List UInt8) : Nat → List UInt8
  | 0 => b
  | n + 1 => repB b w n ++ w
theorem repB_len (b w : List UInt8) : ∀ n, (repB b w n).length = b.length + n * w.length
  | 0 => by simp [repB]
  | n + 1 => by rw [repB, List.length_append, repB_len b w n, Nat.succ_mul]; omega

/-! ### NormLogics -/
def lgS (m : Nat) : List UInt8 := repB [40, 108, 111, 103, 105, 99, 97, 108] [32, 40, 112, 41] m
def lgT (k : Nat) : List UInt8 := repB [] [32, 40, 113, 41] k
def logChk (m k : Nat) : Bool := (match norm1K (lgS m ++ 41 :: lgT k) with
  | some [a] => decide (a.logic = m) && decide (a.lits.length = m + k)
  | _ => false) && (norm1K (40 :: 113 :: 41 :: (lgS m ++ [41]))).isNone && (norm1K (40 :: 110 :: 111 :: 116 :: 32 :: (lgS m ++ [41, 41]))).isNone
theorem logChk_ok : ((List.range 6).all fun m => (List.range 6).all fun k => logChk (m + 1) k) = true := by kernel_rfl
theorem log_chk {m k : Nat} (h0 : 1 ≤ m) (h : m ≤ 6) (hk : k < 6) : logChk m k = true := by
  have := List.all_eq_true.1 (List.all_eq_true.1 logChk_ok (m - 1) (List.mem_range.2 (by omega))) k (List.mem_range.2 hk)
  rw [show m - 1 + 1 = m by omega] at this
  exact this
theorem logics_law (n r : Int) (hn : 0 ≤ n ∧ n < 256) (hr : 0 ≤ r ∧ r < 256) : ∃ st, callE efns given f_law13_NormLogics [.int .u8 n, .int .u8 r] ⟨[], [], [], []⟩ = some (.bool true, st) := by
  have hk := known_t
  obtain ⟨m, hm1, hm2, hm⟩ : ∃ m : Nat, 1 ≤ m ∧ m ≤ 6 ∧ IntKind.i64.wrap (1 + IntKind.i64.wrap (n.tmod 6)) = (m : Int) := by
    refine ⟨(1 + n.tmod 6).toNat, ?_, ?_, ?_⟩
    · rw [Int.tmod_eq_emod_of_nonneg hn.1]; omega
    · rw [Int.tmod_eq_emod_of_nonneg hn.1]; omega
    · rw [Int.tmod_eq_emod_of_nonneg hn.1, IntKind.wrap_i64, IntKind.wrap_i64]; omega
  obtain ⟨j, hj1, hj⟩ : ∃ j : Nat, j < 6 ∧ IntKind.i64.wrap (r.tmod 6) = (j : Int) := by
    refine ⟨(r.tmod 6).toNat, ?_, ?_⟩
    · rw [Int.tmod_eq_emod_of_nonneg hr.1]; omega
    · rw [Int.tmod_eq_emod_of_nonneg hr.1, IntKind.wrap_i64]; omega
  have hc := log_chk hm1 hm2 hj1
  unfold logChk at hc
  simp only [Bool.and_eq_true] at hc
  obtain ⟨⟨hc1, hc2⟩, hc3⟩ := hc
  have hlen : (lgS m).length = 8 + m * 4 := repB_len _ _ m
  have hlet : (lgT j).length = 0 + j * 4 := repB_len _ _ j
  have hn1 := norm1_t (lgS m ++ 41 :: lgT j)
  have hn2 := norm1_t (40 :: 113 :: 41 :: (lgS m ++ [41]))
  have hn3 := norm1_t (40 :: 110 :: 111 :: 116 :: 32 :: (lgS m ++ [41, 41]))
  rw [← norm1K_eq] at hn1 hn2 hn3
  rw [Option.isNone_iff_eq_none] at hc2 hc3
  rw [hc2] at hn2
  rw [hc3] at hn3
  obtain ⟨a, ha⟩ : ∃ a, norm1K (lgS m ++ 41 :: lgT j) = some [a] := by
    revert hc1
    generalize norm1K (lgS m ++ 41 :: lgT j) = o
    intro hc1
    match o, hc1 with
    | some [a], _ => exact ⟨a, rfl⟩
  rw [ha] at hn1 hc1
  simp only [Bool.and_eq_true, decide_eq_true_eq] at hc1
  simp only [n1V, List.map_cons, List.map_nil] at hn1 hn2 hn3
  have at0 : evIdx 2 [Al.p a] 0 = some (.ref [.lst (a.lits.map Ce.p), .int .i64 (a.logic : Int)]) := n1_at (l := [a]) (n := 0) (by simp)
  have e1 : ((a.logic : Int) = (m : Int)) = True := eq_true (by omega)
  have e2 : ((a.lits.length : Int) = ((m + j : Nat) : Int)) = True := eq_true (by omega)
  have hw : IntKind.i64.wrap ((m : Int) + (j : Int)) = ((m + j : Nat) : Int) := by rw [IntKind.wrap_i64]; omega
  have key : Good (fun v _ => v = .bool true) (callE efns given f_law13_NormLogics [.int .u8 n, .int .u8 r] ⟨[], [], [], []⟩) := by
    rw [callE_fn efns given (c := e_law13_NormLogics) rfl rfl]
    simp only [e_law13_NormLogics, go_sem, hk, hm, hj, show ((6 : Int) = 0) = False from by simp]
    refine Good.for m (fun i fr st => fr = [.undef, .undef, .int .i64 (m : Int), .int .i64 (j : Int), .str (lgS i), .int .i64 (i : Int)] ++ List.replicate 9 .undef ∧ st = ⟨[], [], [], []⟩) ?_ ?_ ?_
    · rintro i fr st hi ⟨rfl, rfl⟩ k hk'
      have c1 : ((i : Int) < (m : Int)) = True := eq_true (by omega)
      have hl2 : (lgS i).length = 8 + i * 4 := repB_len _ _ i
      have c2 : ((lgS i).length + 4 ≤ 4611686018427387904) = True := eq_true (by omega)
      simp only [List.replicate, List.cons_append, List.nil_append, b_law13_NormLogics_0, go_sem, c1, c2, wrapN (n := i) (by omega)]
      exact hk' _ _ ⟨rfl, rfl⟩
    · rintro fr st ⟨rfl, rfl⟩ k
      have c2 : ((lgS m).length + 1 ≤ 4611686018427387904) = True := eq_true (by omega)
      simp only [List.replicate, List.cons_append, List.nil_append, b_law13_NormLogics_0, go_sem, Int.lt_irrefl, c2]
      refine Good.for j (fun i fr st => fr = [.undef, .undef, .int .i64 (m : Int), .int .i64 (j : Int), .str (lgS m ++ [41]), .undef, .str (lgT i), .int .i64 (i : Int)] ++ List.replicate 7 .undef ∧ st = ⟨[], [], [], []⟩) ?_ ?_ ?_
      · rintro i fr st hi ⟨rfl, rfl⟩ k hk'
        have c1 : ((i : Int) < (j : Int)) = True := eq_true (by omega)
        have hl2 : (lgT i).length = 0 + i * 4 := repB_len _ _ i
        have c2 : ((lgT i).length + 4 ≤ 4611686018427387904) = True := eq_true (by omega)
        simp only [List.replicate, List.cons_append, List.nil_append, b_law13_NormLogics_1, go_sem, c1, c2, wrapN (n := i) (by omega)]
        exact hk' _ _ ⟨rfl, rfl⟩
      · rintro fr st ⟨rfl, rfl⟩ k
        have c3 : ((lgS m).length + 1 + (lgT j).length ≤ 4611686018427387904) = True := eq_true (by omega)
        have c4 : (3 + ((lgS m).length + 1) ≤ 4611686018427387904) = True := eq_true (by omega)
        have c5 : (5 + ((lgS m).length + 1) ≤ 4611686018427387904) = True := eq_true (by omega)
        have c6 : (5 + ((lgS m).length + 1) + 1 ≤ 4611686018427387904) = True := eq_true (by omega)
        have c8 : ((lgS m).length ≤ 4611686018427387897) = True := eq_true (by omega)
        have c7 : (5 + (lgS m).length + 2 ≤ 4611686018427387904) = True := eq_true (by omega)
        simp only [List.replicate, List.cons_append, List.nil_append, List.append_assoc, List.length_append, List.length_cons, List.length_nil, List.length_map, b_law13_NormLogics_1, go_sem, Int.lt_irrefl, c3, c4, c5, c6, c7, c8, ne_eq, not_true_eq_false, hn1, hn2, hn3, at0, e1, e2, hw]
        exact Good.done rfl
      · exact ⟨rfl, rfl⟩
    · exact ⟨rfl, rfl⟩
  obtain ⟨v, st, h, rfl⟩ := key
  exact ⟨st, h⟩
end Go.Proofs.YtgjklaobjnjhpaaPe.Norm

