/- A part of the proof of this folder's statement; it has no condition of its own. -/
import Derived.Test.YtgjklaobjnjhpaaNormNq
/- The law NormOrs. -/
set_option linter.unusedVariables false
set_option linter.unusedSimpArgs false
set_option maxRecDepth 100000
namespace Go.Proofs.YtgjklaobjnjhpaaPe.Norm
open Go Go.Proofs Go.Proofs.YtgjklaobjnjhpaaPe Go.Proofs.YtgjklaobjnjhpaaPe.NormCode

def ksOf (b : List UInt8) : List Nat := b.map fun c => 1 + c.toNat % 5
theorem ks_five (b : List UInt8) : Five (ksOf b) := by
  intro k hk
  obtain ⟨c, _, rfl⟩ := List.mem_map.1 hk
  omega
theorem ks_len (b : List UInt8) : (ksOf b).length = b.length := by simp [ksOf]
theorem prodL_le : ∀ {n : List Nat}, Five n → prodL n ≤ 5 ^ n.length
  | [], _ => Nat.le_refl _
  | k :: n, h => by
    have h1 := (h k (by simp)).2
    have h2 := prodL_le (n := n) fun x hx => h x (by simp [hx])
    rw [prodL, List.length_cons, Nat.pow_succ, Nat.mul_comm]
    exact Nat.mul_le_mul h2 h1
theorem five_take {n : List Nat} (h : Five n) (i : Nat) : Five (n.take i) := fun k hk => h k (List.mem_of_mem_take hk)
theorem prod_take {n : List Nat} (h : Five n) (hl : n.length ≤ 6) (i : Nat) : prodL (n.take i) ≤ 15625 := by
  refine Nat.le_trans (prodL_le (five_take h i)) ?_
  have h2 : (n.take i).length ≤ 6 := by rw [List.length_take]; omega
  exact Nat.pow_le_pow_right (n := 5) (by decide) h2
theorem ks_at {b : List UInt8} {i : Nat} (h : i < b.length) : (ksOf b)[i]? = some (1 + b[i].toNat % 5) := by simp [ksOf, h]
theorem take_at {b : List UInt8} {i : Nat} (h : i < b.length) : (ksOf b).take (i + 1) = (ksOf b).take i ++ [1 + b[i].toNat % 5] := by
  rw [List.take_add_one, ks_at h]
  rfl
theorem k_wrap (c : UInt8) : IntKind.i64.wrap (1 + IntKind.i64.wrap ((c.toNat : Int).tmod 5)) = ((1 + c.toNat % 5 : Nat) : Int) := by
  have := UInt8.toNat_lt c
  rw [Int.tmod_eq_emod_of_nonneg (by omega), IntKind.wrap_i64, IntKind.wrap_i64]
  omega
theorem orXs_le {n : List Nat} (h : Five n) (i : Nat) : ∀ s, orXs n i s ≤ i
  | 0 => Nat.le_refl _
  | s + 1 => Nat.le_trans (Nat.div_le_self _ _) (orXs_le h i s)

theorem ors_law (b : List UInt8) : ∃ st, callE efns given f_law13_NormOrs [.lst (byts b)] ⟨[], [], [], []⟩ = some (.bool true, st) := by
  have hk := known_t
  have key : Good (fun v _ => v = .bool true) (callE efns given f_law13_NormOrs [.lst (byts b)] ⟨[], [], [], []⟩) := by
    rw [callE_fn efns given (c := e_law13_NormOrs) rfl rfl]
    by_cases h6 : b.length > 6
    · have c1 : ((b.length : Int) > 6) = True := eq_true (by omega)
      simp only [e_law13_NormOrs, go_sem, hk, byts_length, c1]
      exact Good.done rfl
    · have c1 : ((b.length : Int) > 6) = False := eq_false (by omega)
      have h5 := ks_five b
      have hkl := ks_len b
      simp only [e_law13_NormOrs, go_sem, hk, byts_length, c1]
      refine Good.for b.length (fun i fr st => fr = [.lst (byts b), .str (orT ((ksOf b).take i)), .int .i64 (prodL ((ksOf b).take i) : Int), .int .i64 (i : Int)] ++ List.replicate 11 .undef ∧ st = ⟨[], [], [], []⟩) ?_ ?_ ?_
      · rintro i fr st hi ⟨rfl, rfl⟩ k hk'
        have c2 : ((i : Int) < (b.length : Int)) = True := eq_true (by omega)
        have bi := bidx (b := b) (n := i) (c := b[i]) (by simp [hi])
        have hol := orT_len (five_take h5 i)
        have htl : ((ksOf b).take i).length ≤ 6 := by rw [List.length_take]; omega
        have c3 : ((orT ((ksOf b).take i)).length + 3 ≤ 4611686018427387904) = True := eq_true (by omega)
        simp only [List.replicate, List.cons_append, List.nil_append, b_law13_NormOrs_1, go_sem, byts_length, c2, c3, bi, k_wrap, show ((5 : Int) = 0) = False from by simp]
        have hkb : 1 + b[i].toNat % 5 ≤ 5 := by omega
        have hpt := prod_take h5 (by omega) i
        have hmul : IntKind.i64.wrap ((prodL ((ksOf b).take i) : Int) * ((1 + b[i].toNat % 5 : Nat) : Int)) = ((prodL ((ksOf b).take (i + 1)) : Nat) : Int) := by
          rw [take_at hi, prodL_append, prodL, prodL, Nat.mul_one, ← Int.natCast_mul, IntKind.wrap_i64]
          have : prodL ((ksOf b).take i) * (1 + b[i].toNat % 5) ≤ 15625 * 5 := Nat.mul_le_mul hpt hkb
          omega
        have horT : orT ((ksOf b).take (i + 1)) = orT ((ksOf b).take i) ++ 40 :: 111 :: 114 :: (pS (1 + b[i].toNat % 5) ++ [41]) := by
          rw [take_at hi, orT_append]
          rfl
        revert hmul horT hkb
        generalize 1 + b[i].toNat % 5 = q
        intro hkb hmul horT
        refine Good.for q (fun j fr st => fr = [.lst (byts b), .str (orT ((ksOf b).take i) ++ 40 :: 111 :: 114 :: pS j), .int .i64 (prodL ((ksOf b).take i) : Int), .int .i64 (i : Int), .int .i64 (q : Int), .int .i64 (j : Int)] ++ List.replicate 9 .undef ∧ st = ⟨[], [], [], []⟩) ?_ ?_ ?_
        · rintro j fr st hj ⟨rfl, rfl⟩ k2 hk2
          have d1 : ((j : Int) < (q : Int)) = True := eq_true (by omega)
          have hl2 := pS_len j
          have d2 : ((orT ((ksOf b).take i)).length + ((pS j).length + 1 + 1 + 1) + 7 ≤ 4611686018427387904) = True := eq_true (by omega)
          have d3 : ((orT ((ksOf b).take i)).length + ((pS j).length + 1 + 1 + 1) + 7 + 1 ≤ 4611686018427387904) = True := eq_true (by omega)
          have d4 : ((orT ((ksOf b).take i)).length + ((pS j).length + 1 + 1 + 1) + 7 + 1 + 2 ≤ 4611686018427387904) = True := eq_true (by omega)
          simp only [List.replicate, List.cons_append, List.nil_append, List.append_assoc, List.length_append, List.length_cons, List.length_nil, b_law13_NormOrs_0, go_sem, d1, d2, d3, d4, u8_48 (i := j) (by omega), wrapN (n := j) (by omega)]
          rw [Int.toNat_natCast]
          have d5 : (orT ((ksOf b).take i)).length + ((pS j).length + 11) ≤ 4611686018427387904 := by omega
          have d6 : (orT ((ksOf b).take i)).length + ((pS j).length + 11) ≤ 4611686018427387902 := by omega
          rw [if_pos d5, if_pos d6]
          exact hk2 _ _ ⟨rfl, rfl⟩
        · rintro fr st ⟨rfl, rfl⟩ k2
          have hl2 := pS_len q
          simp only [List.replicate, List.cons_append, List.nil_append, List.append_assoc, List.length_append, List.length_cons, List.length_nil, b_law13_NormOrs_0, go_sem, Int.lt_irrefl, hmul, wrapN (n := i) (by omega)]
          have d5 : (orT ((ksOf b).take i)).length + ((pS q).length + 4) ≤ 4611686018427387904 := by omega
          rw [if_pos d5, ← horT]
          exact hk' _ _ ⟨rfl, rfl⟩
        · exact ⟨by rw [pS]; rfl, rfl⟩
      · rintro fr st ⟨rfl, rfl⟩ k
        have ht : (ksOf b).take b.length = ksOf b := by rw [← hkl]; exact List.take_length
        have hct := conds_text h5 (by omega)
        have hcb := conds_ok (orT (ksOf b))
        rw [hct] at hcb
        simp only [condV] at hcb
        have hf := condsB_fine hct
        have hn := norm_t ((ksOf b).map orC) (by omega) hf.2
        have hto := to_t hf
        rw [ht]
        rcases or_facts h5 (by omega) with ⟨hp, hN⟩ | ⟨hp, l, hN, hll, hrows⟩
        · rw [hN] at hn
          simp only [altsV] at hn
          have d1 : ((prodL (ksOf b) : Int) > 16) = True := eq_true (by omega)
          simp only [List.replicate, List.cons_append, List.nil_append, b_law13_NormOrs_1, go_sem, byts_length, Int.lt_irrefl, U_tob, hcb, hto, hn, d1]
          exact Good.done rfl
        · rw [hN] at hn
          simp only [altsV] at hn
          have d1 : ((prodL (ksOf b) : Int) > 16) = False := eq_false (by omega)
          have d2 : ((l.length : Int) = (prodL (ksOf b) : Int)) = True := eq_true (by omega)
          simp only [List.replicate, List.cons_append, List.nil_append, List.length_map, b_law13_NormOrs_1, go_sem, byts_length, Int.lt_irrefl, U_tob, hcb, hto, hn, d1, d2, ne_eq, not_true_eq_false]
          refine Good.for (prodL (ksOf b)) (fun i fr st => fr = [.lst (byts b), .undef, .int .i64 (prodL (ksOf b) : Int), .undef, .undef, .undef, .undef, .lst (l.map Al.p), .undef, .int .i64 (i : Int)] ++ List.replicate 5 .undef ∧ st = ⟨[], [], [], []⟩) ?_ ?_ ?_
          · rintro i fr st hi ⟨rfl, rfl⟩ k hk'
            have c2 : ((i : Int) < (prodL (ksOf b) : Int)) = True := eq_true (by omega)
            have hrow := orRows_at hrows (j := i) (by omega)
            have ai := n1_at (l := l) (n := i) (by omega)
            rw [Nat.zero_add] at hrow
            revert hrow ai
            generalize (l[i]'(by omega)).lits = ls
            generalize ((l[i]'(by omega)).logic : Int) = lg
            intro hrow ai
            simp only [List.replicate, List.cons_append, List.nil_append, b_law13_NormOrs_3, go_sem, byts_length, c2]
            have hw : IntKind.i64.wrap ((b.length : Int) - 1) = (b.length : Int) - 1 := by rw [IntKind.wrap_i64]; omega
            simp only [hw]
            refine Good.for b.length (fun s fr st => fr = [.lst (byts b), .undef, .int .i64 (prodL (ksOf b) : Int), .undef, .undef, .undef, .undef, .lst (l.map Al.p), .undef, .int .i64 (i : Int), .int .i64 (orXs (ksOf b) i s : Int), .int .i64 ((b.length : Int) - 1 - s)] ++ List.replicate 3 .undef ∧ st = ⟨[], [], [], []⟩) ?_ ?_ ?_
            · rintro s fr st hs ⟨rfl, rfl⟩ k2 hk2
              have e0 : (b.length : Int) - 1 - s = ((b.length - 1 - s : Nat) : Int) := by omega
              have e1 : (((b.length - 1 - s : Nat) : Int) ≥ 0) = True := eq_true (by omega)
              have hj : b.length - 1 - s < b.length := by omega
              have bi := bidx (b := b) (n := b.length - 1 - s) (c := b[b.length - 1 - s]) (by simp [hj])
              obtain ⟨hl, hjl, t, ht1, ht2⟩ := orDig_of (s := s) (by omega) hrow
              have hgd : (ksOf b).getD (b.length - 1 - s) 1 = 1 + b[b.length - 1 - s].toNat % 5 := by
                rw [List.getD_eq_getElem?_getD, ks_at hj]
                rfl
              have hxs : orXs (ksOf b) i (s + 1) = orXs (ksOf b) i s / (1 + b[b.length - 1 - s].toNat % 5) := by
                rw [orXs, hkl, hgd]
              rw [hkl] at hl
              have ac := Ce.at_ (l := ls) (n := b.length - 1 - s) (by omega)
              simp only [hkl] at ht1 ht2
              rw [hgd] at ht2
              have hxle := orXs_le h5 i s
              have hpt := prod_take h5 (by omega) b.length
              rw [ht] at hpt
              have hq := k_wrap b[b.length - 1 - s]
              have hqp : 1 ≤ 1 + b[b.length - 1 - s].toNat % 5 := by omega
              revert ht1 ac ht2 hxs hq hqp
              generalize 1 + b[b.length - 1 - s].toNat % 5 = q
              generalize (ls[b.length - 1 - s]'(by omega)) = c
              intro hxs ac ht1 ht2 hq hqp
              have at' : evIdx 6 [t.p] 0 = some (.ref t.cells) := by
                have := Ts.at_ (l := [t]) (n := 0) (by simp)
                simpa using this
              simp only [Ts.cells] at at'
              simp only [Ce.cells] at ac
              rw [ht1] at ac
              simp only [List.map_cons, List.map_nil] at ac
              have e2 : ((ls.length : Int) = (b.length : Int)) = True := eq_true (by omega)
              have e3 : ((q : Int) = 0) = False := eq_false (by omega)
              have e4 : (t.v.i = ((orXs (ksOf b) i s : Nat) : Int).tmod (q : Int)) = True := eq_true (by rw [ht2]; rfl)
              have e5 : IntKind.i64.wrap (((orXs (ksOf b) i s : Nat) : Int).tdiv (q : Int)) = ((orXs (ksOf b) i (s + 1) : Nat) : Int) := by
                rw [hxs, ← Int.ofNat_tdiv, IntKind.wrap_i64]
                have := Nat.div_le_self (orXs (ksOf b) i s) q
                omega
              have e6 : IntKind.i64.wrap (((b.length - 1 - s : Nat) : Int) - 1) = (b.length : Int) - 1 - ((s + 1 : Nat) : Int) := by rw [IntKind.wrap_i64]; omega
              simp only [e0]
              simp only [List.replicate, List.cons_append, List.nil_append, List.length_map, b_law13_NormOrs_2, go_sem, byts_length, e1, bi, hq, ai, ac, at', e2, e3, e4, e5, e6, ne_eq, not_true_eq_false, show ((5 : Int) = 0) = False from by simp]
              exact hk2 _ _ ⟨rfl, rfl⟩
            · rintro fr st ⟨rfl, rfl⟩ k2
              have e1 : ((b.length : Int) - 1 - (b.length : Int) ≥ 0) = False := eq_false (by omega)
              simp only [List.replicate, List.cons_append, List.nil_append, b_law13_NormOrs_2, go_sem, e1, wrapN (n := i) (by omega)]
              exact hk' _ _ ⟨rfl, rfl⟩
            · exact ⟨by rw [orXs, Int.natCast_zero, Int.sub_zero]; rfl, rfl⟩
          · rintro fr st ⟨rfl, rfl⟩ k
            simp only [List.replicate, List.cons_append, List.nil_append, b_law13_NormOrs_3, go_sem, Int.lt_irrefl]
            exact Good.done rfl
          · exact ⟨rfl, rfl⟩
      · exact ⟨rfl, rfl⟩
  obtain ⟨v, st, h, rfl⟩ := key
  exact ⟨st, h⟩
end Go.Proofs.YtgjklaobjnjhpaaPe.Norm

