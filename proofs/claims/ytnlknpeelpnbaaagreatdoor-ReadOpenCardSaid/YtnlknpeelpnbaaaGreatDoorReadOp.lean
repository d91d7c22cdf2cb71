/- A part of the proof of this folder's statement; it has no condition of its own. -/
import Derived.Test.YtnlknpeelpnbaaaGreatDoorReadBy
set_option linter.unusedVariables false
set_option linter.unusedSimpArgs false
set_option maxRecDepth 1000000
namespace Go.Proofs.YtnlknpeelpnbaaaGreatDoorPe.Read
open Go Go.Proofs Go.Proofs.YtnlknpeelpnbaaaGreatDoorPe Go.Proofs.YtnlknpeelpnbaaaGreatDoorPe.ReadCode
theorem cut_t {b : List UInt8} {j : Nat} (h : j <= b.length) : lsubV 1 (.lst (byts b)) none (some (.int .i64 (j : Int))) none = some (.lst (byts (b.take j))) := by
 have h0 := blsub (b := b) (i := 0) (j := j) (Nat.zero_le _) h
 have : lsubV 1 (.lst (byts b)) none (some (.int .i64 (j : Int))) none = lsubV 1 (.lst (byts b)) (some (.int .i64 ((0 : Nat) : Int))) (some (.int .i64 (j : Int))) none := by
  unfold lsubV
  simp only [hsOf, PV.nm, slcOf, bnd]
  split
  ·simp
  ·rfl
 rw [this, h0, List.drop_zero]
theorem open_law (b : List UInt8) (n : Int) (hn : I64 n) : IsTrue (callE efns given f_law5_ReadOpen [.lst (byts b), .int .i64 n] ⟨[], [], [], []⟩) := by
 rw [callE_fn efns given (c := e_law5_ReadOpen) rfl rfl]
 have hk := known_t
 by_cases h0 : b.length = 0
 ·have c0 : ((b.length : Int) = 0) = True := eq_true (by omega)
  simp only [e_law5_ReadOpen, go_sem, hk, byts_length, c0]
  exact Good.done rfl
 have c0 : ((b.length : Int) = 0) = False := eq_false (by omega)
 by_cases h1 : b.length > 1000
 ·have c1 : ((b.length : Int) > 1000) = True := eq_true (by omega)
  simp only [e_law5_ReadOpen, go_sem, hk, byts_length, c0, c1]
  exact Good.done rfl
 have c1 : ((b.length : Int) > 1000) = False := eq_false (by omega)
 by_cases h2 : n < 0
 ·simp only [e_law5_ReadOpen, go_sem, hk, byts_length, c0, c1, eq_true h2]
  exact Good.done rfl
 obtain ⟨m, rfl⟩ : ∃ m : Nat, n = m := ⟨n.toNat, by omega⟩
 have hr : ((m : Int).tmod (b.length : Int)) = ((m % b.length : Nat) : Int) := rfl
 have hw : IntKind.i64.wrap ((m % b.length : Nat) : Int) = ((m % b.length : Nat) : Int) := by
  have := Nat.mod_lt m (show 0 < b.length by omega)
  rw [IntKind.wrap_i64]; omega
 have hlt := Nat.mod_lt m (show 0 < b.length by omega)
 have hcut := cut_t (b := b) (j := m % b.length) (by omega)
 have hcl : (b.take (m % b.length)).length = m % b.length := by rw [List.length_take]; omega
 generalize b.take (m % b.length) = c at hcut hcl
 generalize m % b.length = j at hr hw hcut hcl hlt
 have r1 := sread_t c
 have r2 := read_t c
 cases hm : readM c with
 | error e =>
  obtain ⟨p, e⟩ := e
  obtain ⟨e1, e2, e3, e4, e5⟩ := readM_err hm
  have ht := tells_at e1 e2 e3 e5
  rw [hm] at r1 r2
  simp only [sreadV, readV, wrongV] at r1 r2 ht
  simp only at e1 e3 e4
  have d0 : (e = 0) = False := eq_false (by omega)
  have d1 : (p >= 0) = True := eq_true e3
  have d2 : (p < (c.length : Int)) = True := eq_true (e4 (by omega))
  have hat : evIdx 2 [.agg [.str sChar, .int .i64 p]] 0 = some (.ref [.str sChar, .int .i64 p]) := rfl
  simp only [e_law5_ReadOpen, go_sem, hk, byts_length, c0, c1, eq_false h2, hr, hw, hcut, r1, r2, ht, d0, d1, d2, hat, List.length_nil, List.length_cons]
  exact Good.done rfl
 | ok l =>
  have ht := tells_none
  rw [hm] at r1 r2
  simp only [sreadV, readV, noneW] at r1 r2 ht
  simp only [e_law5_ReadOpen, go_sem, hk, byts_length, c0, c1, eq_false h2, hr, hw, hcut, r1, r2, ht]
  exact Good.done rfl
end Go.Proofs.YtnlknpeelpnbaaaGreatDoorPe.Read
