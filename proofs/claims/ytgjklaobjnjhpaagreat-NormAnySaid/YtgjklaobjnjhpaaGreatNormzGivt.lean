/- A part of the proof of this folder's statement; it has no condition of its own. -/
import Derived.Test.YtgjklaobjnjhpaaGreatNormzCode
import Derived.Test.YtgjklaobjnjhpaaGreatEcGiv
/- What is given here of the library's functions: slices.Clone, slices.Grow; laid down for the evaluator. -/
set_option maxRecDepth 1000000
set_option linter.unusedVariables false
set_option linter.unusedSimpArgs false
namespace Go.Proofs.YtgjklaobjnjhpaaGreatPe.Normz
open Go Go.Proofs Go.Proofs.YtgjklaobjnjhpaaGreatPe Go.Proofs.YtgjklaobjnjhpaaGreatPe.NormzCode

def laysGrow_ren : Go.Shelf.Ren := ⟨fun | 4 => 75 | n => n, fun | 22 => 83 | 25 => 63 | 3 => 3 | 4 => 4 | 9 => 9 | 20 => 20 | 0 => 0 | n => n, fun | n => n⟩
theorem laysGrow : Lays8.n4 Tryz.prog laysGrow_ren where
  mixed := by kernel_rfl
  f4 := ⟨ "slices.Grow[whelk/norm.row,whelk/norm.Lit]", by decide, Tryz.func75.trans (congrArg some (by kernel_rfl))⟩
  t0 := Tryz.underlying0
  a0 := Tryz.isAgg0
  z0 := Tryz.sizeOf0
  v0 := Tryz.zeroValue0
  t3 := Tryz.underlying3
  a3 := Tryz.isAgg3
  z3 := Tryz.sizeOf3
  v3 := Tryz.zeroValue3
  t4 := Tryz.underlying4
  a4 := Tryz.isAgg4
  z4 := Tryz.sizeOf4
  v4 := Tryz.zeroValue4
  t9 := Tryz.underlying9
  a9 := Tryz.isAgg9
  z9 := Tryz.sizeOf9
  v9 := Tryz.zeroValue9
  t20 := Tryz.underlying20
  a20 := Tryz.isAgg20
  z20 := Tryz.sizeOf20
  v20 := Tryz.zeroValue20
  t22 := Tryz.underlying83
  a22 := Tryz.isAgg83
  z22 := Tryz.sizeOf83
  v22 := Tryz.zeroValue83

abbrev T_lit : TypeId := 63
def given (f : FuncId) (l : List PV) : Option PV := if f = f_slices_Clone_pat_Test_pat_Test then cloneA 6 64 l else if f = f_slices_Grow_norm_row_norm_Lit then growA 11 168 T_lit l else none

theorem given_plain_ok {W : World} : GivenPlain Tryz.prog W (fnsOf Tryz.prog sh rows) given := by
  intro f xs r _ hg
  unfold given at hg
  split at hg
  · rename_i h
    subst h
    exact clone_given follows_ok crows_ok (n := 6) (b := 64) rfl hg
  · split at hg
    · rename_i h
      subst h
      have hi : (Tryz.prog.info? T_lit).map (fun i => (i.size, i.bytes, i.zero.map (·.cells.size))) = some (11, 168, some 11) := by kernel_rfl
      obtain ⟨i0, hi0, h1⟩ := Option.map_eq_some_iff.1 hi
      simp only [Prod.mk.injEq] at h1
      obtain ⟨h1, h2, h3⟩ := h1
      obtain ⟨z, hz, h4⟩ := Option.map_eq_some_iff.1 h3
      rw [← h2] at hg
      exact grow_given laysGrow hi0 hz h1 (by decide) h4 (by decide) ⟨Tryz.f75, by kernel_rfl, by rfl, by rfl⟩ hg
    · cases hg
theorem given_writes {W : World} : WritesOk Tryz.prog W (fnsOf Tryz.prog sh rows) given := by
  intro f x t r y _ hg
  unfold given at hg
  split at hg
  · unfold cloneA at hg
    split at hg
    · rename_i h
      simp at h
    · cases hg
  · split at hg
    · unfold growA at hg
      split at hg
      · split at hg
        · rename_i h _
          simp only [List.cons.injEq] at h
          cases h.2.1
        · cases hg
      · cases hg
    · cases hg
theorem given_ok {W : World} : GivenOk Tryz.prog W (fnsOf Tryz.prog sh rows) given := ⟨given_plain_ok, given_writes⟩

theorem clone_ok {l : List PV} (h : szAll 6 l = true) (hl : l.length * 65 ≤ 70368744177664) (st : St) : callE efns given f_slices_Clone_pat_Test_pat_Test [.lst l] st = some (.lst l, st) := by
  rw [callE_given efns given rfl]
  have hg : given f_slices_Clone_pat_Test_pat_Test [.lst l] = some (.lst l) := by
    unfold given
    rw [if_pos rfl]
    unfold cloneA
    simp only [h, hl, and_self, if_true]
  show (match given f_slices_Clone_pat_Test_pat_Test [.lst l] with | some r => givAns r st | none => none) = _
  rw [hg]
  rfl
theorem grow0_ok (st : St) : callE efns given f_slices_Grow_norm_row_norm_Lit [.nils, .int .i64 0] st = some (.nils, st) := by
  rw [callE_given efns given rfl]
  rfl
theorem grow_ok {k : Int} (h0 : 0 < k) (h1 : k * 168 ≤ 70368744177664) (st : St) : callE efns given f_slices_Grow_norm_row_norm_Lit [.nils, .int .i64 k] st = some (.own st.rows.length [], ⟨st.boxes, st.rows ++ [(0, 11)], st.bt, st.rt ++ [T_lit]⟩) := by
  rw [callE_given efns given rfl]
  have hg : given f_slices_Grow_norm_row_norm_Lit [.nils, .int .i64 k] = some (.own (11 + T_lit * 65536) []) := by
    unfold given
    rw [if_neg (by decide), if_pos rfl]
    unfold growA
    simp only
    rw [if_pos ⟨by omega, by omega, by omega⟩, if_neg (by omega)]
  show (match given f_slices_Grow_norm_row_norm_Lit [.nils, .int .i64 k] with | some r => givAns r st | none => none) = _
  rw [hg]
  rfl
end Go.Proofs.YtgjklaobjnjhpaaGreatPe.Normz

