/- A part of the proof of this folder's statement; it has no condition of its own. -/
import Derived.Test.YtgjklaobjnjhpaaGreatNormzMod
/- From the program's parts to the document's, and back: the same. -/
set_option linter.unusedVariables false
set_option linter.unusedSimpArgs false
set_option maxRecDepth 100000
namespace Go.Proofs.YtgjklaobjnjhpaaGreatPe.Normz
open Go Go.Proofs Go.Proofs.YtgjklaobjnjhpaaGreatPe Go.Proofs.YtgjklaobjnjhpaaGreatPe.NormzCode

theorem exOf_t : ∀ (m : Nat) (e : Ex), e.sz ≤ m → m ≤ 1000000 → tupV (callE efns given) (.call 0 f_law7_Of) [e.p] = some e.p := by
  intro m
  induction m with
  | zero => intro e h; rw [Ex.sz_eq] at h; omega
  | succ m ih =>
    intro e hm hle
    have hkl := Ex.len_sz e.kids
    have hsz := Ex.sz_eq e
    rw [Ex.p_eq]
    refine call_good (f := f_law7_Of) rfl ?_
    rw [callE_fn efns given (c := e_law7_Of) rfl rfl]
    simp only [e_law7_Of, go_sem, Ex.cells]
    refine Good.for e.kids.length (fun n fr st => ∃ out rows rt, fr = [.undef, .ptr 0 0, .ptr 1 0, .ptr 2 0, .int .i64 (n : Int), .undef, .undef, .undef, .undef, .undef, .undef, .undef, .undef] ∧
      st = ⟨[e.cells, [.int .i64 0, .int .i64 0, .int .i64 0, .str [], .str [], .nils], [.int .i64 e.k, .int .i64 e.v.k, .int .i64 e.v.i, .str e.v.s, .str e.s, out]], rows, [T_law7_Of_1, T_law7_Of_0, T_law7_Of_0], rt⟩ ∧
      OutV 6 T_law7_Of_0 ((e.kids.take n).map Ex.p) out rows rt ∧ rt.length = rows.length) ?_ ?_ ?_
    · rintro n fr st hn ⟨out, rows, rt, rfl, rfl, hO, hr⟩ k hk
      have c1 : ((n : Int) < (e.kids.length : Int)) = True := eq_true (by omega)
      have hs := ih e.kids[n] (by have := Ex.sz_kid (List.getElem_mem hn); omega) (by omega)
      rw [Ex.p_eq] at hs
      obtain ⟨out', rows', rt', ap, hO', hr', _⟩ := hO.app1 (b := 80) hr (e := .agg e.kids[n].cells) rfl (by simp; omega)
      simp only [Ex.cells] at hs ap
      simp only [b_law7_Of_0, go_sem, Ex.cells, Ex.at_ hn, List.length_map, c1, hs, V_bs1, ap, hO'.cells, hO'.cell, wrapN (n := n) (by omega)]
      refine hk _ _ ⟨out', rows', rt', rfl, rfl, ?_, hr'⟩
      rw [take_succ_at hn, List.map_append, List.map_singleton, Ex.p_eq]
      exact hO'
    · rintro fr st ⟨out, rows, rt, rfl, rfl, hO, hr⟩ k
      simp only [b_law7_Of_0, go_sem, Ex.cells, List.length_map, Int.lt_irrefl, hO.cells, hO.cell]
      refine Good.done ?_
      rw [List.take_length] at hO
      exact ret_agg (mS rfl (mS rfl (mS rfl (mS rfl (mS rfl (mS (hO.shutR _ _) mN))))))
    · exact ⟨.nils, [], [], rfl, rfl, .nils, rfl⟩

theorem ptOf_t (x : Pt) (hx : x.l.length ≤ 1000000) : tupV (callE efns given) (.call 0 f_law11_Of) [x.p] = some x.p := by
  refine call_good (f := f_law11_Of) rfl ?_
  rw [callE_fn efns given (c := e_law11_Of) rfl rfl]
  simp only [e_law11_Of, go_sem, Pt.cells, Pt.p]
  refine Good.for x.l.length (fun n fr st => ∃ out rows rt bs bts, fr = [.undef, .ptr 0 0, .ptr 1 0, .ptr 2 0, .int .i64 (n : Int), .undef, .undef, .undef, .undef, .undef, .undef, .undef, .undef, .undef, .undef, .undef] ∧
    st = ⟨x.cells :: [.str [], .nils] :: [.str x.t, out] :: bs, rows, T_law11_Of_2 :: T_law11_Of_3 :: T_law11_Of_3 :: bts, rt⟩ ∧
    OutV 6 T_law11_Of_0 ((x.l.take n).map Ts.p) out rows rt ∧ rt.length = rows.length) ?_ ?_ ?_
  · rintro n fr st hn ⟨out, rows, rt, bs, bts, rfl, rfl, hO, hr⟩ k hk
    have c1 : ((n : Int) < (x.l.length : Int)) = True := eq_true (by omega)
    obtain ⟨out', rows', rt', ap, hO', hr', _⟩ := hO.app1 (b := 64) hr (e := .agg x.l[n].cells) rfl (by simp; omega)
    simp only [Ts.cells] at ap
    simp only [b_law11_Of_0, go_sem, Pt.cells, Ts.cells, Ts.at_ hn, List.length_map, c1, V_bs1, ap, hO'.cells, hO'.cell, wrapN (n := n) (by omega)]
    refine hk _ _ ⟨out', rows', rt', _, _, rfl, rfl, ?_, hr'⟩
    rw [take_succ_at hn, List.map_append, List.map_singleton]
    exact hO'
  · rintro fr st ⟨out, rows, rt, bs, bts, rfl, rfl, hO, hr⟩ k
    simp only [b_law11_Of_0, go_sem, Pt.cells, List.length_map, Int.lt_irrefl, hO.cells, hO.cell]
    refine Good.done ?_
    rw [List.take_length] at hO
    exact ret_agg (mS rfl (mS (hO.shutR _ _) mN))
  · exact ⟨.nils, [], [], [], [], rfl, rfl, .nils, rfl⟩

theorem lits_t : ∀ (m : Nat) (l : List Ce), Ce.szs l < m → m ≤ 1000000 → (∀ c ∈ l, Ce.Fine c) → tupV (callE efns given) (.call 0 f_law13_Lits) [.lst (l.map Ce.p)] = some (.lst (l.map Ce.p)) := by
  intro m
  induction m with
  | zero => intro l h; omega
  | succ m ih =>
    intro l hm hle hf
    have hkl := Ce.len_sz l
    refine call_good (f := f_law13_Lits) rfl ?_
    rw [callE_fn efns given (c := e_law13_Lits) rfl rfl]
    simp only [e_law13_Lits, go_sem]
    refine Good.for l.length (fun n fr st => ∃ out rows rt, fr = [.lst (l.map Ce.p), out, .int .i64 (n : Int), .undef] ∧
      st = ⟨[], rows, [], rt⟩ ∧ OutV 11 T_law13_Lits_0 ((l.take n).map Ce.p) out rows rt ∧ rt.length = rows.length) ?_ ?_ ?_
    · rintro n fr st hn ⟨out, rows, rt, rfl, rfl, hO, hr⟩ k hk
      have c1 : ((n : Int) < (l.length : Int)) = True := eq_true (by omega)
      obtain ⟨hc1, hc2, hc3⟩ := hf l[n] (List.getElem_mem hn)
      have hsz := Ce.sz_mem (List.getElem_mem hn)
      have hse := Ce.sz_eq l[n]
      have h1 := ih l[n].kids (by omega) (by omega) hc3
      have h2 := exOf_t _ l[n].e (Nat.le_refl _) (by omega)
      have h3 := ptOf_t l[n].pt (by omega)
      rw [Ex.p_eq] at h2
      obtain ⟨out', rows', rt', ap, hO', hr', _⟩ := hO.app1 (b := 168) hr (e := .agg l[n].cells) rfl (by simp; omega)
      simp only [Ce.cells, Ex.cells, Pt.cells, Pt.p] at ap h2 h3
      simp only [b_law13_Lits_0, go_sem, Ce.cells, Ce.at_ hn, List.length_map, c1, h1, h2, h3, V_bs1, ap, wrapN (n := n) (by omega)]
      refine hk _ _ ⟨out', rows', rt', rfl, rfl, ?_, hr'⟩
      rw [take_succ_at hn, List.map_append, List.map_singleton, Ce.p_eq]
      exact hO'
    · rintro fr st ⟨out, rows, rt, rfl, rfl, hO, hr⟩ k
      simp only [b_law13_Lits_0, go_sem, List.length_map, Int.lt_irrefl]
      refine Good.done ?_
      rw [List.take_length] at hO
      exact hO.shutR _ _
    · exact ⟨.nils, [], [], rfl, rfl, .nils, rfl⟩
theorem toLits_t : ∀ (m : Nat) (l : List Ce), Ce.szs l < m → m ≤ 1000000 → (∀ c ∈ l, Ce.Fine c) → tupV (callE efns given) (.call 0 f_law13_ToLits) [.lst (l.map Ce.p)] = some (.lst (l.map Ce.p)) := by
  intro m
  induction m with
  | zero => intro l h; omega
  | succ m ih =>
    intro l hm hle hf
    have hkl := Ce.len_sz l
    refine call_good (f := f_law13_ToLits) rfl ?_
    rw [callE_fn efns given (c := e_law13_ToLits) rfl rfl]
    simp only [e_law13_ToLits, go_sem]
    refine Good.for l.length (fun n fr st => ∃ out rows rt, fr = [.lst (l.map Ce.p), out, .int .i64 (n : Int), .undef] ∧
      st = ⟨[], rows, [], rt⟩ ∧ OutV 11 T_law13_ToLits_0 ((l.take n).map Ce.p) out rows rt ∧ rt.length = rows.length) ?_ ?_ ?_
    · rintro n fr st hn ⟨out, rows, rt, rfl, rfl, hO, hr⟩ k hk
      have c1 : ((n : Int) < (l.length : Int)) = True := eq_true (by omega)
      obtain ⟨hc1, hc2, hc3⟩ := hf l[n] (List.getElem_mem hn)
      have hsz := Ce.sz_mem (List.getElem_mem hn)
      have hse := Ce.sz_eq l[n]
      have h1 := ih l[n].kids (by omega) (by omega) hc3
      have h2 := exTo_t _ l[n].e (Nat.le_refl _) (by omega)
      have h3 := ptTo_t l[n].pt (by omega)
      rw [Ex.p_eq] at h2
      obtain ⟨out', rows', rt', ap, hO', hr', _⟩ := hO.app1 (b := 168) hr (e := .agg l[n].cells) rfl (by simp; omega)
      simp only [Ce.cells, Ex.cells, Pt.cells, Pt.p] at ap h2 h3
      simp only [b_law13_ToLits_0, go_sem, Ce.cells, Ce.at_ hn, List.length_map, c1, h1, h2, h3, V_bs1, ap, wrapN (n := n) (by omega)]
      refine hk _ _ ⟨out', rows', rt', rfl, rfl, ?_, hr'⟩
      rw [take_succ_at hn, List.map_append, List.map_singleton, Ce.p_eq]
      exact hO'
    · rintro fr st ⟨out, rows, rt, rfl, rfl, hO, hr⟩ k
      simp only [b_law13_ToLits_0, go_sem, List.length_map, Int.lt_irrefl]
      refine Good.done ?_
      rw [List.take_length] at hO
      exact hO.shutR _ _
    · exact ⟨.nils, [], [], rfl, rfl, .nils, rfl⟩

end Go.Proofs.YtgjklaobjnjhpaaGreatPe.Normz

