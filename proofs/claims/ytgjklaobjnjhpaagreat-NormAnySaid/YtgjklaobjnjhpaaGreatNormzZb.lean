/- A part of the proof of this folder's statement; it has no condition of its own. -/
import Derived.Test.YtgjklaobjnjhpaaGreatNormzZa
import Derived.Test.YtgjklaobjnjhpaaGreatNormzNg
/- The document's sameness, at what is the same; its counts. -/
set_option linter.unusedVariables false
set_option linter.unusedSimpArgs false
set_option maxRecDepth 100000
namespace Go.Proofs.YtgjklaobjnjhpaaGreatPe.Normz
open Go Go.Proofs Go.Proofs.YtgjklaobjnjhpaaGreatPe Go.Proofs.YtgjklaobjnjhpaaGreatPe.NormzCode

theorem rvsame_t (k i : Int) (s : List UInt8) : tupV (callE efns given) (.call 0 f_ref3_Same) [.agg [.int .i64 k, .int .i64 i, .str s], .agg [.int .i64 k, .int .i64 i, .str s]] = some (.bool true) := by
  refine call_good (f := f_ref3_Same) rfl ?_
  rw [callE_fn efns given (c := e_ref3_Same) rfl rfl]
  simp only [e_ref3_Same, go_sem]
  exact Good.done rfl
theorem resame_t : ∀ (m : Nat) (e : Ex), e.sz ≤ m → m ≤ 1000000 → tupV (callE efns given) (.call 0 f_ref7_Same) [.agg e.cells, .agg e.cells] = some (.bool true) := by
  intro m
  induction m with
  | zero => intro e h; rw [Ex.sz_eq] at h; omega
  | succ m ih =>
    intro e hm hle
    have hkl := Ex.len_sz e.kids
    have hsz := Ex.sz_eq e
    have hv := rvsame_t e.v.k e.v.i e.v.s
    refine call_good (f := f_ref7_Same) rfl ?_
    rw [callE_fn efns given (c := e_ref7_Same) rfl rfl]
    simp only [e_ref7_Same, go_sem, Ex.cells, hv, ne_eq, not_true_eq_false]
    refine Good.for e.kids.length (fun n fr st => fr = [.undef, .undef, .ptr 0 0, .ptr 1 0, .int .i64 (n : Int)] ++ List.replicate 18 .undef ∧ st = ⟨[e.cells, e.cells], [], [T_ref7_Same_0, T_ref7_Same_0], []⟩) ?_ ?_ ?_
    · rintro n fr st hn ⟨rfl, rfl⟩ k hk
      have c1 : ((n : Int) < (e.kids.length : Int)) = True := eq_true (by omega)
      have hs := ih e.kids[n] (by have := Ex.sz_kid (List.getElem_mem hn); omega) (by omega)
      simp only [Ex.cells] at hs
      simp only [List.replicate, List.cons_append, List.nil_append, b_ref7_Same_0, go_sem, Ex.cells, Ex.at_ hn, List.length_map, c1, hs, wrapN (n := n) (by omega)]
      exact hk _ _ ⟨rfl, rfl⟩
    · rintro fr st ⟨rfl, rfl⟩ k
      simp only [List.replicate, List.cons_append, List.nil_append, b_ref7_Same_0, go_sem, Ex.cells, List.length_map, Int.lt_irrefl]
      exact Good.done rfl
    · exact ⟨rfl, rfl⟩
theorem rpsame_t (x : Pt) (hx : x.l.length ≤ 1000000) : tupV (callE efns given) (.call 0 f_ref11_Same) [.agg x.cells, .agg x.cells] = some (.bool true) := by
  refine call_good (f := f_ref11_Same) rfl ?_
  rw [callE_fn efns given (c := e_ref11_Same) rfl rfl]
  simp only [e_ref11_Same, go_sem, Pt.cells, ne_eq, not_true_eq_false]
  refine Good.for x.l.length (fun n fr st => ∃ bs bts, fr = [.undef, .undef, .ptr 0 0, .ptr 1 0, .int .i64 (n : Int)] ++ List.replicate 21 .undef ∧ st = ⟨x.cells :: x.cells :: bs, [], T_ref11_Same_1 :: T_ref11_Same_1 :: bts, []⟩) ?_ ?_ ?_
  · rintro n fr st hn ⟨bs, bts, rfl, rfl⟩ k hk
    have c1 : ((n : Int) < (x.l.length : Int)) = True := eq_true (by omega)
    have hv := rvsame_t x.l[n].v.k x.l[n].v.i x.l[n].v.s
    simp only [List.replicate, List.cons_append, List.nil_append, b_ref11_Same_0, go_sem, Pt.cells, Ts.cells, Ts.at_ hn, List.length_map, c1, hv, ne_eq, not_true_eq_false, wrapN (n := n) (by omega)]
    exact hk _ _ ⟨_, _, rfl, rfl⟩
  · rintro fr st ⟨bs, bts, rfl, rfl⟩ k
    simp only [List.replicate, List.cons_append, List.nil_append, b_ref11_Same_0, go_sem, Pt.cells, List.length_map, Int.lt_irrefl]
    exact Good.done rfl
  · exact ⟨[], [], rfl, rfl⟩
theorem rlits_t : ∀ (m : Nat) (l : List Ce), Ce.szs l < m → m ≤ 1000000 → (∀ c ∈ l, Ce.Fine c) → tupV (callE efns given) (.call 0 f_ref12_SameLits) [.lst (l.map Ce.p), .lst (l.map Ce.p)] = some (.bool true) := by
  intro m
  induction m with
  | zero => intro l h; omega
  | succ m ih =>
    intro l hm hle hf
    have hkl := Ce.len_sz l
    refine call_good (f := f_ref12_SameLits) rfl ?_
    rw [callE_fn efns given (c := e_ref12_SameLits) rfl rfl]
    simp only [e_ref12_SameLits, go_sem, ne_eq, not_true_eq_false]
    refine Good.for l.length (fun n fr st => fr = [.lst (l.map Ce.p), .lst (l.map Ce.p), .int .i64 (n : Int)] ∧ st = ⟨[], [], [], []⟩) ?_ ?_ ?_
    · rintro n fr st hn ⟨rfl, rfl⟩ k hk
      have c1 : ((n : Int) < (l.length : Int)) = True := eq_true (by omega)
      obtain ⟨hc1, hc2, hc3⟩ := hf l[n] (List.getElem_mem hn)
      have hsz := Ce.sz_mem (List.getElem_mem hn)
      have hse := Ce.sz_eq l[n]
      have h1 := ih l[n].kids (by omega) (by omega) hc3
      have h2 := resame_t _ l[n].e (Nat.le_refl _) (by omega)
      have h3 := rpsame_t l[n].pt (by omega)
      simp only [Ex.cells, Pt.cells] at h2 h3
      simp only [b_ref12_SameLits_0, go_sem, Ce.cells, Ce.at_ hn, List.length_map, c1, h1, h2, h3, ne_eq, not_true_eq_false, wrapN (n := n) (by omega)]
      exact hk _ _ ⟨rfl, rfl⟩
    · rintro fr st ⟨rfl, rfl⟩ k
      simp only [b_ref12_SameLits_0, go_sem, List.length_map, Int.lt_irrefl]
      exact Good.done rfl
    · exact ⟨rfl, rfl⟩
theorem ex_same_refl : ∀ e : Ex, Ex.same e e = true := fun e => Ex.same_iff.2 rfl
theorem ce_same_refl : ∀ (m : Nat), (∀ c : Ce, c.sz < m → Ce.same c c = true) ∧ ∀ l : List Ce, Ce.szs l < m → Ce.sames l l = true := by
  intro m
  induction m with
  | zero => exact ⟨fun _ h => by omega, fun _ h => by omega⟩
  | succ m ih =>
    have h1 : ∀ c : Ce, c.sz < m + 1 → Ce.same c c = true := by
      intro c h
      have hs := Ce.sz_eq c
      rw [Ce.same_eq]
      have := ih.2 c.kids (by omega)
      simp [this]
    refine ⟨h1, ?_⟩
    intro l
    induction l with
    | nil => intro _; rfl
    | cons c l ihl =>
      intro h
      rw [Ce.szs] at h
      have hs := Ce.sz_eq c
      rw [Ce.sames, h1 c (by omega), ihl (by omega)]
      rfl
theorem alSame_refl (a : Al) : alSame a a = true := by
  unfold alSame
  rw [(ce_same_refl _).2 a.lits (Nat.lt_succ_self _)]
  simp

/-! ### Counts -/
theorem rcount_t : ∀ (m : Nat) (l : List Ce), Ce.szs l < m → m ≤ 1000000 → tupV (callE efns given) (.call 0 f_ref12_Count) [.lst (l.map Ce.p)] = some (.int .i64 (Ce.szs l : Int)) := by
  intro m
  induction m with
  | zero => intro l h; omega
  | succ m ih =>
    intro l hm hle
    have hkl := Ce.len_sz l
    refine call_good (f := f_ref12_Count) rfl ?_
    rw [callE_fn efns given (c := e_ref12_Count) rfl rfl]
    simp only [e_ref12_Count, go_sem]
    refine Good.for l.length (fun n fr st => fr = [.lst (l.map Ce.p), .int .i64 (Ce.szs (l.take n) : Int), .int .i64 (n : Int)]) ?_ ?_ ?_
    · rintro n fr st hn rfl k hk
      have c1 : ((n : Int) < (l.length : Int)) = True := eq_true (by omega)
      have hsz := Ce.sz_mem (List.getElem_mem hn)
      have hse := Ce.sz_eq l[n]
      have h1 := ih l[n].kids (by omega) (by omega)
      have h2 : Ce.szs (l.take (n + 1)) = Ce.szs (l.take n) + (1 + Ce.szs l[n].kids) := by
        rw [take_succ_at hn, Ce.szs_append]
        simp only [Ce.szs]
        omega
      have h3 : Ce.szs (l.take (n + 1)) ≤ Ce.szs l := by
        have := Ce.szs_append (l.take (n + 1)) (l.drop (n + 1))
        rw [List.take_append_drop] at this
        omega
      have w1 : IntKind.i64.wrap ((Ce.szs (l.take n) : Int) + 1) = (Ce.szs (l.take n) : Int) + 1 := by rw [IntKind.wrap_i64]; omega
      have w2 : IntKind.i64.wrap ((Ce.szs (l.take n) : Int) + 1 + (Ce.szs l[n].kids : Int)) = (Ce.szs (l.take (n + 1)) : Int) := by rw [IntKind.wrap_i64]; omega
      simp only [b_ref12_Count_0, go_sem, Ce.cells, Ce.at_ hn, List.length_map, c1, h1, w1, w2, wrapN (n := n) (by omega)]
      exact hk _ _ rfl
    · rintro fr st rfl k
      simp only [b_ref12_Count_0, go_sem, List.length_map, Int.lt_irrefl, List.take_length]
      exact Good.done rfl
    · rfl
/-- The parts that alternatives have. -/
inductive Ce.Wl : Ce → Prop
  | mk {c : Ce} (h : (c.k = 1 ∧ c.kids = []) ∨ (c.k = 2 ∧ c.pt.l = [] ∧ c.kids = []) ∨ (c.k = 3 ∧ c.pt.l = [])) (hk : ∀ k ∈ c.kids, Ce.Wl k) : Ce.Wl c
theorem Ce.Wl.spec {c : Ce} (h : Ce.Wl c) : c.spec = 1 + c.pt.l.length + Ce.specs c.kids := by
  obtain ⟨h, _⟩ := h
  rw [Ce.spec_eq]
  rcases h with ⟨h1, h2⟩ | ⟨h1, h2, h3⟩ | ⟨h1, h2⟩
  · simp [h1, h2, Ce.specs]
  · simp [h1, h2, h3, Ce.specs]
  · simp [h1, h2]
theorem Ce.Wl.pats {c : Ce} (h : Ce.Wl c) : c.pats = (if c.k = 1 then [c.pt] else []) ++ Ce.patl c.kids := by
  obtain ⟨h, _⟩ := h
  rw [Ce.pats_eq]
  rcases h with ⟨h1, h2⟩ | ⟨h1, h2, h3⟩ | ⟨h1, h2⟩
  · simp [h1, h2, Ce.patl]
  · simp [h1, h2, h3, Ce.patl]
  · simp [h1, h2]
theorem rspec_t : ∀ (m : Nat) (l : List Ce), Ce.szs l < m → m ≤ 10000 → (∀ c ∈ l, Ce.Fine c) → (∀ c ∈ l, Ce.Wl c) → tupV (callE efns given) (.call 0 f_ref12_Spec) [.lst (l.map Ce.p)] = some (.int .i64 (Ce.specs l : Int)) := by
  intro m
  induction m with
  | zero => intro l h; omega
  | succ m ih =>
    intro l hm hle hf hw
    have hkl := Ce.len_sz l
    have hsp := Ce.specs_le _ l hm hf
    refine call_good (f := f_ref12_Spec) rfl ?_
    rw [callE_fn efns given (c := e_ref12_Spec) rfl rfl]
    simp only [e_ref12_Spec, go_sem]
    refine Good.for l.length (fun n fr st => fr = [.lst (l.map Ce.p), .int .i64 (Ce.specs (l.take n) : Int), .int .i64 (n : Int)]) ?_ ?_ ?_
    · rintro n fr st hn rfl k hk
      have c1 : ((n : Int) < (l.length : Int)) = True := eq_true (by omega)
      have hsz := Ce.sz_mem (List.getElem_mem hn)
      have hse := Ce.sz_eq l[n]
      obtain ⟨f1, _, f2⟩ := hf _ (List.getElem_mem hn)
      have hwn := hw _ (List.getElem_mem hn)
      have hws := hwn.spec
      obtain ⟨_, hwk⟩ := hwn
      have h1 := ih l[n].kids (by omega) (by omega) f2 hwk
      have h2 : Ce.specs (l.take (n + 1)) = Ce.specs (l.take n) + l[n].spec := by
        rw [take_succ_at hn, Ce.specs_append]; simp [Ce.specs]
      have h3 : Ce.specs (l.take (n + 1)) ≤ Ce.specs l := by
        have := Ce.specs_append (l.take (n + 1)) (l.drop (n + 1))
        rw [List.take_append_drop] at this
        omega
      have w1 : IntKind.i64.wrap ((Ce.specs (l.take n) : Int) + 1) = (Ce.specs (l.take n) : Int) + 1 := by rw [IntKind.wrap_i64]; omega
      have w2 : IntKind.i64.wrap ((Ce.specs (l.take n) : Int) + 1 + (l[n].pt.l.length : Int)) = (Ce.specs (l.take n) : Int) + 1 + (l[n].pt.l.length : Int) := by rw [IntKind.wrap_i64]; omega
      have w3 : IntKind.i64.wrap ((Ce.specs (l.take n) : Int) + 1 + (l[n].pt.l.length : Int) + (Ce.specs l[n].kids : Int)) = (Ce.specs (l.take (n + 1)) : Int) := by rw [IntKind.wrap_i64]; omega
      simp only [b_ref12_Spec_0, go_sem, Ce.cells, Ce.at_ hn, List.length_map, c1, h1, w1, w2, w3, wrapN (n := n) (by omega)]
      exact hk _ _ rfl
    · rintro fr st rfl k
      simp only [b_ref12_Spec_0, go_sem, List.length_map, Int.lt_irrefl, List.take_length]
      exact Good.done rfl
    · rfl
end Go.Proofs.YtgjklaobjnjhpaaGreatPe.Normz

/- The document's patterns, negs, few, fit, logicals. -/
set_option linter.unusedVariables false
set_option linter.unusedSimpArgs false
set_option maxRecDepth 100000
namespace Go.Proofs.YtgjklaobjnjhpaaGreatPe.Normz
open Go Go.Proofs Go.Proofs.YtgjklaobjnjhpaaGreatPe Go.Proofs.YtgjklaobjnjhpaaGreatPe.NormzCode

theorem Pt.at_ {l : List Pt} {n : Nat} (h : n < l.length) : evIdx 2 (l.map Pt.p) (n : Int) = some (.ref l[n].cells) := idx_of (e := l[n].p) (map_at h) rfl
theorem rpats_t : ∀ (m : Nat) (l : List Ce), Ce.szs l < m → m ≤ 10000 → (∀ c ∈ l, Ce.Wl c) → tupV (callE efns given) (.call 0 f_ref12_Patterns) [.lst (l.map Ce.p)] = some (.lst ((Ce.patl l).map Pt.p)) := by
  intro m
  induction m with
  | zero => intro l h; omega
  | succ m ih =>
    intro l hm hle hw
    have hkl := Ce.len_sz l
    have hpl := Ce.patl_le _ l hm
    refine call_good (f := f_ref12_Patterns) rfl ?_
    rw [callE_fn efns given (c := e_ref12_Patterns) rfl rfl]
    simp only [e_ref12_Patterns, go_sem]
    refine Good.for l.length (fun n fr st => ∃ xo bs rows bts rt, fr = [.lst (l.map Ce.p), xo, .int .i64 (n : Int), .undef, .undef] ∧ st = ⟨bs, rows, bts, rt⟩ ∧
      OutV 2 T_ref12_Patterns_0 ((Ce.patl (l.take n)).map Pt.p) xo rows rt ∧ rt.length = rows.length) ?_ ?_ ?_
    · rintro n fr st hn ⟨xo, bs, rows, bts, rt, rfl, rfl, hO, hr⟩ k hk
      have c1 : ((n : Int) < (l.length : Int)) = True := eq_true (by omega)
      have cat := Ce.at_ hn
      have hsz := Ce.sz_mem (List.getElem_mem hn)
      have hwn := hw _ (List.getElem_mem hn)
      have h2 : Ce.patl (l.take (n + 1)) = Ce.patl (l.take n) ++ l[n].pats := by
        rw [take_succ_at hn, Ce.patl_append]; simp [Ce.patl]
      have hbd : (Ce.patl (l.take n)).length ≤ (Ce.patl l).length := by
        have := congrArg List.length (Ce.patl_append (l.take n) (l.drop n))
        rw [List.take_append_drop, List.length_append] at this
        omega
      rw [hwn.pats] at h2
      obtain ⟨_, hwk⟩ := hwn
      generalize l[n] = c at cat hsz h2 hwk
      have hse := Ce.sz_eq c
      have h1 := ih c.kids (by omega) (by omega) hwk
      have h5 := Ce.patl_le (Ce.szs c.kids + 1) c.kids (by omega)
      by_cases k1 : c.k = 1
      · rw [if_pos k1] at h2
        obtain ⟨out', rows', rt', ap, hO', hr', _⟩ := hO.app1 (b := 40) hr (e := .agg [.str c.pt.t, .lst (c.pt.l.map Ts.p)]) rfl (by simp; omega)
        obtain ⟨out2, rows2, rt2, ap2, hO2, hr2, _⟩ := hO'.app (b := 40) hr' (es := (Ce.patl c.kids).map Pt.p) (szAll_pt _) (by simp; omega)
        simp only [b_ref12_Patterns_0, go_sem, Ce.cells, cat, c1, List.length_map, eq_true k1, h1, V_bs1, ap, ap2, wrapN (n := n) (by omega)]
        refine hk _ _ ⟨out2, _, _, _, _, rfl, rfl, ?_, hr2⟩
        rw [h2, List.map_append, List.map_append, List.map_singleton, ← List.append_assoc]
        exact hO2
      · rw [if_neg k1, List.nil_append] at h2
        obtain ⟨out2, rows2, rt2, ap2, hO2, hr2, _⟩ := hO.app (b := 40) hr (es := (Ce.patl c.kids).map Pt.p) (szAll_pt _) (by simp; omega)
        simp only [b_ref12_Patterns_0, go_sem, Ce.cells, cat, c1, List.length_map, eq_false k1, h1, ap2, wrapN (n := n) (by omega)]
        refine hk _ _ ⟨out2, _, _, _, _, rfl, rfl, ?_, hr2⟩
        rw [h2, List.map_append]
        exact hO2
    · rintro fr st ⟨xo, bs, rows, bts, rt, rfl, rfl, hO, hr⟩ k
      rw [List.take_length] at hO
      simp only [b_ref12_Patterns_0, go_sem, List.length_map, Int.lt_irrefl]
      exact Good.done (hO.shutR _ _)
    · exact ⟨.nils, _, _, _, _, rfl, rfl, .nils, rfl⟩
theorem patterns_t (l : List Pt) (hl : l.length ≤ 1000000) (h : ∀ x ∈ l, x.l.length ≤ 1000000) : tupV (callE efns given) (.call 0 f_law13_patterns) [.lst (l.map Pt.p), .lst (l.map Pt.p)] = some (.bool true) := by
  refine call_good (f := f_law13_patterns) rfl ?_
  rw [callE_fn efns given (c := e_law13_patterns) rfl rfl]
  simp only [e_law13_patterns, go_sem, ne_eq, not_true_eq_false]
  refine Good.for l.length (fun n fr st => fr = [.lst (l.map Pt.p), .lst (l.map Pt.p), .int .i64 (n : Int)]) ?_ ?_ ?_
  · rintro n fr st hn rfl k hk
    have c1 : ((n : Int) < (l.length : Int)) = True := eq_true (by omega)
    have h1 := ptOf_t l[n] (h _ (List.getElem_mem hn))
    have h2 := rpsame_t l[n] (h _ (List.getElem_mem hn))
    simp only [Pt.p, Pt.cells] at h1 h2
    simp only [b_law13_patterns_0, go_sem, Pt.cells, Pt.at_ hn, List.length_map, c1, h1, h2, wrapN (n := n) (by omega)]
    exact hk _ _ rfl
  · rintro fr st rfl k
    simp only [b_law13_patterns_0, go_sem, List.length_map, Int.lt_irrefl]
    exact Good.done rfl
  · rfl

/-! ### Few, short -/
def fewR (l : List Rw) : Bool := decide (l.length ≤ 16) && l.all fun r => decide (Ce.szs r ≤ 40)
def fitR (l : List Rw) : Ei (List Rw) := if fewR l = true then .ok l else .error 4
theorem few_t {l : List Rw} (h : ∀ r ∈ l, Ce.szs r ≤ 100000) : tupV (callE efns given) (.call 0 f_ref12_few) [.lst (l.map rowP)] = some (.bool (fewR l)) := by
  refine call_good (f := f_ref12_few) rfl ?_
  rw [callE_fn efns given (c := e_ref12_few) rfl rfl]
  unfold fewR
  by_cases hl : l.length ≤ 16
  · have c1 : ((l.length : Int) > 16) = False := eq_false (by omega)
    rw [decide_eq_true hl, Bool.true_and]
    simp only [e_ref12_few, go_sem, List.length_map, c1]
    refine Good.for l.length (fun n fr st => fr = [.lst (l.map rowP), .int .i64 (n : Int)] ∧ (l.all fun r => decide (Ce.szs r ≤ 40)) = ((l.drop n).all fun r => decide (Ce.szs r ≤ 40))) ?_ ?_ ?_
    · rintro n fr st hn ⟨rfl, he⟩ k hk
      have c2 : ((n : Int) < (l.length : Int)) = True := eq_true (by omega)
      have xat := Rw.at_ hn
      have hs := h _ (List.getElem_mem hn)
      rw [List.drop_eq_getElem_cons hn, List.all_cons] at he
      generalize l[n] = r at xat hs he
      have hc := rcount_t (Ce.szs r + 1) r (by omega) (by omega)
      by_cases h40 : Ce.szs r ≤ 40
      · have c3 : ((Ce.szs r : Int) > 40) = False := eq_false (by omega)
        rw [decide_eq_true h40, Bool.true_and] at he
        simp only [b_ref12_few_0, go_sem, List.length_map, c2, xat, hc, c3, wrapN (n := n) (by omega)]
        exact hk _ _ ⟨rfl, he⟩
      · have c3 : ((Ce.szs r : Int) > 40) = True := eq_true (by omega)
        rw [decide_eq_false h40, Bool.false_and] at he
        simp only [b_ref12_few_0, go_sem, List.length_map, c2, xat, hc, c3]
        exact Good.done (by rw [he]; rfl)
    · rintro fr st ⟨rfl, he⟩ k
      rw [List.drop_length] at he
      simp only [b_ref12_few_0, go_sem, List.length_map, Int.lt_irrefl]
      exact Good.done (by rw [he]; rfl)
    · exact ⟨rfl, rfl⟩
  · have c1 : ((l.length : Int) > 16) = True := eq_true (by omega)
    rw [decide_eq_false hl, Bool.false_and]
    simp only [e_ref12_few, go_sem, List.length_map, c1]
    exact Good.done rfl
theorem fit_t {l : List Rw} (h : ∀ r ∈ l, Ce.szs r ≤ 100000) : tupV (callE efns given) (.call 0 f_ref12_fit) [.lst (l.map rowP)] = some (rowsV (fitR l)) := by
  refine call_good (f := f_ref12_fit) rfl ?_
  rw [callE_fn efns given (c := e_ref12_fit) rfl rfl]
  have hf := few_t h
  unfold fitR
  cases hb : fewR l with
  | true =>
    rw [hb] at hf
    simp only [e_ref12_fit, go_sem, hf, if_true]
    exact Good.done rfl
  | false =>
    rw [hb] at hf
    simp only [e_ref12_fit, go_sem, hf, Bool.false_eq_true, if_false]
    exact Good.done rfl
theorem rnegs_t {l : List Rw} (hl : l.length ≤ 1000) : tupV (callE efns given) (.call 0 f_ref12_negs) [.lst (l.map rowP)] = some (.lst ((negsM l).map Ce.p)) := by
  refine call_good (f := f_ref12_negs) rfl ?_
  rw [callE_fn efns given (c := e_ref12_negs) rfl rfl]
  simp only [e_ref12_negs, go_sem]
  refine Good.for l.length (fun n fr st => ∃ out rows rt, fr = [.lst (l.map rowP), out, .int .i64 (n : Int), .undef] ∧ st = ⟨[], rows, [], rt⟩ ∧
    OutV 11 T_ref12_negs_0 ((negsM (l.take n)).map Ce.p) out rows rt ∧ rt.length = rows.length) ?_ ?_ ?_
  · rintro n fr st hn ⟨out, rows, rt, rfl, rfl, hO, hr⟩ k hk
    have c1 : ((n : Int) < (l.length : Int)) = True := eq_true (by omega)
    have xat := Rw.at_ hn
    have hbs : tupV (callE efns given) (.bslice 11 [.int .i64 0, .str [], .str [], .nils, .int .i64 0, .int .i64 0, .int .i64 0, .str [], .str [], .nils, .nils] 1 [0]) [.agg [.int .i64 3, .str [], .str [], .nils, .int .i64 0, .int .i64 0, .int .i64 0, .str [], .str [], .nils, .lst (l[n].map Ce.p)]] =
        some (.full [.agg [.int .i64 3, .str [], .str [], .lst [], .int .i64 0, .int .i64 0, .int .i64 0, .str [], .str [], .lst [], .lst (l[n].map Ce.p)]]) := V_bs1 rfl rfl rfl
    obtain ⟨out', rows', rt', ap, hO', hr', _⟩ := hO.app1 (b := 168) hr (e := .agg [.int .i64 3, .str [], .str [], .lst [], .int .i64 0, .int .i64 0, .int .i64 0, .str [], .str [], .lst [], .lst (l[n].map Ce.p)]) rfl (by simp [negsM]; omega)
    simp only [b_ref12_negs_0, go_sem, List.length_map, c1, xat, hbs, ap, wrapN (n := n) (by omega)]
    refine hk _ _ ⟨out', rows', rt', rfl, rfl, ?_, hr'⟩
    rw [take_succ_at hn]
    unfold negsM at hO' ⊢
    rw [List.map_append, List.map_append, List.map_singleton, List.map_singleton, negL, Ce.p_eq]
    exact hO'
  · rintro fr st ⟨out, rows, rt, rfl, rfl, hO, hr⟩ k
    simp only [b_ref12_negs_0, go_sem, List.length_map, Int.lt_irrefl]
    rw [List.take_length] at hO
    exact Good.done (hO.shutR _ _)
  · exact ⟨.nils, [], [], rfl, rfl, .nils, rfl⟩
theorem logicals_t : ∀ (m : Nat) (l : List Ce), Ce.szs l < m → m ≤ 1000000 → tupV (callE efns given) (.call 0 f_ref12_logicals) [.lst (l.map Ce.p)] = some (.bool (Ce.logL l)) := by
  intro m
  induction m with
  | zero => intro l h; omega
  | succ m ih =>
    intro l hm hle
    have hkl := Ce.len_sz l
    refine call_good (f := f_ref12_logicals) rfl ?_
    rw [callE_fn efns given (c := e_ref12_logicals) rfl rfl]
    simp only [e_ref12_logicals, go_sem]
    refine Good.for l.length (fun n fr st => fr = [.lst (l.map Ce.p), .int .i64 (n : Int)] ∧ Ce.logL l = Ce.logL (l.drop n)) ?_ ?_ ?_
    · rintro n fr st hn ⟨rfl, he⟩ k hk
      have c1 : ((n : Int) < (l.length : Int)) = True := eq_true (by omega)
      have cat := Ce.at_ hn
      have hsz := Ce.sz_mem (List.getElem_mem hn)
      rw [List.drop_eq_getElem_cons hn, Ce.logL, Ce.logB_eq] at he
      generalize l[n] = c at cat hsz he
      have hse := Ce.sz_eq c
      have h1 := ih c.kids (by omega) (by omega)
      by_cases k8 : c.k = 8
      · simp only [b_ref12_logicals_0, go_sem, Ce.cells, cat, c1, List.length_map, eq_true k8]
        exact Good.done (by rw [he]; simp [k8]; rfl)
      · rw [decide_eq_false k8, Bool.false_or] at he
        cases hb : Ce.logL c.kids with
        | true =>
          rw [hb] at h1 he
          simp only [b_ref12_logicals_0, go_sem, Ce.cells, cat, c1, List.length_map, eq_false k8, h1]
          exact Good.done (by rw [he]; rfl)
        | false =>
          rw [hb, Bool.false_or] at he
          rw [hb] at h1
          simp only [b_ref12_logicals_0, go_sem, Ce.cells, cat, c1, List.length_map, eq_false k8, h1, wrapN (n := n) (by omega)]
          exact hk _ _ ⟨rfl, he⟩
    · rintro fr st ⟨rfl, he⟩ k
      rw [List.drop_length] at he
      simp only [b_ref12_logicals_0, go_sem, List.length_map, Int.lt_irrefl]
      exact Good.done (by rw [he]; rfl)
    · exact ⟨rfl, rfl⟩
end Go.Proofs.YtgjklaobjnjhpaaGreatPe.Normz

/- Joining and or-ing as fits; two slices as one. -/
set_option linter.unusedVariables false
set_option linter.unusedSimpArgs false
set_option maxRecDepth 100000
namespace Go.Proofs.YtgjklaobjnjhpaaGreatPe.Normz
open Go Go.Proofs Go.Proofs.YtgjklaobjnjhpaaGreatPe Go.Proofs.YtgjklaobjnjhpaaGreatPe.NormzCode

theorem few_iff {l : List Rw} : fewR l = true ↔ Small l := by
  unfold fewR Small
  simp only [Bool.and_eq_true, decide_eq_true_eq, List.all_eq_true]
theorem fit_ok {l : List Rw} (h : Small l) : fitR l = .ok l := if_pos (few_iff.2 h)
theorem fit_bad {l : List Rw} (h : ¬ Small l) : fitR l = .error 4 := if_neg fun e => h (few_iff.1 e)
theorem fit_small {l o : List Rw} (h : fitR l = .ok o) : o = l ∧ Small l := by
  unfold fitR at h
  split at h
  · rename_i hf; cases h; exact ⟨rfl, few_iff.1 hf⟩
  · cases h
def putL : List Rw → List Rw → Ei (List Rw)
  | [], out => .ok out
  | r :: l, out => match putM out r with
    | .error e => .error e
    | .ok o => putL l o
theorem putL_fit : ∀ {l out : List Rw}, Small out → putL l out = fitR (out ++ l)
  | [], out, h => by rw [List.append_nil, fit_ok h]; rfl
  | r :: l, out, h => by
    rw [putL, putM]
    by_cases hc : out.length ≥ 16 ∨ Ce.szs r > 40
    · rw [if_pos hc, fit_bad]
      intro hs
      rcases hc with hc | hc
      · have := hs.1
        simp at this
        omega
      · have := hs.2 r (by simp)
        omega
    · rw [if_neg hc]
      simp only
      rw [putL_fit, List.append_assoc, List.singleton_append]
      refine ⟨by simp; omega, fun x hx => ?_⟩
      rcases List.mem_append.1 hx with hx | hx
      · exact h.2 x hx
      · rw [List.mem_singleton.1 hx]; omega
theorem putL_append : ∀ {l m out : List Rw}, putL (l ++ m) out = match putL l out with
    | .error e => .error e
    | .ok o => putL m o
  | [], m, out => rfl
  | r :: l, m, out => by
    rw [List.cons_append, putL, putL]
    cases putM out r with
    | error e => rfl
    | ok o => exact putL_append
theorem joinB_put {x : Rw} : ∀ {b out : List Rw}, joinB x b out = putL (b.map (x ++ ·)) out
  | [], out => rfl
  | y :: b, out => by
    rw [joinB, List.map_cons, putL]
    cases putM out (x ++ y) with
    | error e => rfl
    | ok o => exact joinB_put
def prodR (a b : List Rw) : List Rw := a.flatMap fun x => b.map (x ++ ·)
theorem joinM_put {b : List Rw} : ∀ {a out : List Rw}, joinM b a out = putL (prodR a b) out
  | [], out => rfl
  | x :: a, out => by
    rw [joinM, joinB_put, prodR, List.flatMap_cons, putL_append]
    cases putL (b.map (x ++ ·)) out with
    | error e => rfl
    | ok o => exact joinM_put
theorem orB_put : ∀ {x out : List Rw}, orB x out = putL x out
  | [], out => rfl
  | r :: x, out => by
    rw [orB, putL]
    cases putM out r with
    | error e => rfl
    | ok o => exact orB_put
theorem forB_put {z : Rw} : ∀ {x out : List Rw}, forB z x out = putL (x.map (· ++ z)) out
  | [], out => rfl
  | r :: x, out => by
    rw [forB, List.map_cons, putL]
    cases putM out (r ++ z) with
    | error e => rfl
    | ok o => exact forB_put
theorem join_fit {a b : List Rw} : joinM b a [] = fitR (prodR a b) := by rw [joinM_put, putL_fit small_nil]; rfl
theorem or_fit {x out : List Rw} (h : Small out) : orB x out = fitR (out ++ x) := by rw [orB_put, putL_fit h]
theorem for_fit {z : Rw} {x : List Rw} : forB z x [] = fitR (x.map (· ++ z)) := by rw [forB_put, putL_fit small_nil]; rfl
theorem prodR_len : ∀ {a b : List Rw}, (prodR a b).length = a.length * b.length
  | [], b => by simp [prodR]
  | x :: a, b => by
    have := prodR_len (a := a) (b := b)
    unfold prodR at this ⊢
    rw [List.flatMap_cons, List.length_append, this, List.length_map, List.length_cons, Nat.succ_mul]
    omega
theorem prodR_one {b : List Rw} : prodR [[]] b = b := by
  unfold prodR
  simp
theorem prodR_append {a a' b : List Rw} : prodR (a ++ a') b = prodR a b ++ prodR a' b := by
  unfold prodR
  rw [List.flatMap_append]
theorem prodR_single {x : Rw} {b : List Rw} : prodR [x] b = b.map (x ++ ·) := by
  unfold prodR
  simp
theorem prodR_sz {a b : List Rw} (ha : Small a) (hb : Small b) : ∀ r ∈ prodR a b, Ce.szs r ≤ 80 := by
  intro r hr
  unfold prodR at hr
  obtain ⟨x, hx, hr⟩ := List.mem_flatMap.1 hr
  obtain ⟨y, hy, rfl⟩ := List.mem_map.1 hr
  have h1 := ha.2 x hx
  have h2 := hb.2 y hy
  rw [Ce.szs_append]
  omega

/-! ### Two as one -/
theorem cat_ok {T : TypeId} {a b : List PV} (ha : szAll 11 a = true) (hb : szAll 11 b = true) (hl : (a.length + b.length) * 169 ≤ 70368744177664) {rows : List (Nat × Nat)} {rt : List TypeId} (hr : rt.length = rows.length) :
    ∃ v1 rows1 rt1 v2 rows2 rt2, (∀ bs bt, evAppend 11 168 T (if a.isEmpty = true then .emp else .full []) a ⟨bs, rows, bt, rt⟩ = some (v1, ⟨bs, rows1, bt, rt1⟩)) ∧
      (∀ bs bt, evAppend 11 168 T (if b.isEmpty = true then v1 else v1.nm) b ⟨bs, rows1, bt, rt1⟩ = some (v2, ⟨bs, rows2, bt, rt2⟩)) ∧
      OutV 11 T (a ++ b) v2 rows2 rt2 ∧ rt2.length = rows2.length ∧ (∀ n2 T2 l2 x2, OutV n2 T2 l2 x2 rows rt → OutV n2 T2 l2 x2 rows2 rt2) := by
  have h0 : OutV 11 T [] .emp rows rt := .inl ⟨rfl, rfl⟩
  obtain ⟨v1, rows1, rt1, a1, o1, r1, _, k1, _, n1⟩ := h0.app (b := 168) hr (es := a) ha (by simp; omega)
  obtain ⟨v2, rows2, rt2, a2, o2, r2, _, k2, _, _⟩ := o1.app (b := 168) r1 (es := b) hb (by simp; omega)
  refine ⟨v1, rows1, rt1, v2, rows2, rt2, a1, a2, o2, r2, fun n2 T2 l2 x2 h => ?_⟩
  have h1 := k1 n2 T2 l2 x2 h (fun r l1 e => by cases e)
  refine k2 n2 T2 l2 x2 h1 fun r l1 e => ?_
  rintro rfl
  rcases n1 r l1 e with ⟨l0, e0⟩ | hge
  · cases e0
  · rcases h with ⟨e2, _⟩ | ⟨r', e2, e3, _⟩
    · cases e2
    · cases e2
      have := (List.getElem?_eq_some_iff.1 e3).1
      omega
end Go.Proofs.YtgjklaobjnjhpaaGreatPe.Normz

/- The document's rows. -/
set_option linter.unusedVariables false
set_option linter.unusedSimpArgs false
set_option maxRecDepth 100000
namespace Go.Proofs.YtgjklaobjnjhpaaGreatPe.Normz
open Go Go.Proofs Go.Proofs.YtgjklaobjnjhpaaGreatPe Go.Proofs.YtgjklaobjnjhpaaGreatPe.NormzCode

/-- Conditions without a Logical, as they are read. -/
inductive Ce.Wc : Ce → Prop
  | mk {c : Ce} (h : c.k = 1 ∨ c.k = 2 ∨ c.k = 4 ∨ c.k = 5 ∨ (c.k = 3 ∧ c.kids.length = 1) ∨ c.k = 6 ∨ (c.k = 7 ∧ 1 ≤ c.kids.length)) (hk : ∀ k ∈ c.kids, Ce.Wc k) : Ce.Wc c
structure RefOk (f : Nat) : Prop where
  alts : ∀ c : Ce, Ce.Wc c → 3 * c.sz ≤ f → c.sz ≤ 100000 → tupV (callE efns given) (.call 0 f_ref12_alts) [.agg c.cells] = some (rowsV (oneN f c))
  rows : ∀ l : List Ce, (∀ c ∈ l, Ce.Wc c) → 3 * Ce.szs l + 1 ≤ f → Ce.szs l ≤ 100000 → tupV (callE efns given) (.call 0 f_ref12_rows) [.lst (l.map Ce.p)] = some (rowsV (andN f l [[]]))
theorem sl_idx {l : List PV} {x : PV} (h : SlV l x) {m : Nat} {i : Nat} {k : IntKind} (hi : i < l.length) : biV (.idx m) x (.int k (i : Int)) = evIdx m l (i : Int) :=
  h.cases (P := fun x => biV (.idx m) x (.int k (i : Int)) = evIdx m l (i : Int)) (fun e => by rw [e] at hi; simp at hi) (fun e => by rw [e] at hi; simp at hi) rfl (fun _ => rfl) rfl (fun e => by rw [e] at hi; simp at hi)
theorem szAll_rw (l : List Rw) : szAll 1 (l.map rowP) = true := by
  refine List.all_eq_true.2 fun e he => ?_
  obtain ⟨c, _, rfl⟩ := List.mem_map.1 he
  rfl
theorem prod_small {a b : List Rw} (ha : Small a) (hb : Small b) : (prodR a b).length ≤ 256 := by
  rw [prodR_len]
  exact Nat.mul_le_mul ha.1 hb.1
theorem prod_take {a b : List Rw} (n : Nat) (ha : Small a) (hb : Small b) : (prodR (a.take n) b).length ≤ 256 := by
  rw [prodR_len]
  refine Nat.mul_le_mul (Nat.le_trans ?_ ha.1) hb.1
  rw [List.length_take]
  omega
theorem few_v {l : List Rw} (h : ∀ r ∈ l, Ce.szs r ≤ 100000) {x : PV} (hx : SlV (l.map rowP) x) : tupV (callE efns given) (.call 0 f_ref12_few) [x] = some (.bool (fewR l)) :=
  (tup_shut ((mS (hx.shutA _) mN).trans (mS rfl mN).symm)).trans (few_t h)

set_option maxHeartbeats 4000000 in
theorem rows_of {f : Nat} (IH : ∀ f', f' < f → RefOk f') (l : List Ce) (hw : ∀ c ∈ l, Ce.Wc c) (hf : 3 * Ce.szs l + 1 ≤ f) (hl : Ce.szs l ≤ 100000) : tupV (callE efns given) (.call 0 f_ref12_rows) [.lst (l.map Ce.p)] = some (rowsV (andN f l [[]])) := by
  have hll := Ce.len_sz l
  refine call_good (f := f_ref12_rows) rfl ?_
  rw [callE_fn efns given (c := e_ref12_rows) rfl rfl]
  simp only [e_ref12_rows, go_sem]
  generalize hL : andN f l [[]] = L
  refine Good.for l.length (fun n fr st => ∃ x out f' bs rows bts rt, fr = [.lst (l.map Ce.p), x, .int .i64 (n : Int)] ++ List.replicate 8 .undef ∧ st = ⟨bs, rows, bts, rt⟩ ∧ rt.length = rows.length ∧ SlV (out.map rowP) x ∧ Small out ∧ f' ≤ f ∧ 3 * Ce.szs (l.drop n) + 1 ≤ f' ∧ L = andN f' (l.drop n) out) ?_ ?_ ?_
  · rintro n fr st hn ⟨x, out, f', bs, rows, bts, rt, rfl, rfl, hr, hx, hsm, hf1, hf2, he⟩ k hk
    obtain ⟨f', rfl⟩ : ∃ q, f' = q + 1 := ⟨f' - 1, by omega⟩
    have c1 : ((n : Int) < (l.length : Int)) = True := eq_true (by omega)
    have cat := Ce.at_ hn
    have hd := List.drop_eq_getElem_cons hn
    have hds := Ce.szs_drop_le l n
    have hwn := hw _ (List.getElem_mem hn)
    rw [hd] at he hf2 hds
    simp only [Ce.szs] at hf2 hds
    unfold andN at he
    simp only at he
    generalize l[n] = c at cat he hf2 hds hwn
    have h1 := (IH f' (by omega)).alts c hwn (by omega) (by omega)
    simp only [Ce.cells] at h1
    cases hm : oneN f' c with
    | error e =>
      rw [hm] at he h1
      simp only [rowsV] at h1
      have hne := (all_err f').1 _ _ hm
      simp only [List.replicate, List.cons_append, List.nil_append, b_ref12_rows_2, go_sem, Ce.cells, List.length_map, c1, cat, h1, eq_false hne, ne_eq]
      exact Good.done (by rw [he]; rfl)
    | ok y =>
      rw [hm] at he h1
      simp only [rowsV] at h1
      have hys := (all_small f').1 _ _ hm
      simp only at he
      rw [join_fit] at he
      have hxl := hx.len
      rw [List.length_map] at hxl
      have hmul : IntKind.i64.wrap ((out.length : Int) * (y.length : Int)) = ((out.length * y.length : Nat) : Int) := by
        have h2 := Nat.mul_le_mul hsm.1 hys.1
        rw [← Int.natCast_mul, IntKind.wrap_i64]
        omega
      by_cases h16 : out.length * y.length > 16
      · have c2 : (((out.length * y.length : Nat) : Int) > 16) = True := eq_true (by omega)
        have hb : fitR (prodR out y) = .error 4 := fit_bad fun hs => by
          have := hs.1
          rw [prodR_len] at this
          omega
        rw [hb] at he
        simp only [List.replicate, List.cons_append, List.nil_append, b_ref12_rows_2, go_sem, Ce.cells, List.length_map, c1, cat, h1, hxl, hmul, c2, ne_eq, not_true_eq_false]
        exact Good.done (by rw [he]; rfl)
      · have c2 : (((out.length * y.length : Nat) : Int) > 16) = False := eq_false (by omega)
        simp only [List.replicate, List.cons_append, List.nil_append, b_ref12_rows_2, go_sem, Ce.cells, List.length_map, c1, cat, h1, hxl, hmul, c2, ne_eq, not_true_eq_false]
        refine Good.for out.length (fun j fr st => ∃ z bs rows bts rt, fr = [.lst (l.map Ce.p), x, .int .i64 (n : Int), .lst (y.map rowP), z, .int .i64 (j : Int)] ++ List.replicate 5 .undef ∧ st = ⟨bs, rows, bts, rt⟩ ∧ rt.length = rows.length ∧
          OutV 1 T_ref12_rows_1 ((prodR (out.take j) y).map rowP) z rows rt) ?_ ?_ ?_
        · rintro j fr st hj ⟨z, bs, rows, bts, rt, rfl, rfl, hr, hO⟩ k2 hk2
          have c3 : ((j : Int) < (out.length : Int)) = True := eq_true (by omega)
          have oat := Rw.at_ hj
          have hxi := sl_idx hx (m := 1) (k := .i64) (i := j) (by simpa using hj)
          rw [oat] at hxi
          have hso := hsm.2 _ (List.getElem_mem hj)
          have hpt : prodR (out.take (j + 1)) y = prodR (out.take j) y ++ y.map (out[j] ++ ·) := by rw [take_succ_at hj, prodR_append, prodR_single]
          have hp := prod_take j hsm hys
          generalize out[j] = o at oat hxi hso hpt
          simp only [List.replicate, List.cons_append, List.nil_append, b_ref12_rows_1, go_sem, hxl, c3]
          refine Good.for y.length (fun i fr st => ∃ z bs rows bts rt, fr = [.lst (l.map Ce.p), x, .int .i64 (n : Int), .lst (y.map rowP), z, .int .i64 (j : Int), .int .i64 (i : Int)] ++ List.replicate 4 .undef ∧ st = ⟨bs, rows, bts, rt⟩ ∧ rt.length = rows.length ∧
            OutV 1 T_ref12_rows_1 ((prodR (out.take j) y ++ (y.take i).map (o ++ ·)).map rowP) z rows rt) ?_ ?_ ?_
          · rintro i fr st hi ⟨z, bs, rows, bts, rt, rfl, rfl, hr, hO⟩ k3 hk3
            have c4 : ((i : Int) < (y.length : Int)) = True := eq_true (by omega)
            have yat := Rw.at_ hi
            have hsy := hys.2 _ (List.getElem_mem hi)
            have hy16 := hys.1
            have htk : (y.take (i + 1)).map (o ++ ·) = (y.take i).map (o ++ ·) ++ [o ++ y[i]] := by rw [take_succ_at hi, List.map_append, List.map_singleton]
            generalize y[i] = r at yat hsy htk
            have hlo := Ce.len_sz o
            have hlr := Ce.len_sz r
            obtain ⟨v1, rows1, rt1, v2, rows2, rt2, a1, a2, o2, r2, keep⟩ := cat_ok (T := T_ref12_rows_0) (a := o.map Ce.p) (b := r.map Ce.p) (szAll_ce o) (szAll_ce r) (by simp only [List.length_map]; omega) hr
            have hO2 := keep _ _ _ _ hO
            obtain ⟨z3, rows3, rt3, a3, hO3, hr3, _⟩ := hO2.app1 (b := 24) r2 (e := .lst (o.map Ce.p ++ r.map Ce.p)) rfl (by simp only [List.length_map, List.length_append, List.length_take]; omega)
            have fin : OutV 1 T_ref12_rows_1 ((prodR (out.take j) y ++ (y.take (i + 1)).map (o ++ ·)).map rowP) z3 rows3 rt3 := by
              have e1 : rowP (o ++ r) = .lst (o.map Ce.p ++ r.map Ce.p) := by rw [rowP, List.map_append]
              rw [htk, ← List.append_assoc, List.map_append, List.map_singleton, e1]
              exact hO3
            rcases o2.sl.or with ⟨rfl, e⟩ | ⟨rfl, e⟩ | ⟨rfl, e⟩ | rfl | ⟨q, rfl⟩ | rfl
            all_goals
              try rw [e] at a3
              simp only [List.replicate, List.cons_append, List.nil_append, b_ref12_rows_0, go_sem, List.length_map, c4, hxi, yat, a1, a2, a3, wrapN (n := i) (by omega)]
              exact hk3 _ _ ⟨z3, _, _, _, _, rfl, rfl, hr3, fin⟩
          · rintro fr st ⟨z, bs, rows, bts, rt, rfl, rfl, hr, hO⟩ k3
            rw [List.take_length, ← hpt] at hO
            simp only [List.replicate, List.cons_append, List.nil_append, b_ref12_rows_0, go_sem, List.length_map, Int.lt_irrefl, wrapN (n := j) (by have := hsm.1; omega)]
            exact hk2 _ _ ⟨z, _, _, _, _, rfl, rfl, hr, hO⟩
          · exact ⟨z, _, _, _, _, rfl, rfl, hr, by rw [List.take_zero, List.map_nil, List.append_nil]; exact hO⟩
        · rintro fr st ⟨z, bs, rows, bts, rt, rfl, rfl, hr, hO⟩ k2
          rw [List.take_length] at hO
          have hfw := few_v (fun r hr => by have := prodR_sz hsm hys r hr; omega) hO.sl
          cases hb : fewR (prodR out y) with
          | true =>
            rw [hb] at hfw
            have hs := few_iff.1 hb
            rw [fit_ok hs] at he
            simp only [List.replicate, List.cons_append, List.nil_append, b_ref12_rows_1, go_sem, hxl, Int.lt_irrefl, hfw, wrapN (n := n) (by omega)]
            exact hk _ _ ⟨z, prodR out y, f', _, _, _, _, rfl, rfl, hr, hO.sl, hs, by omega, by have := Ce.sz_eq c; omega, he⟩
          | false =>
            rw [hb] at hfw
            have hs : ¬ Small (prodR out y) := fun h => by rw [few_iff.2 h] at hb; cases hb
            rw [fit_bad hs] at he
            simp only [List.replicate, List.cons_append, List.nil_append, b_ref12_rows_1, go_sem, hxl, Int.lt_irrefl, hfw]
            exact Good.done (by rw [he]; rfl)
        · exact ⟨.nils, _, _, _, _, rfl, rfl, hr, .nils⟩
  · rintro fr st ⟨x, out, f', bs, rows, bts, rt, rfl, rfl, hr, hx, hsm, hf1, hf2, he⟩ k
    obtain ⟨f', rfl⟩ : ∃ q, f' = q + 1 := ⟨f' - 1, by omega⟩
    rw [List.drop_eq_nil_of_le (i := l.length) (Nat.le_refl _)] at he
    unfold andN at he
    simp only [List.replicate, List.cons_append, List.nil_append, b_ref12_rows_2, go_sem, List.length_map, Int.lt_irrefl]
    exact Good.done (by rw [he]; exact ret_tup (mS (hx.shutR _ _) (mS rfl mN)))
  · exact ⟨_, [[]], f, _, _, _, _, rfl, rfl, rfl, rfl, small_one, Nat.le_refl _, hf, hL.symm⟩
end Go.Proofs.YtgjklaobjnjhpaaGreatPe.Normz

/- The document's alternatives of one condition. -/
set_option linter.unusedVariables false
set_option linter.unusedSimpArgs false
set_option maxRecDepth 100000
namespace Go.Proofs.YtgjklaobjnjhpaaGreatPe.Normz
open Go Go.Proofs Go.Proofs.YtgjklaobjnjhpaaGreatPe Go.Proofs.YtgjklaobjnjhpaaGreatPe.NormzCode

theorem put_fit {r : Rw} : putM [] r = fitR [r] := by
  have h := putL_fit (l := [r]) small_nil
  rw [putL] at h
  rw [List.nil_append] at h
  rw [← h]
  cases putM [] r <;> rfl
theorem and_one {f : Nat} {x : Ce} : andN (f + 2) [x] [[]] = oneN (f + 1) x := by
  rw [andN]
  cases hx : oneN (f + 1) x with
  | error e => rfl
  | ok y =>
    simp only
    rw [join_fit, prodR_one, fit_ok ((all_small _).1 _ _ hx)]
    simp only
    rw [andN]
theorem fit_one {r : Rw} (h : Ce.szs r ≤ 100000) : tupV (callE efns given) (.call 0 f_ref12_fit) [.full [.lst (r.map Ce.p)]] = some (rowsV (fitR [r])) :=
  (tup_shut (ws := [.lst [rowP r]]) rfl).trans (fit_t (l := [r]) (fun x hx => by rw [List.mem_singleton.1 hx]; exact h))
theorem szs_map_app {x : List Rw} {z : Rw} (hx : Small x) (hz : Ce.szs z ≤ 656) : Ce.szs (negsM (x.map (· ++ z))) ≤ 20000 := by
  have key : ∀ (l : List Rw), (∀ r ∈ l, Ce.szs r ≤ 700) → Ce.szs (negsM l) ≤ 701 * l.length := by
    intro l
    induction l with
    | nil => intro _; simp [negsM, Ce.szs]
    | cons r l ih =>
      intro h
      have h1 := ih fun x hx => h x (by simp [hx])
      have h2 := h r (by simp)
      have h3 : (negL r).sz = Ce.szs r + 1 := by simp [negL, Ce.sz]
      unfold negsM at h1 ⊢
      rw [List.map_cons, Ce.szs, h3, List.length_cons]
      omega
  have h1 := key (x.map (· ++ z)) (fun r hr => by
    obtain ⟨y, hy, rfl⟩ := List.mem_map.1 hr
    have := hx.2 y hy
    rw [Ce.szs_append]
    omega)
  rw [List.length_map] at h1
  have := hx.1
  omega
theorem szs_le_negs {l : List Rw} : ∀ r ∈ l, Ce.szs r ≤ Ce.szs (negsM l) := by
  induction l with
  | nil => intro r h; cases h
  | cons x l ih =>
    intro r h
    have h3 : (negL x).sz = Ce.szs x + 1 := by simp [negL, Ce.sz]
    unfold negsM at ih ⊢
    rw [List.map_cons, Ce.szs, h3]
    rcases List.mem_cons.1 h with rfl | h
    · omega
    · have := ih r h
      omega
/-- Groups too long apart are too long as one. -/
theorem for_put {z : Rw} {x : List Rw} (hx : Small x) : (match forB z x [] with
    | .error e => (.error e : Ei (List Rw))
    | .ok o => putM [] (negsM o)) = fitR [negsM (x.map (· ++ z))] := by
  rw [for_fit]
  by_cases h : Small (x.map (· ++ z))
  · rw [fit_ok h]
    exact put_fit
  · rw [fit_bad h, fit_bad]
    intro hs
    apply h
    refine ⟨by have := hx.1; simpa using this, fun r hr => ?_⟩
    have h1 := szs_le_negs r hr
    have h2 := hs.2 _ (List.mem_singleton.2 rfl)
    omega
set_option maxHeartbeats 4000000 in
theorem altsOr_of {f : Nat} (IH : ∀ f', f' ≤ f → RefOk f') (c : Ce) (hk : ∀ k ∈ c.kids, Ce.Wc k) (k5 : c.k = 5) (hf : 3 * c.sz ≤ f + 1) (hl : c.sz ≤ 100000) : tupV (callE efns given) (.call 0 f_ref12_alts) [.agg c.cells] = some (rowsV (orN f c.kids [])) := by
  have hsz := Ce.sz_eq c
  have hll := Ce.len_sz c.kids
  have q1 : (c.k = 1) = False := eq_false (by omega)
  have q2 : (c.k = 2) = False := eq_false (by omega)
  have q4 : (c.k = 4) = False := eq_false (by omega)
  refine call_good (f := f_ref12_alts) rfl ?_
  rw [callE_fn efns given (c := e_ref12_alts) rfl rfl]
  simp only [e_ref12_alts, go_sem, Ce.cells, q1, q2, q4, eq_true k5]
  generalize hL : orN f c.kids [] = L
  refine Good.for c.kids.length (fun n fr st => ∃ xo out f' rows rt, fr = [.undef, .ptr 0 0, xo, .int .i64 (n : Int)] ++ List.replicate 31 .undef ∧ st = ⟨[c.cells], rows, [T_ref12_alts_2], rt⟩ ∧ rt.length = rows.length ∧ OutV 1 T_ref12_alts_0 (out.map rowP) xo rows rt ∧ Small out ∧ f' ≤ f ∧ 3 * Ce.szs (c.kids.drop n) + 1 ≤ f' ∧ L = orN f' (c.kids.drop n) out) ?_ ?_ ?_
  · rintro n fr st hn ⟨xo, out, f', rows, rt, rfl, rfl, hr, hO, hsm, hf1, hf2, he⟩ k hk'
    obtain ⟨f', rfl⟩ : ∃ q, f' = q + 1 := ⟨f' - 1, by omega⟩
    have c1 : ((n : Int) < (c.kids.length : Int)) = True := eq_true (by omega)
    have cat := Ce.at_ hn
    have hd := List.drop_eq_getElem_cons hn
    have hds := Ce.szs_drop_le c.kids n
    have hwn := hk _ (List.getElem_mem hn)
    rw [hd] at he hf2 hds
    simp only [Ce.szs] at hf2 hds
    unfold orN at he
    simp only at he
    generalize c.kids[n] = d at cat he hf2 hds hwn
    have h1 := (IH f' (by omega)).alts d hwn (by omega) (by omega)
    simp only [Ce.cells] at h1 cat
    cases hm : oneN f' d with
    | error e =>
      rw [hm] at he h1
      simp only [rowsV] at h1
      have hne := (all_err f').1 _ _ hm
      simp only [List.replicate, List.cons_append, List.nil_append, b_ref12_alts_0, go_sem, Ce.cells, List.length_map, c1, cat, h1, eq_false hne, ne_eq]
      exact Good.done (by rw [he]; rfl)
    | ok y =>
      rw [hm] at he h1
      simp only [rowsV] at h1
      have hys := (all_small f').1 _ _ hm
      have hy16 := hys.1
      have ho16 := hsm.1
      simp only at he
      rw [or_fit hsm] at he
      obtain ⟨z, rows', rt', ap, hO', hr', _⟩ := hO.app (b := 24) hr (es := y.map rowP) (szAll_rw y) (by simp only [List.length_map]; omega)
      rw [← List.map_append] at hO'
      have hfw := few_v (l := out ++ y) (fun r hr => by
        rcases List.mem_append.1 hr with hr | hr
        · have := hsm.2 r hr; omega
        · have := hys.2 r hr; omega) hO'.sl
      cases hb : fewR (out ++ y) with
      | true =>
        rw [hb] at hfw
        have hs := few_iff.1 hb
        rw [fit_ok hs] at he
        simp only [List.replicate, List.cons_append, List.nil_append, b_ref12_alts_0, go_sem, Ce.cells, List.length_map, c1, cat, h1, ap, hfw, ne_eq, not_true_eq_false, wrapN (n := n) (by omega)]
        exact hk' _ _ ⟨z, out ++ y, f', _, _, rfl, rfl, hr', hO', hs, by omega, by have := Ce.sz_eq d; omega, he⟩
      | false =>
        rw [hb] at hfw
        have hs : ¬ Small (out ++ y) := fun h => by rw [few_iff.2 h] at hb; cases hb
        rw [fit_bad hs] at he
        simp only [List.replicate, List.cons_append, List.nil_append, b_ref12_alts_0, go_sem, Ce.cells, List.length_map, c1, cat, h1, ap, hfw, ne_eq, not_true_eq_false]
        exact Good.done (by rw [he]; rfl)
  · rintro fr st ⟨xo, out, f', rows, rt, rfl, rfl, hr, hO, hsm, hf1, hf2, he⟩ k
    obtain ⟨f', rfl⟩ : ∃ q, f' = q + 1 := ⟨f' - 1, by omega⟩
    rw [List.drop_eq_nil_of_le (i := c.kids.length) (Nat.le_refl _)] at he
    unfold orN at he
    simp only [List.replicate, List.cons_append, List.nil_append, b_ref12_alts_0, go_sem, Ce.cells, List.length_map, Int.lt_irrefl]
    exact Good.done (by rw [he]; exact ret_tup (mS (hO.shutR _ _) (mS rfl mN)))
  · exact ⟨.nils, [], f, _, _, rfl, rfl, rfl, .nils, small_nil, Nat.le_refl _, by rw [List.drop_zero]; omega, hL.symm⟩
end Go.Proofs.YtgjklaobjnjhpaaGreatPe.Normz

/- The document's alternatives. -/
set_option linter.unusedVariables false
set_option linter.unusedSimpArgs false
set_option maxRecDepth 100000
namespace Go.Proofs.YtgjklaobjnjhpaaGreatPe.Normz
open Go Go.Proofs Go.Proofs.YtgjklaobjnjhpaaGreatPe Go.Proofs.YtgjklaobjnjhpaaGreatPe.NormzCode

set_option maxHeartbeats 4000000 in
theorem altsAll_of {f : Nat} (IH : ∀ f', f' ≤ f → RefOk f') (c : Ce) (x : Ce) (ks : List Ce) (hx : c.kids = x :: ks) (hk : ∀ k ∈ c.kids, Ce.Wc k) (k7 : c.k = 7) (hf : 3 * c.sz ≤ f + 1) (hl : c.sz ≤ 100000) :
    tupV (callE efns given) (.call 0 f_ref12_alts) [.agg c.cells] = some (rowsV (match forN f c.kids with
      | .error e => .error e
      | .ok r => putM [] r)) := by
  have hsz := Ce.sz_eq c
  rw [hx, Ce.szs] at hsz
  have hxs := Ce.sz_eq x
  obtain ⟨f, rfl⟩ : ∃ q, f = q + 3 := ⟨f - 3, by omega⟩
  have q1 : (c.k = 1) = False := eq_false (by omega)
  have q2 : (c.k = 2) = False := eq_false (by omega)
  have q3 : (c.k = 3) = False := eq_false (by omega)
  have q4 : (c.k = 4) = False := eq_false (by omega)
  have q5 : (c.k = 5) = False := eq_false (by omega)
  have q6 : (c.k = 6) = False := eq_false (by omega)
  have h1 := (IH (f + 1) (by omega)).alts x (hk x (by rw [hx]; simp)) (by omega) (by omega)
  have h2 := (IH (f + 2) (by omega)).rows ks (fun k hk' => hk k (by rw [hx]; simp [hk'])) (by omega) (by omega)
  have xat : evIdx 11 (x.p :: ks.map Ce.p) 0 = some (.ref x.cells) := by
    have := Ce.at_ (l := x :: ks) (n := 0) (by simp)
    simpa using this
  have e1 : List.take 1 (x :: ks) = [x] := rfl
  have e2 : List.drop 1 (x :: ks) = ks := rfl
  rw [hx, forN, e1, e2, and_one]
  have hsub : lsubV 11 (.lst (x.p :: ks.map Ce.p)) (some (.int .i64 1)) none none = some (.lst (ks.map Ce.p)) :=
    lsub_drop (i := 1) rfl (by simp) fun e he => by
      rw [← List.map_cons (f := Ce.p)] at he
      obtain ⟨d, _, rfl⟩ := List.mem_map.1 he
      rw [Ce.p_cells]
      rfl
  simp only [Ce.cells] at h1 xat
  refine call_good (f := f_ref12_alts) rfl ?_
  rw [callE_fn efns given (c := e_ref12_alts) rfl rfl]
  cases hm : oneN (f + 1) x with
  | error e =>
    rw [hm] at h1
    simp only [rowsV] at h1
    have hne := (all_err (f + 1)).1 _ _ hm
    simp only [e_ref12_alts, go_sem, Ce.cells, hx, List.map_cons, q1, q2, q3, q4, q5, q6, eq_true k7, xat, h1, eq_false hne, ne_eq]
    exact Good.done rfl
  | ok xs =>
    rw [hm] at h1
    simp only [rowsV] at h1
    have hxm := (all_small _).1 _ _ hm
    cases hn : andN (f + 2) ks [[]] with
    | error e =>
      rw [hn] at h2
      simp only [rowsV] at h2
      have hne := (all_err (f + 2)).2.1 _ _ _ hn
      simp only [e_ref12_alts, go_sem, Ce.cells, hx, List.map_cons, q1, q2, q3, q4, q5, q6, eq_true k7, xat, h1, h2, eq_false hne, ne_eq, not_true_eq_false, hsub]
      exact Good.done rfl
    | ok y =>
      rw [hn] at h2
      simp only [rowsV] at h2
      have hym := (all_small _).2.1 _ _ _ small_one hn
      have hng := rnegs_t (l := y) (by have := hym.1; omega)
      have hnz := negsM_sz y hym
      have hnl := Ce.len_sz (negsM y)
      have hfp := for_put (z := negsM y) hxm
      suffices h : Good (Ret (rowsV (fitR [negsM (xs.map (· ++ negsM y))]))) (runE (callE efns given) e_ref12_alts.body (startE e_ref12_alts.nslots [.agg c.cells]) ⟨[], [], [], []⟩ retK) by
        cases hF1 : forB (negsM y) xs [] with
        | error e =>
          have h9 : fitR [negsM (xs.map (· ++ negsM y))] = .error e := by rw [← hfp, hF1]
          rw [h9] at h
          simp only [hF1]
          exact h
        | ok o =>
          have h9 : fitR [negsM (xs.map (· ++ negsM y))] = putM [] (negsM o) := by rw [← hfp, hF1]
          rw [h9] at h
          simp only [hF1]
          exact h
      simp only [e_ref12_alts, go_sem, Ce.cells, hx, List.map_cons, q1, q2, q3, q4, q5, q6, eq_true k7, xat, h1, h2, ne_eq, not_true_eq_false, hsub]
      refine Good.for xs.length (fun i fr st => ∃ z bs rows bts rt, fr = [.undef, .undef, .undef, .undef, .undef, .undef, .undef, .lst (xs.map rowP), .lst (y.map rowP), z, .int .i64 (i : Int)] ++ List.replicate 24 .undef ∧ st = ⟨bs, rows, bts, rt⟩ ∧ rt.length = rows.length ∧
        OutV 11 T_ref12_alts_1 ((negsM ((xs.take i).map (· ++ negsM y))).map Ce.p) z rows rt) ?_ ?_ ?_
      · rintro i fr st hi ⟨z, bs, rows, bts, rt, rfl, rfl, hr, hO⟩ k hk'
        have c1 : ((i : Int) < (xs.length : Int)) = True := eq_true (by omega)
        have rat := Rw.at_ hi
        have hsr := hxm.2 _ (List.getElem_mem hi)
        have htk : negsM ((xs.take (i + 1)).map (· ++ negsM y)) = negsM ((xs.take i).map (· ++ negsM y)) ++ [negL (xs[i] ++ negsM y)] := by
          unfold negsM
          rw [take_succ_at hi, List.map_append, List.map_append, List.map_singleton, List.map_singleton]
        have hlen : ((negsM ((xs.take i).map (· ++ negsM y))).map Ce.p).length ≤ 16 := by
          have := hxm.1
          unfold negsM
          simp only [List.length_map, List.length_take]
          omega
        generalize xs[i] = r at rat hsr htk
        have hlr := Ce.len_sz r
        obtain ⟨v1, rows1, rt1, v2, rows2, rt2, a1, a2, o2, r2, keep⟩ := cat_ok (T := T_ref12_alts_1) (a := r.map Ce.p) (b := (negsM y).map Ce.p) (szAll_ce r) (szAll_ce _) (by simp only [List.length_map]; omega) hr
        have hO2 := keep _ _ _ _ hO
        obtain ⟨z3, rows3, rt3, a3, hO3, hr3, _⟩ := hO2.app1 (b := 168) r2 (e := .agg [.int .i64 3, .str [], .str [], .lst [], .int .i64 0, .int .i64 0, .int .i64 0, .str [], .str [], .lst [], .lst (r.map Ce.p ++ (negsM y).map Ce.p)]) rfl (by omega)
        have fin : OutV 11 T_ref12_alts_1 ((negsM ((xs.take (i + 1)).map (· ++ negsM y))).map Ce.p) z3 rows3 rt3 := by
          have e1 : Ce.p (negL (r ++ negsM y)) = .agg [.int .i64 3, .str [], .str [], .lst [], .int .i64 0, .int .i64 0, .int .i64 0, .str [], .str [], .lst [], .lst (r.map Ce.p ++ (negsM y).map Ce.p)] := by
            rw [negL, Ce.p_eq, ← List.map_append]
            rfl
          rw [htk, List.map_append, List.map_singleton, e1]
          exact hO3
        rcases o2.sl.or with ⟨rfl, e⟩ | ⟨rfl, e⟩ | ⟨rfl, e⟩ | rfl | ⟨q, rfl⟩ | rfl
        all_goals
          try rw [e] at a3
          simp only [List.replicate, List.cons_append, List.nil_append, b_ref12_alts_1, go_sem, List.length_map, c1, rat, hng, a1, a2, a3, wrapN (n := i) (by have := hxm.1; omega)]
          exact hk' _ _ ⟨z3, _, _, _, _, rfl, rfl, hr3, fin⟩
      · rintro fr st ⟨z, bs, rows, bts, rt, rfl, rfl, hr, hO⟩ k
        rw [List.take_length] at hO
        have hfit := fit_one (r := negsM (xs.map (· ++ negsM y))) (by have := szs_map_app hxm hnz.1; omega)
        rcases hO.sl.or with ⟨rfl, e⟩ | ⟨rfl, e⟩ | ⟨rfl, e⟩ | rfl | ⟨q, rfl⟩ | rfl
        all_goals
          try rw [e] at hfit
          cases hF : fitR [negsM (xs.map (· ++ negsM y))] with
          | error e =>
            rw [hF] at hfit
            simp only [rowsV] at hfit
            simp only [List.replicate, List.cons_append, List.nil_append, b_ref12_alts_1, go_sem, List.length_map, Int.lt_irrefl, hfit]
            exact Good.done rfl
          | ok o =>
            rw [hF] at hfit
            simp only [rowsV] at hfit
            simp only [List.replicate, List.cons_append, List.nil_append, b_ref12_alts_1, go_sem, List.length_map, Int.lt_irrefl, hfit]
            exact Good.done rfl
      · exact ⟨.nils, _, _, _, _, rfl, rfl, rfl, .nils⟩
end Go.Proofs.YtgjklaobjnjhpaaGreatPe.Normz

