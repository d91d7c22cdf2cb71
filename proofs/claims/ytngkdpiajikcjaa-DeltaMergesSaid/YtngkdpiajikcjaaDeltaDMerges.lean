/- The law DeltaMerges: what it comes to. -/
import Derived.Test.YtngkdpiajikcjaaDeltaDLaws
set_option maxRecDepth 1000000
set_option linter.unusedVariables false
set_option linter.unusedSimpArgs false
namespace Go.Proofs.YtngkdpiajikcjaaPe.Delta
open Go Go.Proofs Go.Proofs.YtngkdpiajikcjaaPe Go.Proofs.YtngkdpiajikcjaaPe.DeltaCode

/-- Two rows that are gathered lie apart. -/
def Apart (x y : PV) : Prop := ∀ r l s m, x = .own r l → y = .own s m → r ≠ s
theorem Apart.symm {x y : PV} (h : Apart x y) : Apart y x := fun r l s m h1 h2 e => h s m r l h2 h1 e.symm

theorem Gath.adds2 {st : St} {n b : Nat} {x y : PV} {L M es : List PV} (h : Gath st n x L) (hy : Gath st n y M) (ap : Apart x y) (hs : szAll n es = true) (hlen : (L.length + es.length) * (b + 1) ≤ 70368744177664) :
    ∃ x' rows, evAppend n b (if es.isEmpty = true then x else x.nm) es st = some (x', ⟨st.boxes, rows⟩) ∧ Gath ⟨st.boxes, rows⟩ n x' (L ++ es) ∧ Gath ⟨st.boxes, rows⟩ n y M ∧ Apart x' y := by
  cases es with
  | nil =>
    refine ⟨x, st.rows, ?_, by rw [List.append_nil]; exact h, hy, ap⟩
    rcases h with ⟨rfl | rfl, _⟩ | ⟨r, rfl, _⟩ <;> rfl
  | cons e es =>
    rw [List.isEmpty_cons, if_neg (by simp)]
    rcases h with ⟨hx, rfl⟩ | ⟨r, rfl, hr⟩
    · have e1 : x.nm = .full [] := by rcases hx with rfl | rfl <;> rfl
      refine ⟨.own st.rows.length ([] ++ (e :: es)), st.rows ++ [(0 + (e :: es).length, n)], ?_, .inr ⟨_, rfl, by simp⟩, ?_, ?_⟩
      · rw [e1, A_full, if_pos hs, if_pos ⟨hlen, rfl⟩]
        rfl
      · rcases hy with h | ⟨s, rfl, hs⟩
        · exact .inl h
        · have : s < st.rows.length := (List.getElem?_eq_some_iff.1 hs).1
          exact .inr ⟨s, rfl, by simp only; rw [List.getElem?_append_left this, hs]⟩
      · rintro r l s m h1 rfl
        cases h1
        rcases hy with ⟨h | h, _⟩ | ⟨s', h, hs⟩
        · cases h
        · cases h
        · cases h
          have : s < st.rows.length := (List.getElem?_eq_some_iff.1 hs).1
          omega
    · have hlt : r < st.rows.length := (List.getElem?_eq_some_iff.1 hr).1
      refine ⟨.own r (L ++ (e :: es)), st.rows.set r (L.length + (e :: es).length, n), ?_, .inr ⟨r, rfl, ?_⟩, ?_, ?_⟩
      · rw [n_own, A_own, if_pos hs, if_pos ⟨hlen, hr⟩]
      · simp only
        rw [List.getElem?_set_self hlt]
        simp
      · rcases hy with h | ⟨s, rfl, hs⟩
        · exact .inl h
        · exact .inr ⟨s, rfl, by simp only; rw [List.getElem?_set_ne (ap r L s M rfl rfl), hs]⟩
      · rintro r' l s m h1 rfl
        cases h1
        exact ap r L s m rfl rfl

def rowsP (a : List (List Int)) : PV := .lst (a.map ints)
theorem szR (l : List (List (List Int))) : szAll 1 (l.map fun a => rowP (true, instsM a)) = true := by
  unfold szAll
  rw [List.all_eq_true]
  intro x hx
  obtain ⟨n, _, rfl⟩ := List.mem_map.1 hx
  rfl

theorem merges_loop {l : List (List (List Int))} (hl : l.length ≤ 6) {K : EX → Fr → St → Option (PV × St)} : ∀ (d n : Nat) (x y : PV) (st : St), l.length - n = d → n ≤ l.length → (∀ a ∈ l.take n, fewM a = true) →
    Gath st 1 x ((l.take n).map fun a => rowP (true, instsM a)) → Gath st 1 y ((l.take n).flatten.map ints) → Apart x y →
    (∃ x' y' i st', Gath st' 1 x' (l.map fun a => rowP (true, instsM a)) ∧ Gath st' 1 y' (l.flatten.map ints) ∧ (∀ a ∈ l, fewM a = true) ∧
      runL (callE outE given) [true, true, true, true, false, false] b_law18_DeltaMerges_0 [.lst (l.map rowsP), x, y, .int .i64 n, .undef, .undef] st K = K (.exit 0) [.lst (l.map rowsP), x', y', i, .undef, .undef] st') ∨
    ∃ st', runL (callE outE given) [true, true, true, true, false, false] b_law18_DeltaMerges_0 [.lst (l.map rowsP), x, y, .int .i64 n, .undef, .undef] st K = K (.ret (.bool true)) [] st' := by
  intro d
  induction d with
  | zero =>
    intro n x y st hd hn hf hx hy ap
    have : n = l.length := by omega
    subst this
    rw [List.take_length] at hf hx hy
    refine .inl ⟨x, y, .int .i64 l.length, st, hx, hy, hf, ?_⟩
    rw [runL_eq]
    generalize runL _ _ b_law18_DeltaMerges_0 = R
    simp only [b_law18_DeltaMerges_0, go_sem, List.length_map, Int.lt_irrefl]
  | succ d ih =>
    intro n x y st hd hn hf hx hy ap
    have hlt : n < l.length := by omega
    have hg : (l.map rowsP)[n]? = some (.lst (l[n].map ints)) := by rw [List.getElem?_map, List.getElem?_eq_getElem hlt]; rfl
    have htk : l.take (n + 1) = l.take n ++ [l[n]] := by rw [List.take_succ_eq_append_getElem hlt]
    have hmem : l[n] ∈ l := List.getElem_mem hlt
    have ft := few_t (l := l[n])
    generalize l[n] = a at hg htk hmem ft
    have w1 : IntKind.i64.wrap ((n : Int) + 1) = ((n + 1 : Nat) : Int) := by rw [IntWalk.i64_in _ (by omega)]; omega
    have c1 : (n : Int) < (l.length : Int) := by omega
    by_cases ha : fewM a = true
    · obtain ⟨la, sa⟩ := few_bounds ha
      have ia := insts_ok sa (by omega)
      rw [ha] at ft
      have bound : (l.take n).flatten.length ≤ 60 * n := by
        have gen : ∀ m : List (List (List Int)), (∀ a ∈ m, fewM a = true) → m.flatten.length ≤ 60 * m.length := by
          intro m
          induction m with
          | nil => intro _; simp
          | cons b m ih =>
            intro h
            have h1 := (few_bounds (h b (by simp))).1
            have h2 := ih fun a ha => h a (by simp [ha])
            simp only [List.flatten_cons, List.length_append, List.length_cons]
            omega
        have := gen _ hf
        rw [List.length_take] at this
        omega
      obtain ⟨x1, r1, p1, p2, p3, p4⟩ := hx.adds2 (b := 24) (es := [rowP (true, instsM a)]) hy ap rfl (by rw [List.length_map, List.length_take]; simp; omega)
      obtain ⟨y1, r2, q1, q2, q3, q4⟩ := p3.adds2 (b := 24) (es := a.map ints) p2 p4.symm (szF a) (by rw [List.length_map, List.length_map]; omega)
      have key := ih (n + 1) x1 y1 ⟨st.boxes, r2⟩ (by omega) (by omega) (by
        intro b hb
        rw [htk] at hb
        rcases List.mem_append.1 hb with hb | hb
        · exact hf b hb
        · rw [List.mem_singleton.1 hb]; exact ha) (by rw [htk]; simpa using q3) (by rw [htk]; simpa using q2) q4.symm
      simp only [rowP, List.isEmpty_cons, Bool.false_eq_true, if_false] at p1
      have step : runL (callE outE given) [true, true, true, true, false, false] b_law18_DeltaMerges_0 [.lst (l.map rowsP), x, y, .int .i64 n, .undef, .undef] st K =
          runL (callE outE given) [true, true, true, true, false, false] b_law18_DeltaMerges_0 [.lst (l.map rowsP), x1, y1, .int .i64 ((n + 1 : Nat) : Int), .undef, .undef] ⟨st.boxes, r2⟩ K := by
        conv => lhs; rw [runL_eq]
        generalize runL _ _ b_law18_DeltaMerges_0 = R
        simp only [b_law18_DeltaMerges_0, go_sem, List.length_map, c1, w1, idxL hg, ft, ia, p1, q1, Bool.not_true]
      rw [step]
      exact key
    · rw [Bool.not_eq_true] at ha
      rw [ha] at ft
      refine .inr ⟨st, ?_⟩
      rw [runL_eq]
      generalize runL _ _ b_law18_DeltaMerges_0 = R
      simp only [b_law18_DeltaMerges_0, go_sem, List.length_map, c1, idxL hg, ft, Bool.not_false]

theorem gath_call {st : St} {x : PV} {L : List PV} (h : Gath st 1 x L) {cl : CallF} {m : Nat} {f : FuncId} : tupV cl (.call m f) [x] = tupV cl (.call m f) [.lst L] := by
  rcases h with ⟨rfl | rfl, rfl⟩ | ⟨r, rfl, _⟩ <;> rfl

theorem merges_plain (l : List (List (List Int))) : mergeM (l.map fun a => (true, instsM a)) = instsM l.flatten := by
  obtain ⟨h1, h2⟩ := mergeM_ok (rs := l.map fun a => (true, instsM a)) (fun r hr => by
    obtain ⟨a, _, rfl⟩ := List.mem_map.1 hr
    exact (insts_rise a).1)
  obtain ⟨h3, h4⟩ := insts_rise l.flatten
  refine Rise.eq h1 h3 fun x => ?_
  rw [h2, h4, List.mem_flatten]
  constructor
  · rintro ⟨r, hr, hx⟩
    obtain ⟨a, ha, rfl⟩ := List.mem_map.1 hr
    exact ⟨a, ha, ((insts_rise a).2 x).1 hx⟩
  · rintro ⟨a, ha, hx⟩
    exact ⟨_, List.mem_map.2 ⟨a, ha, rfl⟩, ((insts_rise a).2 x).2 hx⟩

theorem merges_law {l : List (List (List Int))} : ∃ st', callE outE given f_law18_DeltaMerges [.lst (l.map rowsP)] ⟨[], []⟩ = some (.bool true, st') := by
  rw [callE_fn outE given (c := e_law18_DeltaMerges) rfl rfl]
  by_cases hl : l.length ≤ 6
  · have e : ((l.length : Int) > 6) = False := eq_false (by omega)
    simp only [e_law18_DeltaMerges, go_sem, known_t, List.length_map, e, Bool.not_true]
    generalize hK : blockK 0 _ = K
    rcases merges_loop hl (K := K) _ 0 .nils .nils ⟨[], []⟩ rfl (by omega) (by simp) (.inl ⟨.inl rfl, rfl⟩) (.inl ⟨.inl rfl, rfl⟩) (by intro r l s m h; cases h) with ⟨x', y', i, st', g1, g2, hf, hr⟩ | ⟨st', hr⟩
    · have hs : ∀ a ∈ l, a.length ≤ 60 ∧ ∀ x ∈ a, Short x := fun a ha => few_bounds (hf a ha)
      have hfl : l.flatten.length ≤ 60 * l.length := by
        have gen : ∀ m : List (List (List Int)), (∀ a ∈ m, a.length ≤ 60) → m.flatten.length ≤ 60 * m.length := by
          intro m
          induction m with
          | nil => intro _; simp
          | cons b m ih =>
            intro h
            have h1 := h b (by simp)
            have h2 := ih fun a ha => h a (by simp [ha])
            simp only [List.flatten_cons, List.length_append, List.length_cons]
            omega
        exact gen l fun a ha => (hs a ha).1
      have hto : total (l.map fun a => (true, instsM a)) ≤ 60 * l.length := by
        have gen : ∀ m : List (List (List Int)), (∀ a ∈ m, a.length ≤ 60) → total (m.map fun a => (true, instsM a)) ≤ 60 * m.length := by
          intro m
          induction m with
          | nil => intro _; simp [total]
          | cons b m ih =>
            intro h
            have h1 := h b (by simp)
            have h2 := ih fun a ha => h a (by simp [ha])
            have h3 := insts_len b
            simp only [total, List.map_cons, List.sum_cons, List.length_cons] at h2 ⊢
            omega
        exact gen l fun a ha => (hs a ha).1
      have hsm : ∀ r ∈ l.map (fun a => (true, instsM a)), ∀ x ∈ r.2, Short x := by
        intro r hr x hx
        obtain ⟨a, ha, rfl⟩ := List.mem_map.1 hr
        exact (hs a ha).2 x (((insts_rise a).2 x).1 hx)
      have hm := merge_ok hsm (by simp; omega) (by omega)
      rw [merges_plain, List.map_map] at hm
      have hfs : ∀ x ∈ l.flatten, Short x := fun x hx => by
        obtain ⟨a, ha, hx⟩ := List.mem_flatten.1 hx
        exact (hs a ha).2 x hx
      have hi := insts_ok hfs (by omega)
      have hil := insts_len l.flatten
      have st := same_t (p := true) (q := true) (l := instsM l.flatten) (m := instsM l.flatten) (by omega) fun x hx => hfs x (((insts_rise l.flatten).2 x).1 hx)
      rw [sameM_self] at st
      have q1 := gath_call g1 (cl := callE outE given) (m := 0) (f := f_delta_Merge)
      have q2 := gath_call g2 (cl := callE outE given) (m := 0) (f := f_law18_insts)
      have hm' : tupV (callE outE given) (.call 0 f_delta_Merge) [x'] = some (.lst ((instsM l.flatten).map (inst true))) := q1.trans hm
      have hi' : tupV (callE outE given) (.call 0 f_law18_insts) [y'] = some (.lst ((instsM l.flatten).map (inst true))) := q2.trans hi
      refine ⟨st', Eq.trans hr ?_⟩
      rw [← hK]
      simp only [go_sem, hm', hi', st]
    · refine ⟨st', Eq.trans hr ?_⟩
      rw [← hK]
      rfl
  · have e : ((l.length : Int) > 6) = True := eq_true (by omega)
    simp only [e_law18_DeltaMerges, go_sem, known_t, List.length_map, e, Bool.not_true]
    exact ⟨_, rfl⟩
end Go.Proofs.YtngkdpiajikcjaaPe.Delta
