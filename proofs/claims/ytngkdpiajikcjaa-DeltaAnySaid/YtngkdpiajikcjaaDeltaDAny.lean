/- The law DeltaAny: what it comes to. -/
import Derived.Test.YtngkdpiajikcjaaDeltaDLaws
set_option maxRecDepth 1000000
set_option linter.unusedVariables false
set_option linter.unusedSimpArgs false
namespace Go.Proofs.YtngkdpiajikcjaaPe.Delta
open Go Go.Proofs Go.Proofs.YtngkdpiajikcjaaPe Go.Proofs.YtngkdpiajikcjaaPe.DeltaCode

theorem hasM_eq (l : List (List Int)) (f : List Int) : hasM l f = decide (f ∈ l) := by
  unfold hasM
  rw [Bool.eq_iff_iff, List.any_eq_true, decide_eq_true_eq]
  constructor
  · rintro ⟨x, hx, h⟩
    rw [decide_eq_true_eq, cmpM_eq] at h
    rw [← cmpN_zero h]; exact hx
  · intro h
    exact ⟨f, h, by rw [decide_eq_true_eq, cmpM_eq]; exact cmpN_self f⟩

theorem has_t {p : Bool} {l : List (List Int)} {f : List Int} (hl : l.length < 1000000) (hs : ∀ x ∈ l, Short x) : tupV (callE outE given) (.call 0 f_law18_has) [.lst (l.map (inst p)), ints f] = some (.bool (decide (f ∈ l))) := by
  rw [← hasM_eq]
  exact callV_of (by rfl) (has_ok hl hs ⟨[], []⟩) rfl
theorem cmp_t {a b : List Int} (ha : Short a) : tupV (callE outE given) (.call 0 f_ref15_Compare) [ints a, ints b] = some (.int .i64 (cmpM a b)) := callV_of (by rfl) (compare_ok (by omega) ⟨[], []⟩) rfl

theorem any_loop0 {x y C : List (List Int)} {G : PV} (hx : x.length < 1000000) (hy : y.length < 1000000) (hC : C.length < 1000000) (sx : ∀ z ∈ x, Short z) (sy : ∀ z ∈ y, Short z) (sC : ∀ z ∈ C, Short z) {K : EX → Fr → St → Option (PV × St)} :
    ∀ (d k n : Nat), y.length - k = d → k ≤ y.length → n ≤ C.length → C.drop n = (y.drop k).filter (fun z => !decide (z ∈ x)) →
    ∃ i, runL (callE outE given) [false, false, true, true, true, true, true, false, false, false, false, false, false, false, false, false, false] b_law18_DeltaAny_0 [.undef, .undef, .lst (x.map (inst true)), .lst (y.map (inst true)), .ptr 0 0, .int .i64 n, .int .i64 k, .undef, .undef, .undef, .undef, .undef, .undef, .undef, .undef, .undef, .undef] ⟨[[.lst (C.map (inst true)), G]], []⟩ K =
      K (.exit 0) [.undef, .undef, .lst (x.map (inst true)), .lst (y.map (inst true)), .ptr 0 0, .int .i64 C.length, i, .undef, .undef, .undef, .undef, .undef, .undef, .undef, .undef, .undef, .undef] ⟨[[.lst (C.map (inst true)), G]], []⟩ := by
  intro d
  induction d with
  | zero =>
    intro k n hd hk hn hc
    have : k = y.length := by omega
    subst this
    rw [List.drop_length] at hc
    have : n = C.length := by have := congrArg List.length hc; simp at this; omega
    subst this
    refine ⟨.int .i64 y.length, ?_⟩
    rw [runL_eq]
    generalize runL _ _ b_law18_DeltaAny_0 = R
    simp only [b_law18_DeltaAny_0, go_sem, List.length_map, Int.lt_irrefl]
  | succ d ih =>
    intro k n hd hk hn hc
    have hlt : k < y.length := by omega
    have hg : y[k]? = some y[k] := List.getElem?_eq_getElem hlt
    have hmem : y[k] ∈ y := List.getElem_mem hlt
    rw [List.drop_eq_getElem_cons hlt] at hc
    generalize y[k] = f at hg hmem hc
    have w1 : IntKind.i64.wrap ((k : Int) + 1) = ((k + 1 : Nat) : Int) := by rw [IntWalk.i64_in _ (by omega)]; omega
    have w2 : IntKind.i64.wrap ((n : Int) + 1) = ((n + 1 : Nat) : Int) := by rw [IntWalk.i64_in _ (by omega)]; omega
    have c1 : (k : Int) < (y.length : Int) := by omega
    have ht := has_t (p := true) (f := f) hx sx
    by_cases h : f ∈ x
    · obtain ⟨i, hi⟩ := ih (k + 1) n (by omega) (by omega) hn (by simpa [h] using hc)
      refine ⟨i, ?_⟩
      rw [decide_eq_true h] at ht
      rw [runL_eq]
      generalize runL _ _ b_law18_DeltaAny_0 = R at hi ⊢
      simp only [b_law18_DeltaAny_0, go_sem, List.length_map, c1, w1, idxI hg, ht, hi]
    · have hc2 : C.drop n = f :: (y.drop (k + 1)).filter (fun z => !decide (z ∈ x)) := by simpa [h] using hc
      have hnl : n < C.length := by have := congrArg List.length hc2; simp at this; omega
      have hgc : C[n]? = some f := by
        have := congrArg (fun l => l[0]?) hc2
        simpa using this
      have hd2 : C.drop (n + 1) = (y.drop (k + 1)).filter (fun z => !decide (z ∈ x)) := by
        rw [← List.drop_drop, hc2] <;> simp
      obtain ⟨i, hi⟩ := ih (k + 1) (n + 1) (by omega) (by omega) (by omega) hd2
      refine ⟨i, ?_⟩
      rw [decide_eq_false h] at ht
      have hcm := cmp_t (a := f) (b := f) (sy f hmem)
      rw [cmpM_eq, cmpN_self] at hcm
      have c2 : ((n : Int) ≥ (C.length : Int)) = False := eq_false (by omega)
      rw [runL_eq]
      generalize runL _ _ b_law18_DeltaAny_0 = R at hi ⊢
      simp only [b_law18_DeltaAny_0, go_sem, List.length_map, c1, c2, w1, w2, idxI hg, idxI hgc, ht, hcm, hi, ne_eq, not_true_eq_false, decide_false, Bool.or_self]
theorem any_loop1 {x y C : List (List Int)} {G : PV} {nn : PV} (hx : x.length < 1000000) (hy : y.length < 1000000) (hC : C.length < 1000000) (sx : ∀ z ∈ x, Short z) (sy : ∀ z ∈ y, Short z) (sC : ∀ z ∈ C, Short z) {K : EX → Fr → St → Option (PV × St)} :
    ∀ (d k n : Nat), y.length - k = d → k ≤ y.length → n ≤ C.length → C.drop n = (y.drop k).filter (fun z => !decide (z ∈ x)) →
    ∃ i, runL (callE outE given) [false, false, true, true, true, true, false, true, true, false, false, false, false, false, false, false, false] b_law18_DeltaAny_1 [.undef, .undef, .lst (y.map (inst true)), .lst (x.map (inst true)), .ptr 0 0, nn, .undef, .int .i64 n, .int .i64 k, .undef, .undef, .undef, .undef, .undef, .undef, .undef, .undef] ⟨[[G, .lst (C.map ints)]], []⟩ K =
      K (.exit 2) [.undef, .undef, .lst (y.map (inst true)), .lst (x.map (inst true)), .ptr 0 0, nn, .undef, .int .i64 C.length, i, .undef, .undef, .undef, .undef, .undef, .undef, .undef, .undef] ⟨[[G, .lst (C.map ints)]], []⟩ := by
  intro d
  induction d with
  | zero =>
    intro k n hd hk hn hc
    have : k = y.length := by omega
    subst this
    rw [List.drop_length] at hc
    have : n = C.length := by have := congrArg List.length hc; simp at this; omega
    subst this
    refine ⟨.int .i64 y.length, ?_⟩
    rw [runL_eq]
    generalize runL _ _ b_law18_DeltaAny_1 = R
    simp only [b_law18_DeltaAny_1, go_sem, List.length_map, Int.lt_irrefl]
  | succ d ih =>
    intro k n hd hk hn hc
    have hlt : k < y.length := by omega
    have hg : y[k]? = some y[k] := List.getElem?_eq_getElem hlt
    have hmem : y[k] ∈ y := List.getElem_mem hlt
    rw [List.drop_eq_getElem_cons hlt] at hc
    generalize y[k] = f at hg hmem hc
    have w1 : IntKind.i64.wrap ((k : Int) + 1) = ((k + 1 : Nat) : Int) := by rw [IntWalk.i64_in _ (by omega)]; omega
    have w2 : IntKind.i64.wrap ((n : Int) + 1) = ((n + 1 : Nat) : Int) := by rw [IntWalk.i64_in _ (by omega)]; omega
    have c1 : (k : Int) < (y.length : Int) := by omega
    have ht := has_t (p := true) (f := f) hx sx
    by_cases h : f ∈ x
    · obtain ⟨i, hi⟩ := ih (k + 1) n (by omega) (by omega) hn (by simpa [h] using hc)
      refine ⟨i, ?_⟩
      rw [decide_eq_true h] at ht
      rw [runL_eq]
      generalize runL _ _ b_law18_DeltaAny_1 = R at hi ⊢
      simp only [b_law18_DeltaAny_1, go_sem, List.length_map, c1, w1, idxI hg, ht, hi]
    · have hc2 : C.drop n = f :: (y.drop (k + 1)).filter (fun z => !decide (z ∈ x)) := by simpa [h] using hc
      have hnl : n < C.length := by have := congrArg List.length hc2; simp at this; omega
      have hgc : C[n]? = some f := by
        have := congrArg (fun l => l[0]?) hc2
        simpa using this
      have hd2 : C.drop (n + 1) = (y.drop (k + 1)).filter (fun z => !decide (z ∈ x)) := by
        rw [← List.drop_drop, hc2] <;> simp
      obtain ⟨i, hi⟩ := ih (k + 1) (n + 1) (by omega) (by omega) (by omega) hd2
      refine ⟨i, ?_⟩
      rw [decide_eq_false h] at ht
      have hcm := cmp_t (a := f) (b := f) (sy f hmem)
      rw [cmpM_eq, cmpN_self] at hcm
      have c2 : ((n : Int) ≥ (C.length : Int)) = False := eq_false (by omega)
      rw [runL_eq]
      generalize runL _ _ b_law18_DeltaAny_1 = R at hi ⊢
      have hgi : (C.map ints)[n]? = some (ints f) := by rw [List.getElem?_map, hgc]; rfl
      simp only [b_law18_DeltaAny_1, go_sem, List.length_map, c1, c2, w1, w2, idxI hg, idxL hgi, ht, hcm, hi, ne_eq, not_true_eq_false, decide_false, Bool.or_self]

theorem any_law {a b : List (List Int)} : ∃ st', callE outE given f_law18_DeltaAny [.lst (a.map ints), .lst (b.map ints)] ⟨[], []⟩ = some (.bool true, st') := by
  rw [callE_fn outE given (c := e_law18_DeltaAny) rfl rfl]
  by_cases ha : fewM a = true
  · by_cases hb : fewM b = true
    · obtain ⟨la, sa⟩ := few_bounds ha
      obtain ⟨lb, sb⟩ := few_bounds hb
      have ia := insts_ok sa (by omega)
      have ib := insts_ok sb (by omega)
      obtain ⟨ra, ma⟩ := insts_rise a
      obtain ⟨rb, mb⟩ := insts_rise b
      have na := insts_len a
      have nb := insts_len b
      have ha2 : ∀ x ∈ instsM a, Short x := fun x h => sa x ((ma x).1 h)
      have hb2 : ∀ x ∈ instsM b, Short x := fun x h => sb x ((mb x).1 h)
      generalize instsM a = x at ia ra na ha2
      generalize instsM b = y at ib rb nb hb2
      have d1 := diff_ok (p := true) (q := true) ha2 hb2 (by omega)
      have e1 := apply_eq ra rb
      simp only [come_ok _ _ ra rb, gone_ok _ _ ra rb] at d1 e1
      have sy : ∀ z ∈ y.filter fun z => !decide (z ∈ x), Short z := fun z h => hb2 z (List.mem_filter.1 h).1
      have sx : ∀ z ∈ x.filter fun z => !decide (z ∈ y), Short z := fun z h => ha2 z (List.mem_filter.1 h).1
      have ly : (y.filter fun z => !decide (z ∈ x)).length ≤ y.length := List.length_filter_le _ _
      have lx : (x.filter fun z => !decide (z ∈ y)).length ≤ x.length := List.length_filter_le _ _
      have p1 := apply_t (p := true) ha2 sy sx (by omega) (by omega)
      rw [e1] at p1
      have st := same_t (p := true) (q := true) (m := y) (l := y) (by omega) hb2
      rw [sameM_self] at st
      have fa := few_t (l := a)
      have fb := few_t (l := b)
      rw [ha] at fa
      rw [hb] at fb
      simp only [e_law18_DeltaAny, go_sem, known_t, fa, fb, ia, ib, d1, Bool.not_true, Bool.or_self]
      generalize hK : blockK 0 _ = K
      obtain ⟨i, h0⟩ := any_loop0 (x := x) (y := y) (C := y.filter fun z => !decide (z ∈ x)) (G := .lst ((x.filter fun z => !decide (z ∈ y)).map ints)) (by omega) (by omega) (by omega) ha2 hb2 sy (K := K) _ 0 0 rfl (by omega) (by omega) rfl
      refine ⟨⟨[[.lst ((y.filter fun z => !decide (z ∈ x)).map (inst true)), .lst ((x.filter fun z => !decide (z ∈ y)).map ints)]], []⟩, Eq.trans h0 ?_⟩
      rw [← hK]
      simp only [go_sem]
      generalize hK2 : blockK 2 _ = K2
      obtain ⟨i2, h1⟩ := any_loop1 (x := y) (y := x) (C := x.filter fun z => !decide (z ∈ y)) (G := .lst ((y.filter fun z => !decide (z ∈ x)).map (inst true))) (nn := .int .i64 (y.filter fun z => !decide (z ∈ x)).length) (by omega) (by omega) (by omega) hb2 ha2 sx (K := K2) _ 0 0 rfl (by omega) (by omega) rfl
      refine Eq.trans h1 ?_
      rw [← hK2]
      simp only [go_sem, List.length_map, p1, st]
    · have fa := few_t (l := a)
      have fb := few_t (l := b)
      rw [ha] at fa
      rw [Bool.not_eq_true _ |>.mp hb] at fb
      simp only [e_law18_DeltaAny, go_sem, known_t, fa, fb, Bool.not_true, Bool.or_self, Bool.not_false, Bool.or_true]
      exact ⟨_, rfl⟩
  · have fa := few_t (l := a)
    rw [Bool.not_eq_true _ |>.mp ha] at fa
    simp only [e_law18_DeltaAny, go_sem, known_t, few_t, fa, Bool.not_true, Bool.or_self, Bool.not_false, Bool.true_or]
    exact ⟨_, rfl⟩
end Go.Proofs.YtngkdpiajikcjaaPe.Delta
