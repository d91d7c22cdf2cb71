/- What the law's own helpers come to. -/
import Derived.Test.YtngkdpiajikcjaaDeltaApply
set_option maxRecDepth 1000000
set_option linter.unusedVariables false
set_option linter.unusedSimpArgs false
namespace Go.Proofs.YtngkdpiajikcjaaPe.Delta
open Go Go.Proofs.YtngkdpiajikcjaaPe Go.Proofs.YtngkdpiajikcjaaPe.DeltaCode

def fewM (l : List (List Int)) : Bool := decide (l.length ≤ 60) && l.all fun x => decide (x.length ≤ 20)

theorem few_loop {l : List (List Int)} (hl : l.length ≤ 60) {st : St} {K : EX → Fr → St → Option (PV × St)} : ∀ (d n : Nat), l.length - n = d → n ≤ l.length →
    ∃ i, runL (callE outE given) [true, true] b_law18_few_0 [.lst (l.map ints), .int .i64 n] st K = if (l.drop n).all (fun x => decide (x.length ≤ 20)) = true then K (.exit 0) [.lst (l.map ints), i] st else K (.ret (.bool false)) [] st := by
  intro d
  induction d with
  | zero =>
    intro n hd h1
    have : n = l.length := by omega
    subst this
    refine ⟨.int .i64 l.length, ?_⟩
    rw [runL_eq, List.drop_length]
    generalize runL _ _ b_law18_few_0 = R
    simp only [b_law18_few_0, go_sem, V_call, List.length_map, Int.lt_irrefl]
  | succ d ih =>
    intro n hd h1
    have hlt : n < l.length := by omega
    obtain ⟨i, hi⟩ := ih (n + 1) (by omega) (by omega)
    refine ⟨i, ?_⟩
    have hg : (l.map ints)[n]? = some (ints l[n]) := by rw [List.getElem?_map, List.getElem?_eq_getElem hlt]; rfl
    rw [runL_eq, List.drop_eq_getElem_cons hlt, List.all_cons]
    generalize l[n] = x at hg ⊢
    have w1 : IntKind.i64.wrap ((n : Int) + 1) = ((n + 1 : Nat) : Int) := by rw [IntWalk.i64_in _ (by omega)]; omega
    have c1 : (n : Int) < (l.length : Int) := by omega
    generalize runL _ _ b_law18_few_0 = R at hi ⊢
    simp only [b_law18_few_0, go_sem, V_call, List.length_map, idxL hg, el_len, w1, c1, hi]
    by_cases h : x.length ≤ 20
    · have e : ((x.length : Int) > 20) = False := eq_false (by omega)
      simp [h, e]
    · have e : ((x.length : Int) > 20) = True := eq_true (by omega)
      simp [h, e]

theorem few_ok {l : List (List Int)} (st : St) : callE outE given f_law18_few [.lst (l.map ints)] st = some (.bool (fewM l), st) := by
  rw [callE_fn outE given (c := e_law18_few) rfl rfl]
  by_cases h : l.length ≤ 60
  · have e : ((l.length : Int) > 60) = False := eq_false (by omega)
    simp only [e_law18_few, go_sem, V_call, List.length_map, e]
    generalize hK : blockK 0 _ = K
    obtain ⟨i, hi⟩ := few_loop h (st := st) (K := K) _ 0 rfl (by omega)
    refine Eq.trans hi ?_
    rw [← hK, List.drop_zero]
    unfold fewM
    simp only [h, decide_true, Bool.true_and]
    cases l.all fun x => decide (x.length ≤ 20) <;> rfl
  · have e : ((l.length : Int) > 60) = True := eq_true (by omega)
    simp only [e_law18_few, go_sem, V_call, List.length_map, e]
    unfold fewM
    simp [h]

def hasM (l : List (List Int)) (f : List Int) : Bool := l.any fun x => decide (cmpM x f = 0)

theorem has_loop {p : Bool} {l : List (List Int)} {f : List Int} (hl : l.length < 1000000) (hs : ∀ x ∈ l, Short x) {st : St} {K : EX → Fr → St → Option (PV × St)} : ∀ (d n : Nat), l.length - n = d → n ≤ l.length →
    ∃ i, runL (callE outE given) [true, true, true] b_law18_has_0 [.lst (l.map (inst p)), ints f, .int .i64 n] st K = if hasM (l.drop n) f = true then K (.ret (.bool true)) [] st else K (.exit 0) [.lst (l.map (inst p)), ints f, i] st := by
  intro d
  induction d with
  | zero =>
    intro n hd h1
    have : n = l.length := by omega
    subst this
    refine ⟨.int .i64 l.length, ?_⟩
    rw [runL_eq, List.drop_length]
    generalize runL _ _ b_law18_has_0 = R
    simp only [b_law18_has_0, go_sem, V_call, List.length_map, Int.lt_irrefl, hasM, List.any_nil]
  | succ d ih =>
    intro n hd h1
    have hlt : n < l.length := by omega
    obtain ⟨i, hi⟩ := ih (n + 1) (by omega) (by omega)
    refine ⟨i, ?_⟩
    have hg : l[n]? = some l[n] := List.getElem?_eq_getElem hlt
    have hsh := hs _ (List.getElem_mem hlt)
    rw [runL_eq, List.drop_eq_getElem_cons hlt]
    generalize l[n] = x at hg hsh ⊢
    have w1 : IntKind.i64.wrap ((n : Int) + 1) = ((n + 1 : Nat) : Int) := by rw [IntWalk.i64_in _ (by omega)]; omega
    have c1 : (n : Int) < (l.length : Int) := by omega
    have hc := compare_ok (a := x) (b := f) (by omega) ⟨[], []⟩
    generalize runL _ _ b_law18_has_0 = R at hi ⊢
    simp only [b_law18_has_0, go_sem, V_call, List.length_map, idxI hg, hc, w1, c1, hi]
    have e : hasM (x :: l.drop (n + 1)) f = (decide (cmpM x f = 0) || hasM (l.drop (n + 1)) f) := by simp [hasM]
    rw [e]
    by_cases h : cmpM x f = 0
    · simp [h]
    · simp [h]

theorem has_ok {p : Bool} {l : List (List Int)} {f : List Int} (hl : l.length < 1000000) (hs : ∀ x ∈ l, Short x) (st : St) : callE outE given f_law18_has [.lst (l.map (inst p)), ints f] st = some (.bool (hasM l f), st) := by
  rw [callE_fn outE given (c := e_law18_has) rfl rfl]
  simp only [e_law18_has, go_sem, V_call]
  generalize hK : blockK 0 _ = K
  obtain ⟨i, hi⟩ := has_loop (p := p) (f := f) hl hs (st := st) (K := K) _ 0 rfl (by omega)
  refine Eq.trans hi ?_
  rw [← hK, List.drop_zero]
  cases hasM l f <;> rfl

/-- Are two rows of ways the same? -/
def sameL : List (List Int) → List (List Int) → Bool
  | a :: l, b :: m => decide (cmpM a b = 0) && sameL l m
  | _, _ => true
def sameM (l m : List (List Int)) : Bool := decide (l.length = m.length) && sameL l m

theorem same_loop {p q : Bool} {l m : List (List Int)} (hlm : l.length = m.length) (hl : l.length < 1000000) (hs : ∀ x ∈ l, Short x) {st : St} {K : EX → Fr → St → Option (PV × St)} : ∀ (d n : Nat), l.length - n = d → n ≤ l.length →
    ∃ i, runL (callE outE given) [true, true, true] b_law18_same_0 [.lst (l.map (inst p)), .lst (m.map (inst q)), .int .i64 n] st K = if sameL (l.drop n) (m.drop n) = true then K (.exit 0) [.lst (l.map (inst p)), .lst (m.map (inst q)), i] st else K (.ret (.bool false)) [] st := by
  intro d
  induction d with
  | zero =>
    intro n hd h1
    have : n = l.length := by omega
    subst this
    refine ⟨.int .i64 l.length, ?_⟩
    rw [runL_eq, List.drop_length]
    generalize runL _ _ b_law18_same_0 = R
    simp only [b_law18_same_0, go_sem, V_call, List.length_map, Int.lt_irrefl, sameL]
  | succ d ih =>
    intro n hd h1
    have hlt : n < l.length := by omega
    have hlt2 : n < m.length := by omega
    obtain ⟨i, hi⟩ := ih (n + 1) (by omega) (by omega)
    refine ⟨i, ?_⟩
    have hg : l[n]? = some l[n] := List.getElem?_eq_getElem hlt
    have hg2 : m[n]? = some m[n] := List.getElem?_eq_getElem hlt2
    have hsh := hs _ (List.getElem_mem hlt)
    rw [runL_eq, List.drop_eq_getElem_cons hlt, List.drop_eq_getElem_cons hlt2]
    generalize l[n] = x at hg hsh ⊢
    generalize m[n] = y at hg2 ⊢
    have w1 : IntKind.i64.wrap ((n : Int) + 1) = ((n + 1 : Nat) : Int) := by rw [IntWalk.i64_in _ (by omega)]; omega
    have c1 : (n : Int) < (l.length : Int) := by omega
    have hc := compare_ok (a := x) (b := y) (by omega) ⟨[], []⟩
    generalize runL _ _ b_law18_same_0 = R at hi ⊢
    simp only [b_law18_same_0, go_sem, V_call, List.length_map, idxI hg, idxI hg2, hc, w1, c1, hi, sameL]
    by_cases h : cmpM x y = 0
    · simp [h]
    · simp [h]

theorem same_ok {p q : Bool} {l m : List (List Int)} (hl : l.length < 1000000) (hs : ∀ x ∈ l, Short x) (st : St) : callE outE given f_law18_same [.lst (l.map (inst p)), .lst (m.map (inst q))] st = some (.bool (sameM l m), st) := by
  rw [callE_fn outE given (c := e_law18_same) rfl rfl]
  by_cases h : l.length = m.length
  · have e : ((l.length : Int) ≠ (m.length : Int)) = False := eq_false (by omega)
    simp only [e_law18_same, go_sem, V_call, List.length_map, e]
    generalize hK : blockK 0 _ = K
    obtain ⟨i, hi⟩ := same_loop (p := p) (q := q) h hl hs (st := st) (K := K) _ 0 rfl (by omega)
    refine Eq.trans hi ?_
    rw [← hK, List.drop_zero, List.drop_zero]
    unfold sameM
    simp only [h, decide_true, Bool.true_and]
    cases sameL l m <;> rfl
  · have e : ((l.length : Int) ≠ (m.length : Int)) = True := eq_true (by omega)
    simp only [e_law18_same, go_sem, V_call, List.length_map, e]
    unfold sameM
    simp [h]
end Go.Proofs.YtngkdpiajikcjaaPe.Delta
