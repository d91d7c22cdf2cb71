/- The laws of delta: what each comes to. -/
import Derived.Test.YtngkdpiajikcjaaDeltaOrder
import Derived.Test.YtngkdpiajikcjaaDeltaKnown
set_option maxRecDepth 1000000
set_option linter.unusedVariables false
set_option linter.unusedSimpArgs false
namespace Go.Proofs.YtngkdpiajikcjaaPe.Delta
open Go Go.Proofs Go.Proofs.YtngkdpiajikcjaaPe Go.Proofs.YtngkdpiajikcjaaPe.DeltaCode

abbrev comeX (x y : List (List Int)) := comeM (evs true true x y)
abbrev goneX (x y : List (List Int)) := goneM (evs true true x y)
def applyM (x C G : List (List Int)) : List (List Int) := mergeM [(true, leftM G x), (true, C)]

theorem apply_eq {x y : List (List Int)} (hx : Rise x) (hy : Rise y) : applyM x (comeX x y) (goneX x y) = y := by
  unfold applyM comeX goneX
  rw [come_ok _ _ hx hy, gone_ok _ _ hx hy]
  obtain ⟨h1, h2⟩ := mergeM_ok (rs := [(true, leftM (x.filter fun z => !decide (z ∈ y)) x), (true, y.filter fun z => !decide (z ∈ x))]) (fun r hr => by
    rcases List.mem_cons.1 hr with rfl | hr
    · exact hx.filter _
    · rcases List.mem_cons.1 hr with rfl | hr
      · exact hy.filter _
      · cases hr)
  refine Rise.eq h1 hy fun z => ?_
  rw [h2]
  simp only [List.mem_cons, List.not_mem_nil, or_false, exists_eq_or_imp, exists_eq_left, leftM, List.mem_filter, Bool.not_eq_true', decide_eq_false_iff_not]
  by_cases hz : z ∈ x <;> by_cases hw : z ∈ y <;> simp [hz, hw]

theorem few_bounds {l : List (List Int)} (h : fewM l = true) : l.length ≤ 60 ∧ ∀ x ∈ l, Short x := by
  unfold fewM at h
  simp only [Bool.and_eq_true, decide_eq_true_eq, List.all_eq_true] at h
  exact ⟨h.1, fun x hx => by have := h.2 x hx; omega⟩

theorem insts_len (l : List (List Int)) : (instsM l).length ≤ l.length := by
  have gen : ∀ (l L : List (List Int)), (l.foldl insM L).length ≤ L.length + l.length := by
    intro l
    induction l with
    | nil => intro L; simp
    | cons a l ih =>
      intro L
      have := ih (insM L a)
      have h2 : (insM L a).length ≤ L.length + 1 := by
        unfold insM
        split
        · omega
        · simp; omega
      rw [List.foldl_cons, List.length_cons]
      omega
  have := gen l []
  simpa [instsM] using this

theorem known_t : tupV (callE outE given) (.call 0 f_law18_known) [] = some (.bool true) := by
  obtain ⟨st', h⟩ := known_ok
  exact callV_of (by rfl) h rfl
theorem few_t {l : List (List Int)} : tupV (callE outE given) (.call 0 f_law18_few) [.lst (l.map ints)] = some (.bool (fewM l)) := callV_of (by rfl) (few_ok ⟨[], []⟩) rfl
theorem same_t {p q : Bool} {l m : List (List Int)} (hl : l.length < 1000000) (hs : ∀ x ∈ l, Short x) : tupV (callE outE given) (.call 0 f_law18_same) [.lst (l.map (inst p)), .lst (m.map (inst q))] = some (.bool (sameM l m)) := callV_of (by rfl) (same_ok hl hs ⟨[], []⟩) rfl
theorem apply_t {p : Bool} {xs C G : List (List Int)} (hX : ∀ x ∈ xs, Short x) (hC : ∀ x ∈ C, Short x) (hG : ∀ x ∈ G, Short x) (hGl : G.length < 1000000) (hxl : xs.length + C.length < 1000000) :
    tupV (callE outE given) (.call 0 f_delta_Apply) [.lst (xs.map (inst p)), .agg [.lst (C.map (inst true)), .lst (G.map ints)]] = some (.lst ((applyM xs C G).map (inst true))) := by
  obtain ⟨st', h⟩ := apply_ok (p := p) hX hC hG hGl hxl
  exact callV_of (by rfl) h rfl

theorem w00 : IntKind.i64.wrap (0 + 0) = 0 := by decide
theorem z00 : ((0 : Nat) : Int) = 0 := rfl
theorem turns_law {a b : List (List Int)} : ∃ st', callE outE given f_law18_DeltaTurns [.lst (a.map ints), .lst (b.map ints)] ⟨[], []⟩ = some (.bool true, st') := by
  rw [callE_fn outE given (c := e_law18_DeltaTurns) rfl rfl]
  by_cases ha : fewM a = true
  · by_cases hb : fewM b = true
    · obtain ⟨la, sa⟩ := few_bounds ha
      obtain ⟨lb, sb⟩ := few_bounds hb
      have ia := insts_ok sa (by omega)
      have ib := insts_ok sb (by omega)
      obtain ⟨ra, ma⟩ := insts_rise a
      obtain ⟨rb, mb⟩ := insts_rise b
      have na := insts_len a
      have nb := insts_len b
      have ha2 : ∀ x ∈ instsM a, Short x := fun x h => sa x ((ma x).1 h)
      have hb2 : ∀ x ∈ instsM b, Short x := fun x h => sb x ((mb x).1 h)
      generalize instsM a = x at ia ra na ha2
      generalize instsM b = y at ib rb nb hb2
      have d1 := diff_ok (p := true) (q := true) ha2 hb2 (by omega)
      have d2 := diff_ok (p := true) (q := true) hb2 ha2 (by omega)
      have d3 := diff_ok (p := true) (q := true) ha2 ha2 (by omega)
      have e1 := apply_eq ra rb
      have e2 := apply_eq rb ra
      simp only [come_ok _ _ ra rb, gone_ok _ _ ra rb, come_ok _ _ rb ra, gone_ok _ _ rb ra, come_ok _ _ ra ra, gone_ok _ _ ra ra] at d1 d2 d3 e1 e2
      have sy : ∀ z ∈ y.filter fun z => !decide (z ∈ x), Short z := fun z h => hb2 z (List.mem_filter.1 h).1
      have sx : ∀ z ∈ x.filter fun z => !decide (z ∈ y), Short z := fun z h => ha2 z (List.mem_filter.1 h).1
      have ly : (y.filter fun z => !decide (z ∈ x)).length ≤ y.length := List.length_filter_le _ _
      have lx : (x.filter fun z => !decide (z ∈ y)).length ≤ x.length := List.length_filter_le _ _
      have p1 := apply_t (p := true) ha2 sy sx (by omega) (by omega)
      have p2 := apply_t (p := true) hb2 sx sy (by omega) (by omega)
      rw [e1] at p1
      rw [e2] at p2
      have f3 : (x.filter fun z => !decide (z ∈ x)) = [] := by simp
      rw [f3] at d3
      have st := same_t (p := true) (q := true) (m := x) (l := x) (by omega) ha2
      rw [sameM_self] at st
      have fa := few_t (l := a)
      have fb := few_t (l := b)
      rw [ha] at fa
      rw [hb] at fb
      simp only [e_law18_DeltaTurns, go_sem, known_t, fa, fb, ia, ib, d1, d2, d3, p1, p2, st, List.length_map, Bool.not_true, Bool.or_self, Bool.not_false, List.map_nil, ne_eq, not_true_eq_false, decide_false, w00, z00]
      exact ⟨_, rfl⟩
    · have fa := few_t (l := a)
      have fb := few_t (l := b)
      rw [ha] at fa
      rw [Bool.not_eq_true _ |>.mp hb] at fb
      simp only [e_law18_DeltaTurns, go_sem, known_t, fa, fb, Bool.not_true, Bool.or_self, Bool.not_false, Bool.or_true]
      exact ⟨_, rfl⟩
  · have fa := few_t (l := a)
    rw [Bool.not_eq_true _ |>.mp ha] at fa
    simp only [e_law18_DeltaTurns, go_sem, known_t, few_t, fa, Bool.not_true, Bool.or_self, Bool.not_false, Bool.true_or]
    exact ⟨_, rfl⟩
end Go.Proofs.YtngkdpiajikcjaaPe.Delta
