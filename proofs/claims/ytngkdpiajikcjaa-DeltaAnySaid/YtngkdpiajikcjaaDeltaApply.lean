/- What delta.Apply comes to. -/
import Derived.Test.YtngkdpiajikcjaaDeltaMerge
set_option maxRecDepth 1000000
set_option linter.unusedVariables false
set_option linter.unusedSimpArgs false
namespace Go.Proofs.YtngkdpiajikcjaaPe.Delta
open Go Go.Proofs.YtngkdpiajikcjaaPe Go.Proofs.YtngkdpiajikcjaaPe.DeltaCode

theorem equal_loop {a b : List Int} (ha : a.length < 4611686018427387904) (hab : a.length = b.length) {st : St} {K : EX → Fr → St → Option (PV × St)} : ∀ (d n : Nat), a.length - n = d → n ≤ a.length →
    ∃ i, runL (callE outE given) [true, true, true, true] b_slices_Equal_int_int_0 [ints a, ints b, .int .i64 a.length, .int .i64 n] st K = if a.drop n = b.drop n then K (.exit 0) [ints a, ints b, .int .i64 a.length, i] st else K (.ret (.bool false)) [] st := by
  intro d
  induction d with
  | zero =>
    intro n hd h1
    have : n = a.length := by omega
    subst this
    refine ⟨.int .i64 a.length, ?_⟩
    rw [runL_eq, List.drop_length, List.drop_eq_nil_of_le (by omega), if_pos rfl]
    generalize runL _ _ b_slices_Equal_int_int_0 = R
    simp only [b_slices_Equal_int_int_0, go_sem, V_call, Int.lt_irrefl]
  | succ d ih =>
    intro n hd h1
    have hlt : n < a.length := by omega
    have hb : n < b.length := by omega
    obtain ⟨i, hi⟩ := ih (n + 1) (by omega) (by omega)
    refine ⟨i, ?_⟩
    have ga : a[n]? = some a[n] := List.getElem?_eq_getElem hlt
    have gb : b[n]? = some b[n] := List.getElem?_eq_getElem hb
    rw [runL_eq, List.drop_eq_getElem_cons hlt, List.drop_eq_getElem_cons hb]
    generalize a[n] = x at ga ⊢
    generalize b[n] = y at gb ⊢
    have w1 : IntKind.i64.wrap ((n : Int) + 1) = ((n + 1 : Nat) : Int) := by rw [IntWalk.i64_in _ (by omega)]; omega
    have c1 : (n : Int) < (a.length : Int) := by omega
    generalize runL _ _ b_slices_Equal_int_int_0 = R at hi ⊢
    simp only [b_slices_Equal_int_int_0, go_sem, V_call, el_at ga, el_at gb, w1, c1, hi, List.cons.injEq]
    by_cases h : x = y
    · simp [h]
    · simp [h]

theorem equal_ok {a b : List Int} (ha : a.length < 4611686018427387904) (st : St) : callE outE given f_slices_Equal_int_int [ints a, ints b] st = some (.bool (decide (a = b)), st) := by
  rw [callE_fn outE given (c := e_slices_Equal_int_int) rfl rfl]
  by_cases h : a.length = b.length
  · have e : ((a.length : Int) ≠ (b.length : Int)) = False := eq_false (by omega)
    simp only [e_slices_Equal_int_int, go_sem, V_call, el_len, e]
    generalize hK : blockK 0 _ = K
    obtain ⟨i, hi⟩ := equal_loop ha h (st := st) (K := K) _ 0 rfl (by omega)
    refine Eq.trans hi ?_
    rw [← hK]
    simp only [List.drop_zero]
    by_cases h2 : a = b
    · rw [if_pos h2, decide_eq_true h2]; rfl
    · rw [if_neg h2, decide_eq_false h2]; rfl
  · have e : ((a.length : Int) ≠ (b.length : Int)) = True := eq_true (by omega)
    have h2 : a ≠ b := fun e => h (by rw [e])
    simp only [e_slices_Equal_int_int, go_sem, V_call, el_len, e, decide_eq_false h2]

theorem eqcb_ok {l ns : List Int} {st : St} {k : Nat} {e : PV} (hl : l.length < 4611686018427387904) (hb : st.boxes[k]? = some [ints ns, e]) : callE outE given f_delta_Apply_1_1 [ints l, .ptr k 0] st = some (.bool (decide (l = ns)), st) := by
  rw [callE_fn outE given (c := e_delta_Apply_1_1) rfl rfl]
  simp only [e_delta_Apply_1_1, go_sem, V_call, hb, equal_ok hl ⟨[], []⟩]

theorem index_loop {G : List (List Int)} {ns : List Int} {st : St} {k : Nat} {e : PV} (hb : st.boxes[k]? = some [ints ns, e]) (hG : ∀ x ∈ G, Short x) (hGl : G.length < 1000000) {K : EX → Fr → St → Option (PV × St)} : ∀ (d n : Nat), G.length - n = d → n ≤ G.length →
    ∃ (i j : Int), 0 ≤ j ∧ runL (callE outE given) [true, true, true, true, false] b_slices_IndexFunc_int_int_0 [.lst (G.map ints), .func f_delta_Apply_1_1 [.ptr k 0], .int .i64 G.length, .int .i64 n, .undef] st K =
      if ns ∈ G.drop n then K (.ret (.int .i64 j)) [] st else K (.exit 0) [.lst (G.map ints), .func f_delta_Apply_1_1 [.ptr k 0], .int .i64 G.length, .int .i64 i, .undef] st := by
  intro d
  induction d with
  | zero =>
    intro n hd h1
    have : n = G.length := by omega
    subst this
    refine ⟨G.length, 0, by omega, ?_⟩
    rw [runL_eq, List.drop_length, if_neg (by simp)]
    generalize runL _ _ b_slices_IndexFunc_int_int_0 = R
    simp only [b_slices_IndexFunc_int_int_0, go_sem, V_call, Int.lt_irrefl]
  | succ d ih =>
    intro n hd h1
    have hlt : n < G.length := by omega
    obtain ⟨i, j, hj, hi⟩ := ih (n + 1) (by omega) (by omega)
    have hg : (G.map ints)[n]? = some (ints G[n]) := by rw [List.getElem?_map, List.getElem?_eq_getElem hlt]; rfl
    have hsh : Short G[n] := hG _ (List.getElem_mem hlt)
    rw [List.drop_eq_getElem_cons hlt]
    generalize G[n] = x at hg hsh ⊢
    have w1 : IntKind.i64.wrap ((n : Int) + 1) = ((n + 1 : Nat) : Int) := by rw [IntWalk.i64_in _ (by omega)]; omega
    have c1 : (n : Int) < (G.length : Int) := by omega
    have hcb := eqcb_ok (l := x) (st := st) (k := k) (by omega) hb
    by_cases h : x = ns
    · refine ⟨i, n, by omega, ?_⟩
      rw [runL_eq, if_pos (by simp [h])]
      generalize runL _ _ b_slices_IndexFunc_int_int_0 = R at hi ⊢
      rw [decide_eq_true h] at hcb
      simp only [b_slices_IndexFunc_int_int_0, go_sem, V_call, idxL hg, w1, c1, callv_eq, hcb]
    · refine ⟨i, j, hj, ?_⟩
      rw [runL_eq]
      generalize runL _ _ b_slices_IndexFunc_int_int_0 = R at hi ⊢
      rw [decide_eq_false h] at hcb
      have hm : (ns ∈ x :: G.drop (n + 1)) = (ns ∈ G.drop (n + 1)) := by simp [List.mem_cons]; intro e; exact absurd e.symm h
      simp only [b_slices_IndexFunc_int_int_0, go_sem, V_call, idxL hg, w1, c1, callv_eq, hcb, hi, hm]

theorem contains_ok {G : List (List Int)} {ns : List Int} {st : St} {k : Nat} {e : PV} (hb : st.boxes[k]? = some [ints ns, e]) (hG : ∀ x ∈ G, Short x) (hGl : G.length < 1000000) :
    callE outE given f_slices_ContainsFunc_int_int [.lst (G.map ints), .func f_delta_Apply_1_1 [.ptr k 0]] st = some (.bool (decide (ns ∈ G)), st) := by
  have key : ∃ i : Int, callE outE given f_slices_IndexFunc_int_int [.lst (G.map ints), .func f_delta_Apply_1_1 [.ptr k 0]] st = some (.int .i64 i, st) ∧ (i ≥ 0) = (ns ∈ G) := by
    rw [callE_fn outE given (c := e_slices_IndexFunc_int_int) rfl rfl]
    simp only [e_slices_IndexFunc_int_int, go_sem, V_call, List.length_map]
    generalize hK : blockK 0 _ = K
    obtain ⟨i, j, hj, h⟩ := index_loop hb hG hGl (K := K) _ 0 rfl (by omega)
    rw [List.drop_zero] at h
    by_cases hm : ns ∈ G
    · rw [if_pos hm] at h
      refine ⟨j, Eq.trans h ?_, by simp [hm, hj]⟩
      rw [← hK]; rfl
    · rw [if_neg hm] at h
      refine ⟨-1, Eq.trans h ?_, by simp [hm]⟩
      rw [← hK]; rfl
  obtain ⟨i, h1, h2⟩ := key
  rw [callE_fn outE given (c := e_slices_ContainsFunc_int_int) rfl rfl]
  simp only [e_slices_ContainsFunc_int_int, go_sem, V_call, h1]
  simp only [h2]

theorem gone_cb {G : List (List Int)} {p : Bool} {ns : List Int} {st : St} {k : Nat} {c : PV} (hb : st.boxes[k]? = some [c, .lst (G.map ints)]) (hG : ∀ x ∈ G, Short x) (hGl : G.length < 1000000) :
    ∃ st', callE outE given f_delta_Apply_1 [inst p ns, .ptr k 0] st = some (.bool (decide (ns ∈ G)), st') ∧ st'.rows = st.rows ∧ ∀ j, j < st.boxes.length → st'.boxes[j]? = st.boxes[j]? := by
  have hk := box_lt hb
  have hb1 : ∀ cs, (st.boxes ++ [cs])[k]? = some [c, .lst (G.map ints)] := fun cs => by rw [List.getElem?_append_left hk, hb]
  rw [callE_fn outE given (c := e_delta_Apply_1) rfl rfl]
  cases p with
  | false =>
    have h := contains_ok (G := G) (ns := ns) (st := ⟨st.boxes ++ [[ints ns, .nils]], st.rows⟩) (k := st.boxes.length) (e := .nils) (by simp) hG hGl
    refine ⟨⟨st.boxes ++ [[ints ns, .nils]], st.rows⟩, ?_, rfl, fun j hj => by simp only; rw [List.getElem?_append_left hj]⟩
    simp only [e_delta_Apply_1, inst, go_sem, V_call, hb1, h]
  | true =>
    have h := contains_ok (G := G) (ns := ns) (st := ⟨st.boxes ++ [[ints ns, .lst []]], st.rows⟩) (k := st.boxes.length) (e := .lst []) (by simp) hG hGl
    refine ⟨⟨st.boxes ++ [[ints ns, .lst []]], st.rows⟩, ?_, rfl, fun j hj => by simp only; rw [List.getElem?_append_left hj]⟩
    simp only [e_delta_Apply_1, inst, go_sem, V_call, hb1, h]

theorem setLast {l : List (List PV)} {a b : List PV} : (l ++ [a]).set l.length b = l ++ [b] := by simp [List.set_append]
theorem getLast {l : List (List PV)} {a : List PV} : (l ++ [a])[l.length]? = some a := by simp

def leftM (G l : List (List Int)) : List (List Int) := l.filter fun x => !decide (x ∈ G)

theorem apply_loop {p : Bool} {xs C G : List (List Int)} (hG : ∀ x ∈ G, Short x) (hGl : G.length < 1000000) (hxl : xs.length < 1000000) {K : EX → Fr → St → Option (PV × St)} :
    ∀ (d n : Nat) (L : List (List Int)) (x : PV) (st : St), xs.length - n = d → n ≤ xs.length → L.length ≤ n → st.boxes[0]? = some [.lst (C.map (inst true)), .lst (G.map ints)] → Slot st 2 x (L.map (inst true)) →
    ∃ x' i st', Slot st' 2 x' ((L ++ leftM G (xs.drop n)).map (inst true)) ∧ st'.boxes[0]? = some [.lst (C.map (inst true)), .lst (G.map ints)] ∧
      runL (callE outE given) [false, false, true, true, true, false, true, true, true, false, false, false, false, false] b_delta_Apply_0 [.undef, .undef, .ptr 0 0, .func f_delta_Apply_1 [.ptr 0 0], x, .undef, .lst (xs.map (inst p)), .int .i64 xs.length, .int .i64 n, .undef, .undef, .undef, .undef, .undef] st K =
      K (.exit 0) [.undef, .undef, .ptr 0 0, .func f_delta_Apply_1 [.ptr 0 0], x', .undef, .lst (xs.map (inst p)), .int .i64 xs.length, i, .undef, .undef, .undef, .undef, .undef] st' := by
  intro d
  induction d with
  | zero =>
    intro n L x st hd hn hL hb hx
    have : n = xs.length := by omega
    subst this
    refine ⟨x, .int .i64 xs.length, st, by rw [List.drop_length]; simpa [leftM] using hx, hb, ?_⟩
    rw [runL_eq]
    generalize runL _ _ b_delta_Apply_0 = R
    simp only [b_delta_Apply_0, go_sem, V_call, Int.lt_irrefl]
  | succ d ih =>
    intro n L x st hd hn hL hb hx
    have hlt : n < xs.length := by omega
    have hg : xs[n]? = some xs[n] := List.getElem?_eq_getElem hlt
    rw [List.drop_eq_getElem_cons hlt]
    generalize xs[n] = ns at hg ⊢
    have w1 : IntKind.i64.wrap ((n : Int) + 1) = ((n + 1 : Nat) : Int) := by rw [IntWalk.i64_in _ (by omega)]; omega
    have c1 : (n : Int) < (xs.length : Int) := by omega
    have hb1 : ∀ cs, (st.boxes ++ [cs])[0]? = some [.lst (C.map (inst true)), .lst (G.map ints)] := fun cs => by rw [List.getElem?_append_left (box_lt hb), hb]
    obtain ⟨s1, k1, k2, k3⟩ := gone_cb (p := p) (ns := ns) (st := ⟨st.boxes ++ [(inst p ns).cells], st.rows⟩) (hb1 _) hG hGl
    have k4 : s1.boxes[st.boxes.length]? = some (inst p ns).cells := by rw [k3 _ (by simp)]; simp
    have k5 : s1.boxes[0]? = some [.lst (C.map (inst true)), .lst (G.map ints)] := by rw [k3 0 (by simp)]; exact hb1 _
    have hx1 : Slot s1 2 x (L.map (inst true)) := by unfold Slot; rw [k2]; exact hx
    by_cases h : ns ∈ G
    · rw [decide_eq_true h] at k1
      obtain ⟨x', i, st', q1, q2, q3⟩ := ih (n + 1) L x s1 (by omega) (by omega) (by omega) k5 hx1
      refine ⟨x', i, st', by simpa [leftM, h] using q1, q2, ?_⟩
      rw [runL_eq]
      generalize runL _ _ b_delta_Apply_0 = R at q3 ⊢
      rw [← q3]
      have hi := idxI (p := p) hg
      cases p <;> (
        simp only [inst, PV.cells] at k1
        simp only [b_delta_Apply_0, go_sem, V_call, c1, w1, hi, inst, getLast, setLast, callv_eq, k1])
    · rw [decide_eq_false h] at k1
      obtain ⟨r, rows, a1, a2, a3⟩ := hx1.add (e := inst true ns) (b := 48) (inst_cells true ns) (szI true _) (by rw [List.length_map]; omega)
      obtain ⟨x', i, st', q1, q2, q3⟩ := ih (n + 1) (L ++ [ns]) (.own r (L.map (inst true) ++ [inst true ns])) ⟨s1.boxes, rows⟩ (by omega) (by omega) (by simp; omega) k5 (.inr ⟨r, by simp, by simpa using a2⟩)
      refine ⟨x', i, st', by simpa [leftM, h] using q1, q2, ?_⟩
      rw [runL_eq]
      generalize runL _ _ b_delta_Apply_0 = R at q3 ⊢
      rw [← q3]
      have hi := idxI (p := p) hg
      cases p <;> (
        simp only [inst, PV.cells] at k1 k4 a1
        simp only [b_delta_Apply_0, go_sem, V_call, c1, w1, hi, inst, getLast, setLast, callv_eq, k1, k4, a1])

theorem setAt2 {n : Nat} {z : List PV} {y w : PV} (h1 : y.cells.length = n) (h2 : y.cells.all PV.isCell = true) (h3 : w.cells.length = n) (h4 : w.cells.all PV.isCell = true) : setAt n (toElems n z 2) ([0, 1].zip [y, w]) = some [y, w] := by
  simp [setAt, toElems, h1, h2, h3, h4, List.replicate]

theorem apply_ok {p : Bool} {xs C G : List (List Int)} (hX : ∀ x ∈ xs, Short x) (hC : ∀ x ∈ C, Short x) (hG : ∀ x ∈ G, Short x) (hGl : G.length < 1000000) (hxl : xs.length + C.length < 1000000) :
    ∃ st', callE outE given f_delta_Apply [.lst (xs.map (inst p)), .agg [.lst (C.map (inst true)), .lst (G.map ints)]] ⟨[], []⟩ = some (.lst ((mergeM [(true, leftM G xs), (true, C)]).map (inst true)), st') := by
  rw [callE_fn outE given (c := e_delta_Apply) rfl rfl]
  simp only [e_delta_Apply, go_sem, V_call, List.length_map]
  generalize hK : blockK 0 _ = K
  obtain ⟨x', i, st', q1, q2, q3⟩ := apply_loop (C := C) hG hGl (by omega) (K := K) _ 0 [] .nils ⟨[[.lst (C.map (inst true)), .lst (G.map ints)]], []⟩ rfl (by omega) (by simp) rfl (.inl ⟨rfl, rfl⟩) (p := p) (xs := xs)
  have hll : (leftM G xs).length ≤ xs.length := List.length_filter_le _ _
  obtain ⟨sm, hm⟩ := mergeE_ok (rs := [(true, leftM G xs), (true, C)]) (fun r hr x hx => by
    rcases List.mem_cons.1 hr with rfl | hr
    · exact hX x ((List.mem_filter.1 hx).1)
    · rcases List.mem_cons.1 hr with rfl | hr
      · exact hC x hx
      · cases hr) (by simp) (by simp [total]; omega)
  refine ⟨st', Eq.trans q3 ?_⟩
  rw [← hK]
  rw [List.drop_zero, List.nil_append] at q1
  have e2 : setAt 1 (toElems 1 [.nils] 2) ([0, 1].zip [.lst ((leftM G xs).map (inst true)), .lst (C.map (inst true))]) = some [.lst ((leftM G xs).map (inst true)), .lst (C.map (inst true))] := setAt2 rfl rfl rfl rfl
  simp only [List.map_cons, List.map_nil, rowP] at hm
  rcases q1 with ⟨rfl, q1⟩ | ⟨q, rfl, _⟩
  · rw [q1] at e2 hm
    simp only [go_sem, V_call, q2, e2, hm]
  · simp only [go_sem, V_call, q2, e2, hm]
end Go.Proofs.YtngkdpiajikcjaaPe.Delta
