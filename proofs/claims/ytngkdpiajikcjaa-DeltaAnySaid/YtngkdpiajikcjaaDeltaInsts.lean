/- What 'insts' comes to. -/
import Derived.Test.YtngkdpiajikcjaaDeltaHas
set_option maxRecDepth 1000000
set_option linter.unusedVariables false
set_option linter.unusedSimpArgs false
namespace Go.Proofs.YtngkdpiajikcjaaPe.Delta
open Go Go.Proofs.YtngkdpiajikcjaaPe Go.Proofs.YtngkdpiajikcjaaPe.DeltaCode

/-- A row that is gathered, or none yet. -/
def Gath (st : St) (n : Nat) (x : PV) (L : List PV) : Prop := ((x = .nils ∨ x = .emp) ∧ L = []) ∨ ∃ r, x = .own r L ∧ st.rows[r]? = some (L.length, n)

theorem Gath.adds {st : St} {n b : Nat} {x : PV} {L es : List PV} (h : Gath st n x L) (hs : szAll n es = true) (hlen : (L.length + es.length) * (b + 1) ≤ 70368744177664) :
    ∃ x' rows, evAppend n b (if es.isEmpty = true then x else x.nm) es st = some (x', ⟨st.boxes, rows⟩) ∧ Gath ⟨st.boxes, rows⟩ n x' (L ++ es) := by
  cases es with
  | nil =>
    refine ⟨x, st.rows, ?_, by rw [List.append_nil]; exact h⟩
    rcases h with ⟨rfl | rfl, _⟩ | ⟨r, rfl, _⟩ <;> rfl
  | cons e es =>
    rw [List.isEmpty_cons, if_neg (by simp)]
    rcases h with ⟨hx, rfl⟩ | ⟨r, rfl, hr⟩
    · have e1 : x.nm = .full [] := by rcases hx with rfl | rfl <;> rfl
      refine ⟨.own st.rows.length ([] ++ (e :: es)), st.rows ++ [(0 + (e :: es).length, n)], ?_, .inr ⟨_, rfl, by simp⟩⟩
      rw [e1, A_full, if_pos hs, if_pos ⟨hlen, rfl⟩]
      rfl
    · refine ⟨.own r (L ++ (e :: es)), st.rows.set r (L.length + (e :: es).length, n), ?_, .inr ⟨r, rfl, ?_⟩⟩
      · rw [n_own, A_own, if_pos hs, if_pos ⟨hlen, hr⟩]
      · have : r < st.rows.length := (List.getElem?_eq_some_iff.1 hr).1
        simp only
        rw [List.getElem?_set_self this]
        simp

/-- Where a row of numbers belongs among others that rise. -/
def posM (L : List (List Int)) (r : List Int) : Nat → Nat
  | 0 => 0
  | k + 1 => if cmpM (L.getD k []) r > 0 then posM L r k else k + 1
def insM (L : List (List Int)) (r : List Int) : List (List Int) :=
  if posM L r L.length ≠ 0 ∧ cmpM (L.getD (posM L r L.length - 1) []) r = 0 then L else L.take (posM L r L.length) ++ [r] ++ L.drop (posM L r L.length)
def instsM (l : List (List Int)) : List (List Int) := l.foldl insM []

theorem pos_le (L : List (List Int)) (r : List Int) : ∀ k, posM L r k ≤ k
  | 0 => Nat.le_refl _
  | k + 1 => by
    unfold posM
    split
    · have := pos_le L r k; omega
    · exact Nat.le_refl _

theorem pos_loop {l : List (List Int)} {L : List (List Int)} {r : Nat} {n : Nat} {a : List Int} (hg : (l.map ints)[n]? = some (ints a)) (hL : ∀ x ∈ L, Short x) {st : St} {K : EX → Fr → St → Option (PV × St)} : ∀ (k : Nat), k ≤ L.length → k < 1000000 →
    runL (callE outE given) [true, true, true, true, false, false, false] b_law18_insts_0 [.lst (l.map ints), .own r (L.map (inst true)), .int .i64 n, .int .i64 k, .undef, .undef, .undef] st K =
      K (.exit 2) [.lst (l.map ints), .own r (L.map (inst true)), .int .i64 n, .int .i64 (posM L a k), .undef, .undef, .undef] st := by
  intro k
  induction k with
  | zero =>
    intro hk _
    rw [runL_eq]
    generalize runL _ _ b_law18_insts_0 = R
    simp only [b_law18_insts_0, go_sem, V_call, z1, posM]
  | succ k ih =>
    intro hk hb
    have hlt : k < L.length := by omega
    have hx : L[k]? = some L[k] := List.getElem?_eq_getElem hlt
    have hsh := hL _ (List.getElem_mem hlt)
    have e : L.getD k [] = L[k] := by simp [List.getD_eq_getElem?_getD, hx]
    rw [runL_eq]
    unfold posM
    rw [e]
    generalize L[k] = x at hx hsh ⊢
    have w1 : IntKind.i64.wrap (((k + 1 : Nat) : Int) - 1) = (k : Int) := by rw [IntWalk.i64_in _ (by omega)]; omega
    have hc := compare_ok (a := x) (b := a) (by omega) ⟨[], []⟩
    have hi := ih (by omega) (by omega)
    generalize runL _ _ b_law18_insts_0 = R at hi ⊢
    simp only [b_law18_insts_0, go_sem, V_call, z3, w1, idxI hx, idxL hg, hc, hi]
    by_cases h : cmpM x a > 0
    · simp [h]
    · simp [h]

theorem lsub_hi {n : Nat} {k : IntKind} {x : PV} {M : List PV} {i : Nat} (hx : slcOf x.nm = some M) (h : i ≤ M.length) : lsubV n x none (some (.int k (i : Int))) none = some (.lst (M.take i)) := by
  unfold lsubV
  rw [hx]
  simp only
  rw [bnd_hi (by omega) (by omega)]
  simp [bnd, sizesOk]
theorem lsub_lo {n : Nat} {k : IntKind} {x : PV} {M : List PV} {i : Nat} (hx : slcOf x.nm = some M) (h : i ≤ M.length) (hs : szAll n M = true) : lsubV n x (some (.int k (i : Int))) none none = some (.lst (M.drop i)) := by
  unfold lsubV
  rw [hx]
  simp only [show bnd none M.length M.length = some M.length from rfl]
  rw [bnd_hi (by omega) (by omega)]
  have : sizesOk n i M = true := by
    cases M with
    | nil => simp [sizesOk]
    | cons e M =>
      simp only [szAll, List.all_cons, Bool.and_eq_true] at hs
      simp [sizesOk, hs.1]
  simp [this]

theorem z0 : ((0 : Int) > 0) = False := by simp
theorem emp0 {cl : CallF} {n : Nat} {z : List PV} : tupV cl (.bslice n z 0 []) [] = some .emp := rfl
theorem fillI {a : List Int} : fillP [.nils, .nils] (zip3 [(0, 1)] [ints a]) = some [ints a, .nils] := rfl

/-- One more row: taken in where it belongs, as three appends. -/
theorem put_ok {st : St} {L : List (List Int)} {a : List Int} {k : Nat} (hk : k ≤ L.length) (hL : L.length < 1000000) :
    ∃ x4 r4 x5 r5 x6 r6, evAppend 2 48 (if ((L.take k).map (inst true)).isEmpty = true then .emp else .full []) ((L.take k).map (inst true)) st = some (x4, ⟨st.boxes, r4⟩) ∧
      evAppend 2 48 x4.nm [.agg [ints a, .lst []]] ⟨st.boxes, r4⟩ = some (x5, ⟨st.boxes, r5⟩) ∧
      evAppend 2 48 (if ((L.drop k).map (inst true)).isEmpty = true then x5 else x5.nm) ((L.drop k).map (inst true)) ⟨st.boxes, r5⟩ = some (x6, ⟨st.boxes, r6⟩) ∧
      Slot ⟨st.boxes, r6⟩ 2 x6 ((L.take k ++ [a] ++ L.drop k).map (inst true)) := by
  have g0 : Gath st 2 .emp [] := .inl ⟨.inr rfl, rfl⟩
  obtain ⟨x4, r4, h4, g4⟩ := g0.adds (b := 48) (szI true (L.take k)) (by simp; omega)
  obtain ⟨x5, r5, h5, g5⟩ := g4.adds (b := 48) (es := [.agg [ints a, .lst []]]) rfl (by simp; omega)
  obtain ⟨x6, r6, h6, g6⟩ := g5.adds (b := 48) (szI true (L.drop k)) (by simp; omega)
  refine ⟨x4, r4, x5, r5, x6, r6, h4, h5, h6, ?_⟩
  have e : [] ++ (L.take k).map (inst true) ++ [.agg [ints a, .lst []]] ++ (L.drop k).map (inst true) = (L.take k ++ [a] ++ L.drop k).map (inst true) := by simp [inst]
  rw [e] at g6
  rcases g6 with ⟨_, h⟩ | h
  · simp at h
  · exact .inr h

theorem insts_loop {l : List (List Int)} (hs : ∀ x ∈ l, Short x) (hl : l.length < 1000000) {K : EX → Fr → St → Option (PV × St)} : ∀ (d n : Nat) (L : List (List Int)) (x : PV) (st : St), l.length - n = d → n ≤ l.length → L.length ≤ n → (∀ y ∈ L, Short y) → Slot st 2 x (L.map (inst true)) →
    ∃ x' i st', Slot st' 2 x' (((l.drop n).foldl insM L).map (inst true)) ∧ runL (callE outE given) [true, true, true, false, false, false, false] b_law18_insts_1 [.lst (l.map ints), x, .int .i64 n, .undef, .undef, .undef, .undef] st K =
      K (.exit 0) [.lst (l.map ints), x', i, .undef, .undef, .undef, .undef] st' := by
  intro d
  induction d with
  | zero =>
    intro n L x st hd hn hLn hL hx
    have : n = l.length := by omega
    subst this
    refine ⟨x, .int .i64 l.length, st, by rw [List.drop_length]; exact hx, ?_⟩
    rw [runL_eq]
    generalize runL _ _ b_law18_insts_1 = R
    simp only [b_law18_insts_1, go_sem, V_call, List.length_map, Int.lt_irrefl]
  | succ d ih =>
    intro n L x st hd hn hLn hL hx
    have hlt : n < l.length := by omega
    have hg : (l.map ints)[n]? = some (ints l[n]) := by rw [List.getElem?_map, List.getElem?_eq_getElem hlt]; rfl
    have hsh := hs _ (List.getElem_mem hlt)
    rw [List.drop_eq_getElem_cons hlt, List.foldl_cons]
    generalize l[n] = a at hg hsh ⊢
    have w1 : IntKind.i64.wrap ((n : Int) + 1) = ((n + 1 : Nat) : Int) := by rw [IntWalk.i64_in _ (by omega)]; omega
    have c1 : (n : Int) < (l.length : Int) := by omega
    rcases hx with ⟨rfl, hx⟩ | ⟨r, rfl, hr⟩
    · have hL0 : L = [] := by simpa using hx
      subst hL0
      have hz : ∀ {K : EX → Fr → St → Option (PV × St)} {st : St}, runL (callE outE given) [true, true, true, true, false, false, false] b_law18_insts_0 [.lst (l.map ints), .nils, .int .i64 n, .int .i64 0, .undef, .undef, .undef] st K =
          K (.exit 2) [.lst (l.map ints), .nils, .int .i64 n, .int .i64 0, .undef, .undef, .undef] st := by
        intro K st
        rw [runL_eq]
        generalize runL _ _ b_law18_insts_0 = R
        simp only [b_law18_insts_0, go_sem, V_call, z0]
      obtain ⟨x4, r4, x5, r5, x6, r6, h4, h5, h6, h7⟩ := put_ok (st := st) (L := []) (a := a) (k := 0) (by simp) (by simp)
      obtain ⟨x', i, st', q1, q2⟩ := ih (n + 1) _ x6 _ (by omega) (by omega) (by simp) (by
        intro y hy
        simp at hy
        subst hy
        exact hsh) h7
      refine ⟨x', i, st', q1, ?_⟩
      rw [runL_eq]
      generalize runL _ _ b_law18_insts_1 = R at q2 ⊢
      rw [← q2]
      have s1 : lsubV 2 .nils none (some (.int .i64 0)) none = some (.lst []) := rfl
      have s2 : lsubV 2 .nils (some (.int .i64 0)) none none = some (.lst []) := rfl
      simp only [List.take_nil, List.drop_nil, List.map_nil, List.isEmpty_nil, if_true] at h4 h6
      simp only [b_law18_insts_1, go_sem, V_call, List.length_map, c1, w1, hz, z0, s1, s2, emp0, h4, h5, h6, idxL hg, fillI]
    · have hp := fun {K : EX → Fr → St → Option (PV × St)} => pos_loop (K := K) (st := st) (r := r) (a := a) hg hL L.length (Nat.le_refl _) (by omega)
      have hpl := pos_le L a L.length
      unfold insM
      generalize posM L a L.length = k at hp hpl ⊢
      by_cases hc : k ≠ 0 ∧ cmpM (L.getD (k - 1) []) a = 0
      · rw [if_pos hc]
        obtain ⟨x', i, st', q1, q2⟩ := ih (n + 1) L (.own r (L.map (inst true))) st (by omega) (by omega) (by omega) hL (.inr ⟨r, rfl, hr⟩)
        refine ⟨x', i, st', q1, ?_⟩
        rw [runL_eq]
        generalize runL _ _ b_law18_insts_1 = R at q2 ⊢
        rw [← q2]
        have hlt2 : k - 1 < L.length := by omega
        have hx : L[k - 1]? = some L[k - 1] := List.getElem?_eq_getElem hlt2
        have hsh2 := hL _ (List.getElem_mem hlt2)
        have e : L.getD (k - 1) [] = L[k - 1] := by simp [List.getD_eq_getElem?_getD, hx]
        have hc2 := hc.2
        rw [e] at hc2
        generalize L[k - 1] = y at hx hsh2 hc2
        have hcm := compare_ok (a := y) (b := a) (by omega) ⟨[], []⟩
        rw [hc2] at hcm
        have w2 : IntKind.i64.wrap ((k : Int) - 1) = ((k - 1 : Nat) : Int) := by rw [IntWalk.i64_in _ (by omega)]; omega
        have z : ((k : Int) > 0) = True := eq_true (by omega)
        simp only [b_law18_insts_1, go_sem, V_call, List.length_map, c1, w1, hp, z, w2, idxI hx, idxL hg, hcm]
      · rw [if_neg hc]
        obtain ⟨x4, r4, x5, r5, x6, r6, h4, h5, h6, h7⟩ := put_ok (st := st) (a := a) hpl (by omega)
        obtain ⟨x', i, st', q1, q2⟩ := ih (n + 1) _ x6 _ (by omega) (by omega) (by simp; omega) (by
          intro y hy
          simp only [List.mem_append, List.mem_singleton] at hy
          rcases hy with (hy | rfl) | hy
          · exact hL y (List.mem_of_mem_take hy)
          · exact hsh
          · exact hL y (List.mem_of_mem_drop hy)) h7
        refine ⟨x', i, st', q1, ?_⟩
        rw [runL_eq]
        generalize runL _ _ b_law18_insts_1 = R at q2 ⊢
        rw [← q2]
        have s1 := lsub_hi (n := 2) (k := .i64) (x := .own r (L.map (inst true))) (i := k) rfl (by simpa using hpl)
        have s2 := lsub_lo (n := 2) (k := .i64) (x := .own r (L.map (inst true))) (i := k) rfl (by simpa using hpl) (szI true L)
        rw [← List.map_take] at s1
        rw [← List.map_drop] at s2
        by_cases hk0 : k = 0
        · have z : ((k : Int) > 0) = False := eq_false (by omega)
          simp only [b_law18_insts_1, go_sem, V_call, List.length_map, c1, w1, hp, z, s1, s2, emp0, h4, h5, h6, idxL hg, fillI]
        · have hlt2 : k - 1 < L.length := by omega
          have hx : L[k - 1]? = some L[k - 1] := List.getElem?_eq_getElem hlt2
          have hsh2 := hL _ (List.getElem_mem hlt2)
          have e : L.getD (k - 1) [] = L[k - 1] := by simp [List.getD_eq_getElem?_getD, hx]
          have hc2 : ¬ cmpM (L.getD (k - 1) []) a = 0 := fun h => hc ⟨hk0, h⟩
          rw [e] at hc2
          generalize L[k - 1] = y at hx hsh2 hc2
          have hcm := compare_ok (a := y) (b := a) (by omega) ⟨[], []⟩
          have w2 : IntKind.i64.wrap ((k : Int) - 1) = ((k - 1 : Nat) : Int) := by rw [IntWalk.i64_in _ (by omega)]; omega
          have z : ((k : Int) > 0) = True := eq_true (by omega)
          simp only [b_law18_insts_1, go_sem, V_call, List.length_map, c1, w1, hp, z, w2, idxI hx, idxL hg, hcm, hc2, s1, s2, emp0, h4, h5, h6, fillI]

theorem insts_ok {l : List (List Int)} (hs : ∀ x ∈ l, Short x) (hl : l.length < 1000000) : tupV (callE outE given) (.call 0 f_law18_insts) [.lst (l.map ints)] = some (.lst ((instsM l).map (inst true))) := by
  have key : ∃ x st', callE outE given f_law18_insts [.lst (l.map ints)] ⟨[], []⟩ = some (x, st') ∧ Slot st' 2 x ((instsM l).map (inst true)) := by
    rw [callE_fn outE given (c := e_law18_insts) rfl rfl]
    simp only [e_law18_insts, go_sem, V_call]
    generalize hK : blockK 0 _ = K
    obtain ⟨x', i, st', h1, h2⟩ := insts_loop hs hl (K := K) _ 0 [] .nils ⟨[], []⟩ rfl (by omega) (by simp) (by simp) (.inl ⟨rfl, rfl⟩)
    refine ⟨x', st', Eq.trans h2 ?_, by simpa [instsM] using h1⟩
    rw [← hK]
    rfl
  obtain ⟨x, st', k1, k2⟩ := key
  exact callV_of (by rfl) k1 (k2.shut st')
end Go.Proofs.YtngkdpiajikcjaaPe.Delta
