/- What delta's callbacks come to. -/
import Derived.Test.YtngkdpiajikcjaaDeltaCmp
set_option maxRecDepth 1000000
set_option linter.unusedVariables false
set_option linter.unusedSimpArgs false
namespace Go.Proofs.YtngkdpiajikcjaaPe.Delta
open Go Go.Proofs.YtngkdpiajikcjaaPe Go.Proofs.YtngkdpiajikcjaaPe.DeltaCode

/-- A place where a row is gathered. -/
def Slot (st : St) (n : Nat) (x : PV) (L : List PV) : Prop := (x = .nils ∧ L = []) ∨ ∃ r, x = .own r L ∧ st.rows[r]? = some (L.length, n)

theorem Slot.boxes {st : St} {n : Nat} {x : PV} {L : List PV} (h : Slot st n x L) (bs : List (List PV)) : Slot ⟨bs, st.rows⟩ n x L := h

theorem Slot.add {st : St} {n : Nat} {x : PV} {L : List PV} (h : Slot st n x L) {e : PV} {b : Nat} (he : e.cells.length = n) (hL : szAll n L = true) (hlen : (L.length + 1) * (b + 1) ≤ 70368744177664) :
    ∃ r rows, evAppend n b x.nm [e] st = some (.own r (L ++ [e]), ⟨st.boxes, rows⟩) ∧ rows[r]? = some ((L ++ [e]).length, n) ∧ ∀ m y M bs, m ≠ n → Slot st m y M → Slot ⟨bs, rows⟩ m y M := by
  have hs : szAll n [e] = true := by simp [szAll, he]
  rcases h with ⟨rfl, rfl⟩ | ⟨r, rfl, hr⟩
  · refine ⟨st.rows.length, st.rows ++ [(1, n)], ?_, ?_, ?_⟩
    · simp only [PV.nm, A_full, hs, if_true]
      rw [if_pos ⟨by simpa using hlen, by simp [szAll]⟩]
      rfl
    · simp
    · intro m y M bs hm h
      rcases h with h | ⟨r, rfl, hr⟩
      · exact .inl h
      · refine .inr ⟨r, rfl, ?_⟩
        have : r < st.rows.length := (List.getElem?_eq_some_iff.1 hr).1
        simp only
        rw [List.getElem?_append_left this, hr]
  · refine ⟨r, st.rows.set r (L.length + 1, n), ?_, ?_, ?_⟩
    · simp only [PV.nm, A_own, hs, if_true]
      rw [if_pos ⟨by simpa using hlen, hr⟩]
      rfl
    · have : r < st.rows.length := (List.getElem?_eq_some_iff.1 hr).1
      rw [List.getElem?_set_self this]
      simp
    · intro m y M bs hm h
      rcases h with h | ⟨q, rfl, hq⟩
      · exact .inl h
      · refine .inr ⟨q, rfl, ?_⟩
        simp only
        rw [List.getElem?_set_ne, hq]
        intro e
        subst e
        exact hm (Prod.mk.inj (Option.some.inj (hr.symm.trans hq))).2.symm

theorem diff_cb {st : St} {k : Nat} {c g : PV} {C G : List PV} {p was is : Bool} {ns : List Int} (hb : st.boxes[k]? = some [c, g]) (hc : Slot st 2 c C) (hg : Slot st 1 g G) (hn : Short ns)
    (hC : szAll 2 C = true) (hG : szAll 1 G = true) (hCl : C.length < 1000000) (hGl : G.length < 1000000) :
    ∃ st' c' g', callE outE given f_delta_Diff_1 [inst p ns, .bool was, .bool is, .ptr k 0] st = some (.tuple [], st') ∧ st'.boxes[k]? = some [c', g'] ∧
      Slot st' 2 c' (C ++ if was then [] else [inst true ns]) ∧ Slot st' 1 g' (G ++ if was && !is then [ints ns] else []) ∧ ∀ j, j ≠ k → j < st.boxes.length → st'.boxes[j]? = st.boxes[j]? := by
  obtain ⟨sa, ha⟩ := apart_ok hn
  have hk := box_lt hb
  have hb1 : ∀ cs, (st.boxes ++ [cs])[k]? = some [c, g] := fun cs => by rw [List.getElem?_append_left hk, hb]
  have hb2 : ∀ cs, (st.boxes ++ [cs])[st.boxes.length]? = some cs := fun cs => by simp
  have oth : ∀ j, j ≠ k → j < st.boxes.length → ∀ cs ds : List PV, ((st.boxes ++ [cs]).set k ds)[j]? = st.boxes[j]? := fun j h1 h2 cs ds => by rw [List.getElem?_set_ne (fun e => h1 e.symm), List.getElem?_append_left h2]
  have hk2 : ∀ cs : List PV, k < (st.boxes ++ [cs]).length := fun cs => by simp; omega
  rw [callE_fn outE given (c := e_delta_Diff_1) rfl rfl]
  cases was with
  | false =>
    obtain ⟨r, rows, h1, h2, h3⟩ := (hc.boxes (st.boxes ++ [(inst p ns).cells])).add (e := inst true ns) (b := 48) (inst_cells true ns) hC (by omega)
    rw [show (if (false && !is) = true then [ints ns] else []) = [] by simp, List.append_nil]
    cases p <;> (
      simp only [inst, PV.cells] at h1 h2
      simp only [e_delta_Diff_1, inst, go_sem, V_call, hb1, hb2, ha, h1]
      refine ⟨_, .own r (C ++ [.agg [ints ns, .lst []]]), g, rfl, ?_, ?_, ?_, fun j h1 h2 => oth j h1 h2 _ _⟩
      · simp only
        rw [List.getElem?_set_self (hk2 _)]
      · exact .inr ⟨r, rfl, h2⟩
      · exact h3 1 g G _ (by decide) hg)
  | true =>
    cases is with
    | false =>
      obtain ⟨r, rows, h1, h2, h3⟩ := (hg.boxes (st.boxes ++ [(inst p ns).cells])).add (e := ints ns) (b := 24) rfl hG (by omega)
      cases p <;> (
        simp only [inst, PV.cells] at h1 h2
        simp only [e_delta_Diff_1, inst, go_sem, V_call, hb1, hb2, ha, h1]
        refine ⟨_, c, .own r (G ++ [ints ns]), rfl, ?_, ?_, ?_, fun j h1 h2 => oth j h1 h2 _ _⟩
        · simp only
          rw [List.getElem?_set_self (hk2 _)]
        · exact h3 2 c C _ (by decide) hc
        · exact .inr ⟨r, rfl, h2⟩)
    | true =>
      cases p <;> (
        simp only [e_delta_Diff_1, inst, go_sem, V_call]
        refine ⟨_, c, g, rfl, hb1 _, ?_, ?_, fun j h1 h2 => by simp only; rw [List.getElem?_append_left h2]⟩
        · exact hc
        · exact hg)

theorem merge_cb {st : St} {k : Nat} {c : PV} {C : List PV} {p was is : Bool} {ns : List Int} (hb : st.boxes[k]? = some [c]) (hc : Slot st 2 c C) (hn : Short ns)
    (hC : szAll 2 C = true) (hCl : C.length < 1000000) :
    ∃ st' c', callE outE given f_delta_Merge_1 [inst p ns, .bool was, .bool is, .ptr k 0] st = some (.tuple [], st') ∧ st'.boxes[k]? = some [c'] ∧
      Slot st' 2 c' (C ++ [inst true ns]) ∧ ∀ j, j ≠ k → j < st.boxes.length → st'.boxes[j]? = st.boxes[j]? := by
  obtain ⟨sa, ha⟩ := apart_ok hn
  have hk := box_lt hb
  have hb1 : ∀ cs, (st.boxes ++ [cs])[k]? = some [c] := fun cs => by rw [List.getElem?_append_left hk, hb]
  have hb2 : ∀ cs, (st.boxes ++ [cs])[st.boxes.length]? = some cs := fun cs => by simp
  have oth : ∀ j, j ≠ k → j < st.boxes.length → ∀ cs ds : List PV, ((st.boxes ++ [cs]).set k ds)[j]? = st.boxes[j]? := fun j h1 h2 cs ds => by rw [List.getElem?_set_ne (fun e => h1 e.symm), List.getElem?_append_left h2]
  have hk2 : ∀ cs : List PV, k < (st.boxes ++ [cs]).length := fun cs => by simp; omega
  rw [callE_fn outE given (c := e_delta_Merge_1) rfl rfl]
  obtain ⟨r, rows, h1, h2, h3⟩ := (hc.boxes (st.boxes ++ [(inst p ns).cells])).add (e := inst true ns) (b := 48) (inst_cells true ns) hC (by omega)
  cases p <;> (
    simp only [inst, PV.cells] at h1 h2
    simp only [e_delta_Merge_1, inst, go_sem, V_call, hb1, hb2, ha, h1]
    refine ⟨_, .own r (C ++ [.agg [ints ns, .lst []]]), rfl, ?_, ?_, fun j h1 h2 => oth j h1 h2 _ _⟩
    · simp only
      rw [List.getElem?_set_self (hk2 _)]
    · exact .inr ⟨r, rfl, h2⟩)

/-- What the walk tells, in order: a way, told from which row, and which rows have it. -/
def evs (p q : Bool) : List (List Int) → List (List Int) → List (Bool × List Int × Bool × Bool)
  | [], ys => ys.map fun b => (q, b, false, true)
  | a :: xs, [] => (p, a, true, false) :: evs p q xs []
  | a :: xs, b :: ys => if cmpM a b < 0 then (p, a, true, false) :: evs p q xs (b :: ys) else if cmpM a b = 0 then (p, a, true, true) :: evs p q xs ys else (q, b, false, true) :: evs p q (a :: xs) ys
termination_by xs ys => xs.length + ys.length

theorem szI (p : Bool) (l : List (List Int)) : szAll 2 (l.map (inst p)) = true := by
  unfold szAll
  rw [List.all_eq_true]
  intro x hx
  obtain ⟨n, _, rfl⟩ := List.mem_map.1 hx
  rw [inst_cells]
  rfl

/-- A way's cells. -/
def icells (p : Bool) (a : List Int) : List PV := (inst p a).cells
@[go_sem high] theorem ld2I {p : Bool} {a : List Int} : unV (.ld (some 2)) (.ref (icells p a)) = some (inst p a) := by cases p <;> rfl
@[go_sem high] theorem ld0I {p : Bool} {a : List Int} : unV (.ld none) (.ref (icells p a)) = some (ints a) := by cases p <;> rfl
@[go_sem high] theorem offI {p : Bool} {a : List Int} : unV (.off 0) (.ref (icells p a)) = some (.ref (icells p a)) := by cases p <;> rfl
theorem idx0 {p : Bool} {a : List Int} {l : List PV} : evIdx 2 (inst p a :: l) 0 = some (.ref (icells p a)) := by
  cases p <;> rfl
theorem idxI {p : Bool} {l : List (List Int)} {a : List Int} {n : Nat} (h : l[n]? = some a) : evIdx 2 (l.map (inst p)) (n : Int) = some (.ref (icells p a)) := by
  unfold evIdx
  rw [if_pos (Int.natCast_nonneg n), Int.toNat_natCast, List.getElem?_map, h]
  simp only [Option.map_some, inst_cells, if_true]
  rfl
theorem sub1 {p : Bool} {a : List Int} {l : List PV} {k : IntKind} : lsubV 2 (.lst (inst p a :: l)) (some (.int k 1)) none none = some (.lst l) := by
  cases p <;> (
    simp [lsubV, slcOf, PV.nm, bnd, sizesOk, inst, PV.cells]
    rw [if_pos (by omega)]
    rfl)

theorem callv_eq {cl : CallF} {f : FuncId} {cap vs : List PV} {st : St} : callvV cl (.func f cap) vs st = cl f (vs ++ cap) st := rfl
theorem z1 : (((0 : Nat) : Int) > 0) = False := by simp
theorem z2 : (((0 : Nat) : Int) = 0) = True := by simp
theorem z3 (n : Nat) : (((n + 1 : Nat) : Int) > 0) = True := eq_true (by omega)
theorem z4 (n : Nat) : (((n + 1 : Nat) : Int) = 0) = False := eq_false (by omega)
theorem z5 : ((1 : Int) ≤ 0) = False := by simp
theorem z6 : ((1 : Int) = 0) = False := by simp
theorem z7 : ((1 : Int) > 0) = True := by simp
theorem z8 : ((-1 : Int) ≤ 0) = True := by simp
theorem z9 : ((-1 : Int) = 0) = False := by simp
theorem z10 : ((-1 : Int) > 0) = False := by simp

theorem walk_loop {fcb : FuncId} {cap : List PV} {K : EX → Fr → St → Option (PV × St)} (J : List (Bool × List Int × Bool × Bool) → St → Prop)
    (hcb : ∀ st done p ns was is, J done st → Short ns → done.length < 1000000 → ∃ st', callE outE given fcb (inst p ns :: .bool was :: .bool is :: cap) st = some (.tuple [], st') ∧ J (done ++ [(p, ns, was, is)]) st') (p q : Bool) :
    ∀ (n : Nat) (xs ys : List (List Int)) (done : List (Bool × List Int × Bool × Bool)) (st : St), xs.length + ys.length = n → (∀ x ∈ xs, Short x) → (∀ x ∈ ys, Short x) → done.length + n < 1000000 → J done st →
    ∃ st', J (done ++ evs p q xs ys) st' ∧ runL (callE outE given) [true, true, true, false] b_delta_walk_0 [.lst (xs.map (inst p)), .lst (ys.map (inst q)), .func fcb cap, .undef] st K = K (.exit 0) [.lst [], .lst [], .func fcb cap, .undef] st' := by
  intro n
  induction n using Nat.strongRecOn with
  | _ n ih =>
    intro xs ys done st hn hA hB hd hJ
    cases xs with
    | nil =>
      cases ys with
      | nil =>
        refine ⟨st, by rw [evs]; simpa using hJ, ?_⟩
        rw [runL_eq]
        generalize runL _ _ b_delta_walk_0 = L
        simp only [b_delta_walk_0, go_sem, V_call, List.map_nil, z1, or_self]
      | cons b ys =>
        obtain ⟨s1, c1, J1⟩ := hcb st done q b false true hJ (hB b (by simp)) (by omega)
        obtain ⟨st', J2, h2⟩ := ih (n - 1) (by simp at hn; omega) [] ys (done ++ [(q, b, false, true)]) s1 (by simp at hn ⊢; omega) hA (fun x hx => hB x (by simp [hx])) (by simp at hn ⊢; omega) J1
        refine ⟨st', by rw [evs] at J2 ⊢; simpa using J2, ?_⟩
        rw [runL_eq]
        generalize runL _ _ b_delta_walk_0 = L at h2 ⊢
        rw [← h2]
        simp only [b_delta_walk_0, go_sem, V_call, List.map_nil, List.map_cons, z1, z2, z3, z4, z5, z6, z7, or_true, idx0, sub1, callv_eq, c1]
    | cons a xs =>
      cases ys with
      | nil =>
        obtain ⟨s1, c1, J1⟩ := hcb st done p a true false hJ (hA a (by simp)) (by omega)
        obtain ⟨st', J2, h2⟩ := ih (n - 1) (by simp at hn; omega) xs [] (done ++ [(p, a, true, false)]) s1 (by simp at hn ⊢; omega) (fun x hx => hA x (by simp [hx])) hB (by simp at hn ⊢; omega) J1
        refine ⟨st', by rw [evs]; simpa using J2, ?_⟩
        rw [runL_eq]
        generalize runL _ _ b_delta_walk_0 = L at h2 ⊢
        rw [← h2]
        simp only [b_delta_walk_0, go_sem, V_call, List.map_nil, List.map_cons, z1, z2, z3, z4, z5, z6, z7, z8, z9, z10, true_or, or_true, idx0, sub1, callv_eq, c1]
      | cons b ys =>
        have hc := mcompare_ok (a := a) (b := b) (by have := hA a (by simp); omega) ⟨[], []⟩
        by_cases h1 : cmpM a b < 0
        · obtain ⟨s1, c1, J1⟩ := hcb st done p a true false hJ (hA a (by simp)) (by omega)
          obtain ⟨st', J2, h2⟩ := ih (n - 1) (by simp at hn; omega) xs (b :: ys) (done ++ [(p, a, true, false)]) s1 (by simp at hn ⊢; omega) (fun x hx => hA x (by simp [hx])) hB (by simp at hn ⊢; omega) J1
          refine ⟨st', by rw [evs, if_pos h1]; simpa using J2, ?_⟩
          rw [runL_eq]
          generalize runL _ _ b_delta_walk_0 = L at h2 ⊢
          rw [← h2]
          have e1 : (cmpM a b ≤ 0) = True := eq_true (by omega)
          have e2 : (cmpM a b = 0) = False := eq_false (by omega)
          have e3 : (cmpM a b > 0) = False := eq_false (by omega)
          simp only [b_delta_walk_0, go_sem, V_call, List.map_cons, z3, z4, true_or, idx0, sub1, hc, e1, e2, e3, callv_eq, c1]
        · by_cases h3 : cmpM a b = 0
          · obtain ⟨s1, c1, J1⟩ := hcb st done p a true true hJ (hA a (by simp)) (by omega)
            obtain ⟨st', J2, h2⟩ := ih (n - 2) (by simp at hn; omega) xs ys (done ++ [(p, a, true, true)]) s1 (by simp at hn ⊢; omega) (fun x hx => hA x (by simp [hx])) (fun x hx => hB x (by simp [hx])) (by simp at hn ⊢; omega) J1
            refine ⟨st', by rw [evs, if_neg h1, if_pos h3]; simpa using J2, ?_⟩
            rw [runL_eq]
            generalize runL _ _ b_delta_walk_0 = L at h2 ⊢
            rw [← h2]
            have e1 : ((0 : Int) ≤ 0) = True := eq_true (by omega)
            have e3 : ((0 : Int) > 0) = False := eq_false (by omega)
            rw [h3] at hc
            simp only [b_delta_walk_0, go_sem, V_call, List.map_cons, z3, z4, true_or, idx0, sub1, hc, e1, e3, callv_eq, c1]
          · obtain ⟨s1, c1, J1⟩ := hcb st done q b false true hJ (hB b (by simp)) (by omega)
            obtain ⟨st', J2, h2⟩ := ih (n - 1) (by simp at hn; omega) (a :: xs) ys (done ++ [(q, b, false, true)]) s1 (by simp at hn ⊢; omega) hA (fun x hx => hB x (by simp [hx])) (by simp at hn ⊢; omega) J1
            refine ⟨st', by rw [evs, if_neg h1, if_neg h3]; simpa using J2, ?_⟩
            rw [runL_eq]
            generalize runL _ _ b_delta_walk_0 = L at h2 ⊢
            rw [← h2]
            have e1 : (cmpM a b ≤ 0) = False := eq_false (by omega)
            have e2 : (cmpM a b = 0) = False := eq_false h3
            have e3 : (cmpM a b > 0) = True := eq_true (by omega)
            simp only [b_delta_walk_0, go_sem, V_call, List.map_cons, z3, z4, true_or, idx0, sub1, hc, e1, e2, e3, callv_eq, c1]
end Go.Proofs.YtngkdpiajikcjaaPe.Delta
