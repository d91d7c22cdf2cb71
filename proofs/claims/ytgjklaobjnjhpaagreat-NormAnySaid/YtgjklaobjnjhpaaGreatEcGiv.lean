/- What is given of slices.Clone and slices.Grow, at whatever elements. -/
import Derived.Test.YtgjklaobjnjhpaaGreatEcFor
import Derived.Test.YtgjklaobjnjhpaaGreatEcRow
import Derived.Shelf.Spec.SlicesGrow
set_option linter.unusedVariables false
set_option linter.unusedSimpArgs false
namespace Go.Proofs.YtgjklaobjnjhpaaGreatPe
open Go Go.Proofs Go.RowKit

def noG : FuncId → List PV → Option PV := fun _ _ => none
/-- The code of slices.Clone. -/
def cloneC (n b : Nat) (T : TypeId) (zs : List PV) : EFunc := ⟨1, 2,
 (.seq (.cond (.bi (.eqs 3 false) (.v 0) (.c .nils))
  (.ret [.e (.c .nils)])
  (.skip))
 (.seq (.st [.eff (some 1) none (.append n b T (.tup (.bslice n zs 0 []) .nil) (.v 0))])
 (.ret [.e (.v 1)])))⟩
section
variable {ef : FuncId → Option EFunc} {f : FuncId} {n b : Nat} {T : TypeId} {zs : List PV}
theorem clone_nil (hf : ef f = some (cloneC n b T zs)) (st : St) : callE ef noG f [.nils] st = some (.nils, st) := by
  rw [callE_fn ef noG hf rfl]
  rfl
theorem clone_emc (hf : ef f = some (cloneC n b T zs)) (st : St) : callE ef noG f [.emc] st = some (.emp, st) := by
  rw [callE_fn ef noG hf rfl]
  rfl
theorem clone_lst (hf : ef f = some (cloneC n b T zs)) {e : PV} {l : List PV} (hs : szAll n (e :: l) = true) (hl : (e :: l).length * (b + 1) ≤ 70368744177664) (st : St) : callE ef noG f [.lst (e :: l)] st = some (.own st.rows.length (e :: l), ⟨st.boxes, st.rows ++ [((e :: l).length, n)], st.bt, st.rt ++ [T]⟩) := by
  rw [callE_fn ef noG hf rfl]
  have h0 : biV (.eqs 3 false) (.lst (e :: l)) .nils = some (.bool false) := rfl
  have h1 : tupV (callE ef noG) (.bslice n zs 0 []) [] = some .emp := rfl
  have hl' : (0 + (l.length + 1)) * (b + 1) ≤ 70368744177664 := by simp only [List.length_cons] at hl; rw [Nat.zero_add]; exact hl
  have hz : szAll n [] = true := rfl
  simp only [cloneC, go_sem, h0, h1, hs, hz]
  rw [if_pos (by simpa using hl)]
end

theorem one_arg {F : Fix} {w : World} {vs : Array Value} {x y : PV} (h : RepD F w y (vs.getD 0 Go.undef)) : ∀ j (hj : j < [y].length), RepD F w ([y][j]) (vs.getD j Go.undef) := fun j hj => by
  have : j = 0 := by simpa using hj
  subst this
  exact h

theorem noG_ok {P : Program} {W : World} {fns : FuncId → Option IFunc} : GivenOk P W fns noG := ⟨fun f ys r _ h => (by cases h), fun f x t r y _ h => (by cases h)⟩

/-- What is asked of something that is given. -/
def GivenAt (P : Program) (w0 : World) (f : FuncId) (ys : List PV) (r : PV) : Prop :=
  FnOk P f ∧ ∀ (w : World) (F : Fix) vs, (∀ b o, F b o → b < w.heap.size) → Below w0.heap.size w0 w → vs.size = ys.length → (∀ j (h : j < ys.length), RepD F w (ys[j]) (vs.getD j Go.undef)) →
    Calls P f vs w fun e w' => ∃ v G1 st1, e = .returned v ∧ Nxt w.heap.size (Gh.base F) w G1 w' ∧ Sim w w' G1 st1 ∧ GivR G1 w' st1 r v

/-- What slices.Clone answers: the same elements. -/
def cloneA (n b : Nat) : List PV → Option PV
  | [.lst l] => if szAll n l = true ∧ l.length * (b + 1) ≤ 70368744177664 then some (.lst l) else none
  | _ => none

theorem clone_given {P : Program} {W : World} {sh : FuncId → Nat} {rows : FuncId → Option ERow} (hm : P.follows .mixedOrders = true) (hR : RowsOk P sh rows) {f : FuncId} {n b : Nat} {T : TypeId} {zs : List PV} (hf : efnsOf rows f = some (cloneC n b T zs))
    {ys : List PV} {r : PV} (hg : cloneA n b ys = some r) : GivenAt P W f ys r := by
  have lift : ∀ {xs : List PV} {r : PV} {st' : St}, callE (efnsOf rows) noG f xs ⟨[], [], [], []⟩ = some (r, st') → call (fnsOf P sh rows) noG f xs ⟨[], [], [], []⟩ = some (r, st') := fun h => callE_le (efnsOf rows) noG hR.eok _ _ _ _ h
  have use := fun {xs : List PV} {r : PV} {st' : St} {z : PV} (h : callE (efnsOf rows) noG f xs ⟨[], [], [], []⟩ = some (r, st')) (hz : shutR false st' shutN r = some z) =>
    given_of_call (w0 := W) hm hR.fok noG_ok (lift h) hz
  unfold cloneA at hg
  split at hg
  · rename_i l
    split at hg
    · rename_i hc
      cases hg
      refine ⟨(use (clone_nil hf ⟨[], [], [], []⟩) (z := .lst []) rfl).1, fun w F vs hFd hb hsz hr => ?_⟩
      have h0 := hr 0 (by simp)
      rcases RepD.lst_cases h0 with hne | ⟨rfl, h | h⟩
      · cases l with
        | nil => exact absurd rfl hne
        | cons e l => exact (use (clone_lst hf hc.1 hc.2 ⟨[], [], [], []⟩) (z := .lst (e :: l)) rfl).2 w F vs hFd hb hsz (one_arg (x := .nils) h0)
      · exact (use (clone_nil hf ⟨[], [], [], []⟩) (z := .lst []) rfl).2 w F vs hFd hb hsz (one_arg (x := .nils) h)
      · exact (use (clone_emc hf ⟨[], [], [], []⟩) (z := .lst []) rfl).2 w F vs hFd hb hsz (one_arg (x := .nils) h)
    · cases hg
  · cases hg

/-- What slices.Grow answers of nil: nothing yet, with room. -/
def growA (n b : Nat) (T : TypeId) : List PV → Option PV
  | [.nils, .int .i64 k] => if 0 ≤ k ∧ k.toNat * b ≤ 70368744177664 ∧ k ≤ 70368744177664 then some (if k = 0 then .nils else .own (n + T * 65536) []) else none
  | _ => none

theorem inv_nils {F : Fix} {w : World} {v : Value} (h : RepD F w .nils v) : v = .slice none 0 0 := by
  cases h with
  | nils => rfl
  | sl hx => rcases hx with hx | ⟨hx, _⟩ <;> cases hx
theorem inv_int {F : Fix} {w : World} {v : Value} {k : IntKind} {m : Int} (h : RepD F w (.int k m) v) : v = .int k m := by
  cases h with
  | int => rfl
  | sl hx => rcases hx with hx | ⟨hx, _⟩ <;> cases hx
theorem two_of {vs : Array Value} (hs : vs.size = 2) : vs = #[vs.getD 0 Go.undef, vs.getD 1 Go.undef] := by
  apply Array.ext
  · simpa using hs
  · intro k hk hk'
    match k, hk with
    | 0, _ => simp [Array.getD, hs]
    | 1, _ => simp [Array.getD, hs]
    | k + 2, hk => omega

theorem grow_given {P : Program} {ρ : Go.Shelf.Ren} {W : World} (L : Lays8.n4 P ρ) {i0 : TypeInfo} {z : Value} (hi0 : P.info? (ρ.t 25) = some i0) (hz0 : i0.zero = some z) {n : Nat} (hs0 : i0.size = n) (hn : 0 < n) (hzs : z.cells.size = n) (hnT : n < 65536)
    (hfn : FnOk P (ρ.f 4)) {ys : List PV} {r : PV} (hg : growA n i0.bytes (ρ.t 25) ys = some r) : GivenAt P W (ρ.f 4) ys r := by
  unfold growA at hg
  split at hg
  · rename_i k
    split at hg
    · rename_i hc
      obtain ⟨h0, h1, h2⟩ := hc
      cases hg
      refine ⟨hfn, fun w F vs hFd hb hsz hr => ?_⟩
      have hk : (k.toNat : Int) = k := Int.toNat_of_nonneg h0
      rw [two_of hsz, inv_nils (hr 0 (by simp)), inv_int (hr 1 (by simp)), ← hk]
      by_cases hk0 : k = 0
      · rw [if_pos (by rw [hk]; exact hk0)]
        refine (Any8.slices_Grow_room L none 0 0 k.toNat w (Nat.le_refl _) (by omega) (by omega) (by omega)).mono fun e w' hh => ?_
        obtain ⟨rfl, rfl⟩ := hh
        exact given_plain hFd rfl (Below.refl _ _) .nils
      · rw [if_neg (by rw [hk]; exact hk0)]
        refine (Any8.slices_Grow_grow L i0 z hi0 hz0 (by omega) none 0 0 k.toNat [] w (Nat.le_refl _) (by omega) (by rw [Nat.zero_add]; omega) (by omega) (by simp) (fun _ => rfl) (fun a h => by cases h)).mono fun e w' hh => ?_
        obtain ⟨rfl, rfl⟩ := hh
        have hge := grownCap_ge w (0 + k.toNat) 0 (ρ.t 25)
        generalize hC : grownCap w (0 + k.toNat) 0 (ρ.t 25) = C at hge ⊢
        generalize hV : (([] : List Value).toArray ++ Builtin.zeroCells z.cells (0 + k.toNat - 0) ++ Builtin.zeroCells z.cells (C - (0 + k.toNat))) = V
        have hVs : V.size = C * n := by
          rw [← hV]
          simp only [Builtin.zeroCells, Array.size_append, Array.size_map, Array.size_range, hzs, List.size_toArray, List.length_nil, Nat.zero_add, Nat.sub_zero]
          rw [Nat.zero_add] at hge
          rw [← Nat.add_mul]
          congr 1
          omega
        have hbel : Below w.heap.size w (w.drew.alloc (.cells V (ρ.t 25))) := ⟨rfl, rfl, rfl, (by show w.heap.size ≤ (w.heap.push _).size; simp), fun i hi => Below.heap_alloc w.drew _ i hi⟩
        have hnew : (w.drew.alloc (.cells V (ρ.t 25))).heap[w.heap.size]? = some (.cells V (ρ.t 25) (0, 0)) := by
          show (w.heap.push _)[w.heap.size]? = _
          simp
        refine ⟨_, ⟨F, fun _ => none, fun r => if r = 0 then some (w.heap.size, n, C) else none, fun _ => 0⟩, ⟨[], [(0, n)], [], [ρ.t 25]⟩, rfl, ?_, ?_, ?_⟩
        · refine ⟨fun _ _ h => h, fun _ _ h => .inl h, fun _ _ h => (by simp [Gh.base] at h), fun _ => Nat.le_refl _, fun _ _ _ h => (by simp [Gh.base] at h), fun b o hF => cell_of_heap (hbel.block b (hFd b o hF))⟩
        · refine ⟨hbel, fun b cs h => (by simp at h), fun b k h => (by cases h), fun b c k h => (by cases h), fun r len m h => ?_, fun r y h => ?_, fun _ _ => rfl, fun r s k' n' c' m' d' h h' => ?_, fun b r k' n' c' h => (by cases h), fun b o hF => Nat.lt_of_lt_of_le (hFd b o hF) hbel.size, rfl, rfl⟩
          · cases r with
            | succ r => simp at h
            | zero =>
              cases h
              refine ⟨rfl, w.heap.size, C, V, ρ.t 25, (0, 0), by simp, Nat.le_refl _, hnew, hVs, by omega, fun o _ hF => by have := hFd _ _ hF; omega, .inl ⟨rfl, by simp⟩⟩
          · cases r with
            | succ r => simp at h
            | zero => exact Nat.succ_pos _
          · cases r with
            | succ r => simp at h
            | zero => cases s with
              | succ s => simp at h'
              | zero => rfl
        · refine ⟨rfl, ?_, ?_⟩
          · have e1 : (n + ρ.t 25 * 65536) % 65536 = n := by rw [Nat.add_mul_mod_self_right]; exact Nat.mod_eq_of_lt hnT
            have e2 : (n + ρ.t 25 * 65536) / 65536 = ρ.t 25 := by rw [Nat.add_mul_div_right _ _ (by decide), Nat.div_eq_of_lt hnT, Nat.zero_add]
            rw [e1, e2]
          · refine .own (l := []) (.sl (.inl rfl) (Nat.zero_le _) ⟨fun h => absurd rfl h, fun h => (by cases h)⟩ (b := 0) (o := 0) (sz := 0) (vs := fun _ => Go.undef) (fun i hi => by simp at hi) (fun i j hi => by simp at hi) (fun i hi => by simp at hi)) (Nat.le_refl _) (fun _ => ⟨w.heap.size, n, by simp, rfl, rfl⟩)
    · cases hg
  · cases hg
end Go.Proofs.YtgjklaobjnjhpaaGreatPe
