/- What delta's functions come to. -/
import Derived.Test.YtngkdpiajikcjaaDeltaCb
set_option maxRecDepth 1000000
set_option linter.unusedVariables false
set_option linter.unusedSimpArgs false
namespace Go.Proofs.YtngkdpiajikcjaaPe.Delta
open Go Go.Proofs.YtngkdpiajikcjaaPe Go.Proofs.YtngkdpiajikcjaaPe.DeltaCode

theorem walk_ok {fcb : FuncId} {cap : List PV} (J : List (Bool × List Int × Bool × Bool) → St → Prop)
    (hcb : ∀ st done p ns was is, J done st → Short ns → done.length < 1000000 → ∃ st', callE outE given fcb (inst p ns :: .bool was :: .bool is :: cap) st = some (.tuple [], st') ∧ J (done ++ [(p, ns, was, is)]) st')
    {p q : Bool} {xs ys : List (List Int)} {st : St} (hA : ∀ x ∈ xs, Short x) (hB : ∀ x ∈ ys, Short x) (hl : xs.length + ys.length < 1000000) (hJ : J [] st) :
    ∃ st', J (evs p q xs ys) st' ∧ callE outE given f_delta_walk [.lst (xs.map (inst p)), .lst (ys.map (inst q)), .func fcb cap] st = some (.tuple [], st') := by
  rw [callE_fn outE given (c := e_delta_walk) rfl rfl]
  simp only [e_delta_walk, go_sem, V_call]
  generalize hK : blockK 0 _ = K
  obtain ⟨st', J', h⟩ := walk_loop J hcb (K := K) p q _ xs ys [] st rfl hA hB (by simpa using hl) hJ
  refine ⟨st', by simpa using J', Eq.trans h ?_⟩
  rw [← hK]
  rfl

def comeM (l : List (Bool × List Int × Bool × Bool)) : List (List Int) := (l.filter fun e => !e.2.2.1).map (·.2.1)
def goneM (l : List (Bool × List Int × Bool × Bool)) : List (List Int) := (l.filter fun e => e.2.2.1 && !e.2.2.2).map (·.2.1)

/-- Read at the end: a row. -/
theorem Slot.shut {st : St} {n : Nat} {x : PV} {L : List PV} (h : Slot st n x L) {m : Nat} (s : St) : shutR false s (m + 1) x = some (.lst L) := by
  rcases h with ⟨rfl, rfl⟩ | ⟨r, rfl, _⟩ <;> rfl
theorem szF (l : List (List Int)) : szAll 1 (l.map ints) = true := by
  unfold szAll
  rw [List.all_eq_true]
  intro x hx
  obtain ⟨n, _, rfl⟩ := List.mem_map.1 hx
  rfl
theorem come_len (l : List (Bool × List Int × Bool × Bool)) : (comeM l).length ≤ l.length := by
  unfold comeM; rw [List.length_map]; exact List.length_filter_le _ _
theorem gone_len (l : List (Bool × List Int × Bool × Bool)) : (goneM l).length ≤ l.length := by
  unfold goneM; rw [List.length_map]; exact List.length_filter_le _ _

theorem diff_ok {p q : Bool} {xs ys : List (List Int)} (hA : ∀ x ∈ xs, Short x) (hB : ∀ x ∈ ys, Short x) (hl : xs.length + ys.length < 1000000) :
    tupV (callE outE given) (.call 0 f_delta_Diff) [.lst (xs.map (inst p)), .lst (ys.map (inst q))] = some (.agg [.lst ((comeM (evs p q xs ys)).map (inst true)), .lst ((goneM (evs p q xs ys)).map ints)]) := by
  have hw := walk_ok (fcb := f_delta_Diff_1) (cap := [.ptr 1 0]) (fun done st => st.boxes[0]? = some [.nils, .nils] ∧ ∃ c g, st.boxes[1]? = some [c, g] ∧ Slot st 2 c ((comeM done).map (inst true)) ∧ Slot st 1 g ((goneM done).map ints)) ?_
    (p := p) (q := q) (st := ⟨[[.nils, .nils], [.nils, .nils]], []⟩) hA hB hl ⟨rfl, .nils, .nils, rfl, .inl ⟨rfl, rfl⟩, .inl ⟨rfl, rfl⟩⟩
  · obtain ⟨st', ⟨h0, c, g, h1, h2, h3⟩, h4⟩ := hw
    have key : ∃ st'', callE outE given f_delta_Diff [.lst (xs.map (inst p)), .lst (ys.map (inst q))] ⟨[], []⟩ = some (.agg [c, g], st'') := by
      rw [callE_fn outE given (c := e_delta_Diff) rfl rfl]
      have hb := box_lt h0
      rcases h2 with ⟨rfl, _⟩ | ⟨r, rfl, _⟩ <;> rcases h3 with ⟨rfl, _⟩ | ⟨r', rfl, _⟩ <;> (
        simp only [e_delta_Diff, go_sem, V_call, h4, h1, h0, List.getElem?_set_self hb]
        exact ⟨_, rfl⟩)
    obtain ⟨st'', key⟩ := key
    refine callV_of (by rfl) key ?_
    show (mapO (shutR false st'' _) [c, g]).map PV.agg = _
    simp only [mapO, h2.shut, h3.shut]
    rfl
  · rintro st done p ns was is ⟨h0, c, g, h1, h2, h3⟩ hn hd
    obtain ⟨st', c', g', k1, k2, k3, k4, k5⟩ := diff_cb (p := p) (was := was) (is := is) h1 h2 h3 hn (szI true _) (szF _) (by rw [List.length_map]; have := come_len done; omega) (by rw [List.length_map]; have := gone_len done; omega)
    refine ⟨st', k1, by rw [k5 0 (by decide) (box_lt h0), h0], c', g', k2, ?_, ?_⟩
    · cases was <;> simpa [comeM] using k3
    · cases was <;> cases is <;> simpa [goneM] using k4
end Go.Proofs.YtngkdpiajikcjaaPe.Delta
