/- What delta's merging and applying come to. -/
import Derived.Test.YtngkdpiajikcjaaDeltaDiff
set_option maxRecDepth 1000000
set_option linter.unusedVariables false
set_option linter.unusedSimpArgs false
namespace Go.Proofs.YtngkdpiajikcjaaPe.Delta
open Go Go.Proofs.YtngkdpiajikcjaaPe Go.Proofs.YtngkdpiajikcjaaPe.DeltaCode

def rowP (r : Bool × List (List Int)) : PV := .lst (r.2.map (inst r.1))
def step (out : List (List Int)) (r : Bool × List (List Int)) : List (List Int) := (evs true r.1 out r.2).map (·.2.1)
def mergeM (rs : List (Bool × List (List Int))) : List (List Int) := rs.foldl step []

theorem evs_len (p q : Bool) : ∀ (n : Nat) (xs ys : List (List Int)), xs.length + ys.length = n → (evs p q xs ys).length ≤ n := by
  intro n
  induction n using Nat.strongRecOn with
  | _ n ih =>
    intro xs ys hn
    cases xs with
    | nil => rw [evs]; simp at hn ⊢; omega
    | cons a xs =>
      cases ys with
      | nil =>
        rw [evs]
        have := ih (n - 1) (by simp at hn; omega) xs [] (by simp at hn ⊢; omega)
        simp at hn ⊢; omega
      | cons b ys =>
        rw [evs]
        split
        · have := ih (n - 1) (by simp at hn; omega) xs (b :: ys) (by simp at hn ⊢; omega)
          simp at hn ⊢; omega
        · split
          · have := ih (n - 2) (by simp at hn; omega) xs ys (by simp at hn ⊢; omega)
            simp at hn ⊢; omega
          · have := ih (n - 1) (by simp at hn; omega) (a :: xs) ys (by simp at hn ⊢; omega)
            simp at hn ⊢; omega

theorem evs_mem (p q : Bool) : ∀ (n : Nat) (xs ys : List (List Int)), xs.length + ys.length = n → ∀ e ∈ evs p q xs ys, e.2.1 ∈ xs ∨ e.2.1 ∈ ys := by
  intro n
  induction n using Nat.strongRecOn with
  | _ n ih =>
    intro xs ys hn e he
    cases xs with
    | nil =>
      rw [evs] at he
      obtain ⟨b, hb, rfl⟩ := List.mem_map.1 he
      exact .inr hb
    | cons a xs =>
      cases ys with
      | nil =>
        rw [evs] at he
        rcases List.mem_cons.1 he with rfl | he
        · exact .inl (by simp)
        · rcases ih (n - 1) (by simp at hn; omega) xs [] (by simp at hn ⊢; omega) e he with h | h
          · exact .inl (by simp [h])
          · exact .inr h
      | cons b ys =>
        rw [evs] at he
        split at he
        · rcases List.mem_cons.1 he with rfl | he
          · exact .inl (by simp)
          · rcases ih (n - 1) (by simp at hn; omega) xs (b :: ys) (by simp at hn ⊢; omega) e he with h | h
            · exact .inl (by simp [h])
            · exact .inr h
        · split at he
          · rcases List.mem_cons.1 he with rfl | he
            · exact .inl (by simp)
            · rcases ih (n - 2) (by simp at hn; omega) xs ys (by simp at hn ⊢; omega) e he with h | h
              · exact .inl (by simp [h])
              · exact .inr (by simp [h])
          · rcases List.mem_cons.1 he with rfl | he
            · exact .inr (by simp)
            · rcases ih (n - 1) (by simp at hn; omega) (a :: xs) ys (by simp at hn ⊢; omega) e he with h | h
              · exact .inl h
              · exact .inr (by simp [h])

theorem clipI_ok {l : List PV} (st : St) : callE outE given f_slices_Clip_model_Inst_model_Inst [.lst l] st = some (.full l, st) := by
  rw [callE_fn outE given (c := e_slices_Clip_model_Inst_model_Inst) rfl rfl]
  simp only [e_slices_Clip_model_Inst_model_Inst, go_sem, V_call, lsub_clip]

def total (rs : List (Bool × List (List Int))) : Nat := (rs.map fun r => r.2.length).sum

theorem idxL {l : List PV} {n : Nat} {x : List PV} (h : l[n]? = some (.lst x)) : evIdx 1 l (n : Int) = some (.ref [.lst x]) := by
  unfold evIdx
  rw [if_pos (Int.natCast_nonneg n), Int.toNat_natCast, h]
  rfl

theorem merge_loop {K : EX → Fr → St → Option (PV × St)} {rs : List (Bool × List (List Int))} (hs : ∀ r ∈ rs, ∀ x ∈ r.2, Short x) (hlen : rs.length < 1000000) :
    ∀ (d n : Nat) (L : List (List Int)) (x : PV) (st : St), rs.length - n = d → n ≤ rs.length → (∀ y ∈ L, Short y) → L.length + total (rs.drop n) < 1000000 → Slot st 2 x (L.map (inst true)) →
    ∃ x' i st', Slot st' 2 x' (((rs.drop n).foldl step L).map (inst true)) ∧ runL (callE outE given) [false, true, false, true, true, true, false] b_delta_Merge_0 [.undef, x, .undef, .lst (rs.map rowP), .int .i64 rs.length, .int .i64 n, .undef] st K =
      K (.exit 0) [.undef, x', .undef, .lst (rs.map rowP), .int .i64 rs.length, i, .undef] st' := by
  intro d
  induction d with
  | zero =>
    intro n L x st hd hn hL ht hx
    have : n = rs.length := by omega
    subst this
    refine ⟨x, .int .i64 rs.length, st, by rw [List.drop_length]; exact hx, ?_⟩
    rw [runL_eq]
    generalize runL _ _ b_delta_Merge_0 = R
    simp only [b_delta_Merge_0, go_sem, V_call, Int.lt_irrefl]
  | succ d ih =>
    intro n L x st hd hn hL ht hx
    have hlt : n < rs.length := by omega
    have hdr : rs.drop n = rs[n] :: rs.drop (n + 1) := List.drop_eq_getElem_cons hlt
    have hmem : rs[n] ∈ rs := List.getElem_mem hlt
    have hg : (rs.map rowP)[n]? = some (.lst ((rs[n]).2.map (inst (rs[n]).1))) := by rw [List.getElem?_map, List.getElem?_eq_getElem hlt]; rfl
    rw [hdr] at ht ⊢
    generalize rs[n] = r at hmem hg ht ⊢
    have hw := walk_ok (fcb := f_delta_Merge_1) (cap := [.ptr st.boxes.length 0]) (fun done s => ∃ c, s.boxes[st.boxes.length]? = some [c] ∧ Slot s 2 c ((done.map (·.2.1)).map (inst true))) ?_
      (p := true) (q := r.1) (xs := L) (ys := r.2) (st := ⟨st.boxes ++ [[.nils]], st.rows⟩) hL (hs r hmem) (by simp [total] at ht; omega) ⟨.nils, by simp, .inl ⟨rfl, rfl⟩⟩
    · obtain ⟨s1, ⟨c, h1, h2⟩, h3⟩ := hw
      have hl2 := evs_len true r.1 _ L r.2 rfl
      obtain ⟨x', i, st', k1, k2⟩ := ih (n + 1) (step L r) c s1 (by omega) (by omega) (fun y hy => by
        obtain ⟨e, he, rfl⟩ := List.mem_map.1 hy
        rcases evs_mem true r.1 _ L r.2 rfl e he with h | h
        · exact hL _ h
        · exact hs r hmem _ h) (by simp only [step, List.length_map]; simp only [total, List.map_cons, List.sum_cons] at ht ⊢; omega) h2
      refine ⟨x', i, st', k1, ?_⟩
      rw [runL_eq]
      have c1 : (n : Int) < (rs.length : Int) := by omega
      have w1 : IntKind.i64.wrap ((n : Int) + 1) = ((n + 1 : Nat) : Int) := by rw [IntWalk.i64_in _ (by omega)]; omega
      generalize runL _ _ b_delta_Merge_0 = R at k2 ⊢
      rw [← k2]
      rcases hx with ⟨rfl, hx⟩ | ⟨q, rfl, _⟩
      · rw [hx] at h3
        simp only [b_delta_Merge_0, go_sem, V_call, c1, w1, idxL hg, h3, h1]
      · simp only [b_delta_Merge_0, go_sem, V_call, c1, w1, idxL hg, h3, h1]
    · rintro s done p ns was is ⟨c, h1, h2⟩ hn hd
      obtain ⟨s', c', k1, k2, k3, k4⟩ := merge_cb (p := p) (was := was) (is := is) h1 h2 hn (szI true _) (by simpa using hd)
      refine ⟨s', k1, c', k2, by simpa using k3⟩

theorem mergeE_ok {rs : List (Bool × List (List Int))} (hs : ∀ r ∈ rs, ∀ x ∈ r.2, Short x) (hlen : rs.length < 1000000) (ht : total rs < 1000000) :
    ∃ st', callE outE given f_delta_Merge [.lst (rs.map rowP)] ⟨[], []⟩ = some (.full ((mergeM rs).map (inst true)), st') := by
    rw [callE_fn outE given (c := e_delta_Merge) rfl rfl]
    simp only [e_delta_Merge, go_sem, V_call, List.length_map]
    generalize hK : blockK 0 _ = K
    obtain ⟨x', i, st', h1, h2⟩ := merge_loop (K := K) hs hlen _ 0 [] .nils ⟨[], []⟩ rfl (by omega) (by simp) (by simpa using ht) (.inl ⟨rfl, rfl⟩)
    refine ⟨st', Eq.trans h2 ?_⟩
    rw [← hK]
    rcases h1 with ⟨rfl, h1⟩ | ⟨q, rfl, _⟩
    · have e : (mergeM rs).map (inst true) = [] := h1
      simp only [go_sem, V_call, clipI_ok, e]
    · simp only [go_sem, V_call, clipI_ok]
      rfl

theorem merge_ok {rs : List (Bool × List (List Int))} (hs : ∀ r ∈ rs, ∀ x ∈ r.2, Short x) (hlen : rs.length < 1000000) (ht : total rs < 1000000) :
    tupV (callE outE given) (.call 0 f_delta_Merge) [.lst (rs.map rowP)] = some (.lst ((mergeM rs).map (inst true))) := by
  obtain ⟨st', key⟩ := mergeE_ok hs hlen ht
  exact callV_of (by rfl) key rfl
end Go.Proofs.YtngkdpiajikcjaaPe.Delta
