/- Rows of numbers: their order; rows of rows that rise. Plain: no program in sight. -/
import Derived.Test.YtngkdpiajikcjaaDeltaInsts
set_option linter.unusedVariables false
set_option linter.unusedSimpArgs false
namespace Go.Proofs.YtngkdpiajikcjaaPe.Delta

/-- The order, told by itself. -/
def cmpN : List Int → List Int → Int
  | [], [] => 0
  | [], _ :: _ => -1
  | _ :: _, [] => 1
  | a :: l, b :: m => if a < b then -1 else if a > b then 1 else cmpN l m

theorem cmpM_eq : ∀ a b : List Int, cmpM a b = cmpN a b
  | [], [] => rfl
  | [], b :: m => by simp [cmpM, cmpL, cmpN]
  | a :: l, [] => by simp [cmpM, cmpL, cmpN]
  | a :: l, b :: m => by
    have ih := cmpM_eq l m
    unfold cmpM at ih ⊢
    unfold cmpL cmpN
    by_cases h1 : a < b
    · simp [h1]
    · by_cases h2 : a > b
      · simp [h1, h2]
      · simp only [h1, h2, if_false]
        rw [← ih]
        simp

theorem cmpN_self : ∀ a : List Int, cmpN a a = 0
  | [] => rfl
  | a :: l => by simp [cmpN, cmpN_self l]
theorem cmpN_zero : ∀ {a b : List Int}, cmpN a b = 0 → a = b
  | [], [], _ => rfl
  | [], _ :: _, h => by simp [cmpN] at h
  | _ :: _, [], h => by simp [cmpN] at h
  | a :: l, b :: m, h => by
    unfold cmpN at h
    split at h
    · omega
    · split at h
      · omega
      · rw [cmpN_zero h, show a = b by omega]
theorem cmpN_anti : ∀ a b : List Int, cmpN b a = -cmpN a b
  | [], [] => rfl
  | [], _ :: _ => rfl
  | _ :: _, [] => rfl
  | a :: l, b :: m => by
    unfold cmpN
    by_cases h1 : a < b
    · rw [if_neg (by omega), if_pos (by omega), if_pos h1]; rfl
    · by_cases h2 : a > b
      · rw [if_pos (by omega), if_neg h1, if_pos h2]
      · rw [if_neg (by omega), if_neg (by omega), if_neg h1, if_neg h2, cmpN_anti l m]
theorem cmpN_trans : ∀ {a b c : List Int}, cmpN a b < 0 → cmpN b c < 0 → cmpN a c < 0
  | [], [], _, h, _ => by simp [cmpN] at h
  | [], _ :: _, [], _, h => by simp [cmpN] at h
  | [], _ :: _, _ :: _, _, _ => by simp [cmpN]
  | _ :: _, [], _, h, _ => by simp [cmpN] at h
  | _ :: _, _ :: _, [], _, h => by simp [cmpN] at h
  | a :: l, b :: m, c :: n, h, k => by
    unfold cmpN at h k ⊢
    by_cases h1 : a < b
    · rw [if_pos]
      · omega
      · split at k
        · omega
        · split at k
          · omega
          · omega
    · rw [if_neg h1] at h
      by_cases h2 : a > b
      · rw [if_pos h2] at h; omega
      · rw [if_neg h2] at h
        by_cases k1 : b < c
        · rw [if_pos (by omega)]; omega
        · rw [if_neg k1] at k
          by_cases k2 : b > c
          · rw [if_pos k2] at k; omega
          · rw [if_neg k2] at k
            rw [if_neg (by omega), if_neg (by omega)]
            exact cmpN_trans h k

/-- Rising. -/
abbrev Rise (l : List (List Int)) : Prop := l.Pairwise fun a b => cmpN a b < 0

theorem Rise.eq : ∀ {l m : List (List Int)}, Rise l → Rise m → (∀ x, x ∈ l ↔ x ∈ m) → l = m
  | [], [], _, _, _ => rfl
  | [], b :: m, _, _, h => by have := (h b).2 (by simp); cases this
  | a :: l, [], _, _, h => by have := (h a).1 (by simp); cases this
  | a :: l, b :: m, hl, hm, h => by
    have hl := List.pairwise_cons.1 hl
    have hm := List.pairwise_cons.1 hm
    have e : a = b := by
      have h1 := (h a).1 (by simp)
      have h2 := (h b).2 (by simp)
      rcases List.mem_cons.1 h1 with h1 | h1
      · exact h1
      · rcases List.mem_cons.1 h2 with h2 | h2
        · exact h2.symm
        · have k1 := hm.1 a h1
          have k2 := hl.1 b h2
          rw [cmpN_anti] at k1
          omega
    subst e
    rw [Rise.eq hl.2 hm.2 fun x => ?_]
    have irr : ∀ {l : List (List Int)}, (∀ y ∈ l, cmpN a y < 0) → ¬ a ∈ l := fun hy hm => by
      have := hy a hm
      rw [cmpN_self] at this
      omega
    constructor
    · intro hx
      have := (h x).1 (by simp [hx])
      rcases List.mem_cons.1 this with rfl | h2
      · exact absurd hx (irr hl.1)
      · exact h2
    · intro hx
      have := (h x).2 (by simp [hx])
      rcases List.mem_cons.1 this with rfl | h2
      · exact absurd hx (irr hm.1)
      · exact h2

theorem pos_above (L : List (List Int)) (r : List Int) : ∀ k j, posM L r k ≤ j → j < k → cmpN (L.getD j []) r > 0
  | 0, j, _, h => absurd h (Nat.not_lt_zero _)
  | k + 1, j, h1, h2 => by
    unfold posM at h1
    split at h1
    · rename_i h
      by_cases hj : j = k
      · subst hj; rw [← cmpM_eq]; exact h
      · exact pos_above L r k j h1 (by omega)
    · omega
theorem pos_below (L : List (List Int)) (r : List Int) : ∀ k, posM L r k ≠ 0 → ¬ cmpN (L.getD (posM L r k - 1) []) r > 0
  | 0, h => absurd rfl h
  | k + 1, h => by
    unfold posM at h ⊢
    split
    · rename_i h1
      rw [if_pos h1] at h
      exact pos_below L r k h
    · rename_i h1
      rw [← cmpM_eq]
      simpa using h1

theorem ins_ok {L : List (List Int)} (hL : Rise L) (r : List Int) : Rise (insM L r) ∧ ∀ x, x ∈ insM L r ↔ x ∈ L ∨ x = r := by
  have ha := pos_above L r L.length
  have hb := pos_below L r L.length
  have hk := pos_le L r L.length
  have hp := List.pairwise_iff_getElem.1 hL
  unfold insM
  generalize posM L r L.length = k at ha hb hk ⊢
  have gd : ∀ j (h : j < L.length), L.getD j [] = L[j] := fun j h => by simp [List.getD_eq_getElem?_getD, List.getElem?_eq_getElem h]
  split
  · rename_i hc
    refine ⟨hL, fun x => ⟨.inl, fun h => ?_⟩⟩
    rcases h with h | rfl
    · exact h
    · have h1 := hc.2
      rw [cmpM_eq] at h1
      have h2 := cmpN_zero h1
      rw [gd _ (by omega)] at h2
      rw [← h2]
      exact List.getElem_mem _
  · rename_i hc
    have below : ∀ x ∈ L.take k, cmpN x r < 0 := by
      intro x hx
      obtain ⟨j, hj, rfl⟩ := List.mem_iff_getElem.1 hx
      rw [List.length_take] at hj
      rw [List.getElem_take]
      have h1 := hb (by omega)
      have h2 : cmpN (L.getD (k - 1) []) r ≠ 0 := fun h => hc ⟨by omega, by rw [cmpM_eq]; exact h⟩
      rw [gd _ (by omega)] at h1 h2
      by_cases he : j = k - 1
      · subst he; omega
      · exact cmpN_trans (hp j (k - 1) (by omega) (by omega) (by omega)) (by omega)
    have above : ∀ x ∈ L.drop k, cmpN r x < 0 := by
      intro x hx
      obtain ⟨j, hj, rfl⟩ := List.mem_iff_getElem.1 hx
      rw [List.length_drop] at hj
      rw [List.getElem_drop]
      have h1 := ha (k + j) (by omega) (by omega)
      rw [gd _ (by omega)] at h1
      rw [cmpN_anti]
      omega
    refine ⟨?_, fun x => ?_⟩
    · have hs : Rise (L.take k ++ L.drop k) := by rw [List.take_append_drop]; exact hL
      obtain ⟨s1, s2, s3⟩ := List.pairwise_append.1 hs
      rw [List.append_assoc]
      refine List.pairwise_append.2 ⟨s1, List.pairwise_cons.2 ⟨above, s2⟩, fun x hx y hy => ?_⟩
      rcases List.mem_cons.1 hy with rfl | hy
      · exact below x hx
      · exact s3 x hx y hy
    · have e : x ∈ L ↔ x ∈ L.take k ∨ x ∈ L.drop k := by rw [← List.mem_append, List.take_append_drop]
      rw [e]
      simp only [List.mem_append, List.mem_singleton]
      constructor
      · rintro ((h | h) | h)
        · exact .inl (.inl h)
        · exact .inr h
        · exact .inl (.inr h)
      · rintro ((h | h) | h)
        · exact .inl (.inl h)
        · exact .inr h
        · exact .inl (.inr h)

theorem insts_rise (l : List (List Int)) : Rise (instsM l) ∧ ∀ x, x ∈ instsM l ↔ x ∈ l := by
  have gen : ∀ (l L : List (List Int)), Rise L → Rise (l.foldl insM L) ∧ ∀ x, x ∈ l.foldl insM L ↔ x ∈ L ∨ x ∈ l := by
    intro l
    induction l with
    | nil => intro L h; exact ⟨h, fun x => by simp⟩
    | cons a l ih =>
      intro L h
      obtain ⟨h1, h2⟩ := ins_ok h a
      obtain ⟨h3, h4⟩ := ih _ h1
      refine ⟨h3, fun x => ?_⟩
      rw [List.foldl_cons, h4, h2, List.mem_cons, or_assoc]
  obtain ⟨h1, h2⟩ := gen l [] List.Pairwise.nil
  exact ⟨h1, fun x => by rw [instsM, h2]; simp⟩

/-- What the walk tells of two rows that rise. -/
theorem evs_ok (p q : Bool) : ∀ (n : Nat) (xs ys : List (List Int)), xs.length + ys.length = n → Rise xs → Rise ys →
    Rise ((evs p q xs ys).map (·.2.1)) ∧ (∀ x, x ∈ (evs p q xs ys).map (·.2.1) ↔ x ∈ xs ∨ x ∈ ys) ∧ ∀ e ∈ evs p q xs ys, (e.2.2.1 = true ↔ e.2.1 ∈ xs) ∧ (e.2.2.2 = true ↔ e.2.1 ∈ ys) := by
  intro n
  induction n using Nat.strongRecOn with
  | _ n ih =>
    intro xs ys hn hx hy
    cases xs with
    | nil =>
      rw [evs]
      have e : (ys.map fun b => (q, b, false, true)).map (·.2.1) = ys := by rw [List.map_map]; exact List.map_id' _
      rw [e]
      refine ⟨hy, fun x => by simp, fun e he => ?_⟩
      obtain ⟨b, hb, rfl⟩ := List.mem_map.1 he
      simp [hb]
    | cons a xs =>
      have hx' := List.pairwise_cons.1 hx
      cases ys with
      | nil =>
        rw [evs]
        obtain ⟨h1, h2, h3⟩ := ih (n - 1) (by simp at hn; omega) xs [] (by simp at hn ⊢; omega) hx'.2 hy
        refine ⟨?_, fun x => ?_, fun e he => ?_⟩
        · rw [List.map_cons]
          exact List.pairwise_cons.2 ⟨fun y hy => hx'.1 y (by simpa using (h2 y).1 hy), h1⟩
        · rw [List.map_cons, List.mem_cons, h2, List.mem_cons]
          simp
        · rcases List.mem_cons.1 he with rfl | he
          · simp
          · have h4 := h3 e he
            have h5 := (h2 e.2.1).1 (List.mem_map.2 ⟨e, he, rfl⟩)
            refine ⟨⟨fun h => by simp [h4.1.1 h], fun h => h4.1.2 (by simpa using h5)⟩, h4.2⟩
      | cons b ys =>
        have hy' := List.pairwise_cons.1 hy
        have irr : ∀ {c : List Int} {l : List (List Int)}, (∀ y ∈ l, cmpN c y < 0) → c ∉ l := fun hy hm => by
          have := hy _ hm
          rw [cmpN_self] at this
          omega
        rw [evs, cmpM_eq]
        by_cases c1 : cmpN a b < 0
        · rw [if_pos c1]
          obtain ⟨h1, h2, h3⟩ := ih (n - 1) (by simp at hn; omega) xs (b :: ys) (by simp at hn ⊢; omega) hx'.2 hy
          have lt : ∀ y, y ∈ b :: ys → cmpN a y < 0 := fun y hy => by
            rcases List.mem_cons.1 hy with rfl | hy
            · exact c1
            · exact cmpN_trans c1 (hy'.1 y hy)
          refine ⟨?_, fun x => ?_, fun e he => ?_⟩
          · rw [List.map_cons]
            refine List.pairwise_cons.2 ⟨fun y hy => ?_, h1⟩
            rcases (h2 y).1 hy with h | h
            · exact hx'.1 y h
            · exact lt y h
          · rw [List.map_cons, List.mem_cons, h2, List.mem_cons (a := x) (b := a), or_assoc]
          · rcases List.mem_cons.1 he with rfl | he
            · have := irr lt
              simp only [List.mem_cons, true_or, true_iff, Bool.false_eq_true, false_iff, true_and]
              simpa [List.mem_cons] using this
            · have h4 := h3 e he
              have h5 := (h2 e.2.1).1 (List.mem_map.2 ⟨e, he, rfl⟩)
              refine ⟨⟨fun h => by simp [h4.1.1 h], fun h => h4.1.2 ?_⟩, h4.2⟩
              rcases List.mem_cons.1 h with h6 | h6
              · rcases h5 with h5 | h5
                · exact h5
                · rw [h6] at h5; exact absurd h5 (irr lt)
              · exact h6
        · rw [if_neg c1]
          by_cases c2 : cmpN a b = 0
          · have e := cmpN_zero c2
            subst e
            rw [if_pos c2]
            obtain ⟨h1, h2, h3⟩ := ih (n - 2) (by simp at hn; omega) xs ys (by simp at hn ⊢; omega) hx'.2 hy'.2
            refine ⟨?_, fun x => ?_, fun e he => ?_⟩
            · rw [List.map_cons]
              refine List.pairwise_cons.2 ⟨fun y hy => ?_, h1⟩
              rcases (h2 y).1 hy with h | h
              · exact hx'.1 y h
              · exact hy'.1 y h
            · rw [List.map_cons, List.mem_cons, h2, List.mem_cons, List.mem_cons]
              constructor
              · rintro (h | h | h)
                · exact .inl (.inl h)
                · exact .inl (.inr h)
                · exact .inr (.inr h)
              · rintro ((h | h) | (h | h))
                · exact .inl h
                · exact .inr (.inl h)
                · exact .inl h
                · exact .inr (.inr h)
            · rcases List.mem_cons.1 he with rfl | he
              · simp
              · have h4 := h3 e he
                have h5 := (h2 e.2.1).1 (List.mem_map.2 ⟨e, he, rfl⟩)
                have ne : e.2.1 ≠ a := fun h => by
                  rw [h] at h5
                  rcases h5 with h5 | h5
                  · exact irr hx'.1 h5
                  · exact irr hy'.1 h5
                simp only [List.mem_cons, ne, false_or]
                exact h4
          · have c3 : cmpN b a < 0 := by rw [cmpN_anti]; omega
            rw [if_neg c2]
            obtain ⟨h1, h2, h3⟩ := ih (n - 1) (by simp at hn; omega) (a :: xs) ys (by simp at hn ⊢; omega) hx hy'.2
            have lt : ∀ y, y ∈ a :: xs → cmpN b y < 0 := fun y hy => by
              rcases List.mem_cons.1 hy with rfl | hy
              · exact c3
              · exact cmpN_trans c3 (hx'.1 y hy)
            refine ⟨?_, fun x => ?_, fun e he => ?_⟩
            · rw [List.map_cons]
              refine List.pairwise_cons.2 ⟨fun y hy => ?_, h1⟩
              rcases (h2 y).1 hy with h | h
              · exact lt y h
              · exact hy'.1 y h
            · rw [List.map_cons, List.mem_cons, h2, List.mem_cons (a := x) (b := b)]
              constructor
              · rintro (h | h | h)
                · exact .inr (.inl h)
                · exact .inl h
                · exact .inr (.inr h)
              · rintro (h | h | h)
                · exact .inr (.inl h)
                · exact .inl h
                · exact .inr (.inr h)
            · rcases List.mem_cons.1 he with rfl | he
              · have := irr lt
                simp only [List.mem_cons, true_or, true_iff, Bool.false_eq_true, false_iff, and_true]
                simpa [List.mem_cons] using this
              · have h4 := h3 e he
                have h5 := (h2 e.2.1).1 (List.mem_map.2 ⟨e, he, rfl⟩)
                refine ⟨h4.1, fun h => by simp [h4.2.1 h], fun h => h4.2.2 ?_⟩
                rcases List.mem_cons.1 h with h6 | h6
                · rcases h5 with h5 | h5
                  · rw [h6] at h5; exact absurd h5 (irr lt)
                  · exact h5
                · exact h6

theorem come_ok (p q : Bool) {xs ys : List (List Int)} (hx : Rise xs) (hy : Rise ys) : comeM (evs p q xs ys) = ys.filter fun y => !decide (y ∈ xs) := by
  obtain ⟨h1, h2, h3⟩ := evs_ok p q _ xs ys rfl hx hy
  refine Rise.eq ?_ (hy.filter _) fun x => ?_
  · exact List.Pairwise.sublist ((List.filter_sublist).map _) h1
  · simp only [comeM, List.mem_map, List.mem_filter, Bool.not_eq_true', decide_eq_false_iff_not]
    constructor
    · rintro ⟨e, ⟨he, hw⟩, rfl⟩
      have h4 := h3 e he
      have h5 : e.2.1 ∉ xs := fun h => by rw [h4.1.2 h] at hw; cases hw
      exact ⟨((h2 _).1 (List.mem_map.2 ⟨e, he, rfl⟩)).resolve_left h5, h5⟩
    · rintro ⟨hxy, hn⟩
      obtain ⟨e, he, rfl⟩ := List.mem_map.1 ((h2 x).2 (.inr hxy))
      refine ⟨e, ⟨he, ?_⟩, rfl⟩
      have h4 := h3 e he
      cases hh : e.2.2.1 with
      | false => rfl
      | true => exact absurd (h4.1.1 hh) hn

theorem gone_ok (p q : Bool) {xs ys : List (List Int)} (hx : Rise xs) (hy : Rise ys) : goneM (evs p q xs ys) = xs.filter fun x => !decide (x ∈ ys) := by
  obtain ⟨h1, h2, h3⟩ := evs_ok p q _ xs ys rfl hx hy
  refine Rise.eq ?_ (hx.filter _) fun x => ?_
  · exact List.Pairwise.sublist ((List.filter_sublist).map _) h1
  · simp only [goneM, List.mem_map, List.mem_filter, Bool.not_eq_true', decide_eq_false_iff_not, Bool.and_eq_true]
    constructor
    · rintro ⟨e, ⟨he, hw, hi⟩, rfl⟩
      have h4 := h3 e he
      exact ⟨h4.1.1 hw, fun h => by rw [h4.2.2 h] at hi; cases hi⟩
    · rintro ⟨hxy, hn⟩
      obtain ⟨e, he, rfl⟩ := List.mem_map.1 ((h2 x).2 (.inl hxy))
      have h4 := h3 e he
      refine ⟨e, ⟨he, h4.1.2 hxy, ?_⟩, rfl⟩
      cases hh : e.2.2.2 with
      | false => rfl
      | true => exact absurd (h4.2.1 hh) hn

theorem step_ok {out : List (List Int)} {r : Bool × List (List Int)} (ho : Rise out) (hr : Rise r.2) : Rise (step out r) ∧ ∀ x, x ∈ step out r ↔ x ∈ out ∨ x ∈ r.2 := by
  obtain ⟨h1, h2, _⟩ := evs_ok true r.1 _ out r.2 rfl ho hr
  exact ⟨h1, h2⟩

theorem mergeM_ok {rs : List (Bool × List (List Int))} (hr : ∀ r ∈ rs, Rise r.2) : Rise (mergeM rs) ∧ ∀ x, x ∈ mergeM rs ↔ ∃ r ∈ rs, x ∈ r.2 := by
  have gen : ∀ (rs : List (Bool × List (List Int))) (out : List (List Int)), (∀ r ∈ rs, Rise r.2) → Rise out → Rise (rs.foldl step out) ∧ ∀ x, x ∈ rs.foldl step out ↔ x ∈ out ∨ ∃ r ∈ rs, x ∈ r.2 := by
    intro rs
    induction rs with
    | nil => intro out _ h; exact ⟨h, fun x => by simp⟩
    | cons r rs ih =>
      intro out hr ho
      obtain ⟨h1, h2⟩ := step_ok ho (hr r (by simp))
      obtain ⟨h3, h4⟩ := ih _ (fun r h => hr r (by simp [h])) h1
      refine ⟨h3, fun x => ?_⟩
      rw [List.foldl_cons, h4, h2]
      simp [or_assoc]
  obtain ⟨h1, h2⟩ := gen rs [] hr List.Pairwise.nil
  exact ⟨h1, fun x => by rw [mergeM, h2]; simp⟩

theorem sameM_self (l : List (List Int)) : sameM l l = true := by
  have : ∀ l : List (List Int), sameL l l = true := by
    intro l
    induction l with
    | nil => rfl
    | cons a l ih => simp [sameL, ih, cmpM_eq, cmpN_self]
  simp [sameM, this]
end Go.Proofs.YtngkdpiajikcjaaPe.Delta
