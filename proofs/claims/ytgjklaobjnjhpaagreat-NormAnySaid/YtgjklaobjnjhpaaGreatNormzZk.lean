/- A part of the proof of this folder's statement; it has no condition of its own. -/
import Derived.Test.YtgjklaobjnjhpaaGreatNormzZh
import Derived.Test.YtgjklaobjnjhpaaGreatNormzNk
/- What is read, what comes out. -/
set_option linter.unusedVariables false
set_option linter.unusedSimpArgs false
set_option maxRecDepth 100000
namespace Go.Proofs.YtgjklaobjnjhpaaGreatPe.Normz
open Go Go.Proofs Go.Proofs.YtgjklaobjnjhpaaGreatPe Go.Proofs.YtgjklaobjnjhpaaGreatPe.NormzCode

theorem kindM_in (s : List UInt8) : kindM s = 0 ∨ kindM s = 2 ∨ kindM s = 3 ∨ kindM s = 4 ∨ kindM s = 5 ∨ kindM s = 6 ∨ kindM s = 7 ∨ kindM s = 8 := by
  unfold kindM
  split
  · simp
  · split
    · simp
    · split
      · simp
      · split
        · simp
        · split
          · simp
          · split
            · simp
            · split <;> simp
theorem cond_wp (t : List Tm) (g : List Sg) : ∀ (f : Nat), (∀ n c, condM f t g n = .ok c → Ce.Wp c) ∧
    ∀ l acc cs, condsM f t g l acc = .ok cs → (∀ c ∈ acc, Ce.Wp c) → ∀ c ∈ cs, Ce.Wp c
  | 0 => ⟨fun n c h => (by unfold condM at h; cases h), fun l acc cs h => (by unfold condsM at h; cases h)⟩
  | f + 1 => by
    obtain ⟨i1, i2⟩ := cond_wp t g f
    constructor
    · intro n c h
      unfold condM at h
      split at h
      · split at h
        · cases h
        · cases h
          exact .mk (.inl (.inl rfl)) (fun k hk => by cases hk)
      · rename_i h0
        split at h
        · split at h
          · split at h
            · cases h
            · cases h
              exact .mk (.inl (.inr (.inl rfl))) (fun k hk => by cases hk)
          · cases h
        · rename_i h2
          split at h
          · cases h
          · rename_i ks hks
            split at h
            · cases h
            · rename_i hc
              cases h
              have hw := i2 _ _ _ hks (fun c hc => by cases hc)
              refine .mk ?_ hw
              have hk := kindM_in (headM n)
              show ((kindM (headM n) = 1 ∨ kindM (headM n) = 2 ∨ kindM (headM n) = 4 ∨ kindM (headM n) = 5 ∨ (kindM (headM n) = 3 ∧ ks.length = 1) ∨ kindM (headM n) = 6 ∨ (kindM (headM n) = 7 ∧ 1 ≤ ks.length)) ∨ kindM (headM n) = 8)
              omega
    · intro l acc cs h ha
      unfold condsM at h
      split at h
      · cases h
        exact ha
      · split at h
        · split at h
          · split at h
            · split at h
              · cases h
              · refine i2 _ _ _ h fun c hc => ?_
                rcases List.mem_append.1 hc with hc | hc
                · exact ha c hc
                · rw [List.mem_singleton.1 hc]
                  exact .mk (.inl (.inl rfl)) (fun k hk => by cases hk)
            · cases h
          · cases h
        · split at h
          · cases h
          · rename_i d hd
            refine i2 _ _ _ h fun c hc => ?_
            rcases List.mem_append.1 hc with hc | hc
            · exact ha c hc
            · rw [List.mem_singleton.1 hc]
              exact i1 _ _ hd
theorem condsB_wp {b : List UInt8} {c : List Ce} (h : condsB b = some c) : ∀ x ∈ c, Ce.Wp x := by
  unfold condsB at h
  split at h
  · cases h
  · split at h
    · cases h
    · split at h
      · cases h
      · rename_i c' hc
        cases h
        exact (cond_wp _ _ _).2 _ _ _ hc (fun c hc => by cases hc)

/-! ### The parts that come out -/
def WlR (l : List Rw) : Prop := ∀ r ∈ l, ∀ c ∈ r, Ce.Wl c
theorem putL_eq : ∀ {l out o : List Rw}, putL l out = .ok o → o = out ++ l
  | [], out, o, h => by cases h; simp
  | r :: l, out, o, h => by
    rw [putL] at h
    split at h
    · cases h
    · rename_i o' ho
      have := putL_eq h
      unfold putM at ho
      split at ho
      · cases ho
      · cases ho
        rw [this]
        simp
theorem wl_prod {a b : List Rw} (ha : WlR a) (hb : WlR b) : WlR (prodR a b) := by
  intro r hr c hc
  obtain ⟨x, hx, hr⟩ := List.mem_flatMap.1 hr
  obtain ⟨y, hy, rfl⟩ := List.mem_map.1 hr
  rcases List.mem_append.1 hc with hc | hc
  · exact ha x hx c hc
  · exact hb y hy c hc
theorem wl_app {a b : List Rw} (ha : WlR a) (hb : WlR b) : WlR (a ++ b) := by
  intro r hr
  rcases List.mem_append.1 hr with hr | hr
  · exact ha r hr
  · exact hb r hr
theorem wl_negs {x : List Rw} (hx : WlR x) : ∀ c ∈ negsM x, Ce.Wl c := by
  intro c hc
  obtain ⟨r, hr, rfl⟩ := List.mem_map.1 hc
  exact .mk (.inr (.inr ⟨rfl, rfl⟩)) (hx r hr)
theorem put_one {r : Rw} {o : List Rw} (h : putM [] r = .ok o) : o = [r] := by
  rw [put_fit] at h
  exact (fit_small h).1
theorem wl_single {r : Rw} (h : ∀ c ∈ r, Ce.Wl c) : WlR [r] := by
  intro x hx
  rw [List.mem_singleton.1 hx]
  exact h
theorem wl_one0 : WlR [[]] := by
  intro x hx
  rw [List.mem_singleton.1 hx]
  intro c hc
  cases hc
theorem wl_nil : WlR [] := fun x hx => by cases hx
theorem all_wl : ∀ (f : Nat), (∀ c o, oneN f c = .ok o → WlR o) ∧ (∀ l out o, WlR out → andN f l out = .ok o → WlR o) ∧ (∀ l out o, WlR out → orN f l out = .ok o → WlR o) ∧ (∀ l r, forN f l = .ok r → ∀ c ∈ r, Ce.Wl c)
  | 0 => ⟨fun c o h => (by unfold oneN at h; cases h), fun l out o _ h => (by unfold andN at h; cases h), fun l out o _ h => (by unfold orN at h; cases h), fun l e h => (by unfold forN at h; cases h)⟩
  | f + 1 => by
    obtain ⟨i1, i2, i3, i4⟩ := all_wl f
    refine ⟨fun c o h => ?_, fun l out o ho h => ?_, fun l out o ho h => ?_, fun l r h => ?_⟩
    · unfold oneN at h
      split at h
      · cases h
        exact wl_single fun c hc => by rw [List.mem_singleton.1 hc]; exact .mk (.inl ⟨rfl, rfl⟩) (fun k hk => by cases hk)
      · split at h
        · cases h
          exact wl_single fun c hc => by rw [List.mem_singleton.1 hc]; exact .mk (.inr (.inl ⟨rfl, rfl, rfl⟩)) (fun k hk => by cases hk)
        · split at h
          · exact i3 _ _ _ wl_nil h
          · split at h
            · split at h
              · cases h
              · rename_i x hx
                rw [put_one h]
                exact wl_single (wl_negs (i2 _ _ _ wl_one0 hx))
            · split at h
              · split at h
                · cases h
                · rename_i x hx
                  rw [put_one h]
                  exact wl_single fun c hc => by
                    rw [List.mem_singleton.1 hc]
                    exact .mk (.inr (.inr ⟨rfl, rfl⟩)) (wl_negs (i2 _ _ _ wl_one0 hx))
              · split at h
                · split at h
                  · cases h
                  · split at h
                    · cases h
                    · rename_i r hr
                      rw [put_one h]
                      exact wl_single (i4 _ _ hr)
                · split at h
                  · exact i2 _ _ _ wl_one0 h
                  · cases h
    · unfold andN at h
      split at h
      · cases h; exact ho
      · split at h
        · cases h
        · rename_i x hx
          split at h
          · cases h
          · rename_i o' hj
            rw [joinM_put] at hj
            refine i2 _ _ _ ?_ h
            rw [putL_eq hj]
            exact wl_prod ho (i1 _ _ hx)
    · unfold orN at h
      split at h
      · cases h; exact ho
      · split at h
        · cases h
        · rename_i x hx
          split at h
          · cases h
          · rename_i o' hj
            rw [orB_put] at hj
            refine i3 _ _ _ ?_ h
            rw [putL_eq hj]
            exact wl_app ho (i1 _ _ hx)
    · unfold forN at h
      split at h
      · cases h
      · rename_i x hx
        split at h
        · cases h
        · rename_i y hy
          split at h
          · cases h
          · rename_i o hj
            cases h
            rw [forB_put] at hj
            have e := putL_eq hj
            rw [List.nil_append] at e
            rw [e]
            refine wl_negs fun r hr c hc => ?_
            obtain ⟨z, hz, rfl⟩ := List.mem_map.1 hr
            rcases List.mem_append.1 hc with hc | hc
            · exact i2 _ _ _ wl_one0 hx z hz c hc
            · exact wl_negs (i2 _ _ _ wl_one0 hy) c hc
theorem normM_wl {l : List Ce} {o : List Al} (h : normM l = .ok o) : ∀ a ∈ o, ∀ c ∈ a.lits, Ce.Wl c := by
  unfold normM at h
  split at h
  · cases h
  · split at h
    · cases h
    · rename_i front hfr
      split at h
      · cases h
      · rename_i behind hbe
        have hbs := (all_small _).2.1 _ _ _ small_one hbe
        have hf := (all_wl _).2.1 _ _ _ wl_one0 hfr
        have hb := (all_wl _).2.1 _ _ _ wl_one0 hbe
        rw [altsM_eq hbs (by simp)] at h
        split at h
        · cases h
          intro a ha c hc
          rw [List.nil_append] at ha
          obtain ⟨x, hx, ha⟩ := List.mem_flatMap.1 ha
          obtain ⟨y, hy, rfl⟩ := List.mem_map.1 ha
          rcases List.mem_append.1 hc with hc | hc
          · exact hf x hx c hc
          · exact hb y hy c hc
        · cases h
theorem patl_fine : ∀ (m : Nat) (l : List Ce), Ce.szs l < m → (∀ c ∈ l, Ce.Fine c) → ∀ x ∈ Ce.patl l, x.l.length ≤ 5000 := by
  intro m
  induction m with
  | zero => intro l h; omega
  | succ m ih =>
    intro l
    induction l with
    | nil => intro _ _ x hx; cases hx
    | cons c l ihl =>
      intro h hf x hx
      rw [Ce.szs] at h
      have hs := Ce.sz_eq c
      rw [Ce.patl, Ce.pats_eq] at hx
      obtain ⟨f1, _, f2⟩ := hf c (by simp)
      rcases List.mem_append.1 hx with hx | hx
      · split at hx
        · rw [List.mem_singleton.1 hx]; exact f1
        · split at hx
          · exact ih c.kids (by omega) f2 x hx
          · cases hx
      · exact ihl (by omega) (fun d hd => hf d (by simp [hd])) x hx
end Go.Proofs.YtgjklaobjnjhpaaGreatPe.Normz

/- The law NormAny. -/
set_option linter.unusedVariables false
set_option linter.unusedSimpArgs false
set_option maxRecDepth 100000
namespace Go.Proofs.YtgjklaobjnjhpaaGreatPe.Normz
open Go Go.Proofs Go.Proofs.YtgjklaobjnjhpaaGreatPe Go.Proofs.YtgjklaobjnjhpaaGreatPe.NormzCode

theorem toAlt_t (a : Al) (hs : Ce.szs a.lits ≤ 40) (hf : ∀ c ∈ a.lits, Ce.Fine c) : tupV (callE efns given) (.call 0 f_law13_ToAlt) [.agg [.lst (a.lits.map Ce.p), .int .i64 (a.logic : Int)]] = some (.agg [.lst (a.lits.map Ce.p), .int .i64 (a.logic : Int)]) := by
  have h1 := toLits_t 1000 a.lits (by omega) (by omega) hf
  refine call_good (f := f_law13_ToAlt) rfl ?_
  rw [callE_fn efns given (c := e_law13_ToAlt) rfl rfl]
  simp only [e_law13_ToAlt, go_sem, h1]
  exact Good.done rfl
set_option maxHeartbeats 4000000 in
theorem any_law (b : List UInt8) : ∃ st, callE efns given f_law13_NormAny [.lst (byts b)] ⟨[], [], [], []⟩ = some (.bool true, st) := by
  have hk := known_t
  have hcb := conds_ok b
  have key : Good (fun v _ => v = .bool true) (callE efns given f_law13_NormAny [.lst (byts b)] ⟨[], [], [], []⟩) := by
    rw [callE_fn efns given (c := e_law13_NormAny) rfl rfl]
    cases hc : condsB b with
    | none =>
      rw [hc] at hcb
      simp only [condV] at hcb
      simp only [e_law13_NormAny, go_sem, hk, hcb]
      exact Good.done rfl
    | some c =>
      rw [hc] at hcb
      simp only [condV] at hcb
      have hf := condsB_fine hc
      have hn := norm_t c (by omega) hf.2
      have hto := to_t hf
      have hr := rnorm_t c (by omega) (condsB_wp hc)
      cases hN : normM c with
      | error e =>
        rw [hN] at hn hr
        simp only [altsV] at hn hr
        simp only [e_law13_NormAny, go_sem, hk, hcb, hto, hn, hr, ne_eq, not_true_eq_false]
        refine Good.for 0 (fun i fr st => fr = [.undef, .undef, .lst [], .lst [], .int .i64 0] ++ List.replicate 9 .undef) ?_ ?_ ?_
        · rintro i fr st hi
          omega
        · rintro fr st rfl k
          simp only [List.replicate, List.cons_append, List.nil_append, b_law13_NormAny_0, go_sem, List.length_nil, Int.lt_irrefl]
          exact Good.done rfl
        · rfl
      | ok l =>
        rw [hN] at hn hr
        simp only [altsV] at hn hr
        have hsm := normM_small hf.2 hN
        have hwl := normM_wl hN
        have hll : l.length ≤ 1000000 := by
          have h16 : l.length ≤ 16 := by
            unfold normM at hN
            split at hN
            · cases hN
            · split at hN
              · cases hN
              · split at hN
                · cases hN
                · rename_i behind hbe
                  have hbs := (all_small _).2.1 _ _ _ small_one hbe
                  rw [altsM_eq hbs (by simp)] at hN
                  split at hN
                  · rename_i hc
                    cases hN
                    rw [List.nil_append, candA_len]
                    have := hc.1
                    simpa using this
                  · cases hN
          omega
        simp only [e_law13_NormAny, go_sem, hk, hcb, hto, hn, hr, List.length_map, ne_eq, not_true_eq_false]
        refine Good.for l.length (fun i fr st => fr = [.undef, .undef, .lst (l.map Al.p), .lst (l.map Al.p), .int .i64 (i : Int)] ++ List.replicate 9 .undef) ?_ ?_ ?_
        · rintro i fr st hi rfl k hk'
          have c1 : ((i : Int) < (l.length : Int)) = True := eq_true (by omega)
          have ai := Al.at_ hi
          obtain ⟨hs, hfi⟩ := hsm _ (List.getElem_mem hi)
          have hw := hwl _ (List.getElem_mem hi)
          generalize l[i] = a at ai hs hfi hw
          have h1 := lits_t 1000 a.lits (by omega) (by omega) hfi
          have h2 := rlits_t 1000 a.lits (by omega) (by omega) hfi
          have h3 := count_f (l := a.lits) (by omega)
          have h4 := rcount_t 1000 a.lits (by omega) (by omega)
          have h5 := spec_t 1000 a.lits (by omega) (by omega) hfi
          have h6 := rspec_t 1000 a.lits (by omega) (by omega) hfi hw
          have h7 := pats_t 1000 a.lits (by omega) (by omega) hfi
          have h8 := rpats_t 1000 a.lits (by omega) (by omega) hw
          have hpl := Ce.patl_le 1000 a.lits (by omega)
          have h9 := patterns_t (Ce.patl a.lits) (by omega) (fun x hx => by have := patl_fine 1000 a.lits (by omega) hfi x hx; omega)
          have h10 := toAlt_t a hs hfi
          have h11 := nsame_al a a (by omega) hfi
          rw [alSame_refl] at h11
          simp only [Al.cells] at ai
          simp only [List.replicate, List.cons_append, List.nil_append, b_law13_NormAny_0, go_sem, List.length_map, c1, ai, h1, h2, h3, h4, h5, h6, h7, h8, h9, h10, h11, ne_eq, not_true_eq_false, wrapN (n := i) (by omega)]
          exact hk' _ _ rfl
        · rintro fr st rfl k
          simp only [List.replicate, List.cons_append, List.nil_append, b_law13_NormAny_0, go_sem, List.length_map, Int.lt_irrefl]
          exact Good.done rfl
        · rfl
  obtain ⟨v, st, h, rfl⟩ := key
  exact ⟨st, h⟩
end Go.Proofs.YtgjklaobjnjhpaaGreatPe.Normz

