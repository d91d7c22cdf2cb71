/- A part of the proof of this folder's statement; it has no condition of its own. -/
import Derived.Test.YtgjklaobjnjhpaaGreatNormzNg
import Derived.Test.YtgjklaobjnjhpaaGreatNormzRg
/- Conditions of a text; norm1. -/
set_option linter.unusedVariables false
set_option linter.unusedSimpArgs false
set_option maxRecDepth 100000
namespace Go.Proofs.YtgjklaobjnjhpaaGreatPe.Normz
open Go Go.Proofs Go.Proofs.YtgjklaobjnjhpaaGreatPe Go.Proofs.YtgjklaobjnjhpaaGreatPe.NormzCode

def nilVl : Vl := ⟨2, 0, [110, 105, 108]⟩
def twoL : List Tm := [⟨[112], [⟨[97], nilVl⟩, ⟨[98], nilVl⟩]⟩, ⟨[113], [⟨[97], nilVl⟩]⟩]
def fun1 : List Sg := [⟨[102], 2⟩]
theorem two_t : tupV (callE efns given) (.call 0 f_law11_Two) [] = some (.lst (twoL.map Tm.p)) := run_is (k := 8) rfl (by kernel_rfl)

/-- Conditions of a text. -/
def condsB (b : List UInt8) : Option (List Ce) :=
  if b.length > 1000 then none else match readM b with
    | .error _ => none
    | .ok l => match condsM (2 * Nd.szs l + 1) twoL fun1 l [] with
      | .error _ => none
      | .ok c => some c
def condV : Option (List Ce) → PV
  | some c => .tuple [.lst (c.map Ce.p), .bool true]
  | none => .tuple [.lst [], .bool false]
theorem scanM_err0 {b : List UInt8} {e : Int × Int} (h : readM b = .error e) : ¬ e.2 = 0 := by
  unfold readM at h
  split at h
  · rename_i q hq
    cases h
    exact scanL_err (a := q.1) (e := q.2) hq
  · rename_i l hl
    have key : ∀ (f : Nat) (l : List Tok) (n : Nat) (acc : List Nd) (e : Int × Int), readT f l n acc = .error e → ¬ e.2 = 0 := by
      intro f
      induction f with
      | zero => intro l n acc e h; unfold readT at h; cases h; exact (by decide : ¬ (3 : Int) = 0)
      | succ f ih =>
        intro l n acc e h
        unfold readT at h
        split at h
        · cases h
        · split at h
          · rename_i e' he; cases h; exact (node_err _).1 _ _ _ _ he
          · exact ih _ _ _ _ h
    exact key _ _ _ _ _ h
theorem two_short : ∀ x ∈ twoL, x.l.length ≤ 1000000 := by
  intro x hx
  simp only [twoL, List.mem_cons, List.not_mem_nil, or_false] at hx
  rcases hx with rfl | rfl <;> simp
theorem conds_ok (b : List UInt8) : tupV (callE efns given) (.call 0 f_law13_Conds) [.lst (byts b)] = some (condV (condsB b)) := by
  refine call_good (f := f_law13_Conds) rfl ?_
  rw [callE_fn efns given (c := e_law13_Conds) rfl rfl]
  unfold condsB
  by_cases hb : b.length > 1000
  · have c1 : ((b.length : Int) > 1000) = True := eq_true (by omega)
    rw [if_pos hb]
    simp only [e_law13_Conds, go_sem, byts_length, c1]
    exact Good.done rfl
  · have c1 : ((b.length : Int) > 1000) = False := eq_false (by omega)
    rw [if_neg hb]
    have hr := read_t b
    cases h1 : readM b with
    | error e =>
      rw [h1] at hr
      have hne := scanM_err0 h1
      simp only [readV, wrongV] at hr
      simp only [e_law13_Conds, go_sem, byts_length, c1, hr, eq_false hne, ne_eq]
      exact Good.done rfl
    | ok l =>
      rw [h1] at hr
      simp only [readV, noneW] at hr
      have hsz : Nd.szs l ≤ 4096 := by
        unfold readM at h1
        split at h1
        · cases h1
        · exact readL_sz h1
      have hc := conds_t (t := twoL) (g := fun1) (by simp [twoL]) two_short (by simp [fun1]) (2 * Nd.szs l + 1) l (Nat.le_refl _) (by omega)
      have e1 : fun1.map Sg.p = [.agg [.str [102], .int .i64 2]] := rfl
      rw [e1] at hc
      have ht := two_t
      simp only
      generalize twoL.map Tm.p = tw at hc ht
      cases hC : condsM (2 * Nd.szs l + 1) twoL fun1 l [] with
      | error e =>
        rw [hC] at hc
        have hne := (cond_err _ _ _).2 _ _ _ hC
        simp only [condsV, wrongV] at hc
        have hc2 := (tup_shut (cl := callE efns given) (m := 0) (f := f_ref12_Parse) (vs := [.lst (l.map Nd.p), .lst tw, .full [.agg [.str [102], .int .i64 2]]]) rfl).trans hc
        simp only [e_law13_Conds, go_sem, byts_length, c1, hr, ht, hc2, eq_false hne, ne_eq]
        exact Good.done rfl
      | ok c =>
        rw [hC] at hc
        simp only [condsV, noneW] at hc
        have hc2 := (tup_shut (cl := callE efns given) (m := 0) (f := f_ref12_Parse) (vs := [.lst (l.map Nd.p), .lst tw, .full [.agg [.str [102], .int .i64 2]]]) rfl).trans hc
        simp only [e_law13_Conds, go_sem, byts_length, c1, hr, ht, hc2, ne_eq]
        exact Good.done rfl
theorem condsB_fine {b : List UInt8} {c : List Ce} (h : condsB b = some c) : Ce.szs c ≤ 4096 ∧ ∀ x ∈ c, Ce.Fine x := by
  unfold condsB at h
  split at h
  · cases h
  · split at h
    · cases h
    · rename_i l hl
      have hsz : Nd.szs l ≤ 4096 := by
        unfold readM at hl
        split at hl
        · cases hl
        · exact readL_sz hl
      split at h
      · cases h
      · rename_i c' hc
        cases h
        obtain ⟨h1, h2⟩ := (cond_fine _ _ _).2 _ _ _ hc (by omega) (fun c hc => by cases hc)
        simp only [Ce.szs] at h1
        exact ⟨by omega, h2⟩
theorem to_t {c : List Ce} (h : Ce.szs c ≤ 4096 ∧ ∀ x ∈ c, Ce.Fine x) : tupV (callE efns given) (.call 0 f_law12_To) [.lst (c.map Ce.p)] = some (.lst (c.map Ce.p)) := ceTo_t 1000000 c (by omega) (Nat.le_refl _) h.2
theorem altsB_small {n : Nat} : ∀ {a : List Rw} {out o : List Al}, Small a → FineR a → (∀ x ∈ out, Ce.szs x.lits ≤ 40 ∧ ∀ c ∈ x.lits, Ce.Fine c) → altsB n a out = .ok o → ∀ x ∈ o, Ce.szs x.lits ≤ 40 ∧ ∀ c ∈ x.lits, Ce.Fine c
  | [], out, o, hs, hf, ho, h => by cases h; exact ho
  | r :: a, out, o, hs, hf, ho, h => by
    unfold altsB at h
    split at h
    · cases h
    · refine altsB_small ⟨by have := hs.1; simp at this; omega, fun x hx => hs.2 x (List.mem_cons.2 (.inr hx))⟩ (fun x hx => hf x (List.mem_cons.2 (.inr hx))) (fun x hx => ?_) h
      rcases List.mem_append.1 hx with hx | hx
      · exact ho x hx
      · rw [List.mem_singleton.1 hx]; exact ⟨hs.2 r (List.mem_cons.2 (.inl rfl)), hf r (List.mem_cons.2 (.inl rfl))⟩
theorem altsM_small {b : List Rw} (hb : FineR b) : ∀ {f : List Rw} {out o : List Al}, FineR f → (∀ x ∈ out, Ce.szs x.lits ≤ 40 ∧ ∀ c ∈ x.lits, Ce.Fine c) → altsM b f out = .ok o → ∀ x ∈ o, Ce.szs x.lits ≤ 40 ∧ ∀ c ∈ x.lits, Ce.Fine c
  | [], out, o, hf, ho, h => by cases h; exact ho
  | x :: f, out, o, hf, ho, h => by
    unfold altsM at h
    split at h
    · cases h
    · rename_i all hall
      split at h
      · cases h
      · rename_i o' ho'
        exact altsM_small hb (fun r hr => hf r (List.mem_cons.2 (.inr hr))) (altsB_small (joinM_small small_nil hall) (joinM_fine hb (fun r hr => by rw [List.mem_singleton.1 hr]; exact hf x (List.mem_cons.2 (.inl rfl))) fine_nil hall) ho ho') h
theorem normM_small {l : List Ce} {o : List Al} (hf : ∀ c ∈ l, Ce.Fine c) (h : normM l = .ok o) : ∀ x ∈ o, Ce.szs x.lits ≤ 40 ∧ ∀ c ∈ x.lits, Ce.Fine c := by
  unfold normM at h
  split at h
  · cases h
  · split at h
    · cases h
    · rename_i front hfr
      split at h
      · cases h
      · rename_i behind hbe
        exact altsM_small ((all_fine _).2.1 _ _ _ (fun c hc => hf c (List.mem_of_mem_drop hc)) fine_one hbe) ((all_fine _).2.1 _ _ _ (fun c hc => hf c (List.mem_of_mem_take hc)) fine_one hfr) (fun x hx => by cases hx) h
theorem normM_err {l : List Ce} {e : Int} (h : normM l = .error e) : ¬ e = 0 := by
  have aB : ∀ {n : Nat} {a : List Rw} {out : List Al} {e : Int}, altsB n a out = .error e → e = 4 := by
    intro n a
    induction a with
    | nil => intro out e h; cases h
    | cons r a ih =>
      intro out e h
      unfold altsB at h
      split at h
      · cases h; rfl
      · exact ih h
  have aM : ∀ {b f : List Rw} {out : List Al} {e : Int}, altsM b f out = .error e → e = 4 := by
    intro b f
    induction f with
    | nil => intro out e h; cases h
    | cons x f ih =>
      intro out e h
      unfold altsM at h
      split at h
      · rename_i e' he; cases h; exact joinM_err he
      · split at h
        · rename_i e' he; cases h; exact aB he
        · exact ih h
  unfold normM at h
  split at h
  · cases h; decide
  · split at h
    · rename_i e' he; cases h; exact (all_err _).2.1 _ _ _ he
    · split at h
      · rename_i e' he; cases h; exact (all_err _).2.1 _ _ _ he
      · rw [aM h]; decide
/-- One text's alternatives. -/
def norm1M (s : List UInt8) : Option (List Al) := match condsB s with
  | none => none
  | some c => match normM c with
    | .error _ => none
    | .ok l => some l
def n1V : Option (List Al) → PV
  | some l => .tuple [.lst (l.map Al.p), .bool true]
  | none => .tuple [.lst [], .bool false]
theorem U_tob {s : List UInt8} : unV .tobytes (.str s) = some (.lst (byts s)) := rfl
theorem norm1M_small {s : List UInt8} {o : List Al} (h : norm1M s = some o) : ∀ x ∈ o, Ce.szs x.lits ≤ 40 ∧ ∀ c ∈ x.lits, Ce.Fine c := by
  unfold norm1M at h
  split at h
  · cases h
  · rename_i c hc
    split at h
    · cases h
    · rename_i l hl
      cases h
      exact normM_small (condsB_fine hc).2 hl

/-! ### A reckoner's copy: tokens by steps that are counted -/
def scanF : Nat → Nat → List UInt8 → Except (Nat × Int) (List Tok)
  | 0, pos, _ => .error (pos, 3)
  | f + 1, pos, s => match skipM false s with
    | [] => .ok []
    | c :: r => match oneM (c :: r) with
      | .error e => .error (pos + (s.length - (r.length + 1)), e)
      | .ok t => match scanF f (pos + (s.length - (r.length + 1)) + (t.2 - 1 + 1)) (r.drop (t.2 - 1)) with
        | .error e => .error e
        | .ok l => .ok (⟨t.1.k, pos + (s.length - (r.length + 1)), t.1.i, t.1.s⟩ :: l)
theorem scanF_eq : ∀ (f pos : Nat) (s : List UInt8), s.length < f → scanF f pos s = scanM pos s
  | 0, pos, s, h => by omega
  | f + 1, pos, s, h => by
    unfold scanF
    cases hs : skipM false s with
    | nil => rw [scanM_nil hs]
    | cons c r =>
      rw [scanM_cons hs]
      simp only
      have hle := skipM_le s false
      rw [hs, List.length_cons] at hle
      cases oneM (c :: r) with
      | error e => rfl
      | ok t =>
        simp only
        rw [scanF_eq f _ _ (by rw [List.length_drop]; omega)]
        cases scanM (pos + (s.length - (r.length + 1)) + (t.2 - 1 + 1)) (r.drop (t.2 - 1)) <;> rfl
def readK (b : List UInt8) : Er (List Nd) := if b.length > 65536 then .error (0, 4) else match scanF (b.length + 1) 0 b with
  | .error q => .error (q.1, q.2)
  | .ok l => readL l
theorem readK_eq (b : List UInt8) : readK b = readM b := by
  unfold readK readM scanL
  rw [scanF_eq _ _ _ (Nat.lt_succ_self _)]
  split
  · rfl
  · rfl
def condsK (b : List UInt8) : Option (List Ce) :=
  if b.length > 1000 then none else match readK b with
    | .error _ => none
    | .ok l => match condsM (2 * Nd.szs l + 1) twoL fun1 l [] with
      | .error _ => none
      | .ok c => some c
theorem condsK_eq (b : List UInt8) : condsK b = condsB b := by
  unfold condsK condsB
  rw [readK_eq]
def norm1K (s : List UInt8) : Option (List Al) := match condsK s with
  | none => none
  | some c => match normM c with
    | .error _ => none
    | .ok l => some l
theorem norm1K_eq (s : List UInt8) : norm1K s = norm1M s := by
  unfold norm1K norm1M
  rw [condsK_eq]
theorem test1 : (norm1K [40, 113, 41]).isSome = true := by kernel_rfl
theorem test2 : (norm1K [40, 113, 41, 40, 113, 41, 40, 113, 41, 40, 113, 41, 40, 113, 41, 40, 113, 41]).isSome = true := by kernel_rfl
end Go.Proofs.YtgjklaobjnjhpaaGreatPe.Normz

/- known. -/
set_option linter.unusedVariables false
set_option linter.unusedSimpArgs false
set_option maxRecDepth 100000
namespace Go.Proofs.YtgjklaobjnjhpaaGreatPe.Normz
open Go Go.Proofs Go.Proofs.YtgjklaobjnjhpaaGreatPe Go.Proofs.YtgjklaobjnjhpaaGreatPe.NormzCode

def kb : List UInt8 := [40, 111, 114, 32, 40, 112, 41, 32, 40, 113, 32, 40, 97, 32, 49, 41, 41, 41, 32, 40, 110, 111, 116, 32, 40, 97, 110, 100, 32, 40, 112, 41, 32, 40, 113, 41, 41, 41]
def kL : List PV := [.int .u8 40, .int .u8 111, .int .u8 114, .int .u8 32, .int .u8 40, .int .u8 112, .int .u8 41, .int .u8 32, .int .u8 40, .int .u8 113, .int .u8 32, .int .u8 40, .int .u8 97, .int .u8 32, .int .u8 49, .int .u8 41, .int .u8 41, .int .u8 41, .int .u8 32, .int .u8 40, .int .u8 110, .int .u8 111, .int .u8 116, .int .u8 32, .int .u8 40, .int .u8 97, .int .u8 110, .int .u8 100, .int .u8 32, .int .u8 40, .int .u8 112, .int .u8 41, .int .u8 32, .int .u8 40, .int .u8 113, .int .u8 41, .int .u8 41, .int .u8 41]
def kChk : Bool := match condsK kb with
  | some c => match normM c with
    | .ok [a0, a1] => match a1.lits with
      | [x0, x1] => decide (a0.lits.length = 2) && decide (a0.logic = 0) && decide (x1.k = 3) && decide (x1.kids.length = 2) && decide (Ce.szs a1.lits = 4) && decide (Ce.specs a1.lits = 5) && decide ((Ce.patl a0.lits).length = 3) && alSame a0 a0 && !alSame a0 a1
      | _ => false
    | _ => false
  | none => false
theorem kChk_ok : kChk = true := by kernel_rfl
theorem k_facts : ∃ c a0 a1 x0 x1, condsB kb = some c ∧ normM c = .ok [a0, a1] ∧ a1.lits = [x0, x1] ∧ a0.lits.length = 2 ∧ a0.logic = 0 ∧ x1.k = 3 ∧ x1.kids.length = 2 ∧ Ce.szs a1.lits = 4 ∧ Ce.specs a1.lits = 5 ∧ (Ce.patl a0.lits).length = 3 ∧ alSame a0 a0 = true ∧ alSame a0 a1 = false := by
  have h := kChk_ok
  unfold kChk at h
  split at h
  · rename_i c hc
    split at h
    · rename_i a0 a1 hn
      split at h
      · rename_i x0 x1 hx
        simp only [Bool.and_eq_true, decide_eq_true_eq, Bool.not_eq_true'] at h
        obtain ⟨⟨⟨⟨⟨⟨⟨⟨h1, h2⟩, h3⟩, h4⟩, h5⟩, h6⟩, h7⟩, h8⟩, h9⟩ := h
        exact ⟨c, a0, a1, x0, x1, by rw [← condsK_eq]; exact hc, hn, hx, h1, h2, h3, h4, h5, h6, h7, h8, h9⟩
      · cases h
    · cases h
  · cases h
theorem Al.at_ {l : List Al} {n : Nat} (h : n < l.length) : evIdx 2 (l.map Al.p) (n : Int) = some (.ref l[n].cells) := idx_of (e := l[n].p) (map_at h) rfl
theorem known_t : tupV (callE efns given) (.call 0 f_law13_known) [] = some (.bool true) := by
  obtain ⟨c, a0, a1, x0, x1, hc, hn, hx, h1, h2, h3, h4, h5, h6, h7, h8, h9⟩ := k_facts
  have hcb := conds_ok kb
  rw [hc] at hcb
  simp only [condV] at hcb
  have hf := condsB_fine hc
  have hnt := norm_t c (by omega) hf.2
  rw [hn] at hnt
  simp only [altsV, List.map_cons, List.map_nil, Al.p, Al.cells] at hnt
  have hsm := normM_small hf.2 hn
  obtain ⟨s0, f0⟩ := hsm a0 (by simp)
  obtain ⟨s1, f1⟩ := hsm a1 (by simp)
  have hcb2 := (tup_shut (cl := callE efns given) (m := 0) (f := f_law13_Conds) (vs := [.own 0 kL]) (ws := [.lst (byts kb)]) rfl).trans hcb
  have q1 := count_f (l := a1.lits) (by omega)
  have q2 := spec_t 10000 a1.lits (by omega) (Nat.le_refl _) f1
  have q3 := pats_t 10000 a0.lits (by omega) (Nat.le_refl _) f0
  have q4 := nsame_al a0 a0 (by omega) f0
  have q5 := nsame_al a0 a1 (by omega) f0
  rw [h5] at q1
  rw [h6] at q2
  rw [h8] at q4
  rw [h9] at q5
  have at0 : evIdx 2 [.agg [.lst (a0.lits.map Ce.p), .int .i64 (a0.logic : Int)], .agg [.lst (a1.lits.map Ce.p), .int .i64 (a1.logic : Int)]] 0 = some (.ref [.lst (a0.lits.map Ce.p), .int .i64 (a0.logic : Int)]) := Al.at_ (l := [a0, a1]) (n := 0) (by simp)
  have at1 : evIdx 2 [.agg [.lst (a0.lits.map Ce.p), .int .i64 (a0.logic : Int)], .agg [.lst (a1.lits.map Ce.p), .int .i64 (a1.logic : Int)]] 1 = some (.ref [.lst (a1.lits.map Ce.p), .int .i64 (a1.logic : Int)]) := Al.at_ (l := [a0, a1]) (n := 1) (by simp)
  have atx : evIdx 11 (a1.lits.map Ce.p) 1 = some (.ref x1.cells) := by
    have := Ce.at_ (l := a1.lits) (n := 1) (by rw [hx]; simp)
    simpa [hx] using this
  have l0 : ((a0.lits.length : Int) = 2) = True := eq_true (by omega)
  have l1 : ((a0.logic : Int) = 0) = True := eq_true (by omega)
  have l2 : ((x1.kids.length : Int) = 2) = True := eq_true (by omega)
  have l3 : (((Ce.patl a0.lits).length : Int) = 3) = True := eq_true (by omega)
  refine call_good (f := f_law13_known) rfl ?_
  rw [callE_fn efns given (c := e_law13_known) rfl rfl]
  have hbw : bownV 1 [.int .u8 0] 38 [0, 1, 2, 3, 4, 5, 6, 7, 8, 9, 10, 11, 12, 13, 14, 15, 16, 17, 18, 19, 20, 21, 22, 23, 24, 25, 26, 27, 28, 29, 30, 31, 32, 33, 34, 35, 36, 37] [.int .u8 40, .int .u8 111, .int .u8 114, .int .u8 32, .int .u8 40, .int .u8 112, .int .u8 41, .int .u8 32, .int .u8 40, .int .u8 113, .int .u8 32, .int .u8 40, .int .u8 97, .int .u8 32, .int .u8 49, .int .u8 41, .int .u8 41, .int .u8 41, .int .u8 32, .int .u8 40, .int .u8 110, .int .u8 111, .int .u8 116, .int .u8 32, .int .u8 40, .int .u8 97, .int .u8 110, .int .u8 100, .int .u8 32, .int .u8 40, .int .u8 112, .int .u8 41, .int .u8 32, .int .u8 40, .int .u8 113, .int .u8 41, .int .u8 41, .int .u8 41] ⟨[], [], [], []⟩ = some (.own 0 kL, ⟨[], [(38, 1)], [], [tagT]⟩) := by rfl
  have hmk : markV (.own 0 kL) ⟨[], [(38, 1)], [], [tagT]⟩ = some (.own 0 kL, ⟨[], [(38, 1)], [], [tagT]⟩) := by rfl
  simp only [e_law13_known, go_sem, hbw, hmk, hcb2, to_t hf, hnt, at0, at1, atx, Ce.cells, List.length_map, l0, l1, l2, l3, eq_true h3, q1, q2, q3, q4, q5, ne_eq]
  exact Good.done rfl
end Go.Proofs.YtgjklaobjnjhpaaGreatPe.Normz

