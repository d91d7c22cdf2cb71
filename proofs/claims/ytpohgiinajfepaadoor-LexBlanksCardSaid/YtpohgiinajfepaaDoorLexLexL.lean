/- The law LexBytes. -/
import Derived.Test.YtpohgiinajfepaaDoorLexLexQ
set_option linter.unusedVariables false
set_option linter.unusedSimpArgs false
set_option maxRecDepth 1000000
namespace Go.Proofs.YtpohgiinajfepaaDoorPe.Lex
open Go Go.Proofs.YtpohgiinajfepaaDoorPe Go.Proofs.YtpohgiinajfepaaDoorPe.LexCode
attribute [local go_sem] V_bslice

theorem known_t : tupV (callE efns given) (.call 0 f_law4_known) [] = some (.bool true) := run_t (k := 100) (by kernel_rfl)

theorem tok_at {l : List Tok} {n : Nat} {t : Tok} (h : l[n]? = some t) : evIdx 4 (l.map Tok.p) (n : Int) = some (.ref t.cells') := by
  have h1 : (l.map Tok.p)[n]? = some t.p := by rw [List.getElem?_map, h]; rfl
  exact idx_at (n := 4) h1 rfl
theorem ld_ref {n : Option Nat} {cs : List PV} {st : St} : loadV n (.ref cs) st = onV (loadC n cs) fun v => some (v, st) := by
  show (loadC n cs).map (·, st) = _
  cases loadC n cs <;> rfl

theorem bytes_loop {l : List Tok} (hl : l.length ≤ 65536) (hk : ∀ t ∈ l, t.Small) {st : St} {K : EX → Fr → St → Option (PV × St)} : ∀ (d n : Nat), l.length - n = d → n ≤ l.length →
    runL (callE efns given) [false, true, false, true, false, false, true, false, false, false, false, false, false, false, false] b_law4_LexBytes_0
      [.undef, .lst (l.map Tok.p), .undef, .lst (l.map Tok.p), .undef, .undef, .int .i64 (n : Int), .undef, .undef, .undef, .undef, .undef, .undef, .undef, .undef] st K =
      K (.exit 0) [.undef, .lst (l.map Tok.p), .undef, .lst (l.map Tok.p), .undef, .undef, .int .i64 (l.length : Int), .undef, .undef, .undef, .undef, .undef, .undef, .undef, .undef] st := by
  intro d
  induction d with
  | zero =>
    intro n hd hn
    have : n = l.length := by omega
    subst this
    rw [runL_eq]
    generalize runL _ _ b_law4_LexBytes_0 = L
    simp only [b_law4_LexBytes_0, go_sem, List.length_map, Int.lt_irrefl, if_false]
  | succ d ih =>
    intro n hd hn
    have hlt : n < l.length := by omega
    obtain ⟨t, ht⟩ : ∃ t, l[n]? = some t := ⟨l[n], List.getElem?_eq_getElem hlt⟩
    have hsm := hk t (List.mem_of_getElem? ht)
    have w1 := wrap1 (n := n) (m := l.length) hlt (by omega)
    have c1 : ((n : Int) < (l.length : Int)) = True := eq_true (by omega)
    have tt := text_t t hsm
    have rt := rtxt_t t hsm
    have hr := ih (n + 1) (by omega) (by omega)
    unfold Tok.p at tt rt
    rw [runL_eq]
    generalize runL _ _ b_law4_LexBytes_0 = L at hr ⊢
    simp only [b_law4_LexBytes_0, go_sem, List.length_map, c1, tok_at ht, Tok.cells', tt, rt, w1, hr, if_true, if_false, ne_eq, not_true_eq_false, decide_false, Bool.false_eq_true]

theorem scanM_len : ∀ (m : Nat) (s : List UInt8) (n : Nat) (l : List Tok), s.length ≤ m → scanM n s = .ok l → l.length ≤ s.length := by
  intro m
  induction m with
  | zero =>
    intro s n l hm h
    have : s = [] := List.eq_nil_of_length_eq_zero (by omega)
    subst this
    rw [scanM_nil rfl] at h
    cases h
    simp
  | succ m ih =>
    intro s n l hm h
    cases hs : skipM false s with
    | nil =>
      rw [scanM_nil hs] at h
      cases h
      simp
    | cons c r =>
      have hle := skipM_le s false
      rw [hs, List.length_cons] at hle
      rw [scanM_cons hs] at h
      split at h
      · cases h
      · rename_i tk ho
        split at h
        · cases h
        · rename_i l' hl'
          cases h
          have := ih _ _ _ (by rw [List.length_drop]; omega) hl'
          rw [List.length_drop] at this
          simp only [List.length_cons]
          omega
theorem scanL_len {b : List UInt8} {l : List Tok} (h : scanL b = .ok l) : l.length ≤ b.length ∧ b.length ≤ 65536 := by
  unfold scanL at h
  split at h
  · cases h
  · exact ⟨scanM_len _ _ _ _ (Nat.le_refl _) h, by omega⟩

theorem is_t {a : Nat} {e m : Int} : tupV (callE efns given) (.call 0 f_errors_Is) [faultV a e, .iface Errs.tE (.int .i64 m)] = some (.bool (e == m)) := callV_of rfl (is_ok (n := e) (m := m) ⟨[], [], [], []⟩) rfl

theorem bytes_law (b : List UInt8) : ∃ st, callE efns given f_law4_LexBytes [.lst (byts b)] ⟨[], [], [], []⟩ = some (.bool true, st) := by
  by_cases hb : b.length > 3000
  · have hc : ((b.length : Int) > 3000) = True := eq_true (by omega)
    refine ⟨⟨[], [], [], []⟩, ?_⟩
    rw [callE_fn efns given (c := e_law4_LexBytes) rfl rfl]
    simp only [e_law4_LexBytes, go_sem, known_t, byts_length, hc, if_true, if_false, Bool.not_true, Bool.false_eq_true]
  · have hc : ((b.length : Int) > 3000) = False := eq_false (by omega)
    have h1 := scan_t b
    have h2 := rscan_t b
    cases hs : scanL b with
    | error q =>
      obtain ⟨a, e⟩ := q
      rw [hs] at h1 h2
      unfold scanV at h1
      unfold rscanV at h2
      have he : (e = 0) = False := eq_false (scanL_err hs)
      have ha : callE efns given f_errors_As [faultV a e, .iface T_law4_LexBytes_1 (.ptr 0 0)] ⟨[[.nilp]], [], [T_law4_LexBytes_0], []⟩ = some (.bool true, ⟨[[.ref [.str [99, 104, 97, 114], .int .i64 (a : Int), .iface T_lex_fault_1 (.int .i64 e)]]], [], [T_law4_LexBytes_0], []⟩) := as_ok rfl
      have hi : tupV (callE efns given) (.call 0 f_errors_Is) [faultV a e, .iface T_law4_LexBytes_2 (.int .i64 e)] = some (.bool (e == e)) := is_t
      refine ⟨⟨[[.ref [.str [99, 104, 97, 114], .int .i64 (a : Int), .iface T_lex_fault_1 (.int .i64 e)]]], [], [T_law4_LexBytes_0], []⟩, ?_⟩
      rw [callE_fn efns given (c := e_law4_LexBytes) rfl rfl]
      have z0 : (((0 : Nat) : Int) = 0) = True := eq_true rfl
      simp only [e_law4_LexBytes, go_sem, known_t, byts_length, hc, h1, h2, he, ha, hi, ld_ref, z0, if_true, if_false, Bool.not_true, Bool.false_eq_true, ne_eq, not_false_eq_true, beq_self_eq_true, decide_true]
    | ok l =>
      rw [hs] at h1 h2
      unfold scanV at h1
      unfold rscanV at h2
      have hl := scanL_len hs
      refine ⟨⟨[], [], [], []⟩, ?_⟩
      rw [callE_fn efns given (c := e_law4_LexBytes) rfl rfl]
      simp only [e_law4_LexBytes, go_sem, known_t, byts_length, hc, h1, h2, if_true, if_false, Bool.not_true, Bool.false_eq_true, ne_eq, not_true_eq_false, List.length_map]
      generalize hK : blockK 0 _ = K
      refine Eq.trans (bytes_loop (st := ⟨[], [], [], []⟩) (K := K) (by omega) (fun t ht => Tok.small (scanL_kind hs t ht)) _ 0 rfl (by omega)) ?_
      rw [← hK]
      simp only [go_sem]
end Go.Proofs.YtpohgiinajfepaaDoorPe.Lex
