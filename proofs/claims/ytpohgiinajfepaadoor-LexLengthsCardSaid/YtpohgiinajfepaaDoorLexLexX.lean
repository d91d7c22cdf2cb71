/- The laws LexLengths, LexBlanks. -/
import Derived.Test.YtpohgiinajfepaaDoorLexLexW
set_option linter.unusedVariables false
set_option linter.unusedSimpArgs false
set_option maxRecDepth 1000000
namespace Go.Proofs.YtpohgiinajfepaaDoorPe.Lex
open Go Go.Proofs.YtpohgiinajfepaaDoorPe Go.Proofs.YtpohgiinajfepaaDoorPe.LexCode

abbrev ks (n : Nat) : List UInt8 := List.replicate n 107
theorem ks_succ (n : Nat) : ks n ++ [107] = ks (n + 1) := by
  unfold ks; rw [List.replicate_succ']
theorem ks_all (p : UInt8 → Bool) (h : p 107 = true) (n : Nat) : (ks n).all p = true := by
  unfold ks
  simp [h]
theorem ks_len (n : Nat) : (ks n).length = n := List.length_replicate

theorem lengths_loop {N : Nat} (hN : N ≤ 1100) {x : PV} {st : St} {K : EX → Fr → St → Option (PV × St)} : ∀ (d n : Nat), N - n = d → n ≤ N →
    runL (callE efns given) [true, true, true, true, false, false, false, false, false, false, false, false] b_law4_LexLengths_0
      [.int .i64 (N : Int), x, .str (ks n), .int .i64 (n : Int), .undef, .undef, .undef, .undef, .undef, .undef, .undef, .undef] st K =
      K (.exit 0) [.int .i64 (N : Int), x, .str (ks N), .int .i64 (N : Int), .undef, .undef, .undef, .undef, .undef, .undef, .undef, .undef] st := by
  intro d
  induction d with
  | zero =>
    intro n hd hn
    have : n = N := by omega
    subst this
    rw [runL_eq]
    generalize runL _ _ b_law4_LexLengths_0 = L
    simp only [b_law4_LexLengths_0, go_sem, Int.lt_irrefl, if_false]
  | succ d ih =>
    intro n hd hn
    have hlt : n < N := by omega
    have w1 := wrap1 (n := n) (m := N) hlt (by omega)
    have c1 : ((n : Int) < (N : Int)) = True := eq_true (by omega)
    have hr := ih (n + 1) (by omega) (by omega)
    have hlim : (n + 1 ≤ 4611686018427387904) = True := eq_true (by omega)
    rw [runL_eq]
    generalize runL _ _ b_law4_LexLengths_0 = L at hr ⊢
    simp only [b_law4_LexLengths_0, go_sem, c1, w1, List.length_replicate, List.length_cons, List.length_nil, Nat.zero_add, hlim, ks_succ, if_true]
    exact hr

/-- What a text of so many signs is. -/
theorem ks_first {n : Nat} (h : 1 ≤ n) : ∃ r, ks n = 107 :: r ∧ r = ks (n - 1) := by
  obtain ⟨m, rfl⟩ : ∃ m, n = m + 1 := ⟨n - 1, by omega⟩
  exact ⟨ks m, rfl, rfl⟩
theorem ks_ne {n : Nat} (h : 1 ≤ n) : ks n ≠ [] := by
  obtain ⟨r, e, _⟩ := ks_first h
  rw [e]; simp
theorem ks_parse {n : Nat} (h : 1 ≤ n) : (parseM (ks n)).2 = 2 := by
  apply shapeM_two
  obtain ⟨r, e, _⟩ := ks_first h
  rw [e]
  unfold shapeM
  rw [parts_cons, if_neg (by decide), if_neg (by decide)]
  have : digit 107 = false := by decide
  simp [this]
theorem ks_good {n : Nat} (h : 1 ≤ n) (h2 : n ≤ 40) : goodM (ks n) = true := by
  obtain ⟨r, e, _⟩ := ks_first h
  have h1 := ks_all partB (by decide) n
  have hl := ks_len n
  rw [e] at h1 hl ⊢
  show (decide ((107 :: r).length ≤ 40) && letterB 107 && (107 :: r).all partB) = true
  rw [h1, decide_eq_true (by omega)]
  rfl

/-- The four texts. -/
def lenS (k : Nat) (n : Nat) : List UInt8 := if k = 1 then 63 :: ks n else if k = 2 then 63 :: 42 :: (ks n ++ [42]) else if k = 3 then 34 :: (ks n ++ [34]) else ks n
def lenT (k : Nat) (n : Nat) : Tk := if k = 1 then ⟨6, 0, ks n⟩ else if k = 2 then ⟨7, 0, ks n⟩ else if k = 3 then ⟨3, 0, ks n⟩ else ⟨2, 0, ks n⟩
theorem escs_ks : ∀ n, escs (ks n) = ks n
  | 0 => rfl
  | n + 1 => by
    show esc 107 ++ escs (ks n) = 107 :: ks n
    rw [escs_ks n]
    rfl
theorem lenS_eq (k n : Nat) : lenS k n = tkT (lenT k n) := by
  unfold lenS lenT
  split
  · rfl
  · split
    · rfl
    · split
      · show _ = 34 :: (escs (ks n) ++ [34])
        rw [escs_ks]
      · rfl
theorem lenT_kind {k n : Nat} (h : 1 ≤ n) (h2 : n ≤ (if k = 3 then 1000 else 40)) : TokK (lenT k n) := by
  unfold lenT
  split
  · rename_i hk; subst hk; exact .name 6 _ (.inl rfl) (ks_good h (by simpa using h2))
  · split
    · rename_i hk; subst hk; exact .name 7 _ (.inr rfl) (ks_good h (by simpa using h2))
    · split
      · rename_i hk; subst hk; exact .str _ (by rw [ks_len]; simpa using h2)
      · rename_i hk
        rw [if_neg hk] at h2
        exact .sym _ (ks_ne h) (by rw [ks_len]; exact h2) (ks_all _ (by decide) n) (ks_parse h)
theorem strM_long (r : List UInt8) (n : Nat) (h : 1000 < n) : strM (ks n ++ 34 :: r) [] 0 = .error 4 := by
  have gen : ∀ (n : Nat) (acc : List UInt8) (i : Nat), 1000 < acc.length + n → strM (ks n ++ 34 :: r) acc i = .error 4 := by
    intro n
    induction n with
    | zero =>
      intro acc i h
      show strM (34 :: r) acc i = _
      rw [strM_end, if_pos (by omega)]
    | succ n ih =>
      intro acc i h
      show strM (107 :: (ks n ++ 34 :: r)) acc i = _
      rw [strM_cons (by decide) (by decide)]
      exact ih _ _ (by simp; omega)
  exact gen n [] 0 (by simpa using h)
theorem nameM_long {n : Nat} {r : List UInt8} (h : 40 < n) (hr : Stops partB r) : nameM (ks n ++ r) = .error 4 := by
  unfold nameM
  rw [tw_end (ks_all _ (by decide) n) hr, ks_len, if_pos (by omega)]
theorem lenS_long {k n : Nat} (h : (if k = 3 then 1000 else 40) < n) : scanM 0 (lenS k n) = .error (0, 4) := by
  unfold lenS
  split
  · rename_i hk
    subst hk
    have h40 : 40 < n := by simpa using h
    refine scanM_bad (by decide) (by decide) ?_
    rw [oneM_cons, if_neg (by decide), if_neg (by decide), if_neg (by decide), if_neg (by decide), if_pos rfl]
    unfold varM
    obtain ⟨r, e, _⟩ := ks_first (n := n) (by omega)
    have hst : isStar (ks n) = false := by rw [e]; rfl
    have := nameM_long (r := []) h40 trivial
    rw [List.append_nil] at this
    rw [hst, if_neg (by decide), this]
  · split
    · rename_i hk
      subst hk
      have h40 : 40 < n := by simpa using h
      refine scanM_bad (by decide) (by decide) ?_
      rw [oneM_cons, if_neg (by decide), if_neg (by decide), if_neg (by decide), if_neg (by decide), if_pos rfl]
      unfold varM
      rw [if_pos (by rfl), List.drop_succ_cons, List.drop_zero, nameM_long h40 (show Stops partB [42] from (by decide : partB 42 = false))]
    · split
      · rename_i hk
        subst hk
        have h1000 : 1000 < n := by simpa using h
        refine scanM_bad (by decide) (by decide) ?_
        rw [oneM_cons, if_neg (by decide), if_neg (by decide), if_neg (by decide), if_pos rfl, strM_long [] n h1000]
      · rename_i hk
        rw [if_neg hk] at h
        obtain ⟨r, e, _⟩ := ks_first (n := n) (by omega)
        have hw : wordM (ks n) = .error 4 := by
          have ht := tw_end (w := ks n) (r := []) (ks_all signB (by decide) n) trivial
          rw [List.append_nil] at ht
          unfold wordM
          rw [ht, if_neg (ks_ne (by omega)), if_neg (by rw [ks_parse (by omega)]; decide), if_neg (by rw [ks_parse (by omega)]; decide), ks_len, if_pos h]
        rw [e] at hw ⊢
        refine scanM_bad (by decide) (by decide) ?_
        rw [oneM_cons, if_neg (by decide), if_neg (by decide), if_neg (by decide), if_neg (by decide), if_neg (by decide)]
        exact hw
theorem lenS_scan {k n : Nat} (h : 1 ≤ n) (h2 : n ≤ 1100) : scanL (lenS k n) = if (if k = 3 then 1000 else 40) < n then .error (0, 4) else .ok [⟨(lenT k n).k, 0, (lenT k n).i, (lenT k n).s⟩] := by
  have hl : (lenS k n).length ≤ 65536 := by
    unfold lenS
    split
    · simp only [List.length_cons, ks_len]; omega
    · split
      · simp only [List.length_cons, List.length_append, List.length_nil, ks_len]; omega
      · split
        · simp only [List.length_cons, List.length_append, List.length_nil, ks_len]; omega
        · rw [ks_len]; omega
  by_cases h3 : (if k = 3 then 1000 else 40) < n
  · rw [if_pos h3]
    unfold scanL
    rw [if_neg (by omega), lenS_long h3]
  · rw [if_neg h3, lenS_eq, scanL_one (lenT_kind h (by omega))]

theorem lengths_law (n : Int) (hn : I64 n) (c : Int) (hc : 0 ≤ c ∧ c ≤ 255) : ∃ st, callE efns given f_law4_LexLengths [.int .i64 n, .int .u8 c] ⟨[], [], [], []⟩ = some (.bool true, st) := by
  refine ⟨⟨[], [], [], []⟩, ?_⟩
  rw [callE_fn efns given (c := e_law4_LexLengths) rfl rfl]
  by_cases h1 : n < 1
  · simp only [e_law4_LexLengths, go_sem, known_t, h1, if_true, if_false, Bool.not_true, Bool.false_eq_true, decide_true, Bool.true_or, true_or]
  by_cases h2 : n > 1100
  · simp only [e_law4_LexLengths, go_sem, known_t, h1, h2, if_true, if_false, Bool.not_true, Bool.false_eq_true, decide_true, Bool.or_true, or_true]
  obtain ⟨N, rfl⟩ : ∃ N : Nat, n = (N : Int) := ⟨n.toNat, by omega⟩
  obtain ⟨k, hk⟩ : ∃ k : Nat, c = (k : Int) := ⟨c.toNat, by omega⟩
  have r4 : c.tmod 4 = ((k % 4 : Nat) : Int) := by rw [hk]; rfl
  have w8 : IntKind.u8.wrap ((k % 4 : Nat) : Int) = ((k % 4 : Nat) : Int) := by rw [IntKind.wrap_u8]; omega
  simp only [e_law4_LexLengths, go_sem, known_t, h1, h2, if_true, if_false, Bool.not_true, Bool.false_eq_true, decide_false, Bool.or_false, or_false]
  generalize hK : blockK 0 _ = K
  refine Eq.trans (lengths_loop (N := N) (by omega) (x := .int .u8 c) (st := ⟨[], [], [], []⟩) (K := K) N 0 rfl (by omega)) ?_
  rw [← hK]
  have l1 : (1 + N ≤ 4611686018427387904) = True := eq_true (by omega)
  have l2 : (2 + N ≤ 4611686018427387904) = True := eq_true (by omega)
  have l3 : (N + 1 + 1 + 1 ≤ 4611686018427387904) = True := eq_true (by omega)
  have l4 : (N + 1 + 1 ≤ 4611686018427387904) = True := eq_true (by omega)
  have len1 : ([(⟨(lenT (k % 4) N).k, 0, (lenT (k % 4) N).i, (lenT (k % 4) N).s⟩ : Tok)].map Tok.p).length = 1 := rfl
  have k4 : k % 4 = 0 ∨ k % 4 = 1 ∨ k % 4 = 2 ∨ k % 4 = 3 := by omega
  have sc := scan_t (lenS (k % 4) N)
  have rs := rscan_t (lenS (k % 4) N)
  rw [lenS_scan (by omega) (by omega)] at sc rs
  have fin40 : ∀ q : Nat, ((N : Int) > (q : Int)) = (q < N) := fun q => by apply propext; omega
  rcases k4 with h | h | h | h
  · rw [h] at sc rs r4 w8
    have m0 : (if 0 = 3 then 1000 else 40) = 40 := rfl
    have q1 : lenS 0 N = ks N := rfl
    have r4' : c.tmod 4 = 0 := r4
    have w8' : IntKind.u8.wrap 0 = 0 := w8
    rw [m0, q1] at sc rs
    by_cases h3 : 40 < N
    · rw [if_pos h3] at sc rs
      unfold scanV at sc
      unfold rscanV at rs
      have g : ((N : Int) > 40) = True := eq_true (by omega)
      simp only [go_sem, r4', w8', tobytes_ok, List.cons_append, List.nil_append, List.length_cons, List.length_nil, List.length_replicate, List.length_append, Nat.zero_add, l1, l2, l3, l4, sc, rs, g, faultV, if_true, if_false, decide_true, Int.natCast_zero]
    · rw [if_neg h3] at sc rs
      unfold scanV at sc
      unfold rscanV at rs
      have g : ((N : Int) > 40) = False := eq_false (by omega)
      simp only [go_sem, r4', w8', tobytes_ok, List.cons_append, List.nil_append, List.length_cons, List.length_nil, List.length_replicate, List.length_append, Nat.zero_add, l1, l2, l3, l4, sc, rs, g, List.map_cons, List.map_nil, if_true, if_false, decide_true, Int.natCast_zero, Int.natCast_one]
  · rw [h] at sc rs r4 w8
    have m0 : (if 1 = 3 then 1000 else 40) = 40 := rfl
    have q1 : lenS 1 N = 63 :: ks N := rfl
    have r4' : c.tmod 4 = 1 := r4
    have w8' : IntKind.u8.wrap 1 = 1 := w8
    rw [m0, q1] at sc rs
    by_cases h3 : 40 < N
    · rw [if_pos h3] at sc rs
      unfold scanV at sc
      unfold rscanV at rs
      have g : ((N : Int) > 40) = True := eq_true (by omega)
      simp only [go_sem, r4', w8', tobytes_ok, List.cons_append, List.nil_append, List.length_cons, List.length_nil, List.length_replicate, List.length_append, Nat.zero_add, l1, l2, l3, l4, sc, rs, g, faultV, if_true, if_false, decide_true, Int.natCast_zero]
    · rw [if_neg h3] at sc rs
      unfold scanV at sc
      unfold rscanV at rs
      have g : ((N : Int) > 40) = False := eq_false (by omega)
      simp only [go_sem, r4', w8', tobytes_ok, List.cons_append, List.nil_append, List.length_cons, List.length_nil, List.length_replicate, List.length_append, Nat.zero_add, l1, l2, l3, l4, sc, rs, g, List.map_cons, List.map_nil, if_true, if_false, decide_true, Int.natCast_zero, Int.natCast_one]
  · rw [h] at sc rs r4 w8
    have m0 : (if 2 = 3 then 1000 else 40) = 40 := rfl
    have q1 : lenS 2 N = 63 :: 42 :: (ks N ++ [42]) := rfl
    have r4' : c.tmod 4 = 2 := r4
    have w8' : IntKind.u8.wrap 2 = 2 := w8
    rw [m0, q1] at sc rs
    by_cases h3 : 40 < N
    · rw [if_pos h3] at sc rs
      unfold scanV at sc
      unfold rscanV at rs
      have g : ((N : Int) > 40) = True := eq_true (by omega)
      simp only [go_sem, r4', w8', tobytes_ok, List.cons_append, List.nil_append, List.length_cons, List.length_nil, List.length_replicate, List.length_append, Nat.zero_add, l1, l2, l3, l4, sc, rs, g, faultV, if_true, if_false, decide_true, Int.natCast_zero]
    · rw [if_neg h3] at sc rs
      unfold scanV at sc
      unfold rscanV at rs
      have g : ((N : Int) > 40) = False := eq_false (by omega)
      simp only [go_sem, r4', w8', tobytes_ok, List.cons_append, List.nil_append, List.length_cons, List.length_nil, List.length_replicate, List.length_append, Nat.zero_add, l1, l2, l3, l4, sc, rs, g, List.map_cons, List.map_nil, if_true, if_false, decide_true, Int.natCast_zero, Int.natCast_one]
  · rw [h] at sc rs r4 w8
    have m0 : (if 3 = 3 then 1000 else 40) = 1000 := rfl
    have q1 : lenS 3 N = 34 :: (ks N ++ [34]) := rfl
    have r4' : c.tmod 4 = 3 := r4
    have w8' : IntKind.u8.wrap 3 = 3 := w8
    rw [m0, q1] at sc rs
    by_cases h3 : 1000 < N
    · rw [if_pos h3] at sc rs
      unfold scanV at sc
      unfold rscanV at rs
      have g : ((N : Int) > 1000) = True := eq_true (by omega)
      simp only [go_sem, r4', w8', tobytes_ok, List.cons_append, List.nil_append, List.length_cons, List.length_nil, List.length_replicate, List.length_append, Nat.zero_add, l1, l2, l3, l4, sc, rs, g, faultV, if_true, if_false, decide_true, Int.natCast_zero]
    · rw [if_neg h3] at sc rs
      unfold scanV at sc
      unfold rscanV at rs
      have g : ((N : Int) > 1000) = False := eq_false (by omega)
      simp only [go_sem, r4', w8', tobytes_ok, List.cons_append, List.nil_append, List.length_cons, List.length_nil, List.length_replicate, List.length_append, Nat.zero_add, l1, l2, l3, l4, sc, rs, g, List.map_cons, List.map_nil, if_true, if_false, decide_true, Int.natCast_zero, Int.natCast_one]
end Go.Proofs.YtpohgiinajfepaaDoorPe.Lex
