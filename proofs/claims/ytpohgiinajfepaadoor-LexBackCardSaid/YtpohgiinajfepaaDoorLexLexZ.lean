/- The law LexBack. -/
import Derived.Test.YtpohgiinajfepaaDoorLexLexW
set_option linter.unusedVariables false
set_option linter.unusedSimpArgs false
set_option maxRecDepth 1000000
namespace Go.Proofs.YtpohgiinajfepaaDoorPe.Lex
open Go Go.Proofs.YtpohgiinajfepaaDoorPe Go.Proofs.YtpohgiinajfepaaDoorPe.LexCode
section
attribute [local go_sem] V_bslice

/-- The pieces. -/
def P5 : List (List UInt8) := [[32], [10], [9, 32], [32, 59, 32, 97, 32, 40, 99, 111, 109, 109, 101, 110, 116, 10], [13, 10]]
def piece5 (c : UInt8) : List UInt8 := P5.getD (c.toNat % 5) []
theorem piece5_cases (c : UInt8) : piece5 c = [32] ∨ piece5 c = [10] ∨ piece5 c = [9, 32] ∨ piece5 c = [32, 59, 32, 97, 32, 40, 99, 111, 109, 109, 101, 110, 116, 10] ∨ piece5 c = [13, 10] := by
  unfold piece5
  have : c.toNat % 5 = 0 ∨ c.toNat % 5 = 1 ∨ c.toNat % 5 = 2 ∨ c.toNat % 5 = 3 ∨ c.toNat % 5 = 4 := by omega
  rcases this with h | h | h | h | h <;> (rw [h]; simp [P5])
theorem skip_piece5 (c : UInt8) (r : List UInt8) : skipM false (piece5 c ++ r) = skipM false r := by
  rcases piece5_cases c with h | h | h | h | h <;> rw [h] <;> rfl
theorem piece5_end (c : UInt8) (r : List UInt8) : EndB (piece5 c ++ r) := by
  rcases piece5_cases c with h | h | h | h | h <;> rw [h] <;> exact ⟨by decide, by decide⟩
theorem piece5_len (c : UInt8) : (piece5 c).length ≤ 14 := by
  rcases piece5_cases c with h | h | h | h | h <;> rw [h] <;> decide
theorem idx5 (c : UInt8) : evIdx 1 [PV.str [32], .str [10], .str [9, 32], .str [32, 59, 32, 97, 32, 40, 99, 111, 109, 109, 101, 110, 116, 10], .str [13, 10]] ((c.toNat % 5 : Nat) : Int) = some (.ref [.str (piece5 c)]) := by
  have : c.toNat % 5 = 0 ∨ c.toNat % 5 = 1 ∨ c.toNat % 5 = 2 ∨ c.toNat % 5 = 3 ∨ c.toNat % 5 = 4 := by omega
  unfold piece5
  rcases this with h | h | h | h | h <;> (rw [h]; rfl)
theorem bs5 {cl : CallF} : tupV cl (.bslice 1 [.str []] 5 [0, 1, 2, 3, 4]) [PV.str [32], .str [10], .str [9, 32], .str [32, 59, 32, 97, 32, 40, 99, 111, 109, 109, 101, 110, 116, 10], .str [13, 10]] = some (.full [PV.str [32], .str [10], .str [9, 32], .str [32, 59, 32, 97, 32, 40, 99, 111, 109, 109, 101, 110, 116, 10], .str [13, 10]]) := rfl

def joinM : List Tok → List UInt8 → List UInt8
  | [], _ => []
  | t :: l, [] => tokT t ++ (piece5 0 ++ joinM l [])
  | t :: l, c :: bl => tokT t ++ (piece5 c ++ joinM l bl)
theorem joinM_cons (t : Tok) (l : List Tok) (bl : List UInt8) : joinM (t :: l) bl = tokT t ++ (piece5 (bl.headD 0) ++ joinM l bl.tail) := by cases bl <;> rfl
theorem joinM_len : ∀ (l : List Tok) (bl : List UInt8), (joinM l bl).length ≤ sizeL l + 14 * l.length
  | [], _ => by simp [joinM]
  | t :: l, bl => by
    rw [joinM_cons]
    have h1 := joinM_len l bl.tail
    have h2 := piece5_len (bl.headD 0)
    have e : sizeL (t :: l) = (tokT t).length + sizeL l := by simp [sizeL]
    rw [e]
    simp only [List.length_append, List.length_cons]
    omega
theorem join_scan : ∀ (l : List Tok) (bl : List UInt8) (p : Nat), (∀ t ∈ l, TokK t.tk) → ∃ l2, scanM p (joinM l bl) = .ok l2 ∧ l2.map Tok.tk = l.map Tok.tk
  | [], bl, p, h => ⟨[], by rw [show joinM [] bl = [] from rfl, scanM_nil rfl], rfl⟩
  | t :: l, bl, p, h => by
    have hk := h t (List.mem_cons.2 (.inl rfl))
    rw [joinM_cons, tokT_eq, scanM_tok hk (piece5_end _ _)]
    have hs := skip_piece5 (bl.headD 0) (joinM l bl.tail)
    have hl := skipM_le (joinM l bl.tail) false
    rw [scanM_eq (q := p + (tkT t.tk).length + (piece5 (bl.headD 0)).length) hs (by simp only [List.length_append]; omega)]
    obtain ⟨l2, h1, h2⟩ := join_scan l bl.tail (p + (tkT t.tk).length + (piece5 (bl.headD 0)).length) fun u hu => h u (List.mem_cons.2 (.inr hu))
    rw [h1]
    refine ⟨_, rfl, ?_⟩
    simp only [List.map_cons, h2]
    rfl

theorem fill4 {a b c d : PV} {k k' k'' : IntKind} {n n' n'' : Int} {t : List UInt8} : fillP [a, b, c, d] (zip3 [(0, 1), (1, 1), (2, 1), (3, 1)] [.int k n, .int k' n', .int k'' n'', .str t]) = some [.int k n, .int k' n', .int k'' n'', .str t] := rfl

end
theorem back_loop0 {l : List Tok} {bl : List UInt8} (hl : l.length ≤ 500) (hb : bl.length ≤ 100) (hk : ∀ t ∈ l, TokK t.tk) {st : St} {K : EX → Fr → St → Option (PV × St)} : ∀ (d n : Nat) (acc : List UInt8), l.length - n = d → n ≤ l.length → acc.length ≤ 3000 * n →
    runL (callE efns given) [false, true, true, false, true, true, false, false, false, false, false] b_law4_LexBack_0
      [.undef, .lst (byts bl), .lst (l.map Tok.p), .undef, .str acc, .int .i64 (n : Int), .undef, .undef, .undef, .undef, .undef] st K =
      K (.exit 0) [.undef, .lst (byts bl), .lst (l.map Tok.p), .undef, .str (acc ++ joinM (l.drop n) (bl.drop n)), .int .i64 (l.length : Int), .undef, .undef, .undef, .undef, .undef] st := by
  intro d
  induction d with
  | zero =>
    intro n acc hd hn ha
    have : n = l.length := by omega
    subst this
    rw [runL_eq, List.drop_length]
    generalize runL _ _ b_law4_LexBack_0 = L
    have e : acc ++ joinM [] (bl.drop l.length) = acc := List.append_nil _
    simp only [b_law4_LexBack_0, go_sem, List.length_map, Int.lt_irrefl, if_false, e]
  | succ d ih =>
    intro n acc hd hn ha
    have hlt : n < l.length := by omega
    obtain ⟨t, ht⟩ : ∃ t, l[n]? = some t := ⟨l[n], List.getElem?_eq_getElem hlt⟩
    have htk := hk t (List.mem_of_getElem? ht)
    have w1 := wrap1 (n := n) (m := l.length) hlt (by omega)
    have c1 : ((n : Int) < (l.length : Int)) = True := eq_true (by omega)
    have hdl : l.drop n = t :: l.drop (n + 1) := by
      obtain ⟨h1, rfl⟩ := List.getElem?_eq_some_iff.1 ht
      rw [List.drop_eq_getElem_cons h1]
    have tt := text_t t (Tok.small htk)
    unfold Tok.p at tt
    have htl := tkT_short htk
    rw [← tokT_eq] at htl
    have lim1 : (acc.length + (tokT t).length ≤ 4611686018427387904) = True := eq_true (by omega)
    by_cases hnb : n < bl.length
    · obtain ⟨c, hc⟩ : ∃ c, bl[n]? = some c := ⟨bl[n], List.getElem?_eq_getElem hnb⟩
      have c2 : ((n : Int) < (bl.length : Int)) = True := eq_true (by omega)
      have hp := piece5_len c
      have e : acc ++ joinM (l.drop n) (bl.drop n) = acc ++ tokT t ++ piece5 c ++ joinM (l.drop (n + 1)) (bl.drop (n + 1)) := by
        rw [hdl, joinM_cons, drop_at hc]
        simp only [List.headD_cons, List.tail_cons, List.append_assoc]
      have hr := ih (n + 1) (acc ++ tokT t ++ piece5 c) (by omega) (by omega) (by simp only [List.length_append]; omega)
      have lim2 : ((acc ++ tokT t).length + (piece5 c).length ≤ 4611686018427387904) = True := eq_true (by simp only [List.length_append]; omega)
      have r5 : (c.toNat : Int).tmod 5 = ((c.toNat % 5 : Nat) : Int) := rfl
      have w5 : IntKind.u8.wrap ((c.toNat % 5 : Nat) : Int) = ((c.toNat % 5 : Nat) : Int) := by rw [IntKind.wrap_u8]; omega
      rw [runL_eq, e]
      generalize runL _ _ b_law4_LexBack_0 = L at hr ⊢
      simp only [b_law4_LexBack_0, go_sem, List.length_map, byts_length, c1, c2, tok_at ht, Tok.cells', fill4, tt, lim1, lim2, bidx hc, bs5, r5, w5, idx5, w1, hr, if_true]
    · have c2 : ((n : Int) < (bl.length : Int)) = False := eq_false (by omega)
      have hp := piece5_len 0
      have e : acc ++ joinM (l.drop n) (bl.drop n) = acc ++ tokT t ++ piece5 0 ++ joinM (l.drop (n + 1)) (bl.drop (n + 1)) := by
        rw [hdl, joinM_cons, List.drop_eq_nil_of_le (by omega : bl.length ≤ n), List.drop_eq_nil_of_le (by omega : bl.length ≤ n + 1)]
        simp only [List.headD_nil, List.tail_nil, List.append_assoc]
      have hr := ih (n + 1) (acc ++ tokT t ++ piece5 0) (by omega) (by omega) (by simp only [List.length_append]; omega)
      have lim2 : ((acc ++ tokT t).length + (piece5 0).length ≤ 4611686018427387904) = True := eq_true (by simp only [List.length_append]; omega)
      have r5 : (0 : Int).tmod 5 = 0 := rfl
      have w5 : IntKind.u8.wrap 0 = 0 := rfl
      have i5 : evIdx 1 [PV.str [32], .str [10], .str [9, 32], .str [32, 59, 32, 97, 32, 40, 99, 111, 109, 109, 101, 110, 116, 10], .str [13, 10]] 0 = some (.ref [.str (piece5 0)]) := rfl
      rw [runL_eq, e]
      generalize runL _ _ b_law4_LexBack_0 = L at hr ⊢
      simp only [b_law4_LexBack_0, go_sem, List.length_map, byts_length, c1, c2, tok_at ht, Tok.cells', fill4, tt, lim1, lim2, bs5, r5, w5, i5, w1, hr, if_true, if_false]

theorem back_loop1 {l l2 : List Tok} (hl : l.length ≤ 500) (he : l2.map Tok.tk = l.map Tok.tk) {st : St} {K : EX → Fr → St → Option (PV × St)} : ∀ (d n : Nat), l.length - n = d → n ≤ l.length →
    runL (callE efns given) [false, false, true, false, false, false, false, true, true, false, false] b_law4_LexBack_1
      [.undef, .undef, .lst (l.map Tok.p), .undef, .undef, .undef, .undef, .lst (l2.map Tok.p), .int .i64 (n : Int), .undef, .undef] st K =
      K (.exit 2) [.undef, .undef, .lst (l.map Tok.p), .undef, .undef, .undef, .undef, .lst (l2.map Tok.p), .int .i64 (l.length : Int), .undef, .undef] st := by
  have hlen : l2.length = l.length := by simpa using congrArg List.length he
  intro d
  induction d with
  | zero =>
    intro n hd hn
    have : n = l.length := by omega
    subst this
    rw [runL_eq]
    generalize runL _ _ b_law4_LexBack_1 = L
    simp only [b_law4_LexBack_1, go_sem, List.length_map, hlen, Int.lt_irrefl, if_false]
  | succ d ih =>
    intro n hd hn
    have hlt : n < l.length := by omega
    obtain ⟨t, ht⟩ : ∃ t, l[n]? = some t := ⟨l[n], List.getElem?_eq_getElem hlt⟩
    obtain ⟨u, hu⟩ : ∃ u, l2[n]? = some u := ⟨l2[n]'(by omega), List.getElem?_eq_getElem (by omega)⟩
    have htu : u.tk = t.tk := by
      have h1 : (l2.map Tok.tk)[n]? = some u.tk := by rw [List.getElem?_map, hu]; rfl
      have h2 : (l.map Tok.tk)[n]? = some t.tk := by rw [List.getElem?_map, ht]; rfl
      rw [he, h2] at h1
      exact (Option.some.inj h1).symm
    obtain ⟨k, q, i, s⟩ := t
    obtain ⟨k', q', i', s'⟩ := u
    simp only [Tok.tk, Tk.mk.injEq] at htu
    obtain ⟨rfl, rfl, rfl⟩ := htu
    have w1 := wrap1 (n := n) (m := l.length) hlt (by omega)
    have c1 : ((n : Int) < (l.length : Int)) = True := eq_true (by omega)
    have hr := ih (n + 1) (by omega) (by omega)
    rw [runL_eq]
    generalize runL _ _ b_law4_LexBack_1 = L at hr ⊢
    simp only [b_law4_LexBack_1, go_sem, List.length_map, hlen, c1, tok_at ht, tok_at hu, Tok.cells', w1, hr, if_true, if_false, ne_eq, not_true_eq_false, decide_false, Bool.false_eq_true]

theorem back_law (b bl : List UInt8) : ∃ st, callE efns given f_law4_LexBack [.lst (byts b), .lst (byts bl)] ⟨[], [], [], []⟩ = some (.bool true, st) := by
  refine ⟨⟨[], [], [], []⟩, ?_⟩
  rw [callE_fn efns given (c := e_law4_LexBack) rfl rfl]
  by_cases h1 : b.length > 1000
  · have hc : ((b.length : Int) > 1000) = True := eq_true (by omega)
    simp only [e_law4_LexBack, go_sem, known_t, byts_length, hc, if_true, if_false, Bool.not_true, Bool.false_eq_true, decide_true, Bool.true_or]
  have hc1 : ((b.length : Int) > 1000) = False := eq_false (by omega)
  by_cases h2 : bl.length > 100
  · have hc : ((bl.length : Int) > 100) = True := eq_true (by omega)
    simp only [e_law4_LexBack, go_sem, known_t, byts_length, hc1, hc, if_true, if_false, Bool.not_true, Bool.false_eq_true, decide_true, decide_false, Bool.or_true]
  have hc2 : ((bl.length : Int) > 100) = False := eq_false (by omega)
  have hrs := rscan_t b
  cases hs : scanL b with
  | error q =>
    obtain ⟨a, e⟩ := q
    rw [hs] at hrs
    unfold rscanV at hrs
    have he : (e = 0) = False := eq_false (scanL_err hs)
    simp only [e_law4_LexBack, go_sem, known_t, byts_length, hc1, hc2, hrs, he, if_true, if_false, Bool.not_true, Bool.false_eq_true, decide_true, decide_false, Bool.or_false, Bool.true_or, ne_eq, not_false_eq_true]
  | ok l =>
    rw [hs] at hrs
    unfold rscanV at hrs
    have hk := scanL_kind hs
    by_cases h5 : l.length > 500
    · have hc : ((l.length : Int) > 500) = True := eq_true (by omega)
      simp only [e_law4_LexBack, go_sem, known_t, byts_length, List.length_map, hc1, hc2, hc, hrs, if_true, if_false, Bool.not_true, Bool.false_eq_true, decide_true, decide_false, Bool.or_false, Bool.or_true, ne_eq, not_true_eq_false]
    have hc5 : ((l.length : Int) > 500) = False := eq_false (by omega)
    have hsz : sizeL l ≤ 21 * b.length := by
      unfold scanL at hs
      split at hs
      · cases hs
      · exact scanM_size _ _ _ _ (Nat.le_refl _) hs
    have hjl := joinM_len l bl
    obtain ⟨l2, hj1, hj2⟩ := join_scan l bl 0 hk
    have hsc := scan_t (joinM l bl)
    have hsl : scanL (joinM l bl) = .ok l2 := by
      unfold scanL
      rw [if_neg (by omega), hj1]
    rw [hsl] at hsc
    unfold scanV at hsc
    have hlen : l2.length = l.length := by simpa using congrArg List.length hj2
    simp only [e_law4_LexBack, go_sem, known_t, byts_length, List.length_map, hc1, hc2, hc5, hrs, if_true, if_false, Bool.not_true, Bool.false_eq_true, decide_true, decide_false, Bool.or_false, ne_eq, not_true_eq_false]
    generalize hK : blockK 0 _ = K
    have hlp := back_loop0 (l := l) (bl := bl) (by omega) (by omega) hk (st := ⟨[], [], [], []⟩) (K := K) _ 0 [] rfl (by omega) (by simp)
    rw [List.nil_append, List.drop_zero, List.drop_zero] at hlp
    refine Eq.trans hlp ?_
    rw [← hK]
    simp only [go_sem, tobytes_ok, hsc, List.length_map, hlen, if_true, if_false, ne_eq, not_true_eq_false, decide_false, Bool.false_eq_true, Bool.or_false]
    generalize hK2 : blockK 2 _ = K2
    have hlp2 := back_loop1 (l := l) (l2 := l2) (by omega) hj2 (st := ⟨[], [], [], []⟩) (K := K2) _ 0 rfl (by omega)
    refine Eq.trans hlp2 ?_
    rw [← hK2]
    simp only [go_sem]
end Go.Proofs.YtpohgiinajfepaaDoorPe.Lex
