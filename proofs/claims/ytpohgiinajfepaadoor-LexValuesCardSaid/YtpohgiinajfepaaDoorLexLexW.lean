/- The law LexValues. -/
import Derived.Test.YtpohgiinajfepaaDoorLexLexP
import Derived.Test.YtpohgiinajfepaaDoorLexLexL
set_option linter.unusedVariables false
set_option linter.unusedSimpArgs false
set_option maxRecDepth 1000000
namespace Go.Proofs.YtpohgiinajfepaaDoorPe.Lex
open Go Go.Proofs.YtpohgiinajfepaaDoorPe Go.Proofs.YtpohgiinajfepaaDoorPe.LexCode

theorem tobytes_ok {s : List UInt8} : unV .tobytes (.str s) = some (.lst (byts s)) := rfl
theorem rightB_loop (v : Vl) (hs : v.s.length ≤ 9223372036854775807) {K : EX → Fr → St → Option (PV × St)} : ∀ (d n : Nat) (ok : Bool), v.s.length - n = d → n ≤ v.s.length →
    ∃ i x1 x2, runL (callE efns given) [false, true, true, true, false, false, false, false, false, false, false, false, false, false, false, false] b_ref3_Right_0
      [.undef, .ptr 0 0, .bool ok, .int .i64 n, .undef, .undef, .undef, .undef, .undef, .undef, .undef, .undef, .undef, .undef, .undef, .undef] ⟨[v.cells'], [], [T_ref3_Right_0], []⟩ K =
      K (.exit 1) [.undef, .ptr 0 0, .bool (ok && (v.s.drop n).all signB), i, .undef, .undef, .undef, .undef, .undef, .undef, .undef, .undef, x1, x2, .undef, .undef] ⟨[v.cells'], [], [T_ref3_Right_0], []⟩ := by
  intro d
  induction d with
  | zero =>
    intro n ok hd hn
    have : n = v.s.length := by omega
    subst this
    refine ⟨.int .i64 v.s.length, .str v.s, .undef, ?_⟩
    rw [runL_eq, List.drop_length, List.all_nil, Bool.and_true]
    generalize runL _ _ b_ref3_Right_0 = L
    simp only [b_ref3_Right_0, Vl.cells', go_sem, Int.lt_irrefl, if_false]
  | succ d ih =>
    intro n ok hd hn
    have hlt : n < v.s.length := by omega
    obtain ⟨c, hc⟩ : ∃ c, v.s[n]? = some c := ⟨v.s[n], List.getElem?_eq_getElem hlt⟩
    have w1 : IntKind.i64.wrap ((n : Int) + 1) = ((n + 1 : Nat) : Int) := by rw [IntWalk.i64_in _ (by omega)]; omega
    have c1 : ((n : Int) < (v.s.length : Int)) = True := eq_true (by omega)
    have hb := rsignB_t c
    rw [drop_at hc, List.all_cons]
    cases ok with
    | true =>
      obtain ⟨i, x1, x2, hr⟩ := ih (n + 1) (signB c) (by omega) (by omega)
      refine ⟨i, x1, x2, ?_⟩
      rw [runL_eq]
      generalize runL _ _ b_ref3_Right_0 = L at hr ⊢
      simp only [Vl.cells'] at hr
      simp only [b_ref3_Right_0, Vl.cells', go_sem, sidx_at hc, c1, w1, hb, hr, Bool.true_and]
    | false =>
      obtain ⟨i, x1, x2, hr⟩ := ih (n + 1) false (by omega) (by omega)
      refine ⟨i, x1, x2, ?_⟩
      rw [runL_eq]
      generalize runL _ _ b_ref3_Right_0 = L at hr ⊢
      simp only [Vl.cells'] at hr
      simp only [b_ref3_Right_0, Vl.cells', go_sem, c1, w1, hr, Bool.false_and]

def rightM (v : Vl) : Bool :=
  if v.k = 1 then decide (v.s = [])
  else if v.k = 2 then decide (v.i = 0) && decide (1 ≤ v.s.length) && decide (v.s.length ≤ 40) && !(shapeM v.s) && v.s.all signB
  else if v.k = 3 then decide (v.i = 0) && decide (v.s.length ≤ 1000)
  else false
theorem rightM_t (v : Vl) (hs : v.s.length ≤ 9223372036854775807) : tupV (callE efns given) (.call 0 f_ref3_Right) [v.p] = some (.bool (rightM v)) := by
  have key : ∃ st, callE efns given f_ref3_Right [v.p] ⟨[], [], [], []⟩ = some (.bool (rightM v), st) := by
    refine ⟨⟨[v.cells'], [], [T_ref3_Right_0], []⟩, ?_⟩
    unfold rightM
    by_cases h1 : v.k = 1
    · rw [if_pos h1, callE_fn efns given (c := e_ref3_Right) rfl rfl]
      simp only [e_ref3_Right, Vl.p, Vl.cells', go_sem, h1]
    · rw [if_neg h1]
      by_cases h2 : v.k = 2
      · rw [if_pos h2, callE_fn efns given (c := e_ref3_Right) rfl rfl]
        by_cases hi : v.i = 0
        · by_cases l1 : (v.s.length : Int) ≥ 1
          · have l1' : 1 ≤ v.s.length := by omega
            by_cases l2 : (v.s.length : Int) ≤ 40
            · have l2' : v.s.length ≤ 40 := by omega
              have sh := shape_t (s := v.s) (by omega)
              simp only [e_ref3_Right, Vl.p, Vl.cells', go_sem, h2, hi, sh, l1, l2]
              generalize hK : blockK 1 _ = K
              obtain ⟨i, x1, x2, hr⟩ := rightB_loop v hs (K := K) v.s.length 0 (!(shapeM v.s)) rfl (by omega)
              simp only [Vl.cells', h2, hi] at hr
              refine Eq.trans hr ?_
              rw [← hK]
              simp only [go_sem, Vl.cells', h2, hi, List.drop_zero, l1', l2', decide_true, Bool.true_and]
            · have l2' : ¬ v.s.length ≤ 40 := by omega
              simp only [e_ref3_Right, Vl.p, Vl.cells', go_sem, h2, hi, l1, l2]
              generalize hK : blockK 1 _ = K
              obtain ⟨i, x1, x2, hr⟩ := rightB_loop v hs (K := K) v.s.length 0 (false) rfl (by omega)
              simp only [Vl.cells', h2, hi] at hr
              refine Eq.trans hr ?_
              rw [← hK]
              simp only [go_sem, Vl.cells', h2, hi, List.drop_zero, l1', l2', decide_true, decide_false, Bool.true_and, Bool.and_false, Bool.false_and]
          · have l1' : ¬ 1 ≤ v.s.length := by omega
            simp only [e_ref3_Right, Vl.p, Vl.cells', go_sem, h2, hi, l1]
            generalize hK : blockK 1 _ = K
            obtain ⟨i, x1, x2, hr⟩ := rightB_loop v hs (K := K) v.s.length 0 (false) rfl (by omega)
            simp only [Vl.cells', h2, hi] at hr
            refine Eq.trans hr ?_
            rw [← hK]
            simp only [go_sem, Vl.cells', h2, hi, List.drop_zero, l1', decide_true, decide_false, Bool.true_and, Bool.and_false, Bool.false_and]
        · simp only [e_ref3_Right, Vl.p, Vl.cells', go_sem, h2, hi]
          generalize hK : blockK 1 _ = K
          obtain ⟨i, x1, x2, hr⟩ := rightB_loop v hs (K := K) v.s.length 0 (false) rfl (by omega)
          simp only [Vl.cells', h2] at hr
          refine Eq.trans hr ?_
          rw [← hK]
          simp only [go_sem, Vl.cells', h2, hi, List.drop_zero, decide_false, Bool.false_and]
      · rw [if_neg h2]
        by_cases h3 : v.k = 3
        · rw [if_pos h3, callE_fn efns given (c := e_ref3_Right) rfl rfl]
          by_cases hi : v.i = 0
          · have e : decide ((v.s.length : Int) ≤ 1000) = decide (v.s.length ≤ 1000) := by
              rw [decide_eq_decide]; omega
            simp only [e_ref3_Right, Vl.p, Vl.cells', go_sem, h3, hi, e, decide_true, Bool.true_and]
          · simp only [e_ref3_Right, Vl.p, Vl.cells', go_sem, h3, hi, decide_false, Bool.false_and]
        · rw [if_neg h3, callE_fn efns given (c := e_ref3_Right) rfl rfl]
          simp only [e_ref3_Right, Vl.p, Vl.cells', go_sem, h1, h2, h3]
  obtain ⟨st, h⟩ := key
  exact callV_of rfl h rfl

theorem shapeM_two {s : List UInt8} (h : shapeM s = false) : (parseM s).2 = 2 := by
  rw [parseM_eq, if_neg (by rw [h]; decide)]
theorem rightM_kind {v : Vl} (hi : I64 v.i) (h : rightM v = true) : TokK ⟨v.k, v.i, v.s⟩ ∧ (v.k = 1 ∨ v.k = 2 ∨ v.k = 3) := by
  obtain ⟨k, i, s⟩ := v
  unfold rightM at h
  simp only at h hi ⊢
  split at h
  · rename_i hk
    have : s = [] := by simpa using h
    subst this hk
    exact ⟨.int i hi, .inl rfl⟩
  · split at h
    · rename_i hk
      simp only [Bool.and_eq_true, decide_eq_true_eq, Bool.not_eq_true'] at h
      obtain ⟨⟨⟨⟨h1, h2⟩, h3⟩, h4⟩, h5⟩ := h
      subst h1 hk
      exact ⟨.sym s (by rintro rfl; simp at h2) h3 h5 (shapeM_two h4), .inr (.inl rfl)⟩
    · split at h
      · rename_i hk
        simp only [Bool.and_eq_true, decide_eq_true_eq] at h
        obtain ⟨h1, h2⟩ := h
        subst h1 hk
        exact ⟨.str s h2, .inr (.inr rfl)⟩
      · cases h
theorem tkT_val {v : Vl} (h : v.k = 1 ∨ v.k = 2 ∨ v.k = 3) : tkT ⟨v.k, v.i, v.s⟩ = textV v := by
  unfold tkT
  rw [if_neg (by simp only; omega), if_neg (by simp only; omega), if_neg (by simp only; omega), if_neg (by simp only; omega), if_neg (by simp only; omega)]
theorem tkT_short {t : Tk} (h : TokK t) : (tkT t).length ≤ 2100 := by
  cases h with
  | sign k hk => rcases hk with rfl | rfl | rfl <;> simp [tkT]
  | str s hs =>
    have := (escs_len s).2
    have e : tkT ⟨3, 0, s⟩ = 34 :: (escs s ++ [34]) := rfl
    rw [e]
    simp only [List.length_cons, List.length_append, List.length_nil]
    omega
  | name k s hk hs =>
    have := (goodM_len hs).1
    rcases hk with rfl | rfl
    · have e : tkT ⟨6, 0, s⟩ = 63 :: s := rfl
      rw [e]; simp only [List.length_cons]; omega
    · have e : tkT ⟨7, 0, s⟩ = 63 :: 42 :: (s ++ [42]) := rfl
      rw [e]; simp only [List.length_cons, List.length_append, List.length_nil]; omega
  | int i hi =>
    have e : tkT ⟨1, i, []⟩ = text i := rfl
    have := text_len hi
    rw [e]; omega
  | sym s h1 h2 h3 h4 =>
    have e : tkT ⟨2, 0, s⟩ = s := rfl
    rw [e]; omega
theorem scanL_one {t : Tk} (h : TokK t) : scanL (tkT t) = .ok [⟨t.k, 0, t.i, t.s⟩] := by
  have := tkT_short h
  unfold scanL
  rw [if_neg (by omega), scanM_one h]

theorem values_law (v : Vl) (hi : I64 v.i) (hs : v.s.length ≤ maxLen) : ∃ st, callE efns given f_law4_LexValues [v.p] ⟨[], [], [], []⟩ = some (.bool true, st) := by
  have hml : maxLen ≤ 9223372036854775807 := by decide
  have hr := rightM_t v (by omega)
  unfold Vl.p at hr
  cases hR : rightM v with
  | false =>
    rw [hR] at hr
    refine ⟨⟨[[.int .i64 v.k, .int .i64 v.i, .str v.s]], [], [T_law4_LexValues_0], []⟩, ?_⟩
    rw [callE_fn efns given (c := e_law4_LexValues) rfl rfl]
    simp only [e_law4_LexValues, Vl.p, go_sem, known_t, hr, if_true, if_false, Bool.not_true, Bool.not_false, Bool.false_eq_true]
  | true =>
    rw [hR] at hr
    obtain ⟨hk, h3⟩ := rightM_kind hi hR
    have hsm := hk.small
    have ht := rtextV_t v (by have := hsm.2; simp only at this; omega) hi
    unfold Vl.p at ht
    have hsc := scan_t (textV v)
    have h1 := scanL_one hk
    rw [tkT_val h3] at h1
    rw [h1] at hsc
    unfold scanV at hsc
    have hidx : evIdx 4 ([(⟨v.k, 0, v.i, v.s⟩ : Tok)].map Tok.p) 0 = some (.ref [.int .i64 v.k, .int .i64 ((0 : Nat) : Int), .int .i64 v.i, .str v.s]) := by
      have := tok_at (l := [⟨v.k, 0, v.i, v.s⟩]) (n := 0) (t := ⟨v.k, 0, v.i, v.s⟩) rfl
      exact this
    refine ⟨⟨[[.int .i64 v.k, .int .i64 v.i, .str v.s]], [], [T_law4_LexValues_0], []⟩, ?_⟩
    rw [callE_fn efns given (c := e_law4_LexValues) rfl rfl]
    simp only [List.map_cons, List.map_nil] at hsc hidx
    have z0 : (((0 : Nat) : Int) = 0) = True := eq_true rfl
    have z1 : (((0 + 1 : Nat) : Int) = 1) = True := eq_true rfl
    simp only [e_law4_LexValues, Vl.p, go_sem, known_t, hr, ht, tobytes_ok, hsc, hidx, z0, z1, if_true, if_false, Bool.not_true, Bool.not_false, Bool.false_eq_true, decide_true]
end Go.Proofs.YtpohgiinajfepaaDoorPe.Lex
