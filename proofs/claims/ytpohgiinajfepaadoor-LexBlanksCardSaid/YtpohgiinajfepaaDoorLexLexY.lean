/- The law LexBlanks. -/
import Derived.Test.YtpohgiinajfepaaDoorLexLexW
set_option linter.unusedVariables false
set_option linter.unusedSimpArgs false
set_option maxRecDepth 1000000
namespace Go.Proofs.YtpohgiinajfepaaDoorPe.Lex
open Go Go.Proofs.YtpohgiinajfepaaDoorPe Go.Proofs.YtpohgiinajfepaaDoorPe.LexCode
section
attribute [local go_sem] V_bslice

/-- The pieces. -/
def P6 : List (List UInt8) := [[32], [10], [9], [13], [59, 120, 40, 34, 10], [59, 10]]
def piece6 (c : UInt8) : List UInt8 := P6.getD (c.toNat % 6) []
def blanks6 (l : List UInt8) : List UInt8 := l.flatMap piece6
theorem piece6_cases (c : UInt8) : piece6 c = [32] ∨ piece6 c = [10] ∨ piece6 c = [9] ∨ piece6 c = [13] ∨ piece6 c = [59, 120, 40, 34, 10] ∨ piece6 c = [59, 10] := by
  unfold piece6
  have : c.toNat % 6 = 0 ∨ c.toNat % 6 = 1 ∨ c.toNat % 6 = 2 ∨ c.toNat % 6 = 3 ∨ c.toNat % 6 = 4 ∨ c.toNat % 6 = 5 := by omega
  rcases this with h | h | h | h | h | h <;> (rw [h]; simp [P6])
theorem skip_piece6 (c : UInt8) (r : List UInt8) : skipM false (piece6 c ++ r) = skipM false r := by
  rcases piece6_cases c with h | h | h | h | h | h <;> rw [h] <;> rfl
theorem skip_blanks6 (r : List UInt8) : ∀ l : List UInt8, skipM false (blanks6 l ++ r) = skipM false r
  | [] => rfl
  | c :: l => by
    have e : blanks6 (c :: l) = piece6 c ++ blanks6 l := rfl
    rw [e, List.append_assoc, skip_piece6, skip_blanks6 r l]
theorem piece6_len (c : UInt8) : (piece6 c).length ≤ 5 := by
  rcases piece6_cases c with h | h | h | h | h | h <;> rw [h] <;> decide
theorem blanks6_len : ∀ l : List UInt8, (blanks6 l).length ≤ 5 * l.length
  | [] => Nat.le_refl _
  | c :: l => by
    have e : blanks6 (c :: l) = piece6 c ++ blanks6 l := rfl
    have := blanks6_len l
    have := piece6_len c
    rw [e, List.length_append, List.length_cons]
    omega
theorem idx6 (c : UInt8) : evIdx 1 [PV.str [32], .str [10], .str [9], .str [13], .str [59, 120, 40, 34, 10], .str [59, 10]] ((c.toNat % 6 : Nat) : Int) = some (.ref [.str (piece6 c)]) := by
  have hlt : c.toNat % 6 < 6 := Nat.mod_lt _ (by decide)
  have : c.toNat % 6 = 0 ∨ c.toNat % 6 = 1 ∨ c.toNat % 6 = 2 ∨ c.toNat % 6 = 3 ∨ c.toNat % 6 = 4 ∨ c.toNat % 6 = 5 := by omega
  unfold piece6
  rcases this with h | h | h | h | h | h <;> (rw [h]; rfl)
theorem bs6 {cl : CallF} : tupV cl (.bslice 1 [.str []] 6 [0, 1, 2, 3, 4, 5]) [PV.str [32], .str [10], .str [9], .str [13], .str [59, 120, 40, 34, 10], .str [59, 10]] = some (.full [PV.str [32], .str [10], .str [9], .str [13], .str [59, 120, 40, 34, 10], .str [59, 10]]) := rfl

end
theorem blanks_loop {b : List UInt8} (hb : b.length ≤ 200) {st : St} {K : EX → Fr → St → Option (PV × St)} : ∀ (d n : Nat) (acc : List UInt8), b.length - n = d → n ≤ b.length → acc.length ≤ 5 * n →
    runL (callE efns given) [true, true, true, false, false, false, false, false, false, false, false] b_law4_LexBlanks_0
      [.lst (byts b), .str acc, .int .i64 (n : Int), .undef, .undef, .undef, .undef, .undef, .undef, .undef, .undef] st K =
      K (.exit 0) [.lst (byts b), .str (acc ++ blanks6 (b.drop n)), .int .i64 (b.length : Int), .undef, .undef, .undef, .undef, .undef, .undef, .undef, .undef] st := by
  intro d
  induction d with
  | zero =>
    intro n acc hd hn ha
    have : n = b.length := by omega
    subst this
    rw [runL_eq, List.drop_length]
    generalize runL _ _ b_law4_LexBlanks_0 = L
    have e : acc ++ blanks6 [] = acc := List.append_nil _
    simp only [b_law4_LexBlanks_0, go_sem, byts_length, Int.lt_irrefl, if_false, e]
  | succ d ih =>
    intro n acc hd hn ha
    have hlt : n < b.length := by omega
    obtain ⟨c, hc⟩ : ∃ c, b[n]? = some c := ⟨b[n], List.getElem?_eq_getElem hlt⟩
    have w1 := wrap1 (n := n) (m := b.length) hlt (by omega)
    have c1 : ((n : Int) < (b.length : Int)) = True := eq_true (by omega)
    have hp := piece6_len c
    have hr := ih (n + 1) (acc ++ piece6 c) (by omega) (by omega) (by rw [List.length_append]; omega)
    have hlim : (acc.length + (piece6 c).length ≤ 4611686018427387904) = True := eq_true (by omega)
    have r6 : (c.toNat : Int).tmod 6 = ((c.toNat % 6 : Nat) : Int) := rfl
    have w6 : IntKind.u8.wrap ((c.toNat % 6 : Nat) : Int) = ((c.toNat % 6 : Nat) : Int) := by rw [IntKind.wrap_u8]; omega
    have e : acc ++ blanks6 (b.drop n) = acc ++ piece6 c ++ blanks6 (b.drop (n + 1)) := by
      rw [drop_at hc, List.append_assoc]; rfl
    rw [runL_eq, e]
    generalize runL _ _ b_law4_LexBlanks_0 = L at hr ⊢
    simp only [b_law4_LexBlanks_0, go_sem, byts_length, c1, bidx hc, bs6, r6, w6, idx6, hlim, w1, hr, if_true]

theorem blanks_law (b : List UInt8) : ∃ st, callE efns given f_law4_LexBlanks [.lst (byts b)] ⟨[], [], [], []⟩ = some (.bool true, st) := by
  refine ⟨⟨[], [], [], []⟩, ?_⟩
  rw [callE_fn efns given (c := e_law4_LexBlanks) rfl rfl]
  by_cases hb : b.length > 200
  · have hc : ((b.length : Int) > 200) = True := eq_true (by omega)
    simp only [e_law4_LexBlanks, go_sem, known_t, byts_length, hc, if_true, if_false, Bool.not_true, Bool.false_eq_true]
  · have hc : ((b.length : Int) > 200) = False := eq_false (by omega)
    have hl := blanks6_len b
    have s1 : scanL (blanks6 b) = .ok [] := by
      unfold scanL
      have := skip_blanks6 [] b
      rw [List.append_nil] at this
      rw [if_neg (by omega), scanM_nil this]
    have s2 : scanL (blanks6 b ++ [59, 32, 116, 104, 101, 32, 101, 110, 100]) = .ok [] := by
      unfold scanL
      rw [if_neg (by simp only [List.length_append, List.length_cons, List.length_nil]; omega)]
      exact scanM_nil ((skip_blanks6 _ b).trans rfl)
    have kz : TokK ⟨2, 0, [122]⟩ := .sym [122] (by decide) (by decide) (by decide) (by decide)
    have s3 : scanL (blanks6 b ++ [122]) = .ok [⟨2, (blanks6 b).length, 0, [122]⟩] := by
      unfold scanL
      rw [if_neg (by simp only [List.length_append, List.length_cons, List.length_nil]; omega)]
      have h1 := scanM_one kz (blanks6 b).length
      have h2 : skipM false (blanks6 b ++ [122]) = skipM false [122] := skip_blanks6 _ b
      have h3 : skipM false [122] = [122] := rfl
      rw [scanM_eq (q := (blanks6 b).length) h2 (by rw [h3]; simp only [List.length_append, List.length_cons, List.length_nil]; omega)]
      exact h1
    have t1 := scan_t (blanks6 b)
    have t2 := scan_t (blanks6 b ++ [59, 32, 116, 104, 101, 32, 101, 110, 100])
    have t3 := scan_t (blanks6 b ++ [122])
    rw [s1] at t1
    rw [s2] at t2
    rw [s3] at t3
    unfold scanV at t1 t2 t3
    simp only [List.map_nil, List.map_cons] at t1 t2 t3
    have hlim1 : ((blanks6 b).length + ([59, 32, 116, 104, 101, 32, 101, 110, 100] : List UInt8).length ≤ 4611686018427387904) = True := eq_true (by simp only [List.length_cons, List.length_nil]; omega)
    have hlim2 : ((blanks6 b).length + ([122] : List UInt8).length ≤ 4611686018427387904) = True := eq_true (by simp only [List.length_cons, List.length_nil]; omega)
    simp only [List.length_cons, List.length_nil, Nat.zero_add, Nat.reduceAdd] at hlim1 hlim2
    have hidx : evIdx 4 [(⟨2, (blanks6 b).length, 0, [122]⟩ : Tok).p] 0 = some (.ref [.int .i64 2, .int .i64 (((blanks6 b).length : Nat) : Int), .int .i64 0, .str [122]]) := by
      have := tok_at (l := [⟨2, (blanks6 b).length, 0, [122]⟩]) (n := 0) (t := ⟨2, (blanks6 b).length, 0, [122]⟩) rfl
      exact this
    simp only [e_law4_LexBlanks, go_sem, known_t, byts_length, hc, if_true, if_false, Bool.not_true, Bool.false_eq_true]
    generalize hK : blockK 0 _ = K
    have hlp := blanks_loop (b := b) (by omega) (st := ⟨[], [], [], []⟩) (K := K) _ 0 [] rfl (by omega) (by simp)
    rw [List.nil_append, List.drop_zero] at hlp
    refine Eq.trans hlp ?_
    rw [← hK]
    simp only [go_sem, tobytes_ok, t1, t2, t3, List.length_cons, List.length_nil, Nat.zero_add, Nat.reduceAdd, hlim1, hlim2, hidx, if_true, Int.natCast_zero, Int.natCast_one, decide_true]
    rfl
end Go.Proofs.YtpohgiinajfepaaDoorPe.Lex
