/- strconv.FormatInt at base 10 and strings.Clone, as they are laid down for the evaluator, and what Text comes to. -/
import Derived.Test.YtnkmeafaggdfdaaDoorValRef1
import Derived.Test.YtnkmeafaggdfdaaDoorValLay
import Derived.Test.YtnkmeafaggdfdaaDoorPeSound3
set_option maxRecDepth 1000000
set_option linter.unusedVariables false
set_option linter.unusedSimpArgs false
namespace Go.Proofs.YtnkmeafaggdfdaaDoorPe.Val
open Go Go.Proofs Go.Proofs.YtnkmeafaggdfdaaDoorPe Go.Proofs.YtnkmeafaggdfdaaDoorPe.ValCode

/-- The digits, by steps that are counted. -/
def digs : Nat → Nat → List UInt8
  | 0, u => [UInt8.ofNat (48 + u)]
  | k + 1, u => if u < 10 then [UInt8.ofNat (48 + u)] else digs k (u / 10) ++ [UInt8.ofNat (48 + u % 10)]

theorem digs_eq : ∀ (k u : Nat), u < 10 ^ (k + 1) → digs k u = Lib.decDigits u
  | 0, u, h => by
    rw [Lib.decDigits, dif_pos (by omega)]
    rfl
  | k + 1, u, h => by
    rw [Lib.decDigits]
    unfold digs
    by_cases hu : u < 10
    · rw [if_pos hu, dif_pos hu]
    · rw [if_neg hu, dif_neg hu, digs_eq k (u / 10) (by rw [Nat.pow_succ] at h; omega)]

def text (n : Int) : List UInt8 := if n < 0 then 45 :: digs 20 n.natAbs else digs 20 n.toNat

theorem text_eq {n : Int} (h0 : -9223372036854775808 ≤ n) (h1 : n ≤ 9223372036854775807) : text n = Lib.itoa n := by
  unfold text Lib.itoa
  split
  · rw [digs_eq 20 _ (by omega)]
  · rw [digs_eq 20 _ (by omega)]

/-- FormatInt. -/
def format : List PV → Option PV
  | [.int .i64 n, .int .i64 10] => if -9223372036854775808 ≤ n ∧ n ≤ 9223372036854775807 then some (.str (text n)) else none
  | _ => none
/-- stringslite.Clone. -/
def cloned : List PV → Option PV
  | [.str s] => if s.length ≤ 281474976710656 then some (.str s) else none
  | _ => none
def given (f : FuncId) (l : List PV) : Option PV := if f = f_internal_strconv_FormatInt then format l else if f = f_internal_stringslite_Clone then cloned l else none

theorem given_ok {W : World} (htab : Lib.TabIs Tryd.prog W "internal/strconv.uint64pow10" .u64 Lib.pow10Tab) : GivenOk Tryd.prog W (fnsOf Tryd.prog sh rows) given := by
  intro f xs r hf hg
  have invI : ∀ (F : Fix) (w : World) (v : Value) (m : Int), RepD F w (.int .i64 m) v → v = .int .i64 m := by
    intro F w v m h
    cases h with
    | int => rfl
    | sl hx => rcases hx with hx | ⟨hx, _⟩ <;> cases hx
  have invS : ∀ (F : Fix) (w : World) (v : Value) (s : List UInt8), RepD F w (.str s) v → v = .string ⟨⟨s⟩⟩ := by
    intro F w v s h
    cases h with
    | str => rfl
    | sl hx => rcases hx with hx | ⟨hx, _⟩ <;> cases hx
  unfold given at hg
  by_cases h30 : f = f_internal_strconv_FormatInt
  · subst h30
    rw [if_pos rfl] at hg
    unfold format at hg
    split at hg
    · rename_i n
      split at hg
      · rename_i hn
        cases hg
        refine ⟨⟨Tryd.f54, by kernel_rfl, by rfl, by rfl⟩, fun w F vs hFd hb hsz hr => ?_⟩
        have e0 := invI _ _ _ _ (hr 0 (by simp))
        have e1 := invI _ _ _ _ (hr 1 (by simp))
        have hv : vs = #[.int .i64 n, .int .i64 10] := by
          have hs : vs.size = 2 := hsz
          rw [Array.getD_eq_getD_getElem?, Array.getElem?_eq_getElem (by omega)] at e0 e1
          apply Array.ext
          · simpa using hs
          · intro k hk hk'
            match k, hk with
            | 0, _ => simpa using e0
            | 1, _ => simpa using e1
            | k + 2, hk => omega
        rw [hv]
        refine (Any.internal_strconv_FormatInt_10 laysFmt n hn.1 hn.2 w ((Lib.tabBelow_of_tabIs htab) w hb)).mono fun e w' hh => ?_
        obtain ⟨rfl, k, os, rfl⟩ := hh
        refine given_plain hFd rfl (Lib.below_grow _ w (Nat.le_refl _) k os) ?_
        rw [text_eq hn.1 hn.2]
        exact .str _
      · cases hg
    · cases hg
  rw [if_neg h30] at hg
  by_cases h31 : f = f_internal_stringslite_Clone
  · subst h31
    rw [if_pos rfl] at hg
    unfold cloned at hg
    split at hg
    · rename_i s
      split at hg
      · rename_i hs
        cases hg
        refine ⟨⟨Tryd.f45, by kernel_rfl, by rfl, by rfl⟩, fun w F vs hFd hb hsz hr => ?_⟩
        have e0 := invS _ _ _ _ (hr 0 (by simp))
        have hv : vs = #[.string ⟨⟨s⟩⟩] := by
          have hs : vs.size = 1 := hsz
          rw [Array.getD_eq_getD_getElem?, Array.getElem?_eq_getElem (by omega)] at e0
          apply Array.ext
          · simpa using hs
          · intro k hk hk'
            match k, hk with
            | 0, _ => simpa using e0
            | k + 1, hk => omega
        rw [hv]
        refine (Any.stringslite_Clone laysClone ⟨⟨s⟩⟩ w (by show s.length ≤ _; exact hs)).mono fun e w' hh => ?_
        obtain ⟨rfl, hbel⟩ := hh
        exact given_plain hFd rfl hbel (.str _)
      · cases hg
    · cases hg
  · rw [if_neg h31] at hg; cases hg

theorem ifmt_ok {n : Int} (hn : I64 n) (st : St) : callE efns given f_internal_strconv_FormatInt [.int .i64 n, .int .i64 10] st = some (.str (text n), st) := by
  rw [callE_given efns given rfl]
  show (given f_internal_strconv_FormatInt [.int .i64 n, .int .i64 10]).map (·, st) = _
  unfold given
  rw [if_pos rfl]
  unfold format
  simp only
  rw [if_pos ⟨by omega, by omega⟩]
  rfl
theorem iclone_ok {s : List UInt8} (hs : s.length ≤ 281474976710656) (st : St) : callE efns given f_internal_stringslite_Clone [.str s] st = some (.str s, st) := by
  rw [callE_given efns given rfl]
  show (given f_internal_stringslite_Clone [.str s]).map (·, st) = _
  unfold given
  rw [if_neg (by decide), if_pos rfl]
  unfold cloned
  simp only
  rw [if_pos hs]
  rfl
theorem clone_ok {s : List UInt8} (hs : s.length ≤ 281474976710656) (st : St) : callE efns given f_strings_Clone [.str s] st = some (.str s, st) := by
  rw [callE_fn efns given (c := e_strings_Clone) rfl rfl]
  simp only [e_strings_Clone, go_sem, V_call, iclone_ok hs ⟨[], [], [], []⟩]
theorem format_ok {n : Int} (hn : I64 n) (st : St) : callE efns given f_strconv_FormatInt [.int .i64 n, .int .i64 10] st = some (.str (text n), st) := by
  rw [callE_fn efns given (c := e_strconv_FormatInt) rfl rfl]
  simp only [e_strconv_FormatInt, go_sem, V_call, ifmt_ok hn ⟨[], [], [], []⟩]
theorem iitoa_ok {n : Int} (hn : I64 n) (st : St) : callE efns given f_internal_strconv_Itoa [.int .i64 n] st = some (.str (text n), st) := by
  rw [callE_fn efns given (c := e_internal_strconv_Itoa) rfl rfl]
  simp only [e_internal_strconv_Itoa, go_sem, V_call, ifmt_ok hn ⟨[], [], [], []⟩]
theorem itoa_ok {n : Int} (hn : I64 n) (st : St) : callE efns given f_strconv_Itoa [.int .i64 n] st = some (.str (text n), st) := by
  rw [callE_fn efns given (c := e_strconv_Itoa) rfl rfl]
  simp only [e_strconv_Itoa, go_sem, V_call, iitoa_ok hn ⟨[], [], [], []⟩]
theorem text_ok {n : Int} (hn : I64 n) (st : St) : callE efns given f_num_Text [.int .i64 n] st = some (.str (text n), st) := by
  rw [callE_fn efns given (c := e_num_Text) rfl rfl]
  simp only [e_num_Text, go_sem, V_call, format_ok hn ⟨[], [], [], []⟩]

theorem byteOf (u : Nat) (h : u < 10) : IntKind.u8.wrap (IntKind.u64.wrap (48 + (u : Int))) = ((UInt8.ofNat (48 + u)).toNat : Int) := by
  rw [IntWalk.u64_in _ (by omega), IntKind.wrap_u8]
  have : (UInt8.ofNat (48 + u)).toNat = 48 + u := by rw [UInt8.toNat_ofNat']; omega
  rw [this]
  omega

theorem rtext_loop {n : Int} {st : St} {K : EX → Fr → St → Option (PV × St)} : ∀ (k u : Nat) (s : List UInt8), u < 10 ^ (k + 1) → u < 18446744073709551616 → s.length + k < 1000 → ∃ u' : PV,
    runL (callE efns given) [true, true, true] b_ref1_Text_0 [.int .i64 n, .int .u64 u, .str (UInt8.ofNat (48 + u % 10) :: s)] st K =
      K (.exit 0) [.int .i64 n, u', .str (Lib.decDigits u ++ s)] st := by
  have last : ∀ (u : Nat) (s : List UInt8), u < 10 → runL (callE efns given) [true, true, true] b_ref1_Text_0 [.int .i64 n, .int .u64 u, .str (UInt8.ofNat (48 + u % 10) :: s)] st K =
      K (.exit 0) [.int .i64 n, .int .u64 u, .str (Lib.decDigits u ++ s)] st := by
    intro u s h
    rw [Lib.decDigits, runL_eq, dif_pos h, Nat.mod_eq_of_lt h]
    generalize runL _ _ b_ref1_Text_0 = L
    simp only [b_ref1_Text_0, go_sem, V_call]
    rw [if_neg (by omega)]
  intro k
  induction k with
  | zero => intro u s hk hu hs; exact ⟨_, last u s (by omega)⟩
  | succ k ih =>
    intro u s hk hu hs
    by_cases h : u < 10
    · exact ⟨_, last u s h⟩
    · obtain ⟨u', hh⟩ := ih (u / 10) (UInt8.ofNat (48 + u % 10) :: s) (by rw [Nat.pow_succ] at hk; omega) (by omega) (by simp only [List.length_cons]; omega)
      refine ⟨u', ?_⟩
      rw [Lib.decDigits, runL_eq, dif_neg h, List.append_assoc, List.singleton_append, ← hh]
      generalize runL _ _ b_ref1_Text_0 = L
      simp only [b_ref1_Text_0, go_sem, V_call]
      have q1 : ((u : Int).tdiv 10) = ((u / 10 : Nat) : Int) := rfl
      have q2 : (((u / 10 : Nat) : Int).tmod 10) = ((u / 10 % 10 : Nat) : Int) := rfl
      rw [if_pos (by omega), if_neg (by decide), if_neg (by decide), if_pos (by omega), q1, IntWalk.u64_in _ (by omega), q2, byteOf _ (by omega), Int.toNat_natCast, UInt8.ofNat_toNat]

theorem decDigits_len : ∀ (k u : Nat), u < 10 ^ (k + 1) → (Lib.decDigits u).length ≤ k + 1
  | 0, u, h => by
    rw [Lib.decDigits, dif_pos (by omega)]
    simp
  | k + 1, u, h => by
    rw [Lib.decDigits]
    split
    · simp
    · have := decDigits_len k (u / 10) (by rw [Nat.pow_succ] at h; omega)
      simp only [List.length_append, List.length_singleton]
      omega

theorem rtext_ok {n : Int} (hn : I64 n) (st : St) : callE efns given f_ref1_Text [.int .i64 n] st = some (.str (text n), st) := by
  rw [callE_fn efns given (c := e_ref1_Text) rfl rfl, text_eq (by omega) (by omega), Lib.itoa]
  have h1 := size_ok given hn ⟨[], [], [], []⟩
  have e : (if n < 0 then -n else n) = (n.natAbs : Int) := by omega
  have q2 : ((n.natAbs : Int).tmod 10) = ((n.natAbs % 10 : Nat) : Int) := rfl
  simp only [e_ref1_Text, go_sem, V_call, h1]
  rw [if_neg (by decide), e, q2, byteOf _ (by omega), Int.toNat_natCast, UInt8.ofNat_toNat]
  generalize hK : blockK 0 _ = K
  obtain ⟨u', hh⟩ := rtext_loop (n := n) (st := st) (K := K) 19 n.natAbs [] (by omega) (by omega) (by simp)
  rw [hh, ← hK, List.append_nil]
  simp only [go_sem, V_call]
  by_cases hn0 : n < 0
  · have := decDigits_len 19 n.natAbs (by omega)
    rw [if_pos hn0, if_pos hn0, if_pos (by omega)]
  · rw [if_neg hn0, if_neg hn0]
    have : n.natAbs = n.toNat := by omega
    rw [this]
end Go.Proofs.YtnkmeafaggdfdaaDoorPe.Val
