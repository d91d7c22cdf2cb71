/- strconv.FormatInt at base 10, as it is laid down for the evaluator, and what Text comes to. -/
import Derived.Test.YtngkdpiajikcjaaDoorNumRef1
import Derived.Shelf.Strconv.Itoa4
import Derived.Shelf.Abstract
import Derived.Lib.AppendIntMem
set_option maxRecDepth 1000000
set_option linter.unusedVariables false
set_option linter.unusedSimpArgs false
namespace Go.Proofs.YtngkdpiajikcjaaDoorPe.Num
open Go Go.Proofs Go.Proofs.YtngkdpiajikcjaaDoorPe Go.Proofs.YtngkdpiajikcjaaDoorPe.NumCode

/-- The library's functions that FormatInt reaches, at this program's numbers. -/
def laysFmt_ren : Go.Shelf.Ren := ⟨fun | 173 => 30 | 246 => 32 | 283 => 33 | 284 => 34 | 285 => 35 | 286 => 36 | 129 => 38 | 317 => 37 | 318 => 39 | 319 => 40 | 320 => 41 | 337 => 42 | 338 => 43 | n => n, fun | 2 => 2 | 3 => 3 | 9 => 9 | 4 => 4 | 171 => 50 | 0 => 0 | 53 => 39 | 37 => 46 | 5 => 5 | 173 => 53 | 212 => 57 | 51 => 58 | 20 => 20 | 213 => 59 | 46 => 48 | 232 => 63 | 233 => 64 | n => n, fun | 17 => 0 | 18 => 1 | 19 => 2 | n => n⟩
theorem laysFmt : LaysM.n173 Tryd.prog laysFmt_ren where
  mixed := by kernel_rfl
  f129 := Tryd.func38.trans (congrArg some (by kernel_rfl))
  f173 := Tryd.func30.trans (congrArg some (by kernel_rfl))
  f246 := Tryd.func32.trans (congrArg some (by kernel_rfl))
  f283 := Tryd.func33.trans (congrArg some (by kernel_rfl))
  f284 := Tryd.func34.trans (congrArg some (by kernel_rfl))
  f285 := Tryd.func35.trans (congrArg some (by kernel_rfl))
  f286 := Tryd.func36.trans (congrArg some (by kernel_rfl))
  f317 := Tryd.func37.trans (congrArg some (by kernel_rfl))
  f318 := Tryd.func39.trans (congrArg some (by kernel_rfl))
  f319 := Tryd.func40.trans (congrArg some (by kernel_rfl))
  f320 := Tryd.func41.trans (congrArg some (by kernel_rfl))
  f337 := Tryd.func42.trans (congrArg some (by kernel_rfl))
  f338 := Tryd.func43.trans (congrArg some (by kernel_rfl))
  t0 := Tryd.underlying0
  a0 := Tryd.isAgg0
  z0 := Tryd.sizeOf0
  v0 := Tryd.zeroValue0
  t2 := Tryd.underlying2
  a2 := Tryd.isAgg2
  z2 := Tryd.sizeOf2
  v2 := Tryd.zeroValue2
  t3 := Tryd.underlying3
  a3 := Tryd.isAgg3
  z3 := Tryd.sizeOf3
  v3 := Tryd.zeroValue3
  t4 := Tryd.underlying4
  a4 := Tryd.isAgg4
  z4 := Tryd.sizeOf4
  v4 := Tryd.zeroValue4
  t5 := Tryd.underlying5
  a5 := Tryd.isAgg5
  z5 := Tryd.sizeOf5
  v5 := Tryd.zeroValue5
  t9 := Tryd.underlying9
  a9 := Tryd.isAgg9
  z9 := Tryd.sizeOf9
  v9 := Tryd.zeroValue9
  t20 := Tryd.underlying20
  a20 := Tryd.isAgg20
  z20 := Tryd.sizeOf20
  v20 := Tryd.zeroValue20
  t37 := Tryd.underlying46
  a37 := Tryd.isAgg46
  z37 := Tryd.sizeOf46
  v37 := Tryd.zeroValue46
  t46 := Tryd.underlying48
  a46 := Tryd.isAgg48
  z46 := Tryd.sizeOf48
  v46 := Tryd.zeroValue48
  t51 := Tryd.underlying58
  a51 := Tryd.isAgg58
  z51 := Tryd.sizeOf58
  v51 := Tryd.zeroValue58
  t53 := Tryd.underlying39
  a53 := Tryd.isAgg39
  z53 := Tryd.sizeOf39
  v53 := Tryd.zeroValue39
  t171 := Tryd.underlying50
  a171 := Tryd.isAgg50
  z171 := Tryd.sizeOf50
  v171 := Tryd.zeroValue50
  t173 := Tryd.underlying53
  a173 := Tryd.isAgg53
  z173 := Tryd.sizeOf53
  v173 := Tryd.zeroValue53
  t212 := Tryd.underlying57
  a212 := Tryd.isAgg57
  z212 := Tryd.sizeOf57
  v212 := Tryd.zeroValue57
  t213 := Tryd.underlying59
  a213 := Tryd.isAgg59
  z213 := Tryd.sizeOf59
  t232 := Tryd.underlying63
  a232 := Tryd.isAgg63
  z232 := Tryd.sizeOf63
  v232 := Tryd.zeroValue63
  t233 := Tryd.underlying64
  a233 := Tryd.isAgg64
  z233 := Tryd.sizeOf64
  v233 := Tryd.zeroValue64
  g17 := by kernel_rfl
  g18 := by kernel_rfl
  g19 := by kernel_rfl
  i0 := by kernel_rfl
  i2 := by kernel_rfl
  i3 := by kernel_rfl
  i4 := by kernel_rfl
  i5 := by kernel_rfl
  i9 := by kernel_rfl
  i20 := by kernel_rfl
  i37 := by kernel_rfl
  i46 := by kernel_rfl
  i51 := by kernel_rfl
  i53 := by kernel_rfl
  i171 := by kernel_rfl
  i173 := by kernel_rfl
  i212 := by kernel_rfl
  i232 := by kernel_rfl
  i233 := by kernel_rfl
  m17 := by kernel_rfl
  m18 := by kernel_rfl
  m19 := by kernel_rfl

/-- The digits, by steps that are counted. -/
def digs : Nat → Nat → List UInt8
  | 0, u => [UInt8.ofNat (48 + u)]
  | k + 1, u => if u < 10 then [UInt8.ofNat (48 + u)] else digs k (u / 10) ++ [UInt8.ofNat (48 + u % 10)]

theorem digs_eq : ∀ (k u : Nat), u < 10 ^ (k + 1) → digs k u = Lib.decDigits u
  | 0, u, h => by
    rw [Lib.decDigits, dif_pos (by omega)]
    rfl
  | k + 1, u, h => by
    rw [Lib.decDigits]
    unfold digs
    by_cases hu : u < 10
    · rw [if_pos hu, dif_pos hu]
    · rw [if_neg hu, dif_neg hu, digs_eq k (u / 10) (by rw [Nat.pow_succ] at h; omega)]

def text (n : Int) : List UInt8 := if n < 0 then 45 :: digs 20 n.natAbs else digs 20 n.toNat

theorem text_eq {n : Int} (h0 : -9223372036854775808 ≤ n) (h1 : n ≤ 9223372036854775807) : text n = Lib.itoa n := by
  unfold text Lib.itoa
  split
  · rw [digs_eq 20 _ (by omega)]
  · rw [digs_eq 20 _ (by omega)]

/-- FormatInt. -/
def format : List PV → Option PV
  | [.int .i64 n, .int .i64 10] => if -9223372036854775808 ≤ n ∧ n ≤ 9223372036854775807 then some (.str (text n)) else none
  | _ => none
def given (f : FuncId) (l : List PV) : Option PV := if f = f_strconv_FormatInt then format l else none

theorem given_ok {W : World} (htab : Lib.TabIs Tryd.prog W "internal/strconv.uint64pow10" .u64 Lib.pow10Tab) : GivenOk Tryd.prog W (fnsOf Tryd.prog sh rows) given := by
  intro f xs r hf hg
  unfold given at hg
  by_cases h30 : ¬ f = f_strconv_FormatInt
  · rw [if_neg h30] at hg; cases hg
  rw [Decidable.not_not] at h30
  subst h30
  rw [if_pos rfl] at hg
  unfold format at hg
  split at hg
  · rename_i n
    split at hg
    · rename_i hn
      cases hg
      refine ⟨⟨Tryd.f30, by kernel_rfl, by rfl, by rfl⟩, fun w F vs hb hsz hr => ?_⟩
      have inv : ∀ (v : Value) (m : Int), RepD F w (.int .i64 m) v → v = .int .i64 m := by
        intro v m h
        cases h with
        | int => rfl
        | sl hx => rcases hx with hx | ⟨hx, _⟩ <;> cases hx
      have e0 := inv _ _ (hr 0 (by simp))
      have e1 := inv _ _ (hr 1 (by simp))
      have hv : vs = #[.int .i64 n, .int .i64 10] := by
        have hs : vs.size = 2 := hsz
        rw [Array.getD_eq_getD_getElem?, Array.getElem?_eq_getElem (by omega)] at e0 e1
        apply Array.ext
        · simpa using hs
        · intro k hk hk'
          match k, hk with
          | 0, _ => simpa using e0
          | 1, _ => simpa using e1
          | k + 2, hk => omega
      rw [hv]
      refine (Any.strconv_FormatInt_10 laysFmt n hn.1 hn.2 w ((Lib.tabBelow_of_tabIs htab) w hb)).mono fun e w' hh => ?_
      obtain ⟨rfl, k, os, rfl⟩ := hh
      refine ⟨_, rfl, Lib.below_grow _ w (Nat.le_refl _) k os, ?_⟩
      rw [text_eq hn.1 hn.2]
      exact .str _
    · cases hg
  · cases hg

theorem format_ok {n : Int} (hn : I64 n) (st : St) : callE efns given f_strconv_FormatInt [.int .i64 n, .int .i64 10] st = some (.str (text n), st) := by
  rw [callE_given efns given rfl]
  show (given f_strconv_FormatInt [.int .i64 n, .int .i64 10]).map (·, st) = _
  unfold given
  rw [if_pos rfl]
  unfold format
  simp only
  rw [if_pos ⟨by omega, by omega⟩]
  rfl

theorem text_ok {n : Int} (hn : I64 n) (st : St) : callE efns given f_num_Text [.int .i64 n] st = some (.str (text n), st) := by
  rw [callE_fn efns given (c := e_num_Text) rfl rfl]
  simp only [e_num_Text, go_sem, format_ok hn ⟨[], []⟩]

theorem byteOf (u : Nat) (h : u < 10) : IntKind.u8.wrap (IntKind.u64.wrap (48 + (u : Int))) = ((UInt8.ofNat (48 + u)).toNat : Int) := by
  rw [IntWalk.u64_in _ (by omega), IntKind.wrap_u8]
  have : (UInt8.ofNat (48 + u)).toNat = 48 + u := by rw [UInt8.toNat_ofNat']; omega
  rw [this]
  omega

theorem rtext_loop {n : Int} {st : St} {K : EX → Fr → St → Option (PV × St)} : ∀ (k u : Nat) (s : List UInt8), u < 10 ^ (k + 1) → u < 18446744073709551616 → s.length + k < 1000 → ∃ u' : PV,
    runL (callE efns given) [true, true, true] b_ref1_Text_0 [.int .i64 n, .int .u64 u, .str (UInt8.ofNat (48 + u % 10) :: s)] st K =
      K (.exit 0) [.int .i64 n, u', .str (Lib.decDigits u ++ s)] st := by
  have last : ∀ (u : Nat) (s : List UInt8), u < 10 → runL (callE efns given) [true, true, true] b_ref1_Text_0 [.int .i64 n, .int .u64 u, .str (UInt8.ofNat (48 + u % 10) :: s)] st K =
      K (.exit 0) [.int .i64 n, .int .u64 u, .str (Lib.decDigits u ++ s)] st := by
    intro u s h
    rw [Lib.decDigits, runL_eq, dif_pos h, Nat.mod_eq_of_lt h]
    generalize runL _ _ b_ref1_Text_0 = L
    simp only [b_ref1_Text_0, go_sem]
    rw [if_neg (by omega)]
  intro k
  induction k with
  | zero => intro u s hk hu hs; exact ⟨_, last u s (by omega)⟩
  | succ k ih =>
    intro u s hk hu hs
    by_cases h : u < 10
    · exact ⟨_, last u s h⟩
    · obtain ⟨u', hh⟩ := ih (u / 10) (UInt8.ofNat (48 + u % 10) :: s) (by rw [Nat.pow_succ] at hk; omega) (by omega) (by simp only [List.length_cons]; omega)
      refine ⟨u', ?_⟩
      rw [Lib.decDigits, runL_eq, dif_neg h, List.append_assoc, List.singleton_append, ← hh]
      generalize runL _ _ b_ref1_Text_0 = L
      simp only [b_ref1_Text_0, go_sem]
      have q1 : ((u : Int).tdiv 10) = ((u / 10 : Nat) : Int) := rfl
      have q2 : (((u / 10 : Nat) : Int).tmod 10) = ((u / 10 % 10 : Nat) : Int) := rfl
      rw [if_pos (by omega), if_neg (by decide), if_neg (by decide), if_pos (by omega), q1, IntWalk.u64_in _ (by omega), q2, byteOf _ (by omega), Int.toNat_natCast, UInt8.ofNat_toNat]

theorem decDigits_len : ∀ (k u : Nat), u < 10 ^ (k + 1) → (Lib.decDigits u).length ≤ k + 1
  | 0, u, h => by
    rw [Lib.decDigits, dif_pos (by omega)]
    simp
  | k + 1, u, h => by
    rw [Lib.decDigits]
    split
    · simp
    · have := decDigits_len k (u / 10) (by rw [Nat.pow_succ] at h; omega)
      simp only [List.length_append, List.length_singleton]
      omega

theorem rtext_ok {n : Int} (hn : I64 n) (st : St) : callE efns given f_ref1_Text [.int .i64 n] st = some (.str (text n), st) := by
  rw [callE_fn efns given (c := e_ref1_Text) rfl rfl, text_eq (by omega) (by omega), Lib.itoa]
  have h1 := size_ok given hn ⟨[], []⟩
  have e : (if n < 0 then -n else n) = (n.natAbs : Int) := by omega
  have q2 : ((n.natAbs : Int).tmod 10) = ((n.natAbs % 10 : Nat) : Int) := rfl
  simp only [e_ref1_Text, go_sem, h1]
  rw [if_neg (by decide), e, q2, byteOf _ (by omega), Int.toNat_natCast, UInt8.ofNat_toNat]
  generalize hK : blockK 0 _ = K
  obtain ⟨u', hh⟩ := rtext_loop (n := n) (st := st) (K := K) 19 n.natAbs [] (by omega) (by omega) (by simp)
  rw [hh, ← hK, List.append_nil]
  simp only [go_sem]
  by_cases hn0 : n < 0
  · have := decDigits_len 19 n.natAbs (by omega)
    rw [if_pos hn0, if_pos hn0, if_pos (by omega)]
  · rw [if_neg hn0, if_neg hn0]
    have : n.natAbs = n.toNat := by omega
    rw [this]
end Go.Proofs.YtngkdpiajikcjaaDoorPe.Num
