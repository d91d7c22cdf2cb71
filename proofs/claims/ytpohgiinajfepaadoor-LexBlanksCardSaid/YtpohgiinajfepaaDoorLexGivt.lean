/- strconv.FormatInt at base 10 and strings.Clone, as they are laid down for the evaluator, and what Text comes to. -/
import Derived.Test.YtpohgiinajfepaaDoorLexRef1
import Derived.Test.YtpohgiinajfepaaDoorLexLay
import Derived.Test.YtpohgiinajfepaaDoorLexErrs
import Derived.Test.YtpohgiinajfepaaDoorPeSound3
set_option maxRecDepth 1000000
set_option linter.unusedVariables false
set_option linter.unusedSimpArgs false
namespace Go.Proofs.YtpohgiinajfepaaDoorPe.Lex
open Go Go.Proofs Go.Proofs.YtpohgiinajfepaaDoorPe Go.Proofs.YtpohgiinajfepaaDoorPe.LexCode
attribute [local go_sem] V_bslice

/-- The digits, by steps that are counted. -/
def digs : Nat → Nat → List UInt8
  | 0, u => [UInt8.ofNat (48 + u)]
  | k + 1, u => if u < 10 then [UInt8.ofNat (48 + u)] else digs k (u / 10) ++ [UInt8.ofNat (48 + u % 10)]

theorem digs_eq : ∀ (k u : Nat), u < 10 ^ (k + 1) → digs k u = Lib.decDigits u
  | 0, u, h => by
    rw [Lib.decDigits, dif_pos (by omega)]
    rfl
  | k + 1, u, h => by
    rw [Lib.decDigits]
    unfold digs
    by_cases hu : u < 10
    · rw [if_pos hu, dif_pos hu]
    · rw [if_neg hu, dif_neg hu, digs_eq k (u / 10) (by rw [Nat.pow_succ] at h; omega)]

def text (n : Int) : List UInt8 := if n < 0 then 45 :: digs 20 n.natAbs else digs 20 n.toNat

theorem text_eq {n : Int} (h0 : -9223372036854775808 ≤ n) (h1 : n ≤ 9223372036854775807) : text n = Lib.itoa n := by
  unfold text Lib.itoa
  split
  · rw [digs_eq 20 _ (by omega)]
  · rw [digs_eq 20 _ (by omega)]

/-- FormatInt. -/
def format : List PV → Option PV
  | [.int .i64 n, .int .i64 10] => if -9223372036854775808 ≤ n ∧ n ≤ 9223372036854775807 then some (.str (text n)) else none
  | _ => none
/-- stringslite.Clone. -/
def cloned : List PV → Option PV
  | [.str s] => if s.length ≤ 281474976710656 then some (.str s) else none
  | _ => none
/-- errors.Is, at a fault over a number, asked for a number; at nil. -/
def isErr : List PV → Option PV
  | [.iface t (.ref [_, _, .iface t' (.int .i64 n)]), .iface t'' (.int .i64 m)] => if t = Errs.tF ∧ t' = Errs.tE ∧ t'' = Errs.tE then some (.bool (n == m)) else none
  | _ => none
/-- errors.As, at a fault, asked for one: the place is written. -/
def asErr : List PV → Option PV
  | [.iface t (.ref cs), .iface t' (.own 0 [])] => if t = Errs.tF ∧ t' = Errs.tFF then some (.tuple [.bool true, .ref cs]) else none
  | _ => none
def given (f : FuncId) (l : List PV) : Option PV := if f = f_internal_strconv_FormatInt then format l else if f = f_internal_stringslite_Clone then cloned l else if f = f_errors_Is then isErr l else if f = f_errors_As then asErr l else none

theorem invI {F : Fix} {w : World} {v : Value} {k : IntKind} {m : Int} (h : RepD F w (.int k m) v) : v = .int k m := by
  cases h with
  | int => rfl
  | sl hx => rcases hx with hx | ⟨hx, _⟩ <;> cases hx
theorem invS {F : Fix} {w : World} {v : Value} {s : List UInt8} (h : RepD F w (.str s) v) : v = .string ⟨⟨s⟩⟩ := by
  cases h with
  | str => rfl
  | sl hx => rcases hx with hx | ⟨hx, _⟩ <;> cases hx
theorem invF {F : Fix} {w : World} {v : Value} {t : TypeId} {x : PV} (h : RepD F w (.iface t x) v) : ∃ u, v = .iface t u ∧ RepD F w x u := by
  cases h with
  | iface h => exact ⟨_, rfl, h⟩
  | sl hx => rcases hx with hx | ⟨hx, _⟩ <;> cases hx
theorem invR {F : Fix} {w : World} {v : Value} {cs : List PV} (h : RepD F w (.ref cs) v) : ∃ b o, ∃ vs : Nat → Value, v = .pointer (some ⟨b, o, none⟩) ∧ (∀ j, j < cs.length → F b (o + j) ∧ w.cell? ⟨b, o + j, none⟩ = some (vs j)) ∧ ∀ j (h : j < cs.length), RepD F w (cs[j]) (vs j) := by
  cases h with
  | ref hc hr => exact ⟨_, _, _, rfl, hc, hr⟩
  | sl hx => rcases hx with hx | ⟨hx, _⟩ <;> cases hx
theorem invO {F : Fix} {w : World} {v : Value} {r : Nat} {l : List PV} (h : RepD F w (.own r l) v) : False := by
  cases h with
  | sl hx => rcases hx with hx | ⟨hx, _⟩ <;> cases hx
theorem two {vs : Array Value} (hs : vs.size = 2) : vs = #[vs.getD 0 Go.undef, vs.getD 1 Go.undef] := by
  apply Array.ext
  · simpa using hs
  · intro k hk hk'
    match k, hk with
    | 0, hk => simp [hk]
    | 1, hk => simp [hk]
    | k + 2, hk => omega
theorem one {vs : Array Value} (hs : vs.size = 1) : vs = #[vs.getD 0 Go.undef] := by
  apply Array.ext
  · simpa using hs
  · intro k hk hk'
    match k, hk with
    | 0, hk => simp [hk]
    | k + 1, hk => omega

theorem given_plain_ok {W : World} (htab : Lib.TabIs Tryd.prog W "internal/strconv.uint64pow10" .u64 Lib.pow10Tab) : GivenPlain Tryd.prog W (fnsOf Tryd.prog sh rows) given := by
  intro f xs r hf hg
  unfold given at hg
  by_cases h1 : f = f_internal_strconv_FormatInt
  · subst h1
    rw [if_pos rfl] at hg
    unfold format at hg
    split at hg
    · rename_i n
      split at hg
      · rename_i hn
        cases hg
        refine ⟨⟨Tryd.f65, by kernel_rfl, by rfl, by rfl⟩, fun w F vs hFd hb hsz hr => ?_⟩
        rw [two hsz, invI (hr 0 (by simp)), invI (hr 1 (by simp))]
        refine (Any.internal_strconv_FormatInt_10 laysFmt n hn.1 hn.2 w ((Lib.tabBelow_of_tabIs htab) w hb)).mono fun e w' hh => ?_
        obtain ⟨rfl, k, os, rfl⟩ := hh
        refine given_plain hFd rfl (Lib.below_grow _ w (Nat.le_refl _) k os) ?_
        rw [text_eq hn.1 hn.2]
        exact .str _
      · cases hg
    · cases hg
  rw [if_neg h1] at hg
  by_cases h2 : f = f_internal_stringslite_Clone
  · subst h2
    rw [if_pos rfl] at hg
    unfold cloned at hg
    split at hg
    · rename_i s
      split at hg
      · rename_i hs
        cases hg
        refine ⟨⟨Tryd.f56, by kernel_rfl, by rfl, by rfl⟩, fun w F vs hFd hb hsz hr => ?_⟩
        rw [one hsz, invS (hr 0 (by simp))]
        refine (Any.stringslite_Clone laysClone ⟨⟨s⟩⟩ w (by show s.length ≤ _; exact hs)).mono fun e w' hh => ?_
        obtain ⟨rfl, hbel⟩ := hh
        exact given_plain hFd rfl hbel (.str _)
      · cases hg
    · cases hg
  rw [if_neg h2] at hg
  by_cases h3 : f = f_errors_Is
  · subst h3
    rw [if_pos rfl] at hg
    unfold isErr at hg
    split at hg
    · rename_i t y0 y1 t' n t'' m
      split at hg
      · rename_i hn
        obtain ⟨rfl, rfl, rfl⟩ := hn
        cases hg
        refine ⟨⟨_, Errs.fn_is, by rfl, by rfl⟩, fun w F vs hFd hb hsz hr => ?_⟩
        obtain ⟨u0, e0, k0⟩ := invF (hr 0 (by simp))
        obtain ⟨u1, e1, k1⟩ := invF (hr 1 (by simp))
        obtain ⟨b, o, us, rfl, hc, hu⟩ := invR k0
        obtain ⟨u2, e2, k2⟩ := invF (hu 2 (by simp))
        have h2 := (hc 2 (by simp)).2
        rw [e2, invI k2] at h2
        rw [two hsz, e0, e1, invI k1]
        refine (Errs.any_is b o n m w h2).mono fun e w' hh => ?_
        obtain ⟨rfl, rfl⟩ := hh
        exact given_plain hFd rfl (Go.RowKit.Below.refl _ _) (.bool _)
      · cases hg
    · cases hg
  rw [if_neg h3] at hg
  by_cases h4 : f = f_errors_As
  · subst h4
    rw [if_pos rfl] at hg
    unfold asErr at hg
    split at hg
    · rename_i t cs t'
      split at hg
      · cases hg
        refine ⟨⟨_, Errs.fn_as, by rfl, by rfl⟩, fun w F vs hFd hb hsz hr => ?_⟩
        obtain ⟨u1, e1, k1⟩ := invF (hr 1 (by simp))
        exact (invO k1).elim
      · cases hg
    · cases hg
  · rw [if_neg h4] at hg; cases hg

theorem given_writes {W : World} (hty : W.cell? ⟨0, 0, none⟩ = some Errs.typeCell) : WritesOk Tryd.prog W (fnsOf Tryd.prog sh rows) given := by
  intro f x t r y hf hg
  unfold given at hg
  by_cases h1 : f = f_internal_strconv_FormatInt
  · rw [if_pos h1] at hg; unfold format at hg; simp at hg
  rw [if_neg h1] at hg
  by_cases h2 : f = f_internal_stringslite_Clone
  · rw [if_pos h2] at hg; unfold cloned at hg; simp at hg
  rw [if_neg h2] at hg
  by_cases h3 : f = f_errors_Is
  · rw [if_pos h3] at hg
    unfold isErr at hg
    split at hg
    · split at hg
      · cases hg
      · cases hg
    · cases hg
  rw [if_neg h3] at hg
  by_cases h4 : f = f_errors_As
  · subst h4
    rw [if_pos rfl] at hg
    unfold asErr at hg
    split at hg
    · rename_i t0 cs t' e
      cases e
      split at hg
      · rename_i hn
        obtain ⟨rfl, rfl⟩ := hn
        cases hg
        refine ⟨⟨_, Errs.fn_as, by rfl, by rfl⟩, fun w F v old blk T hFd hb hv hbk hnF hlt => ?_⟩
        obtain ⟨u0, rfl, k0⟩ := invF hv
        obtain ⟨b, o, us, rfl, hc, hu⟩ := invR k0
        have h0 : 0 < W.heap.size := by
          rcases Nat.eq_zero_or_pos W.heap.size with h0 | h
          · simp [World.cell?, h0] at hty
          · exact h
        have hty' : w.cell? ⟨0, 0, none⟩ = some Errs.typeCell := (hb.cell (p := ⟨0, 0, none⟩) h0).trans hty
        have hbl : blk < w.heap.size := by
          rcases Nat.lt_or_ge blk w.heap.size with h | h
          · exact h
          · rw [Array.getElem?_eq_none h] at hbk; cases hbk
        refine (Errs.any_as ⟨b, o, none⟩ ⟨blk, 0, none⟩ old w hty' (by simp [World.cell?, hbk]) (by simp [World.frozen?, hbk])).mono fun e w' hh => ?_
        obtain ⟨rfl, rfl⟩ := hh
        have q1 : ∀ k, k < w.heap.size → (Errs.asBefore ⟨b, o, none⟩ ⟨blk, 0, none⟩ w).heap[k]? = w.heap[k]? := by
          intro k hk
          unfold Errs.asBefore
          rw [Go.RowKit.Below.heap_alloc _ _ _ (by simp; omega), Go.RowKit.Below.heap_alloc _ _ _ (by simp; omega), Go.RowKit.Below.heap_alloc _ _ _ (by simp; omega), Go.RowKit.Below.heap_alloc _ _ _ hk]
        have q2 : ∀ k, k < w.heap.size → k ≠ blk → ((Errs.asBefore ⟨b, o, none⟩ ⟨blk, 0, none⟩ w).setCell ⟨blk, 0, none⟩ (.pointer (some ⟨b, o, none⟩))).heap[k]? = w.heap[k]? := by
          intro k hk hne
          rw [Go.RowKit.Below.heap_setCell _ _ _ _ hne]
          exact q1 k hk
        refine ⟨_, .pointer (some ⟨b, o, none⟩), rfl, .bool _, rfl, by simp, ?_, ?_, q2, ?_, ⟨rfl, rfl, rfl⟩⟩
        · refine k0.mono (fun _ _ h => h) (fun b' o' hF => ?_)
          have hlt' := hFd b' o' hF
          refine World.cell?_of_block (w := w) (q2 b' hlt' ?_)
          rintro rfl
          exact hnF _ hF
        · unfold World.setCell
          have := q1 blk hbl
          rw [hbk] at this
          simp [Array.getElem?_modify, this]
          rfl
        · show w.heap.size ≤ _
          unfold Errs.asBefore World.setCell
          simp
          omega
      · cases hg
    · cases hg
  · rw [if_neg h4] at hg; cases hg

theorem given_ok {W : World} (htab : Lib.TabIs Tryd.prog W "internal/strconv.uint64pow10" .u64 Lib.pow10Tab) (hty : W.cell? ⟨0, 0, none⟩ = some Errs.typeCell) : GivenOk Tryd.prog W (fnsOf Tryd.prog sh rows) given := ⟨given_plain_ok htab, given_writes hty⟩

theorem ifmt_ok {n : Int} (hn : I64 n) (st : St) : callE efns given f_internal_strconv_FormatInt [.int .i64 n, .int .i64 10] st = some (.str (text n), st) := by
  rw [callE_given efns given rfl]
  have hg : given f_internal_strconv_FormatInt [.int .i64 n, .int .i64 10] = some (.str (text n)) := by
    unfold given
    rw [if_pos rfl]
    unfold format
    simp only
    rw [if_pos ⟨by omega, by omega⟩]
  show (match given f_internal_strconv_FormatInt [.int .i64 n, .int .i64 10] with | some r => givAns r st | none => none) = _
  rw [hg]
  rfl
theorem iclone_ok {s : List UInt8} (hs : s.length ≤ 281474976710656) (st : St) : callE efns given f_internal_stringslite_Clone [.str s] st = some (.str s, st) := by
  rw [callE_given efns given rfl]
  have hg : given f_internal_stringslite_Clone [.str s] = some (.str s) := by
    unfold given
    rw [if_neg (by decide), if_pos rfl]
    unfold cloned
    simp only
    rw [if_pos hs]
  show (match given f_internal_stringslite_Clone [.str s] with | some r => givAns r st | none => none) = _
  rw [hg]
  rfl
/-- errors.Is. -/
theorem is_ok {n m : Int} {a b : PV} (st : St) : callE efns given f_errors_Is [.iface Errs.tF (.ref [a, b, .iface Errs.tE (.int .i64 n)]), .iface Errs.tE (.int .i64 m)] st = some (.bool (n == m), st) := by
  rw [callE_given efns given rfl]
  have hg : given f_errors_Is [.iface Errs.tF (.ref [a, b, .iface Errs.tE (.int .i64 n)]), .iface Errs.tE (.int .i64 m)] = some (.bool (n == m)) := by
    unfold given
    rw [if_neg (by decide), if_neg (by decide), if_pos rfl]
    unfold isErr
    rfl
  show (match given f_errors_Is [.iface Errs.tF (.ref [a, b, .iface Errs.tE (.int .i64 n)]), .iface Errs.tE (.int .i64 m)] with | some r => givAns r st | none => none) = _
  rw [hg]
  rfl
/-- errors.As. -/
theorem as_ok {cs : List PV} {k : Nat} {p : PV} {st : St} (hk : st.boxes[k]? = some [p]) : callE efns given f_errors_As [.iface Errs.tF (.ref cs), .iface Errs.tFF (.ptr k 0)] st = some (.bool true, ⟨st.boxes.set k [.ref cs], st.rows, st.bt, st.rt⟩) := by
  rw [callE_given efns given rfl]
  have hg : given f_errors_As [.iface Errs.tF (.ref cs), .iface Errs.tFF (.own 0 [])] = some (.tuple [.bool true, .ref cs]) := by
    unfold given
    rw [if_neg (by decide), if_neg (by decide), if_neg (by decide), if_pos rfl]
    unfold asErr
    rfl
  show (match given f_errors_As [.iface Errs.tF (.ref cs), .iface Errs.tFF (.own 0 [])] with
    | some (.tuple [r, y]) => match st.boxes[k]? with
      | some [_] => if y.cells.length = 1 ∧ y.cells.all PV.isCell = true then some (r, (⟨st.boxes.set k y.cells, st.rows, st.bt, st.rt⟩ : St)) else none
      | _ => none
    | _ => none) = _
  rw [hg, hk]
  rfl

theorem clone_ok {s : List UInt8} (hs : s.length ≤ 281474976710656) (st : St) : callE efns given f_strings_Clone [.str s] st = some (.str s, st) := by
  rw [callE_fn efns given (c := e_strings_Clone) rfl rfl]
  simp only [e_strings_Clone, go_sem, V_call, iclone_ok hs ⟨[], [], [], []⟩]
theorem format_ok {n : Int} (hn : I64 n) (st : St) : callE efns given f_strconv_FormatInt [.int .i64 n, .int .i64 10] st = some (.str (text n), st) := by
  rw [callE_fn efns given (c := e_strconv_FormatInt) rfl rfl]
  simp only [e_strconv_FormatInt, go_sem, V_call, ifmt_ok hn ⟨[], [], [], []⟩]
theorem text_ok {n : Int} (hn : I64 n) (st : St) : callE efns given f_num_Text [.int .i64 n] st = some (.str (text n), st) := by
  rw [callE_fn efns given (c := e_num_Text) rfl rfl]
  simp only [e_num_Text, go_sem, V_call, format_ok hn ⟨[], [], [], []⟩]

theorem byteOf (u : Nat) (h : u < 10) : IntKind.u8.wrap (IntKind.u64.wrap (48 + (u : Int))) = ((UInt8.ofNat (48 + u)).toNat : Int) := by
  rw [IntWalk.u64_in _ (by omega), IntKind.wrap_u8]
  have : (UInt8.ofNat (48 + u)).toNat = 48 + u := by rw [UInt8.toNat_ofNat']; omega
  rw [this]
  omega

theorem rtext_loop {n : Int} {st : St} {K : EX → Fr → St → Option (PV × St)} : ∀ (k u : Nat) (s : List UInt8), u < 10 ^ (k + 1) → u < 18446744073709551616 → s.length + k < 1000 → ∃ u' : PV,
    runL (callE efns given) [true, true, true] b_ref1_Text_0 [.int .i64 n, .int .u64 u, .str (UInt8.ofNat (48 + u % 10) :: s)] st K =
      K (.exit 0) [.int .i64 n, u', .str (Lib.decDigits u ++ s)] st := by
  have last : ∀ (u : Nat) (s : List UInt8), u < 10 → runL (callE efns given) [true, true, true] b_ref1_Text_0 [.int .i64 n, .int .u64 u, .str (UInt8.ofNat (48 + u % 10) :: s)] st K =
      K (.exit 0) [.int .i64 n, .int .u64 u, .str (Lib.decDigits u ++ s)] st := by
    intro u s h
    rw [Lib.decDigits, runL_eq, dif_pos h, Nat.mod_eq_of_lt h]
    generalize runL _ _ b_ref1_Text_0 = L
    simp only [b_ref1_Text_0, go_sem, V_call]
    rw [if_neg (by omega)]
  intro k
  induction k with
  | zero => intro u s hk hu hs; exact ⟨_, last u s (by omega)⟩
  | succ k ih =>
    intro u s hk hu hs
    by_cases h : u < 10
    · exact ⟨_, last u s h⟩
    · obtain ⟨u', hh⟩ := ih (u / 10) (UInt8.ofNat (48 + u % 10) :: s) (by rw [Nat.pow_succ] at hk; omega) (by omega) (by simp only [List.length_cons]; omega)
      refine ⟨u', ?_⟩
      rw [Lib.decDigits, runL_eq, dif_neg h, List.append_assoc, List.singleton_append, ← hh]
      generalize runL _ _ b_ref1_Text_0 = L
      simp only [b_ref1_Text_0, go_sem, V_call]
      have q1 : ((u : Int).tdiv 10) = ((u / 10 : Nat) : Int) := rfl
      have q2 : (((u / 10 : Nat) : Int).tmod 10) = ((u / 10 % 10 : Nat) : Int) := rfl
      rw [if_pos (by omega), if_neg (by decide), if_neg (by decide), if_pos (by omega), q1, IntWalk.u64_in _ (by omega), q2, byteOf _ (by omega), Int.toNat_natCast, UInt8.ofNat_toNat]

theorem decDigits_len : ∀ (k u : Nat), u < 10 ^ (k + 1) → (Lib.decDigits u).length ≤ k + 1
  | 0, u, h => by
    rw [Lib.decDigits, dif_pos (by omega)]
    simp
  | k + 1, u, h => by
    rw [Lib.decDigits]
    split
    · simp
    · have := decDigits_len k (u / 10) (by rw [Nat.pow_succ] at h; omega)
      simp only [List.length_append, List.length_singleton]
      omega

theorem rtext_ok {n : Int} (hn : I64 n) (st : St) : callE efns given f_ref1_Text [.int .i64 n] st = some (.str (text n), st) := by
  rw [callE_fn efns given (c := e_ref1_Text) rfl rfl, text_eq (by omega) (by omega), Lib.itoa]
  have h1 := size_ok given hn ⟨[], [], [], []⟩
  have e : (if n < 0 then -n else n) = (n.natAbs : Int) := by omega
  have q2 : ((n.natAbs : Int).tmod 10) = ((n.natAbs % 10 : Nat) : Int) := rfl
  simp only [e_ref1_Text, go_sem, V_call, h1]
  rw [if_neg (by decide), e, q2, byteOf _ (by omega), Int.toNat_natCast, UInt8.ofNat_toNat]
  generalize hK : blockK 0 _ = K
  obtain ⟨u', hh⟩ := rtext_loop (n := n) (st := st) (K := K) 19 n.natAbs [] (by omega) (by omega) (by simp)
  rw [hh, ← hK, List.append_nil]
  simp only [go_sem, V_call]
  by_cases hn0 : n < 0
  · have := decDigits_len 19 n.natAbs (by omega)
    rw [if_pos hn0, if_pos hn0, if_pos (by omega)]
  · rw [if_neg hn0, if_neg hn0]
    have : n.natAbs = n.toNat := by omega
    rw [this]
end Go.Proofs.YtpohgiinajfepaaDoorPe.Lex
