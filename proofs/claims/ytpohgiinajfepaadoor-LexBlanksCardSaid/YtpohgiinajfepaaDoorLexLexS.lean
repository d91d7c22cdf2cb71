/- The scanner: what its methods come to: more, skip, name. -/
import Derived.Test.YtpohgiinajfepaaDoorLexLexG
set_option linter.unusedVariables false
set_option linter.unusedSimpArgs false
set_option maxRecDepth 1000000
namespace Go.Proofs.YtpohgiinajfepaaDoorPe.Lex
open Go Go.Proofs.YtpohgiinajfepaaDoorPe Go.Proofs.YtpohgiinajfepaaDoorPe.LexCode
attribute [local go_sem] V_bslice

def scC (b : List UInt8) (n : Nat) : List PV := [.lst (byts b), .int .i64 (n : Int)]
/-- A scanner in a box: its text, its place. -/
def Sc (k : Nat) (b : List UInt8) (n : Nat) (st : St) : Prop := st.boxes[k]? = some (scC b n)
def upd (k : Nat) (b : List UInt8) (n : Nat) (st : St) : St := ⟨st.boxes.set k (scC b n), st.rows, st.bt, st.rt⟩
theorem upd_same {k n : Nat} {b : List UInt8} {st : St} (h : Sc k b n st) : upd k b n st = st := by
  unfold upd
  rw [set_same' h]
theorem upd_upd {k n m : Nat} {b : List UInt8} {st : St} : upd k b m (upd k b n st) = upd k b m st := by
  unfold upd
  rw [List.set_set]
theorem upd_sc {k n : Nat} {b : List UInt8} {st : St} (h : k < st.boxes.length) : Sc k b n (upd k b n st) := by
  unfold Sc upd
  exact List.getElem?_set_self h
theorem Sc.lt {k n : Nat} {b : List UInt8} {st : St} (h : Sc k b n st) : k < st.boxes.length := box_lt h

theorem byts_get {b : List UInt8} {n : Nat} {c : UInt8} (hc : b[n]? = some c) : (byts b)[n]? = some (.int .u8 c.toNat) := by
  unfold byts
  rw [List.getElem?_map, hc]
  rfl
theorem bidx {b : List UInt8} {n : Nat} {c : UInt8} (hc : b[n]? = some c) : evIdx 1 (byts b) (n : Int) = some (.ref [.int .u8 c.toNat]) := idx_at (n := 1) (byts_get hc) rfl
theorem bnd_nat {k : IntKind} {i y d : Nat} (h : i ≤ y) : bnd (some (.int k (i : Int))) y d = some i := by
  unfold bnd
  simp only
  rw [if_pos ⟨by omega, by omega⟩, Int.toNat_natCast]
theorem sizes_byts (o : Nat) (b : List UInt8) : sizesOk 1 o (byts b) = true := by
  unfold sizesOk
  cases b with
  | nil => simp [byts]
  | cons c r => simp [byts, PV.cells]
theorem blsub {b : List UInt8} {i j : Nat} (h0 : i ≤ j) (h1 : j ≤ b.length) : lsubV 1 (.lst (byts b)) (some (.int .i64 (i : Int))) (some (.int .i64 (j : Int))) none = some (.lst (byts ((b.take j).drop i))) := by
  have hl := byts_length b
  show (match bnd (some (PV.int .i64 (j : Int))) (byts b).length (byts b).length with
    | some h => match bnd (some (PV.int .i64 (i : Int))) h 0 with
      | some o => if sizesOk 1 o (byts b) then some (PV.lst (((byts b).take h).drop o)) else none
      | none => none
    | none => none) = _
  rw [bnd_nat (by omega)]
  simp only
  rw [bnd_nat h0]
  simp only
  rw [sizes_byts, if_pos rfl]
  unfold byts
  rw [List.map_drop, List.map_take]
theorem mapO_byteP : ∀ s : List UInt8, mapO byteP (byts s) = some s
  | [] => rfl
  | c :: s => by
    have hc : byteP (.int .u8 (c.toNat : Int)) = some c := by
      simp only [byteP, Int.toNat_natCast, UInt8.ofNat_toNat]
    have ih := mapO_byteP s
    unfold byts at ih ⊢
    simp only [List.map_cons, mapO, hc, ih]
theorem btostr (s : List UInt8) : unV .tostr (.lst (byts s)) = some (.str s) := by
  show (mapO byteP (byts s)).map PV.str = _
  rw [mapO_byteP]
  rfl
theorem btostr_nils : unV .tostr .nils = some (.str []) := rfl
theorem btostr_own (r : Nat) (s : List UInt8) : unV .tostr (.own r (byts s)) = some (.str s) := by
  show (mapO byteP (byts s)).map PV.str = _
  rw [mapO_byteP]
  rfl

def pc : List UInt8 → PV
  | [] => .int .u8 0
  | c :: _ => .int .u8 c.toNat
def pok : List UInt8 → PV
  | [] => .bool false
  | _ :: _ => .bool true
@[simp] theorem pc_cons {c : UInt8} {r : List UInt8} : pc (c :: r) = .int .u8 c.toNat := rfl
@[simp] theorem pok_cons {c : UInt8} {r : List UInt8} : pok (c :: r) = .bool true := rfl
@[simp] theorem pc_nil : pc [] = .int .u8 0 := rfl
@[simp] theorem pok_nil : pok [] = .bool false := rfl

theorem drop_get {b : List UInt8} {n : Nat} {c : UInt8} {r : List UInt8} (h : b.drop n = c :: r) : b[n]? = some c ∧ b.drop (n + 1) = r ∧ n + 1 ≤ b.length := by
  have h1 : b[n]? = some c := by
    have := List.getElem?_drop (xs := b) (i := n) (j := 0)
    rw [h] at this
    simpa using this.symm
  have h2 := drop_at h1
  rw [h] at h2
  exact ⟨h1, (List.cons.inj h2).2.symm, by have := (List.getElem?_eq_some_iff.1 h1).1; omega⟩
theorem drop_none {b : List UInt8} {n : Nat} (h : b.drop n = []) : b.length ≤ n := List.drop_eq_nil_iff.1 h

theorem more_ok {k n : Nat} {b : List UInt8} {st : St} (h : Sc k b n st) : callE efns given f_lex_scanner_more [.ptr k 0] st = some (.tuple [pc (b.drop n), pok (b.drop n)], st) := by
  unfold Sc scC at h
  rw [callE_fn efns given (c := e_lex_scanner_more) rfl rfl]
  cases hd : b.drop n with
  | nil =>
    have := drop_none hd
    have c1 : ((n : Int) ≥ (b.length : Int)) = True := eq_true (by omega)
    simp only [e_lex_scanner_more, go_sem, h, byts_length, c1, if_true, pc_nil, pok_nil]
  | cons c r =>
    obtain ⟨hc, _, hl⟩ := drop_get hd
    have c1 : ((n : Int) ≥ (b.length : Int)) = False := eq_false (by omega)
    simp only [e_lex_scanner_more, go_sem, h, byts_length, c1, if_false, bidx hc, pc_cons, pok_cons]

/-- A step ahead. -/
theorem wrap1 {n m : Nat} (h : n < m) (hm : m ≤ 70000) : IntKind.i64.wrap ((n : Int) + 1) = ((n + 1 : Nat) : Int) := by rw [IntWalk.i64_in _ (by omega)]; omega

theorem name_loop {k : Nat} {b : List UInt8} (hb : b.length ≤ 65536) {st : St} (hk : k < st.boxes.length) {y : PV} {K : EX → Fr → St → Option (PV × St)} : ∀ (l : List UInt8) (n : Nat), b.drop n = l → n ≤ b.length →
    runL (callE efns given) [true, true, true, true, false, false, false, false, false, false, false] b_lex_scanner_name_0 [.ptr k 0, y, pc l, pok l, .undef, .undef, .undef, .undef, .undef, .undef, .undef] (upd k b n st) K =
      K (.exit 0) [.ptr k 0, y, pc (l.dropWhile partB), pok (l.dropWhile partB), .undef, .undef, .undef, .undef, .undef, .undef, .undef] (upd k b (n + (l.takeWhile partB).length) st) := by
  intro l
  induction l with
  | nil =>
    intro n hd hn
    rw [runL_eq]
    generalize runL _ _ b_lex_scanner_name_0 = L
    simp only [b_lex_scanner_name_0, go_sem, pc_nil, pok_nil, List.takeWhile_nil, List.dropWhile_nil, List.length_nil, Nat.add_zero]
  | cons c r ih =>
    intro n hd hn
    obtain ⟨hc, hd', hl⟩ := drop_get hd
    cases hp : partB c with
    | false =>
      rw [runL_eq]
      generalize runL _ _ b_lex_scanner_name_0 = L
      simp only [b_lex_scanner_name_0, go_sem, pc_cons, pok_cons, part_t, hp, List.takeWhile_cons, List.dropWhile_cons, List.length_nil, Nat.add_zero, Bool.false_eq_true, if_false]
    | true =>
      have hr := ih (n + 1) hd' (by omega)
      have w1 := wrap1 (n := n) (m := b.length) (by omega) (by omega)
      have g0 : (upd k b n st).boxes[k]? = some [.lst (byts b), .int .i64 (n : Int)] := upd_sc hk
      have g1 : (⟨(upd k b n st).boxes.set k [.lst (byts b), .int .i64 ((n + 1 : Nat) : Int)], (upd k b n st).rows, (upd k b n st).bt, (upd k b n st).rt⟩ : St) = upd k b (n + 1) st := upd_upd
      have m1 := more_ok (upd_sc (b := b) (n := n + 1) hk)
      rw [hd'] at m1
      rw [runL_eq]
      generalize runL _ _ b_lex_scanner_name_0 = L at hr ⊢
      have e : n + ((c :: r).takeWhile partB).length = n + 1 + (r.takeWhile partB).length := by
        rw [List.takeWhile_cons, hp]
        simp
        omega
      rw [e, List.dropWhile_cons, if_pos hp]
      simp only [b_lex_scanner_name_0, go_sem, pc_cons, pok_cons, part_t, hp, g0, w1, g1, m1, hr, if_true]

def resS : Res (List UInt8) → PV
  | .ok t => .tuple [.str t, .int .i64 0]
  | .error e => .tuple [.str [], .int .i64 e]
theorem take_while {α : Type} (p : α → Bool) : ∀ l : List α, l.take (l.takeWhile p).length = l.takeWhile p
  | [] => rfl
  | c :: r => by
    rw [List.takeWhile_cons]
    split
    · rw [List.length_cons, List.take_succ_cons, take_while p r]
    · rfl
theorem cut_while (p : UInt8 → Bool) (b : List UInt8) (n : Nat) : (b.take (n + ((b.drop n).takeWhile p).length)).drop n = (b.drop n).takeWhile p := by
  rw [List.drop_take, Nat.add_sub_cancel_left, take_while]
theorem while_le (p : UInt8 → Bool) (b : List UInt8) {n : Nat} (h : n ≤ b.length) : n + ((b.drop n).takeWhile p).length ≤ b.length := by
  have := takeWhile_le p (b.drop n)
  rw [List.length_drop] at this
  omega

theorem name_ok {k n : Nat} {b : List UInt8} (hb : b.length ≤ 65536) {st : St} (h : Sc k b n st) (hn : n ≤ b.length) :
    callE efns given f_lex_scanner_name [.ptr k 0] st = some (resS (nameM (b.drop n)), upd k b (n + ((b.drop n).takeWhile partB).length) st) := by
  have hm := more_ok h
  have h' : st.boxes[k]? = some [.lst (byts b), .int .i64 (n : Int)] := h
  have hle := while_le partB b hn
  rw [callE_fn efns given (c := e_lex_scanner_name) rfl rfl]
  simp only [e_lex_scanner_name, go_sem, h', hm]
  generalize hK : blockK 0 _ = K
  have hl := name_loop hb h.lt (y := .int .i64 (n : Int)) (K := K) (b.drop n) n rfl hn
  rw [upd_same h] at hl
  refine Eq.trans hl ?_
  rw [← hK]
  have g0 : (upd k b (n + ((b.drop n).takeWhile partB).length) st).boxes[k]? = some [.lst (byts b), .int .i64 ((n + ((b.drop n).takeWhile partB).length : Nat) : Int)] := upd_sc h.lt
  have sb := blsub (b := b) (i := n) (j := n + ((b.drop n).takeWhile partB).length) (by omega) hle
  rw [cut_while] at sb
  have hw : ((b.drop n).takeWhile partB).length < 4611686018427387904 := by omega
  simp only [go_sem, g0, sb, btostr, good_t hw]
  unfold nameM
  by_cases h40 : (((b.drop n).takeWhile partB).length : Int) > 40
  · have : ((b.drop n).takeWhile partB).length > 40 := by omega
    rw [if_pos this]
    simp only [h40, if_true]
    rfl
  · have : ¬ ((b.drop n).takeWhile partB).length > 40 := by omega
    rw [if_neg this]
    cases hg : goodM ((b.drop n).takeWhile partB) with
    | true =>
      simp only [h40, if_true, if_false, Bool.not_true, Bool.false_eq_true]
      rfl
    | false =>
      simp only [h40, if_true, if_false, Bool.not_false, Bool.false_eq_true]
      rfl

def no10 (c : UInt8) : Bool := !(decide (c = 10))
theorem skipM_true : ∀ s : List UInt8, skipM true s = skipM false (s.dropWhile no10)
  | [] => rfl
  | c :: r => by
    rw [skipM_t, List.dropWhile_cons]
    by_cases h : c = 10
    · subst h
      have : no10 10 = false := rfl
      have hb : blankB 10 = true := rfl
      rw [if_pos rfl, this, if_neg (by decide), skipM_f, if_pos hb]
    · have : no10 c = true := by simp [no10, h]
      rw [if_neg h, this, if_pos rfl]
      exact skipM_true r
theorem drop_while {b : List UInt8} {n : Nat} {l : List UInt8} (p : UInt8 → Bool) (h : b.drop n = l) : b.drop (n + (l.takeWhile p).length) = l.dropWhile p := by
  rw [← List.drop_drop, h]
  clear h
  induction l with
  | nil => rfl
  | cons c r ih =>
    rw [List.takeWhile_cons, List.dropWhile_cons]
    split
    · rw [List.length_cons, List.drop_succ_cons]; exact ih
    · rfl

theorem comment_loop {k : Nat} {b : List UInt8} (hb : b.length ≤ 65536) {st : St} (hk : k < st.boxes.length) {K : EX → Fr → St → Option (PV × St)} : ∀ (l : List UInt8) (n : Nat), b.drop n = l → n ≤ b.length →
    runL (callE efns given) [true, false, false, true, true, false, false, false, false, false, false, false] b_lex_scanner_skip_0 [.ptr k 0, .undef, .undef, pc l, pok l, .undef, .undef, .undef, .undef, .undef, .undef, .undef] (upd k b n st) K =
      K (.exit 3) [.ptr k 0, .undef, .undef, pc (l.dropWhile no10), pok (l.dropWhile no10), .undef, .undef, .undef, .undef, .undef, .undef, .undef] (upd k b (n + (l.takeWhile no10).length) st) := by
  intro l
  induction l with
  | nil =>
    intro n hd hn
    rw [runL_eq]
    generalize runL _ _ b_lex_scanner_skip_0 = L
    simp only [b_lex_scanner_skip_0, go_sem, pc_nil, pok_nil, List.takeWhile_nil, List.dropWhile_nil, List.length_nil, Nat.add_zero]
  | cons c r ih =>
    intro n hd hn
    obtain ⟨hc, hd', hl⟩ := drop_get hd
    have e10 : ((c.toNat : Int) = 10) = (c = 10) := code_eq (n := 10) (by decide)
    by_cases hp : c = 10
    · subst hp
      rw [runL_eq]
      generalize runL _ _ b_lex_scanner_skip_0 = L
      have h10 : no10 10 = false := rfl
      have e10' : ((((10 : UInt8).toNat : Nat) : Int) = 10) = True := eq_true rfl
      simp only [b_lex_scanner_skip_0, go_sem, pc_cons, pok_cons, e10', h10, List.takeWhile_cons, List.dropWhile_cons, List.length_nil, Nat.add_zero, Bool.false_eq_true, if_false, if_true, ne_eq, not_true_eq_false]
    · have hr := ih (n + 1) hd' (by omega)
      have h10 : no10 c = true := by simp [no10, hp]
      have w1 := wrap1 (n := n) (m := b.length) (by omega) (by omega)
      have g0 : (upd k b n st).boxes[k]? = some [.lst (byts b), .int .i64 (n : Int)] := upd_sc hk
      have g1 : (⟨(upd k b n st).boxes.set k [.lst (byts b), .int .i64 ((n + 1 : Nat) : Int)], (upd k b n st).rows, (upd k b n st).bt, (upd k b n st).rt⟩ : St) = upd k b (n + 1) st := upd_upd
      have m1 := more_ok (upd_sc (b := b) (n := n + 1) hk)
      rw [hd'] at m1
      rw [runL_eq]
      generalize runL _ _ b_lex_scanner_skip_0 = L at hr ⊢
      have e : n + ((c :: r).takeWhile no10).length = n + 1 + (r.takeWhile no10).length := by
        rw [List.takeWhile_cons, h10]
        simp
        omega
      rw [e, List.dropWhile_cons, if_pos h10]
      simp only [b_lex_scanner_skip_0, go_sem, pc_cons, pok_cons, e10, hp, g0, w1, g1, m1, hr, if_true, ne_eq, not_false_eq_true]

theorem skip_loop {k : Nat} {b : List UInt8} (hb : b.length ≤ 65536) {st : St} (hk : k < st.boxes.length) {K : EX → Fr → St → Option (PV × St)} (hK : ∀ fr st, K (.exit 0) fr st = K (.ret (.tuple [])) [] st) : ∀ (m : Nat) (l : List UInt8) (n : Nat), l.length ≤ m → b.drop n = l → n ≤ b.length →
    runL (callE efns given) [true, true, true, false, false, false, false, false, false, false, false, false] b_lex_scanner_skip_1 [.ptr k 0, pc l, pok l, .undef, .undef, .undef, .undef, .undef, .undef, .undef, .undef, .undef] (upd k b n st) K =
      K (.ret (.tuple [])) [] (upd k b (b.length - (skipM false l).length) st) := by
  intro m
  induction m with
  | zero =>
    intro l n hm hd hn
    cases l with
    | cons => simp at hm
    | nil =>
      have := drop_none hd
      have e : n = b.length := by omega
      rw [runL_eq, e]
      generalize runL _ _ b_lex_scanner_skip_1 = L
      simp only [b_lex_scanner_skip_1, go_sem, pc_nil, pok_nil, skipM, List.length_nil, Nat.sub_zero, hK]
  | succ m ih =>
    intro l n hm hd hn
    cases l with
    | nil =>
      have := drop_none hd
      have e : n = b.length := by omega
      rw [runL_eq, e]
      generalize runL _ _ b_lex_scanner_skip_1 = L
      simp only [b_lex_scanner_skip_1, go_sem, pc_nil, pok_nil, skipM, List.length_nil, Nat.sub_zero, hK]
    | cons c r =>
      obtain ⟨hc, hd', hl⟩ := drop_get hd
      have e59 : ((c.toNat : Int) = 59) = (c = 59) := code_eq (n := 59) (by decide)
      have e32 : ((c.toNat : Int) = 32) = (c = 32) := code_eq (n := 32) (by decide)
      have e9 : ((c.toNat : Int) = 9) = (c = 9) := code_eq (n := 9) (by decide)
      have e10 : ((c.toNat : Int) = 10) = (c = 10) := code_eq (n := 10) (by decide)
      have e13 : ((c.toNat : Int) = 13) = (c = 13) := code_eq (n := 13) (by decide)
      have g0 : (upd k b n st).boxes[k]? = some [.lst (byts b), .int .i64 (n : Int)] := upd_sc hk
      by_cases h59 : c = 59
      · subst h59
        have h1 : no10 59 = true := by decide
        have hdw : (59 :: r).dropWhile no10 = r.dropWhile no10 := by rw [List.dropWhile_cons, if_pos h1]
        have hd2 := drop_while no10 hd
        have hle := while_le no10 b hn
        rw [hd] at hle
        have hlen : (r.dropWhile no10).length ≤ m := by
          have := (List.dropWhile_sublist no10 (l := r)).length_le
          simp only [List.length_cons] at hm
          omega
        rw [hdw] at hd2
        have hr := ih (r.dropWhile no10) _ hlen hd2 hle
        have m0 := more_ok (upd_sc (b := b) (n := n) hk)
        rw [hd] at m0
        have m1 := more_ok (upd_sc (b := b) (n := n + ((59 :: r).takeWhile no10).length) hk)
        rw [hd2] at m1
        have e59' : ((((59 : UInt8).toNat : Nat) : Int) = 59) = True := eq_true rfl
        have hsk : skipM false (59 :: r) = skipM false (r.dropWhile no10) := by
          rw [← skipM_true]
          rfl
        rw [runL_eq, hsk]
        generalize runL _ _ b_lex_scanner_skip_1 = L at hr ⊢
        simp only [pc_cons, pok_cons] at m0
        simp only [b_lex_scanner_skip_1, go_sem, pc_cons, pok_cons, e59', m0, if_true]
        generalize hK2 : blockK 3 _ = K2
        have hc2 := comment_loop hb hk (K := K2) _ n hd hn
        refine Eq.trans hc2 ?_
        rw [← hK2]
        simp only [go_sem, m1, hr]
      · by_cases hbl : blankB c = true
        · have hr := ih r (n + 1) (by simp only [List.length_cons] at hm; omega) hd' (by omega)
          have w1 := wrap1 (n := n) (m := b.length) (by omega) (by omega)
          have g1 : (⟨(upd k b n st).boxes.set k [.lst (byts b), .int .i64 ((n + 1 : Nat) : Int)], (upd k b n st).rows, (upd k b n st).bt, (upd k b n st).rt⟩ : St) = upd k b (n + 1) st := upd_upd
          have m1 := more_ok (upd_sc (b := b) (n := n + 1) hk)
          rw [hd'] at m1
          rw [runL_eq, skipM_f, if_pos hbl]
          generalize runL _ _ b_lex_scanner_skip_1 = L at hr ⊢
          have hb4 : c = 32 ∨ c = 9 ∨ c = 10 ∨ c = 13 := by simpa [blankB, or_assoc] using hbl
          rcases hb4 with rfl | rfl | rfl | rfl
          · simp only [b_lex_scanner_skip_1, go_sem, pc_cons, pok_cons, e59, e32, e9, e10, e13, h59, g0, w1, g1, m1, hr, if_true, if_false, decide_true, decide_false]
          · have q1 : ((9 : UInt8) = 32) = False := eq_false (by decide)
            simp only [b_lex_scanner_skip_1, go_sem, pc_cons, pok_cons, e59, e32, e9, e10, e13, h59, q1, g0, w1, g1, m1, hr, if_true, if_false, decide_true, decide_false]
          · have q1 : ((10 : UInt8) = 32) = False := eq_false (by decide)
            have q2 : ((10 : UInt8) = 9) = False := eq_false (by decide)
            simp only [b_lex_scanner_skip_1, go_sem, pc_cons, pok_cons, e59, e32, e9, e10, e13, h59, q1, q2, g0, w1, g1, m1, hr, if_true, if_false, decide_true, decide_false]
          · have q1 : ((13 : UInt8) = 32) = False := eq_false (by decide)
            have q2 : ((13 : UInt8) = 9) = False := eq_false (by decide)
            have q3 : ((13 : UInt8) = 10) = False := eq_false (by decide)
            simp only [b_lex_scanner_skip_1, go_sem, pc_cons, pok_cons, e59, e32, e9, e10, e13, h59, q1, q2, q3, g0, w1, g1, m1, hr, if_true, if_false, decide_true, decide_false]
        · have hn4 : ¬ c = 32 ∧ ¬ c = 9 ∧ ¬ c = 10 ∧ ¬ c = 13 := by simpa [blankB, or_assoc] using hbl
          obtain ⟨h32, h9, h10, h13⟩ := hn4
          have e : b.length - (c :: r).length = n := by
            have := congrArg List.length hd
            rw [List.length_drop] at this
            omega
          rw [runL_eq, skipM_f, if_neg hbl, if_neg h59, e]
          generalize runL _ _ b_lex_scanner_skip_1 = L
          simp only [b_lex_scanner_skip_1, go_sem, pc_cons, pok_cons, e59, e32, e9, e10, e13, h59, h32, h9, h10, h13, if_false, decide_false, Bool.false_eq_true]

theorem skip_ok {k n : Nat} {b : List UInt8} (hb : b.length ≤ 65536) {st : St} (h : Sc k b n st) (hn : n ≤ b.length) :
    callE efns given f_lex_scanner_skip [.ptr k 0] st = some (.tuple [], upd k b (b.length - (skipM false (b.drop n)).length) st) := by
  have hm := more_ok h
  have h' : st.boxes[k]? = some [.lst (byts b), .int .i64 (n : Int)] := h
  rw [callE_fn efns given (c := e_lex_scanner_skip) rfl rfl]
  simp only [e_lex_scanner_skip, go_sem, hm]
  generalize hK : blockK 0 _ = K
  have hl := skip_loop hb h.lt (K := K) (by intro fr st; rw [← hK]; simp only [go_sem]) _ (b.drop n) n (Nat.le_refl _) rfl hn
  rw [upd_same h] at hl
  refine Eq.trans hl ?_
  rw [← hK]
  simp only [go_sem]
end Go.Proofs.YtpohgiinajfepaaDoorPe.Lex
