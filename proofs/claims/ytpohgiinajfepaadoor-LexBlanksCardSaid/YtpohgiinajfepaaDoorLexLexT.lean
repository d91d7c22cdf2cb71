/- The scanner: variable, word, text, token. -/
import Derived.Test.YtpohgiinajfepaaDoorLexLexS
set_option linter.unusedVariables false
set_option linter.unusedSimpArgs false
set_option maxRecDepth 1000000
namespace Go.Proofs.YtpohgiinajfepaaDoorPe.Lex
open Go Go.Proofs.YtpohgiinajfepaaDoorPe Go.Proofs.YtpohgiinajfepaaDoorPe.LexCode
attribute [local go_sem] V_bslice

def zt : List PV := [.int .i64 0, .int .i64 0, .int .i64 0, .str []]
/-- What a method leaves behind: the scanner is at a place, all else that was there is as it was. -/
structure Ext (k : Nat) (b : List UInt8) (m : Nat) (st st' : St) : Prop where
  lt : k < st.boxes.length
  sc : Sc k b m st'
  bx : ∀ i, i < st.boxes.length → i ≠ k → st'.boxes[i]? = st.boxes[i]?
  bl : st.boxes.length ≤ st'.boxes.length
  rw : ∀ i, i < st.rows.length → st'.rows[i]? = st.rows[i]?
  rt : ∀ i, i < st.rt.length → st'.rt[i]? = st.rt[i]?
  rl : st.rows.length ≤ st'.rows.length
  rn : RtN st'
theorem Ext.refl {k n : Nat} {b : List UInt8} {st : St} (h : Sc k b n st) (hr : RtN st) : Ext k b n st st := ⟨h.lt, h, fun _ _ _ => rfl, Nat.le_refl _, fun _ _ => rfl, fun _ _ => rfl, Nat.le_refl _, hr⟩
theorem Ext.new {k n : Nat} {b : List UInt8} {st s : St} (e : Ext k b n st s) (x : List PV) (T : TypeId) : Ext k b n st ⟨s.boxes ++ [x], s.rows, s.bt ++ [T], s.rt⟩ :=
  ⟨e.lt, by unfold Sc; rw [List.getElem?_append_left e.sc.lt]; exact e.sc, fun i hi hne => by rw [List.getElem?_append_left (Nat.lt_of_lt_of_le hi e.bl)]; exact e.bx i hi hne, by have := e.bl; simp; omega, e.rw, e.rt, e.rl, e.rn⟩
theorem Ext.upd {k n : Nat} {b : List UInt8} {st s : St} (e : Ext k b n st s) (m : Nat) : Ext k b m st (upd k b m s) :=
  ⟨e.lt, upd_sc e.sc.lt, fun i hi hne => by unfold Lex.upd; rw [List.getElem?_set_ne (Ne.symm hne)]; exact e.bx i hi hne, by have := e.bl; simp [Lex.upd]; omega, e.rw, e.rt, e.rl, e.rn⟩
theorem Ext.zset {k n z : Nat} {b : List UInt8} {st s : St} (e : Ext k b n st s) (hz : st.boxes.length ≤ z) (w : List PV) : Ext k b n st ⟨s.boxes.set z w, s.rows, s.bt, s.rt⟩ := by
  have hk := e.lt
  exact ⟨e.lt, by unfold Sc; rw [List.getElem?_set_ne (by omega)]; exact e.sc, fun i hi hne => by rw [List.getElem?_set_ne (by omega)]; exact e.bx i hi hne, by have := e.bl; simp; omega, e.rw, e.rt, e.rl, e.rn⟩
theorem Ext.trans {k n m : Nat} {b : List UInt8} {st s t : St} (e : Ext k b n st s) (f : Ext k b m s t) : Ext k b m st t :=
  ⟨e.lt, f.sc, fun i hi hne => (f.bx i (Nat.lt_of_lt_of_le hi e.bl) hne).trans (e.bx i hi hne), Nat.le_trans e.bl f.bl,
    fun i hi => by
      have h1 := e.rw i hi
      have : i < s.rows.length := by
        rcases Nat.lt_or_ge i s.rows.length with h | h
        · exact h
        · rw [List.getElem?_eq_none h, List.getElem?_eq_getElem hi] at h1; cases h1
      exact (f.rw i this).trans h1,
    fun i hi => by
      have h1 := e.rt i hi
      have : i < s.rt.length := by
        rcases Nat.lt_or_ge i s.rt.length with h | h
        · exact h
        · rw [List.getElem?_eq_none h, List.getElem?_eq_getElem hi] at h1; cases h1
      exact (f.rt i this).trans h1, Nat.le_trans e.rl f.rl, f.rn⟩

@[go_sem] theorem fill0 {zs : List PV} : fillP zs (zip3 [] []) = some zs := by cases zs <;> rfl
@[go_sem] theorem fill03 {a b c d : PV} {k : IntKind} {n : Int} {t : List UInt8} : fillP [a, b, c, d] (zip3 [(0, 1), (3, 1)] [.int k n, .str t]) = some [.int k n, b, c, .str t] := rfl
@[go_sem] theorem fill02 {a b c d : PV} {k k' : IntKind} {n n' : Int} : fillP [a, b, c, d] (zip3 [(0, 1), (2, 1)] [.int k n, .int k' n']) = some [.int k n, b, .int k' n', d] := rfl
@[go_sem] theorem fill00 {a b c d : PV} {k : IntKind} {n : Int} : fillP [a, b, c, d] (zip3 [(0, 1)] [.int k n]) = some [.int k n, b, c, d] := rfl
@[go_sem] theorem fill11 {a b c d : PV} {k : IntKind} {n : Int} : fillP [a, b, c, d] (zip3 [(1, 1)] [.int k n]) = some [a, .int k n, c, d] := rfl
def tkC (t : Tk) : List PV := [.int .i64 t.k, .int .i64 0, .int .i64 t.i, .str t.s]
def resT : Res (Tk × Nat) → PV
  | .ok t => .tuple [.agg (tkC t.1), .int .i64 0]
  | .error e => .tuple [.agg zt, .int .i64 e]

theorem codes {c : UInt8} {n : Nat} (hn : n < 256) : ((c.toNat : Int) = (n : Int)) = (c = UInt8.ofNat n) := code_eq hn

theorem nameM_err {s : List UInt8} {e : Int} (h : nameM s = .error e) : (e = 4 ∨ e = 2) := by
  unfold nameM at h
  split at h
  · cases h; exact .inl rfl
  · split at h
    · cases h
    · cases h; exact .inr rfl

theorem variable_ok {k n : Nat} {b : List UInt8} (hb : b.length ≤ 65536) {st : St} (h : Sc k b n st) (hr : RtN st) (hn : n ≤ b.length) :
    ∃ st' m, callE efns given f_lex_scanner_variable [.ptr k 0] st = some (resT (varM (b.drop n)), st') ∧ Ext k b m st st' ∧ ∀ t j, varM (b.drop n) = .ok (t, j) → m + 1 = n + j := by
  have E1 := (Ext.refl h hr).new zt T_lex_scanner_variable_0
  generalize hs1 : (⟨st.boxes ++ [zt], st.rows, st.bt ++ [T_lex_scanner_variable_0], st.rt⟩ : St) = s1 at E1
  have hz1 : s1.boxes[st.boxes.length]? = some zt := by rw [← hs1]; simp
  have hkz : k ≠ st.boxes.length := Nat.ne_of_lt h.lt
  have m1 := more_ok E1.sc
  have g1 : s1.boxes[k]? = some [.lst (byts b), .int .i64 (n : Int)] := E1.sc
  have upz : ∀ m, (upd k b m s1).boxes[st.boxes.length]? = some zt := fun m => by unfold upd; rw [List.getElem?_set_ne hkz]; exact hz1
  have zlt : ∀ m, st.boxes.length < (upd k b m s1).boxes.length := fun m => (List.getElem?_eq_some_iff.1 (upz m)).1
  have gz : ∀ m w, ((upd k b m s1).boxes.set st.boxes.length w)[st.boxes.length]? = some w := fun m w => List.getElem?_set_self (zlt m)
  have fin : ∀ m w, Ext k b m st ⟨(upd k b m s1).boxes.set st.boxes.length w, (upd k b m s1).rows, (upd k b m s1).bt, (upd k b m s1).rt⟩ := fun m w => (E1.upd m).zset (Nat.le_refl _) w
  unfold zt at upz
  by_cases hs : isStar (b.drop n) = true
  · obtain ⟨r, hd⟩ := isStar_iff.1 hs
    obtain ⟨hc, hd', hl⟩ := drop_get hd
    have w1 := wrap1 (n := n) (m := b.length) (by omega) (by omega)
    have u1 : (⟨s1.boxes.set k [.lst (byts b), .int .i64 ((n + 1 : Nat) : Int)], s1.rows, s1.bt, s1.rt⟩ : St) = upd k b (n + 1) s1 := rfl
    have nm := name_ok hb (upd_sc (b := b) (n := n + 1) E1.sc.lt) hl
    rw [upd_upd, hd'] at nm
    have e42 : ((((42 : UInt8).toNat : Nat) : Int) = 42) = True := eq_true rfl
    unfold varM
    rw [if_pos hs, hd, List.drop_succ_cons, List.drop_zero]
    rw [hd] at m1
    simp only [pc_cons, pok_cons] at m1
    cases hnm : nameM r with
    | error e =>
      rw [hnm] at nm
      have he : (e = 0) = False := by rcases nameM_err hnm with rfl | rfl <;> exact eq_false (by decide)
      refine ⟨_, n + 1 + (r.takeWhile partB).length, ?_, fin _ zt, by intro t j hh; cases hh⟩
      rw [callE_fn efns given (c := e_lex_scanner_variable) rfl rfl]
      unfold zt at hs1
      unfold resS at nm
      simp only [e_lex_scanner_variable, go_sem, hs1, m1, e42, g1, w1, u1, nm, he, upz, gz, if_true, if_false, ne_eq, not_false_eq_true]
      rfl
    | ok t =>
      rw [hnm] at nm
      obtain ⟨ht, _, _, _⟩ := nameM_le hnm
      have hle := while_le partB b hl
      rw [hd', ← ht] at hle
      rw [← ht] at nm
      have hd2 : b.drop (n + 1 + t.length) = r.drop t.length := by rw [← List.drop_drop, hd']
      have m2 := more_ok (upd_sc (b := b) (n := n + 1 + t.length) E1.sc.lt)
      rw [hd2] at m2
      unfold zt at hs1
      unfold resS at nm
      by_cases h42 : isStar (r.drop t.length) = true
      · obtain ⟨r2, h2⟩ := isStar_iff.1 h42
        rw [h2] at m2
        simp only [pc_cons, pok_cons] at m2
        have hl2 := (drop_get (hd2.trans h2)).2.2
        have w2 := wrap1 (n := n + 1 + t.length) (m := b.length) (by omega) (by omega)
        have g2 : (upd k b (n + 1 + t.length) s1).boxes[k]? = some [.lst (byts b), .int .i64 ((n + 1 + t.length : Nat) : Int)] := upd_sc E1.sc.lt
        have u2 : (⟨(upd k b (n + 1 + t.length) s1).boxes.set k [.lst (byts b), .int .i64 ((n + 1 + t.length + 1 : Nat) : Int)], (upd k b (n + 1 + t.length) s1).rows, (upd k b (n + 1 + t.length) s1).bt, (upd k b (n + 1 + t.length) s1).rt⟩ : St) = upd k b (n + 1 + t.length + 1) s1 := upd_upd
        refine ⟨_, n + 1 + t.length + 1, ?_, fin _ (tkC ⟨7, 0, t⟩), ?_⟩
        · rw [callE_fn efns given (c := e_lex_scanner_variable) rfl rfl]
          simp only [e_lex_scanner_variable, go_sem, hs1, m1, e42, g1, w1, u1, nm, upz, gz, m2, g2, w2, u2, h42, if_true, if_false, ne_eq, not_false_eq_true]
          rfl
        · intro t' j hh
          simp only [h42, if_true] at hh
          cases hh
          omega
      · have hv : (if isStar (r.drop t.length) = true then (Except.ok (⟨7, 0, t⟩, t.length + 3) : Res (Tk × Nat)) else Except.error 2) = Except.error 2 := if_neg h42
        simp only [hv]
        refine ⟨_, n + 1 + t.length, ?_, fin _ zt, by intro t' j hh; cases hh⟩
        · rw [callE_fn efns given (c := e_lex_scanner_variable) rfl rfl]
          cases h2 : r.drop t.length with
          | nil =>
            rw [h2] at m2
            simp only [pc_nil, pok_nil] at m2
            simp only [e_lex_scanner_variable, go_sem, hs1, m1, e42, g1, w1, u1, nm, upz, gz, m2, if_true, if_false, ne_eq, not_false_eq_true, Bool.false_eq_true]
            rfl
          | cons c r2 =>
            rw [h2] at m2 h42
            simp only [pc_cons, pok_cons] at m2
            have hc42 : (((c.toNat : Nat) : Int) = 42) = False := by
              rw [show ((c.toNat : Int) = 42) = (c = 42) from code_eq (n := 42) (by decide)]
              exact eq_false (by simpa [isStar] using h42)
            simp only [e_lex_scanner_variable, go_sem, hs1, m1, e42, g1, w1, u1, nm, upz, gz, m2, hc42, if_true, if_false, ne_eq, not_false_eq_true, Bool.false_eq_true]
            rfl
  · have nm := name_ok hb E1.sc hn
    unfold varM
    rw [if_neg hs]
    unfold zt at hs1
    cases hnm : nameM (b.drop n) with
    | error e =>
      rw [hnm] at nm
      unfold resS at nm
      have he : (e = 0) = False := by rcases nameM_err hnm with rfl | rfl <;> exact eq_false (by decide)
      refine ⟨_, n + ((b.drop n).takeWhile partB).length, ?_, fin _ zt, by intro t j hh; cases hh⟩
      rw [callE_fn efns given (c := e_lex_scanner_variable) rfl rfl]
      cases hd : b.drop n with
      | nil =>
        rw [hd] at m1 nm
        simp only [pc_nil, pok_nil] at m1
        simp only [e_lex_scanner_variable, go_sem, hs1, m1, g1, nm, he, upz, gz, if_true, if_false, ne_eq, not_false_eq_true, Bool.false_eq_true]
        rfl
      | cons c r =>
        rw [hd] at m1 hs nm
        simp only [pc_cons, pok_cons] at m1
        have hc42 : (((c.toNat : Nat) : Int) = 42) = False := by
          rw [show ((c.toNat : Int) = 42) = (c = 42) from code_eq (n := 42) (by decide)]
          exact eq_false (by simpa [isStar] using hs)
        simp only [e_lex_scanner_variable, go_sem, hs1, m1, g1, nm, he, upz, gz, hc42, if_true, if_false, ne_eq, not_false_eq_true, Bool.false_eq_true]
        rfl
    | ok t =>
      rw [hnm] at nm
      unfold resS at nm
      obtain ⟨ht, _, _, _⟩ := nameM_le hnm
      rw [← ht] at nm
      refine ⟨_, n + t.length, ?_, fin _ (tkC ⟨6, 0, t⟩), ?_⟩
      · rw [callE_fn efns given (c := e_lex_scanner_variable) rfl rfl]
        cases hd : b.drop n with
        | nil =>
          rw [hd] at m1
          simp only [pc_nil, pok_nil] at m1
          simp only [e_lex_scanner_variable, go_sem, hs1, m1, g1, nm, upz, gz, if_true, if_false, ne_eq, not_false_eq_true, Bool.false_eq_true]
          rfl
        | cons c r =>
          rw [hd] at m1 hs
          simp only [pc_cons, pok_cons] at m1
          have hc42 : (((c.toNat : Nat) : Int) = 42) = False := by
            rw [show ((c.toNat : Int) = 42) = (c = 42) from code_eq (n := 42) (by decide)]
            exact eq_false (by simpa [isStar] using hs)
          simp only [e_lex_scanner_variable, go_sem, hs1, m1, g1, nm, upz, gz, hc42, if_true, if_false, ne_eq, not_false_eq_true, Bool.false_eq_true]
          rfl
      · intro t' j hh
        cases hh
        omega

theorem parse_t {s : List UInt8} (hs : s.length < 4611686018427387904) : tupV (callE efns given) (.call 0 f_num_Parse) [.str s] = some (.tuple [.int .i64 (parseM s).1, .int .i64 (parseM s).2]) := callV_of rfl (parse_ok given hs ⟨[], [], [], []⟩) rfl

theorem word_loop {k : Nat} {b : List UInt8} (hb : b.length ≤ 65536) {st : St} (hk : k < st.boxes.length) {x y : PV} {K : EX → Fr → St → Option (PV × St)} : ∀ (l : List UInt8) (n : Nat), b.drop n = l → n ≤ b.length →
    runL (callE efns given) [true, true, true, true, true, false, false, false, false, false, false, false, false, false, false] b_lex_scanner_word_0 [.ptr k 0, x, y, pc l, pok l, .undef, .undef, .undef, .undef, .undef, .undef, .undef, .undef, .undef, .undef] (upd k b n st) K =
      K (.exit 0) [.ptr k 0, x, y, pc (l.dropWhile signB), pok (l.dropWhile signB), .undef, .undef, .undef, .undef, .undef, .undef, .undef, .undef, .undef, .undef] (upd k b (n + (l.takeWhile signB).length) st) := by
  intro l
  induction l with
  | nil =>
    intro n hd hn
    rw [runL_eq]
    generalize runL _ _ b_lex_scanner_word_0 = L
    simp only [b_lex_scanner_word_0, go_sem, pc_nil, pok_nil, List.takeWhile_nil, List.dropWhile_nil, List.length_nil, Nat.add_zero]
  | cons c r ih =>
    intro n hd hn
    obtain ⟨hc, hd', hl⟩ := drop_get hd
    cases hp : signB c with
    | false =>
      rw [runL_eq]
      generalize runL _ _ b_lex_scanner_word_0 = L
      simp only [b_lex_scanner_word_0, go_sem, pc_cons, pok_cons, sign_t, hp, List.takeWhile_cons, List.dropWhile_cons, List.length_nil, Nat.add_zero, Bool.false_eq_true, if_false]
    | true =>
      have hr := ih (n + 1) hd' (by omega)
      have w1 := wrap1 (n := n) (m := b.length) (by omega) (by omega)
      have g0 : (upd k b n st).boxes[k]? = some [.lst (byts b), .int .i64 (n : Int)] := upd_sc hk
      have g1 : (⟨(upd k b n st).boxes.set k [.lst (byts b), .int .i64 ((n + 1 : Nat) : Int)], (upd k b n st).rows, (upd k b n st).bt, (upd k b n st).rt⟩ : St) = upd k b (n + 1) st := upd_upd
      have m1 := more_ok (upd_sc (b := b) (n := n + 1) hk)
      rw [hd'] at m1
      rw [runL_eq]
      generalize runL _ _ b_lex_scanner_word_0 = L at hr ⊢
      have e : n + ((c :: r).takeWhile signB).length = n + 1 + (r.takeWhile signB).length := by
        rw [List.takeWhile_cons, hp]
        simp
        omega
      rw [e, List.dropWhile_cons, if_pos hp]
      simp only [b_lex_scanner_word_0, go_sem, pc_cons, pok_cons, sign_t, hp, g0, w1, g1, m1, hr, if_true]

theorem parseM_err (s : List UInt8) : (parseM s).2 = 0 ∨ (parseM s).2 = 2 ∨ (parseM s).2 = 11 := by
  rw [parseM_eq]
  split
  · generalize (if (parts s).1 = true then -(acc 0 (parts s).2 : Int) else (acc 0 (parts s).2 : Int)) = x
    unfold fit
    split
    · exact .inl rfl
    · exact .inr (.inr rfl)
  · exact .inr (.inl rfl)

theorem word_ok {k n : Nat} {b : List UInt8} (hb : b.length ≤ 65536) {st : St} (h : Sc k b n st) (hr : RtN st) (hn : n ≤ b.length) :
    ∃ st' m, callE efns given f_lex_scanner_word [.ptr k 0] st = some (resT (wordM (b.drop n)), st') ∧ Ext k b m st st' ∧ ∀ t j, wordM (b.drop n) = .ok (t, j) → m = n + j := by
  have E1 := (Ext.refl h hr).new zt T_lex_scanner_word_0
  generalize hs1 : (⟨st.boxes ++ [zt], st.rows, st.bt ++ [T_lex_scanner_word_0], st.rt⟩ : St) = s1 at E1
  have hz1 : s1.boxes[st.boxes.length]? = some zt := by rw [← hs1]; simp
  have hkz : k ≠ st.boxes.length := Nat.ne_of_lt h.lt
  have m1 := more_ok E1.sc
  have g1 : s1.boxes[k]? = some [.lst (byts b), .int .i64 (n : Int)] := E1.sc
  have upz : ∀ m, (upd k b m s1).boxes[st.boxes.length]? = some zt := fun m => by unfold upd; rw [List.getElem?_set_ne hkz]; exact hz1
  have zlt : ∀ m, st.boxes.length < (upd k b m s1).boxes.length := fun m => (List.getElem?_eq_some_iff.1 (upz m)).1
  have gz : ∀ m w, ((upd k b m s1).boxes.set st.boxes.length w)[st.boxes.length]? = some w := fun m w => List.getElem?_set_self (zlt m)
  have fin : ∀ m w, Ext k b m st ⟨(upd k b m s1).boxes.set st.boxes.length w, (upd k b m s1).rows, (upd k b m s1).bt, (upd k b m s1).rt⟩ := fun m w => (E1.upd m).zset (Nat.le_refl _) w
  unfold zt at upz
  have hle := while_le signB b hn
  have sb := blsub (b := b) (i := n) (j := n + ((b.drop n).takeWhile signB).length) (by omega) hle
  rw [cut_while] at sb
  have hw : ((b.drop n).takeWhile signB).length < 4611686018427387904 := by omega
  have pt := parse_t hw
  have ge : ∀ m, (upd k b m s1).boxes[k]? = some [.lst (byts b), .int .i64 (m : Int)] := fun m => upd_sc E1.sc.lt
  have main : ∃ st', callE efns given f_lex_scanner_word [.ptr k 0] st = some (resT (wordM (b.drop n)), st') ∧ Ext k b (n + ((b.drop n).takeWhile signB).length) st st' := by
    rw [callE_fn efns given (c := e_lex_scanner_word) rfl rfl]
    unfold zt at hs1
    simp only [e_lex_scanner_word, go_sem, hs1, m1, g1]
    generalize hK : blockK 0 _ = K
    have hl := word_loop hb E1.sc.lt (x := .ptr st.boxes.length 0) (y := .int .i64 (n : Int)) (K := K) (b.drop n) n rfl hn
    rw [upd_same E1.sc] at hl
    unfold wordM
    by_cases h0 : (b.drop n).takeWhile signB = []
    · rw [if_pos h0]
      refine ⟨_, Eq.trans hl ?_, fin _ zt⟩
      rw [← hK]
      have h0' : ((b.drop n).takeWhile signB = []) = True := eq_true h0
      simp only [go_sem, ge, upz, gz, sb, btostr, pt, h0', if_true]
      rfl
    · rw [if_neg h0]
      by_cases hp0 : (parseM ((b.drop n).takeWhile signB)).2 = 0
      · rw [if_pos hp0]
        refine ⟨_, Eq.trans hl ?_, fin _ (tkC ⟨1, (parseM ((b.drop n).takeWhile signB)).1, []⟩)⟩
        rw [← hK]
        simp only [go_sem, ge, upz, gz, sb, btostr, pt, h0, hp0, if_true, if_false]
        rfl
      · rw [if_neg hp0]
        by_cases hp2 : (parseM ((b.drop n).takeWhile signB)).2 = 2
        · rw [if_neg (by simp [hp2])]
          by_cases h40 : ((b.drop n).takeWhile signB).length > 40
          · have h40' : (((b.drop n).takeWhile signB).length : Int) > 40 := by omega
            rw [if_pos h40]
            refine ⟨_, Eq.trans hl ?_, fin _ zt⟩
            rw [← hK]
            have n20 : ((2 : Int) = 0) = False := by simp
            simp only [go_sem, ge, upz, gz, sb, btostr, pt, h0, hp2, n20, h40', if_true, if_false, ne_eq, not_true_eq_false]
            rfl
          · have h40' : ¬ (((b.drop n).takeWhile signB).length : Int) > 40 := by omega
            rw [if_neg h40]
            refine ⟨_, Eq.trans hl ?_, fin _ (tkC ⟨2, 0, (b.drop n).takeWhile signB⟩)⟩
            rw [← hK]
            have n20 : ((2 : Int) = 0) = False := by simp
            simp only [go_sem, ge, upz, gz, sb, btostr, pt, h0, hp2, n20, h40', if_true, if_false, ne_eq, not_true_eq_false]
            rfl
        · rw [if_pos hp2]
          refine ⟨_, Eq.trans hl ?_, fin _ zt⟩
          rw [← hK]
          simp only [go_sem, ge, upz, gz, sb, btostr, pt, h0, hp0, hp2, if_true, if_false, ne_eq, not_false_eq_true]
          rfl
  obtain ⟨st', h1, h2⟩ := main
  refine ⟨st', _, h1, h2, ?_⟩
  intro t j hh
  unfold wordM at hh
  split at hh
  · cases hh
  split at hh
  · cases hh; rfl
  split at hh
  · cases hh
  split at hh
  · cases hh
  · cases hh; rfl
end Go.Proofs.YtpohgiinajfepaaDoorPe.Lex
