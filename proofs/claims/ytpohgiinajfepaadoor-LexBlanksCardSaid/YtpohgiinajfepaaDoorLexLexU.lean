/- The scanner: text, token. -/
import Derived.Test.YtpohgiinajfepaaDoorLexLexT
set_option linter.unusedVariables false
set_option linter.unusedSimpArgs false
set_option maxRecDepth 1000000
namespace Go.Proofs.YtpohgiinajfepaaDoorPe.Lex
open Go Go.Proofs.YtpohgiinajfepaaDoorPe Go.Proofs.YtpohgiinajfepaaDoorPe.LexCode
attribute [local go_sem] V_bslice

def strT : Res (List UInt8 × Nat) → Res (Tk × Nat)
  | .error e => .error e
  | .ok t => .ok (⟨3, 0, t.1⟩, t.2)
/-- The bytes that were read: none yet, or an own row. -/
def OutI (N : Nat) (acc : List UInt8) (out : PV) (s : St) : Prop :=
  acc = [] ∧ out = .nils ∨ ∃ r, N ≤ r ∧ acc ≠ [] ∧ out = .own r (byts acc) ∧ s.rows[r]? = some (acc.length, 1) ∧ s.rt[r]? = some T_byte
theorem OutI.len {N : Nat} {acc : List UInt8} {out : PV} {s : St} (h : OutI N acc out s) : unV .len out = some (.int .i64 (acc.length : Int)) := by
  rcases h with ⟨rfl, rfl⟩ | ⟨r, _, _, rfl, _⟩
  · rfl
  · show some (PV.int .i64 ((byts acc).length : Int)) = _
    rw [byts_length]
theorem OutI.str {N : Nat} {acc : List UInt8} {out : PV} {s : St} (h : OutI N acc out s) : unV .tostr out = some (.str acc) := by
  rcases h with ⟨rfl, rfl⟩ | ⟨r, _, _, rfl, _⟩
  · rfl
  · exact btostr_own r acc
theorem OutI.upd {N k m : Nat} {b acc : List UInt8} {out : PV} {s : St} (h : OutI N acc out s) : OutI N acc out (upd k b m s) := h

theorem out_append {N k n z : Nat} {b acc : List UInt8} {out : PV} {st s : St} (c : UInt8) (h : OutI N acc out s) (hN : N = st.rows.length) (hst : RtN st) (e : Ext k b n st s) (hl : acc.length ≤ 65536) (hz : s.boxes[z]? = some zt) :
    ∃ out' s', evAppend 1 1 T_byte out.nm [.int .u8 c.toNat] s = some (out', s') ∧ OutI N (acc ++ [c]) out' s' ∧ Ext k b n st s' ∧ s'.boxes[z]? = some zt := by
  have hrn := e.rn
  have hs : szAll 1 [PV.int .u8 (c.toNat : Int)] = true := by simp [szAll, PV.cells]
  rcases h with ⟨rfl, rfl⟩ | ⟨r, hNr, hne, rfl, h1, h2⟩
  · refine ⟨.own s.rows.length ([] ++ [.int .u8 c.toNat]), ⟨s.boxes, s.rows ++ [(0 + 1, 1)], s.bt, s.rt ++ [T_byte]⟩, ?_, .inr ⟨s.rows.length, by rw [hN]; exact e.rl, by simp, rfl, by simp, ?_⟩, ?_, hz⟩
    · rw [n_nils, A_full, hs, if_pos rfl, if_pos ⟨by simp, rfl⟩]
      rfl
    · unfold RtN at hrn; rw [← hrn]; simp
    · have hrl := e.rl
      unfold RtN at hrn hst
      exact ⟨e.lt, e.sc, e.bx, e.bl, fun i hi => by rw [List.getElem?_append_left (by omega)]; exact e.rw i hi, fun i hi => by rw [List.getElem?_append_left (by omega)]; exact e.rt i hi, by simp; omega, by unfold RtN; simp [hrn]⟩
  · have hlt : r < s.rows.length := (List.getElem?_eq_some_iff.1 h1).1
    refine ⟨.own r (byts acc ++ [.int .u8 c.toNat]), ⟨s.boxes, s.rows.set r ((byts acc).length + 1, 1), s.bt, s.rt⟩, ?_, .inr ⟨r, hNr, by simp, ?_, ?_, h2⟩, ?_, hz⟩
    · rw [n_own, A_own, hs, if_pos rfl, if_pos ⟨by rw [byts_length]; simp; omega, by rw [byts_length]; exact h1, h2⟩]
      rfl
    · rw [byts_append]; rfl
    · rw [List.getElem?_set_self hlt, byts_length]
      simp
    · unfold RtN at hrn
      exact ⟨e.lt, e.sc, e.bx, e.bl, fun i hi => by rw [List.getElem?_set_ne (by omega)]; exact e.rw i hi, e.rt, by simp; exact e.rl, by unfold RtN; simp [hrn]⟩

theorem strM_nil {acc : List UInt8} {i : Nat} : strM [] acc i = .error 3 := rfl
theorem strM_cons {c : UInt8} {r acc : List UInt8} {i : Nat} (h1 : c ≠ 34) (h2 : c ≠ 92) : strM (c :: r) acc i = strM r (acc ++ [c]) (i + 1) := by
  cases r with
  | nil => conv => lhs; rw [strM, if_neg h1, if_neg h2]
  | cons d r => conv => lhs; rw [strM, if_neg h1, if_neg h2]
theorem strM_esc {c : UInt8} {r acc : List UInt8} {i : Nat} : strM (92 :: c :: r) acc i = strM r (acc ++ [c]) (i + 2) := by
  rw [strM, if_neg (by decide), if_pos rfl]
theorem strM_esc0 {acc : List UInt8} {i : Nat} : strM [92] acc i = .error 3 := by
  rw [strM, if_neg (by decide), if_pos rfl]
theorem strM_end {r acc : List UInt8} {i : Nat} : strM (34 :: r) acc i = if acc.length > 1000 then .error 4 else .ok (acc, i + 1) := by
  cases r with
  | nil => rw [strM, if_pos rfl]
  | cons d r => rw [strM, if_pos rfl]

theorem text_loop {k z : Nat} {b : List UInt8} (hb : b.length ≤ 65536) {st : St} (hst : RtN st) (hz0 : st.boxes.length ≤ z) {K : EX → Fr → St → Option (PV × St)}
    (hK : ∀ out c ok s, s.boxes[z]? = some zt → K (.exit 0) [.ptr k 0, .ptr z 0, out, c, ok, .undef, .undef, .undef, .undef, .undef, .undef] s = K (.ret (.tuple [.agg zt, .int .i64 3])) [] ⟨s.boxes.set z zt, s.rows, s.bt, s.rt⟩) :
    ∀ (m : Nat) (l : List UInt8) (n : Nat) (acc : List UInt8) (i : Nat) (out : PV) (s : St), l.length ≤ m → b.drop n = l → n ≤ b.length → acc.length ≤ n → Ext k b n st s → s.boxes[z]? = some zt → OutI st.rows.length acc out s →
    ∃ s' j, runL (callE efns given) [true, true, true, true, true, false, false, false, false, false, false] b_lex_scanner_text_0 [.ptr k 0, .ptr z 0, out, pc l, pok l, .undef, .undef, .undef, .undef, .undef, .undef] s K =
      K (.ret (resT (strT (strM l acc i)))) [] s' ∧ Ext k b j st s' ∧ ∀ t q, strM l acc i = .ok (t, q) → j + i = n + q := by
  intro m
  induction m with
  | zero =>
    intro l n acc i out s hm hd hn ha E hz hO
    cases l with
    | cons => simp at hm
    | nil =>
      refine ⟨⟨s.boxes.set z zt, s.rows, s.bt, s.rt⟩, n, ?_, E.zset hz0 zt, by intro t q h; cases h⟩
      rw [runL_eq]
      generalize runL _ _ b_lex_scanner_text_0 = L
      simp only [b_lex_scanner_text_0, go_sem, pc_nil, pok_nil, hK _ _ _ _ hz]
      rfl
  | succ m ih =>
    intro l n acc i out s hm hd hn ha E hz hO
    cases l with
    | nil =>
      refine ⟨⟨s.boxes.set z zt, s.rows, s.bt, s.rt⟩, n, ?_, E.zset hz0 zt, by intro t q h; cases h⟩
      rw [runL_eq]
      generalize runL _ _ b_lex_scanner_text_0 = L
      simp only [b_lex_scanner_text_0, go_sem, pc_nil, pok_nil, hK _ _ _ _ hz]
      rfl
    | cons c r =>
      obtain ⟨hc, hd', hl⟩ := drop_get hd
      have hkz : k ≠ z := by have := E.lt; omega
      have w1 := wrap1 (n := n) (m := b.length) (by omega) (by omega)
      have g0 : s.boxes[k]? = some [.lst (byts b), .int .i64 (n : Int)] := E.sc
      have u1 : (⟨s.boxes.set k [.lst (byts b), .int .i64 ((n + 1 : Nat) : Int)], s.rows, s.bt, s.rt⟩ : St) = upd k b (n + 1) s := rfl
      have e34 : ((c.toNat : Int) = 34) = (c = 34) := code_eq (n := 34) (by decide)
      have e92 : ((c.toNat : Int) = 92) = (c = 92) := code_eq (n := 92) (by decide)
      have E1 := E.upd (n + 1)
      have uz : ∀ q, (upd k b q s).boxes[z]? = some zt := fun q => by unfold upd; rw [List.getElem?_set_ne hkz]; exact hz
      have zlt : ∀ q, z < (upd k b q s).boxes.length := fun q => (List.getElem?_eq_some_iff.1 (uz q)).1
      have gz : ∀ q w, ((upd k b q s).boxes.set z w)[z]? = some w := fun q w => List.getElem?_set_self (zlt q)
      have hlen := hO.len
      have hstr := hO.str
      by_cases h34 : c = 34
      · subst h34
        have q34 : ((((34 : UInt8).toNat : Nat) : Int) = 34) = True := eq_true rfl
        unfold zt at uz
        by_cases h1000 : acc.length > 1000
        · have hi : ((acc.length : Nat) : Int) > 1000 := by omega
          refine ⟨_, n + 1, ?_, E1.zset hz0 zt, ?_⟩
          · rw [runL_eq, strM_end, if_pos h1000]
            generalize runL _ _ b_lex_scanner_text_0 = L
            simp only [b_lex_scanner_text_0, go_sem, pc_cons, pok_cons, q34, g0, w1, u1, uz, gz, hlen, hi, if_true]
            rfl
          · intro t q h
            rw [strM_end, if_pos h1000] at h
            cases h
        · have hi : ¬ ((acc.length : Nat) : Int) > 1000 := by omega
          refine ⟨_, n + 1, ?_, E1.zset hz0 (tkC ⟨3, 0, acc⟩), ?_⟩
          · rw [runL_eq, strM_end, if_neg h1000]
            generalize runL _ _ b_lex_scanner_text_0 = L
            simp only [b_lex_scanner_text_0, go_sem, pc_cons, pok_cons, q34, g0, w1, u1, uz, gz, hlen, hstr, hi, if_true, if_false]
            rfl
          · intro t q h
            rw [strM_end, if_neg h1000] at h
            cases h
            omega
      · by_cases h92 : c = 92
        · subst h92
          have q34 : ((((92 : UInt8).toNat : Nat) : Int) = 34) = False := eq_false (by decide)
          have q92 : ((((92 : UInt8).toNat : Nat) : Int) = 92) = True := eq_true rfl
          have m1 := more_ok E1.sc
          rw [hd'] at m1
          cases r with
          | nil =>
            unfold zt at uz
            simp only [pc_nil, pok_nil] at m1
            refine ⟨_, n + 1, ?_, E1.zset hz0 zt, ?_⟩
            · rw [runL_eq, strM_esc0]
              generalize runL _ _ b_lex_scanner_text_0 = L
              simp only [b_lex_scanner_text_0, go_sem, pc_cons, pok_cons, q34, q92, g0, w1, u1, uz, gz, m1, if_true, if_false]
              rfl
            · intro t q h
              rw [strM_esc0] at h
              cases h
          | cons d r' =>
            obtain ⟨hc2, hd2, hl2⟩ := drop_get hd'
            simp only [pc_cons, pok_cons] at m1
            have w2 := wrap1 (n := n + 1) (m := b.length) (by omega) (by omega)
            have g2 : (upd k b (n + 1) s).boxes[k]? = some [.lst (byts b), .int .i64 ((n + 1 : Nat) : Int)] := E1.sc
            have u2 : (⟨(upd k b (n + 1) s).boxes.set k [.lst (byts b), .int .i64 ((n + 1 + 1 : Nat) : Int)], (upd k b (n + 1) s).rows, (upd k b (n + 1) s).bt, (upd k b (n + 1) s).rt⟩ : St) = upd k b (n + 1 + 1) s := upd_upd
            obtain ⟨out', s2, ap, hO', E2, hz2⟩ := out_append d (hO.upd (k := k) (b := b) (m := n + 1 + 1)) rfl hst (E.upd (n + 1 + 1)) (by omega) (uz (n + 1 + 1))
            obtain ⟨s', j, hr, E', hj⟩ := ih r' (n + 1 + 1) (acc ++ [d]) (i + 2) out' s2 (by simp only [List.length_cons] at hm; omega) hd2 (by omega) (by simp; omega) E2 hz2 hO'
            have m2 := more_ok E2.sc
            rw [hd2] at m2
            refine ⟨s', j, ?_, E', ?_⟩
            · rw [runL_eq, strM_esc]
              generalize runL _ _ b_lex_scanner_text_0 = L at hr ⊢
              simp only [b_lex_scanner_text_0, go_sem, pc_cons, pok_cons, q34, q92, g0, w1, u1, m1, g2, w2, u2, ap, m2, hr, if_true, if_false]
            · intro t q h
              rw [strM_esc] at h
              have := hj t q h
              omega
        · obtain ⟨out', s2, ap, hO', E2, hz2⟩ := out_append c (hO.upd (k := k) (b := b) (m := n + 1)) rfl hst (E.upd (n + 1)) (by omega) (uz (n + 1))
          obtain ⟨s', j, hr, E', hj⟩ := ih r (n + 1) (acc ++ [c]) (i + 1) out' s2 (by simp only [List.length_cons] at hm; omega) hd' (by omega) (by simp; omega) E2 hz2 hO'
          have m2 := more_ok E2.sc
          rw [hd'] at m2
          refine ⟨s', j, ?_, E', ?_⟩
          · rw [runL_eq, strM_cons h34 h92]
            generalize runL _ _ b_lex_scanner_text_0 = L at hr ⊢
            simp only [b_lex_scanner_text_0, go_sem, pc_cons, pok_cons, e34, e92, h34, h92, g0, w1, u1, ap, m2, hr, if_true, if_false]
          · intro t q h
            rw [strM_cons h34 h92] at h
            have := hj t q h
            omega

theorem stext_ok {k n : Nat} {b : List UInt8} (hb : b.length ≤ 65536) {st : St} (h : Sc k b n st) (hr : RtN st) (hn : n ≤ b.length) :
    ∃ st' m, callE efns given f_lex_scanner_text [.ptr k 0] st = some (resT (strT (strM (b.drop n) [] 0)), st') ∧ Ext k b m st st' ∧ ∀ t j, strM (b.drop n) [] 0 = .ok (t, j) → m = n + j := by
  have E1 := (Ext.refl h hr).new zt T_lex_scanner_text_0
  generalize hs1 : (⟨st.boxes ++ [zt], st.rows, st.bt ++ [T_lex_scanner_text_0], st.rt⟩ : St) = s1 at E1
  have hz1 : s1.boxes[st.boxes.length]? = some zt := by rw [← hs1]; simp
  have m1 := more_ok E1.sc
  rw [callE_fn efns given (c := e_lex_scanner_text) rfl rfl]
  have hs1' := hs1
  unfold zt at hs1'
  simp only [e_lex_scanner_text, go_sem, hs1', m1]
  generalize hK : blockK 0 _ = K
  obtain ⟨s', j, hl, E', hj⟩ := text_loop hb hr (Nat.le_refl _) (K := K) (z := st.boxes.length) (by
    intro out c ok s hz
    rw [← hK]
    have zlt := (List.getElem?_eq_some_iff.1 hz).1
    have gz : ∀ w, (s.boxes.set st.boxes.length w)[st.boxes.length]? = some w := fun w => List.getElem?_set_self zlt
    unfold zt at hz
    simp only [go_sem, hz, gz]
    rfl) _ (b.drop n) n [] 0 .nils s1 (Nat.le_refl _) rfl hn (by simp) E1 hz1 (.inl ⟨rfl, rfl⟩)
  refine ⟨s', j, Eq.trans hl ?_, E', fun t q hh => by have := hj t q hh; omega⟩
  rw [← hK]
  simp only [go_sem]

theorem oneM_err {s : List UInt8} {e : Int} (h : oneM s = .error e) : ¬ e = 0 := by
  have hname : ∀ {s : List UInt8} {e : Int}, nameM s = .error e → ¬ e = 0 := by
    intro s e h
    rcases nameM_err h with rfl | rfl <;> decide
  cases s with
  | nil => cases h; decide
  | cons c r =>
    rw [oneM_cons] at h
    split at h
    · cases h
    split at h
    · cases h
    split at h
    · cases h
    split at h
    · split at h
      · rename_i e' he
        cases h
        have : ∀ (m : Nat) (s acc : List UInt8) (i : Nat), s.length ≤ m → strM s acc i = .error e → ¬ e = 0 := by
          intro m
          induction m with
          | zero =>
            intro s acc i hm h
            cases s with
            | nil => cases h; decide
            | cons => simp at hm
          | succ m ih =>
            intro s acc i hm h
            cases s with
            | nil => cases h; decide
            | cons c r =>
              by_cases h34 : c = 34
              · subst h34
                rw [strM_end] at h
                split at h
                · cases h; decide
                · cases h
              · by_cases h92 : c = 92
                · subst h92
                  cases r with
                  | nil => rw [strM_esc0] at h; cases h; decide
                  | cons d r => rw [strM_esc] at h; exact ih r _ _ (by simp only [List.length_cons] at hm; omega) h
                · rw [strM_cons h34 h92] at h
                  exact ih r _ _ (by simp only [List.length_cons] at hm; omega) h
        exact this _ r [] 0 (Nat.le_refl _) he
      · cases h
    split at h
    · unfold varM at h
      split at h
      · split at h
        · rename_i e' he; cases h; exact hname he
        · split at h
          · cases h
          · cases h; decide
      · split at h
        · rename_i e' he; cases h; exact hname he
        · cases h
    · unfold wordM at h
      split at h
      · cases h; decide
      split at h
      · cases h
      rename_i h0
      split at h
      · cases h; exact h0
      split at h
      · cases h; decide
      · cases h

theorem token_ok {k n : Nat} {b : List UInt8} (hb : b.length ≤ 65536) {st : St} (h : Sc k b n st) (hr : RtN st) {c : UInt8} {r : List UInt8} (hd : b.drop n = c :: r) :
    ∃ st' m, callE efns given f_lex_scanner_token [.ptr k 0] st = some (resT (oneM (c :: r)), st') ∧ Ext k b m st st' ∧ ∀ t j, oneM (c :: r) = .ok (t, j) → m = n + j := by
  obtain ⟨hc, hd', hl⟩ := drop_get hd
  have E1 := (Ext.refl h hr).new zt T_lex_scanner_token_0
  generalize hs1 : (⟨st.boxes ++ [zt], st.rows, st.bt ++ [T_lex_scanner_token_0], st.rt⟩ : St) = s1 at E1
  have hz1 : s1.boxes[st.boxes.length]? = some zt := by rw [← hs1]; simp
  have hkz : k ≠ st.boxes.length := Nat.ne_of_lt h.lt
  have g1 : s1.boxes[k]? = some [.lst (byts b), .int .i64 (n : Int)] := E1.sc
  have w1 := wrap1 (n := n) (m := b.length) (by omega) (by omega)
  have u1 : (⟨s1.boxes.set k [.lst (byts b), .int .i64 ((n + 1 : Nat) : Int)], s1.rows, s1.bt, s1.rt⟩ : St) = upd k b (n + 1) s1 := rfl
  have upz : ∀ m, (upd k b m s1).boxes[st.boxes.length]? = some zt := fun m => by unfold upd; rw [List.getElem?_set_ne hkz]; exact hz1
  have zlt : ∀ m, st.boxes.length < (upd k b m s1).boxes.length := fun m => (List.getElem?_eq_some_iff.1 (upz m)).1
  have gz : ∀ m w, ((upd k b m s1).boxes.set st.boxes.length w)[st.boxes.length]? = some w := fun m w => List.getElem?_set_self (zlt m)
  have fin : ∀ m w, Ext k b m st ⟨(upd k b m s1).boxes.set st.boxes.length w, (upd k b m s1).rows, (upd k b m s1).bt, (upd k b m s1).rt⟩ := fun m w => (E1.upd m).zset (Nat.le_refl _) w
  have E2 := E1.upd (n + 1)
  have e40 : ((c.toNat : Int) = 40) = (c = 40) := code_eq (n := 40) (by decide)
  have e41 : ((c.toNat : Int) = 41) = (c = 41) := code_eq (n := 41) (by decide)
  have e126 : ((c.toNat : Int) = 126) = (c = 126) := code_eq (n := 126) (by decide)
  have e34 : ((c.toNat : Int) = 34) = (c = 34) := code_eq (n := 34) (by decide)
  have e63 : ((c.toNat : Int) = 63) = (c = 63) := code_eq (n := 63) (by decide)
  have sub : ∀ (s2 : St) (m : Nat) (R : Res (Tk × Nat)), Ext k b m (upd k b (n + 1) s1) s2 → s2.boxes[st.boxes.length]? = some zt ∧ (∀ w, (s2.boxes.set st.boxes.length w)[st.boxes.length]? = some w) ∧ ∀ w, Ext k b m st ⟨s2.boxes.set st.boxes.length w, s2.rows, s2.bt, s2.rt⟩ := by
    intro s2 m R e
    have z2 := (e.bx _ (zlt (n + 1)) (Ne.symm hkz)).trans (upz (n + 1))
    exact ⟨z2, fun w => List.getElem?_set_self (List.getElem?_eq_some_iff.1 z2).1, fun w => (E2.trans e).zset (Nat.le_refl _) w⟩
  have sub1 : ∀ (s2 : St) (m : Nat) (R : Res (Tk × Nat)), Ext k b m s1 s2 → s2.boxes[st.boxes.length]? = some zt ∧ (∀ w, (s2.boxes.set st.boxes.length w)[st.boxes.length]? = some w) ∧ ∀ w, Ext k b m st ⟨s2.boxes.set st.boxes.length w, s2.rows, s2.bt, s2.rt⟩ := by
    intro s2 m R e
    have z2 := (e.bx _ (List.getElem?_eq_some_iff.1 hz1).1 (Ne.symm hkz)).trans hz1
    exact ⟨z2, fun w => List.getElem?_set_self (List.getElem?_eq_some_iff.1 z2).1, fun w => (E1.trans e).zset (Nat.le_refl _) w⟩
  rw [callE_fn efns given (c := e_lex_scanner_token) rfl rfl, oneM_cons]
  have hs1' := hs1
  unfold zt at hs1' upz
  by_cases h40 : c = 40
  · rw [if_pos h40]
    refine ⟨_, n + 1, ?_, fin _ (tkC ⟨4, 0, []⟩), by intro t j hh; cases hh; rfl⟩
    simp only [e_lex_scanner_token, go_sem, hs1', g1, bidx hc, e40, h40, w1, u1, upz, gz, if_true]
    rfl
  · rw [if_neg h40]
    by_cases h41 : c = 41
    · rw [if_pos h41]
      refine ⟨_, n + 1, ?_, fin _ (tkC ⟨5, 0, []⟩), by intro t j hh; cases hh; rfl⟩
      simp only [e_lex_scanner_token, go_sem, hs1', g1, bidx hc, e40, e41, h40, eq_true h41, w1, u1, upz, gz, if_true, if_false]
      rfl
    · rw [if_neg h41]
      by_cases h126 : c = 126
      · rw [if_pos h126]
        refine ⟨_, n + 1, ?_, fin _ (tkC ⟨8, 0, []⟩), by intro t j hh; cases hh; rfl⟩
        simp only [e_lex_scanner_token, go_sem, hs1', g1, bidx hc, e40, e41, e126, h40, h41, eq_true h126, w1, u1, upz, gz, if_true, if_false]
        rfl
      · rw [if_neg h126]
        by_cases h34 : c = 34
        · rw [if_pos h34]
          obtain ⟨s2, m, ht, et, hj⟩ := stext_ok hb E2.sc E2.rn hl
          rw [hd'] at ht hj
          obtain ⟨z2, gz2, fin2⟩ := sub s2 m (.error 0) et
          unfold zt at z2
          cases hM : strM r [] 0 with
          | error e =>
            rw [hM] at ht
            unfold resT strT zt at ht
            refine ⟨_, m, ?_, fin2 zt, by intro t j hh; cases hh⟩
            simp only [e_lex_scanner_token, go_sem, hs1', g1, bidx hc, e40, e41, e126, e34, h40, h41, h126, eq_true h34, w1, u1, ht, z2, gz2, if_true, if_false]
            rfl
          | ok q =>
            rw [hM] at ht
            unfold resT strT tkC at ht
            refine ⟨_, m, ?_, fin2 (tkC ⟨3, 0, q.1⟩), ?_⟩
            · simp only [e_lex_scanner_token, go_sem, hs1', g1, bidx hc, e40, e41, e126, e34, h40, h41, h126, eq_true h34, w1, u1, ht, z2, gz2, if_true, if_false]
              rfl
            · intro t j hh
              cases hh
              have := hj q.1 q.2 hM
              omega
        · rw [if_neg h34]
          by_cases h63 : c = 63
          · rw [if_pos h63]
            obtain ⟨s2, m, ht, et, hj⟩ := variable_ok hb E2.sc E2.rn hl
            rw [hd'] at ht hj
            obtain ⟨z2, gz2, fin2⟩ := sub s2 m (.error 0) et
            unfold zt at z2
            cases hM : varM r with
            | error e =>
              rw [hM] at ht
              unfold resT zt at ht
              refine ⟨_, m, ?_, fin2 zt, by intro t j hh; cases hh⟩
              simp only [e_lex_scanner_token, go_sem, hs1', g1, bidx hc, e40, e41, e126, e34, e63, h40, h41, h126, h34, eq_true h63, w1, u1, ht, z2, gz2, if_true, if_false]
              rfl
            | ok q =>
              rw [hM] at ht
              unfold resT tkC at ht
              refine ⟨_, m, ?_, fin2 (tkC q.1), ?_⟩
              · simp only [e_lex_scanner_token, go_sem, hs1', g1, bidx hc, e40, e41, e126, e34, e63, h40, h41, h126, h34, eq_true h63, w1, u1, ht, z2, gz2, if_true, if_false]
                rfl
              · intro t j hh
                cases hh
                have := hj t j hM
                omega
          · rw [if_neg h63]
            obtain ⟨s2, m, ht, et, hj⟩ := word_ok hb E1.sc E1.rn (by omega)
            rw [hd] at ht hj
            obtain ⟨z2, gz2, fin2⟩ := sub1 s2 m (.error 0) et
            unfold zt at z2
            cases hM : wordM (c :: r) with
            | error e =>
              rw [hM] at ht
              unfold resT zt at ht
              refine ⟨_, m, ?_, fin2 zt, by intro t j hh; cases hh⟩
              simp only [e_lex_scanner_token, go_sem, hs1', g1, bidx hc, e40, e41, e126, e34, e63, h40, h41, h126, h34, h63, w1, u1, ht, z2, gz2, if_true, if_false]
              rfl
            | ok q =>
              rw [hM] at ht
              unfold resT tkC at ht
              refine ⟨_, m, ?_, fin2 (tkC q.1), ?_⟩
              · simp only [e_lex_scanner_token, go_sem, hs1', g1, bidx hc, e40, e41, e126, e34, e63, h40, h41, h126, h34, h63, w1, u1, ht, z2, gz2, if_true, if_false]
                rfl
              · intro t j hh
                cases hh
                exact hj t j hM
end Go.Proofs.YtpohgiinajfepaaDoorPe.Lex
