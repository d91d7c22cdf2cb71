/- lex.Scan. -/
import Derived.Test.YtpohgiinajfepaaDoorLexLexU
set_option linter.unusedVariables false
set_option linter.unusedSimpArgs false
set_option maxRecDepth 1000000
namespace Go.Proofs.YtpohgiinajfepaaDoorPe.Lex
open Go Go.Proofs.YtpohgiinajfepaaDoorPe Go.Proofs.YtpohgiinajfepaaDoorPe.LexCode
attribute [local go_sem] V_bslice

def faultV (a : Nat) (e : Int) : PV := .iface T_lex_fault_2 (.ref [.str [99, 104, 97, 114], .int .i64 (a : Int), .iface T_lex_fault_1 (.int .i64 e)])
theorem fault_t (a : Nat) (e : Int) : tupV (callE efns given) (.call 0 f_lex_fault) [.int .i64 (a : Int), .int .i64 e] = some (faultV a e) := by
  have key : ∃ st, callE efns given f_lex_fault [.int .i64 (a : Int), .int .i64 e] ⟨[], [], [], []⟩ = some (.iface T_lex_fault_2 (.ptr 0 0), ⟨[[.str [99, 104, 97, 114], .int .i64 (a : Int), .iface T_lex_fault_1 (.int .i64 e)]], [], st, []⟩) := by
    refine ⟨[T_lex_fault_0], ?_⟩
    rw [callE_fn efns given (c := e_lex_fault) rfl rfl]
    simp only [e_lex_fault, go_sem, zip3, fillP]
  obtain ⟨st, h⟩ := key
  exact callV_of rfl h rfl

/-- The tokens so far: none, or an own row. -/
def OutT (T : TypeId) (l : List Tok) (out : PV) (s : St) : Prop :=
  l = [] ∧ out = .nils ∨ ∃ r, l ≠ [] ∧ out = .own r (l.map Tok.p) ∧ s.rows[r]? = some (l.length, 4) ∧ s.rt[r]? = some T
theorem szAll_toks (l : List Tok) : szAll 4 (l.map Tok.p) = true := by
  simp [szAll, Tok.p, PV.cells]
theorem out_tok {T : TypeId} {l : List Tok} {out : PV} {s : St} (t : Tok) (h : OutT T l out s) (hn : RtN s) (hl : l.length ≤ 65536) :
    ∃ out' s', evAppend 4 40 T out.nm [t.p] s = some (out', s') ∧ OutT T (l ++ [t]) out' s' ∧ RtN s' ∧ s'.boxes = s.boxes ∧ s'.bt = s.bt := by
  have hs := szAll_toks [t]
  simp only [List.map_cons, List.map_nil] at hs
  rcases h with ⟨rfl, rfl⟩ | ⟨r, hne, rfl, h1, h2⟩
  · refine ⟨.own s.rows.length ([] ++ [t.p]), ⟨s.boxes, s.rows ++ [(0 + 1, 4)], s.bt, s.rt ++ [T]⟩, ?_, .inr ⟨s.rows.length, by simp, rfl, by simp, ?_⟩, ?_, rfl, rfl⟩
    · rw [n_nils, A_full, hs, if_pos rfl, if_pos ⟨by simp, rfl⟩]
      rfl
    · unfold RtN at hn; rw [← hn]; simp
    · unfold RtN at hn ⊢; simp [hn]
  · refine ⟨.own r (l.map Tok.p ++ [t.p]), ⟨s.boxes, s.rows.set r ((l.map Tok.p).length + 1, 4), s.bt, s.rt⟩, ?_, .inr ⟨r, by simp, by simp, ?_, h2⟩, ?_, rfl, rfl⟩
    · rw [n_own, A_own, hs, if_pos rfl, if_pos ⟨by simp; omega, by simpa using h1, h2⟩]
      rfl
    · have : r < s.rows.length := (List.getElem?_eq_some_iff.1 h1).1
      rw [List.getElem?_set_self this]
      simp
    · unfold RtN at hn ⊢; simp [hn]
theorem OutT.ext {T : TypeId} {k m : Nat} {b : List UInt8} {l : List Tok} {out : PV} {s s' : St} (h : OutT T l out s) (e : Ext k b m s s') : OutT T l out s' := by
  rcases h with h | ⟨r, hne, ho, h1, h2⟩
  · exact .inl h
  · exact .inr ⟨r, hne, ho, (e.rw r (List.getElem?_eq_some_iff.1 h1).1).trans h1, (e.rt r (List.getElem?_eq_some_iff.1 h2).1).trans h2⟩
theorem OutT.shut {T : TypeId} {l : List Tok} {out : PV} {s : St} (h : OutT T l out s) (st : St) : shutR false st shutN out = some (.lst (l.map Tok.p)) := by
  rcases h with ⟨rfl, rfl⟩ | ⟨r, _, rfl, _⟩ <;> rfl

/-- Where the scanner stands behind blanks. -/
def behind (b : List UInt8) (p : Nat) : Nat := b.length - (skipM false (b.drop p)).length
theorem behind_ok {b : List UInt8} {p : Nat} (hp : p ≤ b.length) : b.drop (behind b p) = skipM false (b.drop p) ∧ behind b p ≤ b.length ∧ p ≤ behind b p ∧ scanM (behind b p) (b.drop (behind b p)) = scanM p (b.drop p) := by
  have h1 := skipM_suffix (b.drop p) false
  have h2 := skipM_le (b.drop p) false
  rw [List.length_drop] at h1 h2
  have e : p + (b.length - p - (skipM false (b.drop p)).length) = behind b p := by unfold behind; omega
  have h3 : b.drop (behind b p) = skipM false (b.drop p) := by
    rw [h1, List.drop_drop, e]
  refine ⟨h3, by unfold behind; omega, by omega, ?_⟩
  have h4 := scanM_skip p (b.drop p)
  rw [List.length_drop, e] at h4
  rw [h3, h4]

/-- The loop's answer. -/
theorem scan_step {b : List UInt8} {n : Nat} {c : UInt8} {r : List UInt8} (hd : b.drop n = c :: r) (hs : skipM false (b.drop n) = b.drop n) (hn : n ≤ b.length) :
    scanM n (b.drop n) = match oneM (c :: r) with
    | .error e => .error (n, e)
    | .ok t => match scanM (n + t.2) (b.drop (n + t.2)) with
      | .error e => .error e
      | .ok l => .ok (⟨t.1.k, n, t.1.i, t.1.s⟩ :: l) := by
  have hl : (b.drop n).length = r.length + 1 := by rw [hd]; simp
  rw [scanM_cons (hs.trans hd), hl]
  simp only [Nat.sub_self, Nat.add_zero]
  cases ho : oneM (c :: r) with
  | error e => rfl
  | ok t =>
    have := oneM_le (t := t.1) (m := t.2) ho
    have e1 : t.2 - 1 + 1 = t.2 := by omega
    have e2 : r.drop (t.2 - 1) = b.drop (n + t.2) := by
      rw [← List.drop_drop, hd]
      conv => rhs; rw [← e1, List.drop_succ_cons]
    simp only [e1, e2]
    rfl

theorem scan_loop {b : List UInt8} (hb : b.length ≤ 65536) {K : EX → Fr → St → Option (PV × St)} : ∀ (m n : Nat) (l : List Tok) (out : PV) (s : St), (b.drop n).length ≤ m → skipM false (b.drop n) = b.drop n → n ≤ b.length → l.length ≤ n → Sc 0 b n s → RtN s → OutT T_lex_Scan_0 l out s →
    (∃ l' out' x s', scanM n (b.drop n) = .ok l' ∧ OutT T_lex_Scan_0 (l ++ l') out' s' ∧ runL (callE efns given) [true, true, true, false, false, false, false, false, false, false] b_lex_Scan_0 [.lst (byts b), .ptr 0 0, out, .undef, .undef, .undef, .undef, .undef, .undef, .undef] s K =
      K (.exit 0) [.lst (byts b), .ptr 0 0, out', .undef, .undef, x, .undef, .undef, .undef, .undef] s') ∨
    (∃ a e s', scanM n (b.drop n) = .error (a, e) ∧ runL (callE efns given) [true, true, true, false, false, false, false, false, false, false] b_lex_Scan_0 [.lst (byts b), .ptr 0 0, out, .undef, .undef, .undef, .undef, .undef, .undef, .undef] s K =
      K (.ret (.tuple [.nils, faultV a e])) [] s') := by
  intro m
  induction m with
  | zero =>
    intro n l out s hm hs hn hln hsc hrn hO
    have hd : b.drop n = [] := List.eq_nil_of_length_eq_zero (by omega)
    have := drop_none hd
    left
    refine ⟨[], out, .int .i64 n, s, ?_, by rw [List.append_nil]; exact hO, ?_⟩
    · rw [hd]; exact scanM_nil rfl
    · have c1 : ((n : Int) < (b.length : Int)) = False := eq_false (by omega)
      have g0 : s.boxes[0]? = some [.lst (byts b), .int .i64 (n : Int)] := hsc
      rw [runL_eq]
      generalize runL _ _ b_lex_Scan_0 = L
      simp only [b_lex_Scan_0, go_sem, g0, byts_length, c1, if_false]
  | succ m ih =>
    intro n l out s hm hs hn hln hsc hrn hO
    have g0 : s.boxes[0]? = some [.lst (byts b), .int .i64 (n : Int)] := hsc
    cases hd : b.drop n with
    | nil =>
      have := drop_none hd
      left
      refine ⟨[], out, .int .i64 n, s, scanM_nil rfl, by rw [List.append_nil]; exact hO, ?_⟩
      have c1 : ((n : Int) < (b.length : Int)) = False := eq_false (by omega)
      rw [runL_eq]
      generalize runL _ _ b_lex_Scan_0 = L
      simp only [b_lex_Scan_0, go_sem, g0, byts_length, c1, if_false]
    | cons c r =>
      obtain ⟨hc, hd', hl⟩ := drop_get hd
      have c1 : ((n : Int) < (b.length : Int)) = True := eq_true (by omega)
      have hstep := scan_step hd hs hn
      rw [hd] at hstep
      obtain ⟨s1, p, htk, e1, hj⟩ := token_ok hb hsc hrn hd
      have E1 := e1.new zt T_lex_Scan_0
      have hlt := e1.sc.lt
      have hz : 0 ≠ s1.boxes.length := by omega
      cases ho : oneM (c :: r) with
      | error e =>
        rw [ho] at htk hstep
        right
        have he : (e = 0) = False := eq_false (oneM_err ho)
        refine ⟨n, e, ⟨s1.boxes ++ [zt], s1.rows, s1.bt ++ [T_lex_Scan_0], s1.rt⟩, hstep, ?_⟩
        unfold resT zt at htk
        have q1 : (s1.boxes ++ [[PV.int .i64 0, .int .i64 0, .int .i64 0, .str []]])[s1.boxes.length]? = some [PV.int .i64 0, .int .i64 0, .int .i64 0, .str []] := by simp
        have q2 : ∀ w, (s1.boxes ++ [[PV.int .i64 0, .int .i64 0, .int .i64 0, .str []]]).set s1.boxes.length w = s1.boxes ++ [w] := fun w => by simp
        rw [runL_eq]
        generalize runL _ _ b_lex_Scan_0 = L
        simp only [b_lex_Scan_0, go_sem, g0, byts_length, c1, htk, q1, q2, he, fault_t, if_true, if_false, ne_eq, not_false_eq_true]
        rfl
      | ok t =>
        rw [ho] at htk hstep
        simp only at hstep
        have hp := hj t.1 t.2 ho
        subst hp
        have htl := oneM_le (t := t.1) (m := t.2) ho
        have hple : n + t.2 ≤ b.length := by
          have := congrArg List.length hd
          rw [List.length_drop, List.length_cons] at this
          simp only [List.length_cons] at htl
          omega
        unfold resT tkC at htk
        have q1 : (s1.boxes ++ [[PV.int .i64 0, .int .i64 0, .int .i64 0, .str []]])[s1.boxes.length]? = some [PV.int .i64 0, .int .i64 0, .int .i64 0, .str []] := by simp
        have q2 : ∀ w w', (s1.boxes ++ [w]).set s1.boxes.length w' = s1.boxes ++ [w'] := fun w w' => by simp
        have q3 : ∀ w, (s1.boxes ++ [w])[s1.boxes.length]? = some w := fun w => by simp
        -- behind the store of the place
        have O2 : OutT T_lex_Scan_0 l out ⟨s1.boxes ++ [[.int .i64 t.1.k, .int .i64 (n : Int), .int .i64 t.1.i, .str t.1.s]], s1.rows, s1.bt ++ [T_lex_Scan_0], s1.rt⟩ := (hO.ext e1 : OutT T_lex_Scan_0 l out s1)
        obtain ⟨out', s3, ap, O3, rn3, hbx, hbt⟩ := out_tok ⟨t.1.k, n, t.1.i, t.1.s⟩ O2 e1.rn (by omega)
        have sc3 : Sc 0 b (n + t.2) s3 := by
          unfold Sc
          rw [hbx, List.getElem?_append_left hlt]
          exact e1.sc
        have hsk := skip_ok hb sc3 hple
        obtain ⟨b1, b2, b3, b4⟩ := behind_ok hple
        have hdl : (b.drop (behind b (n + t.2))).length ≤ m := by
          rw [List.length_drop]
          have := congrArg List.length hd
          rw [List.length_drop] at this
          simp only [List.length_cons] at this hm
          rw [hd] at hm
          simp only [List.length_cons] at hm
          omega
        have hs4 : skipM false (b.drop (behind b (n + t.2))) = b.drop (behind b (n + t.2)) := by rw [b1]; exact skipM_skip _ _
        have sc4 : Sc 0 b (behind b (n + t.2)) (upd 0 b (behind b (n + t.2)) s3) := upd_sc sc3.lt
        have hih := ih (behind b (n + t.2)) (l ++ [⟨t.1.k, n, t.1.i, t.1.s⟩]) out' (upd 0 b (behind b (n + t.2)) s3) hdl hs4 b2 (by simp; omega) sc4 rn3 O3
        rw [b4] at hih
        have hsk' : callE efns given f_lex_scanner_skip [.ptr 0 0] s3 = some (.tuple [], upd 0 b (behind b (n + t.2)) s3) := hsk
        have ap' : evAppend 4 40 T_lex_Scan_0 out.nm [.agg [.int .i64 t.1.k, .int .i64 (n : Int), .int .i64 t.1.i, .str t.1.s]] ⟨s1.boxes ++ [[.int .i64 t.1.k, .int .i64 (n : Int), .int .i64 t.1.i, .str t.1.s]], s1.rows, s1.bt ++ [T_lex_Scan_0], s1.rt⟩ = some (out', s3) := ap
        rcases hih with ⟨l', out2, x, s', h1, h2, h3⟩ | ⟨a, e, s', h1, h3⟩
        · left
          rw [h1] at hstep
          refine ⟨⟨t.1.k, n, t.1.i, t.1.s⟩ :: l', out2, x, s', hstep, by rw [List.append_cons]; exact h2, ?_⟩
          rw [runL_eq]
          generalize runL _ _ b_lex_Scan_0 = L at h3 ⊢
          simp only [b_lex_Scan_0, go_sem, g0, byts_length, c1, htk, q1, q2, q3, ap', hsk', h3, if_true, if_false, ne_eq, not_true_eq_false]
        · right
          rw [h1] at hstep
          refine ⟨a, e, s', hstep, ?_⟩
          rw [runL_eq]
          generalize runL _ _ b_lex_Scan_0 = L at h3 ⊢
          simp only [b_lex_Scan_0, go_sem, g0, byts_length, c1, htk, q1, q2, q3, ap', hsk', h3, if_true, if_false, ne_eq, not_true_eq_false]

def scanV : Except (Nat × Int) (List Tok) → PV
  | .ok l => .tuple [.lst (l.map Tok.p), .nili]
  | .error q => .tuple [.lst [], faultV q.1 q.2]
/-- What lex.Scan answers. -/
def scanL (b : List UInt8) : Except (Nat × Int) (List Tok) := if b.length > 65536 then .error (0, 4) else scanM 0 b

theorem scan_t (b : List UInt8) : tupV (callE efns given) (.call 0 f_lex_Scan) [.lst (byts b)] = some (scanV (scanL b)) := by
  unfold scanL
  by_cases hb : b.length > 65536
  · rw [if_pos hb]
    have hc : ((b.length : Int) > 65536) = True := eq_true (by omega)
    have key : callE efns given f_lex_Scan [.lst (byts b)] ⟨[], [], [], []⟩ = some (.tuple [.nils, faultV 0 4], ⟨[], [], [], []⟩) := by
      rw [callE_fn efns given (c := e_lex_Scan) rfl rfl]
      have hf : tupV (callE efns given) (.call 0 f_lex_fault) [.int .i64 0, .int .i64 4] = some (faultV 0 4) := fault_t 0 4
      simp only [e_lex_Scan, go_sem, byts_length, hc, hf, if_true]
    exact callV_of rfl key rfl
  · rw [if_neg hb]
    have hb' : b.length ≤ 65536 := by omega
    have hc : ((b.length : Int) > 65536) = False := eq_false (by omega)
    have sc0 : Sc 0 b 0 ⟨[[.lst (byts b), .int .i64 0]], [], [T_lex_Scan_1], []⟩ := rfl
    have hsk : callE efns given f_lex_scanner_skip [.ptr 0 0] ⟨[[.lst (byts b), .int .i64 0]], [], [T_lex_Scan_1], []⟩ = some (.tuple [], upd 0 b (behind b 0) ⟨[[.lst (byts b), .int .i64 0]], [], [T_lex_Scan_1], []⟩) := skip_ok hb' sc0 (by omega)
    obtain ⟨b1, b2, b3, b4⟩ := behind_ok (b := b) (p := 0) (by omega)
    rw [List.drop_zero] at b1 b4
    have hs4 : skipM false (b.drop (behind b 0)) = b.drop (behind b 0) := by rw [b1]; exact skipM_skip _ _
    have key : ∀ (K0 : Unit), (∃ l s', scanM 0 b = .ok l ∧ ∃ out, OutT T_lex_Scan_0 l out s' ∧ callE efns given f_lex_Scan [.lst (byts b)] ⟨[], [], [], []⟩ = some (.tuple [out, .nili], s')) ∨
        (∃ a e s', scanM 0 b = .error (a, e) ∧ callE efns given f_lex_Scan [.lst (byts b)] ⟨[], [], [], []⟩ = some (.tuple [.nils, faultV a e], s')) := by
      intro _
      rw [callE_fn efns given (c := e_lex_Scan) rfl rfl]
      simp only [e_lex_Scan, go_sem, byts_length, hc, if_false, zip3, fillP, hsk]
      generalize hK : blockK 0 _ = K
      rcases scan_loop hb' (K := K) _ (behind b 0) [] .nils (upd 0 b (behind b 0) ⟨[[.lst (byts b), .int .i64 0]], [], [T_lex_Scan_1], []⟩) (Nat.le_refl _) hs4 b2 (by simp) (upd_sc (by simp)) rfl (.inl ⟨rfl, rfl⟩) with ⟨l', out', x, s', h1, h2, h3⟩ | ⟨a, e, s', h1, h3⟩
      · left
        rw [b4] at h1
        refine ⟨l', s', h1, out', h2, Eq.trans h3 ?_⟩
        rw [← hK]
        simp only [go_sem]
      · right
        rw [b4] at h1
        refine ⟨a, e, s', h1, Eq.trans h3 ?_⟩
        rw [← hK]
        simp only [go_sem]
    rcases key () with ⟨l, s', h1, out, h2, h3⟩ | ⟨a, e, s', h1, h3⟩
    · rw [h1]
      refine callV_of rfl h3 ?_
      have := h2.shut s'
      rcases h2 with ⟨rfl, rfl⟩ | ⟨r, _, rfl, _⟩ <;> rfl
    · rw [h1]
      exact callV_of rfl h3 rfl
end Go.Proofs.YtpohgiinajfepaaDoorPe.Lex
