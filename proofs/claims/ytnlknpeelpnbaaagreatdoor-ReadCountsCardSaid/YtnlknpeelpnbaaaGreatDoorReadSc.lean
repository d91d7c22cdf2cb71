/- A part of the proof of this folder's statement; it has no condition of its own. -/
import Derived.Test.YtnlknpeelpnbaaaGreatDoorReadTk
import Derived.Test.YtnlknpeelpnbaaaGreatDoorReadDp
set_option linter.unusedVariables false
set_option linter.unusedSimpArgs false
set_option maxRecDepth 100000
namespace Go.Proofs.YtnlknpeelpnbaaaGreatDoorPe.Read
open Go Go.Proofs Go.Proofs.YtnlknpeelpnbaaaGreatDoorPe Go.Proofs.YtnlknpeelpnbaaaGreatDoorPe.ReadCode
def ahead (l : List Tok) : Except (Nat × Int) (List Tok) -> Except (Nat × Int) (List Tok)
 | .error e => .error e
 | .ok m => .ok (l ++ m)
theorem ahead_ahead (a b : List Tok) (x : Except (Nat × Int) (List Tok)) : ahead a (ahead b x) = ahead (a ++ b) x := by
 cases x with
 | error e => rfl
 | ok m => simp [ahead]
def ScT (s : List UInt8) (ts : List Tk) : Prop := ∀ p, ∃ l : List Tok, l.map Tok.tk = ts /\ ∀ r, EndB r -> scanM p (s ++ r) = ahead l (scanM (p + s.length) r)
def ScA (s : List UInt8) (ts : List Tk) : Prop := ∀ p, ∃ l : List Tok, l.map Tok.tk = ts /\ ∀ r, scanM p (s ++ r) = ahead l (scanM (p + s.length) r)
theorem ScA.sc {s : List UInt8} {ts : List Tk} (h : ScA s ts) : ScT s ts := fun p => by
 obtain ⟨l, h1, h2⟩ := h p
 exact ⟨l, h1, fun r _ => h2 r⟩
theorem ScA.nil : ScA [] [] := fun p => ⟨[], rfl, fun r => by
 show scanM p r = ahead [] (scanM (p + 0) r)
 rw [Nat.add_zero]
 cases scanM p r <;> rfl⟩
theorem ScA.app {s t : List UInt8} {a b : List Tk} (h : ScA s a) (k : ScT t b) : ScT (s ++ t) (a ++ b) := fun p => by
 obtain ⟨l, h1, h2⟩ := h p
 obtain ⟨m, k1, k2⟩ := k (p + s.length)
 refine ⟨l ++ m, by rw [List.map_append, h1, k1], fun r hr => ?_⟩
 rw [List.append_assoc, h2, k2 r hr, ahead_ahead, List.length_append, Nat.add_assoc]
theorem ScA.appA {s t : List UInt8} {a b : List Tk} (h : ScA s a) (k : ScA t b) : ScA (s ++ t) (a ++ b) := fun p => by
 obtain ⟨l, h1, h2⟩ := h p
 obtain ⟨m, k1, k2⟩ := k (p + s.length)
 refine ⟨l ++ m, by rw [List.map_append, h1, k1], fun r => ?_⟩
 rw [List.append_assoc, h2, k2 r, ahead_ahead, List.length_append, Nat.add_assoc]
theorem ScT.app {s t : List UInt8} {a b : List Tk} (h : ScT s a) (he : ∀ r, EndB (t ++ r)) (k : ScT t b) : ScT (s ++ t) (a ++ b) := fun p => by
 obtain ⟨l, h1, h2⟩ := h p
 obtain ⟨m, k1, k2⟩ := k (p + s.length)
 refine ⟨l ++ m, by rw [List.map_append, h1, k1], fun r hr => ?_⟩
 rw [List.append_assoc, h2 _ (he r), k2 r hr, ahead_ahead, List.length_append, Nat.add_assoc]
theorem ScT.appA {s t : List UInt8} {a b : List Tk} (h : ScT s a) (he : ∀ r, EndB (t ++ r)) (k : ScA t b) : ScA (s ++ t) (a ++ b) := fun p => by
 obtain ⟨l, h1, h2⟩ := h p
 obtain ⟨m, k1, k2⟩ := k (p + s.length)
 refine ⟨l ++ m, by rw [List.map_append, h1, k1], fun r => ?_⟩
 rw [List.append_assoc, h2 _ (he r), k2 r, ahead_ahead, List.length_append, Nat.add_assoc]
theorem sign_scan {c : UInt8} {k : Int} (h : (c = 40 /\ k = 4) \/ (c = 41 /\ k = 5) \/ (c = 126 /\ k = 8)) : ScA [c] [⟨k, 0, []⟩] := fun p => ⟨[⟨k, p, 0, []⟩], rfl, fun r => by
 show scanM p (c :: r) = _
 rw [scanM_sign h]
 show _ = ahead _ (scanM (p + 1) r)
 cases scanM (p + 1) r <;> rfl⟩
theorem blank_scan {c : UInt8} (h : blankB c = true) : ScA [c] [] := fun p => ⟨[], rfl, fun r => by
 have hs : skipM false (c :: r) = skipM false r := by rw [skipM_f, if_pos h]
 have hl := skipM_le r false
 show scanM p (c :: r) = ahead [] (scanM (p + 1) r)
 rw [scanM_eq (p := p) (q := p + 1) hs (by simp only [List.length_cons]; omega)]
 cases scanM (p + 1) r <;> rfl⟩
theorem tok_scan {t : Tk} (h : TokK t) : ScT (tkT t) [t] := fun p => ⟨[⟨t.k, p, t.i, t.s⟩], rfl, fun r hr => by
 rw [scanM_tok h hr]
 cases scanM (p + (tkT t).length) r <;> rfl⟩
theorem end32 (r : List UInt8) (s : List UInt8) : EndB ([32] ++ s ++ r) := ⟨by decide, by decide⟩
theorem end41 (r : List UInt8) : EndB ([41] ++ r) := ⟨by decide, by decide⟩
theorem end10 (r : List UInt8) : EndB ([10] ++ r) := ⟨by decide, by decide⟩
theorem join_scan : ∀ {l : List Nd}, (∀ x ∈ l, ScT (textN x) (toksN x)) -> ScT (joinM [32] (l.map textN)) (toksL l)
 | [], _ => ScA.nil.sc
 | [x], h => by
  rw [toksL_one]
  exact h x (List.mem_cons_self ..)
 | x :: y :: l, h => by
  show ScT (textN x ++ [32] ++ joinM [32] ((y :: l).map textN)) (toksN x ++ toksL (y :: l))
  rw [List.append_assoc]
  exact (h x (List.mem_cons_self ..)).app (fun r => end32 r _) ((blank_scan (c := 32) (by decide)).app (join_scan fun z hz => h z (List.mem_cons_of_mem _ hz)))
theorem text_scan : ∀ (m : Nat) (x : Nd), x.sz <= m -> Wf x -> ScT (textN x) (toksN x)
 | 0, x, h, _ => by rw [Nd.sz_eq] at h; omega
 | m + 1, x, hm, hw => by
  rw [textN_eq, toksN_eq]
  by_cases h8 : x.k = 8
  ·rw [if_pos h8, if_pos h8]
   cases hw with
   | leaf k pos i s h h4 h5 h8' => exact absurd h8 h8'
   | list => cases h8
   | no pos k p i s h h4 h5 h8' =>
    have e1 : textN (.mk k p i s []) = tkT ⟨k, i, s⟩ := by
     rw [textN_eq]
     show (if k = 8 then _ else if k = 0 then _ else tkT ⟨k, i, s⟩) = _
     rw [if_neg h8', if_neg (TokK.ne0 h)]
    have e2 : toksN (.mk k p i s []) = [⟨k, i, s⟩] := by
     rw [toksN_eq]
     show (if k = 8 then _ else if k = 0 then _ else [(⟨k, i, s⟩ : Tk)]) = _
     rw [if_neg h8', if_neg (TokK.ne0 h)]
    show ScT (126 :: ([textN (.mk k p i s [])]).flatten) (⟨8, 0, []⟩ :: toksL [.mk k p i s []])
    rw [toksL_one, e1, e2, List.flatten_cons, List.flatten_nil, List.append_nil]
    exact (sign_scan (c := 126) (.inr (.inr ⟨rfl, rfl⟩))).app (tok_scan h)
  ·rw [if_neg h8, if_neg h8]
   by_cases h0 : x.k = 0
   ·rw [if_pos h0, if_pos h0]
    have hj := join_scan (l := x.kids) fun y hy => text_scan m y (by have := Nd.sz_kid hy; omega) (hw.kids y hy)
    exact ((sign_scan (c := 40) (.inl ⟨rfl, rfl⟩)).appA (hj.appA end41 (sign_scan (c := 41) (.inr (.inl ⟨rfl, rfl⟩))))).sc
   ·rw [if_neg h0, if_neg h0]
    exact tok_scan (hw.tok h8 h0).1
def linesN (l : List Nd) : List UInt8 := (l.map fun x => textN x ++ [10]).flatten
theorem lines_scan : ∀ {l : List Nd}, (∀ x ∈ l, Wf x) -> ScA (linesN l) (toksL l)
 | [], _ => ScA.nil
 | x :: l, h => by
  have h1 := (text_scan _ x (Nat.le_refl _) (h x (List.mem_cons_self ..))).appA end10 (blank_scan (c := 10) (by decide))
  rw [List.append_nil] at h1
  exact h1.appA (lines_scan fun y hy => h y (List.mem_cons_of_mem _ hy))
def sizeT (l : List Tk) : Nat := (l.map fun t => (tkT t).length + 1).sum
theorem sizeT_append (a b : List Tk) : sizeT (a ++ b) = sizeT a + sizeT b := by simp [sizeT]
theorem join_size : ∀ {l : List Nd}, (∀ x ∈ l, (textN x).length + 1 <= sizeT (toksN x)) -> (joinM [32] (l.map textN)).length <= sizeT (toksL l)
 | [], _ => Nat.zero_le _
 | [x], h => by
  rw [toksL_one]
  have := h x (List.mem_cons_self ..)
  show (textN x).length <= _
  omega
 | x :: y :: l, h => by
  have h1 := h x (List.mem_cons_self ..)
  have h2 := join_size (l := y :: l) fun z hz => h z (List.mem_cons_of_mem _ hz)
  show (textN x ++ [32] ++ joinM [32] ((y :: l).map textN)).length <= sizeT (toksN x ++ toksL (y :: l))
  rw [sizeT_append]
  simp only [List.length_append, List.length_singleton]
  omega
theorem text_size : ∀ (m : Nat) (x : Nd), x.sz <= m -> Wf x -> (textN x).length + 1 <= sizeT (toksN x)
 | 0, x, h, _ => by rw [Nd.sz_eq] at h; omega
 | m + 1, x, hm, hw => by
  have ih : ∀ y ∈ x.kids, (textN y).length + 1 <= sizeT (toksN y) := fun y hy => text_size m y (by have := Nd.sz_kid hy; omega) (hw.kids y hy)
  rw [textN_eq, toksN_eq]
  by_cases h8 : x.k = 8
  ·rw [if_pos h8, if_pos h8]
   cases hw with
   | leaf k pos i s h h4 h5 h8' => exact absurd h8 h8'
   | list => cases h8
   | no pos k p i s h h4 h5 h8' =>
    have := ih (.mk k p i s []) (List.mem_singleton.2 rfl)
    show (126 :: ([textN (.mk k p i s [])]).flatten).length + 1 <= sizeT ([⟨8, 0, []⟩] ++ toksL [.mk k p i s []])
    rw [sizeT_append, toksL_one, List.flatten_cons, List.flatten_nil, List.append_nil, List.length_cons]
    have e : sizeT [⟨8, 0, []⟩] = 2 := by decide
    omega
  ·rw [if_neg h8, if_neg h8]
   by_cases h0 : x.k = 0
   ·rw [if_pos h0, if_pos h0]
    have hj := join_size ih
    show (40 :: (joinM [32] (x.kids.map textN) ++ [41])).length + 1 <= sizeT ([⟨4, 0, []⟩] ++ (toksL x.kids ++ [⟨5, 0, []⟩]))
    rw [sizeT_append, sizeT_append]
    have e1 : sizeT [⟨4, 0, []⟩] = 2 := by decide
    have e2 : sizeT [⟨5, 0, []⟩] = 2 := by decide
    simp only [List.length_cons, List.length_append, List.length_nil]
    omega
   ·rw [if_neg h0, if_neg h0]
    simp [sizeT]
theorem lines_size : ∀ {l : List Nd}, (∀ x ∈ l, Wf x) -> (linesN l).length <= sizeT (toksL l)
 | [], _ => Nat.le_refl _
 | x :: l, h => by
  have h1 := text_size _ x (Nat.le_refl _) (h x (List.mem_cons_self ..))
  have h2 := lines_size (l := l) fun y hy => h y (List.mem_cons_of_mem _ hy)
  show (textN x ++ [10] ++ linesN l).length <= sizeT (toksN x ++ toksL l)
  rw [sizeT_append]
  simp only [List.length_append, List.length_singleton]
  omega
theorem relT_of : ∀ {l m : List Tok}, l.map Tok.tk = m.map Tok.tk -> RelT (fun _ _ => True) l m
 | [], [], _ => .nil
 | t :: l, u :: m, h => by
  simp only [List.map_cons, List.cons.injEq] at h
  exact .cons h.1.symm trivial (relT_of h.2)
 | [], u :: m, h => by cases h
 | t :: l, [], h => by cases h
theorem size_eq : ∀ l : List Tok, sizeT (l.map Tok.tk) = sizeL l + l.length
 | [] => rfl
 | t :: l => by
  have ih := size_eq l
  simp only [sizeT, sizeL, List.map_cons, List.map_map, List.sum_cons, List.length_cons] at ih ⊢
  rw [ih]
  show (tkT t.tk).length + 1 + _ = (tkT t.tk).length + _ + _
  omega
theorem read_back {b : List UInt8} {res : List Nd} (hb : b.length <= 2000) (h : readM b = .ok res) : (linesN res).length <= 65536 /\ ∃ res', readM (linesN res) = .ok res' /\ RelL (fun _ _ => True) res res' := by
 obtain ⟨hw, _⟩ := readM_ok h
 unfold readM at h
 split at h
 ·cases h
 ·rename_i l hl
  have hk := scanL_kind hl
  have hll := scanL_len hl
  rw [<- run_read fun t ht => plain_of (hk t ht)] at h
  have ht := run_toks _ l _ res hk h
  have ht : toksL res = l.map Tok.tk := ht
  have hsz : sizeT (toksL res) <= 46000 := by
   have h1 : scanM 0 b = .ok l := by
    unfold scanL at hl
    rw [if_neg (by omega)] at hl
    exact hl
   have h2 := scanM_size _ b 0 l (Nat.le_refl _) h1
   have e : sizeT (toksL res) = sizeL l + l.length := by
    rw [ht]
    exact size_eq l
   omega
  have hls := lines_size hw
  obtain ⟨l', k1, k2⟩ := lines_scan hw 0
  have k2 := k2 []
  rw [List.append_nil, show scanM (0 + (linesN res).length) [] = .ok [] from scanM_nil rfl] at k2
  have hs : scanL (linesN res) = .ok l' := by
   unfold scanL
   rw [if_neg (by omega), k2]
   simp [ahead]
  have hrel := relT_of (l := l) (m := l') (by rw [k1, ht])
  obtain ⟨res', r1, r2⟩ := run_rel (o := []) (d := 0) _ l l' ⟨0, [], []⟩ ⟨0, [], []⟩ res ⟨rfl, .nil, [], rfl, .nil⟩ hrel (.inl rfl) h
  refine ⟨by omega, res', ?_, r2⟩
  unfold readM
  rw [hs]
  simp only
  have hlen : l'.length = l.length := by
   have := congrArg List.length k1
   rw [List.length_map, ht, List.length_map] at this
   exact this
  rw [<- run_read fun t ht => plain_of (scanL_kind hs t ht), hlen]
  exact r1
end Go.Proofs.YtnlknpeelpnbaaaGreatDoorPe.Read
