/- A part of the proof of this folder's statement; it has no condition of its own. -/
import Derived.Test.YtnlknpeelpnbaaaGreatDoorReadRm
set_option linter.unusedVariables false
set_option linter.unusedSimpArgs false
set_option maxRecDepth 100000
namespace Go.Proofs.YtnlknpeelpnbaaaGreatDoorPe.Read
open Go Go.Proofs Go.Proofs.YtnlknpeelpnbaaaGreatDoorPe Go.Proofs.YtnlknpeelpnbaaaGreatDoorPe.ReadCode
theorem shead_t (n : Nd) : tupV (callE efns given) (.call 0 f_sexp_Head) [n.p] = some (.str (headM n)) := by
 rw [Nd.p_eq]
 refine call_good (f := f_sexp_Head) rfl ?_
 rw [callE_fn efns given (c := e_sexp_Head) rfl rfl]
 unfold headM
 by_cases h0 : n.k = 0
 ·cases hk : n.kids with
  | nil =>
   simp only [e_sexp_Head, go_sem, Nd.cells, h0, hk, ne_eq, List.length_nil, List.map_nil]
   exact Good.done rfl
  | cons x l =>
   have c : ((((List.map Nd.p l).length + 1 : Nat) : Int) = 0) = False := eq_false (by omega)
   by_cases h2 : x.k = 2
   ·simp only [e_sexp_Head, go_sem, Nd.cells, h0, hk, h2, c, Nd.at0, ne_eq]
    exact Good.done rfl
   ·simp only [e_sexp_Head, go_sem, Nd.cells, h0, hk, h2, c, Nd.at0, ne_eq]
    exact Good.done rfl
 ·simp only [e_sexp_Head, go_sem, Nd.cells, h0, ne_eq]
  exact Good.done rfl
theorem Nd.szs_take {l : List Nd} {n : Nat} (h : n < l.length) : Nd.szs (l.take (n + 1)) = Nd.szs (l.take n) + l[n].sz := by
 rw [take_succ_at h, Nd.szs_append]
 simp [Nd.szs]
theorem Nd.szs_take_le (l : List Nd) (n : Nat) : Nd.szs (l.take n) <= Nd.szs l := by
 have := Nd.szs_append (l.take n) (l.drop n)
 rw [List.take_append_drop] at this
 omega
theorem scount_t : ∀ (m : Nat) (x : Nd), x.sz <= m -> m <= 1000000 -> tupV (callE efns given) (.call 0 f_sexp_Count) [x.p] = some (.int .i64 (x.sz : Int)) := by
 intro m
 induction m with
 | zero => intro x h; rw [Nd.sz_eq] at h; omega
 | succ m ih =>
  intro x hm hle
  have hkl := Nd.len_sz x.kids
  have hsz := Nd.sz_eq x
  rw [Nd.p_eq]
  refine call_good (f := f_sexp_Count) rfl ?_
  rw [callE_fn efns given (c := e_sexp_Count) rfl rfl]
  simp only [e_sexp_Count, go_sem, Nd.cells, List.length_map]
  refine Good.for x.kids.length (fun n fr st => ∃ rest bt, fr = [.undef, .undef, .int .i64 ((Nd.szs (x.kids.take n) + 1 : Nat) : Int), .undef, .lst (x.kids.map Nd.p), .int .i64 (x.kids.length : Int), .int .i64 (n : Int), .undef] /\ st = ⟨x.cells :: rest, [], bt, []⟩) ?_ ?_ ?_
  ·rintro n fr st hn ⟨rest, bt, rfl, rfl⟩ k hk
   have c1 : ((n : Int) < (x.kids.length : Int)) = True := eq_true (by omega)
   have hs := ih x.kids[n] (by have := Nd.sz_kid (List.getElem_mem hn); omega) (by omega)
   have h1 := Nd.szs_take hn
   have h2 := Nd.szs_take_le x.kids (n + 1)
   have w1 : IntKind.i64.wrap (((Nd.szs (x.kids.take n) + 1 : Nat) : Int) + (x.kids[n].sz : Int)) = ((Nd.szs (x.kids.take (n + 1)) + 1 : Nat) : Int) := by rw [IntKind.wrap_i64]; omega
   rw [Nd.p_eq] at hs
   have hat := Nd.at_ hn
   generalize x.kids[n] = y at hs hat w1
   simp only [Nd.cells] at hs hat
   simp only [b_sexp_Count_0, go_sem, Nd.cells, hat, c1, hs, w1, wrapN (n := n) (by omega)]
   exact hk _ _ ⟨_, _, rfl, rfl⟩
  ·rintro fr st ⟨rest, bt, rfl, rfl⟩ k
   simp only [b_sexp_Count_0, go_sem, Nd.cells, Int.lt_irrefl]
   refine Good.done ?_
   rw [List.take_length, <- hsz]
   rfl
  ·exact ⟨[], _, rfl, rfl⟩
end Go.Proofs.YtnlknpeelpnbaaaGreatDoorPe.Read
set_option linter.unusedVariables false
set_option linter.unusedSimpArgs false
set_option maxRecDepth 100000
namespace Go.Proofs.YtnlknpeelpnbaaaGreatDoorPe.Read
open Go Go.Proofs Go.Proofs.YtnlknpeelpnbaaaGreatDoorPe Go.Proofs.YtnlknpeelpnbaaaGreatDoorPe.ReadCode
mutual
def textN : Nd -> List UInt8
 | .mk k _ i s l => if k = 8 then 126 :: (textsN l).flatten else if k = 0 then 40 :: (joinM [32] (textsN l) ++ [41]) else tkT ⟨k, i, s⟩
def textsN : List Nd -> List (List UInt8)
 | [] => []
 | x :: l => textN x :: textsN l
end
theorem textsN_eq : ∀ l : List Nd, textsN l = l.map textN
 | [] => by simp [textsN]
 | x :: l => by simp [textsN, textsN_eq l]
theorem textN_eq (x : Nd) : textN x = if x.k = 8 then 126 :: (x.kids.map textN).flatten else if x.k = 0 then 40 :: (joinM [32] (x.kids.map textN) ++ [41]) else tkT ⟨x.k, x.i, x.s⟩ := by
 cases x
 simp only [textN, textsN_eq, Nd.k, Nd.kids, Nd.i, Nd.s]
 all_goals rfl
inductive Wf : Nd -> Prop where
 | leaf (k pos i : Int) (s : List UInt8) (h : TokK ⟨k, i, s⟩) (h4 : ¬ k = 4) (h5 : ¬ k = 5) (h8 : ¬ k = 8) : Wf (.mk k pos i s [])
 | no (pos : Int) (k p i : Int) (s : List UInt8) (h : TokK ⟨k, i, s⟩) (h4 : ¬ k = 4) (h5 : ¬ k = 5) (h8 : ¬ k = 8) : Wf (.mk 8 pos 0 [] [.mk k p i s []])
 | list (pos : Int) (l : List Nd) (h : ∀ x, x ∈ l -> Wf x) : Wf (.mk 0 pos 0 [] l)
theorem TokK.ne0 {k i : Int} {s : List UInt8} (h : TokK ⟨k, i, s⟩) : ¬ k = 0 := by
 intro hk
 subst hk
 cases h with
 | sign _ h => omega
 | name _ _ h => omega
theorem Wf.kids {x : Nd} (h : Wf x) : ∀ y ∈ x.kids, Wf y := by
 cases h with
 | leaf => intro y hy; cases hy
 | no pos k p i s h h4 h5 h8 =>
  intro y hy
  simp only [Nd.kids, List.mem_singleton] at hy
  subst hy
  exact .leaf k p i s h h4 h5 h8
 | list pos l h => exact h
theorem Wf.tok {x : Nd} (h : Wf x) (h8 : ¬ x.k = 8) (h0 : ¬ x.k = 0) : TokK ⟨x.k, x.i, x.s⟩ /\ x.kids = [] := by
 cases h with
 | leaf k pos i s h => exact ⟨h, rfl⟩
 | no => exact absurd rfl h8
 | list => exact absurd rfl h0
theorem joinM_len (sep : List UInt8) : ∀ l : List (List UInt8), (joinM sep l).length <= (l.flatten).length + sep.length * l.length
 | [] => by simp [joinM]
 | [y] => by simp [joinM]
 | y :: z :: l => by
  have := joinM_len sep (z :: l)
  show (y ++ sep ++ joinM sep (z :: l)).length <= _
  simp only [List.length_append, List.flatten_cons, List.length_cons, Nat.mul_add] at this ⊢
  omega
theorem flat_len {l : List Nd} (h : ∀ x ∈ l, (textN x).length + 10 <= 2200 * x.sz) : ((l.map textN).flatten).length + 10 * l.length <= 2200 * Nd.szs l := by
 induction l with
 | nil => simp
 | cons x l ih =>
  have h1 := h x (List.mem_cons_self ..)
  have h2 := ih fun y hy => h y (List.mem_cons_of_mem _ hy)
  simp only [List.map_cons, List.flatten_cons, List.length_append, List.length_cons, Nd.szs, Nat.mul_add] at h1 h2 ⊢
  omega
theorem textN_len : ∀ (m : Nat) (x : Nd), x.sz <= m -> Wf x -> (textN x).length + 10 <= 2200 * x.sz := by
 intro m
 induction m with
 | zero => intro x h; rw [Nd.sz_eq] at h; omega
 | succ m ih =>
  intro x hm hw
  have hsz := Nd.sz_eq x
  have hf := flat_len (l := x.kids) fun y hy => ih y (by have := Nd.sz_kid hy; omega) (hw.kids y hy)
  rw [textN_eq]
  split
  ·simp only [List.length_cons]; omega
  ·split
   ·have := joinM_len [32] (x.kids.map textN)
    simp only [List.length_cons, List.length_append, List.length_nil, List.length_map] at this ⊢
    omega
   ·have := tkT_short (hw.tok (by assumption) (by assumption)).1
    omega
theorem join_take {l : List Nd} (n : Nat) (h : ∀ x ∈ l, (textN x).length + 10 <= 2200 * x.sz) : (joinM [32] ((l.take n).map textN)).length + 9 * n <= 2200 * Nd.szs l + 9 * n := by
 have h1 := joinM_len [32] ((l.take n).map textN)
 have h2 := flat_len (l := l.take n) fun y hy => h y (List.mem_of_mem_take hy)
 have h3 := Nd.szs_take_le l n
 simp only [List.length_singleton, List.length_map] at h1
 have : 2200 * Nd.szs (l.take n) <= 2200 * Nd.szs l := Nat.mul_le_mul_left _ h3
 omega
theorem join_t {v : PV} {xs : List (List UInt8)} {sep : List UInt8} (h : shutA shutN v = some (.lst (xs.map .str))) (h1 : xs.length <= 140737488355328) (h2 : (joinM sep xs).length <= 140737488355328) :
  tupV (callE efns given) (.call 0 f_strings_Join) [v, .str sep] = some (.str (joinM sep xs)) := by
 rw [V_call, mapO_two h (d := .str sep) rfl]
 show onS (callE efns given f_strings_Join [.lst (xs.map .str), .str sep] ⟨[], [], [], []⟩) _ = _
 rw [callE_given efns given rfl]
 have e : givenV given f_strings_Join [.lst (xs.map .str), .str sep] ⟨[], [], [], []⟩ = match given f_strings_Join [.lst (xs.map .str), .str sep] with
   | some r => givAns r ⟨[], [], [], []⟩
   | none => none := rfl
 rw [e]
 have hj : joinG [.lst (xs.map .str), .str sep] = some (.str (joinM sep xs)) := by
  unfold joinG
  simp only [strsOf_map]
  rw [if_pos ⟨h1, h2⟩]
 simp only [given_join, hj]
 rfl
theorem flat_take {l : List Nd} {n : Nat} (h : n < l.length) : ((l.take (n + 1)).map textN).flatten = ((l.take n).map textN).flatten ++ textN l[n] := by
 rw [take_succ_at h, List.map_append, List.flatten_append]
 simp only [List.map_cons, List.map_nil, List.flatten_cons, List.flatten_nil, List.append_nil]
theorem flat_take_len {l : List Nd} (n : Nat) (h : ∀ x ∈ l, (textN x).length + 10 <= 2200 * x.sz) : (((l.take n).map textN).flatten).length <= 2200 * Nd.szs l := by
 have h2 := flat_len (l := l.take n) fun y hy => h y (List.mem_of_mem_take hy)
 have h3 := Nd.szs_take_le l n
 have : 2200 * Nd.szs (l.take n) <= 2200 * Nd.szs l := Nat.mul_le_mul_left _ h3
 omega
theorem map_text_p (l : List Nd) : l.map (fun x => PV.str (textN x)) = (l.map textN).map PV.str := by rw [List.map_map]; rfl
theorem stext_t : ∀ (m : Nat) (x : Nd), x.sz <= m -> m <= 100000 -> Wf x -> tupV (callE efns given) (.call 0 f_sexp_Text) [x.p] = some (.str (textN x)) := by
 intro m
 induction m with
 | zero => intro x h; rw [Nd.sz_eq] at h; omega
 | succ m ih =>
  intro x hm hle hw
  have hkl := Nd.len_sz x.kids
  have hsz := Nd.sz_eq x
  have hlen : ∀ y ∈ x.kids, (textN y).length + 10 <= 2200 * y.sz := fun y hy => textN_len _ y (Nat.le_refl _) (hw.kids y hy)
  rw [Nd.p_eq, textN_eq]
  refine call_good (f := f_sexp_Text) rfl ?_
  rw [callE_fn efns given (c := e_sexp_Text) rfl rfl]
  by_cases h8 : x.k = 8
  ·have h0 : ¬ x.k = 0 := by omega
   rw [if_pos h8]
   simp only [e_sexp_Text, go_sem, Nd.cells, eq_true h8, eq_false h0, List.length_map]
   refine Good.for x.kids.length (fun n fr st => ∃ rest bt, fr = [.undef, .undef, .undef, .undef, .str (126 :: ((x.kids.take n).map textN).flatten), .undef, .undef, .undef, .undef, .undef, .undef, .undef, .lst (x.kids.map Nd.p), .int .i64 (x.kids.length : Int), .int .i64 (n : Int), .undef, .undef, .undef, .undef] /\ st = ⟨x.cells :: rest, [], bt, []⟩) ?_ ?_ ?_
   ·rintro n fr st hn ⟨rest, bt, rfl, rfl⟩ k hk
    have c1 : ((n : Int) < (x.kids.length : Int)) = True := eq_true (by omega)
    have hs := ih x.kids[n] (by have := Nd.sz_kid (List.getElem_mem hn); omega) (by omega) (hw.kids _ (List.getElem_mem hn))
    have hl1 := flat_take_len n hlen
    have hl2 := flat_take_len (n + 1) hlen
    rw [flat_take hn, List.length_append] at hl2
    have h1 := flat_take hn
    rw [Nd.p_eq] at hs
    have hat := Nd.at_ hn
    generalize x.kids[n] = y at hs hat h1 hl2
    have c2 : (((x.kids.take n).map textN).flatten.length + 1 + (textN y).length <= 4611686018427387904) = True := eq_true (by omega)
    simp only [Nd.cells] at hs hat
    simp only [b_sexp_Text_1, go_sem, Nd.cells, hat, c1, hs, c2, wrapN (n := n) (by omega), List.length_cons]
    refine hk _ _ ⟨_, _, ?_, rfl⟩
    rw [h1]
   ·rintro fr st ⟨rest, bt, rfl, rfl⟩ k
    simp only [b_sexp_Text_1, go_sem, Nd.cells, Int.lt_irrefl]
    refine Good.done ?_
    rw [List.take_length]
    rfl
   ·exact ⟨[], _, rfl, rfl⟩
  ·rw [if_neg h8]
   by_cases h0 : x.k = 0
   ·rw [if_pos h0]
    simp only [e_sexp_Text, go_sem, Nd.cells, eq_false h8, eq_true h0, List.length_map]
    refine Good.for x.kids.length (fun n fr st => ∃ out rows rt rest bt, fr = [.undef, .undef, out, .undef, .undef, .undef, .undef, .lst (x.kids.map Nd.p), .int .i64 (x.kids.length : Int), .int .i64 (n : Int), .undef, .undef, .undef, .undef, .undef, .undef, .undef, .undef, .undef] /\ st = ⟨x.cells :: rest, rows, bt, rt⟩ /\
     OutV 1 T_sexp_Text_0 ((x.kids.take n).map fun x => .str (textN x)) out rows rt /\ rt.length = rows.length) ?_ ?_ ?_
    ·rintro n fr st hn ⟨out, rows, rt, rest, bt, rfl, rfl, hO, hr⟩ k hk
     have c1 : ((n : Int) < (x.kids.length : Int)) = True := eq_true (by omega)
     have hs := ih x.kids[n] (by have := Nd.sz_kid (List.getElem_mem hn); omega) (by omega) (hw.kids _ (List.getElem_mem hn))
     obtain ⟨out', rows', rt', ap, hO', hr', _⟩ := hO.app1 (b := 16) hr (e := .str (textN x.kids[n])) rfl (by simp; omega)
     have h1 : (x.kids.take (n + 1)).map (fun x => PV.str (textN x)) = (x.kids.take n).map (fun x => PV.str (textN x)) ++ [.str (textN x.kids[n])] := by rw [take_succ_at hn, List.map_append, List.map_singleton]
     rw [<- h1] at hO'
     rw [Nd.p_eq] at hs
     have hat := Nd.at_ hn
     generalize x.kids[n] = y at hs hat ap
     have hb : tupV (callE efns given) (.bslice 1 [.str []] 1 [0]) [.str (textN y)] = some (.full [.str (textN y)]) := V_bs1 rfl rfl rfl
     simp only [Nd.cells] at hs hat
     simp only [b_sexp_Text_0, go_sem, Nd.cells, hat, c1, hs, hb, ap, wrapN (n := n) (by omega)]
     exact hk _ _ ⟨_, _, _, _, _, rfl, rfl, hO', hr'⟩
    ·rintro fr st ⟨out, rows, rt, rest, bt, rfl, rfl, hO, hr⟩ k
     rw [List.take_length] at hO
     have hjl := join_take x.kids.length hlen
     rw [List.take_length] at hjl
     have hj := join_t (v := out) (xs := x.kids.map textN) (sep := [32]) (by rw [<- map_text_p]; exact hO.shutA 5) (by rw [List.length_map]; omega) (by omega)
     have c2 : (1 + (joinM [32] (x.kids.map textN)).length <= 4611686018427387904) = True := eq_true (by omega)
     have c3 : ((joinM [32] (x.kids.map textN)).length + 1 + 1 <= 4611686018427387904) = True := eq_true (by omega)
     simp only [b_sexp_Text_0, go_sem, Nd.cells, Int.lt_irrefl, hj, c2, c3, List.length_cons, List.length_nil]
     exact Good.done rfl
    ·exact ⟨.nils, [], [], [], _, rfl, rfl, .nils, rfl⟩
   ·rw [if_neg h0]
    obtain ⟨hk, _⟩ := hw.tok h8 h0
    have ht : tupV (callE efns given) (.call 0 f_lex_Text) [.agg [.int .i64 x.k, .int .i64 0, .int .i64 x.i, .str x.s]] = some (.str (tkT ⟨x.k, x.i, x.s⟩)) := text_t ⟨x.k, 0, x.i, x.s⟩ (Tok.small hk)
    simp only [e_sexp_Text, go_sem, Nd.cells, eq_false h8, eq_false h0, ht]
    exact Good.done rfl
end Go.Proofs.YtnlknpeelpnbaaaGreatDoorPe.Read
set_option linter.unusedVariables false
set_option linter.unusedSimpArgs false
set_option maxRecDepth 100000
namespace Go.Proofs.YtnlknpeelpnbaaaGreatDoorPe.Read
open Go Go.Proofs Go.Proofs.YtnlknpeelpnbaaaGreatDoorPe Go.Proofs.YtnlknpeelpnbaaaGreatDoorPe.ReadCode
end Go.Proofs.YtnlknpeelpnbaaaGreatDoorPe.Read
set_option linter.unusedVariables false
set_option linter.unusedSimpArgs false
set_option maxRecDepth 100000
namespace Go.Proofs.YtnlknpeelpnbaaaGreatDoorPe.Read
open Go Go.Proofs Go.Proofs.YtnlknpeelpnbaaaGreatDoorPe Go.Proofs.YtnlknpeelpnbaaaGreatDoorPe.ReadCode
def WfR (r : Rd) : Prop := (∀ x ∈ r.out, Wf x) /\ ∀ s ∈ r.stk, ∀ x ∈ s.2, Wf x
theorem put_wf {x : Nd} {stk : Stk} {out : List Nd} {n m : Nat} (hx : Wf x) (h : WfR ⟨n, stk, out⟩) : WfR ⟨m, (putM x stk out).1, (putM x stk out).2⟩ := by
 obtain ⟨h1, h2⟩ := h
 cases stk with
 | nil =>
  refine ⟨fun y hy => ?_, fun s hs => (by cases hs)⟩
  rcases List.mem_append.1 hy with hy | hy
  ·exact h1 y hy
  ·rw [List.mem_singleton.1 hy]; exact hx
 | cons s r =>
  obtain ⟨a, ks⟩ := s
  refine ⟨h1, fun s hs y hy => ?_⟩
  rcases List.mem_cons.1 hs with rfl | hs
  ·rcases List.mem_append.1 hy with hy | hy
   ·exact h2 (a, ks) (List.mem_cons_self ..) y hy
   ·rw [List.mem_singleton.1 hy]; exact hx
  ·exact h2 s (List.mem_cons_of_mem _ hs) y hy
theorem step_wf {t : Tok} {ts : List Tok} {r : Rd} {q : Nat × Rd} (ht : ∀ u ∈ t :: ts, TokK u.tk) (h : WfR r) (hq : stepM t ts r = .ok q) : WfR q.2 := by
 obtain ⟨n, stk, out⟩ := r
 have htk := ht t (List.mem_cons_self ..)
 unfold stepM at hq
 split at hq
 ·split at hq
  ·cases hq
  ·split at hq
   ·cases hq
   ·rename_i u us
    have hu := ht u (List.mem_cons_of_mem _ (List.mem_cons_self ..))
    split at hq
    ·cases hq
    ·rename_i hk
     split at hq
     ·cases hq
     ·cases hq
      exact put_wf (.no _ _ _ _ _ hu (fun e => hk (.inl e)) (fun e => hk (.inr (.inl e))) fun e => hk (.inr (.inr e))) h
 ·rename_i h8
  split at hq
  ·split at hq
   ·cases hq
   ·split at hq
    ·cases hq
    ·cases hq
     refine ⟨h.1, fun s hs y hy => ?_⟩
     rcases List.mem_cons.1 hs with rfl | hs
     ·cases hy
     ·exact h.2 s hs y hy
  ·rename_i h4
   split at hq
   ·split at hq
    ·cases hq
    ·rename_i a ks s hs
     simp only at hs
     subst hs
     cases hq
     exact put_wf (.list _ _ (h.2 (a, ks) (List.mem_cons_self ..))) (n := n) ⟨h.1, fun s' hs' => h.2 s' (List.mem_cons_of_mem _ hs')⟩
   ·rename_i h5
    split at hq
    ·cases hq
    ·cases hq
     exact put_wf (.leaf _ _ _ _ htk h4 h5 h8) h
theorem run_wf : ∀ (f : Nat) (l : List Tok) (r : Rd) (res : List Nd), (∀ t ∈ l, TokK t.tk) -> WfR r -> runM f l r = .ok res -> ∀ x ∈ res, Wf x
 | 0, _, _, _, _, _, h => by unfold runM at h; cases h
 | f + 1, l, r, res, ht, hw, h => by
  unfold runM at h
  cases l with
  | nil =>
   simp only at h
   unfold endM at h
   split at h
   ·cases h; exact hw.1
   ·cases h
  | cons t ts =>
   simp only at h
   split at h
   ·cases h
   ·rename_i q hq
    exact run_wf f _ q.2 res (fun u hu => ht u (List.mem_of_mem_drop hu)) (step_wf ht hw hq) h
theorem readM_ok {b : List UInt8} {r : List Nd} (h : readM b = .ok r) : (∀ x ∈ r, Wf x) /\ Nd.szs r <= 4096 := by
 unfold readM at h
 split at h
 ·cases h
 ·rename_i l hl
  have hk := scanL_kind hl
  refine ⟨?_, readL_sz h⟩
  rw [<- run_read fun t ht => plain_of (hk t ht)] at h
  exact run_wf _ l _ r hk ⟨fun x hx => (by cases hx), fun s hs => (by cases hs)⟩ h
theorem of_t : ∀ (m : Nat) (x : Nd), x.sz <= m -> m <= 1000000 -> tupV (callE efns given) (.call 0 f_law5_Of) [x.p] = some x.p := by
 intro m
 induction m with
 | zero => intro x h; rw [Nd.sz_eq] at h; omega
 | succ m ih =>
  intro x hm hle
  have hkl := Nd.len_sz x.kids
  have hsz := Nd.sz_eq x
  rw [Nd.p_eq]
  refine call_good (f := f_law5_Of) rfl ?_
  rw [callE_fn efns given (c := e_law5_Of) rfl rfl]
  simp only [e_law5_Of, go_sem, Nd.cells]
  refine Good.for x.kids.length (fun n fr st => ∃ out rows rt, fr = [.undef, .ptr 0 0, .ptr 1 0, .ptr 2 0, .int .i64 (n : Int), .undef, .undef, .undef, .undef, .undef, .undef, .undef, .undef, .undef] /\
   st = ⟨[x.cells, [.int .i64 0, .int .i64 0, .int .i64 0, .str [], .nils], [.int .i64 x.k, .int .i64 x.pos, .int .i64 x.i, .str x.s, out]], rows, [T_law5_Of_1, T_law5_Of_0, T_law5_Of_0], rt⟩ /\
   OutV 5 T_law5_Of_0 ((x.kids.take n).map Nd.p) out rows rt /\ rt.length = rows.length) ?_ ?_ ?_
  ·rintro n fr st hn ⟨out, rows, rt, rfl, rfl, hO, hr⟩ k hk
   have c1 : ((n : Int) < (x.kids.length : Int)) = True := eq_true (by omega)
   have hs := ih x.kids[n] (by have := Nd.sz_kid (List.getElem_mem hn); omega) (by omega)
   rw [Nd.p_eq] at hs
   obtain ⟨out', rows', rt', ap, hO', hr', _⟩ := hO.app1 (b := 64) hr (e := .agg x.kids[n].cells) rfl (by simp; omega)
   have hat := Nd.at_ hn
   have hb : tupV (callE efns given) (.bslice 5 [.int .i64 0, .int .i64 0, .int .i64 0, .str [], .nils] 1 [0]) [.agg x.kids[n].cells] = some (.full [.agg x.kids[n].cells]) := V_bs1 rfl rfl rfl
   simp only [Nd.cells] at hs ap hat hb
   simp only [b_law5_Of_0, go_sem, Nd.cells, hat, List.length_map, c1, hs, hb, ap, hO'.cells, hO'.cell, wrapN (n := n) (by omega)]
   refine hk _ _ ⟨out', rows', rt', rfl, rfl, ?_, hr'⟩
   rw [take_succ_at hn, List.map_append, List.map_singleton, Nd.p_eq]
   exact hO'
  ·rintro fr st ⟨out, rows, rt, rfl, rfl, hO, hr⟩ k
   simp only [b_law5_Of_0, go_sem, Nd.cells, List.length_map, Int.lt_irrefl, hO.cells, hO.cell]
   refine Good.done ?_
   rw [List.take_length] at hO
   exact ret_agg (mS rfl (mS rfl (mS rfl (mS rfl (mS (hO.shutR _ _) mN)))))
  ·exact ⟨.nils, [], [], rfl, rfl, .nils, rfl⟩
end Go.Proofs.YtnlknpeelpnbaaaGreatDoorPe.Read
