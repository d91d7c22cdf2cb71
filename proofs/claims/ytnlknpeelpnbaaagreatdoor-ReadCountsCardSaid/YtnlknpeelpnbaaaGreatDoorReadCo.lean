/- A part of the proof of this folder's statement; it has no condition of its own. -/
import Derived.Test.YtnlknpeelpnbaaaGreatDoorReadSc
set_option linter.unusedVariables false
set_option linter.unusedSimpArgs false
set_option maxRecDepth 100000
namespace Go.Proofs.YtnlknpeelpnbaaaGreatDoorPe.Read
open Go Go.Proofs Go.Proofs.YtnlknpeelpnbaaaGreatDoorPe Go.Proofs.YtnlknpeelpnbaaaGreatDoorPe.ReadCode
def onesS (c : Nat) : List UInt8 := (List.replicate c [32, 49]).flatten
def listS (c : Nat) : List UInt8 := [40] ++ ([104] ++ (onesS c ++ [41]))
def onesT (c : Nat) : List Tk := List.replicate c ⟨1, 1, []⟩
def listT (c : Nat) : List Tk := [⟨4, 0, []⟩] ++ ([⟨2, 0, [104]⟩] ++ (onesT c ++ [⟨5, 0, []⟩]))
theorem tk_h : TokK ⟨2, 0, [104]⟩ := .sym [104] (by simp) (by simp) (by decide) (by decide)
theorem tk_1 : TokK ⟨1, 1, []⟩ := .int 1 (by decide)
theorem scan_h : ScT [104] [⟨2, 0, [104]⟩] := tok_scan tk_h
theorem scan_1 : ScT [49] [⟨1, 1, []⟩] := tok_scan tk_1
def EndF (s : List UInt8) : Prop := ∀ r, EndB (s ++ r)
theorem ones_end (c : Nat) (s : List UInt8) (h : EndF s) : EndF (onesS c ++ s) := by
 intro r
 cases c with
 | zero => exact h r
 | succ c => exact ⟨by decide, by decide⟩
theorem ones_scan : ∀ (c : Nat), ScA (onesS c ++ [41]) (onesT c ++ [⟨5, 0, []⟩])
 | 0 => sign_scan (.inr (.inl ⟨rfl, rfl⟩))
 | c + 1 => by
  have h := (blank_scan (c := 32) (by decide)).appA (scan_1.appA (ones_end c [41] end41) (ones_scan c))
  have e1 : [32] ++ ([49] ++ (onesS c ++ [41])) = onesS (c + 1) ++ [41] := by simp [onesS, List.replicate_succ]
  have e2 : [] ++ ([⟨1, 1, []⟩] ++ (onesT c ++ [⟨5, 0, []⟩])) = onesT (c + 1) ++ [(⟨5, 0, []⟩ : Tk)] := by simp [onesT, List.replicate_succ]
  rw [e1, e2] at h
  exact h
theorem list_scan (c : Nat) : ScA (listS c) (listT c) := (sign_scan (c := 40) (.inl ⟨rfl, rfl⟩)).appA (scan_h.appA (ones_end c [41] end41) (ones_scan c))
def allS (cs : List Nat) : List UInt8 := (cs.map listS).flatten
def allT (cs : List Nat) : List Tk := (cs.map listT).flatten
theorem all_scan : ∀ cs : List Nat, ScA (allS cs) (allT cs)
 | [] => ScA.nil
 | c :: cs => (list_scan c).appA (all_scan cs)
theorem step_leaf' {t : Tok} {ts : List Tok} {r : Rd} (h8 : ¬ t.k = 8) (h4 : ¬ t.k = 4) (h5 : ¬ t.k = 5) (hn : r.n + 1 <= 4096) : stepM t ts r = .ok (1, ⟨r.n + 1, (putM (leafN t) r.stk r.out).1, (putM (leafN t) r.stk r.out).2⟩) := by
 unfold stepM
 rw [if_neg h8, if_neg h4, if_neg h5, if_neg (by omega)]
theorem run_ones : ∀ (l : List Tok) (c : Nat) (m : List Tok) (g n a : Nat) (ks out : List Nd), l.map Tok.tk = onesT c -> n + c <= 4096 -> runM (c + g) (l ++ m) ⟨n, [(a, ks)], out⟩ = runM g m ⟨n + c, [(a, ks ++ l.map leafN)], out⟩
 | [], c, m, g, n, a, ks, out, h, hn => by
  have : c = 0 := by
   have := congrArg List.length h
   simpa [onesT] using this.symm
  subst this
  simp
 | t :: l, 0, m, g, n, a, ks, out, h, hn => by cases h
 | t :: l, c + 1, m, g, n, a, ks, out, h, hn => by
  simp only [onesT, List.replicate_succ, List.map_cons, List.cons.injEq] at h
  have hk : t.k = 1 := congrArg Tk.k h.1
  have e : c + 1 + g = c + g + 1 := by omega
  rw [e]
  show (match stepM t (l ++ m) ⟨n, [(a, ks)], out⟩ with
   | .error e => (.error e : Er (List Nd))
   | .ok q => runM (c + g) ((t :: (l ++ m)).drop q.1) q.2) = _
  rw [step_leaf' (by omega) (by omega) (by omega) (by simp only; omega)]
  show runM (c + g) (l ++ m) ⟨n + 1, [(a, ks ++ [leafN t])], out⟩ = _
  rw [run_ones l c m g (n + 1) a (ks ++ [leafN t]) out h.2 (by omega)]
  have e2 : n + 1 + c = n + (c + 1) := by omega
  rw [e2, List.map_cons, List.append_assoc]
  rfl
def IsList (c : Nat) (x : Nd) : Prop := x.sz = c + 2 /\ headM x = [104]
theorem ones_sz : ∀ l : List Tok, Nd.szs (l.map leafN) = l.length
 | [] => rfl
 | t :: l => by
  simp only [List.map_cons, Nd.szs, leafN, Nd.sz, List.length_cons]
  have := ones_sz l
  omega
theorem map_split {l : List Tok} {a b : List Tk} (h : l.map Tok.tk = a ++ b) : ∃ l1 l2, l = l1 ++ l2 /\ l1.map Tok.tk = a /\ l2.map Tok.tk = b := List.map_eq_append_iff.1 h
theorem run_list {l : List Tok} {c : Nat} {m : List Tok} {g n : Nat} {out : List Nd} (h : l.map Tok.tk = listT c) (hn : n + c + 2 <= 4096) : ∃ x, IsList c x /\ runM (c + 3 + g) (l ++ m) ⟨n, [], out⟩ = runM g m ⟨n + c + 2, [], out ++ [x]⟩ := by
 unfold listT at h
 obtain ⟨l1, l2, rfl, h1, h2⟩ := map_split h
 obtain ⟨l3, l4, rfl, h3, h4⟩ := map_split h2
 obtain ⟨l5, l6, rfl, h5, h6⟩ := map_split h4
 obtain ⟨o, rfl, ho⟩ : ∃ o, l1 = [o] /\ o.tk = ⟨4, 0, []⟩ := by
  cases l1 with
  | nil => cases h1
  | cons o l => simp only [List.map_cons, List.cons.injEq, List.map_eq_nil_iff] at h1; exact ⟨o, by rw [h1.2], h1.1⟩
 obtain ⟨w, rfl, hw⟩ : ∃ o, l3 = [o] /\ o.tk = ⟨2, 0, [104]⟩ := by
  cases l3 with
  | nil => cases h3
  | cons o l => simp only [List.map_cons, List.cons.injEq, List.map_eq_nil_iff] at h3; exact ⟨o, by rw [h3.2], h3.1⟩
 obtain ⟨z, rfl, hz⟩ : ∃ o, l6 = [o] /\ o.tk = ⟨5, 0, []⟩ := by
  cases l6 with
  | nil => cases h6
  | cons o l => simp only [List.map_cons, List.cons.injEq, List.map_eq_nil_iff] at h6; exact ⟨o, by rw [h6.2], h6.1⟩
 have ko : o.k = 4 := congrArg Tk.k ho
 have kw : w.k = 2 := congrArg Tk.k hw
 have sw : w.s = [104] := congrArg Tk.s hw
 have kz : z.k = 5 := congrArg Tk.k hz
 have hlen : l5.length = c := by
  have := congrArg List.length h5
  simpa [onesT] using this
 refine ⟨.mk 0 o.pos 0 [] (leafN w :: l5.map leafN), ⟨?_, ?_⟩, ?_⟩
 ·have := ones_sz l5
  simp only [Nd.sz, Nd.szs, leafN]
  omega
 ·show (if (0 : Int) = 0 then (if w.k = 2 then w.s else []) else []) = _
  rw [if_pos rfl, if_pos kw, sw]
 ·have e : c + 3 + g = (c + (g + 1)) + 1 + 1 := by omega
  rw [e]
  show (match stepM o (w :: (l5 ++ [z] ++ m)) ⟨n, [], out⟩ with
   | .error e => (.error e : Er (List Nd))
   | .ok q => runM (c + (g + 1) + 1) ((o :: w :: (l5 ++ [z] ++ m)).drop q.1) q.2) = _
  have s1 : stepM o (w :: (l5 ++ [z] ++ m)) ⟨n, [], out⟩ = .ok (1, ⟨n + 1, [(o.pos, [])], out⟩) := by
   unfold stepM
   rw [if_neg (by omega), if_pos ko, if_neg (by simp), if_neg (by simp only; omega)]
  rw [s1]
  show (match stepM w (l5 ++ [z] ++ m) ⟨n + 1, [(o.pos, [])], out⟩ with
   | .error e => (.error e : Er (List Nd))
   | .ok q => runM (c + (g + 1)) ((w :: (l5 ++ [z] ++ m)).drop q.1) q.2) = _
  rw [step_leaf' (by omega) (by omega) (by omega) (by simp only; omega)]
  show runM (c + (g + 1)) (l5 ++ [z] ++ m) ⟨n + 1 + 1, [(o.pos, [leafN w])], out⟩ = _
  rw [List.append_assoc, run_ones l5 c _ _ _ _ _ _ h5 (by omega)]
  show (match stepM z m ⟨n + 1 + 1 + c, [(o.pos, [leafN w] ++ l5.map leafN)], out⟩ with
   | .error e => (.error e : Er (List Nd))
   | .ok q => runM g ((z :: m).drop q.1) q.2) = _
  have s2 : stepM z m ⟨n + 1 + 1 + c, [(o.pos, [leafN w] ++ l5.map leafN)], out⟩ = .ok (1, ⟨n + 1 + 1 + c, [], out ++ [.mk 0 o.pos 0 [] ([leafN w] ++ l5.map leafN)]⟩) := by
   unfold stepM
   rw [if_neg (by omega), if_neg (by omega), if_pos kz]
   rfl
  rw [s2]
  have e3 : n + 1 + 1 + c = n + c + 2 := by omega
  rw [e3]
  rfl
inductive AreLists : List Nat -> List Nd -> Prop where
 | nil : AreLists [] []
 | cons {c : Nat} {x : Nd} {cs : List Nat} {xs : List Nd} (h : IsList c x) (t : AreLists cs xs) : AreLists (c :: cs) (x :: xs)
theorem run_all : ∀ (cs : List Nat) (l : List Tok) (n : Nat) (out : List Nd), l.map Tok.tk = allT cs -> n + l.length <= 4096 -> ∃ xs, AreLists cs xs /\ runM (l.length + 1) l ⟨n, [], out⟩ = .ok (out ++ xs)
 | [], l, n, out, h, hn => by
  have : l = [] := by simpa [allT] using h
  subst this
  exact ⟨[], .nil, by simp [runM, endM]⟩
 | c :: cs, l, n, out, h, hn => by
  have h' : l.map Tok.tk = listT c ++ allT cs := h
  obtain ⟨l1, l2, rfl, h1, h2⟩ := map_split h'
  have hl1 : l1.length = c + 3 := by
   have := congrArg List.length h1
   simp [listT, onesT] at this
   omega
  rw [List.length_append] at hn
  obtain ⟨x, hx, hr⟩ := run_list (m := l2) (g := l2.length + 1) (n := n) (out := out) h1 (by omega)
  obtain ⟨xs, hxs, hr2⟩ := run_all cs l2 (n + c + 2) (out ++ [x]) h2 (by omega)
  refine ⟨x :: xs, .cons hx hxs, ?_⟩
  have e : (l1 ++ l2).length + 1 = c + 3 + (l2.length + 1) := by rw [List.length_append]; omega
  rw [e, hr, hr2, List.append_assoc]
  rfl
theorem AreLists.len {cs : List Nat} {xs : List Nd} (h : AreLists cs xs) : cs.length = xs.length := by
 induction h with
 | nil => rfl
 | cons _ _ ih => simp [ih]
theorem AreLists.at {cs : List Nat} {xs : List Nd} (h : AreLists cs xs) : ∀ {n : Nat} (h1 : n < cs.length) (h2 : n < xs.length), IsList cs[n] xs[n] := by
 induction h with
 | nil => intro n h1; cases h1
 | cons h _ ih =>
  intro n h1 h2
  cases n with
  | zero => exact h
  | succ n => exact ih (Nat.lt_of_succ_lt_succ h1) (Nat.lt_of_succ_lt_succ h2)
theorem onesS_len (c : Nat) : (onesS c).length = 2 * c := by
 induction c with
 | zero => rfl
 | succ c ih =>
  have : onesS (c + 1) = [32, 49] ++ onesS c := by simp [onesS, List.replicate_succ]
  rw [this, List.length_append, ih]
  simp only [List.length_cons, List.length_nil]
  omega
theorem listS_len (c : Nat) : (listS c).length = 2 * c + 3 := by
 simp only [listS, List.length_append, onesS_len, List.length_cons, List.length_nil]
 omega
theorem allS_len : ∀ {cs : List Nat}, (∀ c ∈ cs, c < 20) -> (allS cs).length <= 43 * cs.length
 | [], _ => Nat.le_refl _
 | c :: cs, h => by
  have h1 := h c (List.mem_cons_self ..)
  have h2 := allS_len (cs := cs) fun x hx => h x (List.mem_cons_of_mem _ hx)
  show (listS c ++ allS cs).length <= _
  rw [List.length_append, listS_len, List.length_cons]
  omega
theorem allT_len : ∀ {cs : List Nat}, (∀ c ∈ cs, c < 20) -> (allT cs).length <= 23 * cs.length
 | [], _ => Nat.le_refl _
 | c :: cs, h => by
  have h1 := h c (List.mem_cons_self ..)
  have h2 := allT_len (cs := cs) fun x hx => h x (List.mem_cons_of_mem _ hx)
  show (listT c ++ allT cs).length <= _
  rw [List.length_append, List.length_cons]
  simp only [listT, onesT, List.length_append, List.length_replicate, List.length_cons, List.length_nil]
  omega
theorem read_counts {cs : List Nat} (h : ∀ c ∈ cs, c < 20) (hl : cs.length <= 20) : ∃ xs, readM (allS cs) = .ok xs /\ AreLists cs xs := by
 have h1 := allS_len h
 have h2 := allT_len h
 obtain ⟨l, k1, k2⟩ := all_scan cs 0
 have k2 := k2 []
 rw [List.append_nil, show scanM (0 + (allS cs).length) [] = .ok [] from scanM_nil rfl] at k2
 have hs : scanL (allS cs) = .ok l := by
  unfold scanL
  rw [if_neg (by omega), k2]
  simp [ahead]
 have hll : l.length = (allT cs).length := by rw [<- k1, List.length_map]
 obtain ⟨xs, hx, hr⟩ := run_all cs l 0 [] k1 (by omega)
 refine ⟨xs, ?_, hx⟩
 unfold readM
 rw [hs]
 simp only
 rw [<- run_read fun t ht => plain_of (scanL_kind hs t ht)]
 exact hr
theorem allS_take {cs : List Nat} {n : Nat} (h : n < cs.length) : allS (cs.take (n + 1)) = allS (cs.take n) ++ listS cs[n] := by
 unfold allS
 rw [take_succ_at h, List.map_append, List.flatten_append]
 simp only [List.map_cons, List.map_nil, List.flatten_cons, List.flatten_nil, List.append_nil]
theorem onesS_succ (c : Nat) : onesS (c + 1) = onesS c ++ [32, 49] := by
 unfold onesS
 rw [List.replicate_succ', List.flatten_append]
 simp
theorem counts_law (b : List UInt8) : IsTrue (callE efns given f_law5_ReadCounts [.lst (byts b)] ⟨[], [], [], []⟩) := by
 rw [callE_fn efns given (c := e_law5_ReadCounts) rfl rfl]
 have hk := known_t
 by_cases hb : b.length > 20
 ·have hc : ((b.length : Int) > 20) = True := eq_true (by omega)
  simp only [e_law5_ReadCounts, go_sem, hk, byts_length, hc]
  exact Good.done rfl
 have hc : ((b.length : Int) > 20) = False := eq_false (by omega)
 have hcl : (b.map fun c => c.toNat % 20).length = b.length := List.length_map ..
 have hcs : ∀ c ∈ (b.map fun c => c.toNat % 20), c < 20 := fun c hc => by
  obtain ⟨x, _, rfl⟩ := List.mem_map.1 hc
  exact Nat.mod_lt _ (by decide)
 have hget : ∀ n (h : n < b.length), ∃ c : UInt8, b[n]? = some c /\ (b.map fun c => c.toNat % 20)[n]? = some (c.toNat % 20) := fun n h => ⟨b[n], List.getElem?_eq_getElem h, by rw [List.getElem?_map, List.getElem?_eq_getElem h]; rfl⟩
 generalize (b.map fun c => c.toNat % 20) = cs at hcl hcs hget
 obtain ⟨xs, hx, hA⟩ := read_counts hcs (by omega)
 have hxl := hA.len
 have h1 := sread_t (allS cs)
 rw [hx] at h1
 simp only [sreadV] at h1
 obtain ⟨hw, hsz⟩ := readM_ok hx
 have htb : unV .tobytes (.str (allS cs)) = some (.lst (byts (allS cs))) := rfl
 simp only [e_law5_ReadCounts, go_sem, hk, byts_length, hc]
 refine Good.for b.length (fun n fr st => fr = [.lst (byts b), .str (allS (cs.take n)), .int .i64 (n : Int), .undef, .undef, .undef, .undef] /\ st = ⟨[], [], [], []⟩) ?_ ?_ ?_
 ·rintro n fr st hn ⟨rfl, rfl⟩ k hk'
  obtain ⟨c, hbc, hcc⟩ := hget n hn
  have hn2 : n < cs.length := by omega
  have hce : cs[n] = c.toNat % 20 := by
   have := List.getElem?_eq_getElem hn2
   rw [hcc] at this
   exact (Option.some.inj this).symm
  have hS := allS_take hn2
  rw [hce] at hS
  have hSl := allS_len (cs := cs.take n) fun x hx => hcs x (List.mem_of_mem_take hx)
  rw [List.length_take] at hSl
  have hm20 := Nat.mod_lt c.toNat (show 0 < 20 by decide)
  have q1 : ((n : Int) < (b.length : Int)) = True := eq_true (by omega)
  have d1 : ((allS (cs.take n)).length + 2 <= 4611686018427387904) = True := eq_true (by omega)
  generalize allS (cs.take n) = S at hS hSl d1
  have hidx := bidx hbc
  have hr : ((c.toNat : Int).tmod 20) = ((c.toNat % 20 : Nat) : Int) := rfl
  have hw8 : IntKind.u8.wrap ((c.toNat % 20 : Nat) : Int) = ((c.toNat % 20 : Nat) : Int) := by rw [IntKind.wrap_u8]; omega
  have hw64 : IntKind.i64.wrap ((c.toNat % 20 : Nat) : Int) = ((c.toNat % 20 : Nat) : Int) := by rw [IntKind.wrap_i64]; omega
  generalize c.toNat % 20 = d at hS hm20 hr hw8 hw64
  simp only [b_law5_ReadCounts_1, go_sem, byts_length, q1, d1, List.length_cons, List.length_nil]
  refine Good.for d (fun i fr st => fr = [.lst (byts b), .str (S ++ ([40, 104] ++ onesS i)), .int .i64 (n : Int), .int .i64 (i : Int), .undef, .undef, .undef] /\ st = ⟨[], [], [], []⟩) ?_ ?_ ?_
  ·rintro i fr st hi ⟨rfl, rfl⟩ k2 hk2
   have q2 : ((i : Int) < (d : Int)) = True := eq_true (by omega)
   have ho := onesS_len i
   simp only [b_law5_ReadCounts_0, go_sem, hidx, hr, hw8, hw64, q2, wrapN (n := i) (by omega), List.length_cons, List.length_nil, List.length_append, ho]
   rw [if_pos (by omega)]
   refine hk2 _ _ ⟨?_, rfl⟩
   rw [onesS_succ]
   simp
  ·rintro fr st ⟨rfl, rfl⟩ k2
   have ho := onesS_len d
   simp only [b_law5_ReadCounts_0, go_sem, hidx, hr, hw8, hw64, Int.lt_irrefl, wrapN (n := n) (by omega), List.length_cons, List.length_nil, List.length_append, ho]
   rw [if_pos (by omega)]
   refine hk' _ _ ⟨?_, rfl⟩
   rw [hS]
   simp [listS]
  ·exact ⟨by simp [onesS], rfl⟩
 ·rintro fr st ⟨rfl, rfl⟩ k
  rw [List.take_of_length_le (by omega)]
  have c0 : ((xs.length : Int) = (b.length : Int)) = True := eq_true (by omega)
  simp only [b_law5_ReadCounts_1, go_sem, byts_length, Int.lt_irrefl, htb, h1, List.length_map, c0, ne_eq]
  refine Good.for xs.length (fun n fr st => fr = [.lst (byts b), .undef, .undef, .undef, .lst (xs.map Nd.p), .int .i64 (n : Int), .undef] /\ st = ⟨[], [], [], []⟩) ?_ ?_ ?_
  ·rintro n fr st hn ⟨rfl, rfl⟩ k2 hk2
   have hnb : n < b.length := by omega
   obtain ⟨c, hbc, hcc⟩ := hget n hnb
   have hn2 : n < cs.length := by omega
   have hce : cs[n] = c.toNat % 20 := by
    have := List.getElem?_eq_getElem hn2
    rw [hcc] at this
    exact (Option.some.inj this).symm
   have hI := hA.at hn2 hn
   rw [hce] at hI
   have hm20 := Nat.mod_lt c.toNat (show 0 < 20 by decide)
   have q1 : ((n : Int) < (xs.length : Int)) = True := eq_true (by omega)
   have hat := Nd.at_ hn
   have hz := Nd.sz_mem (List.getElem_mem hn)
   generalize xs[n] = x at hI hat hz
   have hidx := bidx hbc
   have hr : ((c.toNat : Int).tmod 20) = ((c.toNat % 20 : Nat) : Int) := rfl
   have hw8 : IntKind.u8.wrap ((c.toNat % 20 : Nat) : Int) = ((c.toNat % 20 : Nat) : Int) := by rw [IntKind.wrap_u8]; omega
   have hw64 : IntKind.i64.wrap ((c.toNat % 20 : Nat) : Int) = ((c.toNat % 20 : Nat) : Int) := by rw [IntKind.wrap_i64]; omega
   generalize c.toNat % 20 = d at hI hm20 hr hw8 hw64
   obtain ⟨hs1, hs2⟩ := hI
   have t1 := scount_t _ x (Nat.le_refl _) (by omega)
   have t2 := shead_t x
   rw [hs2] at t2
   have hw2 : IntKind.i64.wrap (2 + (d : Int)) = (x.sz : Int) := by rw [IntKind.wrap_i64, hs1]; omega
   have c9 : ((x.sz : Int) = (x.sz : Int)) = True := eq_true rfl
   rw [Nd.p_eq] at t1 t2
   simp only [Nd.cells] at t1 t2 hat
   simp only [b_law5_ReadCounts_2, go_sem, List.length_map, q1, hat, hidx, hr, hw8, hw64, t1, t2, hw2, c9, ne_eq, wrapN (n := n) (by omega)]
   exact hk2 _ _ ⟨rfl, rfl⟩
  ·rintro fr st ⟨rfl, rfl⟩ k2
   simp only [b_law5_ReadCounts_2, go_sem, List.length_map, Int.lt_irrefl]
   exact Good.done rfl
  ·exact ⟨rfl, rfl⟩
 ·exact ⟨rfl, rfl⟩
end Go.Proofs.YtnlknpeelpnbaaaGreatDoorPe.Read
