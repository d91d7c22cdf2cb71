/- A part of the proof of this folder's statement; it has no condition of its own. -/
import Derived.Test.YtnlknpeelpnbaaaGreatDoorReadSc
set_option linter.unusedVariables false
set_option linter.unusedSimpArgs false
set_option maxRecDepth 100000
namespace Go.Proofs.YtnlknpeelpnbaaaGreatDoorPe.Read
open Go Go.Proofs Go.Proofs.YtnlknpeelpnbaaaGreatDoorPe Go.Proofs.YtnlknpeelpnbaaaGreatDoorPe.ReadCode
theorem texts_same {m : Nat} (h : ∀ x y, Nd.same x y = true -> x.sz <= m -> textN x = textN y) : ∀ {l k : List Nd}, Nd.sames l k = true -> (∀ x ∈ l, x.sz <= m) -> l.map textN = k.map textN
 | [], [], _, _ => rfl
 | x :: l, y :: k, hs, hm => by
  simp only [Nd.sames, Bool.and_eq_true] at hs
  rw [List.map_cons, List.map_cons, h x y hs.1 (hm x (List.mem_cons_self ..)), texts_same h hs.2 fun z hz => hm z (List.mem_cons_of_mem _ hz)]
 | [], _ :: _, hs, _ => by simp [Nd.sames] at hs
 | _ :: _, [], hs, _ => by simp [Nd.sames] at hs
theorem text_same : ∀ (m : Nat) (x y : Nd), Nd.same x y = true -> x.sz <= m -> textN x = textN y
 | 0, x, y, _, h => by rw [Nd.sz_eq] at h; omega
 | m + 1, x, y, hs, hm => by
  rw [Nd.same_eq] at hs
  simp only [Bool.and_eq_true, decide_eq_true_eq] at hs
  obtain ⟨⟨⟨h1, h2⟩, h3⟩, h4⟩ := hs
  rw [textN_eq, textN_eq, h1, h2, h3, texts_same (m := m) (text_same m) h4 (fun z hz => by have := Nd.sz_kid hz; omega)]
theorem lines_same {P : Int -> Int -> Prop} {l m : List Nd} (h : RelL P l m) : linesN l = linesN m := by
 induction h with
 | nil => rfl
 | @cons x y l m h _ _ ih =>
  show textN x ++ [10] ++ linesN l = textN y ++ [10] ++ linesN m
  rw [text_same _ x y h (Nat.le_refl _), ih]
theorem wstr_ok {b : Nat} {s t : List UInt8} {st : St} (h : Bld b s st) (ht0 : t ≠ []) (hl : (s.length + t.length) * 2 <= 70368744177664) :
  ∃ r st', callE efns given f_strings_Builder_WriteString [.ptr b 0, .str t] st = some (r, st') /\ Bld b (s ++ t) st' /\ st'.boxes.length = st.boxes.length /\ st'.bt = st.bt := by
 obtain ⟨ht, hn, p, v, hb, hp, hv⟩ := h
 have hcc := copyCheck_ok given hb hp ht
 have hlt := box_lt hb
 have hb2 : (st.boxes.set b [.ptr b 0, v])[b]? = some [.ptr b 0, v] := List.getElem?_set_self hlt
 obtain ⟨r, rows, rt, ha, hr, hT, hq⟩ := append_byts (t := t) (st := ⟨st.boxes.set b [.ptr b 0, v], st.rows, st.bt, st.rt⟩) hn hv ht0 hl
 have hem : (t.map fun b => PV.int .u8 (b.toNat : Int)).isEmpty = false := by
  cases t with
  | nil => exact absurd rfl ht0
  | cons => rfl
 have ha' : evAppend 1 1 T_byte v.nm (t.map fun b => PV.int .u8 (b.toNat : Int)) ⟨st.boxes.set b [.ptr b 0, v], st.rows, st.bt, st.rt⟩ = some (.own r (byts (s ++ t)), ⟨st.boxes.set b [.ptr b 0, v], rows, st.bt, rt⟩) := ha
 refine ⟨.tuple [.int .i64 t.length, .nili], ⟨(st.boxes.set b [.ptr b 0, v]).set b [.ptr b 0, .own r (byts (s ++ t))], rows, st.bt, rt⟩, ?_, ⟨ht, hq, .ptr b 0, .own r (byts (s ++ t)), ?_, .inr rfl, .inr ⟨r, fun e => ht0 (List.append_eq_nil_iff.1 e).2, rfl, hr, hT⟩⟩, by simp, rfl⟩
 ·rw [callE_fn efns given (c := e_strings_Builder_WriteString) rfl rfl]
  simp only [e_strings_Builder_WriteString, go_sem, hcc, hb2, hem, ha', Bool.false_eq_true]
 ·exact List.getElem?_set_self (by simpa using hlt)
theorem linesN_take {l : List Nd} {n : Nat} (h : n < l.length) : linesN (l.take (n + 1)) = linesN (l.take n) ++ (textN l[n] ++ [10]) := by
 unfold linesN
 rw [take_succ_at h, List.map_append, List.flatten_append]
 simp only [List.map_cons, List.map_nil, List.flatten_cons, List.flatten_nil, List.append_nil]
theorem linesN_len {l : List Nd} (h : ∀ x ∈ l, Wf x) : (linesN l).length <= 2200 * Nd.szs l := by
 induction l with
 | nil => exact Nat.zero_le _
 | cons x l ih =>
  have h1 := textN_len _ x (Nat.le_refl _) (h x (List.mem_cons_self ..))
  have h2 := ih fun y hy => h y (List.mem_cons_of_mem _ hy)
  show (textN x ++ [10] ++ linesN l).length <= _
  simp only [List.length_append, List.length_singleton, Nd.szs, Nat.mul_add]
  omega
theorem lines_t {l : List Nd} (hw : ∀ x ∈ l, Wf x) (hsz : Nd.szs l <= 4096) : tupV (callE efns given) (.call 0 f_sexp_Lines) [.lst (l.map Nd.p)] = some (.str (linesN l)) := by
 have hll := Nd.len_sz l
 refine call_good (f := f_sexp_Lines) rfl ?_
 rw [callE_fn efns given (c := e_sexp_Lines) rfl rfl]
 simp only [e_sexp_Lines, go_sem, List.length_map]
 refine Good.for l.length (fun n fr st => fr = [.undef, .ptr 0 0, .undef, .lst (l.map Nd.p), .int .i64 (l.length : Int), .int .i64 (n : Int), .undef, .undef] /\ Bld 0 (linesN (l.take n)) st /\ st.bt.length = st.boxes.length) ?_ ?_ ?_
 ·rintro n fr ⟨bs, rows, bt, rt⟩ hn ⟨rfl, hB, hbt⟩ k hk
  simp only at hbt
  have c1 : ((n : Int) < (l.length : Int)) = True := eq_true (by omega)
  have hx := Nd.sz_mem (List.getElem_mem hn)
  have hwx := hw _ (List.getElem_mem hn)
  have hat := Nd.at_ hn
  have h1 := linesN_take hn
  have h2 := linesN_len (l := l.take n) fun x hx => hw x (List.mem_of_mem_take hx)
  have h3 := Nd.szs_take_le l n
  generalize l[n] = x at hx hwx hat h1
  have htx := stext_t _ x (Nat.le_refl _) (by omega) hwx
  have htl := textN_len _ x (Nat.le_refl _) hwx
  have hB2 := hB.grow x.cells T_sexp_Lines_0
  obtain ⟨r, ⟨bs', rows', bt', rt'⟩, hW, hB3, hl1, hl2⟩ := wstr_ok hB2 (t := textN x ++ [10]) (by simp) (by simp only [List.length_append, List.length_singleton]; omega)
  have c2 : ((textN x).length + 1 <= 4611686018427387904) = True := eq_true (by omega)
  rw [Nd.p_eq] at htx
  simp only [Nd.cells] at htx hat hW
  simp only [b_sexp_Lines_0, go_sem, hat, c1, htx, c2, hW, wrapN (n := n) (by omega), List.length_cons, List.length_nil]
  refine hk _ _ ⟨rfl, ?_, ?_⟩
  ·rw [h1]; exact hB3
  ·simp only at hl1 hl2 ⊢
   rw [hl1, hl2]
   simp [hbt]
 ·rintro fr st ⟨rfl, hB, hbt⟩ k
  rw [List.take_length] at hB
  have hll2 := linesN_len hw
  have hS := bstring_ok given hB (by omega)
  simp only [b_sexp_Lines_0, go_sem, Int.lt_irrefl, hS]
  exact Good.done rfl
 ·exact ⟨rfl, Bld.new ⟨[], [], [], []⟩ rfl rfl, rfl⟩
def Yes (f : FuncId) (xs : List PV) : Prop := ∀ st, ∃ more mt, callE efns given f xs st = some (.bool true, ⟨st.boxes ++ more, st.rows, st.bt ++ mt, st.rt⟩)
theorem eqfunc_yes {l m : List Nd} (hs : Nd.sames l m = true) (hl : l.length <= 1000000) (ih : ∀ i (h1 : i < l.length) (h2 : i < m.length), Nd.same l[i] m[i] = true -> Yes f_sexp_Same [l[i].p, m[i].p]) :
  Yes f_slices_EqualFunc_sexp_Node_sexp_Node_sexp_Node_sexp_Node [.lst (l.map Nd.p), .lst (m.map Nd.p), .func f_sexp_Same []] := by
 rintro ⟨bs, rows, bt, rt⟩
 have hlen := Nd.sames_len hs
 suffices Good (fun v st => v = .bool true /\ ∃ more mt, st = ⟨bs ++ more, rows, bt ++ mt, rt⟩) (callE efns given f_slices_EqualFunc_sexp_Node_sexp_Node_sexp_Node_sexp_Node [.lst (l.map Nd.p), .lst (m.map Nd.p), .func f_sexp_Same []] ⟨bs, rows, bt, rt⟩) by
  obtain ⟨v, st, h1, rfl, more, mt, rfl⟩ := this
  exact ⟨more, mt, h1⟩
 rw [callE_fn efns given (c := e_slices_EqualFunc_sexp_Node_sexp_Node_sexp_Node_sexp_Node) rfl rfl]
 have c0 : ((l.length : Int) = (m.length : Int)) = True := eq_true (by omega)
 simp only [e_slices_EqualFunc_sexp_Node_sexp_Node_sexp_Node_sexp_Node, go_sem, List.length_map, c0, ne_eq]
 refine Good.for l.length (fun n fr st => fr = [.undef, .lst (m.map Nd.p), .func f_sexp_Same [], .undef, .undef, .lst (l.map Nd.p), .int .i64 (l.length : Int), .int .i64 (n : Int), .undef, .undef, .undef] /\ (∃ more mt, st = ⟨bs ++ more, rows, bt ++ mt, rt⟩) /\ Nd.sames (l.drop n) (m.drop n) = true) ?_ ?_ ?_
 ·rintro n fr st hn ⟨rfl, ⟨more, mt, rfl⟩, hd⟩ k hk
  have c1 : ((n : Int) < (l.length : Int)) = True := eq_true (by omega)
  have hn2 : n < m.length := by omega
  rw [List.drop_eq_getElem_cons hn, List.drop_eq_getElem_cons hn2] at hd
  simp only [Nd.sames, Bool.and_eq_true] at hd
  have hat1 := Nd.at_ hn
  have hat2 := Nd.at_ hn2
  have hi := ih n hn hn2 hd.1
  generalize l[n] = x at hat1 hi
  generalize m[n] = y at hat2 hi
  obtain ⟨more2, mt2, hc⟩ := hi ⟨bs ++ (more ++ [x.cells, y.cells]), rows, bt ++ (mt ++ [T_slices_EqualFunc_sexp_Node_sexp_Node_sexp_Node_sexp_Node_0, T_slices_EqualFunc_sexp_Node_sexp_Node_sexp_Node_sexp_Node_0]), rt⟩
  rw [Nd.p_eq, Nd.p_eq] at hc
  have hcv : callvV (callE efns given) (.func f_sexp_Same []) [.agg x.cells, .agg y.cells] ⟨bs ++ (more ++ [x.cells, y.cells]), rows, bt ++ (mt ++ [T_slices_EqualFunc_sexp_Node_sexp_Node_sexp_Node_sexp_Node_0, T_slices_EqualFunc_sexp_Node_sexp_Node_sexp_Node_sexp_Node_0]), rt⟩ = _ := hc
  simp only [Nd.cells, List.append_assoc] at hat1 hat2 hcv
  simp only [b_slices_EqualFunc_sexp_Node_sexp_Node_sexp_Node_sexp_Node_0, go_sem, hat1, hat2, c1, hcv, wrapN (n := n) (by omega)]
  exact hk _ _ ⟨rfl, ⟨_, _, rfl⟩, hd.2⟩
 ·rintro fr st ⟨rfl, h, _⟩ k
  simp only [b_slices_EqualFunc_sexp_Node_sexp_Node_sexp_Node_sexp_Node_0, go_sem, Int.lt_irrefl]
  exact Good.done ⟨rfl, h⟩
 ·exact ⟨rfl, ⟨[], [], by simp⟩, hs⟩
theorem same_yes : ∀ (m : Nat) (x y : Nd), x.sz <= m -> m <= 1000000 -> Nd.same x y = true -> Yes f_sexp_Same [x.p, y.p] := by
 intro m
 induction m with
 | zero => intro x y h; rw [Nd.sz_eq] at h; omega
 | succ m ih =>
  rintro x y hm hle hs ⟨bs, rows, bt, rt⟩
  have hkl := Nd.len_sz x.kids
  have hsz := Nd.sz_eq x
  rw [Nd.same_eq] at hs
  simp only [Bool.and_eq_true, decide_eq_true_eq] at hs
  obtain ⟨⟨⟨h1, h2⟩, h3⟩, h4⟩ := hs
  obtain ⟨more, mt, he⟩ := eqfunc_yes h4 (by omega) (fun i hi1 hi2 hsm => ih _ _ (by have := Nd.sz_kid (List.getElem_mem hi1); omega) (by omega) hsm) ⟨bs ++ [x.cells, y.cells], rows, bt ++ [T_sexp_Same_0, T_sexp_Same_0], rt⟩
  refine ⟨[x.cells, y.cells] ++ more, [T_sexp_Same_0, T_sexp_Same_0] ++ mt, ?_⟩
  rw [callE_fn efns given (c := e_sexp_Same) rfl rfl, Nd.p_eq, Nd.p_eq]
  simp only [Nd.cells, List.append_assoc] at he ⊢
  rw [h1, h2, h3] at he ⊢
  have hsa : ∀ l : List PV, shutA shutN (.lst l) = some (.lst l) := fun l => rfl
  simp only [e_sexp_Same, go_sem, he, hsa]
theorem same_t {x y : Nd} (hm : x.sz <= 1000000) (hs : Nd.same x y = true) : tupV (callE efns given) (.call 0 f_sexp_Same) [x.p, y.p] = some (.bool true) := by
 obtain ⟨more, mt, h⟩ := same_yes _ x y (Nat.le_refl _) hm hs ⟨[], [], [], []⟩
 exact callV_of (mapO_two (by rw [Nd.p_eq]; rfl) (by rw [Nd.p_eq]; rfl)) h rfl
theorem back_law (b : List UInt8) : IsTrue (callE efns given f_law5_ReadBack [.lst (byts b)] ⟨[], [], [], []⟩) := by
 rw [callE_fn efns given (c := e_law5_ReadBack) rfl rfl]
 have hk := known_t
 by_cases hb : b.length > 2000
 ·have hc : ((b.length : Int) > 2000) = True := eq_true (by omega)
  simp only [e_law5_ReadBack, go_sem, hk, byts_length, hc]
  exact Good.done rfl
 have hc : ((b.length : Int) > 2000) = False := eq_false (by omega)
 have h1 := sread_t b
 cases hm : readM b with
 | error e =>
  rw [hm] at h1
  simp only [sreadV, errP_iface] at h1
  simp only [e_law5_ReadBack, go_sem, hk, byts_length, hc, h1]
  exact Good.done rfl
 | ok l =>
  obtain ⟨hw, hsz⟩ := readM_ok hm
  obtain ⟨hls, l2, hm2, hrel⟩ := read_back (by omega) hm
  obtain ⟨hw2, hsz2⟩ := readM_ok hm2
  have h2 := sread_t (linesN l)
  have hL1 := lines_t hw hsz
  have hL2 := lines_t hw2 hsz2
  rw [<- lines_same hrel] at hL2
  rw [hm] at h1
  rw [hm2] at h2
  have hlen := hrel.len
  have hll := Nd.len_sz l
  simp only [sreadV] at h1 h2
  have htb : unV .tobytes (.str (linesN l)) = some (.lst (byts (linesN l))) := rfl
  have c0 : ((l2.length : Int) = (l.length : Int)) = True := eq_true (by omega)
  simp only [e_law5_ReadBack, go_sem, hk, byts_length, hc, h1, hL1, htb, h2, List.length_map, c0, ne_eq]
  refine Good.for l2.length (fun n fr st => fr = [.undef, .lst (l.map Nd.p), .lst (l2.map Nd.p), .int .i64 (n : Int), .undef, .undef] /\ st = ⟨[], [], [], []⟩) ?_ ?_ ?_
  ·rintro n fr st hn ⟨rfl, rfl⟩ k hk'
   have hn1 : n < l.length := by omega
   have c1 : ((n : Int) < (l.length : Int)) = True := eq_true (by omega)
   have hat1 := Nd.at_ hn1
   have hat2 := Nd.at_ hn
   obtain ⟨hs, _⟩ := hrel.at hn1 hn
   have hx := Nd.sz_mem (List.getElem_mem hn1)
   have hy := Nd.sz_mem (List.getElem_mem hn)
   generalize l[n] = x at hat1 hs hx
   generalize l2[n] = y at hat2 hs hy
   have t1 := same_t (by omega) hs
   have t2 := of_t _ x (Nat.le_refl _) (by omega)
   have t3 := of_t _ y (Nat.le_refl _) (by omega)
   have t4 := nsame_t _ x y (Nat.le_refl _) (by omega)
   rw [hs] at t4
   rw [Nd.p_eq] at t2 t3
   rw [Nd.p_eq, Nd.p_eq] at t1 t4
   simp only [Nd.cells] at t1 t2 t3 t4 hat1 hat2
   simp only [b_law5_ReadBack_0, go_sem, List.length_map, c1, hat1, hat2, t1, t2, t3, t4, wrapN (n := n) (by omega)]
   exact hk' _ _ ⟨rfl, rfl⟩
  ·rintro fr st ⟨rfl, rfl⟩ k
   have c1 : ((l2.length : Int) < (l.length : Int)) = False := eq_false (by omega)
   simp only [b_law5_ReadBack_0, go_sem, List.length_map, c1, hL1, hL2]
   exact Good.done rfl
  ·exact ⟨rfl, rfl⟩
end Go.Proofs.YtnlknpeelpnbaaaGreatDoorPe.Read
