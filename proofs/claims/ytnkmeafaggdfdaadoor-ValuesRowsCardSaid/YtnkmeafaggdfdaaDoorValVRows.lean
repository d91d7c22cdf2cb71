/- Rows of values as texts: Hash; the law ValuesRows. -/
import Derived.Test.YtnkmeafaggdfdaaDoorValVWords
import Derived.Test.YtnkmeafaggdfdaaDoorValTxt
set_option linter.unusedVariables false
set_option linter.unusedSimpArgs false
set_option maxRecDepth 1000000
namespace Go.Proofs.YtnkmeafaggdfdaaDoorPe.Val
open Go Go.Proofs.YtnkmeafaggdfdaaDoorPe Go.Proofs.YtnkmeafaggdfdaaDoorPe.ValCode

/-- A value's part of a row's text. -/
def item (v : Vl) : List UInt8 := text v.k ++ [32] ++ text v.i ++ [32] ++ text v.s.length ++ [58] ++ v.s
def hashM (l : List Vl) : List UInt8 := l.flatMap item

theorem text_len {n : Int} (hn : I64 n) : (text n).length ≤ 21 := by
  rw [text_eq (by omega) (by omega)]
  unfold Lib.itoa
  split
  · have := decDigits_len 19 n.natAbs (by omega)
    simp; omega
  · have := decDigits_len 19 n.toNat (by omega)
    omega

theorem item_len {v : Vl} (hk : I64 v.k) (hi : I64 v.i) (hs : v.s.length ≤ 1100) : (item v).length ≤ 1200 := by
  have h1 := text_len hk
  have h2 := text_len hi
  have h3 := text_len (n := (v.s.length : Int)) (by omega)
  simp only [item, List.length_append, List.length_cons, List.length_nil]
  omega

/-- What may stand in a row. -/
def Small (v : Vl) : Prop := I64 v.k ∧ I64 v.i ∧ v.s.length ≤ 1100

theorem hash_loop {l : List Vl} (hl : l.length ≤ 20) (hv : ∀ v ∈ l, Small v) {K : EX → Fr → St → Option (PV × St)} : ∀ (d n : Nat) (acc : List UInt8) (st : St), l.length - n = d → n ≤ l.length → acc.length ≤ 1200 * n → Bld 0 acc st → st.bt.length = st.boxes.length →
    ∃ st' , Bld 0 (acc ++ hashM (l.drop n)) st' ∧ runL (callE efns given) [false, true, false, true, true, true, false, false, false, false, false] b_val_Hash_0 [.undef, .ptr 0 0, .undef, .lst (l.map Vl.p), .int .i64 l.length, .int .i64 n, .undef, .undef, .undef, .undef, .undef] st K =
      K (.exit 0) [.undef, .ptr 0 0, .undef, .lst (l.map Vl.p), .int .i64 l.length, .int .i64 l.length, .undef, .undef, .undef, .undef, .undef] st' := by
  intro d
  induction d with
  | zero =>
    intro n acc st hd hn ha hb hbt
    have : n = l.length := by omega
    subst this
    refine ⟨st, by rw [List.drop_length]; simpa [hashM] using hb, ?_⟩
    rw [runL_eq]
    generalize runL _ _ b_val_Hash_0 = L
    simp only [b_val_Hash_0, go_sem, Int.lt_irrefl, if_false]
  | succ d ih =>
    intro n acc st hd hn ha hb hbt
    have hlt : n < l.length := by omega
    have hvn := hv l[n] (List.getElem_mem hlt)
    have hdr : l.drop n = l[n] :: l.drop (n + 1) := List.drop_eq_getElem_cons hlt
    have ga : (l.map Vl.p)[n]? = some (l[n]).p := by simp [hlt]
    generalize l[n] = v at hvn hdr ga
    obtain ⟨hk, hi, hs⟩ := hvn
    have hil := item_len hk hi hs
    have w1 : IntKind.i64.wrap ((n : Int) + 1) = ((n + 1 : Nat) : Int) := by rw [IntWalk.i64_in _ (by omega)]; omega
    have c1 : ((n : Int) < (l.length : Int)) = True := eq_true (by omega)
    have hb1 := (hb.grow [.int .i64 v.k, .int .i64 v.i, .str v.s] T_val_Hash_0)
    obtain ⟨st1, r1, b1, m1, m2⟩ := wstring_ok given (t := item v) hb1 (by omega)
    obtain ⟨st', b', hr⟩ := ih (n + 1) (acc ++ item v) st1 (by omega) (by omega) (by simp; omega) b1 (by rw [m1, m2]; simp [hbt])
    refine ⟨st', by rw [hdr]; simpa [hashM] using b', ?_⟩
    have ea := idx_at (n := 3) ga rfl
    have i1 : tupV (callE efns given) (.call 0 f_strconv_Itoa) [.int .i64 v.k] = some (.str (text v.k)) := callV_of rfl (itoa_ok hk ⟨[], [], [], []⟩) rfl
    have i2 : tupV (callE efns given) (.call 0 f_num_Text) [.int .i64 v.i] = some (.str (text v.i)) := callV_of rfl (text_ok hi ⟨[], [], [], []⟩) rfl
    have i3 : tupV (callE efns given) (.call 0 f_strconv_Itoa) [.int .i64 (v.s.length : Int)] = some (.str (text v.s.length)) := callV_of rfl (itoa_ok (by omega) ⟨[], [], [], []⟩) rfl
    have k1 := text_len hk
    have k2 := text_len hi
    have k3 := text_len (n := (v.s.length : Int)) (by omega)
    simp only [item] at r1
    rw [runL_eq]
    generalize runL _ _ b_val_Hash_0 = L at hr ⊢
    simp only [b_val_Hash_0, go_sem, c1, ea, Vl.p, last_at, last_set, i1, i2, i3, w1, List.length_append]
    rw [if_pos (by omega), if_pos (by omega), if_pos (by omega), if_pos (by omega), if_pos (by omega), if_pos (by omega)]
    simp only [go_sem, r1, w1, hr]

theorem hash_t {l : List Vl} (hl : l.length ≤ 20) (hv : ∀ v ∈ l, Small v) : tupV (callE efns given) (.call 0 f_val_Hash) [.lst (l.map Vl.p)] = some (.str (hashM l)) := by
  have key : ∃ st', callE efns given f_val_Hash [.lst (l.map Vl.p)] ⟨[], [], [], []⟩ = some (.str (hashM l), st') := by
    rw [callE_fn efns given (c := e_val_Hash) rfl rfl]
    have hlen : unV .len (.lst (l.map Vl.p)) = some (.int .i64 l.length) := by
      show some (PV.int .i64 ((l.map Vl.p).length : Nat)) = _
      simp
    simp only [e_val_Hash, go_sem, hlen]
    generalize hK : blockK 0 _ = K
    obtain ⟨st2, b2, hr⟩ := hash_loop hl hv (K := K) l.length 0 [] ⟨[[.nilp, .nils]], [], [T_bld], []⟩ rfl (by omega) (by simp) (Bld.new ⟨[], [], [], []⟩ rfl rfl) rfl
    rw [List.drop_zero, List.nil_append] at b2
    have hb : (hashM l).length ≤ 1200 * l.length := by
      clear hr b2 hK hlen hl
      induction l with
      | nil => simp [hashM]
      | cons v l ih =>
        have h1 := ih fun w hw => hv w (List.mem_cons.2 (.inr hw))
        obtain ⟨a, b, c⟩ := hv v (List.mem_cons.2 (.inl rfl))
        have h2 := item_len a b c
        unfold hashM at h1 ⊢
        simp only [List.flatMap_cons, List.length_append, List.length_cons]
        omega
    have r4 := bstring_ok given b2 (by omega)
    refine ⟨st2, ?_⟩
    refine Eq.trans hr ?_
    rw [← hK]
    simp only [go_sem, r4]
  obtain ⟨st', h⟩ := key
  exact callV_of rfl h rfl

theorem item_inj {v w : Vl} (hv : Small v) (hw : Small w) {r s : List UInt8} (h : item v ++ r = item w ++ s) : v = w ∧ r = s := by
  obtain ⟨a1, a2, a3⟩ := hv
  obtain ⟨b1, b2, b3⟩ := hw
  simp only [item, List.append_assoc, List.singleton_append, List.cons_append, List.nil_append] at h
  obtain ⟨e1, h⟩ := cut_at (text_no a1 (.inl rfl)) (text_no b1 (.inl rfl)) h
  obtain ⟨e2, h⟩ := cut_at (text_no a2 (.inl rfl)) (text_no b2 (.inl rfl)) h
  have la : I64 (v.s.length : Int) := by omega
  have lb : I64 (w.s.length : Int) := by omega
  obtain ⟨e3, h⟩ := cut_at (text_no la (.inr rfl)) (text_no lb (.inr rfl)) h
  have k1 := text_inj a1 b1 e1
  have k2 := text_inj a2 b2 e2
  have k3 := text_inj la lb e3
  obtain ⟨k4, k5⟩ := List.append_inj h (by omega)
  refine ⟨?_, k5⟩
  obtain ⟨k, i, t⟩ := v
  obtain ⟨k', i', t'⟩ := w
  simp only at k1 k2 k4
  rw [k1, k2, k4]

theorem item_ne (v : Vl) : item v ≠ [] := by simp [item]

theorem hash_inj : ∀ {a b : List Vl}, (∀ v ∈ a, Small v) → (∀ v ∈ b, Small v) → hashM a = hashM b → a = b
  | [], [], _, _, _ => rfl
  | [], w :: b, _, _, h => by
    simp only [hashM, List.flatMap_nil, List.flatMap_cons] at h
    exact absurd (List.append_eq_nil_iff.1 h.symm).1 (item_ne w)
  | v :: a, [], _, _, h => by
    simp only [hashM, List.flatMap_nil, List.flatMap_cons] at h
    exact absurd (List.append_eq_nil_iff.1 h).1 (item_ne v)
  | v :: a, w :: b, ha, hb, h => by
    simp only [hashM, List.flatMap_cons] at h
    obtain ⟨e1, e2⟩ := item_inj (ha v (List.mem_cons.2 (.inl rfl))) (hb w (List.mem_cons.2 (.inl rfl))) h
    rw [e1, hash_inj (fun x hx => ha x (List.mem_cons.2 (.inr hx))) (fun x hx => hb x (List.mem_cons.2 (.inr hx))) e2]

theorem rows_loop {a b : List Vl} (hab : a.length = b.length) (hl : a.length ≤ 20) {st : St} {K : EX → Fr → St → Option (PV × St)} : ∀ (d n : Nat), a.length - n = d → n ≤ a.length → ∃ i,
    runL (callE efns given) [true, true, true] b_ref3_Rows_0 [.lst (a.map Vl.p), .lst (b.map Vl.p), .int .i64 n] st K =
      if a.drop n = b.drop n then K (.exit 0) [.lst (a.map Vl.p), .lst (b.map Vl.p), i] st else K (.ret (.bool false)) [] st := by
  intro d
  induction d with
  | zero =>
    intro n hd hn
    have : n = a.length := by omega
    subst this
    refine ⟨.int .i64 a.length, ?_⟩
    rw [runL_eq, List.drop_length, hab, List.drop_length]
    generalize runL _ _ b_ref3_Rows_0 = L
    have hlen : unV .len (.lst (a.map Vl.p)) = some (.int .i64 a.length) := by
      show some (PV.int .i64 ((a.map Vl.p).length : Nat)) = _
      simp
    simp only [b_ref3_Rows_0, go_sem, hlen, ← hab, Int.lt_irrefl, if_false, if_true]
  | succ d ih =>
    intro n hd hn
    have hlt : n < a.length := by omega
    have hlt' : n < b.length := by omega
    obtain ⟨i, hr⟩ := ih (n + 1) (by omega) (by omega)
    refine ⟨i, ?_⟩
    have ga : (a.map Vl.p)[n]? = some (a[n]).p := by simp [hlt]
    have gb : (b.map Vl.p)[n]? = some (b[n]).p := by simp [hlt']
    have hlen : unV .len (.lst (a.map Vl.p)) = some (.int .i64 a.length) := by
      show some (PV.int .i64 ((a.map Vl.p).length : Nat)) = _
      simp
    have w1 : IntKind.i64.wrap ((n : Int) + 1) = ((n + 1 : Nat) : Int) := by rw [IntWalk.i64_in _ (by omega)]; omega
    have c1 : ((n : Int) < (a.length : Int)) = True := eq_true (by omega)
    have e1 := idx_at (n := 3) ga rfl
    have e2 := idx_at (n := 3) gb rfl
    have hs := rsame_t given a[n] b[n]
    rw [runL_eq, List.drop_eq_getElem_cons hlt, List.drop_eq_getElem_cons hlt']
    simp only [List.cons.injEq]
    generalize a[n] = x at *
    generalize b[n] = y at *
    generalize runL _ _ b_ref3_Rows_0 = L at hr ⊢
    simp only [Vl.p] at hs e1 e2
    by_cases hxy : x = y
    · simp only [hxy, decide_true] at hs e1
      simp only [b_ref3_Rows_0, go_sem, hlen, c1, e1, e2, hs, w1, hr, hxy]
    · simp only [b_ref3_Rows_0, go_sem, hlen, c1, e1, e2, hs, hxy]

theorem rows_t {a b : List Vl} (hl : a.length ≤ 20) (hl' : b.length ≤ 20) : tupV (callE efns given) (.call 0 f_ref3_Rows) [.lst (a.map Vl.p), .lst (b.map Vl.p)] = some (.bool (decide (a = b))) := by
  have key : ∃ st', callE efns given f_ref3_Rows [.lst (a.map Vl.p), .lst (b.map Vl.p)] ⟨[], [], [], []⟩ = some (.bool (decide (a = b)), st') := by
    have hlen : ∀ a : List Vl, unV .len (.lst (a.map Vl.p)) = some (.int .i64 a.length) := fun a => by
      show some (PV.int .i64 ((a.map Vl.p).length : Nat)) = _
      simp
    refine ⟨⟨[], [], [], []⟩, ?_⟩
    rw [callE_fn efns given (c := e_ref3_Rows) rfl rfl]
    by_cases hab : a.length = b.length
    · have c1 : ((a.length : Int) ≠ (b.length : Int)) = False := eq_false (by omega)
      simp only [e_ref3_Rows, go_sem, hlen, c1]
      generalize hK : blockK 0 _ = K
      obtain ⟨i, hr⟩ := rows_loop hab hl (st := ⟨[], [], [], []⟩) (K := K) a.length 0 rfl (by omega)
      refine Eq.trans hr ?_
      rw [List.drop_zero, List.drop_zero, ← hK]
      by_cases h : a = b
      · simp only [h, if_true, go_sem]
      · simp only [h, if_false, go_sem]
    · have c1 : ((a.length : Int) ≠ (b.length : Int)) = True := eq_true (by omega)
      have : ¬ a = b := fun h => hab (by rw [h])
      simp only [e_ref3_Rows, go_sem, hlen, c1, this]
  obtain ⟨st', h⟩ := key
  exact callV_of rfl h rfl

theorem few_loop0 {a b : List Vl} (hl : a.length ≤ 20) {st : St} {K : EX → Fr → St → Option (PV × St)} : ∀ (d n : Nat), a.length - n = d → n ≤ a.length → ∃ i,
    runL (callE efns given) [true, true, true, false] b_law3_ValuesRows_0 [.lst (a.map Vl.p), .lst (b.map Vl.p), .int .i64 n, .undef] st K =
      if (a.drop n).all (fun v => decide (v.s.length ≤ 1100)) = true then K (.exit 0) [.lst (a.map Vl.p), .lst (b.map Vl.p), i, .undef] st else K (.ret (.bool true)) [] st := by
  intro d
  have hlen : unV .len (.lst (a.map Vl.p)) = some (.int .i64 a.length) := by
    show some (PV.int .i64 ((a.map Vl.p).length : Nat)) = _
    simp
  induction d with
  | zero =>
    intro n hd hn
    have : n = a.length := by omega
    subst this
    refine ⟨.int .i64 a.length, ?_⟩
    rw [runL_eq, List.drop_length]
    generalize runL _ _ b_law3_ValuesRows_0 = L
    simp only [b_law3_ValuesRows_0, go_sem, hlen, Int.lt_irrefl, if_false, if_true]
  | succ d ih =>
    intro n hd hn
    have hlt : n < a.length := by omega
    obtain ⟨i, hr⟩ := ih (n + 1) (by omega) (by omega)
    refine ⟨i, ?_⟩
    have ga : (a.map Vl.p)[n]? = some (a[n]).p := by simp [hlt]
    have w1 : IntKind.i64.wrap ((n : Int) + 1) = ((n + 1 : Nat) : Int) := by rw [IntWalk.i64_in _ (by omega)]; omega
    have c1 : ((n : Int) < (a.length : Int)) = True := eq_true (by omega)
    have e1 := idx_at (n := 3) ga rfl
    have hs := few_t given a[n]
    rw [runL_eq, List.drop_eq_getElem_cons hlt, List.all_cons]
    generalize a[n] = x at *
    generalize runL _ _ b_law3_ValuesRows_0 = L at hr ⊢
    simp only [Vl.p] at hs e1
    by_cases hxy : x.s.length ≤ 1100
    · simp only [b_law3_ValuesRows_0, go_sem, hlen, c1, e1, hs, w1, hr, hxy, Bool.true_and]
    · simp only [b_law3_ValuesRows_0, go_sem, hlen, c1, e1, hs, hxy, Bool.false_and]

theorem few_loop1 {a b : List Vl} (hl : b.length ≤ 20) {st : St} {K : EX → Fr → St → Option (PV × St)} : ∀ (d n : Nat), b.length - n = d → n ≤ b.length → ∃ i,
    runL (callE efns given) [true, true, false, true] b_law3_ValuesRows_1 [.lst (a.map Vl.p), .lst (b.map Vl.p), .undef, .int .i64 n] st K =
      if (b.drop n).all (fun v => decide (v.s.length ≤ 1100)) = true then K (.exit 2) [.lst (a.map Vl.p), .lst (b.map Vl.p), .undef, i] st else K (.ret (.bool true)) [] st := by
  intro d
  have hlen : unV .len (.lst (b.map Vl.p)) = some (.int .i64 b.length) := by
    show some (PV.int .i64 ((b.map Vl.p).length : Nat)) = _
    simp
  induction d with
  | zero =>
    intro n hd hn
    have : n = b.length := by omega
    subst this
    refine ⟨.int .i64 b.length, ?_⟩
    rw [runL_eq, List.drop_length]
    generalize runL _ _ b_law3_ValuesRows_1 = L
    simp only [b_law3_ValuesRows_1, go_sem, hlen, Int.lt_irrefl, if_false, if_true]
  | succ d ih =>
    intro n hd hn
    have hlt : n < b.length := by omega
    obtain ⟨i, hr⟩ := ih (n + 1) (by omega) (by omega)
    refine ⟨i, ?_⟩
    have ga : (b.map Vl.p)[n]? = some (b[n]).p := by simp [hlt]
    have w1 : IntKind.i64.wrap ((n : Int) + 1) = ((n + 1 : Nat) : Int) := by rw [IntWalk.i64_in _ (by omega)]; omega
    have c1 : ((n : Int) < (b.length : Int)) = True := eq_true (by omega)
    have e1 := idx_at (n := 3) ga rfl
    have hs := few_t given b[n]
    rw [runL_eq, List.drop_eq_getElem_cons hlt, List.all_cons]
    generalize b[n] = x at *
    generalize runL _ _ b_law3_ValuesRows_1 = L at hr ⊢
    simp only [Vl.p] at hs e1
    by_cases hxy : x.s.length ≤ 1100
    · simp only [b_law3_ValuesRows_1, go_sem, hlen, c1, e1, hs, w1, hr, hxy, Bool.true_and]
    · simp only [b_law3_ValuesRows_1, go_sem, hlen, c1, e1, hs, hxy, Bool.false_and]

theorem rows_law {a b : List Vl} (ha : ∀ v ∈ a, I64 v.k ∧ I64 v.i) (hb : ∀ v ∈ b, I64 v.k ∧ I64 v.i) : ∃ st, callE efns given f_law3_ValuesRows [.lst (a.map Vl.p), .lst (b.map Vl.p)] ⟨[], [], [], []⟩ = some (.bool true, st) := by
  have hlen : ∀ a : List Vl, unV .len (.lst (a.map Vl.p)) = some (.int .i64 a.length) := fun a => by
    show some (PV.int .i64 ((a.map Vl.p).length : Nat)) = _
    simp
  refine ⟨⟨[], [], [], []⟩, ?_⟩
  rw [callE_fn efns given (c := e_law3_ValuesRows) rfl rfl]
  by_cases l1 : (a.length : Int) > 20
  · simp only [e_law3_ValuesRows, go_sem, known_t, hlen, l1]
  by_cases l2 : (b.length : Int) > 20
  · simp only [e_law3_ValuesRows, go_sem, known_t, hlen, l1, l2]
  simp only [e_law3_ValuesRows, go_sem, known_t, hlen, l1, l2]
  generalize hK : blockK 0 _ = K
  obtain ⟨i, hr⟩ := few_loop0 (a := a) (b := b) (by omega) (st := ⟨[], [], [], []⟩) (K := K) a.length 0 rfl (by omega)
  refine Eq.trans hr ?_
  rw [List.drop_zero, ← hK]
  by_cases f1 : a.all (fun v => decide (v.s.length ≤ 1100)) = true
  · rw [if_pos f1]
    simp only [go_sem]
    generalize hK2 : blockK 2 _ = K2
    obtain ⟨j, hr2⟩ := few_loop1 (a := a) (b := b) (by omega) (st := ⟨[], [], [], []⟩) (K := K2) b.length 0 rfl (by omega)
    refine Eq.trans hr2 ?_
    rw [List.drop_zero, ← hK2]
    by_cases f2 : b.all (fun v => decide (v.s.length ≤ 1100)) = true
    · rw [if_pos f2]
      have sa : ∀ v ∈ a, Small v := fun v hv => ⟨(ha v hv).1, (ha v hv).2, by simpa using List.all_eq_true.1 f1 v hv⟩
      have sb : ∀ v ∈ b, Small v := fun v hv => ⟨(hb v hv).1, (hb v hv).2, by simpa using List.all_eq_true.1 f2 v hv⟩
      have h1 := hash_t (l := a) (by omega) sa
      have h2 := hash_t (l := b) (by omega) sb
      have h3 := rows_t (a := a) (b := b) (by omega) (by omega)
      simp only [go_sem, h1, h2, h3]
      by_cases hab : a = b
      · simp [hab]
      · have : ¬ hashM a = hashM b := fun h => hab (hash_inj sa sb h)
        simp [hab, this]
    · rw [if_neg f2]
      simp only [go_sem]
  · rw [if_neg f1]
    simp only [go_sem]

end Go.Proofs.YtnkmeafaggdfdaaDoorPe.Val
