/- The rows of numbers of delta: what comparing, cloning and cutting them comes to. -/
import Derived.Test.YtngkdpiajikcjaaDeltaCode
import Derived.Test.YtngkdpiajikcjaaEcWp2
import Derived.Test.YtngkdpiajikcjaaPeSound3
import Derived.IntWalk
set_option maxRecDepth 1000000
set_option linter.unusedVariables false
set_option linter.unusedSimpArgs false
namespace Go.Proofs.YtngkdpiajikcjaaPe.Delta
open Go Go.Proofs.YtngkdpiajikcjaaPe Go.Proofs.YtngkdpiajikcjaaPe.DeltaCode

/-- The table without what is given. -/
def outE (f : FuncId) : Option EFunc := if f = f_slices_Clone_int_int ∨ f = f_slices_Clone_eval_Bind_eval_Bind then none else efns f

/-- slices.Clone: the same elements. -/
def given (f : FuncId) (xs : List PV) : Option PV :=
  if f = f_slices_Clone_int_int then (match xs with
    | [.lst l] => if szAll 1 l = true ∧ l.length * 9 ≤ 70368744177664 then some (.lst l) else none
    | _ => none)
  else if f = f_slices_Clone_eval_Bind_eval_Bind then (match xs with
    | [.lst []] => some (.lst [])
    | _ => none)
  else none

abbrev I64 (n : Int) : Prop := -9223372036854775808 ≤ n ∧ n ≤ 9223372036854775807
def el (l : List Int) : List PV := l.map (.int .i64 ·)
abbrev ints (l : List Int) : PV := .lst (el l)
theorem el_len (l : List Int) : (el l).length = l.length := by simp [el]
theorem el_at {l : List Int} {n : Nat} {x : Int} (h : l[n]? = some x) : evIdx 1 (el l) (n : Int) = some (.ref [.int .i64 x]) := by
  unfold evIdx el
  rw [if_pos (Int.natCast_nonneg n), Int.toNat_natCast, List.getElem?_map, h]
  rfl

def cmpL : List Int → List Int → Option Int
  | a :: l, b :: m => if a < b then some (-1) else if a > b then some 1 else cmpL l m
  | _, _ => none
/-- The order of rows. -/
def cmpM (a b : List Int) : Int := match cmpL a b with
  | some c => c
  | none => if a.length < b.length then -1 else if a.length > b.length then 1 else 0

theorem compare_loop {a b : List Int} (ha : a.length < 4611686018427387904) {st : St} {K : EX → Fr → St → Option (PV × St)} : ∀ (d n : Nat), a.length - n = d → n ≤ a.length → n ≤ b.length →
    ∃ i, runL (callE outE given) [true, true, true] b_ref15_Compare_0 [ints a, ints b, .int .i64 n] st K = match cmpL (a.drop n) (b.drop n) with
      | some c => K (.ret (.int .i64 c)) [] st
      | none => K (.exit 0) [ints a, ints b, i] st := by
  intro d
  induction d with
  | zero =>
    intro n hd h1 h2
    have : n = a.length := by omega
    subst this
    refine ⟨.int .i64 a.length, ?_⟩
    rw [runL_eq, List.drop_length]
    generalize runL _ _ b_ref15_Compare_0 = L
    simp only [b_ref15_Compare_0, go_sem, V_call, el_len, cmpL, Int.lt_irrefl, if_false]
  | succ d ih =>
    intro n hd h1 h2
    have hlt : n < a.length := by omega
    by_cases hb : n < b.length
    · obtain ⟨i, hi⟩ := ih (n + 1) (by omega) (by omega) (by omega)
      refine ⟨i, ?_⟩
      have ga : a[n]? = some a[n] := List.getElem?_eq_getElem hlt
      have gb : b[n]? = some b[n] := List.getElem?_eq_getElem hb
      rw [runL_eq, List.drop_eq_getElem_cons hlt, List.drop_eq_getElem_cons hb]
      generalize a[n] = x at ga ⊢
      generalize b[n] = y at gb ⊢
      have w1 : IntKind.i64.wrap ((n : Int) + 1) = ((n + 1 : Nat) : Int) := by rw [IntWalk.i64_in _ (by omega)]; omega
      generalize runL _ _ b_ref15_Compare_0 = L at hi ⊢
      have c1 : (n : Int) < (a.length : Int) := by omega
      have c2 : (n : Int) < (b.length : Int) := by omega
      simp only [b_ref15_Compare_0, go_sem, V_call, el_len, el_at ga, el_at gb, w1, c1, c2, if_true, cmpL, hi]
      split
      · rfl
      · split <;> rfl
    · refine ⟨.int .i64 n, ?_⟩
      have e : b.drop n = [] := List.drop_eq_nil_of_le (by omega)
      rw [runL_eq, e]
      generalize runL _ _ b_ref15_Compare_0 = L
      have c1 : (n : Int) < (a.length : Int) := by omega
      have c2 : ¬ (n : Int) < (b.length : Int) := by omega
      simp only [b_ref15_Compare_0, go_sem, V_call, el_len, c1, c2, if_true, if_false]
      cases a.drop n <;> rfl

theorem compare_ok {a b : List Int} (ha : a.length < 4611686018427387904) (st : St) : callE outE given f_ref15_Compare [ints a, ints b] st = some (.int .i64 (cmpM a b), st) := by
  rw [callE_fn outE given (c := e_ref15_Compare) rfl rfl]
  simp only [e_ref15_Compare, go_sem, V_call]
  generalize hK : blockK 0 _ = K
  obtain ⟨i, hi⟩ := compare_loop ha (st := st) (K := K) a.length 0 rfl (by omega) (by omega) (b := b)
  refine Eq.trans hi ?_
  simp only [List.drop_zero, cmpM]
  cases cmpL a b with
  | some c => rw [← hK]; rfl
  | none =>
    rw [← hK]
    simp only [go_sem, V_call, el_len]
    have e1 : ((a.length : Int) < (b.length : Int)) = (a.length < b.length) := by simp
    have e2 : ((a.length : Int) > (b.length : Int)) = (a.length > b.length) := by simp
    simp only [e1, e2]
    split
    · rfl
    · split <;> rfl

theorem cmp_ok {x y : Int} (st : St) : callE outE given f_cmp_Compare_int [.int .i64 x, .int .i64 y] st = some (.int .i64 (if x < y then -1 else if x > y then 1 else 0), st) := by
  have nan : ∀ (x : Int) (st : St), callE outE given f_cmp_isNaN_int [.int .i64 x] st = some (.bool false, st) := by
    intro x st
    rw [callE_fn outE given (c := e_cmp_isNaN_int) rfl rfl]
    simp only [e_cmp_isNaN_int, go_sem, V_call, ne_eq, not_true_eq_false, decide_false]
  rw [callE_fn outE given (c := e_cmp_Compare_int) rfl rfl]
  simp only [e_cmp_Compare_int, go_sem, V_call, nan x ⟨[], []⟩, nan y ⟨[], []⟩]
  split
  · rfl
  · split <;> rfl

theorem scompare_loop {a b : List Int} (ha : a.length < 4611686018427387904) {st : St} {K : EX → Fr → St → Option (PV × St)} : ∀ (d n : Nat) , a.length - n = d → n ≤ a.length → n ≤ b.length →
    runL (callE outE given) [true, true, false, false, true, true, true] b_slices_Compare_int_int_0 [ints a, ints b, .undef, .undef, ints a, .int .i64 a.length, .int .i64 n] st K = match cmpL (a.drop n) (b.drop n) with
      | some c => K (.ret (.int .i64 c)) [] st
      | none => if b.length < a.length then K (.ret (.int .i64 1)) [] st else K (.exit 0) [ints a, ints b, .undef, .undef, ints a, .int .i64 a.length, .int .i64 a.length] st := by
  intro d
  induction d with
  | zero =>
    intro n hd h1 h2
    have : n = a.length := by omega
    subst this
    rw [runL_eq, List.drop_length]
    generalize runL _ _ b_slices_Compare_int_int_0 = L
    have c1 : ¬ b.length < a.length := by omega
    simp only [b_slices_Compare_int_int_0, go_sem, V_call, el_len, cmpL, Int.lt_irrefl, if_false, c1]
  | succ d ih =>
    intro n hd h1 h2
    have hlt : n < a.length := by omega
    have c1 : (n : Int) < (a.length : Int) := by omega
    have ga : a[n]? = some a[n] := List.getElem?_eq_getElem hlt
    by_cases hb : n < b.length
    · have hi := ih (n + 1) (by omega) (by omega) (by omega)
      have gb : b[n]? = some b[n] := List.getElem?_eq_getElem hb
      rw [runL_eq, List.drop_eq_getElem_cons hlt, List.drop_eq_getElem_cons hb]
      generalize a[n] = x at ga ⊢
      generalize b[n] = y at gb ⊢
      have w1 : IntKind.i64.wrap ((n : Int) + 1) = ((n + 1 : Nat) : Int) := by rw [IntWalk.i64_in _ (by omega)]; omega
      generalize runL _ _ b_slices_Compare_int_int_0 = L at hi ⊢
      have c2 : ¬ (n : Int) ≥ (b.length : Int) := by omega
      simp only [b_slices_Compare_int_int_0, go_sem, V_call, el_len, el_at ga, el_at gb, w1, c1, c2, if_true, if_false, cmpL, cmp_ok ⟨[], []⟩, hi]
      by_cases e1 : x < y
      · simp [e1]
      · by_cases e2 : x > y
        · simp [e1, e2]
        · simp [e1, e2]
    · have e : b.drop n = [] := List.drop_eq_nil_of_le (by omega)
      have c2 : (n : Int) ≥ (b.length : Int) := by omega
      have c3 : b.length < a.length := by omega
      rw [runL_eq, e]
      generalize runL _ _ b_slices_Compare_int_int_0 = L
      simp only [b_slices_Compare_int_int_0, go_sem, V_call, el_len, el_at ga, c1, c2, if_true, c3]
      cases a.drop n <;> rfl

theorem scompare_ok {a b : List Int} (ha : a.length < 4611686018427387904) (st : St) : callE outE given f_slices_Compare_int_int [ints a, ints b] st = some (.int .i64 (cmpM a b), st) := by
  rw [callE_fn outE given (c := e_slices_Compare_int_int) rfl rfl]
  simp only [e_slices_Compare_int_int, go_sem, V_call, el_len]
  generalize hK : blockK 0 _ = K
  have hi := scompare_loop ha (st := st) (K := K) a.length 0 rfl (by omega) (by omega) (b := b)
  refine Eq.trans hi ?_
  simp only [List.drop_zero, cmpM]
  cases cmpL a b with
  | some c => rw [← hK]; rfl
  | none =>
    rw [← hK]
    by_cases h : b.length < a.length
    · have c1 : ¬ a.length < b.length := by omega
      simp only [h, c1, if_true, if_false]
      rfl
    · simp only [h, if_false]
      simp only [go_sem, V_call, el_len]
      have e1 : ((a.length : Int) < (b.length : Int)) = (a.length < b.length) := by simp
      have e2 : ¬ a.length > b.length := h
      simp only [e1, e2, if_false]
      split <;> rfl

theorem mcompare_ok {a b : List Int} (ha : a.length < 4611686018427387904) (st : St) : callE outE given f_model_Compare [ints a, ints b] st = some (.int .i64 (cmpM a b), st) := by
  rw [callE_fn outE given (c := e_model_Compare) rfl rfl]
  simp only [e_model_Compare, go_sem, V_call, scompare_ok ha ⟨[], []⟩]

/-- Rows of numbers that are few enough to be cloned. -/
abbrev Short (l : List Int) : Prop := l.length < 1000000

theorem szAll_el (l : List Int) : szAll 1 (el l) = true := by
  unfold szAll el
  rw [List.all_eq_true]
  intro x hx
  obtain ⟨n, _, rfl⟩ := List.mem_map.1 hx
  rfl

theorem clone_ok {l : List Int} (h : Short l) (st : St) : callE outE given f_slices_Clone_int_int [ints l] st = some (ints l, st) := by
  rw [callE_given outE given rfl]
  show (given f_slices_Clone_int_int [ints l]).map (·, st) = _
  unfold given
  rw [if_pos rfl]
  simp only
  rw [if_pos ⟨szAll_el l, by rw [el_len]; omega⟩]
  rfl
theorem cloneB_ok (st : St) : callE outE given f_slices_Clone_eval_Bind_eval_Bind [.lst []] st = some (.lst [], st) := by
  rw [callE_given outE given rfl]
  rfl

theorem bnd_all {k : IntKind} {n d : Nat} : bnd (some (.int k (n : Int))) n d = some n := by
  have := bnd_hi (k := k) (i := (n : Int)) (y := n) (d := d) (by omega) (by omega)
  rw [this, Int.toNat_natCast]

theorem lsub_clip {n : Nat} {k k' : IntKind} {l : List PV} : lsubV n (.lst l) none (some (.int k (l.length : Int))) (some (.int k' (l.length : Int))) = some (.full l) := by
  show (match bnd (some (.int k' (l.length : Int))) l.length l.length with
    | some c => match bnd (some (.int k (l.length : Int))) c c with
      | some h => match bnd none h 0 with
        | some o => if sizesOk n o l then (if h = c then some (PV.full ((l.take h).drop o)) else some (PV.lst ((l.take h).drop o))) else none
        | none => none
      | none => none
    | none => none) = _
  rw [bnd_all]
  simp only
  rw [bnd_all]
  simp [bnd, sizesOk]

theorem clip_ok {l : List Int} (st : St) : callE outE given f_slices_Clip_int_int [ints l] st = some (.full (el l), st) := by
  rw [callE_fn outE given (c := e_slices_Clip_int_int) rfl rfl]
  simp only [e_slices_Clip_int_int, go_sem, V_call, lsub_clip]
theorem clipB_ok (st : St) : callE outE given f_slices_Clip_eval_Bind_eval_Bind [.lst []] st = some (.full [], st) := by
  rw [callE_fn outE given (c := e_slices_Clip_eval_Bind_eval_Bind) rfl rfl]
  have h : lsubV 4 (.lst []) none (some (.int .i64 ((0 : Nat) : Int))) (some (.int .i64 ((0 : Nat) : Int))) = some (.full []) := rfl
  simp only [e_slices_Clip_eval_Bind_eval_Bind, go_sem, V_call, h]

/-- A way: its facts, and nothing bound. true: told apart. -/
def inst : Bool → List Int → PV
  | false, l => .agg [ints l, .nils]
  | true, l => .agg [ints l, .lst []]
theorem inst_cells (p : Bool) (l : List Int) : (inst p l).cells.length = 2 := by cases p <;> rfl

theorem apart_ok {l : List Int} (h : Short l) : ∃ st', callE outE given f_delta_apart [.agg [.lst (el l), .lst []]] ⟨[], []⟩ = some (.agg [.full (el l), .full []], st') := by
  rw [callE_fn outE given (c := e_delta_apart) rfl rfl]
  simp only [e_delta_apart, go_sem, V_call, clone_ok h ⟨[], []⟩, clip_ok ⟨[], []⟩, cloneB_ok ⟨[], []⟩, clipB_ok ⟨[], []⟩]
  exact ⟨_, rfl⟩
end Go.Proofs.YtngkdpiajikcjaaPe.Delta
