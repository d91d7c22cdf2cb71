/- A part of the proof of this folder's statement; it has no condition of its own. -/
import Derived.Test.YtgjklaobjnjhpaaGreatNormzNb
import Derived.Test.YtgjklaobjnjhpaaGreatNormzVal
/- Whether alternatives are the same; what they ask; their patterns. -/
set_option linter.unusedVariables false
set_option linter.unusedSimpArgs false
set_option maxRecDepth 100000
namespace Go.Proofs.YtgjklaobjnjhpaaGreatPe.Normz
open Go Go.Proofs Go.Proofs.YtgjklaobjnjhpaaGreatPe Go.Proofs.YtgjklaobjnjhpaaGreatPe.NormzCode

def all2 {α : Type} (g : α → α → Bool) : List α → List α → Bool
  | [], [] => true
  | x :: l, y :: m => g x y && all2 g l m
  | _, _ => false
theorem all2_len {α : Type} {g : α → α → Bool} : ∀ {l m : List α}, all2 g l m = true → l.length = m.length
  | [], [], _ => rfl
  | x :: l, y :: m, h => by
    simp only [all2, Bool.and_eq_true] at h
    rw [List.length_cons, List.length_cons, all2_len h.2]
  | [], y :: m, h => by simp [all2] at h
  | x :: l, [], h => by simp [all2] at h
theorem sames_all2 : ∀ l m : List Ex, Ex.sames l m = all2 Ex.same l m
  | [], [] => by simp [Ex.sames, all2]
  | x :: l, y :: m => by simp only [Ex.sames, all2, sames_all2 l m]
  | [], y :: m => by simp [Ex.sames, all2]
  | x :: l, [] => by simp [Ex.sames, all2]
theorem csames_all2 : ∀ l m : List Ce, Ce.sames l m = all2 Ce.same l m
  | [], [] => by simp [Ce.sames, all2]
  | x :: l, y :: m => by simp only [Ce.sames, all2, csames_all2 l m]
  | [], y :: m => by simp [Ce.sames, all2]
  | x :: l, [] => by simp [Ce.sames, all2]
theorem all2_eq {α : Type} [DecidableEq α] : ∀ l m : List α, all2 (fun x y => decide (x = y)) l m = decide (l = m)
  | [], [] => rfl
  | x :: l, y :: m => by
    rw [all2, all2_eq l m]
    by_cases h1 : x = y <;> by_cases h2 : l = m <;> simp [h1, h2]
  | [], y :: m => by simp [all2]
  | x :: l, [] => by simp [all2]

theorem eqf_ts {g : Ts → Ts → Bool} {f : FuncId} : ∀ (l m : List Ts), l.length ≤ 1000000 → (∀ x ∈ l, ∀ y ∈ m, ∀ st, ∃ st', callE efns given f [.agg x.cells, .agg y.cells] st = some (.bool (g x y), st')) →
    ∀ st, ∃ st', callE efns given f_slices_EqualFunc_pat_Test_pat_Test_pat_Test_pat_Test [.lst (l.map Ts.p), .lst (m.map Ts.p), .func f []] st = some (.bool (all2 g l m), st') := by
  intro l m hl hcl st
  rw [callE_fn efns given (c := e_slices_EqualFunc_pat_Test_pat_Test_pat_Test_pat_Test) rfl rfl]
  by_cases hlen : l.length = m.length
  · have key : Good (fun v _ => v = .bool (all2 g l m)) (runE (callE efns given) e_slices_EqualFunc_pat_Test_pat_Test_pat_Test_pat_Test.body (startE e_slices_EqualFunc_pat_Test_pat_Test_pat_Test_pat_Test.nslots [.lst (l.map Ts.p), .lst (m.map Ts.p), .func f []]) st retK) := by
      have hlen' : ((l.length : Int) = (m.length : Int)) = True := eq_true (by omega)
      simp only [e_slices_EqualFunc_pat_Test_pat_Test_pat_Test_pat_Test, go_sem, List.length_map, hlen', ne_eq]
      refine Good.for l.length (fun n fr st => fr = [.undef, .lst (m.map Ts.p), .func f [], .undef, .undef, .lst (l.map Ts.p), .int .i64 (l.length : Int), .int .i64 (n : Int), .undef, .undef, .undef] ∧ all2 g l m = all2 g (l.drop n) (m.drop n)) ?_ ?_ ?_
      · rintro n fr ⟨bs, rows, bts, rt⟩ hn ⟨rfl, he⟩ k hk
        have hn' : n < m.length := by omega
        have c1 : ((n : Int) < (l.length : Int)) = True := eq_true (by omega)
        have xat := Ts.at_ hn
        have yat := Ts.at_ hn'
        have hc := hcl _ (List.getElem_mem hn) _ (List.getElem_mem hn')
        rw [List.drop_eq_getElem_cons hn, List.drop_eq_getElem_cons hn', all2] at he
        generalize l[n] = x at xat hc he
        generalize m[n] = y at yat hc he
        obtain ⟨st', hc⟩ := hc ⟨bs ++ [x.cells, y.cells], rows, bts ++ [T_slices_EqualFunc_pat_Test_pat_Test_pat_Test_pat_Test_0, T_slices_EqualFunc_pat_Test_pat_Test_pat_Test_pat_Test_0], rt⟩
        simp only [Ts.cells] at hc
        cases hb : g x y with
        | true =>
          rw [hb] at hc he
          simp only [b_slices_EqualFunc_pat_Test_pat_Test_pat_Test_pat_Test_0, go_sem, c1, xat, yat, Ts.cells, callv_f, hc, wrapN (n := n) (by omega)]
          exact hk _ _ ⟨rfl, by rw [he, Bool.true_and]⟩
        | false =>
          rw [hb] at hc he
          simp only [b_slices_EqualFunc_pat_Test_pat_Test_pat_Test_pat_Test_0, go_sem, c1, xat, yat, Ts.cells, callv_f, hc]
          exact Good.done (by rw [he, Bool.false_and])
      · rintro fr st ⟨rfl, he⟩ k
        rw [List.drop_eq_nil_of_le (i := l.length) (Nat.le_refl _), List.drop_eq_nil_of_le (i := l.length) (by omega), all2] at he
        simp only [b_slices_EqualFunc_pat_Test_pat_Test_pat_Test_pat_Test_0, go_sem, Int.lt_irrefl]
        exact Good.done (by rw [he])
      · exact ⟨rfl, rfl⟩
    obtain ⟨v, st', h1, rfl⟩ := key
    exact ⟨st', h1⟩
  · have hlen' : ((l.length : Int) = (m.length : Int)) = False := eq_false (by omega)
    have h0 : all2 g l m = false := by
      cases h : all2 g l m with
      | false => rfl
      | true => exact absurd (all2_len h) hlen
    rw [h0]
    simp only [e_slices_EqualFunc_pat_Test_pat_Test_pat_Test_pat_Test, go_sem, List.length_map, hlen', ne_eq]
    exact ⟨_, rfl⟩

theorem eqf_ex {g : Ex → Ex → Bool} {f : FuncId} : ∀ (l m : List Ex), l.length ≤ 1000000 → (∀ x ∈ l, ∀ y ∈ m, ∀ st, ∃ st', callE efns given f [.agg x.cells, .agg y.cells] st = some (.bool (g x y), st')) →
    ∀ st, ∃ st', callE efns given f_slices_EqualFunc_expr_Expr_expr_Expr_expr_Expr_expr_Expr [.lst (l.map Ex.p), .lst (m.map Ex.p), .func f []] st = some (.bool (all2 g l m), st') := by
  intro l m hl hcl st
  rw [callE_fn efns given (c := e_slices_EqualFunc_expr_Expr_expr_Expr_expr_Expr_expr_Expr) rfl rfl]
  by_cases hlen : l.length = m.length
  · have key : Good (fun v _ => v = .bool (all2 g l m)) (runE (callE efns given) e_slices_EqualFunc_expr_Expr_expr_Expr_expr_Expr_expr_Expr.body (startE e_slices_EqualFunc_expr_Expr_expr_Expr_expr_Expr_expr_Expr.nslots [.lst (l.map Ex.p), .lst (m.map Ex.p), .func f []]) st retK) := by
      have hlen' : ((l.length : Int) = (m.length : Int)) = True := eq_true (by omega)
      simp only [e_slices_EqualFunc_expr_Expr_expr_Expr_expr_Expr_expr_Expr, go_sem, List.length_map, hlen', ne_eq]
      refine Good.for l.length (fun n fr st => fr = [.undef, .lst (m.map Ex.p), .func f [], .undef, .undef, .lst (l.map Ex.p), .int .i64 (l.length : Int), .int .i64 (n : Int), .undef, .undef, .undef] ∧ all2 g l m = all2 g (l.drop n) (m.drop n)) ?_ ?_ ?_
      · rintro n fr ⟨bs, rows, bts, rt⟩ hn ⟨rfl, he⟩ k hk
        have hn' : n < m.length := by omega
        have c1 : ((n : Int) < (l.length : Int)) = True := eq_true (by omega)
        have xat := Ex.at_ hn
        have yat := Ex.at_ hn'
        have hc := hcl _ (List.getElem_mem hn) _ (List.getElem_mem hn')
        rw [List.drop_eq_getElem_cons hn, List.drop_eq_getElem_cons hn', all2] at he
        generalize l[n] = x at xat hc he
        generalize m[n] = y at yat hc he
        obtain ⟨st', hc⟩ := hc ⟨bs ++ [x.cells, y.cells], rows, bts ++ [T_slices_EqualFunc_expr_Expr_expr_Expr_expr_Expr_expr_Expr_0, T_slices_EqualFunc_expr_Expr_expr_Expr_expr_Expr_expr_Expr_0], rt⟩
        simp only [Ex.cells] at hc
        cases hb : g x y with
        | true =>
          rw [hb] at hc he
          simp only [b_slices_EqualFunc_expr_Expr_expr_Expr_expr_Expr_expr_Expr_0, go_sem, c1, xat, yat, Ex.cells, callv_f, hc, wrapN (n := n) (by omega)]
          exact hk _ _ ⟨rfl, by rw [he, Bool.true_and]⟩
        | false =>
          rw [hb] at hc he
          simp only [b_slices_EqualFunc_expr_Expr_expr_Expr_expr_Expr_expr_Expr_0, go_sem, c1, xat, yat, Ex.cells, callv_f, hc]
          exact Good.done (by rw [he, Bool.false_and])
      · rintro fr st ⟨rfl, he⟩ k
        rw [List.drop_eq_nil_of_le (i := l.length) (Nat.le_refl _), List.drop_eq_nil_of_le (i := l.length) (by omega), all2] at he
        simp only [b_slices_EqualFunc_expr_Expr_expr_Expr_expr_Expr_expr_Expr_0, go_sem, Int.lt_irrefl]
        exact Good.done (by rw [he])
      · exact ⟨rfl, rfl⟩
    obtain ⟨v, st', h1, rfl⟩ := key
    exact ⟨st', h1⟩
  · have hlen' : ((l.length : Int) = (m.length : Int)) = False := eq_false (by omega)
    have h0 : all2 g l m = false := by
      cases h : all2 g l m with
      | false => rfl
      | true => exact absurd (all2_len h) hlen
    rw [h0]
    simp only [e_slices_EqualFunc_expr_Expr_expr_Expr_expr_Expr_expr_Expr, go_sem, List.length_map, hlen', ne_eq]
    exact ⟨_, rfl⟩

theorem eqf_ce {g : Ce → Ce → Bool} {f : FuncId} : ∀ (l m : List Ce), l.length ≤ 1000000 → (∀ x ∈ l, ∀ y ∈ m, ∀ st, ∃ st', callE efns given f [.agg x.cells, .agg y.cells] st = some (.bool (g x y), st')) →
    ∀ st, ∃ st', callE efns given f_slices_EqualFunc_norm_Lit_norm_Lit_norm_Lit_norm_Lit [.lst (l.map Ce.p), .lst (m.map Ce.p), .func f []] st = some (.bool (all2 g l m), st') := by
  intro l m hl hcl st
  rw [callE_fn efns given (c := e_slices_EqualFunc_norm_Lit_norm_Lit_norm_Lit_norm_Lit) rfl rfl]
  by_cases hlen : l.length = m.length
  · have key : Good (fun v _ => v = .bool (all2 g l m)) (runE (callE efns given) e_slices_EqualFunc_norm_Lit_norm_Lit_norm_Lit_norm_Lit.body (startE e_slices_EqualFunc_norm_Lit_norm_Lit_norm_Lit_norm_Lit.nslots [.lst (l.map Ce.p), .lst (m.map Ce.p), .func f []]) st retK) := by
      have hlen' : ((l.length : Int) = (m.length : Int)) = True := eq_true (by omega)
      simp only [e_slices_EqualFunc_norm_Lit_norm_Lit_norm_Lit_norm_Lit, go_sem, List.length_map, hlen', ne_eq]
      refine Good.for l.length (fun n fr st => fr = [.undef, .lst (m.map Ce.p), .func f [], .undef, .undef, .lst (l.map Ce.p), .int .i64 (l.length : Int), .int .i64 (n : Int), .undef, .undef, .undef] ∧ all2 g l m = all2 g (l.drop n) (m.drop n)) ?_ ?_ ?_
      · rintro n fr ⟨bs, rows, bts, rt⟩ hn ⟨rfl, he⟩ k hk
        have hn' : n < m.length := by omega
        have c1 : ((n : Int) < (l.length : Int)) = True := eq_true (by omega)
        have xat := Ce.at_ hn
        have yat := Ce.at_ hn'
        have hc := hcl _ (List.getElem_mem hn) _ (List.getElem_mem hn')
        rw [List.drop_eq_getElem_cons hn, List.drop_eq_getElem_cons hn', all2] at he
        generalize l[n] = x at xat hc he
        generalize m[n] = y at yat hc he
        obtain ⟨st', hc⟩ := hc ⟨bs ++ [x.cells, y.cells], rows, bts ++ [T_slices_EqualFunc_norm_Lit_norm_Lit_norm_Lit_norm_Lit_0, T_slices_EqualFunc_norm_Lit_norm_Lit_norm_Lit_norm_Lit_0], rt⟩
        simp only [Ce.cells] at hc
        cases hb : g x y with
        | true =>
          rw [hb] at hc he
          simp only [b_slices_EqualFunc_norm_Lit_norm_Lit_norm_Lit_norm_Lit_0, go_sem, c1, xat, yat, Ce.cells, callv_f, hc, wrapN (n := n) (by omega)]
          exact hk _ _ ⟨rfl, by rw [he, Bool.true_and]⟩
        | false =>
          rw [hb] at hc he
          simp only [b_slices_EqualFunc_norm_Lit_norm_Lit_norm_Lit_norm_Lit_0, go_sem, c1, xat, yat, Ce.cells, callv_f, hc]
          exact Good.done (by rw [he, Bool.false_and])
      · rintro fr st ⟨rfl, he⟩ k
        rw [List.drop_eq_nil_of_le (i := l.length) (Nat.le_refl _), List.drop_eq_nil_of_le (i := l.length) (by omega), all2] at he
        simp only [b_slices_EqualFunc_norm_Lit_norm_Lit_norm_Lit_norm_Lit_0, go_sem, Int.lt_irrefl]
        exact Good.done (by rw [he])
      · exact ⟨rfl, rfl⟩
    obtain ⟨v, st', h1, rfl⟩ := key
    exact ⟨st', h1⟩
  · have hlen' : ((l.length : Int) = (m.length : Int)) = False := eq_false (by omega)
    have h0 : all2 g l m = false := by
      cases h : all2 g l m with
      | false => rfl
      | true => exact absurd (all2_len h) hlen
    rw [h0]
    simp only [e_slices_EqualFunc_norm_Lit_norm_Lit_norm_Lit_norm_Lit, go_sem, List.length_map, hlen', ne_eq]
    exact ⟨_, rfl⟩

/-! ### Values -/
theorem cmpS_zero {a b : List UInt8} : (cmpS a b = 0) = (a = b) := by
  rw [cmpS_eq]
  have key : ∀ a b : List UInt8, c3 a b = 0 ↔ a = b := by
    intro a
    induction a with
    | nil => intro b; cases b <;> simp [c3]
    | cons x a ih =>
      intro b
      cases b with
      | nil => simp [c3]
      | cons y b =>
        unfold c3 lex
        rcases cmpI_spec x.toNat y.toNat with ⟨q, h⟩ | ⟨q, h⟩ | ⟨q, h⟩
        · rw [h]; simp; intro e; subst e; omega
        · have := u8_eq q
          subst this
          rw [h]; simp [ih]
        · rw [h]; simp; intro e; subst e; omega
  exact propext (key a b)
theorem cmpI_zero {a b : Int} : (cmpI a b = 0) = (a = b) := by
  rcases cmpI_spec a b with ⟨q, h⟩ | ⟨q, h⟩ | ⟨q, h⟩
  · rw [h]; simp; omega
  · rw [h]; simp [q]
  · rw [h]; simp; omega
theorem cmpV_zero {v w : Vl} : (cmpV v w = 0) = (v = w) := by
  have e : (v = w) = (v.k = w.k ∧ v.i = w.i ∧ v.s = w.s) := by
    cases v; cases w; simp
  rw [e, ← cmpI_zero (a := v.k), ← cmpI_zero (a := v.i), ← cmpS_zero (a := v.s)]
  unfold cmpV
  simp only [orM]
  by_cases h1 : cmpI v.k w.k = 0
  · by_cases h2 : cmpI v.i w.i = 0
    · by_cases h3 : cmpS v.s w.s = 0
      · simp [h1, h2, h3]
      · simp [h1, h2, h3]
    · simp [h1, h2]
  · simp [h1]
theorem vsame_t (v w : Vl) : tupV (callE efns given) (.call 0 f_val_Same) [.agg [.int .i64 v.k, .int .i64 v.i, .str v.s], .agg [.int .i64 w.k, .int .i64 w.i, .str w.s]] = some (.bool (decide (v = w))) := by
  have := same_t given v w
  rw [show decide (cmpV v w = 0) = decide (v = w) from by simp only [cmpV_zero]] at this
  exact this
end Go.Proofs.YtgjklaobjnjhpaaGreatPe.Normz

/- Whether patterns, expressions, alternatives are the same. -/
set_option linter.unusedVariables false
set_option linter.unusedSimpArgs false
set_option maxRecDepth 100000
namespace Go.Proofs.YtgjklaobjnjhpaaGreatPe.Normz
open Go Go.Proofs Go.Proofs.YtgjklaobjnjhpaaGreatPe Go.Proofs.YtgjklaobjnjhpaaGreatPe.NormzCode

theorem psame1 (x y : Ts) : ∀ st, ∃ st', callE efns given f_pat_Same_1 [.agg x.cells, .agg y.cells] st = some (.bool (decide (x = y)), st') := by
  intro st
  have e : (x = y) = (x.slot = y.slot ∧ x.neg = y.neg ∧ x.var = y.var ∧ x.v = y.v) := by cases x; cases y; simp
  have hv := vsame_t x.v y.v
  rw [callE_fn efns given (c := e_pat_Same_1) rfl rfl]
  by_cases h1 : x.slot = y.slot
  · by_cases h2 : x.neg = y.neg
    · by_cases h3 : x.var = y.var
      · simp only [e_pat_Same_1, go_sem, Ts.cells, eq_true h1, h2, eq_true h3, hv]
        exact ⟨_, by simp only [e, h1, h2, h3, true_and]; rfl⟩
      · simp only [e_pat_Same_1, go_sem, Ts.cells, eq_true h1, h2, eq_false h3]
        exact ⟨_, by simp only [e, h3, false_and, and_false, decide_false]; rfl⟩
    · have h2' : (x.neg == y.neg) = false := by cases hx : x.neg <;> cases hy : y.neg <;> simp_all
      simp only [e_pat_Same_1, go_sem, Ts.cells, eq_true h1, h2']
      exact ⟨_, by simp only [e, h2, false_and, and_false, decide_false]; rfl⟩
  · simp only [e_pat_Same_1, go_sem, Ts.cells, eq_false h1]
    exact ⟨_, by simp only [e, h1, false_and, decide_false]; rfl⟩
theorem psame_t (x y : Pt) (hx : x.l.length ≤ 1000000) : tupV (callE efns given) (.call 0 f_pat_Same) [.agg [.str x.t, .lst (x.l.map Ts.p)], .agg [.str y.t, .lst (y.l.map Ts.p)]] = some (.bool (decide (x = y))) := by
  have e : (x = y) = (x.t = y.t ∧ x.l = y.l) := by cases x; cases y; simp
  refine call_good (f := f_pat_Same) rfl ?_
  rw [callE_fn efns given (c := e_pat_Same) rfl rfl]
  by_cases h1 : x.t = y.t
  · obtain ⟨st', h⟩ := eqf_ts x.l y.l hx (fun a _ b _ st => psame1 a b st) ⟨[[.str x.t, .lst (x.l.map Ts.p)], [.str y.t, .lst (y.l.map Ts.p)]], [], [T_pat_Same_0, T_pat_Same_0], []⟩
    rw [all2_eq] at h
    simp only [e_pat_Same, go_sem, eq_true h1, h]
    exact Good.done (by simp only [e, h1, true_and]; rfl)
  · simp only [e_pat_Same, go_sem, eq_false h1]
    exact Good.done (by simp only [e, h1, false_and, decide_false]; rfl)

theorem esame1 : ∀ (m : Nat) (x y : Ex), x.sz ≤ m → m ≤ 1000000 → ∀ st, ∃ st', callE efns given f_expr_Same [.agg x.cells, .agg y.cells] st = some (.bool (Ex.same x y), st') := by
  intro m
  induction m with
  | zero => intro x y h; rw [Ex.sz_eq] at h; omega
  | succ m ih =>
    intro x y hm hle st
    have hkl := Ex.len_sz x.kids
    have hsz := Ex.sz_eq x
    have hv := vsame_t x.v y.v
    rw [callE_fn efns given (c := e_expr_Same) rfl rfl, Ex.same_eq]
    by_cases h1 : x.k = y.k
    · by_cases h2 : x.v = y.v
      · by_cases h3 : x.s = y.s
        · obtain ⟨bs, rows, bts, rt⟩ := st
          obtain ⟨st', h⟩ := eqf_ex (g := Ex.same) x.kids y.kids (by omega) (fun a ha b _ st => ih a b (by have := Ex.sz_kid ha; omega) (by omega) st) ⟨bs ++ [x.cells, y.cells], rows, bts ++ [T_expr_Same_0, T_expr_Same_0], rt⟩
          rw [← sames_all2] at h
          rw [decide_eq_true h2] at hv
          simp only [Ex.cells] at h
          simp only [e_expr_Same, go_sem, Ex.cells, eq_true h1, eq_true h3, hv, h]
          exact ⟨_, by simp [h1, h2, h3]; rfl⟩
        · rw [decide_eq_true h2] at hv
          simp only [e_expr_Same, go_sem, Ex.cells, eq_true h1, eq_false h3, hv]
          exact ⟨_, by simp [h3]; rfl⟩
      · rw [decide_eq_false h2] at hv
        simp only [e_expr_Same, go_sem, Ex.cells, eq_true h1, hv]
        exact ⟨_, by simp [h2]; rfl⟩
    · simp only [e_expr_Same, go_sem, Ex.cells, eq_false h1]
      exact ⟨_, by simp [h1]; rfl⟩
theorem esame_t (x y : Ex) (hx : x.sz ≤ 1000000) : tupV (callE efns given) (.call 0 f_expr_Same) [.agg x.cells, .agg y.cells] = some (.bool (Ex.same x y)) := by
  obtain ⟨st', h⟩ := esame1 1000000 x y hx (Nat.le_refl _) ⟨[], [], [], []⟩
  exact callV_of rfl h rfl

theorem lsame1 : ∀ (m : Nat) (x y : Ce), x.sz ≤ m → m ≤ 1000000 → Ce.Fine x → ∀ st, ∃ st', callE efns given f_norm_same [.agg x.cells, .agg y.cells] st = some (.bool (Ce.same x y), st') := by
  intro m
  induction m with
  | zero => intro x y h; rw [Ce.sz_eq] at h; omega
  | succ m ih =>
    intro x y hm hle hf st
    have hkl := Ce.len_sz x.kids
    have hsz := Ce.sz_eq x
    obtain ⟨f1, f2, f3⟩ := hf
    have hp := psame_t x.pt y.pt (by omega)
    have he := esame_t x.e y.e (by omega)
    have hes : Ex.same x.e y.e = decide (x.e = y.e) := by
      rw [Bool.eq_iff_iff, Ex.same_iff, decide_eq_true_eq]
    rw [hes] at he
    simp only [Ex.cells] at he
    rw [callE_fn efns given (c := e_norm_same) rfl rfl, Ce.same_eq]
    by_cases h1 : x.k = y.k
    · by_cases h2 : x.bind = y.bind
      · by_cases h3 : x.pt = y.pt
        · by_cases h4 : x.e = y.e
          · obtain ⟨bs, rows, bts, rt⟩ := st
            obtain ⟨st', h⟩ := eqf_ce (g := Ce.same) x.kids y.kids (by omega) (fun a ha b _ st => ih a b (by have := Ce.sz_kid ha; omega) (by omega) (f3 a ha) st) ⟨bs ++ [x.cells, y.cells], rows, bts ++ [T_norm_same_0, T_norm_same_0], rt⟩
            rw [← csames_all2] at h
            rw [decide_eq_true h3] at hp
            rw [decide_eq_true h4] at he
            simp only [Ce.cells] at h
            simp only [e_norm_same, go_sem, Ce.cells, eq_true h1, eq_true h2, hp, he, h]
            exact ⟨_, by simp [h1, h2, h3, h4]; rfl⟩
          · rw [decide_eq_true h3] at hp
            rw [decide_eq_false h4] at he
            simp only [e_norm_same, go_sem, Ce.cells, eq_true h1, eq_true h2, hp, he]
            exact ⟨_, by simp [h4]; rfl⟩
        · rw [decide_eq_false h3] at hp
          simp only [e_norm_same, go_sem, Ce.cells, eq_true h1, eq_true h2, hp]
          exact ⟨_, by simp [h3]; rfl⟩
      · simp only [e_norm_same, go_sem, Ce.cells, eq_true h1, eq_false h2]
        exact ⟨_, by simp [h2]; rfl⟩
    · simp only [e_norm_same, go_sem, Ce.cells, eq_false h1]
      exact ⟨_, by simp [h1]; rfl⟩
def alSame (a b : Al) : Bool := decide (a.logic = b.logic) && Ce.sames a.lits b.lits
theorem nsame_al (a b : Al) (hs : Ce.szs a.lits < 1000000) (hf : ∀ c ∈ a.lits, Ce.Fine c) : tupV (callE efns given) (.call 0 f_norm_Same) [.agg [.lst (a.lits.map Ce.p), .int .i64 (a.logic : Int)], .agg [.lst (b.lits.map Ce.p), .int .i64 (b.logic : Int)]] = some (.bool (alSame a b)) := by
  refine call_good (f := f_norm_Same) rfl ?_
  rw [callE_fn efns given (c := e_norm_Same) rfl rfl]
  have hl := Ce.len_sz a.lits
  have q : ((a.logic : Int) = (b.logic : Int)) = (a.logic = b.logic) := propext ⟨fun h => by omega, fun h => by omega⟩
  unfold alSame
  by_cases h1 : a.logic = b.logic
  · obtain ⟨st', h⟩ := eqf_ce (g := Ce.same) a.lits b.lits (by omega) (fun x hx y _ st => lsame1 1000000 x y (by have := Ce.sz_mem hx; omega) (Nat.le_refl _) (hf x hx) st) ⟨[[.lst (a.lits.map Ce.p), .int .i64 (a.logic : Int)], [.lst (b.lits.map Ce.p), .int .i64 (b.logic : Int)]], [], [T_norm_Same_0, T_norm_Same_0], []⟩
    rw [← csames_all2] at h
    simp only [e_norm_Same, go_sem, q, eq_true h1, h]
    exact Good.done rfl
  · simp only [e_norm_Same, go_sem, q, eq_false h1]
    exact Good.done rfl

/-! ### What is asked -/
mutual
def Ce.spec : Ce → Nat
  | .mk k _ p _ l => 1 + (if k = 1 then p.l.length else if k = 3 then Ce.specs l else 0)
def Ce.specs : List Ce → Nat
  | [] => 0
  | c :: l => Ce.spec c + Ce.specs l
end
theorem Ce.spec_eq (c : Ce) : c.spec = 1 + (if c.k = 1 then c.pt.l.length else if c.k = 3 then Ce.specs c.kids else 0) := by cases c; rfl
theorem Ce.specs_append : ∀ l m : List Ce, Ce.specs (l ++ m) = Ce.specs l + Ce.specs m
  | [], m => by simp [Ce.specs]
  | x :: l, m => by rw [List.cons_append, Ce.specs, Ce.specs, Ce.specs_append l m]; omega
theorem Ce.specs_le : ∀ (m : Nat) (l : List Ce), Ce.szs l < m → (∀ c ∈ l, Ce.Fine c) → Ce.specs l ≤ 5001 * Ce.szs l := by
  intro m
  induction m with
  | zero => intro l h; omega
  | succ m ih =>
    intro l
    induction l with
    | nil => intro _ _; simp [Ce.specs]
    | cons c l ihl =>
      intro hm hf
      rw [Ce.specs, Ce.szs, Ce.spec_eq]
      rw [Ce.szs] at hm
      have hs := Ce.sz_eq c
      obtain ⟨h1, _, h2⟩ := hf c (List.mem_cons.2 (.inl rfl))
      have h3 := ihl (by omega) (fun x hx => hf x (List.mem_cons.2 (.inr hx)))
      have h4 := ih c.kids (by omega) h2
      split
      · omega
      · split <;> omega
theorem spec_t : ∀ (m : Nat) (l : List Ce), Ce.szs l < m → m ≤ 10000 → (∀ c ∈ l, Ce.Fine c) → tupV (callE efns given) (.call 0 f_norm_Spec) [.lst (l.map Ce.p)] = some (.int .i64 (Ce.specs l : Int)) := by
  intro m
  induction m with
  | zero => intro l h; omega
  | succ m ih =>
    intro l hm hle hf
    have hkl := Ce.len_sz l
    have hsp := Ce.specs_le _ l hm hf
    refine call_good (f := f_norm_Spec) rfl ?_
    rw [callE_fn efns given (c := e_norm_Spec) rfl rfl]
    simp only [e_norm_Spec, go_sem, List.length_map]
    refine Good.for l.length (fun n fr st => ∃ v : Nat, fr = [.undef, .int .i64 (v : Int), .undef, .lst (l.map Ce.p), .int .i64 (l.length : Int), .int .i64 (n : Int)] ++ List.replicate 3 .undef ∧ v + n = l.length + Ce.specs (l.take n)) ?_ ?_ ?_
    · rintro n fr ⟨bs, rows, bts, rt⟩ hn ⟨v, rfl, hv⟩ k hk
      have c1 : ((n : Int) < (l.length : Int)) = True := eq_true (by omega)
      have cat := Ce.at_ hn
      have hsz := Ce.sz_mem (List.getElem_mem hn)
      obtain ⟨f1, _, f2⟩ := hf _ (List.getElem_mem hn)
      have h2 : Ce.specs (l.take (n + 1)) = Ce.specs (l.take n) + l[n].spec := by
        rw [take_succ_at hn, Ce.specs_append]; simp [Ce.specs]
      have hbd : Ce.specs (l.take (n + 1)) ≤ Ce.specs l := by
        have := Ce.specs_append (l.take (n + 1)) (l.drop (n + 1))
        rw [List.take_append_drop] at this
        omega
      generalize l[n] = c at cat hsz f1 f2 h2
      have hse := Ce.sz_eq c
      rw [Ce.spec_eq] at h2
      have h1 := ih c.kids (by omega) (by omega) f2
      by_cases k1 : c.k = 1
      · rw [if_pos k1] at h2
        have w : IntKind.i64.wrap ((v : Int) + ((c.pt.l.length : Nat) : Int)) = ((v + c.pt.l.length : Nat) : Int) := by rw [IntKind.wrap_i64]; omega
        simp only [b_norm_Spec_0, go_sem, Ce.cells, cat, c1, eq_true k1, List.length_map, w, wrapN (n := n) (by omega)]
        exact hk _ _ ⟨_, rfl, by omega⟩
      · rw [if_neg k1] at h2
        by_cases k3 : c.k = 3
        · rw [if_pos k3] at h2
          have w : IntKind.i64.wrap ((v : Int) + ((Ce.specs c.kids : Nat) : Int)) = ((v + Ce.specs c.kids : Nat) : Int) := by rw [IntKind.wrap_i64]; omega
          simp only [b_norm_Spec_0, go_sem, Ce.cells, cat, c1, eq_false k1, eq_true k3, h1, w, wrapN (n := n) (by omega)]
          exact hk _ _ ⟨_, rfl, by omega⟩
        · rw [if_neg k3] at h2
          simp only [b_norm_Spec_0, go_sem, Ce.cells, cat, c1, eq_false k1, eq_false k3, wrapN (n := n) (by omega)]
          exact hk _ _ ⟨_, rfl, by omega⟩
    · rintro fr ⟨bs, rows, bts, rt⟩ ⟨v, rfl, hv⟩ k
      rw [List.take_length] at hv
      have : v = Ce.specs l := by omega
      simp only [b_norm_Spec_0, go_sem, Int.lt_irrefl]
      exact Good.done (by rw [this]; rfl)
    · exact ⟨l.length, rfl, by simp [Ce.specs]⟩

/-! ### Patterns -/
mutual
def Ce.pats : Ce → List Pt
  | .mk k _ p _ l => if k = 1 then [p] else if k = 3 then Ce.patl l else []
def Ce.patl : List Ce → List Pt
  | [] => []
  | c :: l => Ce.pats c ++ Ce.patl l
end
theorem Ce.pats_eq (c : Ce) : c.pats = if c.k = 1 then [c.pt] else if c.k = 3 then Ce.patl c.kids else [] := by cases c; rfl
theorem Ce.patl_append : ∀ l m : List Ce, Ce.patl (l ++ m) = Ce.patl l ++ Ce.patl m
  | [], m => by simp [Ce.patl]
  | x :: l, m => by rw [List.cons_append, Ce.patl, Ce.patl, Ce.patl_append l m, List.append_assoc]
theorem Ce.patl_le : ∀ (m : Nat) (l : List Ce), Ce.szs l < m → (Ce.patl l).length ≤ Ce.szs l := by
  intro m
  induction m with
  | zero => intro l h; omega
  | succ m ih =>
    intro l
    induction l with
    | nil => intro _; simp [Ce.patl]
    | cons c l ihl =>
      intro hm
      rw [Ce.patl, Ce.szs, Ce.pats_eq, List.length_append]
      rw [Ce.szs] at hm
      have hs := Ce.sz_eq c
      have h3 := ihl (by omega)
      have h4 := ih c.kids (by omega)
      split
      · simp only [List.length_singleton]; omega
      · split
        · omega
        · simp only [List.length_nil]; omega
theorem szAll_pt (l : List Pt) : szAll 2 (l.map Pt.p) = true := by
  refine List.all_eq_true.2 fun e he => ?_
  obtain ⟨c, _, rfl⟩ := List.mem_map.1 he
  rfl
theorem pats_t : ∀ (m : Nat) (l : List Ce), Ce.szs l < m → m ≤ 10000 → (∀ c ∈ l, Ce.Fine c) → tupV (callE efns given) (.call 0 f_norm_Patterns) [.lst (l.map Ce.p)] = some (.lst ((Ce.patl l).map Pt.p)) := by
  intro m
  induction m with
  | zero => intro l h; omega
  | succ m ih =>
    intro l hm hle hf
    have hkl := Ce.len_sz l
    have hpl := Ce.patl_le _ l hm
    refine call_good (f := f_norm_Patterns) rfl ?_
    rw [callE_fn efns given (c := e_norm_Patterns) rfl rfl]
    simp only [e_norm_Patterns, go_sem, List.length_map]
    refine Good.for l.length (fun n fr st => ∃ xo bs rows bts rt, fr = [.undef, xo, .undef, .lst (l.map Ce.p), .int .i64 (l.length : Int), .int .i64 (n : Int)] ++ List.replicate 7 .undef ∧ st = ⟨bs, rows, bts, rt⟩ ∧
      OutV 2 T_norm_Patterns_0 ((Ce.patl (l.take n)).map Pt.p) xo rows rt ∧ rt.length = rows.length) ?_ ?_ ?_
    · rintro n fr st hn ⟨xo, bs, rows, bts, rt, rfl, rfl, hO, hr⟩ k hk
      have c1 : ((n : Int) < (l.length : Int)) = True := eq_true (by omega)
      have cat := Ce.at_ hn
      have hsz := Ce.sz_mem (List.getElem_mem hn)
      obtain ⟨f1, _, f2⟩ := hf _ (List.getElem_mem hn)
      have h2 : Ce.patl (l.take (n + 1)) = Ce.patl (l.take n) ++ l[n].pats := by
        rw [take_succ_at hn, Ce.patl_append]; simp [Ce.patl]
      have hbd : (Ce.patl (l.take n)).length ≤ (Ce.patl l).length := by
        have := congrArg List.length (Ce.patl_append (l.take n) (l.drop n))
        rw [List.take_append_drop, List.length_append] at this
        omega
      generalize l[n] = c at cat hsz f1 f2 h2
      have hse := Ce.sz_eq c
      rw [Ce.pats_eq] at h2
      have h1 := ih c.kids (by omega) (by omega) f2
      by_cases k1 : c.k = 1
      · rw [if_pos k1] at h2
        have h3 := clone_ok (szAll_ts c.pt.l) (by simp; omega) ⟨[], [], [], []⟩
        have h4 := clipTest_t (c.pt.l.map Ts.p)
        obtain ⟨out', rows', rt', ap, hO', hr', _⟩ := hO.app1 (b := 40) hr (e := .agg [.str c.pt.t, .lst (c.pt.l.map Ts.p)]) rfl (by simp; omega)
        simp only [b_norm_Patterns_0, go_sem, Ce.cells, cat, c1, eq_true k1, h3, h4, ap, wrapN (n := n) (by omega)]
        refine hk _ _ ⟨out', _, _, _, _, rfl, rfl, ?_, hr'⟩
        rw [h2, List.map_append, List.map_singleton]
        exact hO'
      · rw [if_neg k1] at h2
        by_cases k3 : c.k = 3
        · rw [if_pos k3] at h2
          have h5 := Ce.patl_le (Ce.szs c.kids + 1) c.kids (by omega)
          obtain ⟨out', rows', rt', ap, hO', hr', _⟩ := hO.app (b := 40) hr (es := (Ce.patl c.kids).map Pt.p) (szAll_pt _) (by simp; omega)
          simp only [b_norm_Patterns_0, go_sem, Ce.cells, cat, c1, eq_false k1, eq_true k3, h1, ap, wrapN (n := n) (by omega)]
          refine hk _ _ ⟨out', _, _, _, _, rfl, rfl, ?_, hr'⟩
          rw [h2, List.map_append]
          exact hO'
        · rw [if_neg k3] at h2
          simp only [b_norm_Patterns_0, go_sem, Ce.cells, cat, c1, eq_false k1, eq_false k3, wrapN (n := n) (by omega)]
          exact hk _ _ ⟨xo, _, _, _, _, rfl, rfl, by rw [h2, List.append_nil]; exact hO, hr⟩
    · rintro fr st ⟨xo, bs, rows, bts, rt, rfl, rfl, hO, hr⟩ k
      rw [List.take_length] at hO
      have hcl := clip_of hO.sl (clipPat_t _)
      simp only [b_norm_Patterns_0, go_sem, Int.lt_irrefl, hcl]
      exact Good.done rfl
    · exact ⟨.nils, _, _, _, _, rfl, rfl, .nils, rfl⟩
end Go.Proofs.YtgjklaobjnjhpaaGreatPe.Normz

