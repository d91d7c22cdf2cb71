/- A part of the proof of this folder's statement; it has no condition of its own. -/
import Derived.Test.YtgjklaobjnjhpaaGreatNormzVal
import Derived.Test.YtgjklaobjnjhpaaGreatEcOut
/- The plain data: nodes, expressions, patterns, conditions (trees printed by tool/tree.py). -/
set_option linter.unusedVariables false
set_option linter.unusedSimpArgs false
namespace Go.Proofs.YtgjklaobjnjhpaaGreatPe.Normz
open Go Go.Proofs Go.Proofs.YtgjklaobjnjhpaaGreatPe

def Vl.cells (v : Vl) : List PV := [.int .i64 v.k, .int .i64 v.i, .str v.s]
instance : Inhabited Vl := ⟨⟨0, 0, []⟩⟩
theorem Vl.p_eq (v : Vl) : v.p = .agg v.cells := rfl
/-- A node. -/
inductive Nd where
  | mk (k : Int) (pos : Int) (i : Int) (s : List UInt8) (kids : List Nd)
  deriving Inhabited
namespace Nd
def k : Nd → Int
  | .mk x _ _ _ _ => x
def pos : Nd → Int
  | .mk _ x _ _ _ => x
def i : Nd → Int
  | .mk _ _ x _ _ => x
def s : Nd → List UInt8
  | .mk _ _ _ x _ => x
def kids : Nd → List Nd
  | .mk _ _ _ _ x => x
mutual
def p : Nd → PV
  | .mk k pos i s l => .agg ([.int .i64 k, .int .i64 pos, .int .i64 i, .str s, .lst (ps l)])
def ps : List Nd → List PV
  | [] => []
  | x :: l => p x :: ps l
end
theorem ps_eq : ∀ l : List Nd, ps l = l.map p
  | [] => by simp [ps]
  | x :: l => by simp [ps, ps_eq l]
def cells (x : Nd) : List PV := [.int .i64 x.k, .int .i64 x.pos, .int .i64 x.i, .str x.s, .lst (x.kids.map Nd.p)]
theorem p_cells (x : Nd) : x.p.cells = x.cells := by
  cases x with
  | mk k pos i s l => simp only [p, ps_eq]; rfl
theorem p_eq (x : Nd) : x.p = .agg x.cells := by
  cases x with
  | mk k pos i s l => simp only [p, ps_eq]; rfl
mutual
def sz : Nd → Nat
  | .mk _ _ _ _ l => szs l + 1
def szs : List Nd → Nat
  | [] => 0
  | x :: l => sz x + szs l
end
theorem sz_eq (x : Nd) : x.sz = szs x.kids + 1 := by cases x; simp only [sz, kids]
theorem sz_mem : ∀ {l : List Nd} {x : Nd}, x ∈ l → x.sz ≤ szs l
  | [], x, h => by cases h
  | y :: l, x, h => by
    rw [szs]
    rcases List.mem_cons.1 h with rfl | h
    · omega
    · have := sz_mem h; omega
theorem sz_kid {x y : Nd} (h : y ∈ x.kids) : y.sz < x.sz := by
  rw [sz_eq x]
  have := sz_mem h
  omega
theorem len_sz : ∀ l : List Nd, l.length ≤ szs l
  | [] => Nat.le_refl _
  | y :: l => by
    rw [szs, List.length_cons]
    have := len_sz l
    have : 1 ≤ y.sz := by rw [sz_eq]; omega
    omega
theorem szs_append : ∀ l m : List Nd, szs (l ++ m) = szs l + szs m
  | [], m => by simp [szs]
  | x :: l, m => by rw [List.cons_append, szs, szs, szs_append l m]; omega
mutual
/-- Are two the same (but for pos)? -/
def same : Nd → Nd → Bool
  | .mk k pos i s l, .mk k' pos' i' s' l' => decide (k = k') && decide (i = i') && decide (s = s') && sames l l'
def sames : List Nd → List Nd → Bool
  | [], [] => true
  | x :: l, y :: m => same x y && sames l m
  | _, _ => false
end
theorem same_eq (x y : Nd) : same x y = (decide (x.k = y.k) && decide (x.i = y.i) && decide (x.s = y.s) && sames x.kids y.kids) := by cases x; cases y; rfl
theorem sames_len : ∀ {l m : List Nd}, sames l m = true → l.length = m.length
  | [], [], _ => rfl
  | x :: l, y :: m, h => by
    simp only [sames, Bool.and_eq_true] at h
    rw [List.length_cons, List.length_cons, sames_len h.2]
  | [], y :: m, h => by simp [sames] at h
  | x :: l, [], h => by simp [sames] at h
mutual
theorem same_self : ∀ x : Nd, same x x = true
  | .mk k pos i s l => by simp [same, sames_self l]
theorem sames_self : ∀ l : List Nd, sames l l = true
  | [] => by simp [sames]
  | x :: l => by simp [sames, same_self x, sames_self l]
end
end Nd

/-- An expression. -/
inductive Ex where
  | mk (k : Int) (v : Vl) (s : List UInt8) (kids : List Ex)
  deriving Inhabited
namespace Ex
def k : Ex → Int
  | .mk x _ _ _ => x
def v : Ex → Vl
  | .mk _ x _ _ => x
def s : Ex → List UInt8
  | .mk _ _ x _ => x
def kids : Ex → List Ex
  | .mk _ _ _ x => x
mutual
def p : Ex → PV
  | .mk k v s l => .agg ([.int .i64 k, .int .i64 v.k, .int .i64 v.i, .str v.s, .str s, .lst (ps l)])
def ps : List Ex → List PV
  | [] => []
  | x :: l => p x :: ps l
end
theorem ps_eq : ∀ l : List Ex, ps l = l.map p
  | [] => by simp [ps]
  | x :: l => by simp [ps, ps_eq l]
def cells (x : Ex) : List PV := [.int .i64 x.k, .int .i64 x.v.k, .int .i64 x.v.i, .str x.v.s, .str x.s, .lst (x.kids.map Ex.p)]
theorem p_cells (x : Ex) : x.p.cells = x.cells := by
  cases x with
  | mk k v s l => simp only [p, ps_eq]; rfl
theorem p_eq (x : Ex) : x.p = .agg x.cells := by
  cases x with
  | mk k v s l => simp only [p, ps_eq]; rfl
mutual
def sz : Ex → Nat
  | .mk _ _ _ l => szs l + 1
def szs : List Ex → Nat
  | [] => 0
  | x :: l => sz x + szs l
end
theorem sz_eq (x : Ex) : x.sz = szs x.kids + 1 := by cases x; simp only [sz, kids]
theorem sz_mem : ∀ {l : List Ex} {x : Ex}, x ∈ l → x.sz ≤ szs l
  | [], x, h => by cases h
  | y :: l, x, h => by
    rw [szs]
    rcases List.mem_cons.1 h with rfl | h
    · omega
    · have := sz_mem h; omega
theorem sz_kid {x y : Ex} (h : y ∈ x.kids) : y.sz < x.sz := by
  rw [sz_eq x]
  have := sz_mem h
  omega
theorem len_sz : ∀ l : List Ex, l.length ≤ szs l
  | [] => Nat.le_refl _
  | y :: l => by
    rw [szs, List.length_cons]
    have := len_sz l
    have : 1 ≤ y.sz := by rw [sz_eq]; omega
    omega
theorem szs_append : ∀ l m : List Ex, szs (l ++ m) = szs l + szs m
  | [], m => by simp [szs]
  | x :: l, m => by rw [List.cons_append, szs, szs, szs_append l m]; omega
mutual
/-- Are two the same? -/
def same : Ex → Ex → Bool
  | .mk k v s l, .mk k' v' s' l' => decide (k = k') && decide (v = v') && decide (s = s') && sames l l'
def sames : List Ex → List Ex → Bool
  | [], [] => true
  | x :: l, y :: m => same x y && sames l m
  | _, _ => false
end
theorem same_eq (x y : Ex) : same x y = (decide (x.k = y.k) && decide (x.v = y.v) && decide (x.s = y.s) && sames x.kids y.kids) := by cases x; cases y; rfl
theorem sames_len : ∀ {l m : List Ex}, sames l m = true → l.length = m.length
  | [], [], _ => rfl
  | x :: l, y :: m, h => by
    simp only [sames, Bool.and_eq_true] at h
    rw [List.length_cons, List.length_cons, sames_len h.2]
  | [], y :: m, h => by simp [sames] at h
  | x :: l, [], h => by simp [sames] at h
mutual
theorem same_self : ∀ x : Ex, same x x = true
  | .mk k v s l => by simp [same, sames_self l]
theorem sames_self : ∀ l : List Ex, sames l l = true
  | [] => by simp [sames]
  | x :: l => by simp [sames, same_self x, sames_self l]
end
mutual
theorem eq_of_same : ∀ x y : Ex, same x y = true → x = y
  | .mk k v s l, .mk k' v' s' l', h => by
    simp only [same, Bool.and_eq_true, decide_eq_true_eq] at h
    obtain ⟨⟨⟨h0, h1⟩, h2⟩, h⟩ := h
    rw [h0, h1, h2, eq_of_sames l l' h]
theorem eq_of_sames : ∀ l m : List Ex, sames l m = true → l = m
  | [], [], _ => rfl
  | x :: l, y :: m, h => by
    simp only [sames, Bool.and_eq_true] at h
    rw [eq_of_same x y h.1, eq_of_sames l m h.2]
  | [], y :: m, h => by simp [sames] at h
  | x :: l, [], h => by simp [sames] at h
end
theorem same_iff {x y : Ex} : same x y = true ↔ x = y := ⟨eq_of_same x y, fun h => h ▸ same_self x⟩
instance : DecidableEq Ex := fun x y => decidable_of_iff (same x y = true) same_iff
end Ex

/-- A test of a pattern; a pattern. -/
structure Ts where
  slot : Int
  neg : Bool
  var : List UInt8
  v : Vl
  deriving DecidableEq
def Ts.cells (t : Ts) : List PV := [.int .i64 t.slot, .bool t.neg, .str t.var, .int .i64 t.v.k, .int .i64 t.v.i, .str t.v.s]
def Ts.p (t : Ts) : PV := .agg t.cells
structure Pt where
  t : List UInt8
  l : List Ts
  deriving DecidableEq
def Pt.cells (x : Pt) : List PV := [.str x.t, .lst (x.l.map Ts.p)]
def Pt.p (x : Pt) : PV := .agg x.cells
instance : Inhabited Ts := ⟨⟨0, false, [], default⟩⟩
instance : Inhabited Pt := ⟨⟨[], []⟩⟩
/-- A condition; a part of an alternative. -/
inductive Ce where
  | mk (k : Int) (bind : List UInt8) (pt : Pt) (e : Ex) (kids : List Ce)
  deriving Inhabited
namespace Ce
def k : Ce → Int
  | .mk x _ _ _ _ => x
def bind : Ce → List UInt8
  | .mk _ x _ _ _ => x
def pt : Ce → Pt
  | .mk _ _ x _ _ => x
def e : Ce → Ex
  | .mk _ _ _ x _ => x
def kids : Ce → List Ce
  | .mk _ _ _ _ x => x
mutual
def p : Ce → PV
  | .mk k bind pt e l => .agg ([.int .i64 k, .str bind, .str pt.t, .lst (pt.l.map Ts.p), .int .i64 e.k, .int .i64 e.v.k, .int .i64 e.v.i, .str e.v.s, .str e.s, .lst (e.kids.map Ex.p), .lst (ps l)])
def ps : List Ce → List PV
  | [] => []
  | x :: l => p x :: ps l
end
theorem ps_eq : ∀ l : List Ce, ps l = l.map p
  | [] => by simp [ps]
  | x :: l => by simp [ps, ps_eq l]
def cells (x : Ce) : List PV := [.int .i64 x.k, .str x.bind, .str x.pt.t, .lst (x.pt.l.map Ts.p), .int .i64 x.e.k, .int .i64 x.e.v.k, .int .i64 x.e.v.i, .str x.e.v.s, .str x.e.s, .lst (x.e.kids.map Ex.p), .lst (x.kids.map Ce.p)]
theorem p_cells (x : Ce) : x.p.cells = x.cells := by
  cases x with
  | mk k bind pt e l => simp only [p, ps_eq]; rfl
theorem p_eq (x : Ce) : x.p = .agg x.cells := by
  cases x with
  | mk k bind pt e l => simp only [p, ps_eq]; rfl
mutual
def sz : Ce → Nat
  | .mk _ _ _ _ l => szs l + 1
def szs : List Ce → Nat
  | [] => 0
  | x :: l => sz x + szs l
end
theorem sz_eq (x : Ce) : x.sz = szs x.kids + 1 := by cases x; simp only [sz, kids]
theorem sz_mem : ∀ {l : List Ce} {x : Ce}, x ∈ l → x.sz ≤ szs l
  | [], x, h => by cases h
  | y :: l, x, h => by
    rw [szs]
    rcases List.mem_cons.1 h with rfl | h
    · omega
    · have := sz_mem h; omega
theorem sz_kid {x y : Ce} (h : y ∈ x.kids) : y.sz < x.sz := by
  rw [sz_eq x]
  have := sz_mem h
  omega
theorem len_sz : ∀ l : List Ce, l.length ≤ szs l
  | [] => Nat.le_refl _
  | y :: l => by
    rw [szs, List.length_cons]
    have := len_sz l
    have : 1 ≤ y.sz := by rw [sz_eq]; omega
    omega
theorem szs_append : ∀ l m : List Ce, szs (l ++ m) = szs l + szs m
  | [], m => by simp [szs]
  | x :: l, m => by rw [List.cons_append, szs, szs, szs_append l m]; omega
mutual
/-- Are two the same? -/
def same : Ce → Ce → Bool
  | .mk k bind pt e l, .mk k' bind' pt' e' l' => decide (k = k') && decide (bind = bind') && decide (pt = pt') && decide (e = e') && sames l l'
def sames : List Ce → List Ce → Bool
  | [], [] => true
  | x :: l, y :: m => same x y && sames l m
  | _, _ => false
end
theorem same_eq (x y : Ce) : same x y = (decide (x.k = y.k) && decide (x.bind = y.bind) && decide (x.pt = y.pt) && decide (x.e = y.e) && sames x.kids y.kids) := by cases x; cases y; rfl
theorem sames_len : ∀ {l m : List Ce}, sames l m = true → l.length = m.length
  | [], [], _ => rfl
  | x :: l, y :: m, h => by
    simp only [sames, Bool.and_eq_true] at h
    rw [List.length_cons, List.length_cons, sames_len h.2]
  | [], y :: m, h => by simp [sames] at h
  | x :: l, [], h => by simp [sames] at h
mutual
theorem same_self : ∀ x : Ce, same x x = true
  | .mk k bind pt e l => by simp [same, sames_self l]
theorem sames_self : ∀ l : List Ce, sames l l = true
  | [] => by simp [sames]
  | x :: l => by simp [sames, same_self x, sames_self l]
end
mutual
theorem eq_of_same : ∀ x y : Ce, same x y = true → x = y
  | .mk k bind pt e l, .mk k' bind' pt' e' l', h => by
    simp only [same, Bool.and_eq_true, decide_eq_true_eq] at h
    obtain ⟨⟨⟨⟨h0, h1⟩, h2⟩, h3⟩, h⟩ := h
    rw [h0, h1, h2, h3, eq_of_sames l l' h]
theorem eq_of_sames : ∀ l m : List Ce, sames l m = true → l = m
  | [], [], _ => rfl
  | x :: l, y :: m, h => by
    simp only [sames, Bool.and_eq_true] at h
    rw [eq_of_same x y h.1, eq_of_sames l m h.2]
  | [], y :: m, h => by simp [sames] at h
  | x :: l, [], h => by simp [sames] at h
end
theorem same_iff {x y : Ce} : same x y = true ↔ x = y := ⟨eq_of_same x y, fun h => h ▸ same_self x⟩
instance : DecidableEq Ce := fun x y => decidable_of_iff (same x y = true) same_iff
end Ce

/-- A slot, a template; a function's name with the number of its args. -/
structure Sl where
  name : List UInt8
  v : Vl
  deriving DecidableEq
def Sl.cells (x : Sl) : List PV := [.str x.name, .int .i64 x.v.k, .int .i64 x.v.i, .str x.v.s]
def Sl.p (x : Sl) : PV := .agg x.cells
structure Tm where
  name : List UInt8
  l : List Sl
  deriving DecidableEq
def Tm.cells (x : Tm) : List PV := [.str x.name, .lst (x.l.map Sl.p)]
def Tm.p (x : Tm) : PV := .agg x.cells
structure Sg where
  name : List UInt8
  n : Int
  deriving DecidableEq
def Sg.cells (x : Sg) : List PV := [.str x.name, .int .i64 x.n]
def Sg.p (x : Sg) : PV := .agg x.cells
end Go.Proofs.YtgjklaobjnjhpaaGreatPe.Normz

/- From the document's trees to the program's, and back: the same. -/
set_option linter.unusedVariables false
set_option linter.unusedSimpArgs false
set_option maxRecDepth 100000
namespace Go.Proofs.YtgjklaobjnjhpaaGreatPe.Normz
open Go Go.Proofs Go.Proofs.YtgjklaobjnjhpaaGreatPe Go.Proofs.YtgjklaobjnjhpaaGreatPe.NormzCode

theorem Ex.at_ {l : List Ex} {n : Nat} (h : n < l.length) : evIdx 6 (l.map Ex.p) (n : Int) = some (.ref l[n].cells) := by
  rw [← Ex.p_cells]
  exact idx_of (map_at h) (by rw [Ex.p_cells]; rfl)
theorem exTo_t : ∀ (m : Nat) (e : Ex), e.sz ≤ m → m ≤ 1000000 → tupV (callE efns given) (.call 0 f_law7_To) [e.p] = some e.p := by
  intro m
  induction m with
  | zero => intro e h; rw [Ex.sz_eq] at h; omega
  | succ m ih =>
    intro e hm hle
    have hkl := Ex.len_sz e.kids
    have hsz := Ex.sz_eq e
    rw [Ex.p_eq]
    refine call_good (f := f_law7_To) rfl ?_
    rw [callE_fn efns given (c := e_law7_To) rfl rfl]
    simp only [e_law7_To, go_sem, Ex.cells]
    refine Good.for e.kids.length (fun n fr st => ∃ out rows rt, fr = [.undef, .ptr 0 0, .ptr 1 0, .ptr 2 0, .int .i64 (n : Int), .undef, .undef, .undef, .undef, .undef, .undef, .undef, .undef] ∧
      st = ⟨[e.cells, [.int .i64 0, .int .i64 0, .int .i64 0, .str [], .str [], .nils], [.int .i64 e.k, .int .i64 e.v.k, .int .i64 e.v.i, .str e.v.s, .str e.s, out]], rows, [T_law7_To_1, T_law7_To_0, T_law7_To_0], rt⟩ ∧
      OutV 6 T_law7_To_0 ((e.kids.take n).map Ex.p) out rows rt ∧ rt.length = rows.length) ?_ ?_ ?_
    · rintro n fr st hn ⟨out, rows, rt, rfl, rfl, hO, hr⟩ k hk
      have c1 : ((n : Int) < (e.kids.length : Int)) = True := eq_true (by omega)
      have hs := ih e.kids[n] (by have := Ex.sz_kid (List.getElem_mem hn); omega) (by omega)
      rw [Ex.p_eq] at hs
      obtain ⟨out', rows', rt', ap, hO', hr', _⟩ := hO.app1 (b := 80) hr (e := .agg e.kids[n].cells) rfl (by simp; omega)
      simp only [Ex.cells] at hs ap
      simp only [b_law7_To_0, go_sem, Ex.cells, Ex.at_ hn, List.length_map, c1, hs, V_bs1, ap, hO'.cells, hO'.cell, wrapN (n := n) (by omega)]
      refine hk _ _ ⟨out', rows', rt', rfl, rfl, ?_, hr'⟩
      rw [take_succ_at hn, List.map_append, List.map_singleton, Ex.p_eq]
      exact hO'
    · rintro fr st ⟨out, rows, rt, rfl, rfl, hO, hr⟩ k
      simp only [b_law7_To_0, go_sem, Ex.cells, List.length_map, Int.lt_irrefl, hO.cells, hO.cell]
      refine Good.done ?_
      rw [List.take_length] at hO
      exact ret_agg (mS rfl (mS rfl (mS rfl (mS rfl (mS rfl (mS (hO.shutR _ _) mN))))))
    · exact ⟨.nils, [], [], rfl, rfl, .nils, rfl⟩

theorem Ts.at_ {l : List Ts} {n : Nat} (h : n < l.length) : evIdx 6 (l.map Ts.p) (n : Int) = some (.ref l[n].cells) := idx_of (e := l[n].p) (map_at h) rfl
theorem ptTo_t (x : Pt) (hx : x.l.length ≤ 1000000) : tupV (callE efns given) (.call 0 f_law11_To) [x.p] = some x.p := by
  refine call_good (f := f_law11_To) rfl ?_
  rw [callE_fn efns given (c := e_law11_To) rfl rfl]
  simp only [e_law11_To, go_sem, Pt.cells, Pt.p]
  refine Good.for x.l.length (fun n fr st => ∃ out rows rt bs bts, fr = [.undef, .ptr 0 0, .ptr 1 0, .ptr 2 0, .int .i64 (n : Int), .undef, .undef, .undef, .undef, .undef, .undef, .undef, .undef, .undef, .undef, .undef] ∧
    st = ⟨x.cells :: [.str [], .nils] :: [.str x.t, out] :: bs, rows, T_law11_To_2 :: T_law11_To_3 :: T_law11_To_3 :: bts, rt⟩ ∧
    OutV 6 T_law11_To_0 ((x.l.take n).map Ts.p) out rows rt ∧ rt.length = rows.length) ?_ ?_ ?_
  · rintro n fr st hn ⟨out, rows, rt, bs, bts, rfl, rfl, hO, hr⟩ k hk
    have c1 : ((n : Int) < (x.l.length : Int)) = True := eq_true (by omega)
    obtain ⟨out', rows', rt', ap, hO', hr', _⟩ := hO.app1 (b := 64) hr (e := .agg x.l[n].cells) rfl (by simp; omega)
    simp only [Ts.cells] at ap
    simp only [b_law11_To_0, go_sem, Pt.cells, Ts.cells, Ts.at_ hn, List.length_map, c1, V_bs1, ap, hO'.cells, hO'.cell, wrapN (n := n) (by omega)]
    refine hk _ _ ⟨out', rows', rt', _, _, rfl, rfl, ?_, hr'⟩
    rw [take_succ_at hn, List.map_append, List.map_singleton]
    exact hO'
  · rintro fr st ⟨out, rows, rt, bs, bts, rfl, rfl, hO, hr⟩ k
    simp only [b_law11_To_0, go_sem, Pt.cells, List.length_map, Int.lt_irrefl, hO.cells, hO.cell]
    refine Good.done ?_
    rw [List.take_length] at hO
    exact ret_agg (mS rfl (mS (hO.shutR _ _) mN))
  · exact ⟨.nils, [], [], [], [], rfl, rfl, .nils, rfl⟩

/-- A condition's own lists are short. -/
inductive Ce.Fine : Ce → Prop
  | mk {c : Ce} (h1 : c.pt.l.length ≤ 5000) (h2 : c.e.sz ≤ 5000) (h : ∀ k ∈ c.kids, Ce.Fine k) : Ce.Fine c
theorem Ce.at_ {l : List Ce} {n : Nat} (h : n < l.length) : evIdx 11 (l.map Ce.p) (n : Int) = some (.ref l[n].cells) := by
  rw [← Ce.p_cells]
  exact idx_of (map_at h) (by rw [Ce.p_cells]; rfl)
theorem ceTo_t : ∀ (m : Nat) (l : List Ce), Ce.szs l < m → m ≤ 1000000 → (∀ c ∈ l, Ce.Fine c) → tupV (callE efns given) (.call 0 f_law12_To) [.lst (l.map Ce.p)] = some (.lst (l.map Ce.p)) := by
  intro m
  induction m with
  | zero => intro l h; omega
  | succ m ih =>
    intro l hm hle hf
    have hkl := Ce.len_sz l
    refine call_good (f := f_law12_To) rfl ?_
    rw [callE_fn efns given (c := e_law12_To) rfl rfl]
    simp only [e_law12_To, go_sem]
    refine Good.for l.length (fun n fr st => ∃ out rows rt bs bts, fr = [.lst (l.map Ce.p), out, .int .i64 (n : Int), .undef, .undef, .undef, .undef, .undef, .undef, .undef] ∧
      st = ⟨bs, rows, bts, rt⟩ ∧ OutV 11 T_law12_To_0 ((l.take n).map Ce.p) out rows rt ∧ rt.length = rows.length) ?_ ?_ ?_
    · rintro n fr st hn ⟨out, rows, rt, bs, bts, rfl, rfl, hO, hr⟩ k hk
      have c1 : ((n : Int) < (l.length : Int)) = True := eq_true (by omega)
      obtain ⟨hc1, hc2, hc3⟩ := hf l[n] (List.getElem_mem hn)
      have hsz := Ce.sz_mem (List.getElem_mem hn)
      have hse := Ce.sz_eq l[n]
      have h1 := ih l[n].kids (by omega) (by omega) hc3
      have h2 := exTo_t _ l[n].e (Nat.le_refl _) (by omega)
      have h3 := ptTo_t l[n].pt (by omega)
      rw [Ex.p_eq] at h2
      obtain ⟨out', rows', rt', ap, hO', hr', _⟩ := hO.app1 (b := 168) hr (e := .agg l[n].cells) rfl (by simp; omega)
      simp only [Ce.cells, Ex.cells, Pt.cells, Pt.p] at ap h2 h3
      simp only [b_law12_To_0, go_sem, Ce.cells, Ce.at_ hn, List.length_map, c1, h1, h2, h3, V_bs1, ap, wrapN (n := n) (by omega)]
      refine hk _ _ ⟨out', rows', rt', _, _, rfl, rfl, ?_, hr'⟩
      rw [take_succ_at hn, List.map_append, List.map_singleton, Ce.p_eq]
      exact hO'
    · rintro fr st ⟨out, rows, rt, bs, bts, rfl, rfl, hO, hr⟩ k
      simp only [b_law12_To_0, go_sem, List.length_map, Int.lt_irrefl]
      refine Good.done ?_
      rw [List.take_length] at hO
      exact hO.shutR _ _
    · exact ⟨.nils, [], [], [], [], rfl, rfl, .nils, rfl⟩
end Go.Proofs.YtgjklaobjnjhpaaGreatPe.Normz

