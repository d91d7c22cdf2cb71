/- A part of the proof of this folder's statement; it has no condition of its own. -/
import Derived.Test.YtgjklaobjnjhpaaGreatNormzRa
import Derived.Test.YtgjklaobjnjhpaaGreatEcOut2
/- Conditions made plain: rows behind rows; each with each. -/
set_option linter.unusedVariables false
set_option linter.unusedSimpArgs false
set_option maxRecDepth 100000
namespace Go.Proofs.YtgjklaobjnjhpaaGreatPe.Normz
open Go Go.Proofs Go.Proofs.YtgjklaobjnjhpaaGreatPe Go.Proofs.YtgjklaobjnjhpaaGreatPe.NormzCode

theorem two_at0 {x y : PV} (h : x.cells = [x]) : evIdx 1 [x, y] 0 = some (.ref [x]) := by
  have := idx_of (n := 1) (l := [x, y]) (i := 0) (e := x) rfl (by rw [h]; rfl)
  rw [h] at this
  exact this
theorem two_at1 {x y : PV} (h : y.cells = [y]) : evIdx 1 [x, y] 1 = some (.ref [y]) := by
  have := idx_of (n := 1) (l := [x, y]) (i := 1) (e := y) rfl (by rw [h]; rfl)
  rw [h] at this
  exact this
theorem concat_ok {a b : List PV} (ha : a.length ≤ 1000000) (hb : b.length ≤ 1000000) (za : szAll 11 a = true) (zb : szAll 11 b = true) :
    ∃ x rows rt, callE efns given f_slices_Concat_norm_row_norm_Lit [.lst [.lst a, .lst b]] ⟨[], [], [], []⟩ = some (x, ⟨[], rows, [], rt⟩) ∧ OutV 11 T_lit (a ++ b) x rows rt := by
  rw [callE_fn efns given (c := e_slices_Concat_norm_row_norm_Lit) rfl rfl]
  have at0 : evIdx 1 [.lst a, .lst b] 0 = some (.ref [.lst a]) := two_at0 rfl
  have at1 : evIdx 1 [.lst a, .lst b] 1 = some (.ref [.lst b]) := two_at1 rfl
  have w0 : IntKind.i64.wrap (0 + (a.length : Int)) = (a.length : Int) := by rw [IntKind.wrap_i64]; omega
  have w1 : IntKind.i64.wrap ((a.length : Int) + (b.length : Int)) = ((a.length + b.length : Nat) : Int) := by rw [IntKind.wrap_i64]; omega
  have i1 : IntKind.i64.wrap 1 = 1 := by decide
  have i2 : IntKind.i64.wrap 2 = 2 := by decide
  have n0 : ((a.length : Int) < 0) = False := eq_false (by omega)
  have n1 : (((a.length + b.length : Nat) : Int) < 0) = False := eq_false (by omega)
  have l2 : ((1 : Int) < 2) = True := eq_true (by decide)
  have l3 : ((0 : Int) < 2) = True := eq_true (by decide)
  simp only [e_slices_Concat_norm_row_norm_Lit, go_sem]
  rw [runL_eq]
  simp only [b_slices_Concat_norm_row_norm_Lit_0, go_sem, at0, w0, n0, i1, l3]
  rw [runL_eq]
  simp only [b_slices_Concat_norm_row_norm_Lit_0, go_sem, at1, w1, n1, i2, l2]
  rw [runL_eq]
  simp only [b_slices_Concat_norm_row_norm_Lit_0, go_sem, Int.lt_irrefl]
  have grown : ∃ x rows rt, callE efns given f_slices_Grow_norm_row_norm_Lit [.nils, .int .i64 ((a.length + b.length : Nat) : Int)] ⟨[], [], [], []⟩ = some (x, ⟨[], rows, [], rt⟩) ∧ OutV 11 T_lit [] x rows rt ∧ rt.length = rows.length := by
    by_cases h0 : a.length + b.length = 0
    · rw [h0]
      exact ⟨.nils, [], [], grow0_ok _, .nils, rfl⟩
    · exact ⟨_, _, _, grow_ok (by omega) (by omega) _, .inr ⟨0, rfl, rfl, rfl⟩, rfl⟩
  obtain ⟨x, rows, rt, hg, hO, hr⟩ := grown
  simp only [go_sem, hg]
  obtain ⟨x1, rows1, rt1, ap1, hO1, hr1, _⟩ := hO.app (b := 168) hr za (by simp; omega)
  obtain ⟨x2, rows2, rt2, ap2, hO2, hr2, _⟩ := hO1.app (b := 168) hr1 zb (by simp; omega)
  rw [runL_eq]
  simp only [b_slices_Concat_norm_row_norm_Lit_1, go_sem, at0, i1, l3, ap1]
  rw [runL_eq]
  simp only [b_slices_Concat_norm_row_norm_Lit_1, go_sem, at1, i2, l2, ap2]
  rw [runL_eq]
  simp only [b_slices_Concat_norm_row_norm_Lit_1, go_sem, Int.lt_irrefl]
  exact ⟨x2, rows2, rt2, rfl, hO2⟩
/-- What is taken over. -/
theorem take_out {n : Nat} {T : TypeId} {l : List PV} {x : PV} {rows' rows : List (Nat × Nat)} {rt' rt bts : List TypeId} {bs : List (List PV)} (h : OutV n T l x rows' rt') (hr : rt.length = rows.length) :
    ∃ x2 rows2 rt2, takeO ⟨bs, rows, bts, rt⟩ ⟨[], rows', [], rt'⟩ x = some (x2, ⟨bs, rows2, bts, rt2⟩) ∧ OutV n T l x2 rows2 rt2 ∧ rt2.length = rows2.length ∧ ∀ n2 T2 l2 y, OutV n2 T2 l2 y rows rt → OutV n2 T2 l2 y rows2 rt2 := by
  rcases h with ⟨h, hz⟩ | ⟨r, rfl, h1, h2⟩
  · rcases nm_full h with ⟨rfl, rfl⟩ | ⟨rfl, rfl⟩ | rfl
    · exact ⟨.full [], rows, rt, rfl, .inl ⟨rfl, rfl⟩, hr, fun _ _ _ _ h => h⟩
    · exact ⟨.full [], rows, rt, rfl, .inl ⟨rfl, rfl⟩, hr, fun _ _ _ _ h => h⟩
    · exact ⟨.full l, rows, rt, rfl, .inl ⟨rfl, hz⟩, hr, fun _ _ _ _ h => h⟩
  · refine ⟨.own rows.length l, rows ++ [(l.length, n)], rt ++ [T], ?_, .inr ⟨rows.length, rfl, by simp, by rw [← hr]; simp⟩, by simp [hr], fun n2 T2 l2 y hy => ?_⟩
    · unfold takeO
      simp only [h1, h2, if_true]
    · rcases hy with hy | ⟨q, e1, e2, e3⟩
      · exact .inl hy
      · exact .inr ⟨q, e1, by rw [List.getElem?_append_left (List.getElem?_eq_some_iff.1 e2).1]; exact e2, by rw [List.getElem?_append_left (List.getElem?_eq_some_iff.1 e3).1]; exact e3⟩

theorem szAll_ce (l : List Ce) : szAll 11 (l.map Ce.p) = true := by
  refine List.all_eq_true.2 fun e he => ?_
  obtain ⟨c, _, rfl⟩ := List.mem_map.1 he
  rw [Ce.p_cells]; rfl
theorem Rw.at_ {l : List Rw} {n : Nat} (h : n < l.length) : evIdx 1 (l.map rowP) (n : Int) = some (.ref [.lst (l[n].map Ce.p)]) := idx_of (e := rowP l[n]) (map_at h) rfl

def joinB (x : Rw) : List Rw → List Rw → Ei (List Rw)
  | [], out => .ok out
  | y :: b, out => match putM out (x ++ y) with
    | .error e => .error e
    | .ok o => joinB x b o
def joinM (b : List Rw) : List Rw → List Rw → Ei (List Rw)
  | [], out => .ok out
  | x :: a, out => match joinB x b out with
    | .error e => .error e
    | .ok o => joinM b a o
def rowsV : Ei (List Rw) → PV
  | .ok l => .tuple [.lst (l.map rowP), .int .i64 0]
  | .error e => .tuple [.lst [], .int .i64 e]
def Short (l : List Rw) : Prop := l.length ≤ 1000 ∧ ∀ r ∈ l, Ce.szs r ≤ 1000

theorem putM_err {out : List Rw} {r : Rw} {e : Int} (h : putM out r = .error e) : e = 4 := by
  unfold putM at h
  split at h <;> cases h
  rfl
theorem join_t {a b : List Rw} (ha : Short a) (hb : Short b) : tupV (callE efns given) (.call 0 f_norm_join) [.lst (a.map rowP), .lst (b.map rowP)] = some (rowsV (joinM b a [])) := by
  refine call_good (f := f_norm_join) rfl ?_
  rw [callE_fn efns given (c := e_norm_join) rfl rfl]
  simp only [e_norm_join, go_sem, List.length_map]
  have hla := ha.1
  have hlb := hb.1
  refine Good.for a.length (fun i fr st => ∃ xo out bs rows bts rt, fr = [.undef, .lst (b.map rowP), xo, .undef, .lst (a.map rowP), .int .i64 (a.length : Int), .int .i64 (i : Int)] ++ List.replicate 5 .undef ∧ st = ⟨bs, rows, bts, rt⟩ ∧
    OutV 1 T_norm_put_0 (out.map rowP) xo rows rt ∧ rt.length = rows.length ∧ joinM b a [] = joinM b (a.drop i) out) ?_ ?_ ?_
  · rintro i fr st hi ⟨xo, out, bs, rows, bts, rt, rfl, rfl, hO, hr, he⟩ k hk
    have c1 : ((i : Int) < (a.length : Int)) = True := eq_true (by omega)
    have xat := Rw.at_ hi
    have hsx := ha.2 _ (List.getElem_mem hi)
    rw [List.drop_eq_getElem_cons hi, joinM] at he
    generalize a[i] = x at xat hsx he
    simp only [b_norm_join_1, go_sem, c1, xat, List.length_map]
    refine Good.for b.length (fun j fr st => ∃ xo out bs rows bts rt, fr = [.undef, .lst (b.map rowP), xo, .lst (x.map Ce.p), .lst (a.map rowP), .int .i64 (a.length : Int), .int .i64 (i : Int), .lst (b.map rowP), .int .i64 (b.length : Int), .int .i64 (j : Int)] ++ List.replicate 2 .undef ∧ st = ⟨bs, rows, bts, rt⟩ ∧
      OutV 1 T_norm_put_0 (out.map rowP) xo rows rt ∧ rt.length = rows.length ∧ joinM b a [] = (match joinB x (b.drop j) out with
        | .error e => .error e
        | .ok o => joinM b (a.drop (i + 1)) o)) ?_ ?_ ?_
    · rintro j fr st hj ⟨xo, out, bs, rows, bts, rt, rfl, rfl, hO, hr, he⟩ k2 hk2
      have c2 : ((j : Int) < (b.length : Int)) = True := eq_true (by omega)
      have yat := Rw.at_ hj
      have hsy := hb.2 _ (List.getElem_mem hj)
      rw [List.drop_eq_getElem_cons hj, joinB] at he
      generalize b[j] = y at yat hsy he
      have hlx := Ce.len_sz x
      have hly := Ce.len_sz y
      obtain ⟨z, rows1, rt1, hcat, hO1⟩ := concat_ok (a := x.map Ce.p) (b := y.map Ce.p) (by simp; omega) (by simp; omega) (szAll_ce x) (szAll_ce y)
      obtain ⟨z2, rows2, rt2, htk, hO2, hr2, hkeep⟩ := take_out (bs := bs) (bts := bts) hO1 hr
      have hO3 := hkeep _ _ _ _ hO
      rw [← List.map_append] at hO2
      obtain ⟨v, ⟨bs3, rows3, bts3, rt3⟩, hput, hbx, hbt, hres⟩ := put_ok (out := out) (r := x ++ y) (st := ⟨bs, rows2, bts, rt2⟩) hO3 hO2.sl hr2 (by rw [Ce.szs_append]; omega)
      simp only at hbx hbt
      subst hbx hbt
      cases hm : putM out (x ++ y) with
      | error e =>
        rw [hm] at he hres
        obtain ⟨rfl, rfl, h3, h4⟩ := hres
        simp only [b_norm_join_0, go_sem, c2, yat, hcat, htk, hput, ne_eq]
        exact Good.done (by rw [he]; rfl)
      | ok o =>
        rw [hm] at he hres
        obtain ⟨x4, rfl, hO4, hr4⟩ := hres
        simp only [b_norm_join_0, go_sem, c2, yat, hcat, htk, hput, ne_eq, wrapN (n := j) (by omega)]
        exact hk2 _ _ ⟨x4, o, _, _, _, _, rfl, rfl, hO4, hr4, he⟩
    · rintro fr st ⟨xo, out, bs, rows, bts, rt, rfl, rfl, hO, hr, he⟩ k2
      rw [List.drop_eq_nil_of_le (i := b.length) (Nat.le_refl _), joinB] at he
      simp only [b_norm_join_0, go_sem, Int.lt_irrefl, wrapN (n := i) (by omega)]
      exact hk _ _ ⟨xo, out, _, _, _, _, rfl, rfl, hO, hr, he⟩
    · exact ⟨xo, out, _, _, _, _, rfl, rfl, hO, hr, he⟩
  · rintro fr st ⟨xo, out, bs, rows, bts, rt, rfl, rfl, hO, hr, he⟩ k
    rw [List.drop_eq_nil_of_le (i := a.length) (Nat.le_refl _), joinM] at he
    simp only [b_norm_join_1, go_sem, Int.lt_irrefl]
    exact Good.done (by rw [he]; exact ret_tup (mS (hO.shutR _ _) (mS rfl mN)))
  · exact ⟨.nils, [], _, _, _, _, rfl, rfl, .nils, rfl, rfl⟩
end Go.Proofs.YtgjklaobjnjhpaaGreatPe.Normz

/- Conditions made plain: one, and, or, not, exists, forall. -/
set_option linter.unusedVariables false
set_option linter.unusedSimpArgs false
set_option maxRecDepth 100000
namespace Go.Proofs.YtgjklaobjnjhpaaGreatPe.Normz
open Go Go.Proofs Go.Proofs.YtgjklaobjnjhpaaGreatPe Go.Proofs.YtgjklaobjnjhpaaGreatPe.NormzCode

def negL (r : Rw) : Ce := .mk 3 [] ptNone exNone r
def negsM (l : List Rw) : Rw := l.map negL
def orB : List Rw → List Rw → Ei (List Rw)
  | [], out => .ok out
  | r :: x, out => match putM out r with
    | .error e => .error e
    | .ok o => orB x o
def forB (z : Rw) : List Rw → List Rw → Ei (List Rw)
  | [], out => .ok out
  | r :: x, out => match putM out (r ++ z) with
    | .error e => .error e
    | .ok o => forB z x o
mutual
def oneN : Nat → Ce → Ei (List Rw)
  | 0, _ => .error 2
  | f + 1, c => if c.k = 1 then .ok [[.mk 1 c.bind c.pt exNone []]]
    else if c.k = 2 then .ok [[.mk 2 [] ptNone c.e []]]
    else if c.k = 5 then orN f c.kids []
    else if c.k = 3 then (match andN f c.kids [[]] with
      | .error e => .error e
      | .ok x => putM [] (negsM x))
    else if c.k = 6 then (match andN f c.kids [[]] with
      | .error e => .error e
      | .ok x => putM [] [negL (negsM x)])
    else if c.k = 7 then (if c.kids.length = 0 then .error 2 else match forN f c.kids with
      | .error e => .error e
      | .ok r => putM [] r)
    else if c.k = 8 ∨ c.k = 4 then andN f c.kids [[]]
    else .error 2
def andN : Nat → List Ce → List Rw → Ei (List Rw)
  | 0, _, _ => .error 2
  | f + 1, l, out => match l with
    | [] => .ok out
    | c :: r => match oneN f c with
      | .error e => .error e
      | .ok x => match joinM x out [] with
        | .error e => .error e
        | .ok o => andN f r o
def orN : Nat → List Ce → List Rw → Ei (List Rw)
  | 0, _, _ => .error 2
  | f + 1, l, out => match l with
    | [] => .ok out
    | c :: r => match oneN f c with
      | .error e => .error e
      | .ok x => match orB x out with
        | .error e => .error e
        | .ok o => orN f r o
def forN : Nat → List Ce → Ei Rw
  | 0, _ => .error 2
  | f + 1, l => match andN f (l.take 1) [[]] with
    | .error e => .error e
    | .ok x => match andN f (l.drop 1) [[]] with
      | .error e => .error e
      | .ok y => match forB (negsM y) x [] with
        | .error e => .error e
        | .ok o => .ok (negsM o)
end

/-! ### What comes out is short -/
def Small (l : List Rw) : Prop := l.length ≤ 16 ∧ ∀ r ∈ l, Ce.szs r ≤ 40
theorem Small.short {l : List Rw} (h : Small l) : Short l := ⟨by have := h.1; omega, fun r hr => by have := h.2 r hr; omega⟩
theorem putM_small {out o : List Rw} {r : Rw} (hs : Small out) (h : putM out r = .ok o) : Small o := by
  unfold putM at h
  split at h
  · cases h
  · rename_i hh
    cases h
    refine ⟨by simp; omega, fun x hx => ?_⟩
    rcases List.mem_append.1 hx with hx | hx
    · exact hs.2 x hx
    · rw [List.mem_singleton.1 hx]; omega
theorem joinB_small {x : Rw} : ∀ {b out o : List Rw}, Small out → joinB x b out = .ok o → Small o
  | [], out, o, hs, h => by cases h; exact hs
  | y :: b, out, o, hs, h => by
    unfold joinB at h
    split at h
    · cases h
    · rename_i o' ho; exact joinB_small (putM_small hs ho) h
theorem joinM_small {b : List Rw} : ∀ {a out o : List Rw}, Small out → joinM b a out = .ok o → Small o
  | [], out, o, hs, h => by cases h; exact hs
  | x :: a, out, o, hs, h => by
    unfold joinM at h
    split at h
    · cases h
    · rename_i o' ho; exact joinM_small (joinB_small hs ho) h
theorem orB_small : ∀ {x out o : List Rw}, Small out → orB x out = .ok o → Small o
  | [], out, o, hs, h => by cases h; exact hs
  | r :: x, out, o, hs, h => by
    unfold orB at h
    split at h
    · cases h
    · rename_i o' ho; exact orB_small (putM_small hs ho) h
theorem forB_small {z : Rw} : ∀ {x out o : List Rw}, Small out → forB z x out = .ok o → Small o
  | [], out, o, hs, h => by cases h; exact hs
  | r :: x, out, o, hs, h => by
    unfold forB at h
    split at h
    · cases h
    · rename_i o' ho; exact forB_small (putM_small hs ho) h
theorem small_nil : Small [] := ⟨by simp, fun r h => by cases h⟩
theorem small_one : Small [[]] := ⟨by simp, fun r h => by rw [List.mem_singleton.1 h]; simp [Ce.szs]⟩
theorem all_small : ∀ (f : Nat), (∀ c o, oneN f c = .ok o → Small o) ∧ (∀ l out o, Small out → andN f l out = .ok o → Small o) ∧ (∀ l out o, Small out → orN f l out = .ok o → Small o)
  | 0 => ⟨fun c o h => (by unfold oneN at h; cases h), fun l out o _ h => (by unfold andN at h; cases h), fun l out o _ h => (by unfold orN at h; cases h)⟩
  | f + 1 => by
    obtain ⟨i1, i2, i3⟩ := all_small f
    refine ⟨fun c o h => ?_, fun l out o hs h => ?_, fun l out o hs h => ?_⟩
    · unfold oneN at h
      split at h
      · cases h; exact ⟨by simp, fun r hr => by rw [List.mem_singleton.1 hr]; simp [Ce.szs, Ce.sz]⟩
      · split at h
        · cases h; exact ⟨by simp, fun r hr => by rw [List.mem_singleton.1 hr]; simp [Ce.szs, Ce.sz]⟩
        · split at h
          · exact i3 _ _ _ small_nil h
          · split at h
            · split at h
              · cases h
              · exact putM_small small_nil h
            · split at h
              · split at h
                · cases h
                · exact putM_small small_nil h
              · split at h
                · split at h
                  · cases h
                  · split at h
                    · cases h
                    · exact putM_small small_nil h
                · split at h
                  · exact i2 _ _ _ small_one h
                  · cases h
    · unfold andN at h
      split at h
      · cases h; exact hs
      · split at h
        · cases h
        · split at h
          · cases h
          · rename_i o' ho
            exact i2 _ _ _ (joinM_small small_nil ho) h
    · unfold orN at h
      split at h
      · cases h; exact hs
      · split at h
        · cases h
        · split at h
          · cases h
          · rename_i o' ho
            exact i3 _ _ _ (orB_small hs ho) h
theorem negsM_sz (l : List Rw) (h : Small l) : Ce.szs (negsM l) ≤ 656 ∧ (negsM l).length ≤ 16 := by
  have key : ∀ (l : List Rw), (∀ r ∈ l, Ce.szs r ≤ 40) → Ce.szs (negsM l) ≤ 41 * l.length := by
    intro l
    induction l with
    | nil => intro _; simp [negsM, Ce.szs]
    | cons r l ih =>
      intro hh
      have h1 := ih fun x hx => hh x (List.mem_cons.2 (.inr hx))
      have h2 := hh r (List.mem_cons.2 (.inl rfl))
      unfold negsM at h1 ⊢
      have h3 : (negL r).sz = Ce.szs r + 1 := by simp [negL, Ce.sz]
      rw [List.map_cons, Ce.szs, List.length_cons]
      omega
  have := key l h.2
  have := h.1
  exact ⟨by omega, by unfold negsM; simp; omega⟩

/-! ### What the code comes to -/
theorem negs_t {l : List Rw} (hl : l.length ≤ 1000) : tupV (callE efns given) (.call 0 f_norm_negs) [.lst (l.map rowP)] = some (.lst ((negsM l).map Ce.p)) := by
  refine call_good (f := f_norm_negs) rfl ?_
  rw [callE_fn efns given (c := e_norm_negs) rfl rfl]
  simp only [e_norm_negs, go_sem, List.length_map]
  refine Good.for l.length (fun n fr st => ∃ xo bs rows bts rt, fr = [.undef, xo, .lst (l.map rowP), .int .i64 (l.length : Int), .int .i64 (n : Int), .undef] ∧ st = ⟨bs, rows, bts, rt⟩ ∧ OutV 11 T_norm_negs_0 ((negsM (l.take n)).map Ce.p) xo rows rt ∧ rt.length = rows.length) ?_ ?_ ?_
  · rintro n fr st hn ⟨xo, bs, rows, bts, rt, rfl, rfl, hO, hr⟩ k hk
    have c1 : ((n : Int) < (l.length : Int)) = True := eq_true (by omega)
    have rat := Rw.at_ hn
    have hbs : tupV (callE efns given) (.bslice 11 [.int .i64 0, .str [], .str [], .nils, .int .i64 0, .int .i64 0, .int .i64 0, .str [], .str [], .nils, .nils] 1 [0]) [.agg [.int .i64 3, .str [], .str [], .nils, .int .i64 0, .int .i64 0, .int .i64 0, .str [], .str [], .nils, .lst (l[n].map Ce.p)]] =
        some (.full [.agg [.int .i64 3, .str [], .str [], .lst [], .int .i64 0, .int .i64 0, .int .i64 0, .str [], .str [], .lst [], .lst (l[n].map Ce.p)]]) := V_bs1 rfl rfl rfl
    obtain ⟨out', rows', rt', ap, hO', hr', _⟩ := hO.app1 (b := 168) hr (e := .agg [.int .i64 3, .str [], .str [], .lst [], .int .i64 0, .int .i64 0, .int .i64 0, .str [], .str [], .lst [], .lst (l[n].map Ce.p)]) rfl (by simp [negsM]; omega)
    simp only [b_norm_negs_0, go_sem, c1, rat, hbs, ap, wrapN (n := n) (by omega)]
    refine hk _ _ ⟨out', _, rows', _, rt', rfl, rfl, ?_, hr'⟩
    rw [take_succ_at hn]
    unfold negsM at hO' ⊢
    rw [List.map_append, List.map_append, List.map_singleton, List.map_singleton, negL, Ce.p_eq]
    exact hO'
  · rintro fr st ⟨xo, bs, rows, bts, rt, rfl, rfl, hO, hr⟩ k
    rw [List.take_length] at hO
    simp only [b_norm_negs_0, go_sem, Int.lt_irrefl]
    exact Good.done (hO.shutR _ _)
  · exact ⟨.nils, _, _, _, _, rfl, rfl, .nils, rfl⟩
theorem single_t {r : Rw} (hs : Ce.szs r < 1000000) {x : PV} (hx : SlV (r.map Ce.p) x) : tupV (callE efns given) (.call 0 f_norm_single) [x, .int .i64 0] = some (rowsV (putM [] r)) := by
  have e1 : tupV (callE efns given) (.call 0 f_norm_single) [x, .int .i64 0] = tupV (callE efns given) (.call 0 f_norm_single) [.lst (r.map Ce.p), .int .i64 0] := tup_shut ((mS (hx.shutA _) (mS rfl mN)).trans (mS rfl (mS rfl mN)).symm)
  rw [e1]
  refine call_good (f := f_norm_single) rfl ?_
  rw [callE_fn efns given (c := e_norm_single) rfl rfl]
  obtain ⟨v, st', hput, _, _, hres⟩ := put_ok (out := []) (r := r) (xo := .nils) (xr := .lst (r.map Ce.p)) (st := ⟨[], [], [], []⟩) .nils rfl rfl hs
  cases hm : putM [] r with
  | error e =>
    rw [hm] at hres
    obtain ⟨rfl, _⟩ := hres
    simp only [e_norm_single, go_sem, hput, ne_eq]
    exact Good.done rfl
  | ok o =>
    rw [hm] at hres
    obtain ⟨x4, rfl, hO4, _⟩ := hres
    simp only [e_norm_single, go_sem, hput, ne_eq]
    exact Good.done (ret_tup (mS (hO4.shutR _ _) (mS rfl mN)))
theorem singleE_t {e : Int} (he : ¬ e = 0) (x : List PV) : tupV (callE efns given) (.call 0 f_norm_single) [.lst x, .int .i64 e] = some (rowsV (.error e)) := by
  refine call_good (f := f_norm_single) rfl ?_
  rw [callE_fn efns given (c := e_norm_single) rfl rfl]
  simp only [e_norm_single, go_sem, eq_false he, ne_eq]
  exact Good.done rfl
theorem join_v {a b : List Rw} (ha : Short a) (hb : Short b) {x : PV} (hx : SlV (a.map rowP) x) : tupV (callE efns given) (.call 0 f_norm_join) [x, .lst (b.map rowP)] = some (rowsV (joinM b a [])) := by
  rw [← join_t ha hb]
  exact tup_shut ((mS (hx.shutA _) (mS rfl mN)).trans (mS rfl (mS rfl mN)).symm)
end Go.Proofs.YtgjklaobjnjhpaaGreatPe.Normz

/- Conditions made plain: the walk of one, and, or, forall. -/
set_option linter.unusedVariables false
set_option linter.unusedSimpArgs false
set_option maxRecDepth 100000
namespace Go.Proofs.YtgjklaobjnjhpaaGreatPe.Normz
open Go Go.Proofs Go.Proofs.YtgjklaobjnjhpaaGreatPe Go.Proofs.YtgjklaobjnjhpaaGreatPe.NormzCode

theorem joinB_err {x : Rw} : ∀ {b out : List Rw} {e : Int}, joinB x b out = .error e → e = 4
  | [], out, e, h => by cases h
  | y :: b, out, e, h => by
    unfold joinB at h
    split at h
    · rename_i e' he; cases h; exact putM_err he
    · exact joinB_err h
theorem joinM_err {b : List Rw} : ∀ {a out : List Rw} {e : Int}, joinM b a out = .error e → e = 4
  | [], out, e, h => by cases h
  | x :: a, out, e, h => by
    unfold joinM at h
    split at h
    · rename_i e' he; cases h; exact joinB_err he
    · exact joinM_err h
theorem orB_err : ∀ {x out : List Rw} {e : Int}, orB x out = .error e → e = 4
  | [], out, e, h => by cases h
  | r :: x, out, e, h => by
    unfold orB at h
    split at h
    · rename_i e' he; cases h; exact putM_err he
    · exact orB_err h
theorem forB_err {z : Rw} : ∀ {x out : List Rw} {e : Int}, forB z x out = .error e → e = 4
  | [], out, e, h => by cases h
  | r :: x, out, e, h => by
    unfold forB at h
    split at h
    · rename_i e' he; cases h; exact putM_err he
    · exact forB_err h
theorem all_err : ∀ (f : Nat), (∀ c e, oneN f c = .error e → ¬ e = 0) ∧ (∀ l out e, andN f l out = .error e → ¬ e = 0) ∧ (∀ l out e, orN f l out = .error e → ¬ e = 0) ∧ (∀ l e, forN f l = .error e → ¬ e = 0)
  | 0 => ⟨fun c o h => (by unfold oneN at h; cases h; decide), fun l out o h => (by unfold andN at h; cases h; decide), fun l out o h => (by unfold orN at h; cases h; decide), fun l e h => (by unfold forN at h; cases h; decide)⟩
  | f + 1 => by
    obtain ⟨i1, i2, i3, i4⟩ := all_err f
    have h4 : ∀ e : Int, e = 4 → ¬ e = 0 := fun e h => by rw [h]; decide
    refine ⟨fun c e h => ?_, fun l out e h => ?_, fun l out e h => ?_, fun l e h => ?_⟩
    · unfold oneN at h
      split at h
      · cases h
      · split at h
        · cases h
        · split at h
          · exact i3 _ _ _ h
          · split at h
            · split at h
              · rename_i e' he; cases h; exact i2 _ _ _ he
              · exact h4 _ (putM_err h)
            · split at h
              · split at h
                · rename_i e' he; cases h; exact i2 _ _ _ he
                · exact h4 _ (putM_err h)
              · split at h
                · split at h
                  · cases h; decide
                  · split at h
                    · rename_i e' he; cases h; exact i4 _ _ he
                    · exact h4 _ (putM_err h)
                · split at h
                  · exact i2 _ _ _ h
                  · cases h; decide
    · unfold andN at h
      split at h
      · cases h
      · split at h
        · rename_i e' he; cases h; exact i1 _ _ he
        · split at h
          · rename_i e' he; cases h; exact h4 _ (joinM_err he)
          · exact i2 _ _ _ h
    · unfold orN at h
      split at h
      · cases h
      · split at h
        · rename_i e' he; cases h; exact i1 _ _ he
        · split at h
          · rename_i e' he; cases h; exact h4 _ (orB_err he)
          · exact i3 _ _ _ h
    · unfold forN at h
      split at h
      · rename_i e' he; cases h; exact i2 _ _ _ he
      · split at h
        · rename_i e' he; cases h; exact i2 _ _ _ he
        · split at h
          · rename_i e' he; cases h; exact h4 _ (forB_err he)
          · cases h

theorem Ce.szs_drop_le (l : List Ce) (n : Nat) : Ce.szs (l.drop n) ≤ Ce.szs l := by
  have := Ce.szs_append (l.take n) (l.drop n)
  rw [List.take_append_drop] at this
  omega
def rowV : Ei Rw → PV
  | .ok r => .tuple [.lst (r.map Ce.p), .int .i64 0]
  | .error e => .tuple [.lst [], .int .i64 e]

theorem forN_sz {f : Nat} {l : List Ce} {r : Rw} (h : forN (f + 1) l = .ok r) : Ce.szs r ≤ 656 := by
  unfold forN at h
  split at h
  · cases h
  · split at h
    · cases h
    · split at h
      · cases h
      · rename_i o ho
        cases h
        exact (negsM_sz o (forB_small small_nil ho)).1
/-- What is shown of all of them, with so much fuel. -/
structure NormOk (f : Nat) : Prop where
  one : ∀ c : Ce, 3 * c.sz ≤ f → c.sz ≤ 100000 → tupV (callE efns given) (.call 0 f_norm_one) [c.p] = some (rowsV (oneN f c))
  and_ : ∀ l : List Ce, 3 * Ce.szs l + 1 ≤ f → Ce.szs l ≤ 100000 → tupV (callE efns given) (.call 0 f_norm_and) [.lst (l.map Ce.p)] = some (rowsV (andN f l [[]]))
  or_ : ∀ l : List Ce, 3 * Ce.szs l + 1 ≤ f → Ce.szs l ≤ 100000 → tupV (callE efns given) (.call 0 f_norm_or) [.lst (l.map Ce.p)] = some (rowsV (orN f l []))

theorem and_of {f : Nat} (IH : ∀ f', f' < f → NormOk f') (l : List Ce) (hf : 3 * Ce.szs l + 1 ≤ f) (hl : Ce.szs l ≤ 100000) : tupV (callE efns given) (.call 0 f_norm_and) [.lst (l.map Ce.p)] = some (rowsV (andN f l [[]])) := by
  have hll := Ce.len_sz l
  refine call_good (f := f_norm_and) rfl ?_
  rw [callE_fn efns given (c := e_norm_and) rfl rfl]
  simp only [e_norm_and, go_sem, List.length_map]
  generalize hL : andN f l [[]] = L
  refine Good.for l.length (fun n fr st => ∃ x out f', fr = [.undef, x, .undef, .undef, .lst (l.map Ce.p), .int .i64 (l.length : Int), .int .i64 (n : Int)] ++ List.replicate 3 .undef ∧ SlV (out.map rowP) x ∧ Small out ∧ f' ≤ f ∧ 3 * Ce.szs (l.drop n) + 1 ≤ f' ∧ L = andN f' (l.drop n) out) ?_ ?_ ?_
  · rintro n fr ⟨bs, rows, bts, rt⟩ hn ⟨x, out, f', rfl, hx, hsm, hf1, hf2, he⟩ k hk
    obtain ⟨f', rfl⟩ : ∃ q, f' = q + 1 := ⟨f' - 1, by omega⟩
    have c1 : ((n : Int) < (l.length : Int)) = True := eq_true (by omega)
    have cat := Ce.at_ hn
    have hd := List.drop_eq_getElem_cons hn
    have hds := Ce.szs_drop_le l n
    rw [hd] at he hf2 hds
    simp only [Ce.szs] at hf2 hds
    unfold andN at he
    simp only at he
    generalize l[n] = c at cat he hf2 hds
    have h1 := (IH f' (by omega)).one c (by omega) (by omega)
    rw [Ce.p_eq] at h1
    simp only [Ce.cells] at h1
    cases hm : oneN f' c with
    | error e =>
      rw [hm] at he h1
      simp only [rowsV] at h1
      have hne := (all_err f').1 _ _ hm
      simp only [b_norm_and_0, go_sem, Ce.cells, c1, cat, h1, eq_false hne, ne_eq]
      exact Good.done (by rw [he]; rfl)
    | ok y =>
      rw [hm] at he h1
      simp only [rowsV] at h1
      have hys := (all_small f').1 _ _ hm
      have h2 := join_v hsm.short hys.short hx
      simp only at he
      cases hj : joinM y out [] with
      | error e =>
        rw [hj] at he h2
        simp only [rowsV] at h2
        have hne : ¬ e = 0 := by rw [joinM_err hj]; decide
        simp only [b_norm_and_0, go_sem, Ce.cells, c1, cat, h1, h2, eq_false hne, ne_eq]
        exact Good.done (by rw [he]; rfl)
      | ok o =>
        rw [hj] at he h2
        simp only [rowsV] at h2
        simp only [b_norm_and_0, go_sem, Ce.cells, c1, cat, h1, h2, ne_eq, wrapN (n := n) (by omega)]
        exact hk _ _ ⟨_, o, f', rfl, rfl, joinM_small small_nil hj, by omega, by have := Ce.sz_eq c; omega, he⟩
  · rintro fr ⟨bs, rows, bts, rt⟩ ⟨x, out, f', rfl, hx, hsm, hf1, hf2, he⟩ k
    obtain ⟨f', rfl⟩ : ∃ q, f' = q + 1 := ⟨f' - 1, by omega⟩
    rw [List.drop_eq_nil_of_le (i := l.length) (Nat.le_refl _)] at he
    unfold andN at he
    simp only [b_norm_and_0, go_sem, Int.lt_irrefl]
    exact Good.done (by rw [he]; exact ret_tup (mS (hx.shutR _ _) (mS rfl mN)))
  · exact ⟨_, [[]], f, rfl, rfl, small_one, Nat.le_refl _, hf, hL.symm⟩

theorem or_of {f : Nat} (IH : ∀ f', f' < f → NormOk f') (l : List Ce) (hf : 3 * Ce.szs l + 1 ≤ f) (hl : Ce.szs l ≤ 100000) : tupV (callE efns given) (.call 0 f_norm_or) [.lst (l.map Ce.p)] = some (rowsV (orN f l [])) := by
  have hll := Ce.len_sz l
  refine call_good (f := f_norm_or) rfl ?_
  rw [callE_fn efns given (c := e_norm_or) rfl rfl]
  simp only [e_norm_or, go_sem, List.length_map]
  generalize hL : orN f l [] = L
  refine Good.for l.length (fun n fr st => ∃ xo out f' bs rows bts rt, fr = [.undef, xo, .undef, .undef, .lst (l.map Ce.p), .int .i64 (l.length : Int), .int .i64 (n : Int)] ++ List.replicate 6 .undef ∧ st = ⟨bs, rows, bts, rt⟩ ∧
    OutV 1 T_norm_put_0 (out.map rowP) xo rows rt ∧ rt.length = rows.length ∧ f' ≤ f ∧ 3 * Ce.szs (l.drop n) + 1 ≤ f' ∧ L = orN f' (l.drop n) out) ?_ ?_ ?_
  · rintro n fr st hn ⟨xo, out, f', bs, rows, bts, rt, rfl, rfl, hO, hr, hf1, hf2, he⟩ k hk
    obtain ⟨f', rfl⟩ : ∃ q, f' = q + 1 := ⟨f' - 1, by omega⟩
    have c1 : ((n : Int) < (l.length : Int)) = True := eq_true (by omega)
    have cat := Ce.at_ hn
    have hd := List.drop_eq_getElem_cons hn
    have hds := Ce.szs_drop_le l n
    rw [hd] at he hf2 hds
    simp only [Ce.szs] at hf2 hds
    unfold orN at he
    simp only at he
    generalize l[n] = c at cat he hf2 hds
    have h1 := (IH f' (by omega)).one c (by omega) (by omega)
    rw [Ce.p_eq] at h1
    simp only [Ce.cells] at h1
    cases hm : oneN f' c with
    | error e =>
      rw [hm] at he h1
      simp only [rowsV] at h1
      have hne := (all_err f').1 _ _ hm
      simp only [b_norm_or_1, go_sem, Ce.cells, c1, cat, h1, eq_false hne, ne_eq]
      exact Good.done (by rw [he]; rfl)
    | ok y =>
      rw [hm] at he h1
      simp only [rowsV] at h1
      simp only at he
      have hys := ((all_small f').1 _ _ hm).short
      simp only [b_norm_or_1, go_sem, Ce.cells, c1, cat, h1, ne_eq, List.length_map]
      refine Good.for y.length (fun j fr st => ∃ xo out bs rows bts rt, fr = [.undef, xo, .undef, .undef, .lst (l.map Ce.p), .int .i64 (l.length : Int), .int .i64 (n : Int), .undef, .undef, .lst (y.map rowP), .int .i64 (y.length : Int), .int .i64 (j : Int), .undef] ∧ st = ⟨bs, rows, bts, rt⟩ ∧
        OutV 1 T_norm_put_0 (out.map rowP) xo rows rt ∧ rt.length = rows.length ∧ L = (match orB (y.drop j) out with
          | .error e => .error e
          | .ok o => orN f' (l.drop (n + 1)) o)) ?_ ?_ ?_
      · rintro j fr st hj ⟨xo, out, bs, rows, bts, rt, rfl, rfl, hO, hr, he⟩ k2 hk2
        have c2 : ((j : Int) < (y.length : Int)) = True := eq_true (by omega)
        have rat := Rw.at_ hj
        have hsr := hys.2 _ (List.getElem_mem hj)
        have hly := hys.1
        rw [List.drop_eq_getElem_cons hj, orB] at he
        generalize y[j] = r at rat hsr he
        obtain ⟨v, ⟨bs3, rows3, bts3, rt3⟩, hput, hbx, hbt, hres⟩ := put_ok (out := out) (r := r) (xr := .lst (r.map Ce.p)) (st := ⟨bs, rows, bts, rt⟩) hO rfl hr (by omega)
        simp only at hbx hbt
        subst hbx hbt
        cases hm : putM out r with
        | error e =>
          rw [hm] at he hres
          obtain ⟨rfl, rfl, h3, h4⟩ := hres
          simp only [b_norm_or_0, go_sem, c2, rat, hput, ne_eq]
          exact Good.done (by rw [he]; rfl)
        | ok o =>
          rw [hm] at he hres
          obtain ⟨x4, rfl, hO4, hr4⟩ := hres
          simp only [b_norm_or_0, go_sem, c2, rat, hput, ne_eq, wrapN (n := j) (by omega)]
          exact hk2 _ _ ⟨x4, o, _, _, _, _, rfl, rfl, hO4, hr4, he⟩
      · rintro fr st ⟨xo, out, bs, rows, bts, rt, rfl, rfl, hO, hr, he⟩ k2
        rw [List.drop_eq_nil_of_le (i := y.length) (Nat.le_refl _), orB] at he
        simp only [b_norm_or_0, go_sem, Int.lt_irrefl, wrapN (n := n) (by omega)]
        exact hk _ _ ⟨xo, out, f', _, _, _, _, rfl, rfl, hO, hr, by omega, by have := Ce.sz_eq c; omega, he⟩
      · exact ⟨xo, out, _, _, _, _, rfl, rfl, hO, hr, he⟩
  · rintro fr st ⟨xo, out, f', bs, rows, bts, rt, rfl, rfl, hO, hr, hf1, hf2, he⟩ k
    obtain ⟨f', rfl⟩ : ∃ q, f' = q + 1 := ⟨f' - 1, by omega⟩
    rw [List.drop_eq_nil_of_le (i := l.length) (Nat.le_refl _)] at he
    unfold orN at he
    simp only [b_norm_or_1, go_sem, Int.lt_irrefl]
    exact Good.done (by rw [he]; exact ret_tup (mS (hO.shutR _ _) (mS rfl mN)))
  · exact ⟨.nils, [], f, _, _, _, _, rfl, rfl, .nils, rfl, Nat.le_refl _, hf, hL.symm⟩

theorem forall_of {f : Nat} (IH : NormOk f) (l : List Ce) (hf : 3 * Ce.szs l + 1 ≤ f) (hl : Ce.szs l ≤ 100000) (hpos : 0 < l.length) : tupV (callE efns given) (.call 0 f_norm_forall) [.lst (l.map Ce.p)] = some (rowV (forN (f + 1) l)) := by
  have hll := Ce.len_sz l
  refine call_good (f := f_norm_forall) rfl ?_
  rw [callE_fn efns given (c := e_norm_forall) rfl rfl]
  have ht := Ce.szs_take_le l 1
  have hd := Ce.szs_drop_le l 1
  have h1 := IH.and_ (l.take 1) (by omega) (by omega)
  have h2 := IH.and_ (l.drop 1) (by omega) (by omega)
  have l1 : lsubV 11 (.lst (l.map Ce.p)) none (some (.int .i64 1)) none = some (.lst ((l.take 1).map Ce.p)) := by rw [List.map_take]; exact lsub_take (i := 1) rfl (by simp; omega)
  have l2 : lsubV 11 (.lst (l.map Ce.p)) (some (.int .i64 1)) none none = some (.lst ((l.drop 1).map Ce.p)) := by
    rw [List.map_drop]
    refine lsub_drop (i := 1) rfl (by simp; omega) (fun e he => ?_)
    obtain ⟨c, _, rfl⟩ := List.mem_map.1 he
    rw [Ce.p_cells]; rfl
  unfold forN
  cases e1 : andN f (l.take 1) [[]] with
  | error e =>
    rw [e1] at h1
    simp only [rowsV] at h1
    have hne := (all_err f).2.1 _ _ _ e1
    simp only [e_norm_forall, go_sem, l1, h1, eq_false hne, ne_eq]
    exact Good.done rfl
  | ok x =>
    rw [e1] at h1
    simp only [rowsV] at h1
    have hxs := (all_small f).2.1 _ _ _ small_one e1
    cases e2 : andN f (l.drop 1) [[]] with
    | error e =>
      rw [e2] at h2
      simp only [rowsV] at h2
      have hne := (all_err f).2.1 _ _ _ e2
      simp only [e_norm_forall, go_sem, l1, l2, h1, h2, eq_false hne, ne_eq]
      exact Good.done rfl
    | ok y =>
      rw [e2] at h2
      simp only [rowsV] at h2
      have hys := (all_small f).2.1 _ _ _ small_one e2
      have hng := negs_t hys.short.1
      obtain ⟨ns1, ns2⟩ := negsM_sz y hys
      have hxl := hxs.1
      simp only [e_norm_forall, go_sem, l1, l2, h1, h2, ne_eq, List.length_map]
      generalize hL : forB (negsM y) x [] = L
      refine Good.for x.length (fun n fr st => ∃ xo out bs rows bts rt, fr = [.undef, .undef, .lst (y.map rowP), xo, .undef, .undef, .lst (x.map rowP), .int .i64 (x.length : Int), .int .i64 (n : Int)] ++ List.replicate 2 .undef ∧ st = ⟨bs, rows, bts, rt⟩ ∧
        OutV 1 T_norm_put_0 (out.map rowP) xo rows rt ∧ rt.length = rows.length ∧ Small out ∧ L = forB (negsM y) (x.drop n) out) ?_ ?_ ?_
      · rintro n fr st hn ⟨xo, out, bs, rows, bts, rt, rfl, rfl, hO, hr, hsm, he⟩ k hk
        have c2 : ((n : Int) < (x.length : Int)) = True := eq_true (by omega)
        have rat := Rw.at_ hn
        have hsr := hxs.2 _ (List.getElem_mem hn)
        rw [List.drop_eq_getElem_cons hn, forB] at he
        generalize x[n] = r at rat hsr he
        have hlr := Ce.len_sz r
        obtain ⟨z, rows1, rt1, hcat, hO1⟩ := concat_ok (a := r.map Ce.p) (b := (negsM y).map Ce.p) (by simp; omega) (by simp; omega) (szAll_ce _) (szAll_ce _)
        obtain ⟨z2, rows2, rt2, htk, hO2, hr2, hkeep⟩ := take_out (bs := bs) (bts := bts) hO1 hr
        have hO3 := hkeep _ _ _ _ hO
        rw [← List.map_append] at hO2
        obtain ⟨v, ⟨bs3, rows3, bts3, rt3⟩, hput, hbx, hbt, hres⟩ := put_ok (out := out) (r := r ++ negsM y) (st := ⟨bs, rows2, bts, rt2⟩) hO3 hO2.sl hr2 (by rw [Ce.szs_append]; omega)
        simp only at hbx hbt
        subst hbx hbt
        cases hm : putM out (r ++ negsM y) with
        | error e =>
          rw [hm] at he hres
          obtain ⟨rfl, rfl, h3, h4⟩ := hres
          simp only [b_norm_forall_0, go_sem, c2, rat, hng, hcat, htk, hput, ne_eq]
          exact Good.done (by rw [he]; rfl)
        | ok o =>
          rw [hm] at he hres
          obtain ⟨x4, rfl, hO4, hr4⟩ := hres
          simp only [b_norm_forall_0, go_sem, c2, rat, hng, hcat, htk, hput, ne_eq, wrapN (n := n) (by omega)]
          exact hk _ _ ⟨x4, o, _, _, _, _, rfl, rfl, hO4, hr4, putM_small hsm hm, he⟩
      · rintro fr st ⟨xo, out, bs, rows, bts, rt, rfl, rfl, hO, hr, hsm, he⟩ k
        rw [List.drop_eq_nil_of_le (i := x.length) (Nat.le_refl _), forB] at he
        have hn2 := arg_of hO.sl (negs_t hsm.short.1)
        simp only [b_norm_forall_0, go_sem, Int.lt_irrefl, hn2]
        exact Good.done (by rw [he]; rfl)
      · exact ⟨.nils, [], _, _, _, _, rfl, rfl, .nils, rfl, small_nil, hL.symm⟩

theorem one_of {f : Nat} (IH : ∀ f', f' ≤ f → NormOk f') (c : Ce) (hf : 3 * c.sz ≤ f + 1) (hl : c.sz ≤ 100000) : tupV (callE efns given) (.call 0 f_norm_one) [c.p] = some (rowsV (oneN (f + 1) c)) := by
  have hsz := Ce.sz_eq c
  rw [Ce.p_eq]
  refine call_good (f := f_norm_one) rfl ?_
  rw [callE_fn efns given (c := e_norm_one) rfl rfl]
  have hand := (IH f (Nat.le_refl _)).and_ c.kids (by omega) (by omega)
  have hor := (IH f (Nat.le_refl _)).or_ c.kids (by omega) (by omega)
  unfold oneN
  by_cases k1 : c.k = 1
  · rw [if_pos k1]
    simp only [e_norm_one, go_sem, Ce.cells, eq_true k1]
    exact Good.done (by rw [rowsV, List.map_singleton, rowP, List.map_singleton, Ce.p_eq]; rfl)
  · rw [if_neg k1]
    by_cases k2 : c.k = 2
    · rw [if_pos k2]
      simp only [e_norm_one, go_sem, Ce.cells, eq_false k1, eq_true k2]
      exact Good.done (by rw [rowsV, List.map_singleton, rowP, List.map_singleton, Ce.p_eq]; rfl)
    · rw [if_neg k2]
      by_cases k5 : c.k = 5
      · rw [if_pos k5]
        cases hm : orN f c.kids [] with
        | error e =>
          rw [hm] at hor
          simp only [rowsV] at hor
          simp only [e_norm_one, go_sem, Ce.cells, eq_false k1, eq_false k2, eq_true k5, hor]
          exact Good.done rfl
        | ok x =>
          rw [hm] at hor
          simp only [rowsV] at hor
          simp only [e_norm_one, go_sem, Ce.cells, eq_false k1, eq_false k2, eq_true k5, hor]
          exact Good.done rfl
      · rw [if_neg k5]
        by_cases k3 : c.k = 3
        · rw [if_pos k3]
          cases hm : andN f c.kids [[]] with
          | error e =>
            rw [hm] at hand
            simp only [rowsV] at hand
            have hne := (all_err f).2.1 _ _ _ hm
            have hng := negs_t (l := []) (by simp)
            have hsi := singleE_t hne ((negsM []).map Ce.p)
            simp only [List.map_nil] at hng
            simp only [rowsV] at hsi
            simp only [e_norm_one, go_sem, Ce.cells, eq_false k1, eq_false k2, eq_false k5, eq_true k3, hand, hng, hsi]
            exact Good.done rfl
          | ok x =>
            rw [hm] at hand
            simp only [rowsV] at hand
            have hxs := (all_small f).2.1 _ _ _ small_one hm
            have hng := negs_t hxs.short.1
            have hsi := single_t (r := negsM x) (by have := (negsM_sz x hxs).1; omega) (x := .lst ((negsM x).map Ce.p)) rfl
            cases hp : putM [] (negsM x) with
            | error e =>
              rw [hp] at hsi
              simp only [rowsV] at hsi
              simp only [e_norm_one, go_sem, Ce.cells, eq_false k1, eq_false k2, eq_false k5, eq_true k3, hand, hng, hsi]
              exact Good.done (by rw [hp]; rfl)
            | ok o =>
              rw [hp] at hsi
              simp only [rowsV] at hsi
              simp only [e_norm_one, go_sem, Ce.cells, eq_false k1, eq_false k2, eq_false k5, eq_true k3, hand, hng, hsi]
              exact Good.done (by rw [hp]; rfl)
        · rw [if_neg k3]
          by_cases k6 : c.k = 6
          · rw [if_pos k6]
            cases hm : andN f c.kids [[]] with
            | error e =>
              rw [hm] at hand
              simp only [rowsV] at hand
              have hne := (all_err f).2.1 _ _ _ hm
              simp only [e_norm_one, go_sem, Ce.cells, eq_false k1, eq_false k2, eq_false k5, eq_false k3, eq_true k6, hand, eq_false hne, ne_eq]
              exact Good.done rfl
            | ok x =>
              rw [hm] at hand
              simp only [rowsV] at hand
              have hxs := (all_small f).2.1 _ _ _ small_one hm
              have hng := negs_t hxs.short.1
              have hsi := single_t (r := [negL (negsM x)]) (by have := (negsM_sz x hxs).1; simp [Ce.szs, negL, Ce.sz]; omega) (x := .full [.agg [.int .i64 3, .str [], .str [], .lst [], .int .i64 0, .int .i64 0, .int .i64 0, .str [], .str [], .lst [], .lst ((negsM x).map Ce.p)]]) (by rw [List.map_singleton, negL, Ce.p_eq]; rfl)
              cases hp : putM [] [negL (negsM x)] with
              | error e =>
                rw [hp] at hsi
                simp only [rowsV] at hsi
                simp only [e_norm_one, go_sem, Ce.cells, eq_false k1, eq_false k2, eq_false k5, eq_false k3, eq_true k6, hand, hng, hsi, ne_eq]
                exact Good.done (by rw [hp]; rfl)
              | ok o =>
                rw [hp] at hsi
                simp only [rowsV] at hsi
                simp only [e_norm_one, go_sem, Ce.cells, eq_false k1, eq_false k2, eq_false k5, eq_false k3, eq_true k6, hand, hng, hsi, ne_eq]
                exact Good.done (by rw [hp]; rfl)
          · rw [if_neg k6]
            by_cases k7 : c.k = 7
            · rw [if_pos k7]
              by_cases h0 : c.kids.length = 0
              · rw [if_pos h0]
                have h0' : ((c.kids.length : Int) = 0) = True := eq_true (by omega)
                simp only [e_norm_one, go_sem, Ce.cells, eq_false k1, eq_false k2, eq_false k5, eq_false k3, eq_false k6, eq_true k7, List.length_map, h0']
                exact Good.done rfl
              · rw [if_neg h0]
                have h0' : ((c.kids.length : Int) = 0) = False := eq_false (by omega)
                obtain ⟨f, rfl⟩ : ∃ q, f = q + 1 := ⟨f - 1, by omega⟩
                have hfa := forall_of (IH f (by omega)) c.kids (by omega) (by omega) (by omega)
                cases hm : forN (f + 1) c.kids with
                | error e =>
                  rw [hm] at hfa
                  simp only [rowV] at hfa
                  have hne := (all_err (f + 1)).2.2.2 _ _ hm
                  have hsi := singleE_t hne []
                  simp only [rowsV] at hsi
                  simp only [e_norm_one, go_sem, Ce.cells, eq_false k1, eq_false k2, eq_false k5, eq_false k3, eq_false k6, eq_true k7, List.length_map, h0', hfa, hsi]
                  exact Good.done rfl
                | ok r =>
                  rw [hm] at hfa
                  simp only [rowV] at hfa
                  have hrs : Ce.szs r < 1000000 := by have := forN_sz hm; omega
                  have hsi := single_t hrs (x := .lst (r.map Ce.p)) rfl
                  cases hp : putM [] r with
                  | error e =>
                    rw [hp] at hsi
                    simp only [rowsV] at hsi
                    simp only [e_norm_one, go_sem, Ce.cells, eq_false k1, eq_false k2, eq_false k5, eq_false k3, eq_false k6, eq_true k7, List.length_map, h0', hfa, hsi]
                    exact Good.done (by rw [hp]; rfl)
                  | ok o =>
                    rw [hp] at hsi
                    simp only [rowsV] at hsi
                    simp only [e_norm_one, go_sem, Ce.cells, eq_false k1, eq_false k2, eq_false k5, eq_false k3, eq_false k6, eq_true k7, List.length_map, h0', hfa, hsi]
                    exact Good.done (by rw [hp]; rfl)
            · rw [if_neg k7]
              by_cases k84 : c.k = 8 ∨ c.k = 4
              · rw [if_pos k84]
                rcases k84 with k8 | k4
                · cases hm : andN f c.kids [[]] with
                  | error e =>
                    rw [hm] at hand
                    simp only [rowsV] at hand
                    simp only [e_norm_one, go_sem, Ce.cells, eq_false k1, eq_false k2, eq_false k5, eq_false k3, eq_false k6, eq_false k7, eq_true k8, hand]
                    exact Good.done rfl
                  | ok x =>
                    rw [hm] at hand
                    simp only [rowsV] at hand
                    simp only [e_norm_one, go_sem, Ce.cells, eq_false k1, eq_false k2, eq_false k5, eq_false k3, eq_false k6, eq_false k7, eq_true k8, hand]
                    exact Good.done rfl
                · have k8 : ¬ c.k = 8 := by omega
                  cases hm : andN f c.kids [[]] with
                  | error e =>
                    rw [hm] at hand
                    simp only [rowsV] at hand
                    simp only [e_norm_one, go_sem, Ce.cells, eq_false k1, eq_false k2, eq_false k5, eq_false k3, eq_false k6, eq_false k7, eq_false k8, eq_true k4, hand]
                    exact Good.done rfl
                  | ok x =>
                    rw [hm] at hand
                    simp only [rowsV] at hand
                    simp only [e_norm_one, go_sem, Ce.cells, eq_false k1, eq_false k2, eq_false k5, eq_false k3, eq_false k6, eq_false k7, eq_false k8, eq_true k4, hand]
                    exact Good.done rfl
              · rw [if_neg k84]
                have k8 : ¬ c.k = 8 := fun h => k84 (.inl h)
                have k4 : ¬ c.k = 4 := fun h => k84 (.inr h)
                simp only [e_norm_one, go_sem, Ce.cells, eq_false k1, eq_false k2, eq_false k5, eq_false k3, eq_false k6, eq_false k7, eq_false k8, eq_false k4]
                exact Good.done rfl
theorem norm_all : ∀ f, NormOk f := by
  intro f
  induction f using Nat.strongRecOn with
  | _ f IH =>
    refine ⟨fun c hf hl => ?_, fun l hf hl => and_of IH l hf hl, fun l hf hl => or_of IH l hf hl⟩
    cases f with
    | zero => have := Ce.sz_eq c; omega
    | succ f => exact one_of (fun f' hf' => IH f' (by omega)) c hf hl
theorem nand_t (l : List Ce) (hl : Ce.szs l ≤ 100000) : tupV (callE efns given) (.call 0 f_norm_and) [.lst (l.map Ce.p)] = some (rowsV (andN (3 * Ce.szs l + 1) l [[]])) := (norm_all _).and_ l (Nat.le_refl _) hl
end Go.Proofs.YtgjklaobjnjhpaaGreatPe.Normz

/- Conditions made plain: Logicals, copies. -/
set_option linter.unusedVariables false
set_option linter.unusedSimpArgs false
set_option maxRecDepth 100000
namespace Go.Proofs.YtgjklaobjnjhpaaGreatPe.Normz
open Go Go.Proofs Go.Proofs.YtgjklaobjnjhpaaGreatPe Go.Proofs.YtgjklaobjnjhpaaGreatPe.NormzCode

mutual
def Ce.logB : Ce → Bool
  | .mk k _ _ _ l => decide (k = 8) || Ce.logL l
def Ce.logL : List Ce → Bool
  | [] => false
  | c :: l => Ce.logB c || Ce.logL l
end
theorem Ce.logB_eq (c : Ce) : c.logB = (decide (c.k = 8) || Ce.logL c.kids) := by cases c; rfl
theorem callv_f {cl : CallF} {f : FuncId} {cap vs : List PV} {st : St} : callvV cl (.func f cap) vs st = cl f (vs ++ cap) st := rfl

theorem logical_t : ∀ (m : Nat) (l : List Ce), Ce.szs l < m → m ≤ 1000000 → tupV (callE efns given) (.call 0 f_norm_logical) [.lst (l.map Ce.p)] = some (.bool (Ce.logL l)) := by
  intro m
  induction m with
  | zero => intro l h; omega
  | succ m ih =>
    intro l hm hle
    have hkl := Ce.len_sz l
    -- the closure
    have hcl : ∀ (c : Ce), c ∈ l → ∀ st, ∃ st', callE efns given f_norm_logical_1 [.agg c.cells] st = some (.bool c.logB, st') := by
      intro c hc st
      have hsz := Ce.sz_mem hc
      have hse := Ce.sz_eq c
      have h1 := ih c.kids (by omega) (by omega)
      rw [callE_fn efns given (c := e_norm_logical_1) rfl rfl, Ce.logB_eq]
      by_cases h8 : c.k = 8
      · simp only [e_norm_logical_1, go_sem, Ce.cells, eq_true h8]
        exact ⟨_, rfl⟩
      · simp only [e_norm_logical_1, go_sem, Ce.cells, eq_false h8, h1]
        exact ⟨_, by simp; rfl⟩
    -- the index
    have hix : ∀ st, Good (fun v _ => ∃ i : Int, v = .int .i64 i ∧ (decide (i ≥ 0) = Ce.logL l)) (callE efns given f_slices_IndexFunc_cond_CE_cond_CE [.lst (l.map Ce.p), .func f_norm_logical_1 []] st) := by
      intro st
      rw [callE_fn efns given (c := e_slices_IndexFunc_cond_CE_cond_CE) rfl rfl]
      simp only [e_slices_IndexFunc_cond_CE_cond_CE, go_sem, List.length_map]
      refine Good.for l.length (fun n fr st => fr = [.lst (l.map Ce.p), .func f_norm_logical_1 [], .int .i64 (l.length : Int), .int .i64 (n : Int), .undef] ∧ Ce.logL l = Ce.logL (l.drop n)) ?_ ?_ ?_
      · rintro n fr st hn ⟨rfl, he⟩ k hk
        have c1 : ((n : Int) < (l.length : Int)) = True := eq_true (by omega)
        have cat := Ce.at_ hn
        obtain ⟨st', hc⟩ := hcl _ (List.getElem_mem hn) st
        rw [List.drop_eq_getElem_cons hn, Ce.logL] at he
        generalize l[n] = c at cat hc he
        simp only [Ce.cells] at hc
        cases hb : c.logB with
        | true =>
          rw [hb] at hc he
          simp only [b_slices_IndexFunc_cond_CE_cond_CE_0, go_sem, c1, cat, Ce.cells, callv_f, hc]
          exact Good.done ⟨_, rfl, by rw [he]; simp⟩
        | false =>
          rw [hb] at hc he
          simp only [b_slices_IndexFunc_cond_CE_cond_CE_0, go_sem, c1, cat, Ce.cells, callv_f, hc, wrapN (n := n) (by omega)]
          exact hk _ _ ⟨rfl, by rw [he, Bool.false_or]⟩
      · rintro fr st ⟨rfl, he⟩ k
        rw [List.drop_eq_nil_of_le (i := l.length) (Nat.le_refl _), Ce.logL] at he
        simp only [b_slices_IndexFunc_cond_CE_cond_CE_0, go_sem, Int.lt_irrefl]
        exact Good.done ⟨_, rfl, by rw [he]; rfl⟩
      · exact ⟨rfl, rfl⟩
    refine call_good (f := f_norm_logical) rfl ?_
    rw [callE_fn efns given (c := e_norm_logical) rfl rfl]
    have hct : ∀ st, ∃ st', callE efns given f_slices_ContainsFunc_cond_CE_cond_CE [.lst (l.map Ce.p), .func f_norm_logical_1 []] st = some (.bool (Ce.logL l), st') := by
      intro st
      obtain ⟨v, st', h1, i, rfl, h2⟩ := hix st
      rw [callE_fn efns given (c := e_slices_ContainsFunc_cond_CE_cond_CE) rfl rfl]
      simp only [e_slices_ContainsFunc_cond_CE_cond_CE, go_sem, h1]
      exact ⟨_, by rw [h2]⟩
    obtain ⟨st', h⟩ := hct ⟨[], [], [], []⟩
    simp only [e_norm_logical, go_sem, h]
    exact Good.done rfl
theorem logical_f {l : List Ce} (h : Ce.szs l < 1000000) : tupV (callE efns given) (.call 0 f_norm_logical) [.lst (l.map Ce.p)] = some (.bool (Ce.logL l)) := logical_t 1000000 l h (Nat.le_refl _)

theorem eclone_t : ∀ (m : Nat) (e : Ex), e.sz ≤ m → m ≤ 1000000 → tupV (callE efns given) (.call 0 f_norm_clone) [e.p] = some e.p := by
  intro m
  induction m with
  | zero => intro e h; rw [Ex.sz_eq] at h; omega
  | succ m ih =>
    intro e hm hle
    have hkl := Ex.len_sz e.kids
    have hsz := Ex.sz_eq e
    rw [Ex.p_eq]
    refine call_good (f := f_norm_clone) rfl ?_
    rw [callE_fn efns given (c := e_norm_clone) rfl rfl]
    simp only [e_norm_clone, go_sem, Ex.cells, List.length_map]
    refine Good.for e.kids.length (fun n fr st => ∃ out rows rt bs bts, fr = [.undef, .ptr 0 0, .ptr 1 0, out, .undef, .lst (e.kids.map Ex.p), .int .i64 (e.kids.length : Int), .int .i64 (n : Int), .undef, .undef, .undef] ∧
      st = ⟨e.cells :: [.int .i64 0, .int .i64 0, .int .i64 0, .str [], .str [], .nils] :: bs, rows, bts, rt⟩ ∧
      OutV 6 T_norm_clone_0 ((e.kids.take n).map Ex.p) out rows rt ∧ rt.length = rows.length) ?_ ?_ ?_
    · rintro n fr st hn ⟨out, rows, rt, bs, bts, rfl, rfl, hO, hr⟩ k hk
      have c1 : ((n : Int) < (e.kids.length : Int)) = True := eq_true (by omega)
      have hs := ih e.kids[n] (by have := Ex.sz_kid (List.getElem_mem hn); omega) (by omega)
      rw [Ex.p_eq] at hs
      obtain ⟨out', rows', rt', ap, hO', hr', _⟩ := hO.app1 (b := 80) hr (e := .agg e.kids[n].cells) rfl (by simp; omega)
      simp only [Ex.cells] at hs ap
      simp only [b_norm_clone_0, go_sem, Ex.cells, Ex.at_ hn, c1, hs, V_bs1, ap, wrapN (n := n) (by omega)]
      refine hk _ _ ⟨out', rows', rt', _, _, rfl, rfl, ?_, hr'⟩
      rw [take_succ_at hn, List.map_append, List.map_singleton, Ex.p_eq]
      exact hO'
    · rintro fr st ⟨out, rows, rt, bs, bts, rfl, rfl, hO, hr⟩ k
      rw [List.take_length] at hO
      have hcl := clip_of hO.sl (clipExpr_t _)
      simp only [b_norm_clone_0, go_sem, Ex.cells, Int.lt_irrefl, hcl]
      exact Good.done rfl
    · exact ⟨.nils, [], [], [], _, rfl, rfl, .nils, rfl⟩

theorem szAll_ts (l : List Ts) : szAll 6 (l.map Ts.p) = true := by
  refine List.all_eq_true.2 fun e he => ?_
  obtain ⟨c, _, rfl⟩ := List.mem_map.1 he
  rfl
theorem apart_t : ∀ (m : Nat) (l : List Ce), Ce.szs l < m → m ≤ 1000000 → (∀ c ∈ l, Ce.Fine c) → tupV (callE efns given) (.call 0 f_norm_apart) [.lst (l.map Ce.p)] = some (.lst (l.map Ce.p)) := by
  intro m
  induction m with
  | zero => intro l h; omega
  | succ m ih =>
    intro l hm hle hf
    have hkl := Ce.len_sz l
    refine call_good (f := f_norm_apart) rfl ?_
    rw [callE_fn efns given (c := e_norm_apart) rfl rfl]
    simp only [e_norm_apart, go_sem, List.length_map]
    refine Good.for l.length (fun n fr st => ∃ out rows rt bs bts, fr = [.undef, out, .undef, .lst (l.map Ce.p), .int .i64 (l.length : Int), .int .i64 (n : Int)] ++ List.replicate 6 .undef ∧
      st = ⟨bs, rows, bts, rt⟩ ∧ OutV 11 T_norm_apart_0 ((l.take n).map Ce.p) out rows rt ∧ rt.length = rows.length) ?_ ?_ ?_
    · rintro n fr st hn ⟨out, rows, rt, bs, bts, rfl, rfl, hO, hr⟩ k hk
      have c1 : ((n : Int) < (l.length : Int)) = True := eq_true (by omega)
      obtain ⟨hc1, hc2, hc3⟩ := hf l[n] (List.getElem_mem hn)
      have hsz := Ce.sz_mem (List.getElem_mem hn)
      have hse := Ce.sz_eq l[n]
      have h1 := ih l[n].kids (by omega) (by omega) hc3
      have h2 := eclone_t _ l[n].e (Nat.le_refl _) (by omega)
      have h3 := clone_ok (szAll_ts l[n].pt.l) (by simp; omega) ⟨[], [], [], []⟩
      have h4 := clipTest_t (l[n].pt.l.map Ts.p)
      rw [Ex.p_eq] at h2
      obtain ⟨out', rows', rt', ap, hO', hr', _⟩ := hO.app1 (b := 168) hr (e := .agg l[n].cells) rfl (by simp; omega)
      simp only [Ce.cells, Ex.cells] at ap h2
      simp only [b_norm_apart_0, go_sem, Ce.cells, Ce.at_ hn, c1, h1, h2, h3, h4, ap, wrapN (n := n) (by omega)]
      refine hk _ _ ⟨out', rows', rt', _, _, rfl, rfl, ?_, hr'⟩
      rw [take_succ_at hn, List.map_append, List.map_singleton, Ce.p_eq]
      exact hO'
    · rintro fr st ⟨out, rows, rt, bs, bts, rfl, rfl, hO, hr⟩ k
      rw [List.take_length] at hO
      have hcl := clip_of hO.sl (clipLit_t _)
      simp only [b_norm_apart_0, go_sem, Int.lt_irrefl, hcl]
      exact Good.done rfl
    · exact ⟨.nils, [], [], [], _, rfl, rfl, .nils, rfl⟩
end Go.Proofs.YtgjklaobjnjhpaaGreatPe.Normz

/- Conditions made plain: Norm. -/
set_option linter.unusedVariables false
set_option linter.unusedSimpArgs false
set_option maxRecDepth 100000
namespace Go.Proofs.YtgjklaobjnjhpaaGreatPe.Normz
open Go Go.Proofs Go.Proofs.YtgjklaobjnjhpaaGreatPe Go.Proofs.YtgjklaobjnjhpaaGreatPe.NormzCode

structure Al where
  lits : Rw
  logic : Nat
  deriving DecidableEq
def Al.cells (a : Al) : List PV := [.lst (a.lits.map Ce.p), .int .i64 (a.logic : Int)]
def Al.p (a : Al) : PV := .agg a.cells
def badN : Nat → List Ce → Bool
  | _, [] => false
  | i, c :: r => ((decide (0 < i) && decide (c.k = 8)) || Ce.logL c.kids) || badN (i + 1) r
def headN (l : List Ce) : Nat := match l with
  | [] => 0
  | c :: _ => if c.k = 8 then 1 else 0
def altsB (n : Nat) : List Rw → List Al → Ei (List Al)
  | [], out => .ok out
  | r :: a, out => if out.length ≥ 16 then .error 4 else altsB n a (out ++ [⟨r, n⟩])
def altsM (behind : List Rw) : List Rw → List Al → Ei (List Al)
  | [], out => .ok out
  | x :: f, out => match joinM behind [x] [] with
    | .error e => .error e
    | .ok all => match altsB x.length all out with
      | .error e => .error e
      | .ok o => altsM behind f o
def andF (l : List Ce) : Ei (List Rw) := andN (3 * Ce.szs l + 1) l [[]]
def normM (l : List Ce) : Ei (List Al) :=
  if badN 0 l = true then .error 2 else match andF (l.take (headN l)) with
    | .error e => .error e
    | .ok front => match andF (l.drop (headN l)) with
      | .error e => .error e
      | .ok behind => altsM behind front []
def altsV : Ei (List Al) → PV
  | .ok l => .tuple [.lst (l.map Al.p), .int .i64 0]
  | .error e => .tuple [.lst [], .int .i64 e]

/-! ### What comes out is fine -/
def FineR (l : List Rw) : Prop := ∀ r ∈ l, ∀ c ∈ r, Ce.Fine c
theorem putM_fine {out o : List Rw} {r : Rw} (hs : FineR out) (hr : ∀ c ∈ r, Ce.Fine c) (h : putM out r = .ok o) : FineR o := by
  unfold putM at h
  split at h
  · cases h
  · cases h
    intro x hx
    rcases List.mem_append.1 hx with hx | hx
    · exact hs x hx
    · rw [List.mem_singleton.1 hx]; exact hr
theorem joinB_fine {x : Rw} (hx : ∀ c ∈ x, Ce.Fine c) : ∀ {b out o : List Rw}, FineR b → FineR out → joinB x b out = .ok o → FineR o
  | [], out, o, hb, hs, h => by cases h; exact hs
  | y :: b, out, o, hb, hs, h => by
    unfold joinB at h
    split at h
    · cases h
    · rename_i o' ho
      refine joinB_fine hx (fun r hr => hb r (List.mem_cons.2 (.inr hr))) (putM_fine hs (fun c hc => ?_) ho) h
      rcases List.mem_append.1 hc with hc | hc
      · exact hx c hc
      · exact hb y (List.mem_cons.2 (.inl rfl)) c hc
theorem joinM_fine {b : List Rw} (hb : FineR b) : ∀ {a out o : List Rw}, FineR a → FineR out → joinM b a out = .ok o → FineR o
  | [], out, o, ha, hs, h => by cases h; exact hs
  | x :: a, out, o, ha, hs, h => by
    unfold joinM at h
    split at h
    · cases h
    · rename_i o' ho
      exact joinM_fine hb (fun r hr => ha r (List.mem_cons.2 (.inr hr))) (joinB_fine (ha x (List.mem_cons.2 (.inl rfl))) hb hs ho) h
theorem orB_fine : ∀ {x out o : List Rw}, FineR x → FineR out → orB x out = .ok o → FineR o
  | [], out, o, hx, hs, h => by cases h; exact hs
  | r :: x, out, o, hx, hs, h => by
    unfold orB at h
    split at h
    · cases h
    · rename_i o' ho
      exact orB_fine (fun r hr => hx r (List.mem_cons.2 (.inr hr))) (putM_fine hs (hx r (List.mem_cons.2 (.inl rfl))) ho) h
theorem forB_fine {z : Rw} (hz : ∀ c ∈ z, Ce.Fine c) : ∀ {x out o : List Rw}, FineR x → FineR out → forB z x out = .ok o → FineR o
  | [], out, o, hx, hs, h => by cases h; exact hs
  | r :: x, out, o, hx, hs, h => by
    unfold forB at h
    split at h
    · cases h
    · rename_i o' ho
      refine forB_fine hz (fun r hr => hx r (List.mem_cons.2 (.inr hr))) (putM_fine hs (fun c hc => ?_) ho) h
      rcases List.mem_append.1 hc with hc | hc
      · exact hx r (List.mem_cons.2 (.inl rfl)) c hc
      · exact hz c hc
theorem negL_fine {r : Rw} (h : ∀ c ∈ r, Ce.Fine c) : Ce.Fine (negL r) := .mk (by simp [negL, Ce.pt, ptNone]) (by simp [negL, Ce.e, exNone, Ex.sz, Ex.szs]) h
theorem negsM_fine {l : List Rw} (h : FineR l) : ∀ c ∈ negsM l, Ce.Fine c := by
  intro c hc
  obtain ⟨r, hr, rfl⟩ := List.mem_map.1 hc
  exact negL_fine (h r hr)
theorem fine_nil : FineR [] := fun r h => by cases h
theorem fine_one : FineR [[]] := fun r h c hc => by rw [List.mem_singleton.1 h] at hc; cases hc
theorem all_fine : ∀ (f : Nat), (∀ c o, Ce.Fine c → oneN f c = .ok o → FineR o) ∧ (∀ l out o, (∀ c ∈ l, Ce.Fine c) → FineR out → andN f l out = .ok o → FineR o) ∧ (∀ l out o, (∀ c ∈ l, Ce.Fine c) → FineR out → orN f l out = .ok o → FineR o) ∧
    (∀ l r, (∀ c ∈ l, Ce.Fine c) → forN f l = .ok r → ∀ c ∈ r, Ce.Fine c)
  | 0 => ⟨fun c o _ h => (by unfold oneN at h; cases h), fun l out o _ _ h => (by unfold andN at h; cases h), fun l out o _ _ h => (by unfold orN at h; cases h), fun l r _ h => (by unfold forN at h; cases h)⟩
  | f + 1 => by
    obtain ⟨i1, i2, i3, i4⟩ := all_fine f
    refine ⟨fun c o hf h => ?_, fun l out o hf hs h => ?_, fun l out o hf hs h => ?_, fun l r hf h => ?_⟩
    · obtain ⟨h1, h2, h3⟩ := hf
      unfold oneN at h
      split at h
      · cases h
        intro r hr x hx
        rw [List.mem_singleton.1 hr] at hx
        rw [List.mem_singleton.1 hx]
        exact .mk h1 (by simp [Ce.e, exNone, Ex.sz, Ex.szs]) (fun k hk => by cases hk)
      · split at h
        · cases h
          intro r hr x hx
          rw [List.mem_singleton.1 hr] at hx
          rw [List.mem_singleton.1 hx]
          exact .mk (by simp [Ce.pt, ptNone]) h2 (fun k hk => by cases hk)
        · split at h
          · exact i3 _ _ _ h3 fine_nil h
          · split at h
            · split at h
              · cases h
              · rename_i x hx
                exact putM_fine fine_nil (negsM_fine (i2 _ _ _ h3 fine_one hx)) h
            · split at h
              · split at h
                · cases h
                · rename_i x hx
                  refine putM_fine fine_nil (fun c hc => ?_) h
                  rw [List.mem_singleton.1 hc]
                  exact negL_fine (negsM_fine (i2 _ _ _ h3 fine_one hx))
              · split at h
                · split at h
                  · cases h
                  · split at h
                    · cases h
                    · rename_i r hr
                      exact putM_fine fine_nil (i4 _ _ h3 hr) h
                · split at h
                  · exact i2 _ _ _ h3 fine_one h
                  · cases h
    · unfold andN at h
      split at h
      · cases h; exact hs
      · rename_i c r
        split at h
        · cases h
        · rename_i x hx
          split at h
          · cases h
          · rename_i o' ho
            exact i2 _ _ _ (fun c hc => hf c (List.mem_cons.2 (.inr hc))) (joinM_fine (i1 _ _ (hf c (List.mem_cons.2 (.inl rfl))) hx) hs fine_nil ho) h
    · unfold orN at h
      split at h
      · cases h; exact hs
      · rename_i c r
        split at h
        · cases h
        · rename_i x hx
          split at h
          · cases h
          · rename_i o' ho
            exact i3 _ _ _ (fun c hc => hf c (List.mem_cons.2 (.inr hc))) (orB_fine (i1 _ _ (hf c (List.mem_cons.2 (.inl rfl))) hx) hs ho) h
    · unfold forN at h
      split at h
      · cases h
      · rename_i x hx
        split at h
        · cases h
        · rename_i y hy
          split at h
          · cases h
          · rename_i o ho
            cases h
            exact negsM_fine (forB_fine (negsM_fine (i2 _ _ _ (fun c hc => hf c (List.mem_of_mem_drop hc)) fine_one hy)) (i2 _ _ _ (fun c hc => hf c (List.mem_of_mem_take hc)) fine_one hx) fine_nil ho)

theorem altsB_len {n : Nat} : ∀ {a : List Rw} {out o : List Al}, out.length ≤ 16 → altsB n a out = .ok o → o.length ≤ 16
  | [], out, o, h, hh => by cases hh; exact h
  | r :: a, out, o, h, hh => by
    unfold altsB at hh
    split at hh
    · cases hh
    · exact altsB_len (by simp; omega) hh
theorem norm_tail {front behind : List Rw} (hf : Small front) (hb : Small behind) (ff : FineR front) (fb : FineR behind) {K : EX → Fr → St → Option (PV × St)} {Q : PV → St → Prop} {bs : List (List PV)} {bts : List TypeId}
    (hE : ∀ o xo rows rt st, altsM behind front [] = .ok o → OutV 2 T_norm_Norm_0 (o.map Al.p) xo rows rt → Good Q (K (.exit 2) ([.undef, .undef, .undef, .undef, .lst (behind.map rowP), xo, .undef, .undef, .undef, .undef, .undef, .undef, .undef, .undef, .undef, .undef, .lst (front.map rowP), .int .i64 (front.length : Int), .int .i64 (front.length : Int)] ++ List.replicate 5 .undef) st))
    (hR : ∀ e s, altsM behind front [] = .error e → Good Q (K (.ret (.tuple [.nils, .int .i64 e])) [] s)) :
    Good Q (runL (callE efns given) [false, false, false, false, true, true, false, false, false, false, false, false, false, false, false, false, true, true, true, false, false, false, false, false] b_norm_Norm_2
      ([.undef, .undef, .undef, .undef, .lst (behind.map rowP), .nils, .undef, .undef, .undef, .undef, .undef, .undef, .undef, .undef, .undef, .undef, .lst (front.map rowP), .int .i64 (front.length : Int), .int .i64 0] ++ List.replicate 5 .undef) ⟨bs, [], bts, []⟩ K) := by
  have hfl := hf.1
  refine Good.for front.length (fun i fr st => ∃ xo out rows rt, fr = [.undef, .undef, .undef, .undef, .lst (behind.map rowP), xo, .undef, .undef, .undef, .undef, .undef, .undef, .undef, .undef, .undef, .undef, .lst (front.map rowP), .int .i64 (front.length : Int), .int .i64 (i : Int)] ++ List.replicate 5 .undef ∧ st = ⟨bs, rows, bts, rt⟩ ∧
    OutV 2 T_norm_Norm_0 (out.map Al.p) xo rows rt ∧ rt.length = rows.length ∧ out.length ≤ 16 ∧ altsM behind front [] = altsM behind (front.drop i) out) ?_ ?_ ?_
  · rintro i fr st hi ⟨xo, out, rows, rt, rfl, rfl, hO, hr, hol, he⟩ k hk
    have c1 : ((i : Int) < (front.length : Int)) = True := eq_true (by omega)
    have xat := Rw.at_ hi
    have hsx := hf.2 _ (List.getElem_mem hi)
    have hfx := ff _ (List.getElem_mem hi)
    rw [List.drop_eq_getElem_cons hi, altsM] at he
    generalize front[i] = x at xat hsx hfx he
    have hj := join_v (a := [x]) (b := behind) ⟨by simp, fun r hr => by rw [List.mem_singleton.1 hr]; omega⟩ hb.short (x := .full [.lst (x.map Ce.p)]) rfl
    cases hm : joinM behind [x] [] with
    | error e =>
      rw [hm] at he hj
      simp only [rowsV] at hj
      have hne : ¬ e = 0 := by rw [joinM_err hm]; decide
      simp only [b_norm_Norm_2, go_sem, c1, xat, hj, eq_false hne, ne_eq]
      exact hR e _ he
    | ok all =>
      rw [hm] at he hj
      simp only [rowsV] at hj
      simp only at he
      have has := joinM_small small_nil hm
      have haf := joinM_fine fb (a := [x]) (fun r hr => by rw [List.mem_singleton.1 hr]; exact hfx) fine_nil hm
      have hal := has.1
      simp only [b_norm_Norm_2, go_sem, c1, xat, hj, ne_eq, List.length_map]
      refine Good.for all.length (fun j fr st => ∃ xo out rows rt, fr = [.undef, .undef, .undef, .undef, .lst (behind.map rowP), xo, .lst (x.map Ce.p), .undef, .undef, .undef, .undef, .undef, .undef, .undef, .undef, .undef, .lst (front.map rowP), .int .i64 (front.length : Int), .int .i64 (i : Int), .undef, .lst (all.map rowP), .int .i64 (all.length : Int), .int .i64 (j : Int), .undef] ∧ st = ⟨bs, rows, bts, rt⟩ ∧
        OutV 2 T_norm_Norm_0 (out.map Al.p) xo rows rt ∧ rt.length = rows.length ∧ out.length ≤ 16 ∧ altsM behind front [] = (match altsB x.length (all.drop j) out with
          | .error e => .error e
          | .ok o => altsM behind (front.drop (i + 1)) o)) ?_ ?_ ?_
      · rintro j fr st hj2 ⟨xo, out, rows, rt, rfl, rfl, hO, hr, hol, he⟩ k2 hk2
        have c2 : ((j : Int) < (all.length : Int)) = True := eq_true (by omega)
        have rat := Rw.at_ hj2
        have hsr := has.2 _ (List.getElem_mem hj2)
        have hfr := haf _ (List.getElem_mem hj2)
        rw [List.drop_eq_getElem_cons hj2, altsB] at he
        generalize all[j] = r at rat hsr hfr he
        have q1 : ((out.length : Int) ≥ 16) = (out.length ≥ 16) := propext ⟨fun h => by omega, fun h => by omega⟩
        by_cases hge : out.length ≥ 16
        · rw [if_pos hge] at he
          simp only [b_norm_Norm_1, go_sem, c2, rat, hO.len, List.length_map, q1, eq_true hge]
          exact hR 4 _ he
        · rw [if_neg hge] at he
          have ha := apart_t 1000000 r (by omega) (Nat.le_refl _) hfr
          obtain ⟨out', rows', rt', ap, hO', hr', _⟩ := hO.app1 (b := 32) hr (e := Al.p ⟨r, x.length⟩) rfl (by simp; omega)
          simp only [Al.p, Al.cells] at ap
          simp only [b_norm_Norm_1, go_sem, c2, rat, hO.len, List.length_map, q1, eq_false hge, ha, ap, wrapN (n := j) (by omega)]
          exact hk2 _ _ ⟨out', out ++ [⟨r, x.length⟩], _, _, rfl, rfl, by rw [List.map_append, List.map_singleton]; exact hO', hr', by simp; omega, he⟩
      · rintro fr st ⟨xo, out, rows, rt, rfl, rfl, hO, hr, hol, he⟩ k2
        rw [List.drop_eq_nil_of_le (i := all.length) (Nat.le_refl _), altsB] at he
        simp only [b_norm_Norm_1, go_sem, Int.lt_irrefl, wrapN (n := i) (by omega)]
        exact hk _ _ ⟨xo, out, _, _, rfl, rfl, hO, hr, hol, he⟩
      · exact ⟨xo, out, _, _, rfl, rfl, hO, hr, hol, he⟩
  · rintro fr st ⟨xo, out, rows, rt, rfl, rfl, hO, hr, hol, he⟩ k
    rw [List.drop_eq_nil_of_le (i := front.length) (Nat.le_refl _), altsM] at he
    simp only [b_norm_Norm_2, go_sem, Int.lt_irrefl]
    exact hE out xo rows rt _ he hO
  · exact ⟨.nils, [], _, _, rfl, rfl, .nils, rfl, by simp, rfl⟩

theorem norm_t (l : List Ce) (hl : Ce.szs l ≤ 100000) (hf : ∀ c ∈ l, Ce.Fine c) : tupV (callE efns given) (.call 0 f_norm_Norm) [.lst (l.map Ce.p)] = some (altsV (normM l)) := by
  have hll := Ce.len_sz l
  refine call_good (f := f_norm_Norm) rfl ?_
  rw [callE_fn efns given (c := e_norm_Norm) rfl rfl]
  simp only [e_norm_Norm, go_sem, List.length_map]
  unfold normM
  refine Good.for l.length (fun n fr st => ∃ bs bts, fr = [.lst (l.map Ce.p), .undef, .undef, .undef, .undef, .undef, .undef, .undef, .undef, .lst (l.map Ce.p), .int .i64 (l.length : Int), .int .i64 (n : Int)] ++ List.replicate 12 .undef ∧ st = ⟨bs, [], bts, []⟩ ∧ badN 0 l = badN n (l.drop n)) ?_ ?_ ?_
  · rintro n fr st hn ⟨bs, bts, rfl, rfl, he⟩ k hk
    have c1 : ((n : Int) < (l.length : Int)) = True := eq_true (by omega)
    have cat := Ce.at_ hn
    have hds := Ce.sz_mem (List.getElem_mem hn)
    have q1 : ((n : Int) > 0) = (0 < n) := propext ⟨fun h => by omega, fun h => by omega⟩
    rw [List.drop_eq_getElem_cons hn, badN] at he
    generalize l[n] = c at cat hds he
    have hse := Ce.sz_eq c
    have h1 := logical_f (l := c.kids) (by omega)
    by_cases hp : 0 < n
    · by_cases h8 : c.k = 8
      · have hb : badN 0 l = true := by rw [he]; simp [hp, h8]
        simp only [b_norm_Norm_0, go_sem, Ce.cells, c1, cat, q1, eq_true hp, eq_true h8]
        exact Good.done (by rw [if_pos hb]; rfl)
      · cases hg : Ce.logL c.kids with
        | true =>
          rw [hg] at h1
          have hb : badN 0 l = true := by rw [he]; simp [hg]
          simp only [b_norm_Norm_0, go_sem, Ce.cells, c1, cat, q1, eq_true hp, eq_false h8, h1]
          exact Good.done (by rw [if_pos hb]; rfl)
        | false =>
          rw [hg] at h1
          simp only [b_norm_Norm_0, go_sem, Ce.cells, c1, cat, q1, eq_true hp, eq_false h8, h1, wrapN (n := n) (by omega)]
          exact hk _ _ ⟨_, _, rfl, rfl, by rw [he]; simp [hg, h8]⟩
    · cases hg : Ce.logL c.kids with
      | true =>
        rw [hg] at h1
        have hb : badN 0 l = true := by rw [he]; simp [hg]
        simp only [b_norm_Norm_0, go_sem, Ce.cells, c1, cat, q1, eq_false hp, h1]
        exact Good.done (by rw [if_pos hb]; rfl)
      | false =>
        rw [hg] at h1
        simp only [b_norm_Norm_0, go_sem, Ce.cells, c1, cat, q1, eq_false hp, h1, wrapN (n := n) (by omega)]
        exact hk _ _ ⟨_, _, rfl, rfl, by rw [he]; simp [hg, hp]⟩
  · rintro fr st ⟨bs, bts, rfl, rfl, he⟩ k
    rw [List.drop_eq_nil_of_le (i := l.length) (Nat.le_refl _), badN] at he
    rw [he, if_neg (by decide)]
    have hall : ∀ c ∈ l.map Ce.p, c.cells.length = 11 := fun e he => by
      obtain ⟨c, _, rfl⟩ := List.mem_map.1 he
      rw [Ce.p_cells]; rfl
    have take_ : ∀ (h : Nat), h ≤ l.length → lsubV 11 (.lst (l.map Ce.p)) none (some (.int .i64 (h : Int))) none = some (.lst ((l.take h).map Ce.p)) := fun h hh => by rw [List.map_take]; exact lsub_take rfl (by simpa using hh)
    have drop_ : ∀ (h : Nat), h ≤ l.length → lsubV 11 (.lst (l.map Ce.p)) (some (.int .i64 (h : Int))) none none = some (.lst ((l.drop h).map Ce.p)) := fun h hh => by rw [List.map_drop]; exact lsub_drop rfl (by simpa using hh) hall
    obtain ⟨h, hh, hhl, hcase⟩ : ∃ h : Nat, headN l = h ∧ h ≤ l.length ∧ ((l = [] ∧ h = 0) ∨ (∃ c r, l = c :: r ∧ c.k = 8 ∧ h = 1) ∨ ∃ c r, l = c :: r ∧ ¬ c.k = 8 ∧ h = 0) := by
      cases l with
      | nil => exact ⟨0, rfl, by simp, .inl ⟨rfl, rfl⟩⟩
      | cons c r =>
        by_cases h8 : c.k = 8
        · exact ⟨1, by simp [headN, h8], by simp, .inr (.inl ⟨c, r, rfl, h8, rfl⟩)⟩
        · exact ⟨0, by simp [headN, h8], by simp, .inr (.inr ⟨c, r, rfl, h8, rfl⟩)⟩
    rw [hh]
    have t1 := take_ h hhl
    have d1 := drop_ h hhl
    have a1 := nand_t (l.take h) (by have := Ce.szs_take_le l h; omega)
    have a2 := nand_t (l.drop h) (by have := Ce.szs_drop_le l h; omega)
    have ft := fun o (ho : andF (l.take h) = .ok o) => (all_fine _).2.1 _ _ _ (fun c hc => hf c (List.mem_of_mem_take hc)) fine_one ho
    have fd := fun o (ho : andF (l.drop h) = .ok o) => (all_fine _).2.1 _ _ _ (fun c hc => hf c (List.mem_of_mem_drop hc)) fine_one ho
    have st1 := fun o (ho : andF (l.take h) = .ok o) => (all_small _).2.1 _ _ _ small_one ho
    have sd := fun o (ho : andF (l.drop h) = .ok o) => (all_small _).2.1 _ _ _ small_one ho
    have e1 := fun e (ho : andF (l.take h) = .error e) => (all_err _).2.1 _ _ _ ho
    have e2 := fun e (ho : andF (l.drop h) = .error e) => (all_err _).2.1 _ _ _ ho
    have a1' : tupV (callE efns given) (.call 0 f_norm_and) [.lst ((l.take h).map Ce.p)] = some (rowsV (andF (l.take h))) := a1
    have a2' : tupV (callE efns given) (.call 0 f_norm_and) [.lst ((l.drop h).map Ce.p)] = some (rowsV (andF (l.drop h))) := a2
    clear a1 a2
    generalize l.take h = lt at t1 a1' ft st1 e1
    generalize l.drop h = ld at d1 a2' fd sd e2
    have hx : ((l.length : Int) > 0) = (0 < l.length) := propext ⟨fun h => by omega, fun h => by omega⟩
    rcases hcase with ⟨hl0, rfl⟩ | ⟨c, r, hl0, h8, rfl⟩ | ⟨c, r, hl0, h8, rfl⟩
    · have hpos : (0 < l.length) = False := eq_false (by rw [hl0]; simp)
      simp only [Int.natCast_zero] at t1 d1
      cases hm1 : andF lt with
      | error e =>
        rw [hm1] at a1'
        simp only [rowsV] at a1'
        simp only [b_norm_Norm_0, go_sem, Int.lt_irrefl, hx, hpos, t1, a1', eq_false (e1 e hm1), ne_eq, List.length_map]
        exact Good.done rfl
      | ok front =>
        rw [hm1] at a1'
        simp only [rowsV] at a1'
        cases hm2 : andF ld with
        | error e =>
          rw [hm2] at a2'
          simp only [rowsV] at a2'
          simp only [b_norm_Norm_0, go_sem, Int.lt_irrefl, hx, hpos, t1, d1, a1', a2', eq_false (e2 e hm2), ne_eq, List.length_map]
          exact Good.done rfl
        | ok behind =>
          rw [hm2] at a2'
          simp only [rowsV] at a2'
          simp only [b_norm_Norm_0, go_sem, Int.lt_irrefl, hx, hpos, t1, d1, a1', a2', ne_eq, List.length_map]
          refine norm_tail (st1 _ hm1) (sd _ hm2) (ft _ hm1) (fd _ hm2) ?_ ?_
          · intro o xo rows rt st ho hO
            simp only [go_sem]
            exact Good.done (by rw [ho]; exact ret_tup (mS (hO.shutR _ _) (mS rfl mN)))
          · intro e s ho
            simp only [go_sem]
            exact Good.done (by rw [ho]; rfl)
    · have hpos : (0 < l.length) = True := eq_true (by rw [hl0]; simp)
      have hat : evIdx 11 (l.map Ce.p) 0 = some (.ref c.cells) := by
        have := Ce.at_ (l := l) (n := 0) (by rw [hl0]; simp)
        simpa [hl0] using this
      simp only [Int.natCast_one] at t1 d1
      cases hm1 : andF lt with
      | error e =>
        rw [hm1] at a1'
        simp only [rowsV] at a1'
        simp only [b_norm_Norm_0, go_sem, Int.lt_irrefl, hx, hpos, hat, Ce.cells, eq_true h8, t1, a1', eq_false (e1 e hm1), ne_eq, List.length_map]
        exact Good.done rfl
      | ok front =>
        rw [hm1] at a1'
        simp only [rowsV] at a1'
        cases hm2 : andF ld with
        | error e =>
          rw [hm2] at a2'
          simp only [rowsV] at a2'
          simp only [b_norm_Norm_0, go_sem, Int.lt_irrefl, hx, hpos, hat, Ce.cells, eq_true h8, t1, d1, a1', a2', eq_false (e2 e hm2), ne_eq, List.length_map]
          exact Good.done rfl
        | ok behind =>
          rw [hm2] at a2'
          simp only [rowsV] at a2'
          simp only [b_norm_Norm_0, go_sem, Int.lt_irrefl, hx, hpos, hat, Ce.cells, eq_true h8, t1, d1, a1', a2', ne_eq, List.length_map]
          refine norm_tail (st1 _ hm1) (sd _ hm2) (ft _ hm1) (fd _ hm2) ?_ ?_
          · intro o xo rows rt st ho hO
            simp only [go_sem]
            exact Good.done (by rw [ho]; exact ret_tup (mS (hO.shutR _ _) (mS rfl mN)))
          · intro e s ho
            simp only [go_sem]
            exact Good.done (by rw [ho]; rfl)
    · have hpos : (0 < l.length) = True := eq_true (by rw [hl0]; simp)
      have hat : evIdx 11 (l.map Ce.p) 0 = some (.ref c.cells) := by
        have := Ce.at_ (l := l) (n := 0) (by rw [hl0]; simp)
        simpa [hl0] using this
      simp only [Int.natCast_zero] at t1 d1
      cases hm1 : andF lt with
      | error e =>
        rw [hm1] at a1'
        simp only [rowsV] at a1'
        simp only [b_norm_Norm_0, go_sem, Int.lt_irrefl, hx, hpos, hat, Ce.cells, eq_false h8, t1, a1', eq_false (e1 e hm1), ne_eq, List.length_map]
        exact Good.done rfl
      | ok front =>
        rw [hm1] at a1'
        simp only [rowsV] at a1'
        cases hm2 : andF ld with
        | error e =>
          rw [hm2] at a2'
          simp only [rowsV] at a2'
          simp only [b_norm_Norm_0, go_sem, Int.lt_irrefl, hx, hpos, hat, Ce.cells, eq_false h8, t1, d1, a1', a2', eq_false (e2 e hm2), ne_eq, List.length_map]
          exact Good.done rfl
        | ok behind =>
          rw [hm2] at a2'
          simp only [rowsV] at a2'
          simp only [b_norm_Norm_0, go_sem, Int.lt_irrefl, hx, hpos, hat, Ce.cells, eq_false h8, t1, d1, a1', a2', ne_eq, List.length_map]
          refine norm_tail (st1 _ hm1) (sd _ hm2) (ft _ hm1) (fd _ hm2) ?_ ?_
          · intro o xo rows rt st ho hO
            simp only [go_sem]
            exact Good.done (by rw [ho]; exact ret_tup (mS (hO.shutR _ _) (mS rfl mN)))
          · intro e s ho
            simp only [go_sem]
            exact Good.done (by rw [ho]; rfl)
  · exact ⟨[], [], rfl, rfl, rfl⟩
end Go.Proofs.YtgjklaobjnjhpaaGreatPe.Normz

