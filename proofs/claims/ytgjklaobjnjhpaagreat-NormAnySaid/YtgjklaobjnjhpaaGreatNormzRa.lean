/- A part of the proof of this folder's statement; it has no condition of its own. -/
import Derived.Test.YtgjklaobjnjhpaaGreatNormzMod
import Derived.KernelRfl
/- The document's lists, templates, patterns: small functions. -/
set_option linter.unusedVariables false
set_option linter.unusedSimpArgs false
set_option maxRecDepth 100000
namespace Go.Proofs.YtgjklaobjnjhpaaGreatPe.Normz
open Go Go.Proofs Go.Proofs.YtgjklaobjnjhpaaGreatPe Go.Proofs.YtgjklaobjnjhpaaGreatPe.NormzCode

/-! ### Plain -/
def sChar : List UInt8 := [99, 104, 97, 114]
def wrongV (pos e : Int) : PV := .agg [.lst [.agg [.str sChar, .int .i64 pos]], .int .i64 e]
def noneW : PV := .agg [.lst [], .int .i64 0]
def symN (s : List UInt8) : Nd := .mk 2 0 0 s []
def headM (n : Nd) : List UInt8 := if n.k = 0 then (match n.kids with
  | x :: _ => if x.k = 2 then x.s else []
  | [] => []) else []
def valM (n : Nd) : Option Vl := if n.k = 1 ∨ n.k = 2 ∨ n.k = 3 then some ⟨n.k, n.i, n.s⟩ else none
def valV : Option Vl → PV
  | some v => .tuple [v.p, .bool true]
  | none => .tuple [Vl.p ⟨0, 0, []⟩, .bool false]
def idxI : Option Nat → Int
  | some i => i
  | none => -1
def findM (l : List Tm) (s : List UInt8) : Option Nat := l.findIdx? fun t => decide (t.name = s)
def slotM (t : Tm) (s : List UInt8) : Option Nat := t.l.findIdx? fun x => decide (x.name = s)
theorem first_some {α : Type} {p : α → Bool} {l : List α} {n : Nat} (hn : n < l.length) (h : ∀ j (hj : j < l.length), j < n → p l[j] = false) (hp : p l[n] = true) : l.findIdx? p = some n := by
  rw [List.findIdx?_eq_some_iff_getElem]
  exact ⟨hn, hp, fun j hj => by rw [h j (by omega) hj]; decide⟩
theorem first_none {α : Type} {p : α → Bool} {l : List α} (h : ∀ j (hj : j < l.length), p l[j] = false) : l.findIdx? p = none := by
  rw [List.findIdx?_eq_none_iff]
  intro x hx
  obtain ⟨j, hj, rfl⟩ := List.getElem_of_mem hx
  exact h j hj
theorem before_succ {α : Type} {p : α → Bool} {l : List α} {n : Nat} (hn : n < l.length) (h : ∀ j (hj : j < l.length), j < n → p l[j] = false) (hp : p l[n] = false) : ∀ j (hj : j < l.length), j < n + 1 → p l[j] = false := by
  intro j hj hlt
  by_cases e : j = n
  · subst e; exact hp
  · exact h j hj (by omega)

/-! ### Of the document's lists -/
theorem at_t {p e : Int} : tupV (callE efns given) (.call 0 f_ref5_At) [.str sChar, .int .i64 p, .int .i64 e] = some (wrongV p e) := by
  refine call_good (f := f_ref5_At) rfl ?_
  rw [callE_fn efns given (c := e_ref5_At) rfl rfl]
  simp only [e_ref5_At, go_sem, V_bs1]
  exact Good.done rfl
theorem symN_t {s : List UInt8} : tupV (callE efns given) (.call 0 f_ref5_Sym) [.str s] = some (symN s).p := by
  refine call_good (f := f_ref5_Sym) rfl ?_
  rw [callE_fn efns given (c := e_ref5_Sym) rfl rfl, Nd.p_eq]
  simp only [e_ref5_Sym, go_sem]
  exact Good.done rfl
theorem Nd.at_ {l : List Nd} {n : Nat} (h : n < l.length) : evIdx 5 (l.map Nd.p) (n : Int) = some (.ref l[n].cells) := by
  rw [← Nd.p_cells]
  exact idx_of (map_at h) (by rw [Nd.p_cells]; rfl)
theorem Nd.at0 {x : Nd} {l : List Nd} : evIdx 5 (x.p :: l.map Nd.p) 0 = some (.ref x.cells) := Nd.at_ (l := x :: l) (n := 0) (Nat.succ_pos _)
theorem head_t (n : Nd) : tupV (callE efns given) (.call 0 f_ref5_Head) [n.p] = some (.str (headM n)) := by
  rw [Nd.p_eq]
  refine call_good (f := f_ref5_Head) rfl ?_
  rw [callE_fn efns given (c := e_ref5_Head) rfl rfl]
  unfold headM
  by_cases h0 : n.k = 0
  · cases hk : n.kids with
    | nil =>
      simp only [e_ref5_Head, go_sem, Nd.cells, h0, hk]
      exact Good.done rfl
    | cons x l =>
      by_cases h2 : x.k = 2
      · simp only [e_ref5_Head, go_sem, Nd.cells, h0, hk, h2, show (0 : Int) < ((List.map Nd.p l).length + 1 : Nat) from by omega, gt_iff_lt, Nd.at0]
        exact Good.done rfl
      · simp only [e_ref5_Head, go_sem, Nd.cells, h0, hk, h2, show (0 : Int) < ((List.map Nd.p l).length + 1 : Nat) from by omega, gt_iff_lt, Nd.at0]
        exact Good.done rfl
  · simp only [e_ref5_Head, go_sem, Nd.cells, h0]
    exact Good.done rfl
theorem value_t (n : Nd) : tupV (callE efns given) (.call 0 f_ref5_Value) [n.p] = some (valV (valM n)) := by
  rw [Nd.p_eq]
  refine call_good (f := f_ref5_Value) rfl ?_
  rw [callE_fn efns given (c := e_ref5_Value) rfl rfl]
  unfold valM
  by_cases h1 : n.k = 1
  · simp only [e_ref5_Value, go_sem, Nd.cells, h1]
    exact Good.done rfl
  · by_cases h2 : n.k = 2
    · simp only [e_ref5_Value, go_sem, Nd.cells, h2]
      exact Good.done rfl
    · by_cases h3 : n.k = 3
      · simp only [e_ref5_Value, go_sem, Nd.cells, h3]
        exact Good.done rfl
      · simp only [e_ref5_Value, go_sem, Nd.cells, h1, h2, h3]
        exact Good.done rfl
theorem nsame_t : ∀ (m : Nat) (a b : Nd), a.sz ≤ m → m ≤ 1000000 → tupV (callE efns given) (.call 0 f_ref5_Same) [a.p, b.p] = some (.bool (Nd.same a b)) := by
  intro m
  induction m with
  | zero => intro a b h; rw [Nd.sz_eq] at h; omega
  | succ m ih =>
    intro a b hm hle
    have hkl := Nd.len_sz a.kids
    have hsz := Nd.sz_eq a
    rw [Nd.p_eq, Nd.p_eq, Nd.same_eq]
    refine call_good (f := f_ref5_Same) rfl ?_
    rw [callE_fn efns given (c := e_ref5_Same) rfl rfl]
    by_cases h1 : a.k = b.k
    · by_cases h2 : a.i = b.i
      · by_cases h3 : a.s = b.s
        · by_cases h4 : a.kids.length = b.kids.length
          · have h4' : ((a.kids.length : Int) = (b.kids.length : Int)) = True := eq_true (by omega)
            simp only [e_ref5_Same, go_sem, Nd.cells, eq_true h1, eq_true h2, eq_true h3, h4', List.length_map, ne_eq, Bool.true_and]
            refine Good.for a.kids.length (fun n fr st => fr = [.undef, .undef, .ptr 0 0, .ptr 1 0, .int .i64 (n : Int), .undef, .undef, .undef, .undef, .undef, .undef, .undef, .undef, .undef, .undef, .undef, .undef, .undef, .undef, .undef] ∧
              st = ⟨[a.cells, b.cells], [], [T_ref5_Same_0, T_ref5_Same_0], []⟩ ∧ Nd.sames a.kids b.kids = Nd.sames (a.kids.drop n) (b.kids.drop n)) ?_ ?_ ?_
            · rintro n fr st hn ⟨rfl, rfl, he⟩ k hk
              have hn' : n < b.kids.length := by omega
              have c1 : ((n : Int) < (a.kids.length : Int)) = True := eq_true (by omega)
              have hs := ih a.kids[n] b.kids[n] (by have := Nd.sz_kid (List.getElem_mem hn); omega) (by omega)
              rw [Nd.p_eq, Nd.p_eq] at hs
              rw [List.drop_eq_getElem_cons hn, List.drop_eq_getElem_cons hn', Nd.sames] at he
              cases hb : Nd.same a.kids[n] b.kids[n] with
              | true =>
                rw [hb, Bool.true_and] at he
                rw [hb] at hs
                simp only [Nd.cells] at hs
                simp only [b_ref5_Same_0, go_sem, Nd.cells, Nd.at_ hn, Nd.at_ hn', List.length_map, c1, hs, wrapN (n := n) (by omega)]
                exact hk _ _ ⟨rfl, rfl, he⟩
              | false =>
                rw [hb, Bool.false_and] at he
                rw [hb] at hs
                simp only [Nd.cells] at hs
                simp only [b_ref5_Same_0, go_sem, Nd.cells, Nd.at_ hn, Nd.at_ hn', List.length_map, c1, hs]
                exact Good.done (by rw [he]; rfl)
            · rintro fr st ⟨rfl, rfl, he⟩ k
              simp only [b_ref5_Same_0, go_sem, Nd.cells, List.length_map, Int.lt_irrefl]
              refine Good.done ?_
              rw [List.drop_eq_nil_of_le (Nat.le_refl _), h4, List.drop_eq_nil_of_le (Nat.le_refl _)] at he
              rw [he]; rfl
            · exact ⟨rfl, rfl, rfl⟩
          · have h4' : ¬ ((a.kids.length : Int) = (b.kids.length : Int)) := by omega
            have h5 : Nd.sames a.kids b.kids = false := by
              cases hs : Nd.sames a.kids b.kids with
              | false => rfl
              | true => exact absurd (Nd.sames_len hs) h4
            simp only [e_ref5_Same, go_sem, Nd.cells, h1, h2, h3, h4', h5, List.length_map, ne_eq]
            exact Good.done rfl
        · simp only [e_ref5_Same, go_sem, Nd.cells, h1, h2, h3, ne_eq, Bool.false_and, Bool.and_false]
          exact Good.done rfl
      · simp only [e_ref5_Same, go_sem, Nd.cells, h1, h2, ne_eq, Bool.false_and, Bool.and_false]
        exact Good.done rfl
    · simp only [e_ref5_Same, go_sem, Nd.cells, h1, ne_eq, Bool.false_and, Bool.and_false]
      exact Good.done rfl

/-! ### Templates -/
theorem Tm.at_ {l : List Tm} {n : Nat} (h : n < l.length) : evIdx 2 (l.map Tm.p) (n : Int) = some (.ref l[n].cells) := idx_of (e := l[n].p) (map_at h) rfl
theorem Sl.at_ {l : List Sl} {n : Nat} (h : n < l.length) : evIdx 4 (l.map Sl.p) (n : Int) = some (.ref l[n].cells) := idx_of (e := l[n].p) (map_at h) rfl
theorem find_t {l : List Tm} (hl : l.length ≤ 1000000) (s : List UInt8) : tupV (callE efns given) (.call 0 f_ref9_Find) [.lst (l.map Tm.p), .str s] = some (.int .i64 (idxI (findM l s))) := by
  refine call_good (f := f_ref9_Find) rfl ?_
  rw [callE_fn efns given (c := e_ref9_Find) rfl rfl]
  simp only [e_ref9_Find, go_sem]
  refine Good.for l.length (fun n fr st => fr = [.lst (l.map Tm.p), .str s, .int .i64 (n : Int)] ∧ ∀ j (hj : j < l.length), j < n → decide (l[j].name = s) = false) ?_ ?_ ?_
  · rintro n fr st hn ⟨rfl, he⟩ k hk
    have c1 : ((n : Int) < (l.length : Int)) = True := eq_true (by omega)
    by_cases hs : l[n].name = s
    · simp only [b_ref9_Find_0, go_sem, Tm.at_ hn, Tm.cells, List.length_map, c1, hs]
      refine Good.done ?_
      unfold findM
      rw [first_some hn he (by simp [hs])]
      rfl
    · simp only [b_ref9_Find_0, go_sem, Tm.at_ hn, Tm.cells, List.length_map, c1, hs, wrapN (n := n) (by omega)]
      exact hk _ _ ⟨rfl, before_succ (p := fun t : Tm => decide (t.name = s)) hn he (by simp [hs])⟩
  · rintro fr st ⟨rfl, he⟩ k
    simp only [b_ref9_Find_0, go_sem, List.length_map, Int.lt_irrefl]
    refine Good.done ?_
    unfold findM
    rw [first_none fun j hj => he j hj hj]
    rfl
  · exact ⟨rfl, fun j _ h => absurd h (Nat.not_lt_zero _)⟩
theorem slot_t {t : Tm} (hl : t.l.length ≤ 1000000) (s : List UInt8) : tupV (callE efns given) (.call 0 f_ref9_Template_Slot) [.agg [.str t.name, .lst (t.l.map Sl.p)], .str s] = some (.int .i64 (idxI (slotM t s))) := by
  refine call_good (f := f_ref9_Template_Slot) rfl ?_
  rw [callE_fn efns given (c := e_ref9_Template_Slot) rfl rfl]
  simp only [e_ref9_Template_Slot, go_sem]
  refine Good.for t.l.length (fun n fr st => fr = [.undef, .str s, .ptr 0 0, .int .i64 (n : Int), .undef, .undef] ∧ st = ⟨[t.cells], [], [T_ref9_Template_Slot_0], []⟩ ∧ ∀ j (hj : j < t.l.length), j < n → decide (t.l[j].name = s) = false) ?_ ?_ ?_
  · rintro n fr st hn ⟨rfl, rfl, he⟩ k hk
    have c1 : ((n : Int) < (t.l.length : Int)) = True := eq_true (by omega)
    by_cases hs : t.l[n].name = s
    · simp only [b_ref9_Template_Slot_0, go_sem, Tm.cells, Sl.at_ hn, Sl.cells, List.length_map, c1, hs]
      refine Good.done ?_
      unfold slotM
      rw [first_some hn he (by simp [hs])]
      rfl
    · simp only [b_ref9_Template_Slot_0, go_sem, Tm.cells, Sl.at_ hn, Sl.cells, List.length_map, c1, hs, wrapN (n := n) (by omega)]
      exact hk _ _ ⟨rfl, rfl, before_succ (p := fun x : Sl => decide (x.name = s)) hn he (by simp [hs])⟩
  · rintro fr st ⟨rfl, rfl, he⟩ k
    simp only [b_ref9_Template_Slot_0, go_sem, Tm.cells, List.length_map, Int.lt_irrefl]
    refine Good.done ?_
    unfold slotM
    rw [first_none fun j hj => he j hj hj]
    rfl
  · exact ⟨rfl, rfl, fun j _ h => absurd h (Nat.not_lt_zero _)⟩
end Go.Proofs.YtgjklaobjnjhpaaGreatPe.Normz

/- The document's terms, words, built-in names. -/
set_option linter.unusedVariables false
set_option linter.unusedSimpArgs false
set_option maxRecDepth 100000
namespace Go.Proofs.YtgjklaobjnjhpaaGreatPe.Normz
open Go Go.Proofs Go.Proofs.YtgjklaobjnjhpaaGreatPe Go.Proofs.YtgjklaobjnjhpaaGreatPe.NormzCode

/-- What a call that is run to its end comes to. -/
def runIs (k : Nat) (f : FuncId) (xs : List PV) (r : PV) : Bool :=
  match evFE efns given k f xs ⟨[], [], [], []⟩ with
  | some (v, st) => match shutR false st shutN v with
    | some w => PV.same w r
    | none => false
  | none => false
theorem run_is {k : Nat} {f : FuncId} {xs ys : List PV} {r : PV} (h1 : mapO (shutA shutN) xs = some ys) (h : runIs k f ys r = true) : tupV (callE efns given) (.call 0 f) xs = some r := by
  unfold runIs at h
  split at h
  · rename_i v st he
    split at h
    · rename_i w hw
      rw [← PV.eq_of_same _ _ h]
      exact callV_of h1 ((callE_some efns given).2 ⟨k, he⟩) hw
    · cases h
  · cases h

/-! ### Words of conditions -/
def wordL : List (List UInt8) := [[], [], [116, 101, 115, 116], [110, 111, 116], [97, 110, 100], [111, 114], [101, 120, 105, 115, 116, 115], [102, 111, 114, 97, 108, 108], [108, 111, 103, 105, 99, 97, 108]]
def kindM (s : List UInt8) : Int := if s = [116, 101, 115, 116] then 2 else if s = [110, 111, 116] then 3 else if s = [97, 110, 100] then 4 else if s = [111, 114] then 5 else if s = [101, 120, 105, 115, 116, 115] then 6 else if s = [102, 111, 114, 97, 108, 108] then 7 else if s = [108, 111, 103, 105, 99, 97, 108] then 8 else 0
def wordOk (n : Nat) : Bool := runIs 5 f_ref12_word [.int .i64 (n : Int)] (.str (wordL.getD n []))
theorem word_t {n : Nat} (h : n < 9) : tupV (callE efns given) (.call 0 f_ref12_word) [.int .i64 (n : Int)] = some (.str (wordL.getD n [])) := by
  have hall : (List.range 9).all wordOk = true := by kernel_rfl
  exact run_is rfl (List.all_eq_true.1 hall n (List.mem_range.2 h))
theorem kind_t (s : List UInt8) : tupV (callE efns given) (.call 0 f_ref12_kind) [.str s] = some (.int .i64 (kindM s)) := by
  refine call_good (f := f_ref12_kind) rfl ?_
  rw [callE_fn efns given (c := e_ref12_kind) rfl rfl]
  simp only [e_ref12_kind, go_sem]
  refine Good.for 7 (fun n fr st => fr = [.str s, .int .i64 ((n + 2 : Nat) : Int)] ∧ ∀ j, j < n → ¬ wordL.getD (j + 2) [] = s) ?_ ?_ ?_
  · rintro n fr st hn ⟨rfl, he⟩ k hk
    have c1 : (((n + 2 : Nat) : Int) ≤ 8) = True := eq_true (by omega)
    by_cases hs : wordL.getD (n + 2) [] = s
    · simp only [b_ref12_kind_0, go_sem, word_t (n := n + 2) (by omega), c1, eq_true hs]
      refine Good.done ?_
      have : kindM s = ((n + 2 : Nat) : Int) := by
        rw [← hs]
        match n, hn with
        | 0, _ => rfl
        | 1, _ => rfl
        | 2, _ => rfl
        | 3, _ => rfl
        | 4, _ => rfl
        | 5, _ => rfl
        | 6, _ => rfl
      rw [this]; rfl
    · simp only [b_ref12_kind_0, go_sem, word_t (n := n + 2) (by omega), c1, eq_false hs, wrapN (n := n + 2) (by omega)]
      refine hk _ _ ⟨rfl, fun j hj => ?_⟩
      by_cases e : j = n
      · subst e; exact hs
      · exact he j (by omega)
  · rintro fr st ⟨rfl, he⟩ k
    simp only [b_ref12_kind_0, go_sem, show (((7 + 2 : Nat) : Int) ≤ 8) = False from eq_false (by omega)]
    refine Good.done ?_
    have h0 := he 0 (by omega); have h1 := he 1 (by omega); have h2 := he 2 (by omega); have h3 := he 3 (by omega); have h4 := he 4 (by omega); have h5 := he 5 (by omega); have h6 := he 6 (by omega)
    have : kindM s = 0 := by
      unfold kindM
      rw [if_neg (fun e => h0 e.symm), if_neg (fun e => h1 e.symm), if_neg (fun e => h2 e.symm), if_neg (fun e => h3 e.symm), if_neg (fun e => h4 e.symm), if_neg (fun e => h5 e.symm), if_neg (fun e => h6 e.symm)]
    rw [this]; rfl
  · exact ⟨rfl, fun j h => absurd h (Nat.not_lt_zero _)⟩

/-! ### Built-in names -/
def namesL : List (List UInt8) := [[42], [43], [45], [60], [60, 61], [60, 62], [61], [62], [62, 61], [97, 98, 115], [100, 105, 118], [101, 113], [108, 101, 110, 103, 116, 104], [109, 97, 120], [109, 105, 110], [109, 111, 100], [110, 101, 113], [110, 111, 116], [115, 116, 114, 45, 99, 97, 116], [115, 121, 109, 45, 99, 97, 116], [116, 121, 112, 101]]
theorem names_t : tupV (callE efns given) (.call 0 f_ref6_Names) [] = some (.lst (namesL.map .str)) := run_is (k := 5) rfl (by kernel_rfl)
theorem str_at {l : List (List UInt8)} {n : Nat} (h : n < l.length) : evIdx 1 (l.map PV.str) (n : Int) = some (.ref [.str l[n]]) := idx_of (e := .str l[n]) (map_at h) rfl
theorem rknown_t (s : List UInt8) : tupV (callE efns given) (.call 0 f_ref6_Known) [.str s] = some (.bool (namesL.contains s)) := by
  refine call_good (f := f_ref6_Known) rfl ?_
  rw [callE_fn efns given (c := e_ref6_Known) rfl rfl]
  simp only [e_ref6_Known, go_sem, names_t]
  generalize hL : namesL = L
  have hlen : L.length = 21 := by rw [← hL]; rfl
  refine Good.for L.length (fun n fr st => fr = [.str s, .lst (L.map .str), .int .i64 (n : Int)] ∧ ∀ j (hj : j < L.length), j < n → ¬ L[j] = s) ?_ ?_ ?_
  · rintro n fr st hn ⟨rfl, he⟩ k hk
    have c1 : ((n : Int) < (L.length : Int)) = True := eq_true (by omega)
    by_cases hs : L[n] = s
    · simp only [b_ref6_Known_0, go_sem, str_at hn, List.length_map, c1, eq_true hs]
      refine Good.done ?_
      have : L.contains s = true := List.contains_iff_mem.2 (hs ▸ List.getElem_mem hn)
      rw [this]; rfl
    · simp only [b_ref6_Known_0, go_sem, str_at hn, List.length_map, c1, eq_false hs, wrapN (n := n) (by omega)]
      refine hk _ _ ⟨rfl, fun j hj hlt => ?_⟩
      by_cases e : j = n
      · subst e; exact hs
      · exact he j hj (by omega)
  · rintro fr st ⟨rfl, he⟩ k
    simp only [b_ref6_Known_0, go_sem, List.length_map, Int.lt_irrefl]
    refine Good.done ?_
    have : L.contains s = false := by
      cases hc : L.contains s with
      | false => rfl
      | true =>
        obtain ⟨j, hj, e⟩ := List.getElem_of_mem (List.contains_iff_mem.1 hc)
        exact absurd e (he j hj hj)
    rw [this]; rfl
  · exact ⟨rfl, fun j _ h => absurd h (Nat.not_lt_zero _)⟩
/-- How many args a built-in may have: from, to (below nought: any). -/
def arityM (s : List UInt8) : Int × Int :=
  if s = [43] ∨ s = [42] ∨ s = [115, 116, 114, 45, 99, 97, 116] then (0, -1)
  else if s = [45] ∨ s = [109, 105, 110] ∨ s = [109, 97, 120] ∨ s = [115, 121, 109, 45, 99, 97, 116] then (1, -1)
  else if s = [60] ∨ s = [60, 61] ∨ s = [62] ∨ s = [62, 61] then (2, -1)
  else if s = [100, 105, 118] ∨ s = [109, 111, 100] ∨ s = [61] ∨ s = [60, 62] ∨ s = [101, 113] ∨ s = [110, 101, 113] then (2, 2)
  else if s = [97, 98, 115] ∨ s = [110, 111, 116] ∨ s = [108, 101, 110, 103, 116, 104] ∨ s = [116, 121, 112, 101] then (1, 1)
  else (0, 0)
def arityOk (s : List UInt8) : Bool := runIs 5 f_ref6_Arity [.str s] (.tuple [.int .i64 (arityM s).1, .int .i64 (arityM s).2])
theorem rarity_t (s : List UInt8) : tupV (callE efns given) (.call 0 f_ref6_Arity) [.str s] = some (.tuple [.int .i64 (arityM s).1, .int .i64 (arityM s).2]) := by
  have hall : namesL.all arityOk = true := by kernel_rfl
  by_cases hm : s ∈ namesL
  · exact run_is rfl (List.all_eq_true.1 hall s hm)
  · simp only [namesL, List.mem_cons, List.not_mem_nil, or_false, not_or] at hm
    obtain ⟨n0, n1, n2, n3, n4, n5, n6, n7, n8, n9, n10, n11, n12, n13, n14, n15, n16, n17, n18, n19, n20⟩ := hm
    refine call_good (f := f_ref6_Arity) rfl ?_
    rw [callE_fn efns given (c := e_ref6_Arity) rfl rfl]
    simp only [e_ref6_Arity, go_sem, n0, n1, n2, n3, n4, n5, n6, n7, n8, n9, n10, n11, n12, n13, n14, n15, n16, n17, n18, n19, n20]
    refine Good.done ?_
    have : arityM s = (0, 0) := by
      unfold arityM
      simp only [n0, n1, n2, n3, n4, n5, n6, n7, n8, n9, n10, n11, n12, n13, n14, n15, n16, n17, n18, n19, n20, or_self, if_false]
    rw [this]; rfl
def fitsM (s : List UInt8) (n : Int) : Bool := decide (n ≥ (arityM s).1) && (decide ((arityM s).2 < 0) || decide (n ≤ (arityM s).2))
theorem rfits_t (s : List UInt8) (n : Int) : tupV (callE efns given) (.call 0 f_ref6_Fits) [.str s, .int .i64 n] = some (.bool (fitsM s n)) := by
  refine call_good (f := f_ref6_Fits) rfl ?_
  rw [callE_fn efns given (c := e_ref6_Fits) rfl rfl]
  simp only [e_ref6_Fits, go_sem, rarity_t]
  exact Good.done rfl
/-- May a name have so many args? What is wrong. -/
def argsM (s : List UInt8) (n : Int) (funs : List Sg) : Int :=
  match funs.find? (fun g => decide (g.name = s)) with
  | some g => if g.n = n then 0 else 1
  | none => if namesL.contains s = false then 5 else if fitsM s n = false then 1 else 0
theorem Sg.at_ {l : List Sg} {n : Nat} (h : n < l.length) : evIdx 2 (l.map Sg.p) (n : Int) = some (.ref l[n].cells) := idx_of (e := l[n].p) (map_at h) rfl
theorem find_some {α : Type} {p : α → Bool} {l : List α} {n : Nat} (hn : n < l.length) (h : ∀ j (hj : j < l.length), j < n → p l[j] = false) (hp : p l[n] = true) : l.find? p = some l[n] := by
  rw [List.find?_eq_some_iff_getElem]
  exact ⟨hp, n, hn, rfl, fun j hj => by rw [h j (by omega) hj]; rfl⟩
theorem find_none {α : Type} {p : α → Bool} {l : List α} (h : ∀ j (hj : j < l.length), p l[j] = false) : l.find? p = none := by
  rw [List.find?_eq_none]
  intro x hx
  obtain ⟨j, hj, rfl⟩ := List.getElem_of_mem hx
  rw [h j hj]; decide
theorem args_t {s : List UInt8} {n : Int} {l : List Sg} (hl : l.length ≤ 1000000) : tupV (callE efns given) (.call 0 f_ref7_args) [.str s, .int .i64 n, .lst (l.map Sg.p)] = some (.int .i64 (argsM s n l)) := by
  refine call_good (f := f_ref7_args) rfl ?_
  rw [callE_fn efns given (c := e_ref7_args) rfl rfl]
  simp only [e_ref7_args, go_sem]
  refine Good.for l.length (fun i fr st => fr = [.str s, .int .i64 n, .lst (l.map Sg.p), .int .i64 (i : Int)] ∧ ∀ j (hj : j < l.length), j < i → decide (l[j].name = s) = false) ?_ ?_ ?_
  · rintro i fr st hi ⟨rfl, he⟩ k hk
    have c1 : ((i : Int) < (l.length : Int)) = True := eq_true (by omega)
    by_cases hs : l[i].name = s
    · have hf : argsM s n l = if l[i].n = n then 0 else 1 := by
        unfold argsM
        rw [find_some (p := fun g : Sg => decide (g.name = s)) hi he (by simp [hs])]
      by_cases hn : l[i].n = n
      · simp only [b_ref7_args_0, go_sem, Sg.at_ hi, Sg.cells, List.length_map, c1, eq_true hs, eq_true hn, ne_eq]
        exact Good.done (by rw [hf, if_pos hn]; rfl)
      · simp only [b_ref7_args_0, go_sem, Sg.at_ hi, Sg.cells, List.length_map, c1, eq_true hs, eq_false hn, ne_eq]
        exact Good.done (by rw [hf, if_neg hn]; rfl)
    · simp only [b_ref7_args_0, go_sem, Sg.at_ hi, Sg.cells, List.length_map, c1, eq_false hs, wrapN (n := i) (by omega)]
      exact hk _ _ ⟨rfl, before_succ (p := fun g : Sg => decide (g.name = s)) hi he (by simp [hs])⟩
  · rintro fr st ⟨rfl, he⟩ k
    have hf : argsM s n l = if namesL.contains s = false then 5 else if fitsM s n = false then 1 else 0 := by
      unfold argsM
      rw [find_none (p := fun g : Sg => decide (g.name = s)) fun j hj => he j hj hj]
    rw [hf]
    cases h1 : namesL.contains s with
    | false =>
      simp only [b_ref7_args_0, go_sem, List.length_map, Int.lt_irrefl, rknown_t, h1]
      exact Good.done rfl
    | true => cases h2 : fitsM s n with
      | false =>
        simp only [b_ref7_args_0, go_sem, List.length_map, Int.lt_irrefl, rknown_t, rfits_t, h1, h2]
        exact Good.done rfl
      | true =>
        simp only [b_ref7_args_0, go_sem, List.length_map, Int.lt_irrefl, rknown_t, rfits_t, h1, h2]
        exact Good.done rfl
  · exact ⟨rfl, fun j _ h => absurd h (Nat.not_lt_zero _)⟩
def zEx : PV := .agg [.int .i64 0, .int .i64 0, .int .i64 0, .str [], .str [], .lst []]
theorem wrong_t (n : Nd) (e : Int) : tupV (callE efns given) (.call 0 f_ref7_wrong) [n.p, .int .i64 e] = some (.tuple [zEx, wrongV n.pos e]) := by
  rw [Nd.p_eq]
  refine call_good (f := f_ref7_wrong) rfl ?_
  rw [callE_fn efns given (c := e_ref7_wrong) rfl rfl]
  have h := at_t (p := n.pos) (e := e)
  unfold sChar wrongV at h
  simp only [e_ref7_wrong, go_sem, Nd.cells, h]
  exact Good.done rfl

/-! ### Terms -/
def termM : Nat → Nd → Option Ts
  | 0, _ => none
  | f + 1, n => if n.k = 8 then (match n.kids with
      | [y] => (termM f y).map fun t => { t with neg := true }
      | _ => none) else if n.k = 6 then some ⟨0, false, n.s, ⟨0, 0, []⟩⟩ else (valM n).map fun v => ⟨0, false, [], v⟩
def termQ (o : Option Ts) (r : PV) : Prop := ∃ t, r = .tuple [Ts.p t, .bool o.isSome] ∧ ∀ u, o = some u → t = u
theorem term_t : ∀ (m : Nat) (n : Nd), n.sz ≤ m → ∃ r, tupV (callE efns given) (.call 0 f_ref11_term) [n.p] = some r ∧ termQ (termM m n) r := by
  intro m
  induction m with
  | zero => intro n h; rw [Nd.sz_eq] at h; omega
  | succ m ih =>
    intro n hm
    have hsz := Nd.sz_eq n
    rw [Nd.p_eq]
    unfold termM
    by_cases h8 : n.k = 8
    · rw [if_pos h8]
      cases hk : n.kids with
      | nil =>
        have hv : valM n = none := by unfold valM; rw [h8]; rfl
        have ht := value_t n
        rw [hv, Nd.p_eq] at ht
        refine call_someG (f := f_ref11_term) rfl ?_
        rw [callE_fn efns given (c := e_ref11_term) rfl rfl]
        simp only [Nd.cells, valV, h8, hk, List.map_nil] at ht
        simp only [e_ref11_term, go_sem, Nd.cells, h8, hk, ht]
        exact Good.done ⟨_, rfl, ⟨0, false, [], ⟨0, 0, []⟩⟩, rfl, fun u h => by cases h⟩
      | cons y l =>
        cases l with
        | nil =>
          have hy : y.sz ≤ m := by rw [hk] at hsz; simp only [Nd.szs] at hsz; omega
          obtain ⟨r, hr, t, rfl, hq⟩ := ih y hy
          rw [Nd.p_eq] at hr
          refine call_someG (f := f_ref11_term) rfl ?_
          rw [callE_fn efns given (c := e_ref11_term) rfl rfl]
          simp only [Nd.cells, Ts.p, Ts.cells] at hr
          have h0 := Nd.at0 (x := y) (l := [])
          simp only [List.map_nil] at h0
          simp only [e_ref11_term, go_sem, Nd.cells, h8, hk, h0, hr]
          refine Good.done ⟨_, rfl, { t with neg := true }, ?_, fun u h => ?_⟩
          · cases termM m y <;> rfl
          · cases ho : termM m y with
            | none => rw [ho] at h; cases h
            | some w => rw [ho] at h; rw [hq w ho]; exact Option.some.inj h
        | cons z l =>
          have hv : valM n = none := by unfold valM; rw [h8]; rfl
          have ht := value_t n
          rw [hv, Nd.p_eq] at ht
          refine call_someG (f := f_ref11_term) rfl ?_
          rw [callE_fn efns given (c := e_ref11_term) rfl rfl]
          simp only [Nd.cells, valV, h8, hk, List.map_nil] at ht
          have hl : (((List.map Nd.p l).length + 1 + 1 : Nat) : Int) = 1 ↔ False := ⟨fun h => by omega, False.elim⟩
          simp only [List.map_cons] at ht
          simp only [e_ref11_term, go_sem, Nd.cells, h8, hk, ht, hl]
          exact Good.done ⟨_, rfl, ⟨0, false, [], ⟨0, 0, []⟩⟩, rfl, fun u h => by cases h⟩
    · rw [if_neg h8]
      by_cases h6 : n.k = 6
      · rw [if_pos h6]
        refine call_someG (f := f_ref11_term) rfl ?_
        rw [callE_fn efns given (c := e_ref11_term) rfl rfl]
        simp only [e_ref11_term, go_sem, Nd.cells, h6]
        exact Good.done ⟨_, rfl, _, rfl, fun u h => Option.some.inj h⟩
      · rw [if_neg h6]
        have ht := value_t n
        rw [Nd.p_eq] at ht
        refine call_someG (f := f_ref11_term) rfl ?_
        rw [callE_fn efns given (c := e_ref11_term) rfl rfl]
        cases hv : valM n with
        | none =>
          rw [hv] at ht
          simp only [Nd.cells, valV] at ht
          simp only [e_ref11_term, go_sem, Nd.cells, h6, h8, ht]
          exact Good.done ⟨_, rfl, ⟨0, false, [], ⟨0, 0, []⟩⟩, rfl, fun u h => by cases h⟩
        | some v =>
          rw [hv] at ht
          simp only [Nd.cells, valV] at ht
          simp only [e_ref11_term, go_sem, Nd.cells, h6, h8, ht]
          exact Good.done ⟨_, rfl, ⟨0, false, [], v⟩, rfl, fun u h => Option.some.inj h⟩
end Go.Proofs.YtgjklaobjnjhpaaGreatPe.Normz

/- The document's patterns. -/
set_option linter.unusedVariables false
set_option linter.unusedSimpArgs false
set_option maxRecDepth 100000
namespace Go.Proofs.YtgjklaobjnjhpaaGreatPe.Normz
open Go Go.Proofs Go.Proofs.YtgjklaobjnjhpaaGreatPe Go.Proofs.YtgjklaobjnjhpaaGreatPe.NormzCode

abbrev Er (α : Type) := Except (Int × Int) α
def testsM (t : Tm) : List Nd → List Ts → Er (List Ts)
  | [], acc => .ok acc
  | x :: r, acc => if headM x = [] then .error (x.pos, 2) else match x.kids with
    | [_, y] => match slotM t (headM x) with
      | none => .error (x.pos, 5)
      | some i => if acc.any (fun u => decide (u.slot = (i : Int))) = true then .error (x.pos, 6) else match termM y.sz y with
        | none => .error (x.pos, 2)
        | some u => testsM t r (acc ++ [{ u with slot := i }])
    | _ => .error (x.pos, 2)
def patM (n : Nd) (l : List Tm) : Er Pt :=
  if headM n = [] then .error (n.pos, 2) else match findM l (headM n) with
    | none => .error (n.pos, 5)
    | some k => match testsM (l.getD k ⟨[], []⟩) (n.kids.drop 1) [] with
      | .error e => .error e
      | .ok ts => .ok ⟨headM n, ts⟩
def patV : Er Pt → PV
  | .ok p => .tuple [p.p, noneW]
  | .error e => .tuple [Pt.p ⟨[], []⟩, wrongV e.1 e.2]

theorem headM_ne {n : Nd} (h : ¬ headM n = []) : n.k = 0 ∧ ∃ x l, n.kids = x :: l ∧ x.k = 2 ∧ headM n = x.s := by
  unfold headM at h ⊢
  by_cases h0 : n.k = 0
  · rw [if_pos h0] at h ⊢
    refine ⟨h0, ?_⟩
    cases hk : n.kids with
    | nil => rw [hk] at h; exact absurd rfl h
    | cons x l =>
      rw [hk] at h
      simp only at h ⊢
      by_cases h2 : x.k = 2
      · exact ⟨x, l, rfl, h2, if_pos h2⟩
      · rw [if_neg h2] at h; exact absurd rfl h
  · rw [if_neg h0] at h; exact absurd rfl h

theorem pat_t (n : Nd) (l : List Tm) (hl : l.length ≤ 1000000) (hts : ∀ t ∈ l, t.l.length ≤ 1000000) (hn : n.sz ≤ 1000000) : tupV (callE efns given) (.call 0 f_ref11_Parse) [n.p, .lst (l.map Tm.p)] = some (patV (patM n l)) := by
  have hh := head_t n
  have hkl := Nd.len_sz n.kids
  have hsz := Nd.sz_eq n
  rw [Nd.p_eq] at hh ⊢
  refine call_good (f := f_ref11_Parse) rfl ?_
  rw [callE_fn efns given (c := e_ref11_Parse) rfl rfl]
  unfold patM
  simp only [Nd.cells] at hh
  have hat := fun p e => at_t (p := p) (e := e)
  unfold sChar wrongV at hat
  by_cases h1 : headM n = []
  · rw [h1] at hh
    simp only [e_ref11_Parse, go_sem, Nd.cells, hh, hat]
    exact Good.done (by rw [if_pos h1]; rfl)
  · rw [if_neg h1]
    have hf := find_t hl (headM n)
    cases h2 : findM l (headM n) with
    | none =>
      rw [h2] at hf
      simp only [idxI] at hf
      simp only [e_ref11_Parse, go_sem, Nd.cells, hh, hat, eq_false h1, hf]
      exact Good.done rfl
    | some k =>
      rw [h2] at hf
      simp only [idxI] at hf
      obtain ⟨hk1, _, _⟩ := List.findIdx?_eq_some_iff_getElem.1 h2
      have c0 : ((k : Int) < 0) = False := eq_false (by omega)
      generalize ht : l[k] = t
      have hgd : l.getD k ⟨[], []⟩ = t := by rw [List.getD_eq_getElem?_getD, List.getElem?_eq_getElem hk1]; exact ht
      simp only [hgd]
      have htl : t.l.length ≤ 1000000 := hts t (ht ▸ List.getElem_mem hk1)
      have tat := Tm.at_ hk1
      rw [ht] at tat
      have hpos : 0 < n.kids.length := by
        obtain ⟨_, x0, l0, hkids, _, _⟩ := headM_ne h1
        rw [hkids]; simp
      generalize hn0 : headM n = h0 at hh h1 hf
      simp only [e_ref11_Parse, go_sem, Nd.cells, hh, hat, eq_false h1, hf, c0]
      refine Good.for (n.kids.length - 1) (fun i fr st => ∃ out rows rt bs bts acc, fr = [.undef, .lst (l.map Tm.p), .ptr 0 0, .ptr 1 0, .ptr 2 0, .undef, .int .i64 (k : Int), .ptr 3 0, .int .i64 ((i + 1 : Nat) : Int)] ++ List.replicate 26 .undef ∧
        st = ⟨n.cells :: [.str [], .nils] :: [.nils, .int .i64 0] :: [.str h0, out] :: bs, rows, bts, rt⟩ ∧ OutV 6 T_ref11_Parse_0 (acc.map Ts.p) out rows rt ∧ rt.length = rows.length ∧ acc.length ≤ i ∧
        testsM t (n.kids.drop 1) [] = testsM t (n.kids.drop (i + 1)) acc) ?_ ?_ ?_
      · rintro i fr st hi ⟨out, rows, rt, bs, bts, acc, rfl, rfl, hO, hr, hal, he⟩ K hK
        have hi' : i + 1 < n.kids.length := by omega
        have c1 : (((i + 1 : Nat) : Int) < (n.kids.length : Int)) = True := eq_true (by omega)
        rw [List.drop_eq_getElem_cons hi'] at he
        have hxm := Nd.sz_kid (List.getElem_mem hi')
        have xat := Nd.at_ hi'
        generalize n.kids[i + 1] = x at he hxm xat
        have xh := head_t x
        rw [Nd.p_eq] at xh
        simp only [Nd.cells] at xh
        simp only [testsM] at he
        by_cases g1 : headM x = []
        · rw [if_pos g1] at he
          rw [g1] at xh
          simp only [b_ref11_Parse_1, go_sem, Nd.cells, xat, List.length_map, c1, xh, hat]
          exact Good.done (by rw [he]; rfl)
        · rw [if_neg g1] at he
          by_cases g2 : x.kids.length = 2
          · obtain ⟨y0, y, hxk⟩ : ∃ y0 y, x.kids = [y0, y] := by
              match hx : x.kids, g2 with
              | [a, b], _ => exact ⟨a, b, rfl⟩
            rw [hxk] at he
            simp only at he
            have hs := slot_t htl (headM x)
            have yat : evIdx 5 [y0.p, y.p] 1 = some (.ref y.cells) := Nd.at_ (l := [y0, y]) (n := 1) (by simp)
            rw [Nd.cells] at yat
            simp only [hxk, List.map_cons, List.map_nil] at xh
            have hy : y.sz ≤ y.sz := Nat.le_refl _
            cases g3 : slotM t (headM x) with
            | none =>
              rw [g3] at he hs
              simp only [idxI] at hs
              simp only at he
              simp only [b_ref11_Parse_1, go_sem, Nd.cells, xat, List.length_map, c1, xh, hat, eq_false g1, hxk, tat, Tm.cells, hs]
              exact Good.done (by rw [he]; rfl)
            | some q =>
              rw [g3] at he hs
              simp only [idxI] at hs
              simp only at he
              have c2 : ((q : Int) < 0) = False := eq_false (by omega)
              obtain ⟨r, hr2, u, rfl, hu⟩ := term_t _ y hy
              rw [Nd.p_eq] at hr2
              simp only [Nd.cells, Ts.p, Ts.cells] at hr2
              generalize hoo : termM y.sz y = o at he hu hr2
              rcases Bool.eq_false_or_eq_true o.isSome with hso | hso
              all_goals
                rw [hso] at hr2
                simp only [b_ref11_Parse_1, go_sem, Nd.cells, xat, List.length_map, c1, xh, hat, eq_false g1, hxk, tat, Tm.cells, hs, c2, yat, hr2]
                refine Good.for acc.length (fun j fr st => fr = [.undef, .lst (l.map Tm.p), .ptr 0 0, .ptr 1 0, .ptr 2 0, .undef, .int .i64 (k : Int), .ptr 3 0, .int .i64 ((i + 1 : Nat) : Int), .ptr (bs.length + 1 + 1 + 1 + 1) 0,
                    .int .i64 (if (acc.take j).any (fun u => decide (u.slot = (q : Int))) = true then 6 else if o.isSome = true then 0 else 2), .ptr (bs.length + 1 + 1 + 1 + 1 + 1) 0, .undef, .int .i64 (j : Int)] ++ List.replicate 21 .undef ∧
                  st = ⟨n.cells :: [.str [], .nils] :: [.nils, .int .i64 0] :: [.str h0, out] :: (bs ++ [x.cells, [.int .i64 (q : Int), .bool u.neg, .str u.var, .int .i64 u.v.k, .int .i64 u.v.i, .str u.v.s], u.cells]), rows, bts ++ [T_ref11_Parse_1, T_ref11_Parse_0, T_ref11_Parse_0], rt⟩) ?_ ?_ ?_
                · rintro j fr st hj ⟨rfl, rfl⟩ K' hK'
                  have c3 : ((j : Int) < (acc.length : Int)) = True := eq_true (by omega)
                  have jat := hO.idx (m := 6) (i := j) (k := .i64) (by simpa using hj)
                  rw [Ts.at_ hj] at jat
                  by_cases hq : acc[j].slot = (q : Int)
                  · simp only [b_ref11_Parse_0, go_sem, hO.len, List.length_map, c3, jat, Ts.cells, eq_true hq, wrapN (n := j) (by omega)]
                    refine hK' _ _ ⟨?_, by simp only [Nd.cells, Ts.cells, hxk, List.map_cons, List.map_nil]⟩
                    rw [take_succ_at hj, List.any_append, List.any_cons, List.any_nil]
                    simp [hq]
                  · simp only [b_ref11_Parse_0, go_sem, hO.len, List.length_map, c3, jat, Ts.cells, eq_false hq, wrapN (n := j) (by omega)]
                    refine hK' _ _ ⟨?_, by simp only [Nd.cells, Ts.cells, hxk, List.map_cons, List.map_nil]⟩
                    rw [take_succ_at hj, List.any_append, List.any_cons, List.any_nil]
                    simp [hq]
                · rintro fr st ⟨rfl, rfl⟩ K'
                  rw [List.take_length, hso]
                  cases hany : acc.any (fun u => decide (u.slot = (q : Int))) with
                  | true =>
                    rw [hany, if_pos rfl] at he
                    simp only [b_ref11_Parse_0, go_sem, hO.len, List.length_map, Int.lt_irrefl, hat, Nd.cells, Ts.cells]
                    exact Good.done (by rw [he]; rfl)
                  | false =>
                    rw [hany, if_neg (by decide)] at he
                    cases o with
                    | none =>
                      first
                      | cases hso; done
                      | (simp only [b_ref11_Parse_0, go_sem, hO.len, List.length_map, Int.lt_irrefl, hat, Nd.cells, Ts.cells]
                         exact Good.done (by rw [he]; rfl))
                    | some w =>
                      first
                      | cases hso; done
                      | (obtain rfl := hu w rfl
                         obtain ⟨out', rows', rt', ap, hO', hr', _⟩ := hO.app1 (b := 64) hr (e := .agg [.int .i64 (q : Int), .bool u.neg, .str u.var, .int .i64 u.v.k, .int .i64 u.v.i, .str u.v.s]) rfl (by simp; omega)
                         simp only [b_ref11_Parse_0, go_sem, hO.len, List.length_map, Int.lt_irrefl, hat, Nd.cells, Ts.cells, V_bs1, ap, hO'.cells, hO'.cell, wrapN (n := i + 1) (by omega)]
                         refine hK _ _ ⟨out', rows', rt', _, _, acc ++ [{ u with slot := (q : Int) }], rfl, rfl, ?_, hr', by simp; omega, he⟩
                         rw [List.map_append, List.map_singleton]
                         exact hO')
                · refine ⟨?_, by simp only [Nd.cells, Ts.cells, hxk, List.map_cons, List.map_nil]⟩
                  rw [hso]
                  rfl
          · have c2 : ((x.kids.length : Int) = 2) = False := eq_false (by omega)
            have he2 : testsM t (n.kids.drop 1) [] = .error (x.pos, 2) := by
              rw [he]
              match hx : x.kids, g2 with
              | [], _ => rfl
              | [_], _ => rfl
              | _ :: _ :: _ :: _, _ => rfl
            simp only [b_ref11_Parse_1, go_sem, Nd.cells, xat, List.length_map, c1, xh, hat, eq_false g1, c2, ne_eq]
            exact Good.done (by rw [he2]; rfl)
      · rintro fr st ⟨out, rows, rt, bs, bts, acc, rfl, rfl, hO, hr, hal, he⟩ K
        have c1 : (((n.kids.length - 1 + 1 : Nat) : Int) < (n.kids.length : Int)) = False := eq_false (by omega)
        rw [List.drop_eq_nil_of_le (i := n.kids.length - 1 + 1) (by omega), testsM] at he
        simp only [b_ref11_Parse_1, go_sem, Nd.cells, List.length_map, c1, hO.cells, hO.cell]
        refine Good.done ?_
        rw [he]
        exact ret_tup (mS (shutR_agg (mS rfl (mS (hO.shutR _ _) mN))) (mS rfl mN))
      · exact ⟨.nils, [], [], [], _, [], rfl, rfl, .nils, rfl, Nat.le_refl _, rfl⟩
end Go.Proofs.YtgjklaobjnjhpaaGreatPe.Normz

/- The document's expressions. -/
set_option linter.unusedVariables false
set_option linter.unusedSimpArgs false
set_option maxRecDepth 100000
namespace Go.Proofs.YtgjklaobjnjhpaaGreatPe.Normz
open Go Go.Proofs Go.Proofs.YtgjklaobjnjhpaaGreatPe Go.Proofs.YtgjklaobjnjhpaaGreatPe.NormzCode

def mapE {α β : Type} (g : α → Er β) : List α → List β → Er (List β)
  | [], acc => .ok acc
  | x :: r, acc => match g x with
    | .error e => .error e
    | .ok y => mapE g r (acc ++ [y])
def sIf : List UInt8 := [105, 102]
def sThen : List UInt8 := [116, 104, 101, 110]
def sElse : List UInt8 := [101, 108, 115, 101]
def sAnd : List UInt8 := [97, 110, 100]
def sOr : List UInt8 := [111, 114]
/-- A list's form: its kind, its name, its kids; or what is wrong. -/
def formM (n : Nd) (funs : List Sg) : Except Int (Int × List UInt8 × List Nd) :=
  if headM n = sIf then (match n.kids.drop 1 with
    | [a, b, c, d, e] => if (Nd.same b (symN sThen) && Nd.same d (symN sElse)) = true then .ok (5, [], [a, c, e]) else .error 2
    | _ => .error 2)
  else if headM n = sAnd then .ok (6, [], n.kids.drop 1)
  else if headM n = sOr then .ok (7, [], n.kids.drop 1)
  else if argsM (headM n) ((n.kids.drop 1).length : Int) funs = 0 then .ok (4, headM n, n.kids.drop 1) else .error (argsM (headM n) ((n.kids.drop 1).length : Int) funs)
def exprM : Nat → List Sg → Nd → Er Ex
  | 0, _, n => .error (n.pos, 2)
  | f + 1, funs, n => match valM n with
    | some v => .ok (.mk 1 v [] [])
    | none => if n.k = 6 then .ok (.mk 2 ⟨0, 0, []⟩ n.s []) else if n.k = 7 then .ok (.mk 3 ⟨0, 0, []⟩ n.s []) else
      if headM n = [] then .error (n.pos, 2) else match formM n funs with
      | .error e => .error (n.pos, e)
      | .ok q => match mapE (exprM f funs) q.2.2 [] with
        | .error e => .error e
        | .ok es => .ok (.mk q.1 ⟨0, 0, []⟩ q.2.1 es)
def exprV : Er Ex → PV
  | .ok e => .tuple [e.p, noneW]
  | .error e => .tuple [zEx, wrongV e.1 e.2]

theorem lst_full {m : Nat} {l : List PV} {kv : PV} (h : kv = .lst l ∨ kv = .full l) {i : Int} {k : IntKind} : biV (.idx m) kv (.int k i) = evIdx m l i ∧ unV .len kv = some (.int .i64 (l.length : Int)) := by
  rcases h with rfl | rfl <;> exact ⟨rfl, rfl⟩

theorem expr_loop {funs : List Sg} {g : Nd → Er Ex} {kids : List Nd} {kv : PV} (hkv : kv = .lst (kids.map Nd.p) ∨ kv = .full (kids.map Nd.p)) (hl : kids.length ≤ 1000000)
    (hne : ∀ x e, g x = .error e → ¬ e.2 = 0)
    (ih : ∀ x ∈ kids, tupV (callE efns given) (.call 0 f_ref7_Parse) [x.p, .lst (funs.map Sg.p)] = some (exprV (g x)))
    {K : EX → Fr → St → Option (PV × St)} {Q : PV → St → Prop} {c0 c3 : List PV} {k0 : Int} {s0 : List UInt8} {bts : List TypeId}
    (h1 : ∀ es out rows rt bs bts, mapE g kids [] = .ok es → OutV 6 T_ref7_Parse_0 (es.map Ex.p) out rows rt → Good Q (K (.exit 2) ([.undef, .lst (funs.map Sg.p), .undef, .ptr 1 0, .ptr 2 0, .undef, .undef, kv, .ptr 4 0, .undef, .int .i64 (kids.length : Int)] ++ List.replicate 23 .undef)
      ⟨c0 :: [.int .i64 0, .int .i64 0, .int .i64 0, .str [], .str [], .nils] :: [.nils, .int .i64 0] :: c3 :: [.int .i64 k0, .int .i64 0, .int .i64 0, .str [], .str s0, out] :: bs, rows, bts, rt⟩))
    (h2 : ∀ e s v, mapE g kids [] = .error e → shutR false s shutN v = some (exprV (.error e)) → Good Q (K (.ret v) [] s)) :
    Good Q (runL (callE efns given) [false, true, false, true, true, false, false, true, true, false, true, false, false, false, false, false, false, false, false, false, false, false, false, false, false, false, false, false, false, false, false, false, false, false] b_ref7_Parse_0
      ([.undef, .lst (funs.map Sg.p), .undef, .ptr 1 0, .ptr 2 0, .undef, .undef, kv, .ptr 4 0, .undef, .int .i64 0] ++ List.replicate 23 .undef)
      ⟨[c0, [.int .i64 0, .int .i64 0, .int .i64 0, .str [], .str [], .nils], [.nils, .int .i64 0], c3, [.int .i64 k0, .int .i64 0, .int .i64 0, .str [], .str s0, .nils]], [], bts, []⟩ K) := by
  refine Good.for kids.length (fun n fr st => ∃ out rows rt bs bts acc, fr = [.undef, .lst (funs.map Sg.p), .undef, .ptr 1 0, .ptr 2 0, .undef, .undef, kv, .ptr 4 0, .undef, .int .i64 (n : Int)] ++ List.replicate 23 .undef ∧
    st = ⟨c0 :: [.int .i64 0, .int .i64 0, .int .i64 0, .str [], .str [], .nils] :: [.nils, .int .i64 0] :: c3 :: [.int .i64 k0, .int .i64 0, .int .i64 0, .str [], .str s0, out] :: bs, rows, bts, rt⟩ ∧
    OutV 6 T_ref7_Parse_0 (acc.map Ex.p) out rows rt ∧ rt.length = rows.length ∧ acc.length ≤ n ∧ mapE g kids [] = mapE g (kids.drop n) acc) ?_ ?_ ?_
  · rintro n fr st hn ⟨out, rows, rt, bs, bts, acc, rfl, rfl, hO, hr, hal, he⟩ k hk
    have c1 : ((n : Int) < (kids.length : Int)) = True := eq_true (by omega)
    have hx := ih kids[n] (List.getElem_mem hn)
    have xat := Nd.at_ hn
    have hlf := fun i : Int => lst_full (m := 5) hkv (i := i) (k := .i64)
    rw [List.drop_eq_getElem_cons hn, mapE] at he
    generalize kids[n] = x at hx xat he
    rw [Nd.p_eq] at hx
    cases hg : g x with
    | error e =>
      rw [hg] at he hx
      simp only [Nd.cells, exprV, wrongV, zEx] at hx
      have h0 := hne x e hg
      simp only [b_ref7_Parse_0, go_sem, (hlf _).1, (hlf 0).2, xat, Nd.cells, List.length_map, c1, hx, eq_false h0, ne_eq]
      exact h2 e _ _ he rfl
    | ok y =>
      rw [hg] at he hx
      obtain ⟨out', rows', rt', ap, hO', hr', _⟩ := hO.app1 (b := 80) hr (e := .agg y.cells) rfl (by simp; omega)
      rw [exprV, Ex.p_eq] at hx
      simp only [Nd.cells, noneW, Ex.cells] at hx ap
      simp only [b_ref7_Parse_0, go_sem, (hlf _).1, (hlf 0).2, xat, Nd.cells, List.length_map, c1, hx, V_bs1, ap, hO'.cells, hO'.cell, wrapN (n := n) (by omega)]
      refine hk _ _ ⟨out', rows', rt', _, _, acc ++ [y], rfl, rfl, ?_, hr', by simp; omega, he⟩
      rw [List.map_append, List.map_singleton, Ex.p_eq]
      exact hO'
  · rintro fr st ⟨out, rows, rt, bs, bts, acc, rfl, rfl, hO, hr, hal, he⟩ k
    have hlf := fun i : Int => lst_full (m := 5) hkv (i := i) (k := .i64)
    rw [List.drop_eq_nil_of_le (i := kids.length) (Nat.le_refl _)] at he
    simp only [b_ref7_Parse_0, go_sem, (hlf 0).2, List.length_map, Int.lt_irrefl]
    exact h1 acc out rows rt bs bts he hO
  · exact ⟨.nils, [], [], [], _, [], rfl, rfl, .nils, rfl, Nat.le_refl _, rfl⟩

theorem argsM_err (s : List UInt8) (n : Int) (l : List Sg) : argsM s n l = 0 ∨ argsM s n l = 1 ∨ argsM s n l = 5 := by
  unfold argsM
  split
  · split
    · exact .inl rfl
    · exact .inr (.inl rfl)
  · split
    · exact .inr (.inr rfl)
    · split
      · exact .inr (.inl rfl)
      · exact .inl rfl
theorem formM_err {n : Nd} {funs : List Sg} {e : Int} (h : formM n funs = .error e) : ¬ e = 0 := by
  unfold formM at h
  split at h
  · split at h
    · split at h
      · cases h
      · cases h; exact (by decide : ¬ (2 : Int) = 0)
    · cases h; exact (by decide : ¬ (2 : Int) = 0)
  · split at h
    · cases h
    · split at h
      · cases h
      · split at h
        · cases h
        · rename_i hh
          cases h
          exact hh
theorem mapE_err {α β : Type} {g : α → Er β} (hg : ∀ x e, g x = .error e → ¬ e.2 = 0) : ∀ {l : List α} {acc : List β} {e : Int × Int}, mapE g l acc = .error e → ¬ e.2 = 0
  | [], acc, e, h => by cases h
  | x :: l, acc, e, h => by
    unfold mapE at h
    split at h
    · rename_i e' he
      cases h
      exact hg x e he
    · exact mapE_err hg h
theorem exprM_err : ∀ (f : Nat) {funs : List Sg} {n : Nd} {e : Int × Int}, exprM f funs n = .error e → ¬ e.2 = 0
  | 0, funs, n, e, h => by cases h; exact (by decide : ¬ (2 : Int) = 0)
  | f + 1, funs, n, e, h => by
    unfold exprM at h
    split at h
    · cases h
    · split at h
      · cases h
      · split at h
        · cases h
        · split at h
          · cases h; exact (by decide : ¬ (2 : Int) = 0)
          · split at h
            · rename_i e' he
              cases h
              exact formM_err he
            · split at h
              · rename_i q _ e' he
                cases h
                exact mapE_err (fun x e hh => exprM_err f hh) he
              · cases h

theorem formM_kids {n : Nd} {funs : List Sg} {q : Int × List UInt8 × List Nd} (h : formM n funs = .ok q) : ∀ x ∈ q.2.2, x ∈ n.kids := by
  have hd : ∀ x ∈ n.kids.drop 1, x ∈ n.kids := fun x hx => List.mem_of_mem_drop hx
  unfold formM at h
  split at h
  · split at h
    · rename_i a b c d e hk
      split at h
      · cases h
        intro x hx
        apply hd
        rw [hk]
        simp only [List.mem_cons, List.not_mem_nil, or_false] at hx ⊢
        rcases hx with rfl | rfl | rfl <;> simp
      · cases h
    · cases h
  · split at h
    · cases h; exact hd
    · split at h
      · cases h; exact hd
      · split at h
        · cases h; exact hd
        · cases h

theorem expr_fin {k : Int} {s : List UInt8} {es : List Ex} {out : PV} {rows : List (Nat × Nat)} {rt : List TypeId} {st : St} (hO : OutV 6 T_ref7_Parse_0 (es.map Ex.p) out rows rt) :
    Ret (exprV (.ok (.mk k ⟨0, 0, []⟩ s es))) (.tuple [.agg [.int .i64 k, .int .i64 0, .int .i64 0, .str [], .str s, out], .agg [.nils, .int .i64 0]]) st := by
  rw [exprV, Ex.p_eq]
  exact ret_tup (mS (shutR_agg (mS rfl (mS rfl (mS rfl (mS rfl (mS rfl (mS (hO.shutR _ _) mN))))))) (mS rfl mN))
theorem expr_t (funs : List Sg) (hfl : funs.length ≤ 1000000) : ∀ (m : Nat) (n : Nd), n.sz ≤ m → m ≤ 1000000 → tupV (callE efns given) (.call 0 f_ref7_Parse) [n.p, .lst (funs.map Sg.p)] = some (exprV (exprM m funs n)) := by
  intro m
  induction m with
  | zero => intro n h; rw [Nd.sz_eq] at h; omega
  | succ m ih =>
    intro n hm hle
    have hsz := Nd.sz_eq n
    have hkl := Nd.len_sz n.kids
    have hv := value_t n
    have hh := head_t n
    have hw := fun e => wrong_t n e
    have hsm := fun (a b : Nd) (h : a.sz ≤ 1000000) => nsame_t _ a b h (Nat.le_refl _)
    have hsy := fun s => symN_t (s := s)
    have hrec := fun x hx => ih x (by have := Nd.sz_kid (x := n) (y := x) hx; omega) (by omega)
    rw [Nd.p_eq] at hv hh
    simp only [Nd.p_eq n] at hw
    rw [Nd.p_eq]
    refine call_good (f := f_ref7_Parse) rfl ?_
    rw [callE_fn efns given (c := e_ref7_Parse) rfl rfl]
    simp only [Nd.cells, zEx, wrongV] at hv hh hw
    unfold exprM
    cases h1 : valM n with
    | some v =>
      rw [h1] at hv
      simp only [valV, Vl.p] at hv
      simp only [e_ref7_Parse, go_sem, Nd.cells, hv]
      exact Good.done rfl
    | none =>
      rw [h1] at hv
      simp only [valV, Vl.p] at hv
      simp only
      by_cases h6 : n.k = 6
      · rw [if_pos h6]
        simp only [e_ref7_Parse, go_sem, Nd.cells, hv, eq_true h6]
        exact Good.done rfl
      · rw [if_neg h6]
        by_cases h7 : n.k = 7
        · rw [if_pos h7]
          simp only [e_ref7_Parse, go_sem, Nd.cells, hv, eq_false h6, eq_true h7]
          exact Good.done rfl
        · rw [if_neg h7]
          by_cases hd : headM n = []
          · rw [if_pos hd]
            rw [hd] at hh
            simp only [e_ref7_Parse, go_sem, Nd.cells, hv, eq_false h6, eq_false h7, hh, hw]
            exact Good.done rfl
          · rw [if_neg hd]
            have hls : lsubV 5 (.lst (n.kids.map Nd.p)) (some (.int .i64 1)) none none = some (.lst ((n.kids.drop 1).map Nd.p)) := by
              obtain ⟨_, x0, l0, hk, _, _⟩ := headM_ne hd
              rw [List.map_drop]
              refine lsub_drop (i := 1) rfl (by rw [hk]; simp) ?_
              intro e he
              obtain ⟨y, _, rfl⟩ := List.mem_map.1 he
              rw [Nd.p_cells]; rfl
            have hdk : ∀ x ∈ n.kids.drop 1, x ∈ n.kids := fun x hx => List.mem_of_mem_drop hx
            have hdl : (n.kids.drop 1).length ≤ 1000000 := by rw [List.length_drop]; omega
            unfold formM
            generalize n.kids.drop 1 = kids at hls hdk hdl
            have hargs := args_t (s := headM n) (n := (kids.length : Int)) hfl
            generalize headM n = h at hh hd hargs
            by_cases i1 : h = sIf
            · rw [if_pos i1]
              have hh' := hh
              subst i1
              unfold sIf at hh
              have hd' : ¬ (([105, 102] : List UInt8) = []) := by decide
              by_cases hlen : kids.length = 5
              · obtain ⟨a, b, c, d, e, rfl⟩ : ∃ a b c d e, kids = [a, b, c, d, e] := by
                  match kids, hlen with
                  | [a, b, c, d, e], _ => exact ⟨a, b, c, d, e, rfl⟩
                have szb := Nd.sz_kid (x := n) (y := b) (hdk b (by simp))
                have szd := Nd.sz_kid (x := n) (y := d) (hdk d (by simp))
                have hs1 := hsm b (symN [116, 104, 101, 110]) (by omega)
                have hs2 := hsm d (symN [101, 108, 115, 101]) (by omega)
                have at0 : evIdx 5 [a.p, b.p, c.p, d.p, e.p] 0 = some (.ref a.cells) := Nd.at_ (l := [a, b, c, d, e]) (n := 0) (by simp)
                have at1 : evIdx 5 [a.p, b.p, c.p, d.p, e.p] 1 = some (.ref b.cells) := Nd.at_ (l := [a, b, c, d, e]) (n := 1) (by simp)
                have at2 : evIdx 5 [a.p, b.p, c.p, d.p, e.p] 2 = some (.ref c.cells) := Nd.at_ (l := [a, b, c, d, e]) (n := 2) (by simp)
                have at3 : evIdx 5 [a.p, b.p, c.p, d.p, e.p] 3 = some (.ref d.cells) := Nd.at_ (l := [a, b, c, d, e]) (n := 3) (by simp)
                have at4 : evIdx 5 [a.p, b.p, c.p, d.p, e.p] 4 = some (.ref e.cells) := Nd.at_ (l := [a, b, c, d, e]) (n := 4) (by simp)
                rw [Nd.p_eq b] at hs1
                rw [Nd.p_eq d] at hs2
                simp only [Nd.cells] at hs1 hs2 at0 at1 at2 at3 at4
                simp only [List.map_cons, List.map_nil] at hls
                simp only
                unfold sThen sElse
                cases e1 : Nd.same b (symN [116, 104, 101, 110]) with
                | false =>
                  rw [e1] at hs1
                  simp only [e_ref7_Parse, go_sem, Nd.cells, hv, eq_false h6, eq_false h7, hh, eq_false hd', hls, at1, hsy, hs1, hw, ne_eq]
                  exact Good.done rfl
                | true =>
                  rw [e1] at hs1
                  cases e2 : Nd.same d (symN [101, 108, 115, 101]) with
                  | false =>
                    rw [e2] at hs2
                    simp only [e_ref7_Parse, go_sem, Nd.cells, hv, eq_false h6, eq_false h7, hh, eq_false hd', hls, at1, at3, hsy, hs1, hs2, hw, ne_eq]
                    exact Good.done rfl
                  | true =>
                    rw [e2] at hs2
                    have bs3 : tupV (callE efns given) (.bslice 5 [.int .i64 0, .int .i64 0, .int .i64 0, .str [], .nils] 3 [0, 1, 2]) [.agg a.cells, .agg c.cells, .agg e.cells] = some (.full ([a, c, e].map Nd.p)) := by
                      simp only [List.map_cons, List.map_nil, Nd.p_eq]
                      rfl
                    simp only [Nd.cells] at bs3
                    simp only [e_ref7_Parse, go_sem, Nd.cells, hv, eq_false h6, eq_false h7, hh, eq_false hd', hls, at0, at1, at2, at3, at4, hsy, hs1, hs2, bs3, ne_eq]
                    refine expr_loop (kids := [a, c, e]) (g := exprM m funs) (.inr rfl) (by simp) (fun x e hh => exprM_err m hh) (fun x hx => hrec x ((fun x hx => hdk x (by simp only [List.mem_cons, List.not_mem_nil, or_false] at hx ⊢; rcases hx with rfl | rfl | rfl <;> simp)) x hx)) ?_ ?_
                    · intro es out rows rt bs bts he hO
                      simp only [go_sem, hO.cells, hO.cell]
                      exact Good.done (by rw [he]; exact expr_fin hO)
                    · intro e s v he hs
                      simp only [go_sem]
                      exact Good.done (by rw [he]; exact hs)
              · have c5 : ((kids.length : Int) = 5) = False := eq_false (by omega)
                have hne : (match kids with
                    | [a, b, c, d, e] => if (Nd.same b (symN sThen) && Nd.same d (symN sElse)) = true then (.ok (5, [], [a, c, e]) : Except Int (Int × List UInt8 × List Nd)) else .error 2
                    | _ => .error 2) = .error 2 := by
                  match kids, hlen with
                  | [], _ => rfl
                  | [_], _ => rfl
                  | [_, _], _ => rfl
                  | [_, _, _], _ => rfl
                  | [_, _, _, _], _ => rfl
                  | _ :: _ :: _ :: _ :: _ :: _ :: _, _ => rfl
                rw [hne]
                simp only [e_ref7_Parse, go_sem, Nd.cells, hv, eq_false h6, eq_false h7, hh, eq_false hd', hls, List.length_map, c5, hw, ne_eq]
                exact Good.done rfl
            · rw [if_neg i1]
              unfold sIf at i1
              by_cases i2 : h = sAnd
              · rw [if_pos i2]
                subst i2
                unfold sAnd at hh i1 hd
                simp only [e_ref7_Parse, go_sem, Nd.cells, hv, eq_false h6, eq_false h7, hh, eq_false hd, hls, eq_false i1, ne_eq]
                refine expr_loop (g := exprM m funs) (.inl rfl) hdl (fun x e hh => exprM_err m hh) (fun x hx => hrec x (hdk x hx)) ?_ ?_
                · intro es out rows rt bs bts he hO
                  simp only [go_sem, hO.cells, hO.cell]
                  exact Good.done (by rw [he]; exact expr_fin hO)
                · intro e s v he hs
                  simp only [go_sem]
                  exact Good.done (by rw [he]; exact hs)
              · rw [if_neg i2]
                unfold sAnd at i2
                by_cases i3 : h = sOr
                · rw [if_pos i3]
                  subst i3
                  unfold sOr at hh i1 i2 hd
                  simp only [e_ref7_Parse, go_sem, Nd.cells, hv, eq_false h6, eq_false h7, hh, eq_false hd, hls, eq_false i1, eq_false i2, ne_eq]
                  refine expr_loop (g := exprM m funs) (.inl rfl) hdl (fun x e hh => exprM_err m hh) (fun x hx => hrec x (hdk x hx)) ?_ ?_
                  · intro es out rows rt bs bts he hO
                    simp only [go_sem, hO.cells, hO.cell]
                    exact Good.done (by rw [he]; exact expr_fin hO)
                  · intro e s v he hs
                    simp only [go_sem]
                    exact Good.done (by rw [he]; exact hs)
                · rw [if_neg i3]
                  unfold sOr at i3
                  by_cases i4 : argsM h (kids.length : Int) funs = 0
                  · rw [if_pos i4]
                    rw [i4] at hargs
                    simp only [e_ref7_Parse, go_sem, Nd.cells, hv, eq_false h6, eq_false h7, hh, eq_false hd, hls, eq_false i1, eq_false i2, eq_false i3, List.length_map, hargs, ne_eq]
                    refine expr_loop (g := exprM m funs) (.inl rfl) hdl (fun x e hh => exprM_err m hh) (fun x hx => hrec x (hdk x hx)) ?_ ?_
                    · intro es out rows rt bs bts he hO
                      simp only [go_sem, hO.cells, hO.cell]
                      exact Good.done (by rw [he]; exact expr_fin hO)
                    · intro e s v he hs
                      simp only [go_sem]
                      exact Good.done (by rw [he]; exact hs)
                  · rw [if_neg i4]
                    simp only [e_ref7_Parse, go_sem, Nd.cells, hv, eq_false h6, eq_false h7, hh, eq_false hd, hls, eq_false i1, eq_false i2, eq_false i3, List.length_map, hargs, eq_false i4, hw, ne_eq]
                    exact Good.done rfl
end Go.Proofs.YtgjklaobjnjhpaaGreatPe.Normz

/- The document's conditions. -/
set_option linter.unusedVariables false
set_option linter.unusedSimpArgs false
set_option maxRecDepth 100000
namespace Go.Proofs.YtgjklaobjnjhpaaGreatPe.Normz
open Go Go.Proofs Go.Proofs.YtgjklaobjnjhpaaGreatPe Go.Proofs.YtgjklaobjnjhpaaGreatPe.NormzCode

def exNone : Ex := .mk 0 ⟨0, 0, []⟩ [] []
def ptNone : Pt := ⟨[], []⟩
def sArrow : List UInt8 := [60, 45]
mutual
def condM : Nat → List Tm → List Sg → Nd → Er Ce
  | 0, _, _, n => .error (n.pos, 2)
  | f + 1, t, g, n => if kindM (headM n) = 0 then (match patM n t with
      | .error e => .error e
      | .ok p => .ok (.mk 1 [] p exNone []))
    else if kindM (headM n) = 2 then (match n.kids with
      | [_, y] => (match exprM y.sz g y with
        | .error e => .error e
        | .ok e => .ok (.mk 2 [] ptNone e []))
      | _ => .error (n.pos, 2))
    else match condsM f t g (n.kids.drop 1) [] with
      | .error e => .error e
      | .ok ks => if ks.length = 0 ∨ (kindM (headM n) = 3 ∧ ks.length ≠ 1) ∨ (kindM (headM n) = 7 ∧ ks.length < 2) then .error (n.pos, 2) else .ok (.mk (kindM (headM n)) [] ptNone exNone ks)
def condsM : Nat → List Tm → List Sg → List Nd → List Ce → Er (List Ce)
  | 0, _, _, _, _ => .error (0, 2)
  | f + 1, t, g, l, acc => match l with
    | [] => .ok acc
    | n :: r => if n.k = 6 then (match r with
        | a :: b :: r' => if Nd.same a (symN sArrow) = true ∧ b.k = 0 then (match patM b t with
            | .error e => .error e
            | .ok p => condsM f t g r' (acc ++ [.mk 1 n.s p exNone []])) else .error (n.pos, 2)
        | _ => .error (n.pos, 2))
      else match condM f t g n with
        | .error e => .error e
        | .ok c => condsM f t g r (acc ++ [c])
end
def condsV : Er (List Ce) → PV
  | .ok l => .tuple [.lst (l.map Ce.p), noneW]
  | .error e => .tuple [.lst [], wrongV e.1 e.2]
def condQ : Er Ce → PV → Prop
  | .ok c, r => r = .tuple [c.p, noneW]
  | .error e, r => ∃ c : Ce, r = .tuple [c.p, wrongV e.1 e.2]

theorem testsM_err {t : Tm} : ∀ {l : List Nd} {acc : List Ts} {e : Int × Int}, testsM t l acc = .error e → ¬ e.2 = 0
  | [], acc, e, h => by cases h
  | x :: l, acc, e, h => by
    unfold testsM at h
    split at h
    · cases h; exact (by decide : ¬ (2 : Int) = 0)
    · split at h
      · split at h
        · cases h; exact (by decide : ¬ (5 : Int) = 0)
        · split at h
          · cases h; exact (by decide : ¬ (6 : Int) = 0)
          · split at h
            · cases h; exact (by decide : ¬ (2 : Int) = 0)
            · exact testsM_err h
      · cases h; exact (by decide : ¬ (2 : Int) = 0)
theorem patM_err {n : Nd} {l : List Tm} {e : Int × Int} (h : patM n l = .error e) : ¬ e.2 = 0 := by
  unfold patM at h
  split at h
  · cases h; exact (by decide : ¬ (2 : Int) = 0)
  · split at h
    · cases h; exact (by decide : ¬ (5 : Int) = 0)
    · split at h
      · rename_i e' he
        cases h
        exact testsM_err he
      · cases h
theorem cond_err : ∀ (f : Nat) (t : List Tm) (g : List Sg), (∀ n e, condM f t g n = .error e → ¬ e.2 = 0) ∧ ∀ l acc e, condsM f t g l acc = .error e → ¬ e.2 = 0
  | 0, t, g => ⟨fun n e h => by unfold condM at h; cases h; exact (by decide : ¬ (2 : Int) = 0), fun l acc e h => by unfold condsM at h; cases h; exact (by decide : ¬ (2 : Int) = 0)⟩
  | f + 1, t, g => by
    obtain ⟨ih1, ih2⟩ := cond_err f t g
    constructor
    · intro n e h
      unfold condM at h
      split at h
      · split at h
        · rename_i e' he; cases h; exact patM_err he
        · cases h
      · split at h
        · split at h
          · split at h
            · rename_i e' he; cases h; exact exprM_err _ he
            · cases h
          · cases h; exact (by decide : ¬ (2 : Int) = 0)
        · split at h
          · rename_i e' he; cases h; exact ih2 _ _ _ he
          · split at h
            · cases h; exact (by decide : ¬ (2 : Int) = 0)
            · cases h
    · intro l acc e h
      unfold condsM at h
      split at h
      · cases h
      · split at h
        · split at h
          · split at h
            · split at h
              · rename_i e' he; cases h; exact patM_err he
              · exact ih2 _ _ _ h
            · cases h; exact (by decide : ¬ (2 : Int) = 0)
          · cases h; exact (by decide : ¬ (2 : Int) = 0)
        · split at h
          · rename_i e' he; cases h; exact ih1 _ _ he
          · exact ih2 _ _ _ h

theorem Nd.szs_drop_lt {l : List Nd} {i j : Nat} (hi : i < l.length) (hj : i < j) : Nd.szs (l.drop j) + l[i].sz ≤ Nd.szs (l.drop i) := by
  rw [List.drop_eq_getElem_cons hi, Nd.szs]
  have : ∀ (m : List Nd) (d : Nat), Nd.szs (m.drop d) ≤ Nd.szs m := by
    intro m d
    have := Nd.szs_append (m.take d) (m.drop d)
    rw [List.take_append_drop] at this
    omega
  have h1 := this (l.drop (i + 1)) (j - (i + 1))
  rw [List.drop_drop, show i + 1 + (j - (i + 1)) = j by omega] at h1
  omega

section
variable {t : List Tm} {g : List Sg} (ht : t.length ≤ 1000000) (hts : ∀ x ∈ t, x.l.length ≤ 1000000) (hg : g.length ≤ 1000000)
include ht hts hg
theorem one_of_conds {f : Nat} (ih : ∀ l : List Nd, 2 * Nd.szs l + 1 ≤ f → Nd.szs l ≤ 1000000 → tupV (callE efns given) (.call 0 f_ref12_Parse) [.lst (l.map Nd.p), .lst (t.map Tm.p), .lst (g.map Sg.p)] = some (condsV (condsM f t g l []))) (n : Nd) (hf : 2 * n.sz ≤ f + 1) (hn : n.sz ≤ 1000000) :
    ∃ r, tupV (callE efns given) (.call 0 f_ref12_one) [n.p, .lst (t.map Tm.p), .lst (g.map Sg.p)] = some r ∧ condQ (condM (f + 1) t g n) r := by
  have hsz := Nd.sz_eq n
  have hkl := Nd.len_sz n.kids
  have hh := head_t n
  have hat := fun p e => at_t (p := p) (e := e)
  have hp := pat_t n t ht hts hn
  unfold sChar wrongV at hat
  rw [Nd.p_eq] at hh hp ⊢
  refine call_someG (f := f_ref12_one) rfl ?_
  rw [callE_fn efns given (c := e_ref12_one) rfl rfl]
  simp only [Nd.cells] at hh hp
  unfold condM
  have hkd := kind_t (headM n)
  generalize hkk : kindM (headM n) = k at hkd
  by_cases h0 : k = 0
  · rw [if_pos h0]
    rw [h0] at hkd
    cases h1 : patM n t with
    | error e =>
      rw [h1] at hp
      simp only [patV, Pt.p, Pt.cells, List.map_nil, wrongV] at hp
      simp only [e_ref12_one, go_sem, Nd.cells, hh, hkd, hp]
      exact Good.done (RetQ.mk rfl ⟨Ce.mk 1 [] ptNone exNone [], by rw [Ce.p_eq]; rfl⟩)
    | ok p =>
      rw [h1] at hp
      simp only [patV, Pt.p, Pt.cells, noneW] at hp
      simp only [e_ref12_one, go_sem, Nd.cells, hh, hkd, hp]
      exact Good.done (RetQ.mk rfl (by show _ = _; rw [Ce.p_eq]; rfl))
  · rw [if_neg h0]
    by_cases h2 : k = 2
    · rw [if_pos h2]
      rw [h2] at hkd
      by_cases hl : n.kids.length = 2
      · obtain ⟨x, y, hk⟩ : ∃ x y, n.kids = [x, y] := by
          match hx : n.kids, hl with
          | [a, b], _ => exact ⟨a, b, rfl⟩
        have hy := Nd.sz_kid (x := n) (y := y) (by rw [hk]; simp)
        have he := expr_t g hg y.sz y (Nat.le_refl _) (by omega)
        have at1 : evIdx 5 [x.p, y.p] 1 = some (.ref y.cells) := Nd.at_ (l := [x, y]) (n := 1) (by simp)
        rw [Nd.p_eq y] at he
        simp only [Nd.cells] at he at1
        simp only [hk, List.map_cons, List.map_nil] at hh
        rw [hk]
        simp only
        cases h1 : exprM y.sz g y with
        | error e =>
          rw [h1] at he
          simp only [exprV, zEx, wrongV] at he
          simp only [e_ref12_one, go_sem, Nd.cells, hh, hkd, hk, at1, he, ne_eq]
          exact Good.done (RetQ.mk rfl ⟨Ce.mk 2 [] ptNone exNone [], by rw [Ce.p_eq]; rfl⟩)
        | ok e =>
          rw [h1] at he
          rw [exprV, Ex.p_eq] at he
          simp only [Ex.cells, noneW] at he
          simp only [e_ref12_one, go_sem, Nd.cells, hh, hkd, hk, at1, he, ne_eq]
          exact Good.done (RetQ.mk rfl (by show _ = _; rw [Ce.p_eq]; rfl))
      · have c2 : ((n.kids.length : Int) = 2) = False := eq_false (by omega)
        have hm : (match n.kids with
            | [_, y] => ((match exprM y.sz g y with
              | .error e => .error e
              | .ok e => .ok (.mk 2 [] ptNone e [])) : Er Ce)
            | _ => (.error (n.pos, 2) : Er Ce)) = .error (n.pos, 2) := by
          match n.kids, hl with
          | [], _ => rfl
          | [_], _ => rfl
          | _ :: _ :: _ :: _, _ => rfl
        rw [hm]
        simp only [e_ref12_one, go_sem, Nd.cells, hh, hkd, List.length_map, c2, hat, ne_eq]
        exact Good.done (RetQ.mk rfl ⟨Ce.mk 0 [] ptNone exNone [], by rw [Ce.p_eq]; rfl⟩)
    · rw [if_neg h2]
      have hdr : Nd.szs (n.kids.drop 1) ≤ Nd.szs n.kids := by
        have := Nd.szs_append (n.kids.take 1) (n.kids.drop 1)
        rw [List.take_append_drop] at this
        omega
      have hc := ih (n.kids.drop 1) (by omega) (by omega)
      have hpos : 1 ≤ n.kids.length := by
        have hne : ¬ headM n = [] := by
          intro e
          rw [e] at hkk
          exact h0 hkk.symm
        obtain ⟨_, x0, l0, hk, _, _⟩ := headM_ne hne
        rw [hk]; simp
      have hls : lsubV 5 (.lst (n.kids.map Nd.p)) (some (.int .i64 1)) none none = some (.lst ((n.kids.drop 1).map Nd.p)) := by
        rw [List.map_drop]
        refine lsub_drop (i := 1) rfl (by simpa using hpos) ?_
        intro e he
        obtain ⟨y, _, rfl⟩ := List.mem_map.1 he
        rw [Nd.p_cells]; rfl
      cases h1 : condsM f t g (n.kids.drop 1) [] with
      | error e =>
        rw [h1] at hc
        simp only [condsV, wrongV] at hc
        have hne := (cond_err f t g).2 _ _ _ h1
        simp only [e_ref12_one, go_sem, Nd.cells, hh, hkd, eq_false h0, eq_false h2, hls, hc, eq_false hne, ne_eq]
        exact Good.done (RetQ.mk rfl ⟨Ce.mk 0 [] ptNone exNone [], by rw [Ce.p_eq]; rfl⟩)
      | ok ks =>
        rw [h1] at hc
        simp only [condsV, noneW] at hc
        simp only
        have e1 : ∀ a b : Nat, ((a : Int) = (b : Int)) = (a = b) := fun a b => propext ⟨fun h => by omega, fun h => by rw [h]⟩
        have q0 : ((ks.length : Int) = 0) = (ks.length = 0) := e1 ks.length 0
        have q1 : ((ks.length : Int) = 1) = (ks.length = 1) := e1 ks.length 1
        have q2 : ((ks.length : Int) < 2) = (ks.length < 2) := propext ⟨fun h => by omega, fun h => by omega⟩
        by_cases hbad : ks.length = 0 ∨ (k = 3 ∧ ks.length ≠ 1) ∨ (k = 7 ∧ ks.length < 2)
        · rw [if_pos hbad]
          have hb : (((decide (ks.length = 0) || (decide (k = 3) && decide ¬ (ks.length = 1))) || (decide (k = 7) && decide (ks.length < 2))) = true) := by
            simp only [Bool.or_eq_true, Bool.and_eq_true, decide_eq_true_eq]
            rcases hbad with h | h | h
            · exact .inl (.inl h)
            · exact .inl (.inr h)
            · exact .inr h
          simp only [Bool.or_eq_true, Bool.and_eq_true, decide_eq_true_eq] at hb
          simp only [e_ref12_one, go_sem, Nd.cells, hh, hkd, eq_false h0, eq_false h2, hls, hc, List.length_map, q0, q1, q2, hat, ne_eq, hb]
          exact Good.done (RetQ.mk rfl ⟨Ce.mk 0 [] ptNone exNone [], by rw [Ce.p_eq]; rfl⟩)
        · rw [if_neg hbad]
          have hb : ¬ ((ks.length = 0 ∨ (k = 3 ∧ ¬ ks.length = 1)) ∨ (k = 7 ∧ ks.length < 2)) := by
            rintro ((h | h) | h)
            · exact hbad (.inl h)
            · exact hbad (.inr (.inl h))
            · exact hbad (.inr (.inr h))
          simp only [e_ref12_one, go_sem, Nd.cells, hh, hkd, eq_false h0, eq_false h2, hls, hc, List.length_map, q0, q1, q2, ne_eq, eq_false hb]
          exact Good.done (RetQ.mk rfl (by show _ = _; rw [Ce.p_eq]; rfl))
end
end Go.Proofs.YtgjklaobjnjhpaaGreatPe.Normz

/- The document's rows of conditions. -/
set_option linter.unusedVariables false
set_option linter.unusedSimpArgs false
set_option maxRecDepth 100000
namespace Go.Proofs.YtgjklaobjnjhpaaGreatPe.Normz
open Go Go.Proofs Go.Proofs.YtgjklaobjnjhpaaGreatPe Go.Proofs.YtgjklaobjnjhpaaGreatPe.NormzCode

theorem Nd.szs_drop (l : List Nd) (d : Nat) : Nd.szs (l.drop d) ≤ Nd.szs l := by
  have := Nd.szs_append (l.take d) (l.drop d)
  rw [List.take_append_drop] at this
  omega
theorem conds_t {t : List Tm} {g : List Sg} (ht : t.length ≤ 1000000) (hts : ∀ x ∈ t, x.l.length ≤ 1000000) (hg : g.length ≤ 1000000) : ∀ (f : Nat) (l : List Nd), 2 * Nd.szs l + 1 ≤ f → Nd.szs l ≤ 1000000 →
    tupV (callE efns given) (.call 0 f_ref12_Parse) [.lst (l.map Nd.p), .lst (t.map Tm.p), .lst (g.map Sg.p)] = some (condsV (condsM f t g l [])) := by
  intro f
  induction f using Nat.strongRecOn with
  | _ f IH =>
    intro l hf hsl
    have hll := Nd.len_sz l
    have hone : ∀ (f' : Nat) (n : Nd), f' < f → 2 * n.sz ≤ f' → n.sz ≤ 1000000 → ∃ r, tupV (callE efns given) (.call 0 f_ref12_one) [n.p, .lst (t.map Tm.p), .lst (g.map Sg.p)] = some r ∧ condQ (condM f' t g n) r := by
      intro f' n h1 h2 h3
      cases f' with
      | zero => rw [Nd.sz_eq] at h2; omega
      | succ f' => exact one_of_conds ht hts hg (fun l hl hs => IH f' (by omega) l hl hs) n h2 h3
    have hat := fun p e => at_t (p := p) (e := e)
    unfold sChar wrongV at hat
    refine call_good (f := f_ref12_Parse) rfl ?_
    rw [callE_fn efns given (c := e_ref12_Parse) rfl rfl]
    simp only [e_ref12_Parse, go_sem]
    generalize hL : condsM f t g l [] = L
    refine Good.loop (fun n : Nat => l.length - n) (fun n fr st => n ≤ l.length ∧ ∃ out rows rt bs bts acc f', fr = [.lst (l.map Nd.p), .lst (t.map Tm.p), .lst (g.map Sg.p), .ptr 0 0, out, .int .i64 (n : Int)] ++ List.replicate 19 .undef ∧
      st = ⟨[.nils, .int .i64 0] :: bs, rows, bts, rt⟩ ∧ OutV 11 T_ref12_Parse_0 (acc.map Ce.p) out rows rt ∧ rt.length = rows.length ∧ acc.length ≤ n ∧ f' ≤ f ∧ 2 * Nd.szs (l.drop n) + 1 ≤ f' ∧ L = condsM f' t g (l.drop n) acc) ?_ 0 ?_
    · rintro n fr st ⟨hn, out, rows, rt, bs, bts, acc, f', rfl, rfl, hO, hr, hal, hf1, hf2, he⟩ k hk
      obtain ⟨f', rfl⟩ : ∃ q, f' = q + 1 := ⟨f' - 1, by omega⟩
      by_cases hn' : n < l.length
      · have c1 : ((n : Int) < (l.length : Int)) = True := eq_true (by omega)
        have xat := Nd.at_ hn'
        have hd1 := List.drop_eq_getElem_cons hn'
        have hxz : Nd.szs (l.drop n) = l[n].sz + Nd.szs (l.drop (n + 1)) := by rw [hd1, Nd.szs]
        have hszn := Nd.szs_drop l n
        rw [hd1] at he
        generalize l[n] = x at xat he hxz
        unfold condsM at he
        simp only at he
        by_cases h6 : x.k = 6
        · rw [if_pos h6] at he
          by_cases hr2 : n + 2 < l.length
          · have hd2 := List.drop_eq_getElem_cons (l := l) (i := n + 1) (by omega)
            have hd3 := List.drop_eq_getElem_cons (l := l) (i := n + 1 + 1) (by omega)
            have aat := Nd.at_ (l := l) (n := n + 1) (by omega)
            have bat := Nd.at_ (l := l) (n := n + 2) (by omega)
            have hz2 : Nd.szs (l.drop (n + 1)) = l[n + 1].sz + (l[n + 1 + 1].sz + Nd.szs (l.drop (n + 1 + 1 + 1))) := by rw [hd2, Nd.szs, hd3, Nd.szs]
            rw [hd2, hd3] at he
            have w1 : IntKind.i64.wrap ((n : Int) + 1) = ((n + 1 : Nat) : Int) := wrapN (by omega)
            have w2 : IntKind.i64.wrap ((n : Int) + 2) = ((n + 2 : Nat) : Int) := by rw [IntKind.wrap_i64]; omega
            have w3 : IntKind.i64.wrap (((n + 2 : Nat) : Int) + 1) = ((n + 2 + 1 : Nat) : Int) := wrapN (by omega)
            have c2 : (((n + 2 : Nat) : Int) ≥ (l.length : Int)) = False := eq_false (by omega)
            generalize l[n + 1] = a at aat he hz2
            generalize l[n + 1 + 1] = b at bat he hz2
            have hs : tupV (callE efns given) (.call 0 f_ref5_Same) [a.p, (symN [60, 45]).p] = some (.bool (Nd.same a (symN sArrow))) := nsame_t a.sz a (symN [60, 45]) (Nat.le_refl _) (by omega)
            have hsy := symN_t (s := [60, 45])
            have hp := pat_t b t ht hts (by omega)
            rw [Nd.p_eq a] at hs
            rw [Nd.p_eq b] at hp
            simp only [Nd.cells] at hs hp
            simp only at he
            by_cases g1 : Nd.same a (symN sArrow) = true
            · rw [g1] at hs
              by_cases g2 : b.k = 0
              · rw [if_pos (And.intro g1 g2)] at he
                cases h1 : patM b t with
                | error e =>
                  rw [h1] at he hp
                  simp only [patV, Pt.p, Pt.cells, List.map_nil, wrongV] at hp
                  have hne := patM_err h1
                  simp only [b_ref12_Parse_0, go_sem, Nd.cells, List.length_map, c1, xat, eq_true h6, w1, w2, c2, aat, hsy, hs, bat, eq_true g2, hp, eq_false hne, ne_eq]
                  exact Good.done (by rw [he]; rfl)
                | ok p =>
                  rw [h1] at he hp
                  simp only [patV, Pt.p, Pt.cells, noneW] at hp
                  simp only at he
                  obtain ⟨out', rows', rt', ap, hO', hr', _⟩ := hO.app1 (b := 168) hr (e := .agg [.int .i64 1, .str x.s, .str p.t, .lst (p.l.map Ts.p), .int .i64 0, .int .i64 0, .int .i64 0, .str [], .str [], .nils, .nils]) rfl (by simp; omega)
                  have bs1 : tupV (callE efns given) (.bslice 11 [.int .i64 0, .str [], .str [], .nils, .int .i64 0, .int .i64 0, .int .i64 0, .str [], .str [], .nils, .nils] 1 [0]) [.agg [.int .i64 1, .str x.s, .str p.t, .lst (p.l.map Ts.p), .int .i64 0, .int .i64 0, .int .i64 0, .str [], .str [], .nils, .nils]] =
                      some (.full [.agg [.int .i64 1, .str x.s, .str p.t, .lst (p.l.map Ts.p), .int .i64 0, .int .i64 0, .int .i64 0, .str [], .str [], .lst [], .lst []]]) := V_bs1 rfl rfl rfl
                  obtain ⟨out', rows', rt', ap, hO', hr', _⟩ := hO.app1 (b := 168) hr (e := .agg [.int .i64 1, .str x.s, .str p.t, .lst (p.l.map Ts.p), .int .i64 0, .int .i64 0, .int .i64 0, .str [], .str [], .lst [], .lst []]) rfl (by simp; omega)
                  simp only [b_ref12_Parse_0, go_sem, Nd.cells, List.length_map, c1, xat, eq_true h6, w1, w2, c2, aat, hsy, hs, bat, eq_true g2, hp, bs1, ap, w3, ne_eq]
                  refine hk (n + 2 + 1) _ _ (by omega) ⟨by omega, out', rows', rt', _, _, acc ++ [.mk 1 x.s p exNone []], f', rfl, rfl, ?_, hr', by simp; omega, by omega, by rw [show n + 2 + 1 = n + 1 + 1 + 1 from rfl]; have := Nd.sz_eq x; omega, he⟩
                  rw [List.map_append, List.map_singleton, Ce.p_eq]
                  exact hO'
              · rw [if_neg (fun h : Nd.same a (symN sArrow) = true ∧ b.k = 0 => g2 h.2)] at he
                simp only [b_ref12_Parse_0, go_sem, Nd.cells, List.length_map, c1, xat, eq_true h6, w1, w2, c2, aat, hsy, hs, bat, eq_false g2, hat, ne_eq]
                exact Good.done (by rw [he]; rfl)
            · rw [if_neg (fun h : Nd.same a (symN sArrow) = true ∧ b.k = 0 => g1 h.1)] at he
              rw [Bool.not_eq_true] at g1
              rw [g1] at hs
              simp only [b_ref12_Parse_0, go_sem, Nd.cells, List.length_map, c1, xat, eq_true h6, w1, w2, c2, aat, hsy, hs, hat, ne_eq]
              exact Good.done (by rw [he]; rfl)
          · have w2 : IntKind.i64.wrap ((n : Int) + 2) = ((n + 2 : Nat) : Int) := by rw [IntKind.wrap_i64]; omega
            have c2 : (((n + 2 : Nat) : Int) ≥ (l.length : Int)) = True := eq_true (by omega)
            have he2 : L = .error (x.pos, 2) := by
              rw [he]
              have hlen : (l.drop (n + 1)).length < 2 := by rw [List.length_drop]; omega
              match l.drop (n + 1), hlen with
              | [], _ => rfl
              | [_], _ => rfl
            simp only [b_ref12_Parse_0, go_sem, Nd.cells, List.length_map, c1, xat, eq_true h6, w2, c2, hat, ne_eq]
            exact Good.done (by rw [he2]; rfl)
        · rw [if_neg h6] at he
          obtain ⟨r, hr1, hq⟩ := hone f' x (by omega) (by omega) (by omega)
          rw [Nd.p_eq] at hr1
          simp only [Nd.cells] at hr1
          cases h1 : condM f' t g x with
          | error e =>
            rw [h1] at he hq
            obtain ⟨c, rfl⟩ := hq
            have hne := (cond_err f' t g).1 _ _ h1
            simp only [Ce.p_eq, Ce.cells, wrongV] at hr1
            simp only [b_ref12_Parse_0, go_sem, Nd.cells, List.length_map, c1, xat, eq_false h6, hr1, eq_false hne, ne_eq]
            exact Good.done (by rw [he]; rfl)
          | ok c =>
            rw [h1] at he hq
            subst hq
            simp only at he
            simp only [Ce.p_eq, Ce.cells, noneW] at hr1
            obtain ⟨out', rows', rt', ap, hO', hr', _⟩ := hO.app1 (b := 168) hr (e := .agg c.cells) rfl (by simp; omega)
            simp only [Ce.cells] at ap
            simp only [b_ref12_Parse_0, go_sem, Nd.cells, List.length_map, c1, xat, eq_false h6, hr1, V_bs1, ap, wrapN (n := n) (by omega), ne_eq]
            refine hk (n + 1) _ _ (by omega) ⟨by omega, out', rows', rt', _, _, acc ++ [c], f', rfl, rfl, ?_, hr', by simp; omega, by omega, by have := Nd.sz_eq x; omega, he⟩
            rw [List.map_append, List.map_singleton, Ce.p_eq]
            exact hO'
      · have c1 : ((n : Int) < (l.length : Int)) = False := eq_false (by omega)
        rw [List.drop_eq_nil_of_le (i := n) (by omega)] at he
        unfold condsM at he
        simp only [b_ref12_Parse_0, go_sem, List.length_map, c1]
        refine Good.done ?_
        rw [he]
        exact ret_tup (mS (hO.shutR _ _) (mS rfl mN))
    · exact ⟨Nat.zero_le _, .nils, [], [], [], _, [], f, rfl, rfl, .nils, rfl, Nat.le_refl _, Nat.le_refl _, hf, hL.symm⟩
end Go.Proofs.YtgjklaobjnjhpaaGreatPe.Normz

/- Conditions made plain: counting, putting, joining. -/
set_option linter.unusedVariables false
set_option linter.unusedSimpArgs false
set_option maxRecDepth 100000
namespace Go.Proofs.YtgjklaobjnjhpaaGreatPe.Normz
open Go Go.Proofs Go.Proofs.YtgjklaobjnjhpaaGreatPe Go.Proofs.YtgjklaobjnjhpaaGreatPe.NormzCode

abbrev Rw := List Ce
def rowP (r : Rw) : PV := .lst (r.map Ce.p)
theorem rowP_cells (r : Rw) : (rowP r).cells = [rowP r] := rfl

/-! ### Counting -/
theorem Ce.szs_take_succ {l : List Ce} {n : Nat} (h : n < l.length) : Ce.szs (l.take (n + 1)) = Ce.szs (l.take n) + l[n].sz := by
  rw [take_succ_at h, Ce.szs_append]
  simp [Ce.szs]
theorem Ce.szs_take_le (l : List Ce) (n : Nat) : Ce.szs (l.take n) ≤ Ce.szs l := by
  have := Ce.szs_append (l.take n) (l.drop n)
  rw [List.take_append_drop] at this
  omega
theorem count_t : ∀ (m : Nat) (l : List Ce), Ce.szs l < m → m ≤ 1000000 → tupV (callE efns given) (.call 0 f_norm_Count) [.lst (l.map Ce.p)] = some (.int .i64 (Ce.szs l : Int)) := by
  intro m
  induction m with
  | zero => intro l h; omega
  | succ m ih =>
    intro l hm hle
    have hkl := Ce.len_sz l
    refine call_good (f := f_norm_Count) rfl ?_
    rw [callE_fn efns given (c := e_norm_Count) rfl rfl]
    simp only [e_norm_Count, go_sem, List.length_map]
    refine Good.for l.length (fun n fr st => ∃ v : Nat, fr = [.undef, .int .i64 (v : Int), .undef, .lst (l.map Ce.p), .int .i64 (l.length : Int), .int .i64 (n : Int), .undef] ∧ v + n = l.length + Ce.szs (l.take n)) ?_ ?_ ?_
    · rintro n fr ⟨bs, rows, bts, rt⟩ hn ⟨v, rfl, hv⟩ k hk
      have c1 : ((n : Int) < (l.length : Int)) = True := eq_true (by omega)
      have hsz := Ce.sz_mem (List.getElem_mem hn)
      have hse := Ce.sz_eq l[n]
      have h1 := ih l[n].kids (by omega) (by omega)
      have h2 := Ce.szs_take_succ hn
      have h3 := Ce.szs_take_le l (n + 1)
      have h4 := Ce.szs_take_le l n
      have w : IntKind.i64.wrap ((v : Int) + ((Ce.szs l[n].kids : Nat) : Int)) = ((v + Ce.szs l[n].kids : Nat) : Int) := by rw [IntKind.wrap_i64]; omega
      simp only [b_norm_Count_0, go_sem, Ce.cells, Ce.at_ hn, c1, h1, w, wrapN (n := n) (by omega)]
      exact hk _ _ ⟨_, rfl, by omega⟩
    · rintro fr ⟨bs, rows, bts, rt⟩ ⟨v, rfl, hv⟩ k
      rw [List.take_length] at hv
      have : v = Ce.szs l := by omega
      simp only [b_norm_Count_0, go_sem, Int.lt_irrefl]
      exact Good.done (by rw [this]; rfl)
    · exact ⟨l.length, rfl, by simp [Ce.szs]⟩
theorem count_f {l : List Ce} (h : Ce.szs l < 1000000) : tupV (callE efns given) (.call 0 f_norm_Count) [.lst (l.map Ce.p)] = some (.int .i64 (Ce.szs l : Int)) := count_t 1000000 l h (Nat.le_refl _)

/-! ### Clip -/
theorem clipM {n : Nat} {l : List PV} : lsubV n (.lst l) none (some (.int .i64 (l.length : Int))) (some (.int .i64 (l.length : Int))) = some (.full l) := by
  simp only [lsubV, n_lst, slcOf, bnd]
  rw [if_pos ⟨by omega, by omega⟩]
  simp [sizesOk]
theorem clipRow_t (l : List PV) : tupV (callE efns given) (.call 1 f_slices_Clip_norm_row_norm_Lit) [.lst l] = some (.full l) := by
  have key : callE efns given f_slices_Clip_norm_row_norm_Lit [.lst l] ⟨[], [], [], []⟩ = some (.full l, ⟨[], [], [], []⟩) := by
    rw [callE_fn efns given (c := e_slices_Clip_norm_row_norm_Lit) rfl rfl]
    simp only [e_slices_Clip_norm_row_norm_Lit, go_sem, clipM]
  exact callV_of rfl key rfl
theorem clipLit_t (l : List PV) : tupV (callE efns given) (.call 1 f_slices_Clip_norm_Lit_norm_Lit) [.lst l] = some (.full l) := by
  have key : callE efns given f_slices_Clip_norm_Lit_norm_Lit [.lst l] ⟨[], [], [], []⟩ = some (.full l, ⟨[], [], [], []⟩) := by
    rw [callE_fn efns given (c := e_slices_Clip_norm_Lit_norm_Lit) rfl rfl]
    simp only [e_slices_Clip_norm_Lit_norm_Lit, go_sem, clipM]
  exact callV_of rfl key rfl
theorem clipTest_t (l : List PV) : tupV (callE efns given) (.call 1 f_slices_Clip_pat_Test_pat_Test) [.lst l] = some (.full l) := by
  have key : callE efns given f_slices_Clip_pat_Test_pat_Test [.lst l] ⟨[], [], [], []⟩ = some (.full l, ⟨[], [], [], []⟩) := by
    rw [callE_fn efns given (c := e_slices_Clip_pat_Test_pat_Test) rfl rfl]
    simp only [e_slices_Clip_pat_Test_pat_Test, go_sem, clipM]
  exact callV_of rfl key rfl
theorem clipExpr_t (l : List PV) : tupV (callE efns given) (.call 1 f_slices_Clip_expr_Expr_expr_Expr) [.lst l] = some (.full l) := by
  have key : callE efns given f_slices_Clip_expr_Expr_expr_Expr [.lst l] ⟨[], [], [], []⟩ = some (.full l, ⟨[], [], [], []⟩) := by
    rw [callE_fn efns given (c := e_slices_Clip_expr_Expr_expr_Expr) rfl rfl]
    simp only [e_slices_Clip_expr_Expr_expr_Expr, go_sem, clipM]
  exact callV_of rfl key rfl
theorem clipPat_t (l : List PV) : tupV (callE efns given) (.call 1 f_slices_Clip_pat_Pattern_pat_Pattern) [.lst l] = some (.full l) := by
  have key : callE efns given f_slices_Clip_pat_Pattern_pat_Pattern [.lst l] ⟨[], [], [], []⟩ = some (.full l, ⟨[], [], [], []⟩) := by
    rw [callE_fn efns given (c := e_slices_Clip_pat_Pattern_pat_Pattern) rfl rfl]
    simp only [e_slices_Clip_pat_Pattern_pat_Pattern, go_sem, clipM]
  exact callV_of rfl key rfl
theorem clip_of {f : FuncId} {cl : CallF} {l : List PV} {x : PV} {r : PV} (h : SlV l x) (hc : tupV cl (.call 1 f) [.lst l] = some r) : tupV cl (.call 1 f) [x] = some r := by
  rw [← hc]
  exact tup_shut (mS (h.shutA _) mN |>.trans (mS rfl mN).symm)
theorem arg_of {f : FuncId} {cl : CallF} {l : List PV} {x : PV} {r : PV} (h : SlV l x) (hc : tupV cl (.call 0 f) [.lst l] = some r) : tupV cl (.call 0 f) [x] = some r := by
  rw [← hc]
  exact tup_shut (mS (h.shutA _) mN |>.trans (mS rfl mN).symm)

/-! ### Putting -/
abbrev Ei (α : Type) := Except Int α
def putM (out : List Rw) (r : Rw) : Ei (List Rw) := if out.length ≥ 16 ∨ Ce.szs r > 40 then .error 4 else .ok (out ++ [r])
theorem put_ok {out : List Rw} {r : Rw} {xo xr : PV} {st : St} (hO : OutV 1 T_norm_put_0 (out.map rowP) xo st.rows st.rt) (hR : SlV (r.map Ce.p) xr) (hr : st.rt.length = st.rows.length) (hs : Ce.szs r < 1000000) :
    ∃ v st', callE efns given f_norm_put [xo, xr] st = some (v, st') ∧ st'.boxes = st.boxes ∧ st'.bt = st.bt ∧ match putM out r with
      | .error e => v = .tuple [.nils, .int .i64 e] ∧ e = 4 ∧ st'.rows = st.rows ∧ st'.rt = st.rt
      | .ok o => ∃ x, v = .tuple [x, .int .i64 0] ∧ OutV 1 T_norm_put_0 (o.map rowP) x st'.rows st'.rt ∧ st'.rt.length = st'.rows.length := by
  obtain ⟨bs, rows, bts, rt⟩ := st
  have hc := arg_of hR (count_f hs)
  have hcl := clip_of hR (clipRow_t (r.map Ce.p))
  rw [callE_fn efns given (c := e_norm_put) rfl rfl]
  unfold putM
  have q1 : ((out.length : Int) ≥ 16) = (out.length ≥ 16) := propext ⟨fun h => by omega, fun h => by omega⟩
  have q2 : (((Ce.szs r : Nat) : Int) > 40) = (Ce.szs r > 40) := propext ⟨fun h => by omega, fun h => by omega⟩
  by_cases h : out.length ≥ 16 ∨ Ce.szs r > 40
  · rw [if_pos h]
    simp only [e_norm_put, go_sem, hO.len, List.length_map, hc, q1, q2, h]
    exact ⟨_, _, rfl, rfl, rfl, rfl, rfl, rfl⟩
  · rw [if_neg h]
    obtain ⟨out', rows', rt', ap, hO', hr', _⟩ := hO.app1 (b := 24) hr (e := rowP r) rfl (by simp; omega)
    unfold rowP at ap
    simp only [e_norm_put, go_sem, hO.len, List.length_map, hc, q1, q2, eq_false h, hcl, ap]
    exact ⟨_, _, rfl, rfl, rfl, _, rfl, by rw [List.map_append, List.map_singleton]; exact hO', hr'⟩
end Go.Proofs.YtgjklaobjnjhpaaGreatPe.Normz

