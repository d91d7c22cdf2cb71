/- A part of the proof of this folder's statement; it has no condition of its own. -/
import Derived.Test.YtnlknpeelpnbaaaGreatDoorReadBy
set_option linter.unusedVariables false
set_option linter.unusedSimpArgs false
set_option maxRecDepth 100000
namespace Go.Proofs.YtnlknpeelpnbaaaGreatDoorPe.Read
open Go Go.Proofs Go.Proofs.YtnlknpeelpnbaaaGreatDoorPe Go.Proofs.YtnlknpeelpnbaaaGreatDoorPe.ReadCode
theorem scanM_sign {c : UInt8} {k : Int} (h : (c = 40 /\ k = 4) \/ (c = 41 /\ k = 5) \/ (c = 126 /\ k = 8)) (p : Nat) (r : List UInt8) : scanM p (c :: r) = match scanM (p + 1) r with
  | .error e => .error e
  | .ok l => .ok (⟨k, p, 0, []⟩ :: l) := by
 have hs : skipM false (c :: r) = c :: r := by
  rcases h with ⟨rfl, _⟩ | ⟨rfl, _⟩ | ⟨rfl, _⟩ <;> rfl
 have ho : oneM (c :: r) = .ok (⟨k, 0, []⟩, 1) := by
  rcases h with ⟨rfl, rfl⟩ | ⟨rfl, rfl⟩ | ⟨rfl, rfl⟩ <;> rfl
 rw [scanM_cons hs, ho]
 simp only [List.length_cons, Nat.sub_self, Nat.add_zero, List.drop_zero, Nat.zero_add]
 all_goals rfl
theorem scan_close : ∀ (m p : Nat), scanM p (List.replicate m 41) = .ok ((List.range' p m).map fun q => ⟨5, q, 0, []⟩)
 | 0, p => scanM_nil rfl
 | m + 1, p => by
  rw [List.replicate_succ, scanM_sign (.inr (.inl ⟨rfl, rfl⟩)), scan_close m (p + 1)]
  rfl
theorem scan_deep : ∀ (n m p : Nat), scanM p (List.replicate n 40 ++ List.replicate m 41) = .ok (((List.range' p n).map fun q => ⟨4, q, 0, []⟩) ++ (List.range' (p + n) m).map fun q => ⟨5, q, 0, []⟩)
 | 0, m, p => by simpa using scan_close m p
 | n + 1, m, p => by
  rw [List.replicate_succ, List.cons_append, scanM_sign (.inl ⟨rfl, rfl⟩), scan_deep n m (p + 1)]
  have e : p + 1 + n = p + (n + 1) := by omega
  rw [e]
  rfl
def depthB (n : Nat) : Bool :=
 match runM (2 * n + 1) (((List.range' 0 n).map fun q => (⟨4, q, 0, []⟩ : Tok)) ++ (List.range' n n).map fun q => (⟨5, q, 0, []⟩ : Tok)) ⟨0, [], []⟩ with
 | .error e => decide (32 < n) && decide (e.1 = 32) && decide (e.2 = 4)
 | .ok l => decide (n <= 32) && (match l with
  | [] => decide (n = 0)
  | [x] => decide (x.sz = n) && decide (0 < n)
  | _ => false)
theorem depth_run : (List.range 61).all depthB = true := by kernel_rfl
def deepS (n : Nat) : List UInt8 := List.replicate n 40 ++ List.replicate n 41
theorem deep_read {n : Nat} (h : n <= 60) : (32 < n /\ readM (deepS n) = .error (32, 4)) \/ (n = 0 /\ readM (deepS n) = .ok []) \/ (n <= 32 /\ 0 < n /\ ∃ x, readM (deepS n) = .ok [x] /\ x.sz = n) := by
 have hr := List.all_eq_true.1 depth_run n (List.mem_range.2 (by omega))
 have hs := scan_deep n n 0
 rw [Nat.zero_add] at hs
 have hl : (deepS n).length = 2 * n := by unfold deepS; simp; omega
 have hm : readM (deepS n) = runM (2 * n + 1) (((List.range' 0 n).map fun q => (⟨4, q, 0, []⟩ : Tok)) ++ (List.range' n n).map fun q => (⟨5, q, 0, []⟩ : Tok)) ⟨0, [], []⟩ := by
  have h2 : scanL (deepS n) = .ok (((List.range' 0 n).map fun q => (⟨4, q, 0, []⟩ : Tok)) ++ (List.range' n n).map fun q => (⟨5, q, 0, []⟩ : Tok)) := by
   unfold scanL
   rw [if_neg (by omega)]
   exact hs
  unfold readM
  rw [h2]
  simp only
  rw [<- run_read (fun t ht => plain_of (scanL_kind h2 t ht))]
  have : (((List.range' 0 n).map fun q => (⟨4, q, 0, []⟩ : Tok)) ++ (List.range' n n).map fun q => (⟨5, q, 0, []⟩ : Tok)).length + 1 = 2 * n + 1 := by simp; omega
  rw [this]
 unfold depthB at hr
 rw [<- hm] at hr
 split at hr
 ·rename_i e he
  obtain ⟨p, e⟩ := e
  simp only [Bool.and_eq_true, decide_eq_true_eq] at hr
  obtain ⟨⟨h1, rfl⟩, rfl⟩ := hr
  exact .inl ⟨h1, he⟩
 ·rename_i l hl
  simp only [Bool.and_eq_true, decide_eq_true_eq] at hr
  obtain ⟨h1, h2⟩ := hr
  split at h2
  ·exact .inr (.inl ⟨by simpa using h2, hl⟩)
  ·rename_i x
   simp only [Bool.and_eq_true, decide_eq_true_eq] at h2
   exact .inr (.inr ⟨h1, h2.2, x, hl, h2.1⟩)
  ·cases h2
theorem depths_law (n : Int) (hn : I64 n) : IsTrue (callE efns given f_law5_ReadDepths [.int .i64 n] ⟨[], [], [], []⟩) := by
 rw [callE_fn efns given (c := e_law5_ReadDepths) rfl rfl]
 have hk := known_t
 by_cases h1 : n < 0
 ·simp only [e_law5_ReadDepths, go_sem, hk, eq_true h1]
  exact Good.done rfl
 by_cases h2 : n > 60
 ·simp only [e_law5_ReadDepths, go_sem, hk, eq_false h1, eq_true h2]
  exact Good.done rfl
 obtain ⟨m, rfl⟩ : ∃ m : Nat, n = m := ⟨n.toNat, by omega⟩
 have hm : m <= 60 := by omega
 simp only [e_law5_ReadDepths, go_sem, hk, eq_false h1, eq_false h2]
 refine Good.for m (fun i fr st => fr = [.int .i64 (m : Int), .str (List.replicate i 40), .int .i64 (i : Int), .undef, .undef, .undef, .undef] /\ st = ⟨[], [], [], []⟩) ?_ ?_ ?_
 ·rintro i fr st hi ⟨rfl, rfl⟩ k hk'
  have c1 : ((i : Int) < (m : Int)) = True := eq_true (by omega)
  have c2 : (i + 1 <= 4611686018427387904) = True := eq_true (by omega)
  simp only [b_law5_ReadDepths_0, go_sem, c1, c2, wrapN (n := i) (by omega), List.length_replicate, List.length_cons, List.length_nil]
  refine hk' _ _ ⟨?_, rfl⟩
  rw [List.replicate_succ']
 ·rintro fr st ⟨rfl, rfl⟩ k
  simp only [b_law5_ReadDepths_0, go_sem, Int.lt_irrefl]
  refine Good.for m (fun i fr st => fr = [.int .i64 (m : Int), .str (List.replicate m 40 ++ List.replicate i 41), .undef, .int .i64 (i : Int), .undef, .undef, .undef] /\ st = ⟨[], [], [], []⟩) ?_ ?_ ?_
  ·rintro i fr st hi ⟨rfl, rfl⟩ k hk'
   have c1 : ((i : Int) < (m : Int)) = True := eq_true (by omega)
   have c2 : (m + i + 1 <= 4611686018427387904) = True := eq_true (by omega)
   simp only [b_law5_ReadDepths_1, go_sem, c1, c2, wrapN (n := i) (by omega), List.length_append, List.length_replicate, List.length_cons, List.length_nil]
   refine hk' _ _ ⟨?_, rfl⟩
   rw [List.replicate_succ']
  ·rintro fr st ⟨rfl, rfl⟩ k
   have r1 := sread_t (deepS m)
   have hat := at_t (p := 32) (e := 4)
   have htb : unV .tobytes (.str (List.replicate m 40 ++ List.replicate m 41)) = some (.lst (byts (deepS m))) := rfl
   rcases deep_read hm with ⟨h3, h4⟩ | ⟨rfl, h4⟩ | ⟨h3, h5, x, h4, h6⟩
   ·have ht := tells_at (p := 32) (e := 4) (by decide) (by decide) (by decide) (by decide)
    rw [h4] at r1
    simp only [sreadV] at r1
    have c3 : ((m : Int) > 32) = True := eq_true (by omega)
    simp only [sChar] at hat
    simp only [b_law5_ReadDepths_1, go_sem, Int.lt_irrefl, htb, r1, c3, hat, ht, List.length_nil]
    exact Good.done rfl
   ·rw [h4] at r1
    simp only [sreadV, List.map_nil] at r1
    have c3 : ((0 : Int) > 32) = False := eq_false (by decide)
    have c4 : (((0 : Nat) : Int) = 0) = True := eq_true rfl
    have c5 : (((0 : Nat) : Int) > 32) = False := eq_false (by decide)
    have r1' : tupV (callE efns given) (.call 0 f_sexp_Read) [.lst []] = some (.tuple [.lst [], .nili]) := r1
    have htb' : unV .tobytes (.str []) = some (.lst []) := rfl
    simp only [b_law5_ReadDepths_1, go_sem, Int.lt_irrefl, htb', r1', c3, c4, c5, List.length_nil]
    exact Good.done rfl
   ·rw [h4] at r1
    simp only [sreadV, List.map_cons, List.map_nil] at r1
    have c3 : ((m : Int) > 32) = False := eq_false (by omega)
    have c4 : ((m : Int) = 0) = False := eq_false (by omega)
    have c5 : ((m : Int) > 0) = True := eq_true (by omega)
    have hat2 : evIdx 5 [x.p] 0 = some (.ref x.cells) := Nd.at0 (x := x) (l := [])
    have hcnt := scount_t _ x (Nat.le_refl _) (by omega)
    rw [h6, Nd.p_eq] at hcnt
    simp only [Nd.cells] at hcnt hat2
    simp only [b_law5_ReadDepths_1, go_sem, Int.lt_irrefl, htb, r1, c3, c4, c5, hat2, hcnt, List.length_cons, List.length_nil]
    exact Good.done rfl
  ·exact ⟨by simp, rfl⟩
 ·exact ⟨rfl, rfl⟩
end Go.Proofs.YtnlknpeelpnbaaaGreatDoorPe.Read
