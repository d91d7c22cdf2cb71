/- A part of the proof of this folder's statement; it has no condition of its own. -/
import Derived.Test.YtgjklaobjnjhpaaGreatNormzZb
/- The document's alternatives, rows, all. -/
set_option linter.unusedVariables false
set_option linter.unusedSimpArgs false
set_option maxRecDepth 100000
namespace Go.Proofs.YtgjklaobjnjhpaaGreatPe.Normz
open Go Go.Proofs Go.Proofs.YtgjklaobjnjhpaaGreatPe Go.Proofs.YtgjklaobjnjhpaaGreatPe.NormzCode

set_option maxHeartbeats 4000000 in
theorem alts_of {f : Nat} (IH : ∀ f', f' ≤ f → RefOk f') (c : Ce) (hw : Ce.Wc c) (hf : 3 * c.sz ≤ f + 1) (hl : c.sz ≤ 100000) : tupV (callE efns given) (.call 0 f_ref12_alts) [.agg c.cells] = some (rowsV (oneN (f + 1) c)) := by
  have hsz := Ce.sz_eq c
  obtain ⟨h, hk⟩ := hw
  rcases h with k1 | k2 | k4 | k5 | ⟨k3, kl⟩ | k6 | ⟨k7, kl⟩
  · unfold oneN
    rw [if_pos k1]
    refine call_good (f := f_ref12_alts) rfl ?_
    rw [callE_fn efns given (c := e_ref12_alts) rfl rfl]
    simp only [e_ref12_alts, go_sem, Ce.cells, eq_true k1]
    exact Good.done (by rw [rowsV, List.map_singleton, rowP, List.map_singleton, Ce.p_eq]; rfl)
  · unfold oneN
    have q1 : ¬ c.k = 1 := by omega
    rw [if_neg q1, if_pos k2]
    refine call_good (f := f_ref12_alts) rfl ?_
    rw [callE_fn efns given (c := e_ref12_alts) rfl rfl]
    simp only [e_ref12_alts, go_sem, Ce.cells, eq_false q1, eq_true k2]
    exact Good.done (by rw [rowsV, List.map_singleton, rowP, List.map_singleton, Ce.p_eq]; rfl)
  · unfold oneN
    have q1 : ¬ c.k = 1 := by omega
    have q2 : ¬ c.k = 2 := by omega
    rw [if_neg q1, if_neg q2, if_neg (by omega), if_neg (by omega), if_neg (by omega), if_neg (by omega), if_pos (.inr k4)]
    have h1 := (IH f (Nat.le_refl _)).rows c.kids hk (by omega) (by omega)
    refine call_good (f := f_ref12_alts) rfl ?_
    rw [callE_fn efns given (c := e_ref12_alts) rfl rfl]
    cases hm : andN f c.kids [[]] with
    | error e =>
      rw [hm] at h1
      simp only [rowsV] at h1
      simp only [e_ref12_alts, go_sem, Ce.cells, eq_false q1, eq_false q2, eq_true k4, h1]
      exact Good.done rfl
    | ok y =>
      rw [hm] at h1
      simp only [rowsV] at h1
      simp only [e_ref12_alts, go_sem, Ce.cells, eq_false q1, eq_false q2, eq_true k4, h1]
      exact Good.done rfl
  · unfold oneN
    rw [if_neg (by omega), if_neg (by omega), if_pos k5]
    exact altsOr_of IH c hk k5 hf hl
  · obtain ⟨x, hx⟩ := List.length_eq_one_iff.1 kl
    rw [hx, Ce.szs, Ce.szs] at hsz
    have hxs := Ce.sz_eq x
    obtain ⟨f, rfl⟩ : ∃ q, f = q + 2 := ⟨f - 2, by omega⟩
    have q1 : ¬ c.k = 1 := by omega
    have q2 : ¬ c.k = 2 := by omega
    have q4 : ¬ c.k = 4 := by omega
    have q5 : ¬ c.k = 5 := by omega
    unfold oneN
    rw [if_neg q1, if_neg q2, if_neg q5, if_pos k3, hx, and_one]
    have h1 := (IH (f + 1) (by omega)).alts x (hk x (by rw [hx]; simp)) (by omega) (by omega)
    have xat : evIdx 11 [x.p] 0 = some (.ref x.cells) := by
      have := Ce.at_ (l := [x]) (n := 0) (by simp)
      simpa using this
    simp only [Ce.cells] at h1 xat
    refine call_good (f := f_ref12_alts) rfl ?_
    rw [callE_fn efns given (c := e_ref12_alts) rfl rfl]
    cases hm : oneN (f + 1) x with
    | error e =>
      rw [hm] at h1
      simp only [rowsV] at h1
      have hne := (all_err (f + 1)).1 _ _ hm
      simp only [e_ref12_alts, go_sem, Ce.cells, hx, List.map_cons, List.map_nil, eq_false q1, eq_false q2, eq_false q4, eq_false q5, eq_true k3, xat, h1, eq_false hne, ne_eq]
      exact Good.done rfl
    | ok y =>
      rw [hm] at h1
      simp only [rowsV] at h1
      have hym := (all_small _).1 _ _ hm
      have hng := rnegs_t (l := y) (by have := hym.1; omega)
      have hfit := fit_one (r := negsM y) (by have := (negsM_sz y hym).1; omega)
      simp only
      rw [put_fit]
      cases hF : fitR [negsM y] with
      | error e =>
        rw [hF] at hfit
        simp only [rowsV] at hfit
        simp only [e_ref12_alts, go_sem, Ce.cells, hx, List.map_cons, List.map_nil, eq_false q1, eq_false q2, eq_false q4, eq_false q5, eq_true k3, xat, h1, hng, hfit, ne_eq, not_true_eq_false]
        exact Good.done rfl
      | ok o =>
        rw [hF] at hfit
        simp only [rowsV] at hfit
        simp only [e_ref12_alts, go_sem, Ce.cells, hx, List.map_cons, List.map_nil, eq_false q1, eq_false q2, eq_false q4, eq_false q5, eq_true k3, xat, h1, hng, hfit, ne_eq, not_true_eq_false]
        exact Good.done rfl
  · have q1 : ¬ c.k = 1 := by omega
    have q2 : ¬ c.k = 2 := by omega
    have q3 : ¬ c.k = 3 := by omega
    have q4 : ¬ c.k = 4 := by omega
    have q5 : ¬ c.k = 5 := by omega
    unfold oneN
    rw [if_neg q1, if_neg q2, if_neg q5, if_neg q3, if_pos k6]
    have h1 := (IH f (Nat.le_refl _)).rows c.kids hk (by omega) (by omega)
    refine call_good (f := f_ref12_alts) rfl ?_
    rw [callE_fn efns given (c := e_ref12_alts) rfl rfl]
    cases hm : andN f c.kids [[]] with
    | error e =>
      rw [hm] at h1
      simp only [rowsV] at h1
      have hne := (all_err f).2.1 _ _ _ hm
      simp only [e_ref12_alts, go_sem, Ce.cells, eq_false q1, eq_false q2, eq_false q3, eq_false q4, eq_false q5, eq_true k6, h1, eq_false hne, ne_eq]
      exact Good.done rfl
    | ok y =>
      rw [hm] at h1
      simp only [rowsV] at h1
      have hym := (all_small _).2.1 _ _ _ small_one hm
      have hng := rnegs_t (l := y) (by have := hym.1; omega)
      have hsn := (negsM_sz y hym).1
      have hfit := fit_one (r := [negL (negsM y)]) (by simp only [Ce.szs, negL, Ce.sz]; omega)
      have e1 : Ce.p (negL (negsM y)) = .agg [.int .i64 3, .str [], .str [], .lst [], .int .i64 0, .int .i64 0, .int .i64 0, .str [], .str [], .lst [], .lst ((negsM y).map Ce.p)] := by
        rw [negL, Ce.p_eq]
        rfl
      rw [List.map_singleton, e1] at hfit
      simp only
      rw [put_fit]
      cases hF : fitR [[negL (negsM y)]] with
      | error e =>
        rw [hF] at hfit
        simp only [rowsV] at hfit
        simp only [e_ref12_alts, go_sem, Ce.cells, eq_false q1, eq_false q2, eq_false q3, eq_false q4, eq_false q5, eq_true k6, h1, hng, hfit, ne_eq, not_true_eq_false]
        exact Good.done rfl
      | ok o =>
        rw [hF] at hfit
        simp only [rowsV] at hfit
        simp only [e_ref12_alts, go_sem, Ce.cells, eq_false q1, eq_false q2, eq_false q3, eq_false q4, eq_false q5, eq_true k6, h1, hng, hfit, ne_eq, not_true_eq_false]
        exact Good.done rfl
  · unfold oneN
    rw [if_neg (by omega), if_neg (by omega), if_neg (by omega), if_neg (by omega), if_neg (by omega), if_pos k7, if_neg (by omega)]
    match hx : c.kids, kl with
    | x :: ks, _ =>
      have := altsAll_of IH c x ks hx hk k7 hf hl
      rw [hx] at this
      exact this
theorem ref_all : ∀ f, RefOk f := by
  intro f
  induction f using Nat.strongRecOn with
  | ind f ih =>
    constructor
    · intro c hw hf hl
      have := Ce.sz_eq c
      obtain ⟨g, rfl⟩ : ∃ g, f = g + 1 := ⟨f - 1, by omega⟩
      exact alts_of (fun f' h => ih f' (by omega)) c hw hf hl
    · intro l hw hf hl
      exact rows_of (fun f' h => ih f' h) l hw hf hl
theorem rrows_t {l : List Ce} (hw : ∀ c ∈ l, Ce.Wc c) (hl : Ce.szs l ≤ 100000) : tupV (callE efns given) (.call 0 f_ref12_rows) [.lst (l.map Ce.p)] = some (rowsV (andF l)) := (ref_all _).rows l hw (Nat.le_refl _) hl
end Go.Proofs.YtgjklaobjnjhpaaGreatPe.Normz

/- The document's Norm: plain. -/
set_option linter.unusedVariables false
set_option linter.unusedSimpArgs false
set_option maxRecDepth 100000
namespace Go.Proofs.YtgjklaobjnjhpaaGreatPe.Normz
open Go Go.Proofs Go.Proofs.YtgjklaobjnjhpaaGreatPe Go.Proofs.YtgjklaobjnjhpaaGreatPe.NormzCode

theorem bad_behind : ∀ (r : List Ce) (i : Nat), badN (i + 1) r = Ce.logL r
  | [], i => rfl
  | c :: r, i => by
    rw [badN, bad_behind r (i + 1), Ce.logL, Ce.logB_eq]
    simp
theorem bad_eq (c : Ce) (r : List Ce) : badN 0 (c :: r) = (Ce.logL c.kids || Ce.logL r) := by
  rw [badN, bad_behind r 0]
  simp
theorem altsB_eq {n : Nat} : ∀ {a : List Rw} {out : List Al}, out.length ≤ 16 → altsB n a out = if out.length + a.length ≤ 16 then .ok (out ++ a.map fun r => ⟨r, n⟩) else .error 4
  | [], out, h => by simp [altsB, h]
  | r :: a, out, h => by
    rw [altsB]
    by_cases hc : out.length ≥ 16
    · rw [if_pos hc, if_neg (by rw [List.length_cons]; omega)]
    · rw [if_neg hc, altsB_eq (by simp; omega)]
      simp only [List.length_append, List.length_cons, List.length_nil, List.map_cons, List.append_assoc, List.cons_append, List.nil_append]
      by_cases h2 : out.length + (0 + 1) + a.length ≤ 16
      · rw [if_pos h2, if_pos (by omega)]
      · rw [if_neg h2, if_neg (by omega)]
def candA (f b : List Rw) : List Al := f.flatMap fun x => b.map fun y => ⟨x ++ y, x.length⟩
theorem candA_len : ∀ {f b : List Rw}, (candA f b).length = f.length * b.length
  | [], b => by simp [candA]
  | x :: f, b => by
    have := candA_len (f := f) (b := b)
    unfold candA at this ⊢
    rw [List.flatMap_cons, List.length_append, this, List.length_map, List.length_cons, Nat.succ_mul]
    omega
theorem candA_append {f g b : List Rw} : candA (f ++ g) b = candA f b ++ candA g b := by
  unfold candA
  rw [List.flatMap_append]
theorem candA_one {x : Rw} {b : List Rw} : candA [x] b = b.map fun y => ⟨x ++ y, x.length⟩ := by
  unfold candA
  simp
theorem candA_mem {f b : List Rw} {x y : Rw} (hx : x ∈ f) (hy : y ∈ b) : (⟨x ++ y, x.length⟩ : Al) ∈ candA f b :=
  List.mem_flatMap.2 ⟨x, hx, List.mem_map.2 ⟨y, hy, rfl⟩⟩
def altC (b : List Rw) (f : List Rw) (n : Nat) : Prop := n + f.length * b.length ≤ 16 ∧ ∀ x ∈ f, ∀ y ∈ b, Ce.szs (x ++ y) ≤ 40
open Classical in
theorem altsM_eq {b : List Rw} (hb : Small b) : ∀ {f : List Rw} {out : List Al}, out.length ≤ 16 → altsM b f out = if altC b f out.length then .ok (out ++ candA f b) else .error 4
  | [], out, h => by
    rw [altsM, if_pos ⟨by simp; omega, fun x hx => by cases hx⟩]
    simp [candA]
  | x :: f, out, h => by
    rw [altsM, join_fit, prodR_single]
    by_cases h1 : ∀ y ∈ b, Ce.szs (x ++ y) ≤ 40
    · rw [fit_ok ⟨by rw [List.length_map]; exact hb.1, fun r hr => by obtain ⟨y, hy, rfl⟩ := List.mem_map.1 hr; exact h1 y hy⟩]
      simp only
      rw [altsB_eq h, List.length_map]
      by_cases h2 : out.length + b.length ≤ 16
      · rw [if_pos h2]
        simp only
        rw [altsM_eq hb (by simp; exact h2)]
        have e1 : candA (x :: f) b = (b.map fun y => ⟨x ++ y, x.length⟩) ++ candA f b := by
          unfold candA
          rw [List.flatMap_cons]
        have e2 : ((b.map (x ++ ·)).map fun r => (⟨r, x.length⟩ : Al)) = b.map fun y => ⟨x ++ y, x.length⟩ := by
          rw [List.map_map]
          rfl
        rw [e1, e2, ← List.append_assoc]
        have e3 : altC b f (out ++ b.map fun y => (⟨x ++ y, x.length⟩ : Al)).length = altC b (x :: f) out.length := by
          unfold altC
          apply propext
          rw [List.length_append, List.length_map, List.length_cons, Nat.succ_mul]
          constructor
          · rintro ⟨p1, p2⟩
            refine ⟨by omega, fun z hz y hy => ?_⟩
            rcases List.mem_cons.1 hz with rfl | hz
            · exact h1 y hy
            · exact p2 z hz y hy
          · rintro ⟨p1, p2⟩
            exact ⟨by omega, fun z hz y hy => p2 z (List.mem_cons.2 (.inr hz)) y hy⟩
        rw [e3]
      · rw [if_neg h2, if_neg]
        rintro ⟨p1, _⟩
        rw [List.length_cons, Nat.succ_mul] at p1
        omega
    · rw [fit_bad, if_neg]
      · rintro ⟨_, p2⟩
        exact h1 fun y hy => p2 x (by simp) y hy
      · intro hs
        exact h1 fun y hy => hs.2 _ (List.mem_map.2 ⟨y, hy, rfl⟩)
theorem alts_ok {f b : List Rw} (hb : Small b) (h : altC b f 0) : altsM b f [] = .ok (candA f b) := by
  rw [altsM_eq hb (by simp), if_pos (by simpa using h)]
  rfl
theorem alts_bad {f b : List Rw} (hb : Small b) (h : ¬ altC b f 0) : altsM b f [] = .error 4 := by
  rw [altsM_eq hb (by simp), if_neg (by simpa using h)]
theorem szAll_al (l : List Al) : szAll 2 (l.map Al.p) = true := by
  refine List.all_eq_true.2 fun e he => ?_
  obtain ⟨c, _, rfl⟩ := List.mem_map.1 he
  rfl
theorem rcount_v {r : Rw} (h : Ce.szs r ≤ 100000) {x : PV} (hx : SlV (r.map Ce.p) x) : tupV (callE efns given) (.call 0 f_ref12_Count) [x] = some (.int .i64 (Ce.szs r : Int)) :=
  (tup_shut ((mS (hx.shutA _) mN).trans (mS rfl mN).symm)).trans (rcount_t (Ce.szs r + 1) r (by omega) (by omega))

set_option maxHeartbeats 4000000 in
theorem rnorm_tail (front behind : List Rw) (logic : Int) (x2 : PV) (hx2 : SlV (front.map rowP) x2) (hf : Small front) (hb : Small behind) (hlg : ∀ x ∈ front, logic * (x.length : Int) = (x.length : Int)) (h16 : front.length * behind.length ≤ 16) :
    Good (Ret (altsV (altsM behind front []))) (runL (callE efns given) [false, true, true, false, false, true, true, true, false, false, false, false, false, false, false, false, false] b_ref12_Norm_1
      [.undef, .int .i64 logic, x2, .undef, .undef, .lst (behind.map rowP), .nils, .int .i64 0, .undef, .undef, .undef, .undef, .undef, .undef, .undef, .undef, .undef] ⟨[], [], [], []⟩ (blockK 0 (seqK (fun fr st => some (PV.tuple [List.getD fr 6 PV.undef, PV.int IntKind.i64 0], st)) retK))) := by
  have hxl := hx2.len
  rw [List.length_map] at hxl
  have hf16 := hf.1
  have hb16 := hb.1
  generalize hA : altsM behind front [] = A
  refine Good.for front.length (fun i fr st => ∃ z bs rows bts rt, fr = [.undef, .int .i64 logic, x2, .undef, .undef, .lst (behind.map rowP), z, .int .i64 (i : Int)] ++ List.replicate 9 .undef ∧ st = ⟨bs, rows, bts, rt⟩ ∧ rt.length = rows.length ∧
    OutV 2 T_ref12_Norm_1 ((candA (front.take i) behind).map Al.p) z rows rt ∧ ∀ a ∈ candA (front.take i) behind, Ce.szs a.lits ≤ 40) ?_ ?_ ?_
  · rintro i fr st hi ⟨z, bs, rows, bts, rt, rfl, rfl, hr, hO, hall⟩ k hk
    have c1 : ((i : Int) < (front.length : Int)) = True := eq_true (by omega)
    have fat := Rw.at_ hi
    have hmx := List.getElem_mem hi
    have hxi := sl_idx hx2 (m := 1) (k := .i64) (i := i) (by simpa using hi)
    rw [fat] at hxi
    have hsx := hf.2 _ hmx
    have hlx := hlg _ hmx
    have hct : candA (front.take (i + 1)) behind = candA (front.take i) behind ++ behind.map fun y => ⟨front[i] ++ y, front[i].length⟩ := by rw [take_succ_at hi, candA_append, candA_one]
    have hcl : (candA (front.take i) behind).length ≤ 256 := by
      rw [candA_len]
      refine Nat.mul_le_mul (Nat.le_trans ?_ hf16) hb16
      rw [List.length_take]
      omega
    generalize front[i] = x at fat hxi hsx hlx hct hmx
    simp only [List.replicate, List.cons_append, List.nil_append, b_ref12_Norm_1, go_sem, hxl, c1]
    refine Good.for behind.length (fun j fr st => ∃ z bs rows bts rt, fr = [.undef, .int .i64 logic, x2, .undef, .undef, .lst (behind.map rowP), z, .int .i64 (i : Int), .int .i64 (j : Int)] ++ List.replicate 8 .undef ∧ st = ⟨bs, rows, bts, rt⟩ ∧ rt.length = rows.length ∧
      OutV 2 T_ref12_Norm_1 ((candA (front.take i) behind ++ (behind.take j).map fun y => (⟨x ++ y, x.length⟩ : Al)).map Al.p) z rows rt ∧ ∀ a ∈ candA (front.take i) behind ++ (behind.take j).map fun y => (⟨x ++ y, x.length⟩ : Al), Ce.szs a.lits ≤ 40) ?_ ?_ ?_
    · rintro j fr st hj ⟨z, bs, rows, bts, rt, rfl, rfl, hr, hO, hall⟩ k2 hk2
      have c2 : ((j : Int) < (behind.length : Int)) = True := eq_true (by omega)
      have yat := Rw.at_ hj
      have hmy := List.getElem_mem hj
      have hsy := hb.2 _ hmy
      have htk : candA (front.take i) behind ++ (behind.take (j + 1)).map (fun y => (⟨x ++ y, x.length⟩ : Al)) = (candA (front.take i) behind ++ (behind.take j).map fun y => (⟨x ++ y, x.length⟩ : Al)) ++ [⟨x ++ behind[j], x.length⟩] := by rw [take_succ_at hj, List.map_append, List.map_singleton, List.append_assoc]
      generalize behind[j] = y at yat hmy hsy htk
      have hllx := Ce.len_sz x
      have hlly := Ce.len_sz y
      have w : IntKind.i64.wrap (logic * (x.length : Int)) = (x.length : Int) := by rw [hlx, IntKind.wrap_i64]; omega
      obtain ⟨v1, rows1, rt1, v2, rows2, rt2, a1, a2, o2, r2, keep⟩ := cat_ok (T := T_ref12_Norm_0) (a := x.map Ce.p) (b := y.map Ce.p) (szAll_ce x) (szAll_ce y) (by simp only [List.length_map]; omega) hr
      have hO2 := keep _ _ _ _ hO
      have ecat : x.map Ce.p ++ y.map Ce.p = (x ++ y).map Ce.p := List.map_append.symm
      have o3 := o2
      rw [ecat] at o3
      have hcnt := rcount_v (r := x ++ y) (by rw [Ce.szs_append]; omega) o3.sl
      by_cases h40 : Ce.szs (x ++ y) ≤ 40
      · have c3 : ((Ce.szs (x ++ y) : Int) > 40) = False := eq_false (by omega)
        obtain ⟨z3, rows3, rt3, a3, hO3, hr3, _⟩ := hO2.app1 (b := 32) r2 (e := .agg [.lst (x.map Ce.p ++ y.map Ce.p), .int .i64 (x.length : Int)]) rfl (by simp only [List.length_map, List.length_append, List.length_take]; omega)
        have fin : OutV 2 T_ref12_Norm_1 ((candA (front.take i) behind ++ (behind.take (j + 1)).map fun y => (⟨x ++ y, x.length⟩ : Al)).map Al.p) z3 rows3 rt3 := by
          have e1 : Al.p ⟨x ++ y, x.length⟩ = .agg [.lst (x.map Ce.p ++ y.map Ce.p), .int .i64 (x.length : Int)] := by
            rw [ecat]
            rfl
          rw [htk, List.map_append (f := Al.p), List.map_singleton, e1]
          exact hO3
        have hall2 : ∀ a ∈ candA (front.take i) behind ++ (behind.take (j + 1)).map fun y => (⟨x ++ y, x.length⟩ : Al), Ce.szs a.lits ≤ 40 := by
          rw [htk]
          intro a ha
          rcases List.mem_append.1 ha with ha | ha
          · exact hall a ha
          · rw [List.mem_singleton.1 ha]; exact h40
        rcases o2.sl.or with ⟨rfl, e⟩ | ⟨rfl, e⟩ | ⟨rfl, e⟩ | rfl | ⟨q, rfl⟩ | rfl
        all_goals
          try rw [e] at a3
          simp only [List.replicate, List.cons_append, List.nil_append, b_ref12_Norm_0, go_sem, List.length_map, c2, hxi, yat, a1, a2, w, hcnt, c3, a3, wrapN (n := j) (by omega)]
          exact hk2 _ _ ⟨z3, _, _, _, _, rfl, rfl, hr3, fin, hall2⟩
      · have c3 : ((Ce.szs (x ++ y) : Int) > 40) = True := eq_true (by omega)
        have hbad : A = .error 4 := by
          rw [← hA]
          refine alts_bad hb fun h => h40 ?_
          exact h.2 x hmx y hmy
        rcases o2.sl.or with ⟨rfl, e⟩ | ⟨rfl, e⟩ | ⟨rfl, e⟩ | rfl | ⟨q, rfl⟩ | rfl
        all_goals
          simp only [List.replicate, List.cons_append, List.nil_append, b_ref12_Norm_0, go_sem, List.length_map, c2, hxi, yat, a1, a2, w, hcnt, c3]
          exact Good.done (by rw [hbad]; rfl)
    · rintro fr st ⟨z, bs, rows, bts, rt, rfl, rfl, hr, hO, hall⟩ k2
      rw [List.take_length, ← hct] at hO hall
      simp only [List.replicate, List.cons_append, List.nil_append, b_ref12_Norm_0, go_sem, List.length_map, Int.lt_irrefl, wrapN (n := i) (by omega)]
      exact hk _ _ ⟨z, _, _, _, _, rfl, rfl, hr, hO, hall⟩
    · exact ⟨z, _, _, _, _, rfl, rfl, hr, by rw [List.take_zero, List.map_nil, List.append_nil]; exact hO, by rw [List.take_zero, List.map_nil, List.append_nil]; exact hall⟩
  · rintro fr st ⟨z, bs, rows, bts, rt, rfl, rfl, hr, hO, hall⟩ k
    rw [List.take_length] at hO hall
    have hA2 : A = .ok (candA front behind) := by
      rw [← hA]
      refine alts_ok hb ⟨by omega, fun x hx y hy => ?_⟩
      exact hall _ (candA_mem hx hy)
    simp only [List.replicate, List.cons_append, List.nil_append, b_ref12_Norm_1, go_sem, hxl, Int.lt_irrefl]
    exact Good.done (by rw [hA2]; exact ret_tup (mS (hO.shutR _ _) (mS rfl mN)))
  · exact ⟨.nils, _, _, _, _, rfl, rfl, rfl, .nils, fun a ha => by cases ha⟩
end Go.Proofs.YtgjklaobjnjhpaaGreatPe.Normz

/- The document's Norm. -/
set_option linter.unusedVariables false
set_option linter.unusedSimpArgs false
set_option maxRecDepth 100000
namespace Go.Proofs.YtgjklaobjnjhpaaGreatPe.Normz
open Go Go.Proofs Go.Proofs.YtgjklaobjnjhpaaGreatPe Go.Proofs.YtgjklaobjnjhpaaGreatPe.NormzCode

/-- Conditions as they are read. -/
inductive Ce.Wp : Ce → Prop
  | mk {c : Ce} (h : (c.k = 1 ∨ c.k = 2 ∨ c.k = 4 ∨ c.k = 5 ∨ (c.k = 3 ∧ c.kids.length = 1) ∨ c.k = 6 ∨ (c.k = 7 ∧ 1 ≤ c.kids.length)) ∨ c.k = 8) (hk : ∀ k ∈ c.kids, Ce.Wp k) : Ce.Wp c
theorem logL_mem : ∀ {l : List Ce}, Ce.logL l = false → ∀ c ∈ l, ¬ c.k = 8 ∧ Ce.logL c.kids = false
  | [], _, c, h => by cases h
  | d :: l, hl, c, h => by
    rw [Ce.logL, Ce.logB_eq, Bool.or_eq_false_iff, Bool.or_eq_false_iff, decide_eq_false_iff_not] at hl
    rcases List.mem_cons.1 h with rfl | h
    · exact hl.1
    · exact logL_mem hl.2 c h
theorem wc_of : ∀ (m : Nat) (c : Ce), c.sz < m → Ce.Wp c → ¬ c.k = 8 → Ce.logL c.kids = false → Ce.Wc c := by
  intro m
  induction m with
  | zero => intro c h; omega
  | succ m ih =>
    intro c h hw h8 hl
    have hsz := Ce.sz_eq c
    obtain ⟨h1, h2⟩ := hw
    refine ⟨h1.resolve_right h8, fun k hk => ?_⟩
    obtain ⟨p1, p2⟩ := logL_mem hl k hk
    exact ih k (by have := Ce.sz_mem hk; omega) (h2 k hk) p1 p2
theorem wcs_of {l : List Ce} (hw : ∀ c ∈ l, Ce.Wp c) (hl : Ce.logL l = false) : ∀ c ∈ l, Ce.Wc c := by
  intro c hc
  obtain ⟨p1, p2⟩ := logL_mem hl c hc
  exact wc_of _ c (Nat.lt_succ_self _) (hw c hc) p1 p2
theorem wrap_mul {a b : List Rw} (ha : Small a) (hb : Small b) : IntKind.i64.wrap ((a.length : Int) * (b.length : Int)) = ((a.length * b.length : Nat) : Int) := by
  have h2 := Nat.mul_le_mul ha.1 hb.1
  rw [← Int.natCast_mul, IntKind.wrap_i64]
  omega
theorem alts_many {f b : List Rw} (hb : Small b) (h : ¬ f.length * b.length ≤ 16) : altsM b f [] = .error 4 := alts_bad hb fun hc => h (by have := hc.1; omega)
theorem rnorm_t (l : List Ce) (hl : Ce.szs l ≤ 100000) (hw : ∀ c ∈ l, Ce.Wp c) : tupV (callE efns given) (.call 0 f_ref12_Norm) [.lst (l.map Ce.p)] = some (altsV (normM l)) := by
  have hlog := logicals_t (Ce.szs l + 1) l (by omega) (by omega)
  have e0 : andF [] = .ok [[]] := rfl
  have hones : ∀ x ∈ ([[]] : List Rw), (0 : Int) * (x.length : Int) = (x.length : Int) := fun x hx => by rw [List.mem_singleton.1 hx]; rfl
  refine call_good (f := f_ref12_Norm) rfl ?_
  rw [callE_fn efns given (c := e_ref12_Norm) rfl rfl]
  match l, hl, hw, hlog with
  | [], hl, hw, hlog =>
    have h4 := rrows_t (l := []) (fun c hc => by cases hc) (by simp [Ce.szs])
    rw [e0] at h4
    simp only [List.map_nil] at h4 hlog
    rw [show Ce.logL [] = false from rfl] at hlog
    simp only [rowsV] at h4
    have ht := rnorm_tail [[]] [[]] 0 (.full [.lst []]) rfl small_one small_one hones (by simp)
    have hn : normM [] = altsM [[]] [[]] [] := rfl
    rw [hn]
    have c2 : IntKind.i64.wrap (1 * 1) = 1 := by decide
    simp only [e_ref12_Norm, go_sem, List.map_nil, h4, hlog, List.length_nil, List.map_cons, List.length_cons, c2, ne_eq, not_true_eq_false]
    exact ht
  | c :: r, hl, hw, hlog =>
    have hsz := Ce.sz_eq c
    rw [Ce.szs] at hl
    have hpos : (((r.length + 1 : Nat) : Int) > 0) = True := eq_true (by omega)
    have cat : evIdx 11 (c.p :: r.map Ce.p) 0 = some (.ref c.cells) := by
      have := Ce.at_ (l := c :: r) (n := 0) (by simp)
      simpa using this
    have hsub : lsubV 11 (.lst (c.p :: r.map Ce.p)) (some (.int .i64 1)) none none = some (.lst (r.map Ce.p)) :=
      lsub_drop (i := 1) rfl (by simp) fun e he => by
        rw [← List.map_cons (f := Ce.p)] at he
        obtain ⟨d, _, rfl⟩ := List.mem_map.1 he
        rw [Ce.p_cells]
        rfl
    have hl1 := logicals_t (Ce.szs c.kids + 1) c.kids (by omega) (by omega)
    have hl2 := logicals_t (Ce.szs r + 1) r (by omega) (by omega)
    have hb := bad_eq c r
    simp only [Ce.cells] at cat
    simp only [List.map_cons] at hlog
    by_cases k8 : c.k = 8
    · have hh : headN (c :: r) = 1 := if_pos k8
      unfold normM
      rw [hb, hh]
      cases hb1 : Ce.logL c.kids with
      | true =>
        rw [hb1] at hl1
        simp only [e_ref12_Norm, go_sem, Ce.cells, List.map_cons, cat, eq_true k8, hl1, hpos, List.length_cons, List.length_map, ne_eq, not_true_eq_false]
        exact Good.done rfl
      | false =>
        rw [hb1] at hl1
        cases hb2 : Ce.logL r with
        | true =>
          rw [hb2] at hl2
          simp only [e_ref12_Norm, go_sem, Ce.cells, List.map_cons, cat, eq_true k8, hl1, hl2, hsub, hpos, List.length_cons, List.length_map, ne_eq, not_true_eq_false]
          exact Good.done rfl
        | false =>
          rw [hb2] at hl2
          obtain ⟨_, hwk⟩ := hw c (by simp)
          have hk := wcs_of hwk hb1
          have hr := wcs_of (fun x hx => hw x (by simp [hx])) hb2
          have hf0 : andF ((c :: r).take 1) = andN (3 * Ce.szs c.kids + 2) c.kids [[]] := by
            show andN (3 * Ce.szs [c] + 1) [c] [[]] = _
            rw [show 3 * Ce.szs [c] + 1 = (3 * Ce.szs c.kids + 2) + 2 by simp only [Ce.szs]; omega, and_one]
            unfold oneN
            rw [if_neg (by omega), if_neg (by omega), if_neg (by omega), if_neg (by omega), if_neg (by omega), if_neg (by omega), if_pos (.inl k8)]
          have h3 := (ref_all (3 * Ce.szs c.kids + 2)).rows c.kids hk (by omega) (by omega)
          have h4 := rrows_t hr (by omega)
          have hf1 : andF ((c :: r).drop 1) = andF r := rfl
          rw [hf0, hf1]
          simp only [Bool.or_self, Bool.false_eq_true, if_false]
          cases hA : andN (3 * Ce.szs c.kids + 2) c.kids [[]] with
          | error e =>
            rw [hA] at h3
            simp only [rowsV] at h3
            have hne := (all_err _).2.1 _ _ _ hA
            simp only [e_ref12_Norm, go_sem, Ce.cells, List.map_cons, cat, eq_true k8, hl1, hl2, h3, hsub, hpos, List.length_cons, List.length_map, eq_false hne, ne_eq, not_true_eq_false]
            exact Good.done rfl
          | ok front =>
            rw [hA] at h3
            simp only [rowsV] at h3
            have hfs := (all_small _).2.1 _ _ _ small_one hA
            cases hB : andF r with
            | error e =>
              rw [hB] at h4
              simp only [rowsV] at h4
              have hne := (all_err _).2.1 _ _ _ hB
              simp only [e_ref12_Norm, go_sem, Ce.cells, List.map_cons, cat, eq_true k8, hl1, hl2, h3, h4, hsub, hpos, List.length_cons, List.length_map, eq_false hne, ne_eq, not_true_eq_false]
              exact Good.done rfl
            | ok behind =>
              rw [hB] at h4
              simp only [rowsV] at h4
              have hbs := (all_small _).2.1 _ _ _ small_one hB
              have hmul := wrap_mul hfs hbs
              by_cases h16 : front.length * behind.length ≤ 16
              · have c2 : (((front.length * behind.length : Nat) : Int) > 16) = False := eq_false (by omega)
                have ht := rnorm_tail front behind 1 (.lst (front.map rowP)) rfl hfs hbs (fun x _ => Int.one_mul _) h16
                simp only [e_ref12_Norm, go_sem, Ce.cells, List.map_cons, cat, eq_true k8, hl1, hl2, h3, h4, hsub, hpos, List.length_cons, List.length_map, hmul, c2, ne_eq, not_true_eq_false]
                exact ht
              · have c2 : (((front.length * behind.length : Nat) : Int) > 16) = True := eq_true (by omega)
                simp only
                rw [alts_many hbs h16]
                simp only [e_ref12_Norm, go_sem, Ce.cells, List.map_cons, cat, eq_true k8, hl1, hl2, h3, h4, hsub, hpos, List.length_cons, List.length_map, hmul, c2, ne_eq, not_true_eq_false]
                exact Good.done rfl
    · have hh : headN (c :: r) = 0 := if_neg k8
      have hlb : Ce.logL (c :: r) = (Ce.logL c.kids || Ce.logL r) := by
        rw [Ce.logL, Ce.logB_eq, decide_eq_false k8, Bool.false_or]
      unfold normM
      rw [hb, hh, ← hlb, List.take_zero, List.drop_zero, e0]
      cases hb1 : Ce.logL (c :: r) with
      | true =>
        rw [hb1] at hlog
        simp only [e_ref12_Norm, go_sem, Ce.cells, List.map_cons, cat, eq_false k8, hlog, hpos, List.length_cons, List.length_map, ne_eq, not_true_eq_false]
        exact Good.done rfl
      | false =>
        rw [hb1] at hlog
        have hr := wcs_of hw hb1
        have h4 := rrows_t hr (by rw [Ce.szs]; omega)
        simp only [Bool.false_eq_true, if_false]
        simp only [List.map_cons] at h4
        cases hB : andF (c :: r) with
        | error e =>
          rw [hB] at h4
          simp only [rowsV] at h4
          have hne := (all_err _).2.1 _ _ _ hB
          simp only [e_ref12_Norm, go_sem, Ce.cells, List.map_cons, cat, eq_false k8, hlog, h4, hpos, List.length_cons, List.length_map, eq_false hne, ne_eq, not_true_eq_false]
          exact Good.done rfl
        | ok behind =>
          rw [hB] at h4
          simp only [rowsV] at h4
          have hbs := (all_small _).2.1 _ _ _ small_one hB
          have h16 : behind.length ≤ 16 := hbs.1
          have hmul : IntKind.i64.wrap (1 * (behind.length : Int)) = (behind.length : Int) := by rw [IntKind.wrap_i64]; omega
          have c2 : ((behind.length : Int) > 16) = False := eq_false (by omega)
          have ht := rnorm_tail [[]] behind 0 (.full [.lst []]) rfl small_one hbs hones (by simp; omega)
          simp only [e_ref12_Norm, go_sem, Ce.cells, List.map_cons, cat, eq_false k8, hlog, h4, hpos, List.length_cons, List.length_map, List.length_nil, hmul, c2, ne_eq, not_true_eq_false]
          exact ht
end Go.Proofs.YtgjklaobjnjhpaaGreatPe.Normz

