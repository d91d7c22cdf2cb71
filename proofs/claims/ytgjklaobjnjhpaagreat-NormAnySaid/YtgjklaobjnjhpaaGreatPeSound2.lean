/- SOUND: code. What the evaluator says of a piece of code, the machine does. -/
import Derived.Test.YtgjklaobjnjhpaaGreatPeSound
set_option linter.unusedVariables false
set_option linter.unusedSimpArgs false
namespace Go.Proofs.YtgjklaobjnjhpaaGreatPe
open Go Go.RowKit Go.Proofs.YtgjklaobjnjhpaaGreatW.PrintLast

theorem Sim.drew {w1 w : World} {G : Gh} {st : St} (h : Sim w1 w G st) : Sim w1 w.drew G st ∧ Nxt w1.heap.size G w G w.drew := h.grow (Below.refl _ _).drew

theorem Clean.start {G : Gh} {w : World} {fr : Fr} {a : Act} (h : FrRel G w fr a) : Clean G w [] fr a := .of h.size h.defers fun i hi _ => h.rep i hi

theorem draw_ok {P : Program} {w0 w1 w : World} {cl : CallF} (hcl : CallOk P w0 cl) (hb : Below w0.heap.size w0 w1) (hm : P.follows .mixedOrders = true) {sh : FuncId → Nat} {ops : Array Oper} {id : Nat} {r : STr} {ss : Tree} {ds : List Nat} {G : Gh} {st st' : St} {fr fr' : Fr} {a : Act}
    {Q : Exit → Act → World → Prop} (hQp : ∀ c a w, ¬ Q (.panic c) a w) (hlen : r.depth = ops.size) (hev : r.even = true) (hc : cSched P sh ops ds r false (Array.replicate ops.size false) [] false = some ss) (h : Sim w1 w G st) (hf : FrRel G w fr a) (he : evDraw cl ss fr st = some (fr', st'))
    (hQ : ∀ a' w' G', Nxt w1.heap.size G w G' w' → Sim w1 w' G' st' → FrRel G' w' fr' a' → Q .normal a' w') : (Code.region id ops true).wp P Q a w := by
  unfold evDraw at he
  split at he
  · rename_i sf hs
    split at he
    · rename_i hd
      cases he
      obtain ⟨s, N⟩ := h.drew
      have hd' : ∀ b ∈ sf.wrote, b ∉ sf.held := fun b hb' => by
        have := List.all_eq_true.1 hd b hb'
        simpa using this
      have hf' := hf.mono N
      refine start_ (n := ops.size) (ds := ds) (S := Held G w.drew sf.held) (Array.replicate ops.size false) hm rfl rfl ⟨fun _ _ _ => rfl, fun _ _ _ _ => rfl⟩ fun hS => ?_
      rw [← hlen]
      rw [← hlen] at hc
      exact sch_ok hcl hb s hQp r false ss _ [] false w.drew G ⟨fr, st, [], []⟩ sf a hev hc (Nxt.refl _ _ _) s hf' (.start hf') (fun _ => hS) hs (fun _ h => h) hd'
        fun a' w' G' N' s' hf'' => hQ a' w' G' (N.trans N') s' hf''
    · cases he
  · cases he

theorem mask_length : ∀ (m : List Bool) (l : Fr), (mask m l).length = l.length
  | [], l => by simp [mask]
  | true :: m, [] => by simp [mask]
  | false :: m, [] => by simp [mask]
  | true :: m, v :: l => by simp [mask, mask_length m l]
  | false :: m, v :: l => by simp [mask, mask_length m l]

theorem mask_get : ∀ (m : List Bool) (l : Fr) (i : Nat) (h : i < l.length), (mask m l)[i]'(by rw [mask_length]; exact h) = l[i] ∨ (mask m l)[i]'(by rw [mask_length]; exact h) = .undef
  | [], l, i, h => .inr (by simp [mask])
  | true :: m, [], i, h => by cases h
  | false :: m, [], i, h => by cases h
  | true :: m, v :: l, 0, h => .inl (by simp [mask])
  | false :: m, v :: l, 0, h => .inr (by simp [mask])
  | true :: m, v :: l, i + 1, h => by simpa [mask] using mask_get m l i (by simpa using h)
  | false :: m, v :: l, i + 1, h => by simpa [mask] using mask_get m l i (by simpa using h)

theorem FrRel.mask {G : Gh} {w : World} {fr : Fr} {a : Act} (h : FrRel G w fr a) (m : List Bool) : FrRel G w (mask m fr) a := by
  refine ⟨by rw [mask_length, h.size], h.defers, fun i hi => ?_⟩
  rw [mask_length] at hi
  rcases mask_get m fr i hi with e | e
  · rw [e]; exact h.rep i hi
  · rw [e]; exact .d (.undef _)

theorem least {J : Nat → Prop} : ∀ n k, k ≤ n → J k → ∃ m, J m ∧ ∀ k, J k → m ≤ k
  | 0, k, hk, h => ⟨k, h, fun j _ => by omega⟩
  | n + 1, k, hk, h => by
    by_cases e : ∃ j, j ≤ n ∧ J j
    · obtain ⟨j, hj, h'⟩ := e
      exact least n j hj h'
    · refine ⟨k, h, fun j hj => ?_⟩
      rcases Nat.lt_or_ge n j with h' | h'
      · omega
      · exact absurd ⟨j, h', hj⟩ e

open Classical in
noncomputable def leastOf (J : Nat → Prop) : Nat := if h : ∃ m, J m ∧ ∀ k, J k → m ≤ k then h.choose else 0

theorem leastOf_spec {J : Nat → Prop} {n : Nat} (h : J n) : J (leastOf J) ∧ ∀ k, J k → leastOf J ≤ k := by
  have e := least n n (Nat.le_refl n) h
  unfold leastOf
  rw [dif_pos e]
  exact e.choose_spec

/-- A loop that has at most n rounds. -/
theorem wp_rounds {P : Program} {Q : Exit → Act → World → Prop} {c : Code} (J : Nat → Act → World → Prop) (round : ∀ n a w, J n a w → c.wp P (Exit.then (fun a' w' => ∃ m, m < n ∧ J m a' w') Q) a w) {n : Nat} {a : Act} {w : World} (h : J n a w) : (Code.loop c).wp P Q a w := by
  refine wp_loop (fun a w => ∃ n, J n a w) (fun a w => leastOf fun n => J n a w) ⟨n, h⟩ fun a w hI => ?_
  obtain ⟨m, hm⟩ := hI
  refine wp_mono (round _ a w (leastOf_spec (J := fun n => J n a w) hm).1) fun e a' w' hq => ?_
  cases e with
  | normal =>
    obtain ⟨m', hlt, hJ⟩ := hq
    exact ⟨⟨m', hJ⟩, Nat.lt_of_le_of_lt ((leastOf_spec (J := fun n => J n a' w') hJ).2 m' hJ) hlt⟩
  | exit id => exact hq
  | goto l => exact hq
  | ret => exact hq
  | panic ch => exact hq
  | outgrown => exact hq

theorem Post.trans {w1 w w' : World} {G G' : Gh} {x : IX} {fr' : Fr} {st' : St} {e : Exit} {a' : Act} {w'' : World} (N : Nxt w1.heap.size G w G' w') (h : Post w1 w' G' x fr' st' e a' w'') : Post w1 w G x fr' st' e a' w'' := by
  obtain ⟨he, G'', N', s, hf⟩ := h
  exact ⟨he, G'', N.trans N', s, hf⟩

theorem toExit_panic (x : IX) (c : List PanicEntry) : x.toExit ≠ .panic c := by cases x <;> simp [IX.toExit]

theorem comp_ok {P : Program} {w0 w1 : World} {cl : CallF} (hcl : CallOk P w0 cl) (hb : Below w0.heap.size w0 w1) (hm : P.follows .mixedOrders = true) {sh : FuncId → Nat} {hs : Hints} (n : Nat) :
    ∀ (c : Code) (b : Nat) (ic : IC) (w : World) (G : Gh) (st st' : St) (fr fr' : Fr) (a : Act) (x : IX), comp P sh hs b c = some ic → Sim w1 w G st → FrRel G w fr a → evC cl n ic fr st = some (x, fr', st') → c.wp P (Post w1 w G x fr' st') a w := by
  intro c
  induction c with
  | skip =>
    intro b ic w G st st' fr fr' a x hc h hf he
    cases hc
    cases he
    exact wp_skip ⟨rfl, G, Nxt.refl _ _ _, h, hf⟩
  | ret =>
    intro b ic w G st st' fr fr' a x hc h hf he
    cases hc
    cases he
    exact wp_ret ⟨rfl, G, Nxt.refl _ _ _, h, hf⟩
  | exit id =>
    intro b ic w G st st' fr fr' a x hc h hf he
    cases hc
    cases he
    exact wp_exit ⟨rfl, G, Nxt.refl _ _ _, h, hf⟩
  | region id ops draw =>
    intro b ic w G st st' fr fr' a x hc h hf he
    unfold comp at hc
    cases draw with
    | true =>
      simp only [if_true] at hc
      split at hc
      · rename_i r hr
        split at hc
        · rename_i hlen
          obtain ⟨ss, hss, rfl⟩ := Option.map_eq_some_iff.1 hc
          unfold evC at he
          split at he
          · rename_i fr1 st1 hd
            cases he
            exact draw_ok hcl hb hm (fun c a w hq => absurd hq.1 (toExit_panic _ c).symm) hlen.1 hlen.2 hss h hf hd fun a' w' G' N s' hf' => ⟨rfl, G', N, s', hf'⟩
          · cases he
        · cases hc
      · cases hc
        simp [failC, evC, evOps, evSOp, wantedB, evOp] at he
    | false =>
      simp only [Bool.false_eq_true, if_false] at hc
      obtain ⟨ss, hss, rfl⟩ := Option.map_eq_some_iff.1 hc
      unfold evC at he
      split at he
      · rename_i fr1 st1 hd
        cases he
        exact wp_region_list (ops_ok hcl hb ops.toList ss w G st _ fr _ a hss h hf hd fun a' w' G' N s' hf' => ⟨rfl, G', N, s', hf'⟩)
      · cases he
  | seq p q ihp ihq =>
    intro b ic w G st st' fr fr' a x hc h hf he
    unfold comp at hc
    split at hc
    · rename_i p' q' hp hq
      cases hc
      unfold evC at he
      cases h1 : evC cl n p' fr st with
      | none => rw [h1] at he; cases he
      | some t =>
        obtain ⟨y, fr1, st1⟩ := t
        rw [h1] at he
        refine wp_seq (wp_mono (ihp b p' w G st st1 fr fr1 a y hp h hf h1) fun e a' w' hpost => ?_)
        cases y with
        | normal =>
          simp only at he
          obtain ⟨rfl, G', N, s, hf'⟩ := hpost
          exact wp_mono (ihq b q' w' G' st1 st' fr1 fr' a' x hq s hf' he) fun e a'' w'' h' => h'.trans N
        | exit i =>
          simp only at he
          cases he
          obtain ⟨rfl, r⟩ := hpost
          exact ⟨rfl, r⟩
        | ret =>
          simp only at he
          cases he
          obtain ⟨rfl, r⟩ := hpost
          exact ⟨rfl, r⟩
    · cases hc
  | cond c0 p q ihp ihq =>
    intro b ic w G st st' fr fr' a x hc h hf he
    unfold comp at hc
    split at hc
    · rename_i c' p' q' hcc hp hq
      cases hc
      unfold evC at he
      split at he
      · rename_i t ht
        have hv := (cOpd_rep hf hcc)
        rw [ht] at hv
        refine wp_cond hv.bool_inv ?_
        cases t with
        | true => exact ihp b p' w G st st' fr fr' a x hp h hf he
        | false => exact ihq b q' w G st st' fr fr' a x hq h hf he
      · cases he
    · cases hc
  | block id p ih =>
    intro b ic w G st st' fr fr' a x hc h hf he
    unfold comp at hc
    obtain ⟨p', hp, rfl⟩ := Option.map_eq_some_iff.1 hc
    unfold evC at he
    cases h1 : evC cl n p' fr st with
    | none => rw [h1] at he; cases he
    | some t =>
      obtain ⟨y, fr1, st1⟩ := t
      rw [h1] at he
      refine wp_block (wp_mono (ih id p' w G st st1 fr fr1 a y hp h hf h1) fun e a' w' hpost => ?_)
      obtain ⟨rfl, r⟩ := hpost
      cases y with
      | normal => simp only at he; cases he; exact ⟨rfl, r⟩
      | ret => simp only at he; cases he; exact ⟨rfl, r⟩
      | exit i =>
        simp only at he
        simp only [IX.toExit, Exit.inBlock]
        split at he
        · rename_i e; cases he; rw [if_pos e]; exact ⟨rfl, r⟩
        · rename_i e; cases he; rw [if_neg e]; exact ⟨rfl, r⟩
  | loop p ih =>
    intro b ic w G st st' fr fr' a x hc h hf he
    unfold comp at hc
    split at hc
    · rename_i m p' hm' hp
      cases hc
      unfold evC at he
      refine wp_rounds (n := n) (fun k a w' => ∃ G' fr1 st1, Nxt w1.heap.size G w G' w' ∧ Sim w1 w' G' st1 ∧ FrRel G' w' fr1 a ∧
        iter (fun fr st => (evC cl n p' fr st).map fun r => (r.1, if r.1 = .normal then mask m r.2.1 else r.2.1, r.2.2)) k fr1 st1 = some (x, fr', st')) ?_ ⟨G, mask m fr, st, Nxt.refl _ _ _, h, hf.mask m, he⟩
      rintro k a w' ⟨G', fr1, st1, N, s, hf1, hk⟩
      cases k with
      | zero => cases hk
      | succ k =>
        unfold iter at hk
        cases h1 : evC cl n p' fr1 st1 with
        | none => rw [h1] at hk; cases hk
        | some t =>
          obtain ⟨y, fr2, st2⟩ := t
          rw [h1] at hk
          simp only [Option.map_some] at hk
          refine wp_mono (ih b p' w' G' st1 st2 fr1 fr2 a y hp s hf1 h1) fun e a' w'' hpost => ?_
          obtain ⟨rfl, G'', N', s', hf'⟩ := hpost
          cases y with
          | normal =>
            simp only [if_true] at hk
            exact ⟨k, Nat.lt_succ_self k, G'', mask m fr2, st2, N.trans N', s', hf'.mask m, hk⟩
          | exit i =>
            simp only [reduceCtorEq, if_false] at hk
            cases hk
            exact ⟨rfl, G'', N.trans N', s', hf'⟩
          | ret =>
            simp only [reduceCtorEq, if_false] at hk
            cases hk
            exact ⟨rfl, G'', N.trans N', s', hf'⟩
    · cases hc
  | _ =>
    intro b ic w G st st' fr fr' a x hc h hf he
    cases hc
    simp [failC, evC, evOps, evSOp, wantedB, evOp] at he

end Go.Proofs.YtgjklaobjnjhpaaGreatPe
