/- SOUND: what the evaluator comes to, the machine does: regions, code, functions. -/
import Derived.Test.YtgjklaobjnjhpaaGreatPeCall
import Derived.Test.YtgjklaobjnjhpaaGreatPeLim
set_option linter.unusedVariables false
set_option linter.unusedSimpArgs false
namespace Go.Proofs.YtgjklaobjnjhpaaGreatPe
open Go Go.RowKit Go.Proofs.YtgjklaobjnjhpaaGreatW.PrintLast

theorem wanted_ok {G : Gh} {w : World} {fr : Fr} {a : Act} (hf : FrRel G w fr a) {ops : Array Oper} {o : Oper} {g : Option (Nat × Bool)} (hg : cGuard ops o.guard = some g) {b : Bool} (hb : wantedB fr g = some b) : Region.wanted o (yielded ops a.tmps) = b := by
  unfold cGuard at hg
  split at hg
  · rename_i e
    cases hg
    cases hb
    simp [Region.wanted, e]
  · rename_i j want e
    split at hg
    · rename_i t ht
      cases hg
      unfold wantedB at hb
      simp only [Region.wanted, e, yielded]
      split at hb
      · rename_i h; cases h
      · rename_i t' want' h
        cases h
        have hr := hf.get t
        split at hb
        · rename_i c hc
          cases hb
          rw [hc] at hr
          have hv := hr.bool_inv
          have hlt : t < fr.length := by
            rcases Nat.lt_or_ge t fr.length with h | h
            · exact h
            · rw [List.getD_eq_getElem?_getD, List.getElem?_eq_none h] at hc; cases hc
          have hv' : a.tmps[t]? = some (.bool c) := by
            rw [Array.getD_eq_getD_getElem?, Array.getElem?_eq_getElem (by rw [hf.size]; exact hlt)] at hv
            rw [Array.getElem?_eq_getElem (by rw [hf.size]; exact hlt)]
            exact congrArg some hv
          rw [ht]
          simp only [Option.bind_some, hv']
          cases c <;> cases want <;> rfl
        · rename_i hc
          cases hb
          rw [hc] at hr
          obtain ⟨vs, hv, hl, _⟩ := hr.tuple_inv
          rw [ht]
          simp only [Option.bind_some]
          cases hq : a.tmps[t]? with
          | none => rfl
          | some v =>
            rw [Array.getD_eq_getD_getElem?, hq] at hv
            simp only [Option.getD_some] at hv
            subst hv
            rfl
        · cases hb
    · cases hg

theorem cSOp_some {P : Program} {sh : FuncId → Nat} {ops : Array Oper} {flag : Nat} {o : Oper} {s : SOp} (h : cSOp P sh ops flag o = some s) : (cOp P sh o.op = some s.op ∨ s.op = .fail) ∧ cGuard ops o.guard = some s.guard ∧ s.dst = o.dst ∧ s.flag = flag := by
  unfold cSOp at h
  split at h
  · rename_i g h1
    split at h
    · rename_i i h2
      cases h
      exact ⟨.inl h2, h1, rfl, rfl⟩
    · cases h
      exact ⟨.inr rfl, h1, rfl, rfl⟩
  · cases h

/-- Where code ends: so. -/
def IX.toExit : IX → Exit
  | .normal => .normal
  | .exit i => .exit i
  | .ret => .ret

/-- What holds where code ends. -/
def Post (w1 w : World) (G : Gh) (x : IX) (fr' : Fr) (st' : St) (e : Exit) (a' : Act) (w' : World) : Prop :=
  e = x.toExit ∧ ∃ G', Nxt w1.heap.size G w G' w' ∧ Sim w1 w' G' st' ∧ FrRel G' w' fr' a'

theorem undef_rep {G : Gh} {w : World} : Rep G w (.tuple []) Go.undef := .d (.tuple rfl fun j hj => absurd hj (Nat.not_lt_zero _))

/-- A region in its text's order. -/
theorem ops_ok {P : Program} {w0 w1 : World} {cl : CallF} (hcl : CallOk P w0 cl) (hb : Below w0.heap.size w0 w1) {sh : FuncId → Nat} {ops : Array Oper} {Q : Exit → Act → World → Prop} :
    ∀ (l : List Oper) (ss : List SOp) (w : World) (G : Gh) (st st' : St) (fr fr' : Fr) (a : Act), mapO (cSOp P sh ops 0) l = some ss → Sim w1 w G st → FrRel G w fr a → evOps cl ss fr st = some (fr', st') →
      (∀ a' w' G', Nxt w1.heap.size G w G' w' → Sim w1 w' G' st' → FrRel G' w' fr' a' → Q .normal a' w') → wpList P ops Q l a w
  | [], ss, w, G, st, st', fr, fr', a, hc, h, hf, he, hQ => by
    cases hc
    cases he
    exact wpList_nil (hQ _ _ G (Nxt.refl _ _ _) h hf)
  | o :: l, ss, w, G, st, st', fr, fr', a, hc, h, hf, he, hQ => by
    unfold mapO at hc
    cases h1 : cSOp P sh ops 0 o with
    | none => rw [h1] at hc; cases hc
    | some s =>
      rw [h1] at hc
      cases h2 : mapO (cSOp P sh ops 0) l with
      | none => rw [h2] at hc; cases hc
      | some ss' =>
        rw [h2] at hc
        cases hc
        obtain ⟨c1, c2, c3, _⟩ := cSOp_some h1
        unfold evOps at he
        cases h3 : evSOp cl s fr st with
        | none => rw [h3] at he; cases he
        | some q =>
          obtain ⟨fr1, st1⟩ := q
          rw [h3] at he
          simp only at he
          unfold evSOp at h3
          refine wpList_step fun K hK => ?_
          split at h3
          · rename_i hw
            rw [if_pos (wanted_ok hf c2 hw)]
            cases h4 : evOp cl s.op fr st with
            | none => rw [h4] at h3; cases h3
            | some q =>
              obtain ⟨v, st2⟩ := q
              rw [h4] at h3
              cases h3
              replace c1 := c1.resolve_right fun e => by rw [e] at h4; cases h4
              refine op_ok hcl hb h hf c1 h4 fun v' w' G' N s' hf' _ => hK _ _ ?_
              rw [c3] at he
              exact ops_ok hcl hb l ss' w' G' st1 st' _ fr' _ h2 s' hf' he fun a'' w'' G'' N' s'' hf'' => hQ a'' w'' G'' (N.trans N') s'' hf''
          · rename_i hw
            rw [if_neg (by rw [wanted_ok hf c2 hw]; simp)]
            cases h3
            refine hK _ _ ?_
            rw [c3] at he
            exact ops_ok hcl hb l ss' w G st st' _ fr' _ h2 h (hf.put o.dst undef_rep) he hQ
          · cases h3


/-! ### A region that draws its order -/

theorem mem_tmps {l : List Opd} {t : Nat} : t ∈ tmpsOf l ↔ Opd.t t ∈ l := by
  induction l with
  | nil => simp [tmpsOf]
  | cons x l ih =>
    cases x with
    | t n => simp [tmpsOf, ih]
    | c v => simp [tmpsOf, ih]

theorem ev_same {fr fr' : Fr} {l : List Opd} (h : ∀ t ∈ tmpsOf l, fr.getD t .undef = fr'.getD t .undef) {x : Opd} (hx : x ∈ l) : x.ev fr = x.ev fr' := by
  cases x with
  | t n => exact h n (mem_tmps.2 hx)
  | c v => rfl

theorem opt_same {fr fr' : Fr} {o : Option Opd} (h : ∀ x ∈ o.toList, x.ev fr = x.ev fr') : o.map (·.ev fr) = o.map (·.ev fr') := by
  cases o with
  | none => rfl
  | some x => simp [h x (by simp)]

theorem evOp_same {cl : CallF} {i : IOp} {ts : List Nat} (hl : looksO i = some ts) {fr fr' : Fr} (h : ∀ t ∈ ts, fr.getD t .undef = fr'.getD t .undef) (st : St) : evOp cl i fr st = evOp cl i fr' st := by
  cases i with
  | build zs ps =>
    cases hl
    have e : ps.map (fun p => (p.1, p.2.1, p.2.2.ev fr)) = ps.map fun p => (p.1, p.2.1, p.2.2.ev fr') := List.map_congr_left fun p hp => by rw [ev_same h (List.mem_map_of_mem hp)]
    simp only [evOp, e]
  | ssub x lo hi =>
    cases hl
    have e1 := ev_same h (x := x) (by simp)
    have e2 := opt_same (fr := fr) (fr' := fr') (o := lo) fun y hy => ev_same h (by simp at hy ⊢; simp [hy])
    have e3 := opt_same (fr := fr) (fr' := fr') (o := hi) fun y hy => ev_same h (by simp at hy ⊢; simp [hy])
    simp only [evOp, e1, e2, e3]
  | lsub n x lo hi mx =>
    cases hl
    have e1 := ev_same h (x := x) (by simp)
    have e2 := opt_same (fr := fr) (fr' := fr') (o := lo) fun y hy => ev_same h (by simp at hy ⊢; simp [hy])
    have e3 := opt_same (fr := fr) (fr' := fr') (o := hi) fun y hy => ev_same h (by simp at hy ⊢; simp [hy])
    have e : evLsub fr n x lo hi mx = evLsub fr' n x lo hi mx := by
      cases mx with
      | none =>
        simp only [evLsub, e1, e2, e3]
        cases slcOf (x.ev fr').nm <;> rfl
      | some m =>
        have e4 := ev_same h (x := m) (by simp)
        simp only [evLsub, e1, e2, e3]
        cases slcOf (x.ev fr').nm <;> simp only [e4]
    simp only [evOp, e1, e]
  | mkfn f as =>
    cases hl
    have e : as.map (·.ev fr) = as.map (·.ev fr') := List.map_congr_left fun p hp => ev_same h hp
    simp only [evOp, e]
  | pick c x y =>
    cases hl
    have e1 := ev_same h (x := c) (by simp)
    have e2 := ev_same h (x := x) (by simp)
    have e3 := ev_same h (x := y) (by simp)
    simp only [evOp, e1, e2, e3]
  | bin op x y =>
    cases hl
    have e1 := ev_same h (x := x) (by simp)
    have e2 := ev_same h (x := y) (by simp)
    simp only [evOp, e1, e2]
  | eqs k n x y =>
    cases hl
    have e1 := ev_same h (x := x) (by simp)
    have e2 := ev_same h (x := y) (by simp)
    simp only [evOp, e1, e2]
  | idx n x y =>
    cases hl
    have e1 := ev_same h (x := x) (by simp)
    have e2 := ev_same h (x := y) (by simp)
    simp only [evOp, e1, e2]
  | sidx x y =>
    cases hl
    have e1 := ev_same h (x := x) (by simp)
    have e2 := ev_same h (x := y) (by simp)
    simp only [evOp, e1, e2]
  | mov x => cases hl; have e1 := ev_same h (x := x) (by simp); simp only [evOp, e1]
  | smov x => cases hl; have e1 := ev_same h (x := x) (by simp); simp only [evOp, e1]
  | nilchk x => cases hl; have e1 := ev_same h (x := x) (by simp); simp only [evOp, e1]
  | not x => cases hl; have e1 := ev_same h (x := x) (by simp); simp only [evOp, e1]
  | conv k x => cases hl; have e1 := ev_same h (x := x) (by simp); simp only [evOp, e1]
  | iface t x => cases hl; have e1 := ev_same h (x := x) (by simp); simp only [evOp, e1]
  | off o x => cases hl; have e1 := ev_same h (x := x) (by simp); simp only [evOp, e1]
  | field n o x => cases hl; have e1 := ev_same h (x := x) (by simp); simp only [evOp, e1]
  | ext x j => cases hl; have e1 := ev_same h (x := x) (by simp); simp only [evOp, e1]
  | len x => cases hl; have e1 := ev_same h (x := x) (by simp); simp only [evOp, e1]
  | slen x => cases hl; have e1 := ev_same h (x := x) (by simp); simp only [evOp, e1]
  | sdata x => cases hl; have e1 := ev_same h (x := x) (by simp); simp only [evOp, e1]
  | load n x => cases hl; have e1 := ev_same h (x := x) (by simp); simp only [evOp, e1]
  | _ => cases hl

/-- The frame without what the region itself has made. -/
def hide (dirty : List Nat) (fr : Fr) : Fr := fr.zipIdx.map fun p => if dirty.contains p.2 then .undef else p.1

theorem hide_length (dirty : List Nat) (fr : Fr) : (hide dirty fr).length = fr.length := by simp [hide]
theorem hide_get (dirty : List Nat) (fr : Fr) {i : Nat} (hi : i < fr.length) : (hide dirty fr)[i]'(by rw [hide_length]; exact hi) = if dirty.contains i then .undef else fr[i] := by
  simp [hide]

theorem hide_getD (dirty : List Nat) (fr : Fr) {i : Nat} (hi : dirty.contains i = false) : (hide dirty fr).getD i .undef = fr.getD i .undef := by
  by_cases h : i < fr.length
  · rw [List.getD_eq_getElem?_getD, List.getElem?_eq_getElem (by rw [hide_length]; exact h), hide_get _ _ h, List.getD_eq_getElem?_getD, List.getElem?_eq_getElem h, hi]
    rfl
  · rw [List.getD_eq_getElem?_getD, List.getElem?_eq_none (by rw [hide_length]; omega), List.getD_eq_getElem?_getD, List.getElem?_eq_none (by omega)]

/-- What stands outside 'dirty' reads as at the region's begin. -/
def Clean (G0 : Gh) (wr : World) (dirty : List Nat) (fr : Fr) (a : Act) : Prop := FrRel G0 wr (hide dirty fr) a

theorem Clean.of {G0 : Gh} {wr : World} {dirty : List Nat} {fr : Fr} {a : Act} (hs : a.tmps.size = fr.length) (hd : a.defers = []) (h : ∀ i (hi : i < fr.length), dirty.contains i = false → Rep G0 wr (fr[i]) (a.tmps.getD i Go.undef)) : Clean G0 wr dirty fr a := by
  refine ⟨by rw [hide_length, hs], hd, fun i hi => ?_⟩
  rw [hide_length] at hi
  rw [hide_get _ _ hi]
  split
  · exact .d (.undef _)
  · rename_i hc; exact h i hi (by simpa using hc)

theorem Clean.at {G0 : Gh} {wr : World} {dirty : List Nat} {fr : Fr} {a : Act} (h : Clean G0 wr dirty fr a) {i : Nat} (hi : i < fr.length) (hc : dirty.contains i = false) : Rep G0 wr (fr[i]) (a.tmps.getD i Go.undef) := by
  have := h.rep i (by rw [hide_length]; exact hi)
  rw [hide_get _ _ hi, hc] at this
  simpa using this

theorem Clean.put {G0 : Gh} {wr : World} {dirty dirty' : List Nat} {fr : Fr} {a : Act} (h : Clean G0 wr dirty fr a) (d : Option Nat) {x : PV} {v : Value}
    (hd : ∀ i, dirty'.contains i = false → (d = some i ∧ Rep G0 wr x v) ∨ (d ≠ some i ∧ dirty.contains i = false)) : Clean G0 wr dirty' (putF d x fr) (a.put d v) := by
  have hsz : a.tmps.size = fr.length := by have := h.size; rw [hide_length] at this; exact this
  cases d with
  | none =>
    refine .of hsz h.defers fun i hi hc => ?_
    rcases hd i hc with ⟨h1, _⟩ | ⟨_, h2⟩
    · cases h1
    · exact h.at hi h2
  | some j =>
    refine .of (by simp [Act.put, putF, hsz]) h.defers fun i hi hc => ?_
    simp only [putF, List.length_set] at hi
    simp only [Act.put, putF]
    rcases hd i hc with ⟨h1, h2⟩ | ⟨h1, h2⟩
    · cases h1
      rw [List.getElem_set_self, Array.getD_eq_getD_getElem?, Array.getElem?_setIfInBounds_self_of_lt (by omega)]
      exact h2
    · have hij : j ≠ i := fun e => h1 (by rw [e])
      rw [List.getElem_set_ne hij, Array.getD_eq_getD_getElem?, Array.getElem?_setIfInBounds_ne hij, ← Array.getD_eq_getD_getElem?]
      exact h.at hi h2

theorem evSch_mem {cl : CallF} {st0 : St} : ∀ (l : Tree) (s sf : Sch), evSch cl st0 l s = some sf → (∀ b ∈ s.held, b ∈ sf.held) ∧ ∀ b ∈ s.wrote, b ∈ sf.wrote
  | .nil, s, sf, h => by cases h; exact ⟨fun _ h => h, fun _ h => h⟩
  | .alt t u, s, sf, h => by
    unfold evSch at h
    split at h
    · rename_i x y h1 h2
      split at h
      · cases h
        have e1 := evSch_mem t _ _ h1
        exact ⟨fun b hb => List.mem_append_left _ (e1.1 b hb), fun b hb => List.mem_append_left _ (e1.2 b hb)⟩
      · cases h
    · cases h
  | .cons o l, s, sf, h => by
    unfold evSch at h
    split at h
    · split at h
      · obtain ⟨h1, h2⟩ := evSch_mem l _ _ h
        refine ⟨fun b hb => h1 b ?_, fun b hb => h2 b ?_⟩
        · simp only; split
          · exact List.mem_append_right _ hb
          · exact hb
        · simp only; split
          · exact List.mem_append_right _ hb
          · exact hb
      · cases h
    · have h' := evSch_mem l _ _ h
      exact h'
    · cases h


/-- What a region's held loads ask of a world. -/
def Held (G0 : Gh) (wr : World) (H : List Nat) (w' : World) : Prop :=
  (∀ b o, G0.F b o → w'.cell? ⟨b, o, none⟩ = wr.cell? ⟨b, o, none⟩) ∧ ∀ b k, b ∈ H → G0.bx b = some k → w'.heap[k]? = wr.heap[k]?

theorem beq_true_eq {α : Type} [BEq α] [LawfulBEq α] {a b : α} (h : (a == b) = true) : a = b := by simpa using h

/-- What is shown of a schedule: at its head (m false), or at each of the steps that may come up (m true). -/
def Goal (P : Program) (ops : Array Oper) (Q : Exit → Act → World → Prop) (S : World → Prop) (ds : List Nat) (t : STr) (m : Bool) (l : Array Bool) (a : Act) (w : World) : Prop :=
  match m with
  | false => wpAnyLast P .any ops Q S ds t.depth l a w
  | true => ∀ i ∈ t.heads, AllReadyL P .any ops Q S ds (t.depth - 1) l a w [i]

theorem Goal.one {P : Program} {ops : Array Oper} {Q : Exit → Act → World → Prop} {S : World → Prop} {ds : List Nat} {flag i : Nat} {r : STr} {m : Bool} {l : Array Bool} {a : Act} {w : World} {o : Oper} (ho : ops[i]? = some o) (hd : i ∉ ds) (hr : m = false → readyB .any ops l (l.setIfInBounds i true) i = true)
    (h : ∀ K : Act → World → Prop, Shut (∀ a' w', S w' → (S w' → wpAnyLast P .any ops Q S ds r.depth (l.setIfInBounds i true) a' w') → K a' w') → if Region.wanted o (yielded ops a.tmps) = true then Oper.wp P o a w K Q else K (a.put o.dst undef) w) : Goal P ops Q S ds (.cons flag i r) m l a w := by
  cases m with
  | false => exact one_ (l.setIfInBounds i true) ho rfl (hr rfl) hd h
  | true =>
    intro j hj
    have : j = i := by simpa [STr.heads] using hj
    subst this
    exact AllReadyL.cons ho hd (fun K hK => h K hK) AllReadyL.nil

theorem Goal.last {P : Program} {ops : Array Oper} {Q : Exit → Act → World → Prop} {S : World → Prop} {ds : List Nat} {flag i : Nat} {r : STr} {m : Bool} {l : Array Bool} {a : Act} {w : World} {o : Oper} (ho : ops[i]? = some o) (hd : i ∈ ds) (hr : m = false → readyB .any ops l (l.setIfInBounds i true) i = true)
    (h : ∀ K : Act → World → Prop, Shut (∀ a' w', wpAnyLast P .any ops Q S ds r.depth (l.setIfInBounds i true) a' w' → K a' w') → if Region.wanted o (yielded ops a.tmps) = true then Oper.wp P o a w K Q else K (a.put o.dst undef) w) : Goal P ops Q S ds (.cons flag i r) m l a w := by
  cases m with
  | false => exact last_ (l.setIfInBounds i true) ho rfl (hr rfl) hd h
  | true =>
    intro j hj
    have : j = i := by simpa [STr.heads] using hj
    subst this
    exact AllReadyL.cons_last ho hd (fun K hK => h K hK) AllReadyL.nil

/-- What a step asks, at the head or among several: of what kind it is. -/
theorem step_kinds {ops : Array Oper} {ds : List Nat} {flag i : Nat} {s : IOp} {l : Array Bool} {dirty : List Nat} {ended m : Bool} (h : (if m then altOk ops ds flag i s ended else stepOk ops ds flag i s l dirty ended) = true) :
    (m = false ∧ flag = 0 ∧ isPure s = true ∧ anyB .any ops l (l.setIfInBounds i true) i = true) ∨
    (m = false ∧ flag = 1 ∧ isLoad s = true ∧ cleanO s dirty = true ∧ ended = false ∧ takeB .any ops ds l (l.setIfInBounds i true) i = true) ∨
    (flag = 2 ∧ (m = false → readyB .any ops l (l.setIfInBounds i true) i = true) ∧ isShared s = false ∧ ended = false ∧ i ∉ ds) ∨
    (flag = 3 ∧ (m = false → readyB .any ops l (l.setIfInBounds i true) i = true) ∧ i ∈ ds) := by
  cases m with
  | false =>
    simp only [Bool.false_eq_true, if_false] at h
    unfold stepOk at h
    split at h
    · simp only [Bool.and_eq_true] at h; exact .inl ⟨rfl, rfl, h.1, h.2⟩
    · simp only [Bool.and_eq_true] at h; exact .inr (.inl ⟨rfl, rfl, h.1.1.1, h.1.1.2, by simpa using h.1.2, h.2⟩)
    · simp only [Bool.and_eq_true] at h; exact .inr (.inr (.inl ⟨rfl, fun _ => h.1.1.1, by simpa using h.1.1.2, by simpa using h.1.2, by simpa using h.2⟩))
    · simp only [Bool.and_eq_true] at h; exact .inr (.inr (.inr ⟨rfl, fun _ => h.1, by simpa using h.2⟩))
    · cases h
  | true =>
    simp only [if_true] at h
    unfold altOk at h
    split at h
    · simp only [Bool.and_eq_true] at h; exact .inr (.inr (.inl ⟨rfl, (fun h => by cases h), by simpa using h.1.1, by simpa using h.1.2, by simpa using h.2⟩))
    · exact .inr (.inr (.inr ⟨rfl, (fun h => by cases h), by simpa using h⟩))
    · cases h

theorem sch_ok {P : Program} {w0 w1 wr : World} {cl : CallF} (hcl : CallOk P w0 cl) (hb : Below w0.heap.size w0 w1) {sh : FuncId → Nat} {ops : Array Oper} {ds : List Nat} {G0 : Gh} {st0 : St} (h0 : Sim w1 wr G0 st0) {H : List Nat}
    {Q : Exit → Act → World → Prop} (hQp : ∀ c a w, ¬ Q (.panic c) a w) :
    ∀ (r : STr) (m : Bool) (ss : Tree) (l : Array Bool) (dirty : List Nat) (ended : Bool) (w : World) (G : Gh) (s sf : Sch) (a : Act), r.even = true → cSched P sh ops ds r m l dirty ended = some ss → Nxt w1.heap.size G0 wr G w → Sim w1 w G s.st → FrRel G w s.fr a → Clean G0 wr dirty s.fr a →
      (ended = false → Held G0 wr H w) → evSch cl st0 ss s = some sf → (∀ b ∈ sf.held, b ∈ H) → (∀ b ∈ sf.wrote, b ∉ H) →
      (∀ a' w' G', Nxt w1.heap.size G0 wr G' w' → Sim w1 w' G' sf.st → FrRel G' w' sf.fr a' → Q .normal a' w') → Goal P ops Q (Held G0 wr H) ds r m l a w
  | .nil, m, ss, l, dirty, ended, w, G, s, sf, a, hev0, hc, N, hs, hf, hcln, hS, he, hh, hw, hQ => by
    unfold cSched at hc
    split at hc
    · rename_i hr
      cases hc
      cases he
      simp only [Bool.and_eq_true, Bool.not_eq_true'] at hr
      obtain ⟨rfl, hr⟩ := hr
      exact done_ hr (hQ _ _ _ N hs hf)
    · cases hc
  | .alt t u, m, ss, l, dirty, ended, w, G, s, sf, a, hev0, hc, N, hs, hf, hcln, hS, he, hh, hw, hQ => by
    unfold STr.even at hev0
    simp only [Bool.and_eq_true, beq_iff_eq] at hev0
    unfold cSched at hc
    split at hc
    · rename_i hm
      split at hc
      · rename_i t' u' ht hu
        cases hc
        unfold evSch at he
        split at he
        · rename_i x y hx hy
          split at he
          · rename_i heq0
            have heq := Sch.eq_of_same heq0
            cases he
            have A := sch_ok hcl hb h0 (H := H) hQp t true t' l dirty ended w G s x a hev0.1.1 ht N hs hf hcln hS hx (fun b hb' => hh b (List.mem_append_left _ hb')) (fun b hb' => hw b (List.mem_append_left _ hb')) hQ
            have B := sch_ok hcl hb h0 (H := H) hQp u true u' l dirty ended w G s y a hev0.1.2 hu N hs hf hcln hS hy (fun b hb' => hh b (List.mem_append_right _ hb')) (fun b hb' => hw b (List.mem_append_right _ hb')) (by
              rw [← heq.1, ← heq.2]; exact hQ)
            have C : ∀ i ∈ (STr.alt t u).heads, AllReadyL P .any ops Q (Held G0 wr H) ds (t.depth - 1) l a w [i] := by
              intro i hi
              rcases List.mem_append.1 hi with hi | hi
              · exact A i hi
              · rw [hev0.2]; exact B i hi
            have hdep : (STr.alt t u).depth = t.depth := by simp only [STr.depth, hev0.2, if_true]
            cases m with
            | true =>
              intro i hi
              rw [hdep]
              exact C i hi
            | false =>
              simp only [Bool.false_or, Bool.and_eq_true, Bool.not_eq_true', beq_eq_false_iff_ne, ne_eq] at hm
              show wpAnyLast P .any ops Q (Held G0 wr H) ds (STr.alt t u).depth l a w
              rw [hdep]
              obtain ⟨i0, hi0⟩ := List.exists_mem_of_ne_nil _ hm.1
              have hpos : 0 < t.depth := by
                have h1 := List.all_eq_true.1 hm.2 i0 hi0
                have h2 : i0 ∈ t.heads ++ u.heads := by simpa using h1
                have key : ∀ (q : STr), q.even = true → ∀ i ∈ q.heads, 0 < q.depth := by
                  intro q
                  induction q with
                  | nil => intro _ i hi; cases hi
                  | cons f j q ih => intro _ i hi; simp [STr.depth]
                  | alt p q ihp ihq =>
                    intro he i hi
                    unfold STr.even at he
                    simp only [Bool.and_eq_true, beq_iff_eq] at he
                    simp only [STr.depth, he.2, if_true]
                    rcases List.mem_append.1 hi with hi | hi
                    · rw [← he.2]; exact ihp he.1.1 i hi
                    · exact ihq he.1.2 i hi
                rcases List.mem_append.1 h2 with h2 | h2
                · exact key t hev0.1.1 i0 h2
                · rw [hev0.2]; exact key u hev0.1.2 i0 h2
              obtain ⟨n, hn⟩ : ∃ n, t.depth = n + 1 := ⟨t.depth - 1, by omega⟩
              rw [hn] at C ⊢
              refine wpAnyLast_ready rfl hm.1 fun i hi => ?_
              have h1 := List.all_eq_true.1 hm.2 i hi
              exact C i (by simpa [STr.heads] using h1) i (List.mem_singleton_self _)
          · cases he
        · cases he
      · cases hc
    · cases hc
  | .cons flag i r, m, ss, l, dirty, ended, w, G, s, sf, a, hev0, hc, N, hs, hf, hcln, hS, he, hh, hwr, hQ => by
    unfold STr.even at hev0
    unfold cSched at hc
    split at hc
    · cases hc
    · rename_i o ho
      split at hc
      · cases hc
      · rename_i so hso
        obtain ⟨c1, c2, c3, c4⟩ := cSOp_some hso
        by_cases hok : (if m then altOk ops ds flag i so.op ended else stepOk ops ds flag i so.op l dirty ended) = true
        · rw [if_pos hok] at hc
          split at hc
          · rename_i ss' hss
            cases hc
            -- what the frame is behind a step that is clean, or is not
            have hclean : ∀ (z : PV) (v : Value), (flag ≤ 1 → cleanO so.op dirty = true → Rep G0 wr z v) → Clean G0 wr (dirtyN o.dst (decide (flag ≤ 1) && cleanO so.op dirty) dirty) (putF o.dst z s.fr) (a.put o.dst v) := by
              intro z v hz
              refine hcln.put o.dst fun j hj => ?_
              unfold dirtyN at hj
              cases hod : o.dst with
              | none => rw [hod] at hj; exact .inr ⟨by simp, hj⟩
              | some d =>
                rw [hod] at hj
                simp only at hj
                split at hj
                · rename_i hcf
                  simp only [Bool.and_eq_true, decide_eq_true_eq] at hcf
                  by_cases e : d = j
                  · subst e; exact .inl ⟨rfl, hz hcf.1 hcf.2⟩
                  · refine .inr ⟨by simpa using e, ?_⟩
                    rw [Bool.eq_false_iff] at hj ⊢
                    intro hm
                    refine hj ?_
                    simp only [List.contains_iff_mem, List.mem_filter] at hm ⊢
                    exact ⟨hm, by simp; exact fun e' => e e'.symm⟩
                · refine .inr ⟨?_, ?_⟩
                  · intro e; cases e
                    rw [Bool.eq_false_iff] at hj
                    exact hj (by simp)
                  · rw [Bool.eq_false_iff] at hj ⊢
                    intro hm
                    refine hj ?_
                    simp only [List.contains_iff_mem] at hm ⊢
                    exact List.mem_cons_of_mem _ hm
            have hdirty : ∀ ts, looksO so.op = some ts → cleanO so.op dirty = true → ∀ t ∈ ts, (hide dirty s.fr).getD t .undef = s.fr.getD t .undef := by
              intro ts hts hc t ht
              unfold cleanO at hc
              rw [hts] at hc
              simp only at hc
              have := List.all_eq_true.1 hc t ht
              exact hide_getD _ _ (by simpa using this)
            have hlooks : cleanO so.op dirty = true → ∃ ts, looksO so.op = some ts := by
              intro hc
              unfold cleanO at hc
              split at hc
              · rename_i ts hts; exact ⟨ts, hts⟩
              · cases hc
            unfold evSch at he
            -- the guard
            cases hgd : wantedB s.fr so.guard with
            | none => rw [hgd] at he; cases he
            | some gb =>
              rw [hgd] at he
              have hwant := wanted_ok hf c2 hgd
              cases gb with
              | false =>
                simp only at he
                rw [c3] at he
                have hf' := hf.put o.dst (undef_rep (G := G) (w := w))
                have hcl2 := hclean (.tuple []) Go.undef fun _ _ => undef_rep
                have IH := fun hS' => sch_ok hcl hb h0 hQp r false ss' (l.setIfInBounds i true) _ (ended || flag == 3) w G ⟨putF o.dst (.tuple []) s.fr, s.st, s.held, s.wrote⟩ sf _ hev0 hss N hs hf' hcl2 hS' he hh hwr hQ
                rcases step_kinds hok with ⟨rfl, rfl, k1, k2⟩ | ⟨rfl, rfl, k1, k2, k3, k4⟩ | ⟨rfl, k1, k2, k3, k4⟩ | ⟨rfl, k1, k2⟩
                · exact pure_ (l.setIfInBounds i true) ho rfl k2 (fun c a w hq => absurd hq (hQp _ _ _)) (.inr ⟨hwant, rfl⟩) rfl (IH fun he => hS (by simpa using he))
                · exact take_ (l.setIfInBounds i true) ho rfl k4 (fun c a w hq => absurd hq (hQp _ _ _)) (.inr ⟨hwant, rfl⟩) (hS k3) rfl (IH fun he => hS (by simpa using he))
                · have hen : ended = false := k3
                  refine Goal.one ho k4 k1 fun K hK => ?_
                  rw [if_neg (by rw [hwant]; simp)]
                  exact hK.out _ _ (hS hen) fun _ => IH fun _ => hS hen
                · refine Goal.last ho k2 k1 fun K hK => ?_
                  rw [if_neg (by rw [hwant]; simp)]
                  exact hK.out _ _ (IH fun he => by simp at he)
              | true =>
                simp only at he
                replace c1 : cOp P sh o.op = some so.op := c1.resolve_right fun e => by rw [e] at he; simp [evOp] at he
                rcases step_kinds hok with ⟨rfl, rfl, p1, p2⟩ | ⟨rfl, rfl, k1, k2, k3, k4⟩ | ⟨rfl, k1, k2, k3, k4⟩ | ⟨rfl, k1, k2⟩
                ·
                  simp only [c4, Nat.zero_ne_one, if_false, show ¬ (0 = 2) by omega] at he
                  cases hev : evOp cl so.op s.fr s.st with
                  | none => rw [hev] at he; cases he
                  | some q =>
                    obtain ⟨z, st1⟩ := q
                    rw [hev] at he
                    simp only at he
                    obtain ⟨rfl, v, hv, hr⟩ := pure_ok hf c1 p1 hev
                    have hcl2 := hclean z v fun _ hc => by
                      obtain ⟨ts, hts⟩ := hlooks hc
                      have e := evOp_same (cl := cl) hts (fr := hide dirty s.fr) (fr' := s.fr) (hdirty ts hts hc) s.st
                      rw [hev] at e
                      obtain ⟨_, v', hv', hr'⟩ := pure_ok hcln c1 p1 e
                      have := (hv wr).symm.trans (hv' wr)
                      cases this
                      exact hr'
                    rw [c3] at he
                    exact pure_ (l.setIfInBounds i true) ho rfl p2 (fun c a w hq => absurd hq (hQp _ _ _)) (.inl ⟨hwant, hv⟩) rfl
                      (sch_ok hcl hb h0 hQp r false ss' (l.setIfInBounds i true) _ (ended || 0 == 3) w G ⟨putF o.dst z s.fr, s.st, s.held, s.wrote⟩ sf _ hev0 hss N hs (hf.put o.dst hr) hcl2 (fun he => hS (by simpa using he)) he hh hwr hQ)
                ·
                  have hen : ended = false := k3
                  simp only [c4, if_true, show ¬ (1 = 2) by omega, if_false] at he
                  obtain ⟨ts, hts⟩ := hlooks k2
                  have e := evOp_same (cl := cl) hts (fr := hide dirty s.fr) (fr' := s.fr) (hdirty ts hts k2) st0
                  cases hev : evOp cl so.op s.fr st0 with
                  | none => rw [hev] at he; cases he
                  | some q =>
                    obtain ⟨z, st1⟩ := q
                    rw [hev] at he e
                    simp only at he
                    have hheld : ∀ b ∈ heldOf so s.fr, b ∈ H := fun b hb' => hh b ((evSch_mem _ _ _ he).1 b (List.mem_append_left _ hb'))
                    cases hop : so.op with
                    | load m y =>
                      rw [hop] at c1 e hev
                      obtain ⟨t, x, hot, hlt, hx⟩ : ∃ t x, o.op = .load t x ∧ loadT P t = some m ∧ cOpd x = some y := by
                        cases hq : o.op with
                        | load t x =>
                          rw [hq] at c1
                          simp only [cOp] at c1
                          split at c1
                          · rename_i q1 q2
                            cases c1
                            exact ⟨t, x, rfl, q1, q2⟩
                          · cases c1
                        | call c =>
                          exfalso
                          rw [hq] at c1
                          simp only [cOp, cCall] at c1
                          (repeat' split at c1) <;> first | (cases c1; done) | (obtain ⟨y, _, e'⟩ := Option.map_eq_some_iff.1 c1; cases e'; done)
                        | _ =>
                          exfalso
                          rw [hq] at c1
                          first
                            | cases c1; done
                            | (simp only [cOp] at c1; obtain ⟨y, _, e'⟩ := Option.map_eq_some_iff.1 c1; cases e'; done)
                            | (simp only [cOp] at c1; (repeat' split at c1) <;> first | (cases c1; done) | (obtain ⟨y, _, e'⟩ := Option.map_eq_some_iff.1 c1; cases e'; done))
                      obtain ⟨rfl, b, q, f, hv, hcell, hr, hrun, hwhere⟩ := load_ok h0 hlt (cOpd_rep hcln hx) rfl e
                      have hrunS : ∀ w', Held G0 wr H w' → (execOp a.eval o).run P w' = .ok (.value (ldv m f)) w' := by
                        intro w' hw'
                        simp only [execOp, hot]
                        rw [Sem.run_bind, hrun w' fun j hj => ?_]
                        · rfl
                        · rcases hwhere with ⟨bb, oo, e1, e2⟩ | hF
                          · have hin : bb ∈ H := by
                              refine hheld bb ?_
                              unfold heldOf
                              rw [hop]
                              have e3 : y.ev s.fr = y.ev (hide dirty s.fr) := by
                                rw [hop] at hts
                                exact ev_same (l := [y]) (fun t ht => (hdirty ts (by rw [hop]; exact hts) k2 t (by cases hts; exact ht)).symm) (by simp)
                              simp only
                              rw [e3, e1]
                              simp
                            have := hw'.2 bb b hin e2
                            rw [cell_of_heap this]
                            exact hcell j hj
                          · rw [hw'.1 b (q + j) (hF j hj)]
                            exact hcell j hj
                      have hcl2 := hclean z (ldv m f) fun _ _ => hr
                      rw [c3] at he
                      exact take_ (l.setIfInBounds i true) ho rfl k4 (fun c a w hq => absurd hq (hQp _ _ _)) (.inl ⟨hwant, hrunS⟩) (hS hen) rfl
                        (sch_ok hcl hb h0 hQp r false ss' (l.setIfInBounds i true) _ (ended || 1 == 3) w G ⟨putF o.dst z s.fr, s.st, heldOf so s.fr ++ s.held, s.wrote⟩ sf _ hev0 hss N hs (hf.put o.dst (hr.mono N)) hcl2 (fun _ => hS hen) he hh hwr hQ)
                    | _ => rw [hop] at k1; cases k1
                ·
                  have hen : ended = false := k3
                  simp only [c4, show ¬ (2 = 1) by omega, if_false, if_true] at he
                  cases hev : evOp cl so.op s.fr s.st with
                  | none => rw [hev] at he; cases he
                  | some q =>
                    obtain ⟨z, st1⟩ := q
                    rw [hev] at he
                    simp only at he
                    have hwrote : ∀ b ∈ wroteOf so s.fr, b ∉ H := fun b hb' => hwr b ((evSch_mem _ _ _ he).2 b (List.mem_append_left _ hb'))
                    rw [c3] at he
                    refine Goal.one ho k4 k1 fun K hK => ?_
                    rw [if_pos hwant]
                    refine op_ok hcl hb hs hf c1 hev fun v' w' G' N' s' hf' hkeep => ?_
                    have hcl2 := hclean z v' fun hfl _ => absurd hfl (by omega)
                    have HELD : Held G0 wr H w' := by
                      refine ⟨fun b o hF => (N.trans N').tr b o hF, fun b k hbH hk => ?_⟩
                      rw [hkeep b k ?_ (N.bx b k hk)]
                      · exact (hS hen).2 b k hbH hk
                      · unfold keepsB
                        split
                        · rename_i n' x' y' hop
                          intro b' o' hb' e
                          subst e
                          refine hwrote b ?_ hbH
                          unfold wroteOf
                          rw [hop]
                          simp only
                          rw [hb']
                          simp
                        · rename_i hop; rw [hop] at k2; cases k2
                        · rename_i hop; rw [hop] at k2; cases k2
                        · trivial
                    exact hK.out _ _ HELD fun _ => sch_ok hcl hb h0 hQp r false ss' (l.setIfInBounds i true) _ (ended || 2 == 3) w' G' ⟨putF o.dst z s.fr, st1, s.held, wroteOf so s.fr ++ s.wrote⟩ sf _ hev0 hss (N.trans N') s' hf' hcl2 (fun _ => HELD) he hh hwr hQ
                ·
                  simp only [c4, show ¬ (3 = 1) by omega, show ¬ (3 = 2) by omega, if_false] at he
                  cases hev : evOp cl so.op s.fr s.st with
                  | none => rw [hev] at he; cases he
                  | some q =>
                    obtain ⟨z, st1⟩ := q
                    rw [hev] at he
                    simp only at he
                    rw [c3] at he
                    refine Goal.last ho k2 k1 fun K hK => ?_
                    rw [if_pos hwant]
                    refine op_ok hcl hb hs hf c1 hev fun v' w' G' N' s' hf' _ => ?_
                    have hcl2 := hclean z v' fun hfl _ => absurd hfl (by omega)
                    exact hK.out _ _ (sch_ok hcl hb h0 hQp r false ss' (l.setIfInBounds i true) _ (ended || 3 == 3) w' G' ⟨putF o.dst z s.fr, st1, s.held, s.wrote⟩ sf _ hev0 hss (N.trans N') s' hf' hcl2 (fun he => by simp at he) he hh hwr hQ)
          · cases hc
        · rw [if_neg hok] at hc; cases hc

end Go.Proofs.YtgjklaobjnjhpaaGreatPe
