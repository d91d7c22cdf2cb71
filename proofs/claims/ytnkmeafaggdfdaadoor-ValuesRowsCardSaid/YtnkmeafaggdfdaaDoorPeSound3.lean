/- SOUND: functions. What 'call' says of a function of the program, the machine does. -/
import Derived.Test.YtnkmeafaggdfdaaDoorPeSound2
set_option linter.unusedVariables false
set_option linter.unusedSimpArgs false
namespace Go.Proofs.YtnkmeafaggdfdaaDoorPe
open Go Go.RowKit Go.Proofs.YtnkmeafaggdfdaaDoorW.PrintLast

/-- One result, read. -/
def readR (tmps : Array Value) : ResultVar → Sem Value
  | .tmp t => pure (tmps.getD t undef)
  | .cell a t => do loadVar t (← asAddr (tmps.getD a undef))

theorem results_eq (fn : Func) (tmps : Array Value) : results fn tmps = (do let vs ← fn.results.mapM (readR tmps); pure (if h : vs.size = 1 then vs[0] else .tuple vs)) := by
  unfold results
  congr 1

theorem readR_ok {P : Program} {w1 w : World} {G : Gh} {st : St} {fr : Fr} {a : Act} (h : Sim w1 w G st) (hf : FrRel G w fr a) {r : ResultVar} {s : ResV} (hc : cRes P r = some s) {x : PV} (he : resOf fr st s = some x) :
    ∃ v, (readR a.tmps r).run P w = .ok v w ∧ Rep G w x v := by
  cases r with
  | tmp t => cases hc; cases he; exact ⟨_, rfl, hf.get t⟩
  | cell t ty =>
    simp only [cRes] at hc
    obtain ⟨m, hm, rfl⟩ := Option.map_eq_some_iff.1 hc
    simp only [resOf] at he
    have hev : evOp (fun _ _ _ => none) (.load m (.t t)) fr st = some (x, st) := by
      simp only [evOp, Opd.ev]
      split at he
      · rename_i b o hb
        rw [hb]
        simp only
        split at he
        · rename_i cs hcs
          simp only [he, Option.map_some]
        · cases he
      · cases he
    obtain ⟨_, b, o, f, hv, hcell, hr, hrun, _⟩ := load_ok h hm (hf.get t) (y := .t t) (fr := fr) rfl hev
    refine ⟨ldv m f, ?_, hr⟩
    have := hrun w hcell
    rw [hv] at this
    unfold readR
    simp only [hv]
    exact this

theorem mapM_ok {P : Program} {w : World} {G : Gh} {α β : Type} {f : α → Sem Value} {c : α → Option β} {g : β → Option PV} (h : ∀ r s x, c r = some s → g s = some x → ∃ v, (f r).run P w = .ok v w ∧ Rep G w x v) :
    ∀ (l : List α) (ss : List β) (xs : List PV), mapO c l = some ss → mapO g ss = some xs → ∃ vs : List Value, (l.mapM f).run P w = .ok vs w ∧ Reps G w xs vs.toArray
  | [], ss, xs, h1, h2 => by cases h1; cases h2; exact ⟨[], rfl, rfl, fun j hj => absurd hj (Nat.not_lt_zero _)⟩
  | r :: l, ss, xs, h1, h2 => by
    unfold mapO at h1
    cases e1 : c r with
    | none => rw [e1] at h1; cases h1
    | some s =>
      rw [e1] at h1
      cases e2 : mapO c l with
      | none => rw [e2] at h1; cases h1
      | some ss' =>
        rw [e2] at h1
        cases h1
        unfold mapO at h2
        cases e3 : g s with
        | none => rw [e3] at h2; cases h2
        | some x =>
          rw [e3] at h2
          cases e4 : mapO g ss' with
          | none => rw [e4] at h2; cases h2
          | some xs' =>
            rw [e4] at h2
            cases h2
            obtain ⟨v, hv, hr⟩ := h r s x e1 e3
            obtain ⟨vs, hvs, hrs⟩ := mapM_ok h l ss' xs' e2 e4
            refine ⟨v :: vs, ?_, ?_⟩
            · rw [List.mapM_cons, Sem.run_bind, hv]
              show ((l.mapM f >>= fun vs => pure (v :: vs)).run P w) = _
              rw [Sem.run_bind, hvs]
              rfl
            · have := Reps.append (xs := [x]) (A := #[v]) (G := G) (w := w) ⟨rfl, fun j hj => by
                have : j = 0 := by simpa using hj
                subst this
                exact hr⟩ hrs
              simpa using this

theorem results_ok {P : Program} {w1 w : World} {G : Gh} {st : St} {fr : Fr} {a : Act} (h : Sim w1 w G st) (hf : FrRel G w fr a) {fn : Func} {rs : List ResV} (hc : mapO (cRes P) fn.results.toList = some rs) {x : PV} (he : resultsOf rs fr st = some x) :
    ∃ v, (results fn a.tmps).run P w = .ok v w ∧ Rep G w x v := by
  unfold resultsOf at he
  cases h1 : mapO (resOf fr st) rs with
  | none => rw [h1] at he; cases he
  | some xs =>
    rw [h1] at he
    obtain ⟨vs, hvs, hrs⟩ := mapM_ok (f := readR a.tmps) (fun r s x h2 h3 => readR_ok h hf h2 h3) fn.results.toList rs xs hc h1
    have hrun : (results fn a.tmps).run P w = .ok (if h : vs.toArray.size = 1 then vs.toArray[0] else .tuple vs.toArray) w := by
      rw [results_eq, Sem.run_bind]
      have : (fn.results.mapM (readR a.tmps)).run P w = .ok vs.toArray w := by
        rw [Array.mapM_eq_mapM_toList, Sem.run_map, hvs]
        rfl
      rw [this]
      rfl
    refine ⟨_, hrun, ?_⟩
    have hsz := hrs.1
    split at he
    · rename_i v hv
      cases hv
      cases he
      have : vs.toArray.size = 1 := by simpa using hsz
      rw [dif_pos this]
      have := hrs.2 0 (by simp)
      rw [Array.getD_eq_getD_getElem?, Array.getElem?_eq_getElem (by omega)] at this
      exact this
    · rename_i ys hne hys
      cases hys
      cases he
      have hn : ¬ vs.toArray.size = 1 := by
        intro e
        have : xs.length = 1 := by omega
        obtain ⟨y, rfl⟩ := List.length_eq_one_iff.1 this
        exact hne y rfl
      rw [dif_neg hn]
      exact .tuple hsz hrs.2
    · rename_i hne; cases hne

/-- The functions that are laid down: compiled from the program's own. -/
def FnsOk (P : Program) (fns : FuncId → Option IFunc) : Prop :=
  ∀ f c, fns f = some c → ∃ fn sh hs, P.funcs[f]? = some fn ∧ (fn.name == "runtime.NumGoroutine") = false ∧ compF P sh hs fn = some c

/-- The answers that are laid down for the others. -/
def GivenOk (P : Program) (w0 : World) (fns : FuncId → Option IFunc) (given : FuncId → List PV → Option PV) : Prop :=
  ∀ f as r, fns f = none → given f as = some r → FnOk P f ∧ ∀ (w : World) (F : Fix) vs, (∀ b o, F b o → b < w.heap.size) → Below w0.heap.size w0 w → vs.size = as.length → (∀ j (h : j < as.length), RepD F w (as[j]) (vs.getD j Go.undef)) →
    Calls P f vs w fun e w' => ∃ v G1 st1, e = .returned v ∧ Nxt w.heap.size (Gh.base F) w G1 w' ∧ Sim w w' G1 st1 ∧ RepD G1.boxed w' r v

/-- What comes back without memory of its own. -/
theorem given_plain {w w' : World} {F : Fix} {r : PV} {v : Value} {e : Ending} (hF : ∀ b o, F b o → b < w.heap.size) (he : e = .returned v) (hB : Below w.heap.size w w') (hr : RepD F w' r v) :
    ∃ v G1 st1, e = .returned v ∧ Nxt w.heap.size (Gh.base F) w G1 w' ∧ Sim w w' G1 st1 ∧ RepD G1.boxed w' r v := by
  obtain ⟨s, N⟩ := (Sim.base hF).grow hB
  exact ⟨v, _, _, he, N, s, hr.mono (fun b o h => .inl h) (Tr.refl _ _)⟩

theorem reps_replicate {G : Gh} {w : World} (n : Nat) : Reps G w (List.replicate n .undef) (Array.replicate n Go.undef) :=
  ⟨by simp, fun j hj => by simp only [List.getElem_replicate]; exact .d (.undef _)⟩

theorem evF_ok {P : Program} {w0 : World} {fns : FuncId → Option IFunc} {given : FuncId → List PV → Option PV} (hm : P.follows .mixedOrders = true) (hF : FnsOk P fns) (hG : GivenOk P w0 fns given) : ∀ k, CallOk P w0 (evF fns given k)
  | 0 => fun f as st r st' h => by cases h
  | k + 1 => fun f as st r st' h => by
    have ih := evF_ok hm hF hG k
    unfold evF at h
    cases hfn : fns f with
    | some c =>
      rw [hfn] at h
      simp only at h
      obtain ⟨fn, sh, hs, h1, h2, h3⟩ := hF f c hfn
      unfold compF at h3
      split at h3
      · rename_i code rs hbody hrs
        split at h3
        · rename_i b hcomp
          cases h3
          refine ⟨⟨fn, h1, h2, by rw [hbody]; rfl⟩, fun w1 w G vs hb hsim hreps => ?_⟩
          refine calls_of_wp h1 hbody ?_
          have hfr : FrRel G w (as ++ List.replicate (fn.ntmps - as.length) .undef) { tmps := vs ++ Array.replicate (fn.ntmps - vs.size) Go.undef, defers := [] } := by
            have := hreps.append (reps_replicate (G := G) (w := w) (fn.ntmps - as.length))
            rw [hreps.1]
            exact ⟨this.1, rfl, this.2⟩
          cases h4 : evC (evF fns given k) k b (as ++ List.replicate (fn.ntmps - as.length) .undef) st with
          | none => rw [h4] at h; cases h
          | some t =>
            obtain ⟨x, fr', st1⟩ := t
            rw [h4] at h
            refine wp_mono (comp_ok ih hb hm k code 0 b w G st st1 _ fr' _ x hcomp hsim hfr h4) fun e a' w' hpost => ?_
            obtain ⟨rfl, G', N, s, hf'⟩ := hpost
            cases x with
            | normal =>
              simp only at h
              obtain ⟨y, hy, e⟩ := Option.map_eq_some_iff.1 h
              cases e
              obtain ⟨v, hv, hr⟩ := results_ok s hf' hrs hy
              exact ⟨hf'.defers, v, hv, v, G', rfl, N, s, hr⟩
            | ret =>
              simp only at h
              obtain ⟨y, hy, e⟩ := Option.map_eq_some_iff.1 h
              cases e
              obtain ⟨v, hv, hr⟩ := results_ok s hf' hrs hy
              exact ⟨hf'.defers, v, hv, v, G', rfl, N, s, hr⟩
            | exit i => cases h
        · cases h3
      · cases h3
    | none =>
      rw [hfn] at h
      simp only at h
      cases h1 : mapO (shutA shutN) as with
      | none => rw [h1] at h; cases h
      | some bs =>
        rw [h1] at h
        simp only at h
        obtain ⟨y, hy, e⟩ := Option.map_eq_some_iff.1 h
        cases e
        obtain ⟨k1, k2⟩ := hG f bs _ hfn hy
        refine ⟨k1, fun w1 w G vs hb hsim hreps => ?_⟩
        obtain ⟨e, kk⟩ := mapO_some h1
        refine (k2 w G.F vs hsim.Fd (hb.trans (hsim.below.mono hb.size)) (by rw [hreps.1, e]) fun j hj => shutA_rep (G := G) shutN (hreps.2 j (by omega)) (kk j (by omega) hj)).mono fun e' w' hh => ?_
        obtain ⟨v, G1, st1, rfl, N, s, hr⟩ := hh
        obtain ⟨N', s'⟩ := hsim.after N s
        exact ⟨v, _, rfl, N', s', .d hr⟩

theorem call_ok {P : Program} {w0 : World} {fns : FuncId → Option IFunc} {given : FuncId → List PV → Option PV} (hm : P.follows .mixedOrders = true) (hF : FnsOk P fns) (hG : GivenOk P w0 fns given) : CallOk P w0 (call fns given) := by
  intro f as st r st' h
  obtain ⟨k, hk⟩ := (call_some fns given).1 h
  exact evF_ok hm hF hG k f as st r st' hk

/-- THE DOOR: a call from outside, on plain data: what comes back is plain, and the memory that was stands as it stood. -/
theorem call_calls {P : Program} {w : World} {fns : FuncId → Option IFunc} {given : FuncId → List PV → Option PV} (hm : P.follows .mixedOrders = true) (hF : FnsOk P fns) (hG : GivenOk P w fns given) {f : FuncId} {as : List PV} {r : PV} {st' : St} {F : Fix} {vs : Array Value}
    (hFd : ∀ b o, F b o → b < w.heap.size) (hsz : vs.size = as.length) (hr : ∀ j (h : j < as.length), RepD F w (as[j]) (vs.getD j Go.undef)) (he : call fns given f as ⟨[], [], [], []⟩ = some (r, st')) :
    Calls P f vs w fun e w' => ∃ v G', e = .returned v ∧ Below w.heap.size w w' ∧ Sim w w' G' st' ∧ Rep G' w' r v := by
  refine ((call_ok hm hF hG f as _ r st' he).2 w w (Gh.base F) vs (Below.refl _ _) (.base hFd) ⟨hsz, fun j hj => .d (hr j hj)⟩).mono fun e w' hh => ?_
  obtain ⟨v, G', rfl, N, s, h⟩ := hh
  exact ⟨v, G', rfl, s.below, s, h⟩

/-- A call over a table of its own, as what is given to another: its answer shut. -/
theorem given_of_call {P : Program} {w0 : World} {fns : FuncId → Option IFunc} {given : FuncId → List PV → Option PV} (hm : P.follows .mixedOrders = true) (hF : FnsOk P fns) (hG : GivenOk P w0 fns given) {f : FuncId} {as : List PV} {r z : PV} {st' : St}
    (he : call fns given f as ⟨[], [], [], []⟩ = some (r, st')) (hz : shutR false st' shutN r = some z) :
    FnOk P f ∧ ∀ (w : World) (F : Fix) vs, (∀ b o, F b o → b < w.heap.size) → Below w0.heap.size w0 w → vs.size = as.length → (∀ j (h : j < as.length), RepD F w (as[j]) (vs.getD j Go.undef)) →
    Calls P f vs w fun e w' => ∃ v G1 st1, e = .returned v ∧ Nxt w.heap.size (Gh.base F) w G1 w' ∧ Sim w w' G1 st1 ∧ RepD G1.boxed w' z v := by
  obtain ⟨k1, k2⟩ := call_ok hm hF hG f as _ r st' he
  refine ⟨k1, fun w F vs hFd hb hsz hr => (k2 w w (Gh.base F) vs hb (.base hFd) ⟨hsz, fun j hj => .d (hr j hj)⟩).mono fun e w' hh => ?_⟩
  obtain ⟨v, G', rfl, N, s, h⟩ := hh
  exact ⟨v, G', st', rfl, N, s, shutR_rep s shutN h hz⟩

/-- A slice that is looked at: nil, or of no elements, or neither. -/
theorem RepD.lst_cases {F : Fix} {w : World} {l : List PV} {v : Value} (h : RepD F w (.lst l) v) : l ≠ [] ∨ l = [] ∧ (RepD F w .nils v ∨ RepD F w .emc v) := by
  cases l with
  | cons e l => exact .inl (by simp)
  | nil =>
    refine .inr ⟨rfl, ?_⟩
    cases h with
    | sl hx hcap ha hsz hc hr =>
      rename_i l a cap b o sz vs
      have hl : l = [] := by
        rcases hx with hx | ⟨hx, _⟩
        · cases hx; rfl
        · cases hx
      subst hl
      cases a with
      | none => rw [ha.2 rfl]; exact .inl .nils
      | some a => exact .inr (.emc a _)
end Go.Proofs.YtnkmeafaggdfdaaDoorPe
