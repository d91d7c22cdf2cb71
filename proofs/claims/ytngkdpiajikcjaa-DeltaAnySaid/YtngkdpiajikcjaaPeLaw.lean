/- FROM A LAW'S ROW TO THE EVALUATOR: arguments that read as data are plain values; a call that comes to 'true' over them is the row's answer. -/
import Derived.Test.YtngkdpiajikcjaaPeSound3
import Derived.ProofKit
set_option linter.unusedVariables false
set_option linter.unusedSimpArgs false
namespace Go.Proofs.YtngkdpiajikcjaaPe
open Go Go.RowKit Go.ChangeShapes

/-- The types of the laws' arguments. -/
inductive Sh where
  | int (k : IntKind)
  | bool
  | str
  | sl (s : Sh)

def Fits (P : Program) : Sh → TypeId → Prop
  | .int k, t => P.underlying t = some (.int k)
  | .bool, t => P.underlying t = some .bool
  | .str, t => P.underlying t = some .string
  | .sl s, t => ∃ e, P.underlying t = some (.slice e) ∧ P.cellsOf e = 1 ∧ Fits P s e

def Typed : Sh → PV → Prop
  | .int k, x => ∃ n, x = .int k n ∧ (Lit.int k n).wf = true
  | .bool, x => ∃ b, x = .bool b
  | .str, x => ∃ s : List UInt8, x = .str s ∧ s.length ≤ maxLen
  | .sl s, x => ∃ l, x = .lst l ∧ l.length ≤ maxLen ∧ ∀ y ∈ l, Typed s y

theorem RepD.emptyL {F : Fix} {w : World} (a : Option Addr) (cap : Nat) (hn : a = none → cap = 0) : RepD F w (.lst []) (.slice a 0 cap) :=
  RepD.sl (l := []) (b := 0) (o := 0) (sz := 0) (vs := fun _ => Go.undef) (.inl rfl) (Nat.zero_le _) ⟨fun h => absurd rfl h, hn⟩ (fun i hi => absurd hi (Nat.not_lt_zero _)) (fun i j hi => absurd hi (Nat.not_lt_zero _)) (fun i hi => absurd hi (Nat.not_lt_zero _))

/-- The memory that is there. -/
def Old (w : World) : Fix := fun b _ => b < w.heap.size

theorem cells?_one {w : World} {base : Nat} {a : Addr} {cs : List Value} (h : w.cells? base a 1 = some cs) : ∃ c, cs = [c] ∧ w.cell? a = some c := by
  unfold World.cells? at h
  split at h
  · have e0 : a.add 0 = a := by simp [Addr.add]
    simp only [List.range_succ, List.range_zero, List.nil_append, List.mapM_cons, List.mapM_nil, e0] at h
    cases hcc : w.cell? a with
    | none => simp [hcc] at h
    | some c => simp [hcc] at h; exact ⟨c, h.symm, rfl⟩
  · cases h

theorem cell?_spot {w : World} {a : Addr} {c : Value} (h : w.cell? a = some c) : a.spot = none ∧ a.block < w.heap.size := by
  unfold World.cell? at h
  split at h
  · rename_i hb
    split at h
    · cases h
    · rename_i hs
      exact ⟨by simpa using hs, (Array.getElem?_eq_some_iff.1 hb).1⟩
  · cases h

theorem read_ok {H : Type} {enc : TypeId × Value → H} {P : Program} {w : World} {sp : Nat → Bool} {held : Bool} : ∀ (s : Sh) (t : TypeId) (fuel : Nat) (cs : List Value) (d : DataW H × List MemPlace), Fits P s t → DataW.trod enc P w 0 sp held fuel t cs = some d →
    ∃ c x, cs = [c] ∧ c.cells = #[c] ∧ c.oneCell' = true ∧ x.isCell = true ∧ Typed s x ∧ RepD (Old w) w x c
  | .int k, t, fuel, cs, d, hf, h => by
    obtain ⟨n, rfl, _, hw⟩ := DataW.trod_int hf h
    exact ⟨_, .int k n, rfl, rfl, rfl, rfl, ⟨n, rfl, hw⟩, .int k n⟩
  | .bool, t, fuel, cs, d, hf, h => by
    obtain ⟨b, rfl, _⟩ := DataW.trod_bool hf h
    exact ⟨_, .bool b, rfl, rfl, rfl, rfl, ⟨b, rfl⟩, .bool b⟩
  | .str, t, fuel, cs, d, hf, h => by
    obtain ⟨⟨⟨s⟩⟩, rfl, _, hs⟩ := DataW.trod_string hf h
    exact ⟨_, .str s, rfl, rfl, rfl, rfl, ⟨s, rfl, hs⟩, .str s⟩
  | .sl s, t, fuel, cs, d, hf, h => by
    obtain ⟨e, he, hc, hs⟩ := hf
    rcases DataW.trod_slice he h with ⟨rfl, _⟩ | ⟨a, len, cap, elems, rest, n, _, rfl, _, _, hl, hm, hlen, hel, _, _⟩
    · exact ⟨_, .lst [], rfl, rfl, rfl, rfl, ⟨[], rfl, Nat.zero_le _, fun y hy => by cases hy⟩, RepD.emptyL _ _ fun _ => rfl⟩
    · rcases Nat.eq_zero_or_pos len with rfl | hpos
      · exact ⟨_, .lst [], rfl, rfl, rfl, rfl, ⟨[], rfl, Nat.zero_le _, fun y hy => by cases hy⟩, RepD.emptyL _ _ fun h => by cases h⟩
      · have each : ∀ i, ∃ (c : Value) (x : PV), i < len → w.cell? (a.add i) = some c ∧ c.cells = #[c] ∧ c.oneCell' = true ∧ x.isCell = true ∧ Typed s x ∧ RepD (Old w) w x c := by
          intro i
          by_cases hi : i < len
          · have h1 := hel i hi
            rw [hc, Nat.mul_one, List.getElem?_eq_getElem (by omega)] at h1
            obtain ⟨cs, h2, h3⟩ := Option.bind_eq_some_iff.1 h1
            obtain ⟨c, rfl, h4⟩ := cells?_one h2
            obtain ⟨c', x, e1, e2, e3, e4, e5, e6⟩ := read_ok s e n _ _ hs h3
            cases e1
            exact ⟨c, x, fun _ => ⟨h4, e2, e3, e4, e5, e6⟩⟩
          · exact ⟨Go.undef, .undef, fun h => absurd h hi⟩
        have h0 := ((each 0).choose_spec.choose_spec hpos).1
        have hsp := cell?_spot h0
        have ha0 : a.add 0 = a := by simp [Addr.add]
        rw [ha0] at hsp
        obtain ⟨b, o, spt⟩ := a
        obtain ⟨e1, e2⟩ := hsp
        simp only at e1 e2
        subst e1
        let X : Nat → PV := fun i => (each i).choose_spec.choose
        let V : Nat → Value := fun i => (each i).choose
        have spec : ∀ i, i < len → w.cell? ((⟨b, o, none⟩ : Addr).add i) = some (V i) ∧ (V i).cells = #[V i] ∧ (V i).oneCell' = true ∧ (X i).isCell = true ∧ Typed s (X i) ∧ RepD (Old w) w (X i) (V i) := fun i hi => (each i).choose_spec.choose_spec hi
        have hadd : ∀ i, (⟨b, o, none⟩ : Addr).add i = ⟨b, o + i, none⟩ := by
          intro i
          unfold Addr.add
          split
          · rename_i h; subst h; rfl
          · rfl
        refine ⟨_, .lst ((List.range len).map X), rfl, rfl, rfl, rfl, ⟨_, rfl, ?_, ?_⟩, ?_⟩
        · simp only [List.length_map, List.length_range]; omega
        · intro y hy
          obtain ⟨i, hi, rfl⟩ := List.mem_map.1 hy
          exact (spec i (by simpa using hi)).2.2.2.2.1
        · have hlen' : ((List.range len).map X).length = len := by simp
          have := RepD.sl (F := Old w) (w := w) (x := .lst ((List.range len).map X)) (l := (List.range len).map X) (a := some ⟨b, o, none⟩) (cap := cap) (b := b) (o := o) (sz := 1) (vs := V) (.inl rfl) (by rw [hlen']; exact hl) ⟨fun _ => rfl, fun h => by cases h⟩
            (fun i hi => by rw [hlen'] at hi; rw [(spec i hi).2.1]; rfl) (fun i j hi hj => by
              rw [hlen'] at hi
              have hj0 : j = 0 := by omega
              subst hj0
              have h1 := (spec i hi).1
              rw [hadd] at h1
              have h2 : (V i).cells.getD 0 Go.undef = V i := by rw [(spec i hi).2.1]; rfl
              rw [h2, Nat.mul_one, Nat.add_zero]
              exact ⟨e2, h1, (spec i hi).2.2.1⟩) (fun i hi => by
              rw [hlen'] at hi
              simp only [List.getElem_map, List.getElem_range]
              exact (spec i hi).2.2.2.2.2)
          rw [hlen'] at this
          exact this

theorem arg_ok {H : Type} {enc : TypeId × Value → H} {P : Program} {w : World} {base : Nat} {s : Sh} {t : TypeId} {v : Value} {d : DataW H} {p : List MemPlace} (hf : Fits P s t) (hval : Value.okWide P w .any base t v) (h : DataW.Trod enc P w 0 (fun _ => true) true t v d p) :
    ∃ x, Typed s x ∧ RepD (Old w) w x v := by
  obtain ⟨fuel, h⟩ := h
  obtain ⟨c, x, e1, e2, _, _, e5, e6⟩ := read_ok s t fuel _ _ hf h
  have hv : v = c := by
    cases v with
    | agg cs =>
      exfalso
      cases s with
      | int k => simp [Fits] at hf; simp [Value.okWide, Cell.okWide, Cell.ok, hf] at hval
      | bool => simp [Fits] at hf; simp [Value.okWide, Cell.okWide, Cell.ok, hf] at hval
      | str => simp [Fits] at hf; simp [Value.okWide, Cell.okWide, Cell.ok, hf] at hval
      | sl s => obtain ⟨e, he, _⟩ := hf; simp [Value.okWide, Cell.okWide, Cell.ok, he] at hval
    | _ => simpa [Value.cells] using e1
  subst hv
  exact ⟨x, e5, e6⟩

theorem trodAll_stays {H : Type} {enc : TypeId × Value → H} {P : Program} (hl : laidOutB P = true) {W W' : World} {sp : Nat → Bool} (hb : Below W.heap.size W W') : ∀ (ts : List TypeId) (vs : List Value) (ds : List (DataW H)) (p : List MemPlace),
    (∀ t ∈ ts, P.readableRec t = true ∧ t < P.types.size) → DataW.TrodAll enc P W 0 (fun _ => true) true ts vs ds p → (∀ x ∈ p, x.block < W.heap.size) → (∀ x ∈ p, sp x.block = true) → DataW.TrodAll enc P W' 0 sp true ts vs ds p
  | [], [], [], p, _, h, _, _ => h
  | [], [], _ :: _, p, _, h, _, _ => h.elim
  | [], _ :: _, _, p, _, h, _, _ => h.elim
  | _ :: _, [], _, p, _, h, _, _ => h.elim
  | _ :: _, _ :: _, [], p, _, h, _, _ => h.elim
  | t :: ts, v :: vs, d :: ds, p, hr, h, hlt, hsp => by
    obtain ⟨q, r, h1, h2, rfl⟩ := h
    have ht := hr t (by simp)
    exact ⟨q, r, WideElems.Trod_stays hl ht.1 ht.2 h1 (fun x hx => hb.same (hlt x (List.mem_append_left _ hx))) (fun x hx => hsp x (List.mem_append_left _ hx)),
      trodAll_stays hl hb ts vs ds r (fun t ht => hr t (List.mem_cons_of_mem _ ht)) h2 (fun x hx => hlt x (List.mem_append_right _ hx)) (fun x hx => hsp x (List.mem_append_right _ hx)), rfl⟩

/-- What a row asks behind the call: the answer is 'true', all that was is as it was. -/
theorem post_true {H : Type} {enc : TypeId × Value → H} {P : Program} {f : Func} {s : ChangeSpec} {apart fresh handsOn again : Bool} {W W' : World} {args : Array Value} {ds gs : List (DataW H)} {before : List MemPlace} {tb : TypeId} (hl : laidOutB P = true)
    (hrd : ∀ t ∈ f.params.toList, P.readableRec t = true ∧ t < P.types.size) (hvars : s.vars = []) (hres : f.resultTypes = #[tb]) (htb : P.underlying tb = some .bool)
    (hW : DataW.Whole enc P f.params.toList s.vars apart W args.toList ds gs before) (hfn : s.fn H (ds ++ gs) = ⟨[.lit (.bool true)], ds, []⟩) (hb : Below W.heap.size W W') :
    s.post enc P f apart fresh handsOn again W args (.bool true) W' := by
  have hlt := hW.lt
  have hW' := hW
  obtain ⟨p, q, hA, hV, rfl, hfz, hnd⟩ := hW
  rw [hvars] at hV
  obtain ⟨rfl, rfl⟩ := trodVars_none hV
  have hargs : ∀ sp : Nat → Bool, (∀ x ∈ p, sp x.block = true) → DataW.TrodAll enc P W' 0 sp true f.params.toList args.toList ds p := fun sp hsp =>
    trodAll_stays hl hb _ _ _ _ hrd hA (fun x hx => hlt x (by simpa using hx)) hsp
  have hr1 : ((Value.bool true).resultList f.resultTypes.size) = [.bool true] := by rw [hres]; rfl
  have hres' : ∀ (b : Nat) (sp : Nat → Bool) (hd : Bool), DataW.TrodAll enc P W' b sp hd f.resultTypes.toList ((Value.bool true).resultList f.resultTypes.size) [.lit (.bool true)] [] := fun b sp hd => by
    rw [hr1, hres]
    exact trodAll_mk1 (shut_bool htb true)
  have hfz' : W'.noneFrozen (p ++ []) := by
    intro b off hp
    rw [hb.frozen (p := ⟨b, off, none⟩) (hlt _ hp)]
    exact hfz b off hp
  refine ⟨ds, [], p ++ [], [], p, [], hW', by rw [hfn]; exact hres' _ _ _, by rw [hfn]; exact hargs _ (fun x hx => by simpa using hlt x (by simpa using hx)), ?_, hb.frame _, fun _ => ⟨?_, ?_⟩⟩
  · rw [hvars]; rw [hfn]; exact rfl
  · exact ok_one hres rfl (okWide_bool_mk htb true)
  · refine ⟨[.lit (.bool true)] ++ ds, [], p ++ [], ⟨p, [], ?_, ?_, rfl, hfz', hnd⟩, fun x hx _ => hx⟩
    · have := trodAll_append (hargs (fun _ => true) (fun _ _ => rfl)) (hres' 0 (fun _ => true) true)
      simpa using this
    · rw [hvars]; exact rfl

def FitsAll (P : Program) : List Sh → List TypeId → Prop
  | [], [] => True
  | s :: ss, t :: ts => Fits P s t ∧ FitsAll P ss ts
  | _, _ => False
def TypedAll : List Sh → List PV → Prop
  | [], [] => True
  | s :: ss, x :: xs => Typed s x ∧ TypedAll ss xs
  | _, _ => False

theorem typed1 {s : Sh} : ∀ {xs : List PV}, TypedAll [s] xs → ∃ x, xs = [x] ∧ Typed s x
  | [x], h => ⟨x, rfl, h.1⟩
theorem typed2 {s t : Sh} : ∀ {xs : List PV}, TypedAll [s, t] xs → ∃ x y, xs = [x, y] ∧ Typed s x ∧ Typed t y
  | [x, y], h => ⟨x, y, rfl, h.1, h.2.1⟩
theorem typed3 {s t u : Sh} : ∀ {xs : List PV}, TypedAll [s, t, u] xs → ∃ x y z, xs = [x, y, z] ∧ Typed s x ∧ Typed t y ∧ Typed u z
  | [x, y, z], h => ⟨x, y, z, rfl, h.1, h.2.1, h.2.2.1⟩

theorem args_ok {H : Type} {enc : TypeId × Value → H} {P : Program} {w : World} {base : Nat} : ∀ (ss : List Sh) (ts : List TypeId) (vs : List Value) (ds : List (DataW H)) (p : List MemPlace), FitsAll P ss ts →
    (∀ (j : Nat) t v, ts[j]? = some t → vs[j]? = some v → Value.okWide P w .any base t v) → DataW.TrodAll enc P w 0 (fun _ => true) true ts vs ds p →
    ds.length = ss.length ∧ ∃ xs, TypedAll ss xs ∧ xs.length = vs.length ∧ ∀ j (h : j < xs.length), RepD (Old w) w (xs[j]) (vs.getD j Go.undef)
  | [], [], [], [], p, _, _, h => ⟨rfl, [], trivial, rfl, fun j hj => absurd hj (Nat.not_lt_zero _)⟩
  | [], [], [], _ :: _, p, _, _, h => h.elim
  | [], [], _ :: _, _, p, _, _, h => h.elim
  | [], _ :: _, _, _, p, hf, _, h => hf.elim
  | _ :: _, [], _, _, p, hf, _, h => hf.elim
  | _ :: _, _ :: _, [], _, p, _, _, h => h.elim
  | _ :: _, _ :: _, _ :: _, [], p, _, _, h => h.elim
  | s :: ss, t :: ts, v :: vs, d :: ds, p, hf, hval, h => by
    obtain ⟨q, r, h1, h2, rfl⟩ := h
    obtain ⟨x, hx, hr⟩ := arg_ok hf.1 (hval 0 t v rfl rfl) h1
    obtain ⟨hl, xs, k1, k2, k3⟩ := args_ok ss ts vs ds r hf.2 (fun j t v h1 h2 => hval (j + 1) t v (by simpa using h1) (by simpa using h2)) h2
    refine ⟨by simp [hl], x :: xs, ⟨hx, k1⟩, by simp [k2], fun j hj => ?_⟩
    cases j with
    | zero => exact hr
    | succ j => simpa using k3 j (by simpa using hj)

/-- THE ROW's CONTRACT, from what the evaluator says. -/
theorem law_contract {H : Type} {enc : TypeId × Value → H} {P : Program} {fns : FuncId → Option IFunc} {given : FuncId → List PV → Option PV} (hm : P.follows .mixedOrders = true) (hF : FnsOk P fns) (hl : laidOutB P = true)
    {f : FuncId} {fn : Func} {s : ChangeSpec} {apart fresh handsOn again : Bool} {tb : TypeId} {ss : List Sh} (hvars : s.vars = []) (hfit : FitsAll P ss fn.params.toList) (hrd : ∀ t ∈ fn.params.toList, P.readableRec t = true ∧ t < P.types.size)
    (hres : fn.resultTypes = #[tb]) (htb : P.underlying tb = some .bool) (hfn : ∀ ds : List (DataW H), ds.length = ss.length → s.fn H ds = ⟨[.lit (.bool true)], ds, []⟩)
    (hlaw : ∀ xs, TypedAll ss xs → ∃ st', call fns given f xs ⟨[], []⟩ = some (.bool true, st'))
    {W : World} (hG : GivenOk P W fns given) {base : Nat} {args : Array Value} {ds gs : List (DataW H)} {before : List MemPlace}
    (hval : ∀ (j : Nat) t v, fn.params[j]? = some t → args[j]? = some v → Value.okWide P W .any base t v) (hW : DataW.Whole enc P fn.params.toList s.vars apart W args.toList ds gs before) :
    Calls P f args W fun e W' => ∃ v, e = .returned v ∧ s.post enc P fn apart fresh handsOn again W args v W' := by
  have hW' := hW
  obtain ⟨p, q, hA, hV, rfl, hfz, hnd⟩ := hW
  rw [hvars] at hV
  obtain ⟨rfl, rfl⟩ := trodVars_none hV
  obtain ⟨hlen, xs, k1, k2, k3⟩ := args_ok ss _ _ _ _ hfit (fun j t v h1 h2 => hval j t v (by simpa using h1) (by simpa using h2)) hA
  obtain ⟨st', hcall⟩ := hlaw xs k1
  refine (call_calls hm hF hG (F := Old W) (fun _ _ h => h) (by simpa using k2.symm) (fun j hj => ?_) hcall).mono fun e w' hh => ?_
  · have := k3 j hj
    have hj' : j < args.size := by have := k2; simp at this; omega
    rw [Array.getD_eq_getD_getElem?, Array.getElem?_eq_getElem hj']
    rw [List.getD_eq_getElem?_getD, List.getElem?_eq_getElem (by simpa using hj')] at this
    simpa using this
  · obtain ⟨v, G', rfl, hB, _, hr⟩ := hh
    obtain rfl := hr.bool_inv
    exact ⟨_, rfl, post_true hl hrd hvars hres htb hW' (by rw [List.append_nil]; exact hfn ds hlen) hB⟩

theorem given_none {P : Program} {w : World} {fns : FuncId → Option IFunc} : GivenOk P w fns fun _ _ => none := fun f as r _ h => by cases h

end Go.Proofs.YtngkdpiajikcjaaPe
