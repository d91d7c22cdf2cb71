/- Slice literals; texts to bytes and back. -/
import Derived.Test.YtngkdpiajikcjaaPeMem3
set_option linter.unusedVariables false
set_option linter.unusedSimpArgs false
namespace Go.Proofs.YtngkdpiajikcjaaPe
open Go Go.RowKit

/-- Elements against an array of cells. -/
structure ElA (F : Fix) (w : World) (n : Nat) (l : List PV) (A : Array Value) : Prop where
  size : A.size = l.length * n
  el : ∀ i (h : i < l.length), ∃ v : Value, RepD F w (l[i]) v ∧ v.cells.size = n ∧ ∀ j, j < n → A[i * n + j]? = some (v.cells.getD j Go.undef) ∧ (v.cells.getD j Go.undef).oneCell' = true

theorem cells_one {F : Fix} {w : World} {x : PV} {v : Value} {n : Nat} (h : RepD F w x v) (hn : x.cells.length = n) (h0 : 0 < n) (hc : x.cells.all PV.isCell = true) :
    v.cells.size = n ∧ ∀ j, j < n → v.cells[j]? = some (v.cells.getD j Go.undef) ∧ (v.cells.getD j Go.undef).oneCell' = true := by
  obtain ⟨e1, e2⟩ := h.cells (PV.ne_undef_of_cells hn h0)
  refine ⟨by omega, fun j hj => ⟨?_, ?_⟩⟩
  · rw [Array.getD_eq_getD_getElem?, Array.getElem?_eq_getElem (by omega)]; rfl
  · exact isCell_one (G := ⟨F, fun _ => none, fun _ => none, fun _ => 0⟩) (w := w) (.d (e2 j (by omega))) (List.all_eq_true.1 hc _ (List.getElem_mem (by omega)))

theorem setAt_ok {F : Fix} {w : World} {n : Nat} (hn : 0 < n) : ∀ (qs : List (Nat × PV)) (vs : List (Nat × Value)) (l m : List PV) (A : Array Value), ElA F w n l A → setAt n l qs = some m → vs.length = qs.length →
    (∀ k (h : k < qs.length) (h' : k < vs.length), (vs[k]).1 = (qs[k]).1 ∧ RepD F w (qs[k]).2 (vs[k]).2) → ∃ B, Instr.fill (fun i => some (i * n, n)) A vs = some B ∧ ElA F w n m B ∧ m.length = l.length
  | [], vs, l, m, A, hA, h, hl, _ => by
    cases h
    have : vs = [] := List.eq_nil_of_length_eq_zero hl
    subst this
    exact ⟨A, rfl, hA, rfl⟩
  | (i, x) :: qs, [], l, m, A, hA, h, hl, _ => by simp at hl
  | (i, x) :: qs, (i', v) :: vs, l, m, A, hA, h, hl, hr => by
    have h0 := hr 0 (by simp) (by simp)
    simp only [List.getElem_cons_zero] at h0
    obtain ⟨rfl, hx⟩ := h0
    unfold setAt at h
    split at h
    · rename_i hc
      obtain ⟨c1, c2, c3⟩ := hc
      obtain ⟨s1, s2⟩ := cells_one hx c1 hn c3
      have hfit : i' * n + n ≤ A.size := by
        have := Nat.mul_le_mul_right n (show i' + 1 ≤ l.length from c2)
        rw [Nat.add_mul] at this
        rw [hA.size]; omega
      obtain ⟨f1, f2⟩ := fold_set v.cells A (i' * n) (by omega)
      have hA' : ElA F w n (l.set i' x) (v.cells.zipIdx.foldl (fun cs (p : Value × Nat) => cs.setIfInBounds (i' * n + p.2) p.1) A) := by
        refine ⟨by rw [f1, List.length_set]; exact hA.size, fun k hk => ?_⟩
        simp only [List.length_set] at hk
        by_cases e : i' = k
        · subst e
          refine ⟨v, by rw [List.getElem_set_self]; exact hx, s1, fun j hj => ⟨?_, (s2 j hj).2⟩⟩
          rw [f2, if_pos (by omega), Nat.add_sub_cancel_left]
          exact (s2 j hj).1
        · obtain ⟨u, u1, u2, u3⟩ := hA.el k hk
          refine ⟨u, by rw [List.getElem_set_ne e]; exact u1, u2, fun j hj => ⟨?_, (u3 j hj).2⟩⟩
          rw [f2, if_neg]
          · exact (u3 j hj).1
          · intro ⟨q1, q2⟩
            rcases Nat.lt_or_gt_of_ne e with h' | h'
            · have := Nat.mul_le_mul_right n (show i' + 1 ≤ k from h'); rw [Nat.add_mul] at this; omega
            · have := Nat.mul_le_mul_right n (show k + 1 ≤ i' from h'); rw [Nat.add_mul] at this; omega
      obtain ⟨B, hB, hm, hml⟩ := setAt_ok hn qs vs _ m _ hA' h (by simpa using hl) (fun k hk hk' => by have := hr (k + 1) (by simp; omega) (by simp; omega); simpa using this)
      refine ⟨B, ?_, hm, by rw [hml, List.length_set]⟩
      simp only [Instr.fill]
      rw [if_neg (by simp; omega)]
      exact hB
    · cases h

theorem bslice_ok {P : Program} {w1 w : World} {G : Gh} {st st' : St} (h : Sim w1 w G st) {fr : Fr} {a : Act} (hf : FrRel G w fr a) {sh : FuncId → Nat} {t : TypeId} {len : Nat} {ps : Array (Nat × Operand)} {i : IOp}
    (hc : cOp P sh (.buildSlice t len ps) = some i) {cl : CallF} {z : PV} (he : evOp cl i fr st = some (z, st')) : MemOk P w1 w G st' (Instr.buildSlice t len (ps.map fun p => (p.1, a.eval p.2))) z := by
  simp only [cOp] at hc
  split at hc
  · rename_i e hel
    split at hc
    · rename_i n zs qs ld hn hz hq _
      split at hc
      · rename_i hcond
        cases hc
        obtain ⟨it, hi, hin, h0⟩ := sizeT_some hn
        have hu := elemT_some hel
        obtain ⟨i2, z0, hi2, hz0, e1, e2⟩ := zeroT_some hz
        rw [hi] at hi2
        cases hi2
        subst hin
        have hn0 : 0 < it.size := by omega
        simp only [evOp] at he
        split at he
        · rename_i qv hqv
          cases hl : setAt it.size (toElems it.size zs len) qv with
          | none => rw [hl] at he; cases he
          | some l =>
            rw [hl] at he; cases he
            obtain ⟨m1, m2⟩ := mapO_some hqv
            -- the parts
            have hparts : ∀ (ps : List (Nat × Operand)) (qs : List (Nat × Opd)), cParts1 ps = some qs → qs.length = ps.length ∧ ∀ k (hk : k < qs.length) (hk' : k < ps.length), (qs[k]).1 = (ps[k]).1 ∧ cOpd (ps[k]).2 = some (qs[k]).2 := by
              intro ps
              induction ps with
              | nil => intro qs h; cases h; exact ⟨rfl, fun k hk => absurd hk (Nat.not_lt_zero _)⟩
              | cons p ps ih =>
                intro qs h
                obtain ⟨k, x⟩ := p
                unfold cParts1 at h
                split at h
                · rename_i y l' g1 g2
                  cases h
                  obtain ⟨q1, q2⟩ := ih _ g2
                  refine ⟨by simp [q1], fun j hj hj' => ?_⟩
                  cases j with
                  | zero => exact ⟨rfl, g1⟩
                  | succ j => exact q2 j (by simpa using hj) (by simpa using hj')
                · cases h
            obtain ⟨p1, p2⟩ := hparts _ _ hq
            have zlen : z0.cells.size = it.size := by rw [e1]; exact hcond.2
            -- the zero cells
            have hzA : ElA G.F w it.size (toElems it.size zs len) ((Array.range (len * it.size)).map (z0.cells[· % z0.cells.size]!)) := by
              refine ⟨by simp [toElems], fun k hk => ?_⟩
              have hk' : k < len := by simpa [toElems] using hk
              have hzc : ∀ j, j < it.size → z0.cells[j]? = some (z0.cells.getD j Go.undef) ∧ (z0.cells.getD j Go.undef).oneCell' = true := by
                intro j hj
                refine ⟨by rw [Array.getD_eq_getD_getElem?, Array.getElem?_eq_getElem (by omega)]; rfl, ?_⟩
                unfold zeroT at hz
                rw [hi] at hz
                simp only [hz0] at hz
                obtain ⟨k1, k2⟩ := mapO_some hz
                have hjz : j < z0.cells.size := by omega
                have := k2 j (by simpa using hjz) (by rw [← e1]; exact hjz)
                rw [Array.getD_eq_getD_getElem?, Array.getElem?_eq_getElem hjz]
                simp only [Array.getElem_toList, Option.getD_some] at this ⊢
                generalize z0.cells[j] = q at this ⊢
                cases q <;> first | rfl | (simp [cv1] at this)
              have hget : ∀ j, j < it.size → ((Array.range (len * it.size)).map (z0.cells[· % z0.cells.size]!))[k * it.size + j]? = some (z0.cells.getD j Go.undef) := by
                intro j hj
                rw [Array.getElem?_map, Array.getElem?_range, if_pos (lt_of hk' hj)]
                simp only [Option.map_some, zlen, mod_of hj, Option.some.injEq]
                rw [getElem!_pos z0.cells j (by omega), Array.getD_eq_getD_getElem?, Array.getElem?_eq_getElem (by omega)]
                rfl
              simp only [toElems, List.getElem_replicate]
              split
              · rename_i hone
                refine ⟨z0.cells.getD 0 Go.undef, ?_, ?_, fun j hj => ?_⟩
                · cases zs with
                  | nil => simp at hone
                  | cons c zs => exact e2 G.F w 0 (by simp)
                · have := (hzc 0 hn0).2
                  rw [hone.2]
                  generalize z0.cells.getD 0 Go.undef = q at this ⊢
                  cases q <;> first | rfl | (cases this)
                · have hj0 : j = 0 := by omega
                  subst hj0
                  have h1 := (hzc 0 hn0).2
                  have h2 := hget 0 hn0
                  have h3 : (z0.cells.getD 0 Go.undef).cells.getD 0 Go.undef = z0.cells.getD 0 Go.undef := by
                    generalize z0.cells.getD 0 Go.undef = q at h1 ⊢
                    cases q <;> first | rfl | (cases h1)
                  rw [h3]
                  exact ⟨h2, h1⟩
              · exact ⟨.agg z0.cells, .agg e1 (e2 G.F w), zlen, fun j hj => ⟨hget j hj, (hzc j hj).2⟩⟩
            -- what is laid over them
            have hps : (ps.map fun p => (p.1, a.eval p.2)).toList = ps.toList.map fun p => (p.1, a.eval p.2) := by simp
            obtain ⟨B, hB, hE, hlen⟩ := setAt_ok (F := G.F) (w := w) hn0 qv (ps.toList.map fun p => (p.1, a.eval p.2)) _ l _ hzA hl (by simp [m1, p1]) (fun k hk hk' => by
              have hk1 : k < qs.length := by omega
              have hk2 : k < ps.toList.length := by simpa using hk'
              have g1 := p2 k hk1 hk2
              have g2 := m2 k hk1 hk
              cases hs : shutA shutN ((qs[k]).2.ev fr) with
              | none => rw [hs] at g2; cases g2
              | some y =>
                rw [hs] at g2
                have g3 : ((qs[k]).1, y) = qv[k] := Option.some.inj g2
                rw [← g3]
                simp only [List.getElem_map]
                exact ⟨g1.1.symm, shutA_rep _ (cOpd_rep hf g1.2) hs⟩)
            have hlen' : l.length = len := by rw [hlen]; simp [toElems]
            -- the block
            have hB' := below_alloc w (.cells B e)
            obtain ⟨s1, N⟩ := h.fixNew hB' (blk := w.heap.size) (Nat.le_refl _) (by simp)
            have hblk := heap_alloc_self w (.cells B e)
            have hcell : ∀ o, (w.alloc (.cells B e)).cell? ⟨w.heap.size, o, none⟩ = B[o]? := fun o => by unfold World.cell?; rw [hblk]; rfl
            refine ⟨.slice (some ⟨w.heap.size, 0, none⟩) len len, _, _, ?_, N, s1, .d ?_, fun i k hk => hB'.block k (h.bx_lt hk).1⟩
            · have hle : ¬ (16777216 < len * it.size) := by omega
              have hfill : Instr.fill (fun i => some (i * it.size, it.size)) ((Array.range (len * it.size)).map (z0.cells[· % z0.cells.size]!)) (ps.map fun p => (p.1, a.eval p.2)).toList = some B := by rw [hps]; exact hB
              unfold Instr.buildSlice
              simp only [Sem.run_bind, run_und hu, Result.andThen_ok, run_size hi, gt_iff_lt]
              rw [show (2 ^ 24 : Nat) = 16777216 from rfl, if_neg hle]
              by_cases hl0 : len * it.size = 0
              · have : len = 0 := by
                  rcases Nat.mul_eq_zero.1 hl0 with h' | h' <;> omega
                subst this
                have hfill' : Instr.fill (fun i => some (i * it.size, it.size)) ((Array.range (0 * it.size)).map ((#[] : Array Value)[· % (#[] : Array Value).size]!)) (ps.map fun p => (p.1, a.eval p.2)).toList = some B := by
                  have hr : Array.range (0 * it.size) = #[] := by rw [Nat.zero_mul]; rfl
                  rw [hr] at hfill ⊢
                  simp only [Array.map_empty] at hfill ⊢
                  exact hfill
                rw [if_pos hl0]
                simp only [Sem.run_bind, Sem.run_pure, Result.andThen_ok, hfill']
                simp [newRow]
              · rw [if_neg hl0]
                simp only [Sem.run_bind, Sem.run_pure, Result.andThen_ok, zeroValue, run_info hi, hz0, hfill]
                simp [newRow]
            · -- the reading
              have hch : ∀ i, ∃ v : Value, (h : i < l.length) → RepD G.F w (l[i]) v ∧ v.cells.size = it.size ∧ ∀ j, j < it.size → B[i * it.size + j]? = some (v.cells.getD j Go.undef) ∧ (v.cells.getD j Go.undef).oneCell' = true := by
                intro i
                by_cases hi : i < l.length
                · obtain ⟨v, hv⟩ := hE.el i hi; exact ⟨v, fun _ => hv⟩
                · exact ⟨Go.undef, fun h => absurd h hi⟩
              have hEls : Els G.F w it.size l (fun i => (hch i).choose) := ⟨fun i hi => ((hch i).choose_spec hi).2.1, fun i j hi hj => (((hch i).choose_spec hi).2.2 j hj).2, fun i hi => ((hch i).choose_spec hi).1⟩
              have hEls' := hEls.mono N.F N.tr
              split
              · rename_i h00
                rw [h00]
                exact .emp _
              refine hEls'.repD' hlen'.symm (Nat.le_refl _) (fun o _ => .inr rfl) (fun i j hi hj => ?_) _ (.inr ⟨rfl, rfl⟩)
              rw [hcell]
              exact (((hch i).choose_spec (by omega)).2.2 j hj).1
        · cases he
      · cases hc
    · cases hc
  · cases hc


theorem tobytes_ok {P : Program} {w1 w : World} {G : Gh} {st : St} (h : Sim w1 w G st) {s d e : TypeId} (hs : P.underlying s = some .string) (hd : P.underlying d = some (.slice e)) (he : P.underlying e = some (.int .u8)) (l : List UInt8) :
    MemOk P w1 w G st (convert s d (.string ⟨⟨l⟩⟩)) (.lst (l.map fun b => .int .u8 b.toNat)) := by
  have hrun := run_bytes_of_string (P := P) w s d e ⟨⟨l⟩⟩ hs hd he
  have hge := grownCap_ge w (ByteArray.mk (Array.mk l)).size 0 e
  generalize hC : grownCap w (ByteArray.mk (Array.mk l)).size 0 e = C at hrun hge
  have hsz : (ByteArray.mk (Array.mk l)).size = l.length := rfl
  rw [hsz] at hrun hge
  generalize hA : bytesRow ⟨⟨l⟩⟩ C = A at hrun
  have hAg : ∀ i (hi : i < l.length), A[i]? = some (.int .u8 ((l[i]).toNat)) := by
    intro i hi
    rw [← hA]
    exact bytesRow_at ⟨⟨l⟩⟩ C i hi
  have hB : Below w.heap.size w (w.drew.alloc (.cells A e (A.size, A.size + 1))) := ((Below.refl _ _).drew).alloc (Nat.le_refl _) _
  obtain ⟨s1, N⟩ := h.fixNew hB (blk := w.heap.size) (Nat.le_refl _) (by simp)
  have hblk : (w.drew.alloc (.cells A e (A.size, A.size + 1))).heap[w.heap.size]? = some (.cells A e (A.size, A.size + 1)) := heap_alloc_self w.drew _
  have hcell : ∀ o, (w.drew.alloc (.cells A e (A.size, A.size + 1))).cell? ⟨w.heap.size, o, none⟩ = A[o]? := fun o => by unfold World.cell?; rw [hblk]; rfl
  refine ⟨_, _, _, hrun, N, s1, .d ?_, fun i k hk => hB.block k (h.bx_lt hk).1⟩
  have hE : Els (G.fix fun b _ => b = w.heap.size).F (w.drew.alloc (.cells A e (A.size, A.size + 1))) 1 (l.map fun b => PV.int .u8 b.toNat) (fun i => .int .u8 ((l.getD i 0).toNat)) := by
    refine ⟨fun i hi => rfl, fun i j hi hj => ?_, fun i hi => ?_⟩
    · have : j = 0 := by omega
      subst this; rfl
    · simp at hi
      simp [List.getD, hi]
      exact .int _ _
  refine hE.repD' (by simp) hge (fun o _ => .inr rfl) (fun i j hi hj => ?_) _ (.inl rfl)
  have : j = 0 := by omega
  subst this
  rw [hcell, Nat.mul_one, Nat.add_zero, hAg i hi]
  simp [List.getD, hi, Value.cells]

/-- Bytes pushed one by one. -/
theorem push_bytes : ∀ (ns : List Int) (r : ByteArray), ns.foldl (fun r n => r.push (UInt8.ofNat n.toNat)) r = ⟨⟨r.data.toList ++ ns.map fun n => UInt8.ofNat n.toNat⟩⟩
  | [], r => by obtain ⟨⟨l⟩⟩ := r; simp
  | n :: ns, r => by
    rw [List.foldl_cons, push_bytes ns]
    obtain ⟨⟨l⟩⟩ := r
    simp [ByteArray.push]

theorem tostr_ok {P : Program} {w1 w : World} {G : Gh} {st : St} (h : Sim w1 w G st) {s d e : TypeId} (hs : P.underlying s = some (.slice e)) (hd : P.underlying d = some .string) (he : P.underlying e = some (.int .u8)) {x : PV} {v : Value} (hx : Rep G w x v)
    {l : List PV} (hl : slcOf x = some l) {q : List UInt8} (hq : mapO byteP l = some q) : MemOk P w1 w G st (convert s d v) (.str q) := by
  have hsl : x = .lst l ∨ x = .full l ∨ ∃ r, x = .own r l := by
    unfold slcOf at hl
    split at hl
    · cases hl; exact .inl rfl
    · cases hl; exact .inr (.inl rfl)
    · cases hl; exact .inr (.inr ⟨_, rfl⟩)
    · cases hl
  obtain ⟨a, cap, rfl, hd', _⟩ := hx.slice hsl
  obtain ⟨m1, m2⟩ := mapO_some hq
  have hint : ∀ i (hi : i < l.length), ∃ n : Int, l[i] = .int .u8 n ∧ ∀ (hi' : i < q.length), q[i] = UInt8.ofNat n.toNat := by
    intro i hi
    have := m2 i hi (by omega)
    unfold byteP at this
    split at this
    · rename_i n e; exact ⟨n, e, fun hi' => (Option.some.inj this).symm⟩
    · cases this
  have hsz : szAll 1 l = true := by
    unfold szAll
    rw [List.all_eq_true]
    intro y hy
    obtain ⟨i, hi, rfl⟩ := List.getElem_of_mem hy
    obtain ⟨n, e, _⟩ := hint i hi
    rw [e]; rfl
  obtain ⟨a', cap', b, o, vs, e1, hcap, ha, hE, hc⟩ := hd'.els (by omega) hsz
  cases e1
  let ns : List Int := l.map fun v => match v with | .int _ n => n | _ => 0
  have hns : ns.map (fun n => UInt8.ofNat n.toNat) = q := by
    apply List.ext_getElem
    · simp [ns, m1]
    · intro i h1 h2
      have hi : i < l.length := by simp [ns] at h1; exact h1
      obtain ⟨n, e, hn⟩ := hint i hi
      simp only [ns, List.getElem_map, e]
      exact (hn h2).symm
  refine ⟨.string ⟨⟨q⟩⟩, w, G, ?_, Nxt.refl _ _ _, h, .d (.str q), fun _ _ _ => rfl⟩
  rw [run_convert_bytes_string w s d e a l.length cap hs he hd]
  cases a with
  | none =>
    have : l = [] := by
      cases l with
      | nil => rfl
      | cons c l => have := ha (by simp); cases this
    subst this
    have : q = [] := List.eq_nil_of_length_eq_zero m1
    subst this
    rfl
  | some a =>
    have hload : (loadCells a l.length).run P w = .ok (ns.map (Value.int .u8)).toArray w := by
      have hnl : (ns.map (Value.int .u8)).length = l.length := by simp [ns]
      rw [← hnl]
      refine run_loadCells_list w a _ fun j u hu => ?_
      have hj : j < l.length := by
        rw [← hnl]
        exact (List.getElem?_eq_some_iff.1 hu).1
      have hne : l ≠ [] := by rintro rfl; simp at hj
      have := ha hne
      cases this
      have h3 := (hc j 0 hj (by omega)).2
      rw [Nat.mul_one, Nat.add_zero] at h3
      rw [addr_add, h3]
      obtain ⟨n, e, _⟩ := hint j hj
      have h4 := hE.rep j hj
      rw [e] at h4
      have h5 := (Rep.d (G := G) h4).int_inv
      rw [h5]
      rw [List.getElem?_map] at hu
      simp only [ns, List.getElem?_map, List.getElem?_eq_getElem hj, e, Option.map_some, Option.some.injEq] at hu
      rw [← hu]
      rfl
    rw [run_bytesToString w a l.length cap ns hload, push_bytes]
    congr 4

end Go.Proofs.YtngkdpiajikcjaaPe
