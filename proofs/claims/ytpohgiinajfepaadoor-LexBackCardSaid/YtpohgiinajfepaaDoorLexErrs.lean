/- errors.Is and errors.As at what the program hands them (printed by tool/errs.py: the walks are turned from the kit's worked ones). -/
import Derived.Test.YtpohgiinajfepaaDoorProg
import Derived.WalkKit
import Derived.LaidEql
import Derived.Stop.Asserts
import Derived.RowKitTokens
set_option maxRecDepth 100000
set_option linter.unusedVariables false
namespace Go.Proofs.YtpohgiinajfepaaDoorPe.Lex.Errs
open Go Go.Proofs Go.RowKit Go.Extern.Stop Go.Stop Go.Extern

section
variable {P : Program} (w : World)
theorem eqlIn_int (d : Nat) {ti tn : TypeId} {ms : Array (String × TypeId)} {i : TypeInfo} {k : IntKind} (a b : Int)
    (hi : P.underlying ti = some (.interface ms)) (hn : P.underlying tn = some (.int k)) (hinfo : P.info? tn = some i) (hcomp : i.comparable = true) :
    (Op.equalIn (d + 2) ti (.iface tn (.int k a)) (.iface tn (.int k b))).run P w = .ok (a == b) w := by
  simp [Op.equalIn, run_underlying hi, run_underlying hn, typeInfo, hinfo, hcomp]
theorem eql_int {ti tn : TypeId} {ms : Array (String × TypeId)} {i : TypeInfo} {k : IntKind} (a b : Int)
    (hi : P.underlying ti = some (.interface ms)) (hn : P.underlying tn = some (.int k)) (hinfo : P.info? tn = some i) (hcomp : i.comparable = true) :
    (binOp .eql ti (.iface tn (.int k a)) (.iface tn (.int k b))).run P w = .ok (.bool (a == b)) w := by
  simp only [binOp]
  simp [Op.equal, Op.maxDepth, eqlIn_int w 9998 a b hi hn hinfo hcomp]
end

/-! errors.Is -/
theorem isTypeOf (v : Value) (w : World) : (Extern.ReflectliteType.typeOf #[.iface 38 v]).run Tryd.prog w = .ok (.iface 85 (.agg #[.pointer (some ⟨4, 38, none⟩)])) w := by kernel_rfl
theorem isComparable (w : World) : (Extern.ReflectliteType.method (fun t => do Rtype.noPackHeld "Comparable" t; pure (.bool (← typeInfo t).comparable)) #[.agg #[.pointer (some ⟨4, 38, none⟩)]]).run Tryd.prog w = .ok (.bool true) w := by kernel_rfl
theorem callComparable (w : World) : (callFunc 110 #[.agg #[.pointer (some ⟨4, 38, none⟩)]]).run Tryd.prog w = .ok (.value (.bool true)) w := by
  rw [@run_callFunc_extern Tryd.prog 110 _ (Extern.ReflectliteType.method fun t => do Rtype.noPackHeld "Comparable" t; pure (.bool (← typeInfo t).comparable)) Tryd.func110 (by kernel_rfl) (by kernel_rfl) (by kernel_rfl) (by kernel_rfl), isComparable]
  rfl
theorem isMethodComparable (v : Value) (w : World) : (Go.method 265 85 v "Comparable").run Tryd.prog w = .ok (110, v) w := by kernel_rfl
theorem isComp : (Tryd.prog.info? 38).map (·.comparable) = some true := by kernel_rfl
theorem noIsE (v : Value) (xT : TypeId) (w : World) : (Instr.typeAssert (.iface 38 v) xT 97 true).run Tryd.prog w = .ok (.tuple #[.nilIface, .bool false]) w := run_typeAssert_lacksB Tryd.underlying97 (by kernel_rfl) (by kernel_rfl) v xT w
theorem noUnwrapE (v : Value) (xT : TypeId) (w : World) : (Instr.typeAssert (.iface 38 v) xT 92 true).run Tryd.prog w = .ok (.tuple #[.nilIface, .bool false]) w := run_typeAssert_lacksB Tryd.underlying92 (by kernel_rfl) (by kernel_rfl) v xT w
theorem noUnwrapsE (v : Value) (xT : TypeId) (w : World) : (Instr.typeAssert (.iface 38 v) xT 94 true).run Tryd.prog w = .ok (.tuple #[.nilIface, .bool false]) w := run_typeAssert_lacksB Tryd.underlying94 (by kernel_rfl) (by kernel_rfl) v xT w
theorem noIsF (v : Value) (xT : TypeId) (w : World) : (Instr.typeAssert (.iface 32 v) xT 97 true).run Tryd.prog w = .ok (.tuple #[.nilIface, .bool false]) w := run_typeAssert_lacksB Tryd.underlying97 (by kernel_rfl) (by kernel_rfl) v xT w
theorem hasUnwrapF (v : Value) (xT : TypeId) (w : World) : (Instr.typeAssert (.iface 32 v) xT 92 true).run Tryd.prog w = .ok (.tuple #[.iface 32 v, .bool true]) w := run_typeAssert_hasB Tryd.underlying92 (by kernel_rfl) v xT w
theorem methodUnwrap (v : Value) (w : World) : (Go.method 265 32 v "Unwrap").run Tryd.prog w = .ok (103, v) w := by kernel_rfl

theorem is_other (a : Value) (n : Int) (w : World) (hne : a = .nilIface) :
    Calls Tryd.prog 12 #[a, .iface 38 (.int .i64 n)] w fun e w' => e = .returned (.bool false) ∧ w' = w := by
  subst hne
  have hn := run_eql_iface_nil_left (P := Tryd.prog) w 38 (.int .i64 n) Tryd.underlying26
  go_enter Tryd.func12, Tryd.ntmps12
  go_wp2
  go_ret
  exact ⟨rfl, rfl⟩

set_option maxHeartbeats 4000000 in
theorem is_wrap (pb po : Nat) (n m : Int) (w : World) (h1 : w.cell? ⟨pb, po + 2, none⟩ = some (.iface 38 (.int .i64 n))) :
    Calls Tryd.prog 12 #[.iface 32 (.pointer (some ⟨pb, po, none⟩)), .iface 38 (.int .i64 m)] w fun e w' => e = .returned (.bool (n == m)) ∧ w' = w := by
  obtain ⟨i, hi, hcmp⟩ := Option.map_eq_some_iff.1 isComp
  have h8 := @run_callFunc_extern Tryd.prog 26 _ Extern.ReflectliteType.typeOf Tryd.func26 (by kernel_rfl) (by kernel_rfl) (by kernel_rfl) (by kernel_rfl)
  have h32 := callComparable
  have tT := isTypeOf
  have mR := isMethodComparable
  have nE := noIsE
  have uE := noUnwrapE
  have vE := noUnwrapsE
  have nW := noIsF
  have uW := hasUnwrapF
  have mU := methodUnwrap
  have heq := eql_int (P := Tryd.prog) w n m Tryd.underlying26 Tryd.underlying38 hi hcmp
  have hty := run_eql_iface_types (P := Tryd.prog) 32 38 (.pointer (some ⟨pb, po, none⟩)) (.int .i64 m) Tryd.underlying26 (by decide) w
  by_cases hnm : n = m
  · subst hnm
    have e : (n == n) = true := by simp
    rw [e] at heq ⊢
    go_enter Tryd.func12, Tryd.ntmps12
    go_wp2
    refine wp_loop_rounds 2 ?_
    rw [rounds_succ]
    go_wp2
    rw [rounds_succ]
    go_wp2
    go_ret
    exact ⟨rfl, rfl⟩
  · have e : (n == m) = false := by simpa using hnm
    rw [e] at heq ⊢
    clear hnm e
    go_enter Tryd.func12, Tryd.ntmps12
    go_wp2
    refine wp_loop_rounds 2 ?_
    rw [rounds_succ]
    go_wp2
    rw [rounds_succ]
    go_wp2
    go_ret
    exact ⟨rfl, rfl⟩

/-! errors.As -/
theorem valueOfFF (t : Addr) (w : World) : (ReflectliteValue.unpack (.iface 34 (.pointer (some t)))).run Tryd.prog w
    = .ok (.agg #[.pointer (some ⟨4, 34, none⟩), .pointer (some ⟨w.heap.size, 0, none⟩), .int .u64 150]) (w.alloc (.cells #[.pointer (some t)] 34)) := by kernel_rfl
theorem typeFF (a : Addr) (w : World) : (ReflectliteValue.methodAny (ReflectliteValue.valueError "reflectlite.Value.Type" 0) (fun t _ _ _ => ReflectliteType.toType t) #[.agg #[.pointer (some ⟨4, 34, none⟩), .pointer (some a), .int .u64 150]]).run Tryd.prog w
    = .ok (.iface 85 (.agg #[.pointer (some ⟨4, 34, none⟩)])) w := by kernel_rfl
theorem methodKind (h : Value) (w : World) : (Go.method 265 85 (.agg #[h]) "Kind").run Tryd.prog w = .ok (99, h) w := by kernel_rfl
theorem kindFF (w : World) : ((ReflectliteType.abiMethod fun t => (fun a : Nat => Value.int IntKind.u8 (a : Int)) <$> Rtype.kind t) #[.pointer (some ⟨4, 34, none⟩)]).run Tryd.prog w = .ok (.int .u8 22) w := by kernel_rfl
theorem kindF (w : World) : ((ReflectliteType.abiMethod fun t => (fun a : Nat => Value.int IntKind.u8 (a : Int)) <$> Rtype.kind t) #[.pointer (some ⟨4, 32, none⟩)]).run Tryd.prog w = .ok (.int .u8 22) w := by kernel_rfl
theorem rlm (z : Sem Value) (f : TypeId → Addr → Nat → Nat → Sem Value) (v : Value) :
    ReflectliteValue.method z f #[v] = (do match ← ReflectliteValue.parts v with | none => z | some (t, a, fl) => f t a fl (fl % 32)) := rfl
theorem partsFF (a : Addr) (w : World) : (ReflectliteValue.parts (.agg #[.pointer (some ⟨4, 34, none⟩), .pointer (some a), .int .u64 150])).run Tryd.prog w = .ok (some (34, a, 150)) w := by kernel_rfl
theorem isNilFF (a p : Addr) (W : World) (ha : W.cell? a = some (.pointer (some p))) :
    (ReflectliteValue.method (ReflectliteValue.valueError "reflectlite.Value.IsNil" 0) ReflectliteValue.isNil #[.agg #[.pointer (some ⟨4, 34, none⟩), .pointer (some a), .int .u64 150]]).run Tryd.prog W = .ok (.bool false) W := by
  rw [rlm]
  simp only [Sem.run_bind, partsFF, Result.andThen]
  simp [ReflectliteValue.isNil, loadVar, isAgg, underlying, Tryd.underlying34, ha, Result.andThen]
theorem methodElem (h : Value) (w : World) : (Go.method 265 85 (.agg #[h]) "Elem").run Tryd.prog w = .ok (111, .agg #[h]) w := by kernel_rfl
theorem methodImplements (h : Value) (w : World) : (Go.method 265 85 (.agg #[h]) "Implements").run Tryd.prog w = .ok (112, .agg #[h]) w := by kernel_rfl
theorem methodAssignableTo (h : Value) (w : World) : (Go.method 265 85 (.agg #[h]) "AssignableTo").run Tryd.prog w = .ok (109, .agg #[h]) w := by kernel_rfl
theorem elemFF (w : World) : (ReflectliteType.method ReflectliteType.elem #[.agg #[.pointer (some ⟨4, 34, none⟩)]]).run Tryd.prog w = .ok (.iface 85 (.agg #[.pointer (some ⟨4, 32, none⟩)])) w := by kernel_rfl
theorem implementsF (w : World) : (ReflectliteType.relation "Implements" ReflectliteType.implements_ #[.agg #[.pointer (some ⟨4, 32, none⟩)], .iface 85 (.agg #[.pointer (some ⟨4, 26, none⟩)])]).run Tryd.prog w = .ok (.bool true) w := by kernel_rfl
theorem typeOfF (v : Value) (w : World) : (ReflectliteType.typeOf #[.iface 32 v]).run Tryd.prog w = .ok (.iface 85 (.agg #[.pointer (some ⟨4, 32, none⟩)])) w := by kernel_rfl
theorem assignableF (w : World) : (ReflectliteType.relation "AssignableTo" ReflectliteType.assignableTo #[.agg #[.pointer (some ⟨4, 32, none⟩)], .iface 85 (.agg #[.pointer (some ⟨4, 32, none⟩)])]).run Tryd.prog w = .ok (.bool true) w := by kernel_rfl
theorem valueOfF (e : Addr) (w : World) : (ReflectliteValue.unpack (.iface 32 (.pointer (some e)))).run Tryd.prog w
    = .ok (.agg #[.pointer (some ⟨4, 32, none⟩), .pointer (some ⟨w.heap.size, 0, none⟩), .int .u64 150]) (w.alloc (.cells #[.pointer (some e)] 32)) := by kernel_rfl
theorem elemOfFF (w : World) : (Rtype.elem? 34).run Tryd.prog w = .ok (some 32) w := by kernel_rfl
theorem mkF (p : Addr) (w : World) : (ReflectliteValue.mk 32 p ReflectliteValue.flagAddr).run Tryd.prog w = .ok (.agg #[.pointer (some ⟨4, 32, none⟩), .pointer (some p), .int .u64 406]) w := by kernel_rfl
theorem elemVFF (a p : Addr) (W : World) (ha : W.cell? a = some (.pointer (some p))) :
    (ReflectliteValue.method (ReflectliteValue.valueError "reflectlite.Value.Elem" 0) ReflectliteValue.elem #[.agg #[.pointer (some ⟨4, 34, none⟩), .pointer (some a), .int .u64 150]]).run Tryd.prog W
      = .ok (.agg #[.pointer (some ⟨4, 32, none⟩), .pointer (some p), .int .u64 406]) W := by
  rw [rlm]
  simp only [Sem.run_bind, partsFF, Result.andThen]
  simp [ReflectliteValue.elem, loadVar, isAgg, underlying, Tryd.underlying34, ha, Result.andThen, elemOfFF, mkF]
theorem rls (v x : Value) : ReflectliteValue.set #[v, x] = (do
    let (some (dst, a, fl), some (src, b, _)) := (← ReflectliteValue.parts v, ← ReflectliteValue.parts x)
      | unsupported (.noEntry "extern/(internal/reflectlite.Value).Set.zeroValue")
    if fl / ReflectliteValue.flagAddr % 2 == 0 then unsupported (.noEntry "extern/(internal/reflectlite.Value).Set.unaddressable")
    let val ← loadVar src b
    if ← Rtype.directlyAssignable dst src then storeVar dst a val
    else if ← Rtype.implements dst src then
      if (← Rtype.kind src) == 20 then
        match val with
        | .nilIface => unsupported (.noEntry "extern/reflectlite: a nil value of one interface type handed on as a value of another")
        | _ => storeVar dst a val
      else storeVar dst a (.iface src val)
    else panicString ("reflectlite.Set: value of type " ++ (← Rtype.spelt src) ++ " is not assignable to type " ++ (← Rtype.spelt dst))
    pure (.tuple #[])) := rfl
theorem partsFa (a : Addr) (w : World) : (ReflectliteValue.parts (.agg #[.pointer (some ⟨4, 32, none⟩), .pointer (some a), .int .u64 406])).run Tryd.prog w = .ok (some (32, a, 406)) w := by kernel_rfl
theorem partsF (a : Addr) (w : World) : (ReflectliteValue.parts (.agg #[.pointer (some ⟨4, 32, none⟩), .pointer (some a), .int .u64 150])).run Tryd.prog w = .ok (some (32, a, 150)) w := by kernel_rfl
theorem directF (w : World) : (Rtype.directlyAssignable 32 32).run Tryd.prog w = .ok true w := by kernel_rfl
theorem sizeF (w : World) : (sizeOf 32).run Tryd.prog w = .ok 1 w := by kernel_rfl
theorem setF (ta b e : Addr) (old : Value) (W : World) (hb : W.cell? b = some (.pointer (some e))) (ht : W.cell? ta = some old) (hf : W.frozen? ta = false) :
    (ReflectliteValue.set #[.agg #[.pointer (some ⟨4, 32, none⟩), .pointer (some ta), .int .u64 406], .agg #[.pointer (some ⟨4, 32, none⟩), .pointer (some b), .int .u64 150]]).run Tryd.prog W
      = .ok (.tuple #[]) (W.setCell ta (.pointer (some e))) := by
  rw [rls]
  simp only [Sem.run_bind, partsFa, partsF, Result.andThen]
  simp [ReflectliteValue.flagAddr, loadVar, isAgg, underlying, Tryd.underlying32, hb, Result.andThen, directF, storeVar, Value.cells, storeCells, Addr.add]
  rw [run_store Tryd.prog W ta _ _ (by rfl)]
  simp [ht, hf]

def asBefore (e t : Addr) (w : World) : World := (((w.alloc (.cells #[.pointer (some t)] 34)).alloc (.cells #[.pointer (some ⟨4, 34, none⟩), .pointer (some ⟨w.heap.size, 0, none⟩), .int .u64 150] 64)).alloc (.cells #[.pointer (some ⟨4, 34, none⟩), .pointer (some ⟨w.heap.size, 0, none⟩), .int .u64 150] 64)).alloc (.cells #[.pointer (some e)] 32)

set_option maxHeartbeats 4000000 in
theorem as_hit (e t : Addr) (old : Value) (w : World) (hg : w.cell? ⟨0, 0, none⟩ = some (.iface 85 (.agg #[.pointer (some ⟨4, 26, none⟩)]))) (ht0 : w.cell? t = some old) (hf0 : w.frozen? t = false) :
    Calls Tryd.prog 11 #[.iface 32 (.pointer (some e)), .iface 34 (.pointer (some t))] w fun ev w' => ev = .returned (.bool true) ∧ w' = (asBefore e t w).setCell t (.pointer (some e)) := by
  have h6 := @run_callFunc_extern Tryd.prog 22 _ (fun args => ReflectliteValue.unpack (args.getD 0 (.tuple #[]))) Tryd.func22 (by kernel_rfl) (by kernel_rfl) (by kernel_rfl) (by kernel_rfl)
  have h7 := @run_callFunc_extern Tryd.prog 23 _ (ReflectliteValue.methodAny (ReflectliteValue.valueError "reflectlite.Value.Type" 0) (fun t _ _ _ => ReflectliteType.toType t)) Tryd.func23 (by kernel_rfl) (by kernel_rfl) (by kernel_rfl) (by kernel_rfl)
  have h8 := @run_callFunc_extern Tryd.prog 24 _ (ReflectliteValue.method (ReflectliteValue.valueError "reflectlite.Value.IsNil" 0) ReflectliteValue.isNil) Tryd.func24 (by kernel_rfl) (by kernel_rfl) (by kernel_rfl) (by kernel_rfl)
  have h27 := @run_callFunc_extern Tryd.prog 99 _ (ReflectliteType.abiMethod fun t => do pure (.int .u8 (← Rtype.kind t))) Tryd.func99 (by kernel_rfl) (by kernel_rfl) (by kernel_rfl) (by kernel_rfl)
  have h37 := @run_callFunc_extern Tryd.prog 111 _ (ReflectliteType.method ReflectliteType.elem) Tryd.func111 (by kernel_rfl) (by kernel_rfl) (by kernel_rfl) (by kernel_rfl)
  have h38 := @run_callFunc_extern Tryd.prog 112 _ (ReflectliteType.relation "Implements" ReflectliteType.implements_) Tryd.func112 (by kernel_rfl) (by kernel_rfl) (by kernel_rfl) (by kernel_rfl)
  have h10 := @run_callFunc_extern Tryd.prog 26 _ ReflectliteType.typeOf Tryd.func26 (by kernel_rfl) (by kernel_rfl) (by kernel_rfl) (by kernel_rfl)
  have h35 := @run_callFunc_extern Tryd.prog 109 _ (ReflectliteType.relation "AssignableTo" ReflectliteType.assignableTo) Tryd.func109 (by kernel_rfl) (by kernel_rfl) (by kernel_rfl) (by kernel_rfl)
  have h11 := @run_callFunc_extern Tryd.prog 40 _ (ReflectliteValue.method (ReflectliteValue.valueError "reflectlite.Value.Elem" 0) ReflectliteValue.elem) Tryd.func40 (by kernel_rfl) (by kernel_rfl) (by kernel_rfl) (by kernel_rfl)
  have h12 := @run_callFunc_extern Tryd.prog 41 _ ReflectliteValue.set Tryd.func41 (by kernel_rfl) (by kernel_rfl) (by kernel_rfl) (by kernel_rfl)
  have tO := typeOfF
  have mA := methodAssignableTo
  have a25 := assignableF
  have v25 := valueOfF
  have f6 := valueOfFF
  have f7 := typeFF
  have mK := methodKind
  have mE := methodElem
  have mI := methodImplements
  have k27 := kindFF
  have k25 := kindF
  have e27 := elemFF
  have i25 := implementsF
  have n8 := isNilFF ⟨w.heap.size, 0, none⟩ t ((w.alloc (.cells #[.pointer (some t)] 34)).alloc (.cells #[.pointer (some ⟨4, 34, none⟩), .pointer (some ⟨w.heap.size, 0, none⟩), .int .u64 150] 64)) (by simp)
  have hlt : 0 < w.heap.size := by
    rcases Nat.eq_zero_or_pos w.heap.size with h0 | h
    · simp [World.cell?, h0] at hg
    · exact h
  have hg2 : ((w.alloc (.cells #[.pointer (some t)] 34)).alloc (.cells #[.pointer (some ⟨4, 34, none⟩), .pointer (some ⟨w.heap.size, 0, none⟩), .int .u64 150] 64)).cell? ⟨0, 0, none⟩ = some (.iface 85 (.agg #[.pointer (some ⟨4, 26, none⟩)])) := by
    rw [World.cell?_alloc_lt _ _ ⟨0, 0, none⟩ (by simp), World.cell?_alloc_lt _ _ ⟨0, 0, none⟩ hlt]; exact hg
  have htl : t.block < w.heap.size := by
    rcases Nat.lt_or_ge t.block w.heap.size with h | h
    · exact h
    · simp [World.cell?, Array.getElem?_eq_none h] at ht0
  have el := elemVFF ⟨w.heap.size, 0, none⟩ t (((w.alloc (.cells #[.pointer (some t)] 34)).alloc (.cells #[.pointer (some ⟨4, 34, none⟩), .pointer (some ⟨w.heap.size, 0, none⟩), .int .u64 150] 64)).alloc (.cells #[.pointer (some ⟨4, 34, none⟩), .pointer (some ⟨w.heap.size, 0, none⟩), .int .u64 150] 64)) (by rw [World.cell?_alloc_lt _ _ ⟨w.heap.size, 0, none⟩ (by simp; omega)]; simp)
  have st := setF t ⟨w.heap.size + 1 + 1 + 1, 0, none⟩ e old (asBefore e t w)
    (by unfold asBefore; rw [World.cell?_alloc_at _ _ _ _ (by simp)]; rfl)
    (by unfold asBefore; rw [World.cell?_alloc_lt _ _ t (by simp; omega), World.cell?_alloc_lt _ _ t (by simp; omega), World.cell?_alloc_lt _ _ t (by simp; omega), World.cell?_alloc_lt _ _ t htl]; exact ht0)
    (by unfold asBefore; rw [World.frozen?_alloc_old _ _ t (by simp; omega), World.frozen?_alloc_old _ _ t (by simp; omega), World.frozen?_alloc_old _ _ t (by simp; omega), World.frozen?_alloc_old _ _ t (Nat.ne_of_lt htl)]; exact hf0)
  unfold asBefore at st ⊢
  go_enter Tryd.func11, Tryd.ntmps11
  go_wp2
  refine wp_loop_rounds 1 ?_
  rw [rounds_succ]
  go_wp2
  go_ret
  exact ⟨rfl, rfl⟩

/-! What is asked of them -/
abbrev tF : TypeId := 32
abbrev tFF : TypeId := 34
abbrev tE : TypeId := 38
abbrev fIs : FuncId := 12
abbrev fAs : FuncId := 11
theorem fn_is : Tryd.prog.funcs[fIs]? = some Tryd.f12 := by kernel_rfl
theorem fn_as : Tryd.prog.funcs[fAs]? = some Tryd.f11 := by kernel_rfl
theorem any_is (pb po : Nat) (n m : Int) (w : World) (h1 : w.cell? ⟨pb, po + 2, none⟩ = some (.iface tE (.int .i64 n))) :
    Calls Tryd.prog fIs #[.iface tF (.pointer (some ⟨pb, po, none⟩)), .iface tE (.int .i64 m)] w fun e w' => e = .returned (.bool (n == m)) ∧ w' = w := is_wrap pb po n m w h1
theorem nil_is (n : Int) (w : World) : Calls Tryd.prog fIs #[.nilIface, .iface tE (.int .i64 n)] w fun e w' => e = .returned (.bool false) ∧ w' = w := is_other .nilIface n w rfl
/-- The variable that holds error's type. -/
abbrev typeCell : Value := .iface 85 (.agg #[.pointer (some ⟨4, 26, none⟩)])
theorem any_as (e t : Addr) (old : Value) (w : World) (hg : w.cell? ⟨0, 0, none⟩ = some typeCell) (ht0 : w.cell? t = some old) (hf0 : w.frozen? t = false) :
    Calls Tryd.prog fAs #[.iface tF (.pointer (some e)), .iface tFF (.pointer (some t))] w fun ev w' => ev = .returned (.bool true) ∧ w' = (asBefore e t w).setCell t (.pointer (some e)) := as_hit e t old w hg ht0 hf0
end Go.Proofs.YtpohgiinajfepaaDoorPe.Lex.Errs
