/- A part of the proof of this folder's statement; it has no condition of its own. -/
import Derived.Test.YtnlknpeelpnbaaaGreatDoorReadCode
import Derived.Shelf.Strconv.Itoa4
import Derived.Shelf.Strconv.Clone
import Derived.Shelf.Strings.OnBuilder
import Derived.Shelf.Abstract
import Derived.Lib.AppendIntMem
import Derived.Test.YtnlknpeelpnbaaaGreatDoorProg
import Derived.WalkKit
import Derived.LaidEql
import Derived.Stop.Asserts
import Derived.RowKitTokens
import Derived.Deep.LoopGhost
set_option maxRecDepth 1000000
set_option linter.unusedVariables false
namespace Go.Proofs.YtnlknpeelpnbaaaGreatDoorPe.Read
open Go Go.Proofs Go.Proofs.YtnlknpeelpnbaaaGreatDoorPe Go.Proofs.YtnlknpeelpnbaaaGreatDoorPe.ReadCode
def laysFmt_ren:Go.Shelf.Ren:=⟨fun|246=>90|283=>102|284=>103|285=>104|286=>105|129=>115|317=>114|318=>116|319=>117|320=>118|337=>124|338=>125|n=>n,fun|2=>2|3=>3|9=>9|4=>4|171=>174|0=>0|53=>146|37=>22|5=>5|173=>177|212=>185|51=>186|20=>20|213=>187|46=>188|232=>194|233=>195|n=>n,fun|17=>2|18=>3|19=>4|n=>n⟩
theorem laysFmt:Go.Proofs.LaysM.n246 Tryz.prog laysFmt_ren where
 mixed:=by kernel_rfl
 f129:=Tryz.func115.trans (congrArg some (by kernel_rfl))
 f246:=Tryz.func90.trans (congrArg some (by kernel_rfl))
 f283:=Tryz.func102.trans (congrArg some (by kernel_rfl))
 f284:=Tryz.func103.trans (congrArg some (by kernel_rfl))
 f285:=Tryz.func104.trans (congrArg some (by kernel_rfl))
 f286:=Tryz.func105.trans (congrArg some (by kernel_rfl))
 f317:=Tryz.func114.trans (congrArg some (by kernel_rfl))
 f318:=Tryz.func116.trans (congrArg some (by kernel_rfl))
 f319:=Tryz.func117.trans (congrArg some (by kernel_rfl))
 f320:=Tryz.func118.trans (congrArg some (by kernel_rfl))
 f337:=Tryz.func124.trans (congrArg some (by kernel_rfl))
 f338:=Tryz.func125.trans (congrArg some (by kernel_rfl))
 t0:=Tryz.underlying0
 a0:=Tryz.isAgg0
 z0:=Tryz.sizeOf0
 v0:=Tryz.zeroValue0
 t2:=Tryz.underlying2
 a2:=Tryz.isAgg2
 z2:=Tryz.sizeOf2
 v2:=Tryz.zeroValue2
 t3:=Tryz.underlying3
 a3:=Tryz.isAgg3
 z3:=Tryz.sizeOf3
 v3:=Tryz.zeroValue3
 t4:=Tryz.underlying4
 a4:=Tryz.isAgg4
 z4:=Tryz.sizeOf4
 v4:=Tryz.zeroValue4
 t5:=Tryz.underlying5
 a5:=Tryz.isAgg5
 z5:=Tryz.sizeOf5
 v5:=Tryz.zeroValue5
 t9:=Tryz.underlying9
 a9:=Tryz.isAgg9
 z9:=Tryz.sizeOf9
 v9:=Tryz.zeroValue9
 t20:=Tryz.underlying20
 a20:=Tryz.isAgg20
 z20:=Tryz.sizeOf20
 v20:=Tryz.zeroValue20
 t37:=Tryz.underlying22
 a37:=Tryz.isAgg22
 z37:=Tryz.sizeOf22
 v37:=Tryz.zeroValue22
 t46:=Tryz.underlying188
 a46:=Tryz.isAgg188
 z46:=Tryz.sizeOf188
 v46:=Tryz.zeroValue188
 t51:=Tryz.underlying186
 a51:=Tryz.isAgg186
 z51:=Tryz.sizeOf186
 v51:=Tryz.zeroValue186
 t53:=Tryz.underlying146
 a53:=Tryz.isAgg146
 z53:=Tryz.sizeOf146
 v53:=Tryz.zeroValue146
 t171:=Tryz.underlying174
 a171:=Tryz.isAgg174
 z171:=Tryz.sizeOf174
 v171:=Tryz.zeroValue174
 t173:=Tryz.underlying177
 a173:=Tryz.isAgg177
 z173:=Tryz.sizeOf177
 v173:=Tryz.zeroValue177
 t212:=Tryz.underlying185
 a212:=Tryz.isAgg185
 z212:=Tryz.sizeOf185
 v212:=Tryz.zeroValue185
 t213:=Tryz.underlying187
 a213:=Tryz.isAgg187
 z213:=Tryz.sizeOf187
 t232:=Tryz.underlying194
 a232:=Tryz.isAgg194
 z232:=Tryz.sizeOf194
 v232:=Tryz.zeroValue194
 t233:=Tryz.underlying195
 a233:=Tryz.isAgg195
 z233:=Tryz.sizeOf195
 v233:=Tryz.zeroValue195
 g17:=by kernel_rfl
 g18:=by kernel_rfl
 g19:=by kernel_rfl
 i0:=by kernel_rfl
 i2:=by kernel_rfl
 i3:=by kernel_rfl
 i4:=by kernel_rfl
 i5:=by kernel_rfl
 i9:=by kernel_rfl
 i20:=by kernel_rfl
 i37:=by kernel_rfl
 i46:=by kernel_rfl
 i51:=by kernel_rfl
 i53:=by kernel_rfl
 i171:=by kernel_rfl
 i173:=by kernel_rfl
 i212:=by kernel_rfl
 i232:=by kernel_rfl
 i233:=by kernel_rfl
 m17:=by kernel_rfl
 m18:=by kernel_rfl
 m19:=by kernel_rfl
def laysClone_ren:Go.Shelf.Ren:=⟨fun|316=>101|n=>n,fun|9=>9|3=>3|4=>4|37=>22|0=>0|127=>138|5=>5|n=>n,fun|n=>n⟩
theorem laysClone:Go.Proofs.LaysM.n316 Tryz.prog laysClone_ren where
 mixed:=by kernel_rfl
 f316:=Tryz.func101.trans (congrArg some (by kernel_rfl))
 t0:=Tryz.underlying0
 a0:=Tryz.isAgg0
 z0:=Tryz.sizeOf0
 v0:=Tryz.zeroValue0
 t3:=Tryz.underlying3
 a3:=Tryz.isAgg3
 z3:=Tryz.sizeOf3
 v3:=Tryz.zeroValue3
 t4:=Tryz.underlying4
 a4:=Tryz.isAgg4
 z4:=Tryz.sizeOf4
 v4:=Tryz.zeroValue4
 t9:=Tryz.underlying9
 a9:=Tryz.isAgg9
 z9:=Tryz.sizeOf9
 v9:=Tryz.zeroValue9
 t37:=Tryz.underlying22
 a37:=Tryz.isAgg22
 z37:=Tryz.sizeOf22
 v37:=Tryz.zeroValue22
 t127:=Tryz.underlying138
 a127:=Tryz.isAgg138
 z127:=Tryz.sizeOf138
 v127:=Tryz.zeroValue138
 t5:=Tryz.underlying5
 a5:=Tryz.isAgg5
 z5:=Tryz.sizeOf5
 v5:=Tryz.zeroValue5
 i0:=by kernel_rfl
 i3:=by kernel_rfl
 i4:=by kernel_rfl
 i5:=by kernel_rfl
 i9:=by kernel_rfl
 i37:=by kernel_rfl
 i127:=by kernel_rfl
def laysJoin_ren:Go.Shelf.Ren:=⟨fun|156=>41|165=>66|166=>44|169=>45|240=>69|241=>84|276=>89|277=>98|n=>n,fun|31=>60|9=>9|3=>3|4=>4|0=>0|20=>20|72=>100|76=>77|70=>98|37=>22|75=>26|127=>138|164=>126|5=>5|80=>102|n=>n,fun|n=>n⟩
theorem laysJoin:Go.Proofs.LaysM.n156 Tryz.prog laysJoin_ren where
 mixed:=by kernel_rfl
 f156:=Tryz.func41.trans (congrArg some (by kernel_rfl))
 f165:=Tryz.func66.trans (congrArg some (by kernel_rfl))
 f166:=Tryz.func44.trans (congrArg some (by kernel_rfl))
 f169:=Tryz.func45.trans (congrArg some (by kernel_rfl))
 f240:=Tryz.func69.trans (congrArg some (by kernel_rfl))
 f241:=Tryz.func84.trans (congrArg some (by kernel_rfl))
 f276:=Tryz.func89.trans (congrArg some (by kernel_rfl))
 f277:=Tryz.func98.trans (congrArg some (by kernel_rfl))
 t0:=Tryz.underlying0
 a0:=Tryz.isAgg0
 z0:=Tryz.sizeOf0
 v0:=Tryz.zeroValue0
 t3:=Tryz.underlying3
 a3:=Tryz.isAgg3
 z3:=Tryz.sizeOf3
 v3:=Tryz.zeroValue3
 t4:=Tryz.underlying4
 a4:=Tryz.isAgg4
 z4:=Tryz.sizeOf4
 v4:=Tryz.zeroValue4
 t9:=Tryz.underlying9
 a9:=Tryz.isAgg9
 z9:=Tryz.sizeOf9
 v9:=Tryz.zeroValue9
 t20:=Tryz.underlying20
 a20:=Tryz.isAgg20
 z20:=Tryz.sizeOf20
 v20:=Tryz.zeroValue20
 t31:=Tryz.underlying60
 a31:=Tryz.isAgg60
 z31:=Tryz.sizeOf60
 v31:=Tryz.zeroValue60
 t37:=Tryz.underlying22
 a37:=Tryz.isAgg22
 z37:=Tryz.sizeOf22
 v37:=Tryz.zeroValue22
 t70:=Tryz.underlying98
 a70:=Tryz.isAgg98
 z70:=Tryz.sizeOf98
 v70:=Tryz.zeroValue98
 t72:=Tryz.underlying100
 a72:=Tryz.isAgg100
 z72:=Tryz.sizeOf100
 v72:=Tryz.zeroValue100
 t75:=Tryz.underlying26
 a75:=Tryz.isAgg26
 z75:=Tryz.sizeOf26
 v75:=Tryz.zeroValue26
 t76:=Tryz.underlying77
 a76:=Tryz.isAgg77
 z76:=Tryz.sizeOf77
 v76:=Tryz.zeroValue77
 t127:=Tryz.underlying138
 a127:=Tryz.isAgg138
 z127:=Tryz.sizeOf138
 v127:=Tryz.zeroValue138
 t164:=Tryz.underlying126
 a164:=Tryz.isAgg126
 z164:=Tryz.sizeOf126
 v164:=Tryz.zeroValue126
 t5:=Tryz.underlying5
 a5:=Tryz.isAgg5
 z5:=Tryz.sizeOf5
 v5:=Tryz.zeroValue5
 t80:=Tryz.underlying102
 a80:=Tryz.isAgg102
 z80:=Tryz.sizeOf102
 v80:=Tryz.zeroValue102
 i0:=by kernel_rfl
 i3:=by kernel_rfl
 i4:=by kernel_rfl
 i5:=by kernel_rfl
 i9:=by kernel_rfl
 i20:=by kernel_rfl
 i31:=by kernel_rfl
 i37:=by kernel_rfl
 i70:=by kernel_rfl
 i72:=by kernel_rfl
 i75:=by kernel_rfl
 i76:=by kernel_rfl
 i80:=by kernel_rfl
 i127:=by kernel_rfl
 i164:=by kernel_rfl
theorem extra:Builder.Extra Tryz.prog laysJoin_ren where
 sizeBuilder:=by kernel_rfl
 liesBuilder:=by kernel_rfl
 t5:=laysJoin.t5
 a5:=laysJoin.a5
 z5:=laysJoin.z5
 v5:=laysJoin.v5
 infoByte:=by kernel_rfl
 cellsByte:=by kernel_rfl
 sizeByte:=by kernel_rfl
 neB5:=by decide
end Go.Proofs.YtnlknpeelpnbaaaGreatDoorPe.Read
set_option maxRecDepth 100000
set_option linter.unusedVariables false
namespace Go.Proofs.YtnlknpeelpnbaaaGreatDoorPe.Read.Errs
open Go Go.Proofs Go.RowKit Go.Extern.Stop Go.Stop Go.Extern
section
variable {P:Program} (w:World)
theorem eqlIn_int (d:Nat) {ti tn:TypeId} {ms:Array (String × TypeId)} {i:TypeInfo} {k:IntKind} (a b:Int)
  (hi:P.underlying ti=some (.interface ms)) (hn:P.underlying tn=some (.int k)) (hinfo:P.info? tn=some i) (hcomp:i.comparable=true) :
  (Op.equalIn (d+2) ti (.iface tn (.int k a)) (.iface tn (.int k b))).run P w = .ok (a==b) w:=by
 simp[Op.equalIn,run_underlying hi,run_underlying hn,typeInfo,hinfo,hcomp]
theorem eql_int {ti tn:TypeId} {ms:Array (String × TypeId)} {i:TypeInfo} {k:IntKind} (a b:Int)
  (hi:P.underlying ti=some (.interface ms)) (hn:P.underlying tn=some (.int k)) (hinfo:P.info? tn=some i) (hcomp:i.comparable=true) :
  (binOp .eql ti (.iface tn (.int k a)) (.iface tn (.int k b))).run P w = .ok (.bool (a==b)) w:=by
 simp only[binOp]
 simp[Op.equal,Op.maxDepth,eqlIn_int w 9998 a b hi hn hinfo hcomp]
end
theorem isTypeOf (v:Value) (w:World):(Extern.ReflectliteType.typeOf #[.iface 62 v]).run Tryz.prog w = .ok (.iface 149 (.agg #[.pointer (some ⟨5,62,none⟩)])) w:=by kernel_rfl
theorem isComparable (w : World) : (Extern.ReflectliteType.method (fun t => do Rtype.noPackHeld "Comparable" t; pure (.bool (<- typeInfo t).comparable)) #[.agg #[.pointer (some ⟨5, 62, none⟩)]]).run Tryz.prog w = .ok (.bool true) w := by kernel_rfl
theorem callComparable (w:World):(callFunc 153 #[.agg #[.pointer (some ⟨5,62,none⟩)]]).run Tryz.prog w = .ok (.value (.bool true)) w:=by
 rw [@run_callFunc_extern Tryz.prog 153 _ (Extern.ReflectliteType.method fun t => do Rtype.noPackHeld "Comparable" t; pure (.bool (<- typeInfo t).comparable)) Tryz.func153 (by kernel_rfl) (by kernel_rfl) (by kernel_rfl) (by kernel_rfl), isComparable]
 rfl
theorem isMethodComparable (v : Value) (w : World) : (Go.method 323 149 v "Comparable").run Tryz.prog w = .ok (153, v) w := by kernel_rfl
theorem isComp:(Tryz.prog.info? 62).map (·.comparable)=some true:=by kernel_rfl
theorem noIsE (v:Value) (xT:TypeId) (w:World):(Instr.typeAssert (.iface 62 v) xT 151 true).run Tryz.prog w = .ok (.tuple #[.nilIface,.bool false]) w:=run_typeAssert_lacksB Tryz.underlying151 (by kernel_rfl) (by kernel_rfl) v xT w
theorem noUnwrapE (v:Value) (xT:TypeId) (w:World):(Instr.typeAssert (.iface 62 v) xT 154 true).run Tryz.prog w = .ok (.tuple #[.nilIface,.bool false]) w:=run_typeAssert_lacksB Tryz.underlying154 (by kernel_rfl) (by kernel_rfl) v xT w
theorem noUnwrapsE (v:Value) (xT:TypeId) (w:World):(Instr.typeAssert (.iface 62 v) xT 156 true).run Tryz.prog w = .ok (.tuple #[.nilIface,.bool false]) w:=run_typeAssert_lacksB Tryz.underlying156 (by kernel_rfl) (by kernel_rfl) v xT w
theorem noIsF (v:Value) (xT:TypeId) (w:World):(Instr.typeAssert (.iface 63 v) xT 151 true).run Tryz.prog w = .ok (.tuple #[.nilIface,.bool false]) w:=run_typeAssert_lacksB Tryz.underlying151 (by kernel_rfl) (by kernel_rfl) v xT w
theorem hasUnwrapF (v:Value) (xT:TypeId) (w:World):(Instr.typeAssert (.iface 63 v) xT 154 true).run Tryz.prog w = .ok (.tuple #[.iface 63 v,.bool true]) w:=run_typeAssert_hasB Tryz.underlying154 (by kernel_rfl) v xT w
theorem methodUnwrap (v : Value) (w : World) : (Go.method 323 63 v "Unwrap").run Tryz.prog w = .ok (145, v) w := by kernel_rfl
theorem valueOfFF (t:Addr) (w:World):(ReflectliteValue.unpack (.iface 91 (.pointer (some t)))).run Tryz.prog w
  = .ok (.agg #[.pointer (some ⟨5,91,none⟩),.pointer (some ⟨w.heap.size,0,none⟩),.int .u64 150]) (w.alloc (.cells #[.pointer (some t)] 91)):=by kernel_rfl
theorem typeFF (a : Addr) (w : World) : (ReflectliteValue.methodAny (ReflectliteValue.valueError "reflectlite.Value.Type" 0) (fun t _ _ _ => ReflectliteType.toType t) #[.agg #[.pointer (some ⟨5, 91, none⟩), .pointer (some a), .int .u64 150]]).run Tryz.prog w
  = .ok (.iface 149 (.agg #[.pointer (some ⟨5,91,none⟩)])) w:=by kernel_rfl
theorem methodKind (h : Value) (w : World) : (Go.method 323 149 (.agg #[h]) "Kind").run Tryz.prog w = .ok (141, h) w := by kernel_rfl
theorem kindFF (w:World):((ReflectliteType.abiMethod fun t=>(fun a:Nat=>Value.int IntKind.u8 (a:Int)) <$> Rtype.kind t) #[.pointer (some ⟨5,91,none⟩)]).run Tryz.prog w = .ok (.int .u8 22) w:=by kernel_rfl
theorem kindF (w:World):((ReflectliteType.abiMethod fun t=>(fun a:Nat=>Value.int IntKind.u8 (a:Int)) <$> Rtype.kind t) #[.pointer (some ⟨5,63,none⟩)]).run Tryz.prog w = .ok (.int .u8 22) w:=by kernel_rfl
theorem rlm (z:Sem Value) (f:TypeId->Addr->Nat->Nat->Sem Value) (v:Value) :
  ReflectliteValue.method z f #[v]=(do match <- ReflectliteValue.parts v with|none=>z|some (t,a,fl)=>f t a fl (fl % 32)):=rfl
theorem partsFF (a:Addr) (w:World):(ReflectliteValue.parts (.agg #[.pointer (some ⟨5,91,none⟩),.pointer (some a),.int .u64 150])).run Tryz.prog w = .ok (some (91,a,150)) w:=by kernel_rfl
theorem isNilFF (a p:Addr) (W:World) (ha:W.cell? a=some (.pointer (some p))) :
  (ReflectliteValue.method (ReflectliteValue.valueError "reflectlite.Value.IsNil" 0) ReflectliteValue.isNil #[.agg #[.pointer (some ⟨5, 91, none⟩), .pointer (some a), .int .u64 150]]).run Tryz.prog W = .ok (.bool false) W := by
 rw[rlm]
 simp only[Sem.run_bind,partsFF,Result.andThen]
 simp[ReflectliteValue.isNil,loadVar,isAgg,underlying,Tryz.underlying91,ha,Result.andThen]
theorem methodElem (h : Value) (w : World) : (Go.method 323 149 (.agg #[h]) "Elem").run Tryz.prog w = .ok (154, .agg #[h]) w := by kernel_rfl
theorem methodImplements (h : Value) (w : World) : (Go.method 323 149 (.agg #[h]) "Implements").run Tryz.prog w = .ok (155, .agg #[h]) w := by kernel_rfl
theorem methodAssignableTo (h : Value) (w : World) : (Go.method 323 149 (.agg #[h]) "AssignableTo").run Tryz.prog w = .ok (152, .agg #[h]) w := by kernel_rfl
theorem elemFF (w:World):(ReflectliteType.method ReflectliteType.elem #[.agg #[.pointer (some ⟨5,91,none⟩)]]).run Tryz.prog w = .ok (.iface 149 (.agg #[.pointer (some ⟨5,63,none⟩)])) w:=by kernel_rfl
theorem implementsF (w : World) : (ReflectliteType.relation "Implements" ReflectliteType.implements_ #[.agg #[.pointer (some ⟨5, 63, none⟩)], .iface 149 (.agg #[.pointer (some ⟨5, 26, none⟩)])]).run Tryz.prog w = .ok (.bool true) w := by kernel_rfl
theorem typeOfF (v:Value) (w:World):(ReflectliteType.typeOf #[.iface 63 v]).run Tryz.prog w = .ok (.iface 149 (.agg #[.pointer (some ⟨5,63,none⟩)])) w:=by kernel_rfl
theorem assignableF (w : World) : (ReflectliteType.relation "AssignableTo" ReflectliteType.assignableTo #[.agg #[.pointer (some ⟨5, 63, none⟩)], .iface 149 (.agg #[.pointer (some ⟨5, 63, none⟩)])]).run Tryz.prog w = .ok (.bool true) w := by kernel_rfl
theorem valueOfF (e:Addr) (w:World):(ReflectliteValue.unpack (.iface 63 (.pointer (some e)))).run Tryz.prog w
  = .ok (.agg #[.pointer (some ⟨5,63,none⟩),.pointer (some ⟨w.heap.size,0,none⟩),.int .u64 150]) (w.alloc (.cells #[.pointer (some e)] 63)):=by kernel_rfl
theorem elemOfFF (w:World):(Rtype.elem? 91).run Tryz.prog w = .ok (some 63) w:=by kernel_rfl
theorem mkF (p:Addr) (w:World):(ReflectliteValue.mk 63 p ReflectliteValue.flagAddr).run Tryz.prog w = .ok (.agg #[.pointer (some ⟨5,63,none⟩),.pointer (some p),.int .u64 406]) w:=by kernel_rfl
theorem elemVFF (a p:Addr) (W:World) (ha:W.cell? a=some (.pointer (some p))) :
  (ReflectliteValue.method (ReflectliteValue.valueError "reflectlite.Value.Elem" 0) ReflectliteValue.elem #[.agg #[.pointer (some ⟨5, 91, none⟩), .pointer (some a), .int .u64 150]]).run Tryz.prog W
   = .ok (.agg #[.pointer (some ⟨5,63,none⟩),.pointer (some p),.int .u64 406]) W:=by
 rw[rlm]
 simp only[Sem.run_bind,partsFF,Result.andThen]
 simp[ReflectliteValue.elem,loadVar,isAgg,underlying,Tryz.underlying91,ha,Result.andThen,elemOfFF,mkF]
theorem rls (v x:Value):ReflectliteValue.set #[v,x]=(do
  let (some (dst,a,fl),some (src,b,_)):=(<- ReflectliteValue.parts v,<- ReflectliteValue.parts x)
   | unsupported (.noEntry "extern/(internal/reflectlite.Value).Set.zeroValue")
  if fl / ReflectliteValue.flagAddr % 2 == 0 then unsupported (.noEntry "extern/(internal/reflectlite.Value).Set.unaddressable")
  let val <- loadVar src b
  if <- Rtype.directlyAssignable dst src then storeVar dst a val
  else if <- Rtype.implements dst src then
   if (<- Rtype.kind src)==20 then
    match val with
    | .nilIface => unsupported (.noEntry "extern/reflectlite: a nil value of one interface type handed on as a value of another")
    |_=>storeVar dst a val
   else storeVar dst a (.iface src val)
  else panicString ("reflectlite.Set: value of type " ++ (<- Rtype.spelt src) ++ " is not assignable to type " ++ (<- Rtype.spelt dst))
  pure (.tuple #[])):=rfl
theorem partsFa (a:Addr) (w:World):(ReflectliteValue.parts (.agg #[.pointer (some ⟨5,63,none⟩),.pointer (some a),.int .u64 406])).run Tryz.prog w = .ok (some (63,a,406)) w:=by kernel_rfl
theorem partsF (a:Addr) (w:World):(ReflectliteValue.parts (.agg #[.pointer (some ⟨5,63,none⟩),.pointer (some a),.int .u64 150])).run Tryz.prog w = .ok (some (63,a,150)) w:=by kernel_rfl
theorem directF (w:World):(Rtype.directlyAssignable 63 63).run Tryz.prog w = .ok true w:=by kernel_rfl
theorem setF (ta b e:Addr) (old:Value) (W:World) (hb:W.cell? b=some (.pointer (some e))) (ht:W.cell? ta=some old) (hf:W.frozen? ta=false) :
  (ReflectliteValue.set #[.agg #[.pointer (some ⟨5,63,none⟩),.pointer (some ta),.int .u64 406],.agg #[.pointer (some ⟨5,63,none⟩),.pointer (some b),.int .u64 150]]).run Tryz.prog W
   = .ok (.tuple #[]) (W.setCell ta (.pointer (some e))):=by
 rw[rls]
 simp only[Sem.run_bind,partsFa,partsF,Result.andThen]
 simp[ReflectliteValue.flagAddr,loadVar,isAgg,underlying,Tryz.underlying63,hb,Result.andThen,directF,storeVar,Value.cells,storeCells,Addr.add]
 rw[run_store Tryz.prog W ta _ _ (by rfl)]
 simp[ht,hf]
def asBefore (e t:Addr) (w:World):World:=(((w.alloc (.cells #[.pointer (some t)] 91)).alloc (.cells #[.pointer (some ⟨5,91,none⟩),.pointer (some ⟨w.heap.size,0,none⟩),.int .u64 150] 129)).alloc (.cells #[.pointer (some ⟨5,91,none⟩),.pointer (some ⟨w.heap.size,0,none⟩),.int .u64 150] 129)).alloc (.cells #[.pointer (some e)] 63)
set_option maxHeartbeats 4000000 in
theorem as_hit (e t:Addr) (old:Value) (w:World) (hg:w.cell? ⟨0,0,none⟩=some (.iface 149 (.agg #[.pointer (some ⟨5,26,none⟩)]))) (ht0:w.cell? t=some old) (hf0:w.frozen? t=false) :
  Calls Tryz.prog 39 #[.iface 63 (.pointer (some e)),.iface 91 (.pointer (some t))] w fun ev w'=>ev = .returned (.bool true)/\w'=(asBefore e t w).setCell t (.pointer (some e)):=by
 have h6 := @run_callFunc_extern Tryz.prog 62 _ (fun args=>ReflectliteValue.unpack (args.getD 0 (.tuple #[]))) Tryz.func62 (by kernel_rfl) (by kernel_rfl) (by kernel_rfl) (by kernel_rfl)
 have h7 := @run_callFunc_extern Tryz.prog 63 _ (ReflectliteValue.methodAny (ReflectliteValue.valueError "reflectlite.Value.Type" 0) (fun t _ _ _ => ReflectliteType.toType t)) Tryz.func63 (by kernel_rfl) (by kernel_rfl) (by kernel_rfl) (by kernel_rfl)
 have h8 := @run_callFunc_extern Tryz.prog 64 _ (ReflectliteValue.method (ReflectliteValue.valueError "reflectlite.Value.IsNil" 0) ReflectliteValue.isNil) Tryz.func64 (by kernel_rfl) (by kernel_rfl) (by kernel_rfl) (by kernel_rfl)
 have h27 := @run_callFunc_extern Tryz.prog 141 _ (ReflectliteType.abiMethod fun t=>do pure (.int .u8 (<- Rtype.kind t))) Tryz.func141 (by kernel_rfl) (by kernel_rfl) (by kernel_rfl) (by kernel_rfl)
 have h37 := @run_callFunc_extern Tryz.prog 154 _ (ReflectliteType.method ReflectliteType.elem) Tryz.func154 (by kernel_rfl) (by kernel_rfl) (by kernel_rfl) (by kernel_rfl)
 have h38 := @run_callFunc_extern Tryz.prog 155 _ (ReflectliteType.relation "Implements" ReflectliteType.implements_) Tryz.func155 (by kernel_rfl) (by kernel_rfl) (by kernel_rfl) (by kernel_rfl)
 have h10 := @run_callFunc_extern Tryz.prog 60 _ ReflectliteType.typeOf Tryz.func60 (by kernel_rfl) (by kernel_rfl) (by kernel_rfl) (by kernel_rfl)
 have h35 := @run_callFunc_extern Tryz.prog 152 _ (ReflectliteType.relation "AssignableTo" ReflectliteType.assignableTo) Tryz.func152 (by kernel_rfl) (by kernel_rfl) (by kernel_rfl) (by kernel_rfl)
 have h11 := @run_callFunc_extern Tryz.prog 82 _ (ReflectliteValue.method (ReflectliteValue.valueError "reflectlite.Value.Elem" 0) ReflectliteValue.elem) Tryz.func82 (by kernel_rfl) (by kernel_rfl) (by kernel_rfl) (by kernel_rfl)
 have h12 := @run_callFunc_extern Tryz.prog 83 _ ReflectliteValue.set Tryz.func83 (by kernel_rfl) (by kernel_rfl) (by kernel_rfl) (by kernel_rfl)
 have tO:=typeOfF
 have mA:=methodAssignableTo
 have a25:=assignableF
 have v25:=valueOfF
 have f6:=valueOfFF
 have f7:=typeFF
 have mK:=methodKind
 have mE:=methodElem
 have mI:=methodImplements
 have k27:=kindFF
 have k25:=kindF
 have e27:=elemFF
 have i25:=implementsF
 have n8:=isNilFF ⟨w.heap.size,0,none⟩ t ((w.alloc (.cells #[.pointer (some t)] 91)).alloc (.cells #[.pointer (some ⟨5,91,none⟩),.pointer (some ⟨w.heap.size,0,none⟩),.int .u64 150] 129)) (by simp)
 have hlt:0<w.heap.size:=by
  rcases Nat.eq_zero_or_pos w.heap.size with h0|h
  ·simp[World.cell?,h0] at hg
  ·exact h
 have hg2:((w.alloc (.cells #[.pointer (some t)] 91)).alloc (.cells #[.pointer (some ⟨5,91,none⟩),.pointer (some ⟨w.heap.size,0,none⟩),.int .u64 150] 129)).cell? ⟨0,0,none⟩=some (.iface 149 (.agg #[.pointer (some ⟨5,26,none⟩)])):=by
  rw[World.cell?_alloc_lt _ _ ⟨0,0,none⟩ (by simp),World.cell?_alloc_lt _ _ ⟨0,0,none⟩ hlt]; exact hg
 have htl:t.block<w.heap.size:=by
  rcases Nat.lt_or_ge t.block w.heap.size with h|h
  ·exact h
  ·simp[World.cell?,Array.getElem?_eq_none h] at ht0
 have el:=elemVFF ⟨w.heap.size,0,none⟩ t (((w.alloc (.cells #[.pointer (some t)] 91)).alloc (.cells #[.pointer (some ⟨5,91,none⟩),.pointer (some ⟨w.heap.size,0,none⟩),.int .u64 150] 129)).alloc (.cells #[.pointer (some ⟨5,91,none⟩),.pointer (some ⟨w.heap.size,0,none⟩),.int .u64 150] 129)) (by rw[World.cell?_alloc_lt _ _ ⟨w.heap.size,0,none⟩ (by simp; omega)]; simp)
 have st:=setF t ⟨w.heap.size+1+1+1,0,none⟩ e old (asBefore e t w)
  (by unfold asBefore; rw[World.cell?_alloc_at _ _ _ _ (by simp)]; rfl)
  (by unfold asBefore; rw[World.cell?_alloc_lt _ _ t (by simp; omega),World.cell?_alloc_lt _ _ t (by simp; omega),World.cell?_alloc_lt _ _ t (by simp; omega),World.cell?_alloc_lt _ _ t htl]; exact ht0)
  (by unfold asBefore; rw[World.frozen?_alloc_old _ _ t (by simp; omega),World.frozen?_alloc_old _ _ t (by simp; omega),World.frozen?_alloc_old _ _ t (by simp; omega),World.frozen?_alloc_old _ _ t (Nat.ne_of_lt htl)]; exact hf0)
 unfold asBefore at st ⊢
 go_enter Tryz.func39,Tryz.ntmps39
 go_wp2
 refine wp_loop_rounds 1 ?_
 rw[rounds_succ]
 go_wp2
 go_ret
 exact⟨rfl,rfl⟩
abbrev tF:TypeId:=63
abbrev tFF:TypeId:=91
abbrev tE:TypeId:=62
abbrev fIs:FuncId:=38
abbrev fAs:FuncId:=39
theorem fn_is:Tryz.prog.funcs[fIs]? = some Tryz.f38:=by kernel_rfl
theorem fn_as:Tryz.prog.funcs[fAs]? = some Tryz.f39:=by kernel_rfl
abbrev typeCell:Value:=.iface 149 (.agg #[.pointer (some ⟨5,26,none⟩)])
theorem any_as (e t:Addr) (old:Value) (w:World) (hg:w.cell? ⟨0,0,none⟩=some typeCell) (ht0:w.cell? t=some old) (hf0:w.frozen? t=false) :
  Calls Tryz.prog fAs #[.iface tF (.pointer (some e)),.iface tFF (.pointer (some t))] w fun ev w'=>ev = .returned (.bool true)/\w'=(asBefore e t w).setCell t (.pointer (some e)):=as_hit e t old w hg ht0 hf0
end Go.Proofs.YtnlknpeelpnbaaaGreatDoorPe.Read.Errs
set_option maxRecDepth 100000
set_option linter.unusedVariables false
namespace Go.Proofs.YtnlknpeelpnbaaaGreatDoorPe.Read.Errs
open Go Go.Proofs Go.RowKit Go.Extern.Stop Go.Stop Go.Extern
inductive Chain (w:World) (n:Int):Nat->Value->Prop where
 |zero:Chain w n 0 (.iface 62 (.int .i64 n))
 |succ {k:Nat} {b o:Nat} {v:Value} (hc:w.cell? ⟨b,o+2,none⟩=some v) (h:Chain w n k v):Chain w n (k+1) (.iface 63 (.pointer (some ⟨b,o,none⟩)))
set_option maxHeartbeats 4000000 in
theorem is_chain (k:Nat) (v:Value) (n m:Int) (w:World) (h:Chain w n k v) :
  Calls Tryz.prog 38 #[v,.iface 62 (.int .i64 m)] w fun e w'=>e = .returned (.bool (n==m))/\w'=w:=by
 obtain⟨i,hi,hcmp⟩:=Option.map_eq_some_iff.1 isComp
 have h8 := @run_callFunc_extern Tryz.prog 60 _ Extern.ReflectliteType.typeOf Tryz.func60 (by kernel_rfl) (by kernel_rfl) (by kernel_rfl) (by kernel_rfl)
 have h32:=callComparable
 have tT:=isTypeOf
 have mR:=isMethodComparable
 have nE:=noIsE
 have uE:=noUnwrapE
 have vE:=noUnwrapsE
 have nW:=noIsF
 have uW:=hasUnwrapF
 have mU:=methodUnwrap
 have heq:=eql_int (P:=Tryz.prog) w n m Tryz.underlying26 Tryz.underlying62 hi hcmp
 have hty:=fun v=>run_eql_iface_types (P:=Tryz.prog) 63 62 v (.int .i64 m) Tryz.underlying26 (by decide) w
 obtain⟨t,u,rfl⟩ : ∃ t u,v = .iface t u:=by cases h <;> exact⟨_,_,rfl⟩
 have H:Aside (Chain w n k (.iface t u)):=h
 clear h
 generalize hq:(n==m)=q at heq ⊢
 clear hq
 go_enter Tryz.func38,Tryz.ntmps38
 go_wp2
 cases q
 all_goals
  go_loopg [0] k (fun j e wr=>wr=w/\Aside (Chain w n j e))
  case atStart=>exact⟨rfl,H⟩
  case round =>
   obtain⟨rfl,hc⟩:=hrel
   cases hc.out with
   |zero =>
    clear hc
    go_wp2
    go_ret
    exact⟨rfl,rfl⟩
   |@succ j b o v hcell hch =>
    clear hc
    have HC:Aside (Chain wr n j v):=hch
    clear hch
    obtain⟨t',v',rfl⟩ : ∃ t u,v = .iface t u:=by cases HC.out <;> exact⟨_,_,rfl⟩
    have hty':=hty (.pointer (some ⟨b,o,none⟩))
    clear hty
    go_wp2
    go_roundg j
    case measure=>exact Nat.lt_succ_self _
    case rel=>exact⟨rfl,HC⟩
theorem valueOfFE (t:Addr) (w:World):(ReflectliteValue.unpack (.iface 108 (.pointer (some t)))).run Tryz.prog w
  = .ok (.agg #[.pointer (some ⟨5,108,none⟩),.pointer (some ⟨w.heap.size,0,none⟩),.int .u64 150]) (w.alloc (.cells #[.pointer (some t)] 108)):=by kernel_rfl
theorem typeFE (a : Addr) (w : World) : (ReflectliteValue.methodAny (ReflectliteValue.valueError "reflectlite.Value.Type" 0) (fun t _ _ _ => ReflectliteType.toType t) #[.agg #[.pointer (some ⟨5, 108, none⟩), .pointer (some a), .int .u64 150]]).run Tryz.prog w
  = .ok (.iface 149 (.agg #[.pointer (some ⟨5,108,none⟩)])) w:=by kernel_rfl
theorem kindFE (w:World):((ReflectliteType.abiMethod fun t=>(fun a:Nat=>Value.int IntKind.u8 (a:Int)) <$> Rtype.kind t) #[.pointer (some ⟨5,108,none⟩)]).run Tryz.prog w = .ok (.int .u8 22) w:=by kernel_rfl
theorem kindE (w:World):((ReflectliteType.abiMethod fun t=>(fun a:Nat=>Value.int IntKind.u8 (a:Int)) <$> Rtype.kind t) #[.pointer (some ⟨5,62,none⟩)]).run Tryz.prog w = .ok (.int .u8 2) w:=by kernel_rfl
theorem partsFE (a:Addr) (w:World):(ReflectliteValue.parts (.agg #[.pointer (some ⟨5,108,none⟩),.pointer (some a),.int .u64 150])).run Tryz.prog w = .ok (some (108,a,150)) w:=by kernel_rfl
theorem isNilFE (a p:Addr) (W:World) (ha:W.cell? a=some (.pointer (some p))) :
  (ReflectliteValue.method (ReflectliteValue.valueError "reflectlite.Value.IsNil" 0) ReflectliteValue.isNil #[.agg #[.pointer (some ⟨5, 108, none⟩), .pointer (some a), .int .u64 150]]).run Tryz.prog W = .ok (.bool false) W := by
 rw[rlm]
 simp only[Sem.run_bind,partsFE,Result.andThen]
 simp[ReflectliteValue.isNil,loadVar,isAgg,underlying,Tryz.underlying108,ha,Result.andThen]
theorem elemFE (w:World):(ReflectliteType.method ReflectliteType.elem #[.agg #[.pointer (some ⟨5,108,none⟩)]]).run Tryz.prog w = .ok (.iface 149 (.agg #[.pointer (some ⟨5,62,none⟩)])) w:=by kernel_rfl
theorem implementsE (w : World) : (ReflectliteType.relation "Implements" ReflectliteType.implements_ #[.agg #[.pointer (some ⟨5, 62, none⟩)], .iface 149 (.agg #[.pointer (some ⟨5, 26, none⟩)])]).run Tryz.prog w = .ok (.bool true) w := by kernel_rfl
theorem assignableEF (w : World) : (ReflectliteType.relation "AssignableTo" ReflectliteType.assignableTo #[.agg #[.pointer (some ⟨5, 62, none⟩)], .iface 149 (.agg #[.pointer (some ⟨5, 63, none⟩)])]).run Tryz.prog w = .ok (.bool false) w := by kernel_rfl
theorem assignableE (w : World) : (ReflectliteType.relation "AssignableTo" ReflectliteType.assignableTo #[.agg #[.pointer (some ⟨5, 62, none⟩)], .iface 149 (.agg #[.pointer (some ⟨5, 62, none⟩)])]).run Tryz.prog w = .ok (.bool true) w := by kernel_rfl
theorem noAsE (v:Value) (xT:TypeId) (w:World):(Instr.typeAssert (.iface 62 v) xT 161 true).run Tryz.prog w = .ok (.tuple #[.nilIface,.bool false]) w:=run_typeAssert_lacksB Tryz.underlying161 (by kernel_rfl) (by kernel_rfl) v xT w
theorem valueOfE (n:Int) (w:World):(ReflectliteValue.unpack (.iface 62 (.int .i64 n))).run Tryz.prog w
  = .ok (.agg #[.pointer (some ⟨5,62,none⟩),.pointer (some ⟨w.heap.size,0,none⟩),.int .u64 130]) (w.alloc (.cells #[.int .i64 n] 62)):=by kernel_rfl
theorem elemOfFE (w:World):(Rtype.elem? 108).run Tryz.prog w = .ok (some 62) w:=by kernel_rfl
theorem mkE (p:Addr) (w:World):(ReflectliteValue.mk 62 p ReflectliteValue.flagAddr).run Tryz.prog w = .ok (.agg #[.pointer (some ⟨5,62,none⟩),.pointer (some p),.int .u64 386]) w:=by kernel_rfl
theorem elemVFE (a p:Addr) (W:World) (ha:W.cell? a=some (.pointer (some p))) :
  (ReflectliteValue.method (ReflectliteValue.valueError "reflectlite.Value.Elem" 0) ReflectliteValue.elem #[.agg #[.pointer (some ⟨5, 108, none⟩), .pointer (some a), .int .u64 150]]).run Tryz.prog W
   = .ok (.agg #[.pointer (some ⟨5,62,none⟩),.pointer (some p),.int .u64 386]) W:=by
 rw[rlm]
 simp only[Sem.run_bind,partsFE,Result.andThen]
 simp[ReflectliteValue.elem,loadVar,isAgg,underlying,Tryz.underlying108,ha,Result.andThen,elemOfFE,mkE]
theorem partsEa (a:Addr) (w:World):(ReflectliteValue.parts (.agg #[.pointer (some ⟨5,62,none⟩),.pointer (some a),.int .u64 386])).run Tryz.prog w = .ok (some (62,a,386)) w:=by kernel_rfl
theorem partsE (a:Addr) (w:World):(ReflectliteValue.parts (.agg #[.pointer (some ⟨5,62,none⟩),.pointer (some a),.int .u64 130])).run Tryz.prog w = .ok (some (62,a,130)) w:=by kernel_rfl
theorem directE (w:World):(Rtype.directlyAssignable 62 62).run Tryz.prog w = .ok true w:=by kernel_rfl
theorem setE (ta b:Addr) (n:Int) (old:Value) (W:World) (hb:W.cell? b=some (.int .i64 n)) (ht:W.cell? ta=some old) (hf:W.frozen? ta=false) :
  (ReflectliteValue.set #[.agg #[.pointer (some ⟨5,62,none⟩),.pointer (some ta),.int .u64 386],.agg #[.pointer (some ⟨5,62,none⟩),.pointer (some b),.int .u64 130]]).run Tryz.prog W
   = .ok (.tuple #[]) (W.setCell ta (.int .i64 n)):=by
 rw[rls]
 simp only[Sem.run_bind,partsEa,partsE,Result.andThen]
 simp[ReflectliteValue.flagAddr,loadVar,isAgg,underlying,Tryz.underlying62,hb,Result.andThen,directE,storeVar,Value.cells,storeCells,Addr.add]
 rw[run_store Tryz.prog W ta _ _ (by rfl)]
 simp[ht,hf]
def asMade (t:Addr) (T:TypeId) (w:World):World:=(((w.alloc (.cells #[.pointer (some t)] T)).alloc (.cells #[.pointer (some ⟨5,T,none⟩),.pointer (some ⟨w.heap.size,0,none⟩),.int .u64 150] 129)).alloc (.cells #[.pointer (some ⟨5,T,none⟩),.pointer (some ⟨w.heap.size,0,none⟩),.int .u64 150] 129))
set_option maxHeartbeats 4000000 in
theorem as_none (t:Addr) (n:Int) (w:World) (hg:w.cell? ⟨0,0,none⟩=some (.iface 149 (.agg #[.pointer (some ⟨5,26,none⟩)]))) :
  Calls Tryz.prog 39 #[.iface 62 (.int .i64 n),.iface 91 (.pointer (some t))] w fun ev w'=>ev = .returned (.bool false)/\w'=asMade t 91 w:=by
 have h6 := @run_callFunc_extern Tryz.prog 62 _ (fun args=>ReflectliteValue.unpack (args.getD 0 (.tuple #[]))) Tryz.func62 (by kernel_rfl) (by kernel_rfl) (by kernel_rfl) (by kernel_rfl)
 have h7 := @run_callFunc_extern Tryz.prog 63 _ (ReflectliteValue.methodAny (ReflectliteValue.valueError "reflectlite.Value.Type" 0) (fun t _ _ _ => ReflectliteType.toType t)) Tryz.func63 (by kernel_rfl) (by kernel_rfl) (by kernel_rfl) (by kernel_rfl)
 have h8 := @run_callFunc_extern Tryz.prog 64 _ (ReflectliteValue.method (ReflectliteValue.valueError "reflectlite.Value.IsNil" 0) ReflectliteValue.isNil) Tryz.func64 (by kernel_rfl) (by kernel_rfl) (by kernel_rfl) (by kernel_rfl)
 have h27 := @run_callFunc_extern Tryz.prog 141 _ (ReflectliteType.abiMethod fun t=>do pure (.int .u8 (<- Rtype.kind t))) Tryz.func141 (by kernel_rfl) (by kernel_rfl) (by kernel_rfl) (by kernel_rfl)
 have h37 := @run_callFunc_extern Tryz.prog 154 _ (ReflectliteType.method ReflectliteType.elem) Tryz.func154 (by kernel_rfl) (by kernel_rfl) (by kernel_rfl) (by kernel_rfl)
 have h38 := @run_callFunc_extern Tryz.prog 155 _ (ReflectliteType.relation "Implements" ReflectliteType.implements_) Tryz.func155 (by kernel_rfl) (by kernel_rfl) (by kernel_rfl) (by kernel_rfl)
 have h10 := @run_callFunc_extern Tryz.prog 60 _ ReflectliteType.typeOf Tryz.func60 (by kernel_rfl) (by kernel_rfl) (by kernel_rfl) (by kernel_rfl)
 have h35 := @run_callFunc_extern Tryz.prog 152 _ (ReflectliteType.relation "AssignableTo" ReflectliteType.assignableTo) Tryz.func152 (by kernel_rfl) (by kernel_rfl) (by kernel_rfl) (by kernel_rfl)
 have tO:=isTypeOf
 have mA:=methodAssignableTo
 have a25:=assignableEF
 have f6:=valueOfFF
 have f7:=typeFF
 have mK:=methodKind
 have mE:=methodElem
 have mI:=methodImplements
 have k27:=kindFF
 have k25:=kindF
 have e27:=elemFF
 have i25:=implementsF
 have nE:=noAsE
 have uE:=noUnwrapE
 have vE:=noUnwrapsE
 have n8:=isNilFF ⟨w.heap.size,0,none⟩ t ((w.alloc (.cells #[.pointer (some t)] 91)).alloc (.cells #[.pointer (some ⟨5,91,none⟩),.pointer (some ⟨w.heap.size,0,none⟩),.int .u64 150] 129)) (by simp)
 have hlt:0<w.heap.size:=by
  rcases Nat.eq_zero_or_pos w.heap.size with h0|h
  ·simp[World.cell?,h0] at hg
  ·exact h
 have hg2:((w.alloc (.cells #[.pointer (some t)] 91)).alloc (.cells #[.pointer (some ⟨5,91,none⟩),.pointer (some ⟨w.heap.size,0,none⟩),.int .u64 150] 129)).cell? ⟨0,0,none⟩=some (.iface 149 (.agg #[.pointer (some ⟨5,26,none⟩)])):=by
  rw[World.cell?_alloc_lt _ _ ⟨0,0,none⟩ (by simp),World.cell?_alloc_lt _ _ ⟨0,0,none⟩ hlt]; exact hg
 unfold asMade
 go_enter Tryz.func39,Tryz.ntmps39
 go_wp2
 refine wp_loop_rounds 1 ?_
 rw[rounds_succ]
 go_wp2
 go_ret
 exact⟨rfl,rfl⟩
def asEBefore (n:Int) (t:Addr) (w:World):World:=(((w.alloc (.cells #[.pointer (some t)] 108)).alloc (.cells #[.pointer (some ⟨5,108,none⟩),.pointer (some ⟨w.heap.size,0,none⟩),.int .u64 150] 129)).alloc (.cells #[.pointer (some ⟨5,108,none⟩),.pointer (some ⟨w.heap.size,0,none⟩),.int .u64 150] 129)).alloc (.cells #[.int .i64 n] 62)
set_option maxHeartbeats 4000000 in
theorem asE_hit (t:Addr) (n:Int) (old:Value) (w:World) (hg:w.cell? ⟨0,0,none⟩=some (.iface 149 (.agg #[.pointer (some ⟨5,26,none⟩)]))) (ht0:w.cell? t=some old) (hf0:w.frozen? t=false) :
  Calls Tryz.prog 39 #[.iface 62 (.int .i64 n),.iface 108 (.pointer (some t))] w fun ev w'=>ev = .returned (.bool true)/\w'=(asEBefore n t w).setCell t (.int .i64 n):=by
 have h6 := @run_callFunc_extern Tryz.prog 62 _ (fun args=>ReflectliteValue.unpack (args.getD 0 (.tuple #[]))) Tryz.func62 (by kernel_rfl) (by kernel_rfl) (by kernel_rfl) (by kernel_rfl)
 have h7 := @run_callFunc_extern Tryz.prog 63 _ (ReflectliteValue.methodAny (ReflectliteValue.valueError "reflectlite.Value.Type" 0) (fun t _ _ _ => ReflectliteType.toType t)) Tryz.func63 (by kernel_rfl) (by kernel_rfl) (by kernel_rfl) (by kernel_rfl)
 have h8 := @run_callFunc_extern Tryz.prog 64 _ (ReflectliteValue.method (ReflectliteValue.valueError "reflectlite.Value.IsNil" 0) ReflectliteValue.isNil) Tryz.func64 (by kernel_rfl) (by kernel_rfl) (by kernel_rfl) (by kernel_rfl)
 have h27 := @run_callFunc_extern Tryz.prog 141 _ (ReflectliteType.abiMethod fun t=>do pure (.int .u8 (<- Rtype.kind t))) Tryz.func141 (by kernel_rfl) (by kernel_rfl) (by kernel_rfl) (by kernel_rfl)
 have h37 := @run_callFunc_extern Tryz.prog 154 _ (ReflectliteType.method ReflectliteType.elem) Tryz.func154 (by kernel_rfl) (by kernel_rfl) (by kernel_rfl) (by kernel_rfl)
 have h38 := @run_callFunc_extern Tryz.prog 155 _ (ReflectliteType.relation "Implements" ReflectliteType.implements_) Tryz.func155 (by kernel_rfl) (by kernel_rfl) (by kernel_rfl) (by kernel_rfl)
 have h10 := @run_callFunc_extern Tryz.prog 60 _ ReflectliteType.typeOf Tryz.func60 (by kernel_rfl) (by kernel_rfl) (by kernel_rfl) (by kernel_rfl)
 have h35 := @run_callFunc_extern Tryz.prog 152 _ (ReflectliteType.relation "AssignableTo" ReflectliteType.assignableTo) Tryz.func152 (by kernel_rfl) (by kernel_rfl) (by kernel_rfl) (by kernel_rfl)
 have h11 := @run_callFunc_extern Tryz.prog 82 _ (ReflectliteValue.method (ReflectliteValue.valueError "reflectlite.Value.Elem" 0) ReflectliteValue.elem) Tryz.func82 (by kernel_rfl) (by kernel_rfl) (by kernel_rfl) (by kernel_rfl)
 have h12 := @run_callFunc_extern Tryz.prog 83 _ ReflectliteValue.set Tryz.func83 (by kernel_rfl) (by kernel_rfl) (by kernel_rfl) (by kernel_rfl)
 have tO:=isTypeOf
 have mA:=methodAssignableTo
 have a25:=assignableE
 have v25:=valueOfE
 have f6:=valueOfFE
 have f7:=typeFE
 have mK:=methodKind
 have mE:=methodElem
 have mI:=methodImplements
 have k27:=kindFE
 have k25:=kindE
 have e27:=elemFE
 have i25:=implementsE
 have n8:=isNilFE ⟨w.heap.size,0,none⟩ t ((w.alloc (.cells #[.pointer (some t)] 108)).alloc (.cells #[.pointer (some ⟨5,108,none⟩),.pointer (some ⟨w.heap.size,0,none⟩),.int .u64 150] 129)) (by simp)
 have hlt:0<w.heap.size:=by
  rcases Nat.eq_zero_or_pos w.heap.size with h0|h
  ·simp[World.cell?,h0] at hg
  ·exact h
 have hg2:((w.alloc (.cells #[.pointer (some t)] 108)).alloc (.cells #[.pointer (some ⟨5,108,none⟩),.pointer (some ⟨w.heap.size,0,none⟩),.int .u64 150] 129)).cell? ⟨0,0,none⟩=some (.iface 149 (.agg #[.pointer (some ⟨5,26,none⟩)])):=by
  rw[World.cell?_alloc_lt _ _ ⟨0,0,none⟩ (by simp),World.cell?_alloc_lt _ _ ⟨0,0,none⟩ hlt]; exact hg
 have htl:t.block<w.heap.size:=by
  rcases Nat.lt_or_ge t.block w.heap.size with h|h
  ·exact h
  ·simp[World.cell?,Array.getElem?_eq_none h] at ht0
 have el:=elemVFE ⟨w.heap.size,0,none⟩ t (((w.alloc (.cells #[.pointer (some t)] 108)).alloc (.cells #[.pointer (some ⟨5,108,none⟩),.pointer (some ⟨w.heap.size,0,none⟩),.int .u64 150] 129)).alloc (.cells #[.pointer (some ⟨5,108,none⟩),.pointer (some ⟨w.heap.size,0,none⟩),.int .u64 150] 129)) (by rw[World.cell?_alloc_lt _ _ ⟨w.heap.size,0,none⟩ (by simp; omega)]; simp)
 have st:=setE t ⟨w.heap.size+1+1+1,0,none⟩ n old (asEBefore n t w)
  (by unfold asEBefore; rw[World.cell?_alloc_at _ _ _ _ (by simp)]; rfl)
  (by unfold asEBefore; rw[World.cell?_alloc_lt _ _ t (by simp; omega),World.cell?_alloc_lt _ _ t (by simp; omega),World.cell?_alloc_lt _ _ t (by simp; omega),World.cell?_alloc_lt _ _ t htl]; exact ht0)
  (by unfold asEBefore; rw[World.frozen?_alloc_old _ _ t (by simp; omega),World.frozen?_alloc_old _ _ t (by simp; omega),World.frozen?_alloc_old _ _ t (by simp; omega),World.frozen?_alloc_old _ _ t (Nat.ne_of_lt htl)]; exact hf0)
 unfold asEBefore at st ⊢
 go_enter Tryz.func39,Tryz.ntmps39
 go_wp2
 refine wp_loop_rounds 1 ?_
 rw[rounds_succ]
 go_wp2
 go_ret
 exact⟨rfl,rfl⟩
abbrev tFE:TypeId:=108
end Go.Proofs.YtnlknpeelpnbaaaGreatDoorPe.Read.Errs
