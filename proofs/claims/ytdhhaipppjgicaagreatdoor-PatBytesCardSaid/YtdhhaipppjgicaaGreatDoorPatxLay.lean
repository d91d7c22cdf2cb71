/- A part of the proof of this folder's statement; it has no condition of its own. -/
import Derived.Test.YtdhhaipppjgicaaGreatDoorPatxCode
import Derived.Shelf.Strconv.Itoa4
import Derived.Shelf.Strconv.Clone
import Derived.Shelf.Strings.OnBuilder
import Derived.Shelf.Abstract
import Derived.Lib.AppendIntMem
import Derived.Test.YtdhhaipppjgicaaGreatDoorProg
import Derived.WalkKit
import Derived.LaidEql
import Derived.Stop.Asserts
import Derived.RowKitTokens
import Derived.Deep.LoopGhost
import Derived.RangeFuncBox
import Derived.RangeFuncLeaves
import Derived.OwnWalkIn
import Derived.TacticsInMore
import Derived.LoopNIn
import Derived.LoopIn
import Derived.RangeFuncNested
import Derived.Test.YtdhhaipppjgicaaGreatDoorPatxNum
import Derived.Test.YtdhhaipppjgicaaGreatDoorPeSound3
set_option maxRecDepth 1000000
set_option linter.unusedVariables false
namespace Go.Proofs.YtdhhaipppjgicaaGreatDoorPe.Patx
open Go Go.Proofs Go.Proofs.YtdhhaipppjgicaaGreatDoorPe Go.Proofs.YtdhhaipppjgicaaGreatDoorPe.PatxCode
def laysFmt_ren:Go.Shelf.Ren:=⟨fun|246=>145|283=>155|284=>156|285=>157|286=>158|129=>167|317=>166|318=>168|319=>169|320=>170|337=>176|338=>177|n=>n,fun|2=>2|3=>3|9=>9|4=>4|171=>266|0=>0|53=>232|37=>22|5=>5|173=>269|212=>275|51=>276|20=>20|213=>277|46=>278|232=>284|233=>285|n=>n,fun|17=>2|18=>3|19=>4|n=>n⟩
theorem laysFmt:Go.Proofs.LaysM.n246 Tryz.prog laysFmt_ren where
 mixed:=by kernel_rfl
 f129:=Tryz.func167.trans (congrArg some (by kernel_rfl))
 f246:=Tryz.func145.trans (congrArg some (by kernel_rfl))
 f283:=Tryz.func155.trans (congrArg some (by kernel_rfl))
 f284:=Tryz.func156.trans (congrArg some (by kernel_rfl))
 f285:=Tryz.func157.trans (congrArg some (by kernel_rfl))
 f286:=Tryz.func158.trans (congrArg some (by kernel_rfl))
 f317:=Tryz.func166.trans (congrArg some (by kernel_rfl))
 f318:=Tryz.func168.trans (congrArg some (by kernel_rfl))
 f319:=Tryz.func169.trans (congrArg some (by kernel_rfl))
 f320:=Tryz.func170.trans (congrArg some (by kernel_rfl))
 f337:=Tryz.func176.trans (congrArg some (by kernel_rfl))
 f338:=Tryz.func177.trans (congrArg some (by kernel_rfl))
 t0:=Tryz.underlying0
 a0:=Tryz.isAgg0
 z0:=Tryz.sizeOf0
 v0:=Tryz.zeroValue0
 t2:=Tryz.underlying2
 a2:=Tryz.isAgg2
 z2:=Tryz.sizeOf2
 v2:=Tryz.zeroValue2
 t3:=Tryz.underlying3
 a3:=Tryz.isAgg3
 z3:=Tryz.sizeOf3
 v3:=Tryz.zeroValue3
 t4:=Tryz.underlying4
 a4:=Tryz.isAgg4
 z4:=Tryz.sizeOf4
 v4:=Tryz.zeroValue4
 t5:=Tryz.underlying5
 a5:=Tryz.isAgg5
 z5:=Tryz.sizeOf5
 v5:=Tryz.zeroValue5
 t9:=Tryz.underlying9
 a9:=Tryz.isAgg9
 z9:=Tryz.sizeOf9
 v9:=Tryz.zeroValue9
 t20:=Tryz.underlying20
 a20:=Tryz.isAgg20
 z20:=Tryz.sizeOf20
 v20:=Tryz.zeroValue20
 t37:=Tryz.underlying22
 a37:=Tryz.isAgg22
 z37:=Tryz.sizeOf22
 v37:=Tryz.zeroValue22
 t46:=Tryz.underlying278
 a46:=Tryz.isAgg278
 z46:=Tryz.sizeOf278
 v46:=Tryz.zeroValue278
 t51:=Tryz.underlying276
 a51:=Tryz.isAgg276
 z51:=Tryz.sizeOf276
 v51:=Tryz.zeroValue276
 t53:=Tryz.underlying232
 a53:=Tryz.isAgg232
 z53:=Tryz.sizeOf232
 v53:=Tryz.zeroValue232
 t171:=Tryz.underlying266
 a171:=Tryz.isAgg266
 z171:=Tryz.sizeOf266
 v171:=Tryz.zeroValue266
 t173:=Tryz.underlying269
 a173:=Tryz.isAgg269
 z173:=Tryz.sizeOf269
 v173:=Tryz.zeroValue269
 t212:=Tryz.underlying275
 a212:=Tryz.isAgg275
 z212:=Tryz.sizeOf275
 v212:=Tryz.zeroValue275
 t213:=Tryz.underlying277
 a213:=Tryz.isAgg277
 z213:=Tryz.sizeOf277
 t232:=Tryz.underlying284
 a232:=Tryz.isAgg284
 z232:=Tryz.sizeOf284
 v232:=Tryz.zeroValue284
 t233:=Tryz.underlying285
 a233:=Tryz.isAgg285
 z233:=Tryz.sizeOf285
 v233:=Tryz.zeroValue285
 g17:=by kernel_rfl
 g18:=by kernel_rfl
 g19:=by kernel_rfl
 i0:=by kernel_rfl
 i2:=by kernel_rfl
 i3:=by kernel_rfl
 i4:=by kernel_rfl
 i5:=by kernel_rfl
 i9:=by kernel_rfl
 i20:=by kernel_rfl
 i37:=by kernel_rfl
 i46:=by kernel_rfl
 i51:=by kernel_rfl
 i53:=by kernel_rfl
 i171:=by kernel_rfl
 i173:=by kernel_rfl
 i212:=by kernel_rfl
 i232:=by kernel_rfl
 i233:=by kernel_rfl
 m17:=by kernel_rfl
 m18:=by kernel_rfl
 m19:=by kernel_rfl
def laysClone_ren:Go.Shelf.Ren:=⟨fun|316=>153|n=>n,fun|9=>9|3=>3|4=>4|37=>22|0=>0|127=>252|5=>5|n=>n,fun|n=>n⟩
theorem laysClone:Go.Proofs.LaysM.n316 Tryz.prog laysClone_ren where
 mixed:=by kernel_rfl
 f316:=Tryz.func153.trans (congrArg some (by kernel_rfl))
 t0:=Tryz.underlying0
 a0:=Tryz.isAgg0
 z0:=Tryz.sizeOf0
 v0:=Tryz.zeroValue0
 t3:=Tryz.underlying3
 a3:=Tryz.isAgg3
 z3:=Tryz.sizeOf3
 v3:=Tryz.zeroValue3
 t4:=Tryz.underlying4
 a4:=Tryz.isAgg4
 z4:=Tryz.sizeOf4
 v4:=Tryz.zeroValue4
 t9:=Tryz.underlying9
 a9:=Tryz.isAgg9
 z9:=Tryz.sizeOf9
 v9:=Tryz.zeroValue9
 t37:=Tryz.underlying22
 a37:=Tryz.isAgg22
 z37:=Tryz.sizeOf22
 v37:=Tryz.zeroValue22
 t127:=Tryz.underlying252
 a127:=Tryz.isAgg252
 z127:=Tryz.sizeOf252
 v127:=Tryz.zeroValue252
 t5:=Tryz.underlying5
 a5:=Tryz.isAgg5
 z5:=Tryz.sizeOf5
 v5:=Tryz.zeroValue5
 i0:=by kernel_rfl
 i3:=by kernel_rfl
 i4:=by kernel_rfl
 i5:=by kernel_rfl
 i9:=by kernel_rfl
 i37:=by kernel_rfl
 i127:=by kernel_rfl
def laysJoin_ren:Go.Shelf.Ren:=⟨fun|156=>80|165=>112|166=>113|169=>114|240=>133|241=>134|276=>149|277=>150|n=>n,fun|31=>71|9=>9|3=>3|4=>4|0=>0|20=>20|72=>218|76=>168|70=>216|37=>22|75=>77|127=>252|164=>197|5=>5|80=>221|n=>n,fun|n=>n⟩
theorem laysJoin:Go.Proofs.LaysM.n156 Tryz.prog laysJoin_ren where
 mixed:=by kernel_rfl
 f156:=Tryz.func80.trans (congrArg some (by kernel_rfl))
 f165:=Tryz.func112.trans (congrArg some (by kernel_rfl))
 f166:=Tryz.func113.trans (congrArg some (by kernel_rfl))
 f169:=Tryz.func114.trans (congrArg some (by kernel_rfl))
 f240:=Tryz.func133.trans (congrArg some (by kernel_rfl))
 f241:=Tryz.func134.trans (congrArg some (by kernel_rfl))
 f276:=Tryz.func149.trans (congrArg some (by kernel_rfl))
 f277:=Tryz.func150.trans (congrArg some (by kernel_rfl))
 t0:=Tryz.underlying0
 a0:=Tryz.isAgg0
 z0:=Tryz.sizeOf0
 v0:=Tryz.zeroValue0
 t3:=Tryz.underlying3
 a3:=Tryz.isAgg3
 z3:=Tryz.sizeOf3
 v3:=Tryz.zeroValue3
 t4:=Tryz.underlying4
 a4:=Tryz.isAgg4
 z4:=Tryz.sizeOf4
 v4:=Tryz.zeroValue4
 t9:=Tryz.underlying9
 a9:=Tryz.isAgg9
 z9:=Tryz.sizeOf9
 v9:=Tryz.zeroValue9
 t20:=Tryz.underlying20
 a20:=Tryz.isAgg20
 z20:=Tryz.sizeOf20
 v20:=Tryz.zeroValue20
 t31:=Tryz.underlying71
 a31:=Tryz.isAgg71
 z31:=Tryz.sizeOf71
 v31:=Tryz.zeroValue71
 t37:=Tryz.underlying22
 a37:=Tryz.isAgg22
 z37:=Tryz.sizeOf22
 v37:=Tryz.zeroValue22
 t70:=Tryz.underlying216
 a70:=Tryz.isAgg216
 z70:=Tryz.sizeOf216
 v70:=Tryz.zeroValue216
 t72:=Tryz.underlying218
 a72:=Tryz.isAgg218
 z72:=Tryz.sizeOf218
 v72:=Tryz.zeroValue218
 t75:=Tryz.underlying77
 a75:=Tryz.isAgg77
 z75:=Tryz.sizeOf77
 v75:=Tryz.zeroValue77
 t76:=Tryz.underlying168
 a76:=Tryz.isAgg168
 z76:=Tryz.sizeOf168
 v76:=Tryz.zeroValue168
 t127:=Tryz.underlying252
 a127:=Tryz.isAgg252
 z127:=Tryz.sizeOf252
 v127:=Tryz.zeroValue252
 t164:=Tryz.underlying197
 a164:=Tryz.isAgg197
 z164:=Tryz.sizeOf197
 v164:=Tryz.zeroValue197
 t5:=Tryz.underlying5
 a5:=Tryz.isAgg5
 z5:=Tryz.sizeOf5
 v5:=Tryz.zeroValue5
 t80:=Tryz.underlying221
 a80:=Tryz.isAgg221
 z80:=Tryz.sizeOf221
 v80:=Tryz.zeroValue221
 i0:=by kernel_rfl
 i3:=by kernel_rfl
 i4:=by kernel_rfl
 i5:=by kernel_rfl
 i9:=by kernel_rfl
 i20:=by kernel_rfl
 i31:=by kernel_rfl
 i37:=by kernel_rfl
 i70:=by kernel_rfl
 i72:=by kernel_rfl
 i75:=by kernel_rfl
 i76:=by kernel_rfl
 i80:=by kernel_rfl
 i127:=by kernel_rfl
 i164:=by kernel_rfl
theorem extra:Builder.Extra Tryz.prog laysJoin_ren where
 sizeBuilder:=by kernel_rfl
 liesBuilder:=by kernel_rfl
 t5:=laysJoin.t5
 a5:=laysJoin.a5
 z5:=laysJoin.z5
 v5:=laysJoin.v5
 infoByte:=by kernel_rfl
 cellsByte:=by kernel_rfl
 sizeByte:=by kernel_rfl
 neB5:=by decide
end Go.Proofs.YtdhhaipppjgicaaGreatDoorPe.Patx
set_option maxRecDepth 100000
set_option linter.unusedVariables false
namespace Go.Proofs.YtdhhaipppjgicaaGreatDoorPe.Patx.Errs
open Go Go.Proofs Go.RowKit Go.Extern.Stop Go.Stop Go.Extern
section
variable {P:Program} (w:World)
theorem eqlIn_int (d:Nat) {ti tn:TypeId} {ms:Array (String × TypeId)} {i:TypeInfo} {k:IntKind} (a b:Int)
  (hi:P.underlying ti=some (.interface ms)) (hn:P.underlying tn=some (.int k)) (hinfo:P.info? tn=some i) (hcomp:i.comparable=true) :
  (Op.equalIn (d+2) ti (.iface tn (.int k a)) (.iface tn (.int k b))).run P w = .ok (a==b) w:=by
 simp[Op.equalIn,run_underlying hi,run_underlying hn,typeInfo,hinfo,hcomp]
theorem eql_int {ti tn:TypeId} {ms:Array (String × TypeId)} {i:TypeInfo} {k:IntKind} (a b:Int)
  (hi:P.underlying ti=some (.interface ms)) (hn:P.underlying tn=some (.int k)) (hinfo:P.info? tn=some i) (hcomp:i.comparable=true) :
  (binOp .eql ti (.iface tn (.int k a)) (.iface tn (.int k b))).run P w = .ok (.bool (a==b)) w:=by
 simp only[binOp]
 simp[Op.equal,Op.maxDepth,eqlIn_int w 9998 a b hi hn hinfo hcomp]
end
theorem isTypeOf (v:Value) (w:World):(Extern.ReflectliteType.typeOf #[.iface 135 v]).run Tryz.prog w = .ok (.iface 235 (.agg #[.pointer (some ⟨5,135,none⟩)])) w:=by kernel_rfl
theorem isComparable (w : World) : (Extern.ReflectliteType.method (fun t => do Rtype.noPackHeld "Comparable" t; pure (.bool (<- typeInfo t).comparable)) #[.agg #[.pointer (some ⟨5, 135, none⟩)]]).run Tryz.prog w = .ok (.bool true) w := by kernel_rfl
theorem callComparable (w:World):(callFunc 205 #[.agg #[.pointer (some ⟨5,135,none⟩)]]).run Tryz.prog w = .ok (.value (.bool true)) w:=by
 rw [@run_callFunc_extern Tryz.prog 205 _ (Extern.ReflectliteType.method fun t => do Rtype.noPackHeld "Comparable" t; pure (.bool (<- typeInfo t).comparable)) Tryz.func205 (by kernel_rfl) (by kernel_rfl) (by kernel_rfl) (by kernel_rfl), isComparable]
 rfl
theorem isMethodComparable (v : Value) (w : World) : (Go.method 414 235 v "Comparable").run Tryz.prog w = .ok (205, v) w := by kernel_rfl
theorem isComp:(Tryz.prog.info? 135).map (·.comparable)=some true:=by kernel_rfl
theorem noIsE (v:Value) (xT:TypeId) (w:World):(Instr.typeAssert (.iface 135 v) xT 237 true).run Tryz.prog w = .ok (.tuple #[.nilIface,.bool false]) w:=run_typeAssert_lacksB Tryz.underlying237 (by kernel_rfl) (by kernel_rfl) v xT w
theorem noUnwrapE (v:Value) (xT:TypeId) (w:World):(Instr.typeAssert (.iface 135 v) xT 240 true).run Tryz.prog w = .ok (.tuple #[.nilIface,.bool false]) w:=run_typeAssert_lacksB Tryz.underlying240 (by kernel_rfl) (by kernel_rfl) v xT w
theorem noUnwrapsE (v:Value) (xT:TypeId) (w:World):(Instr.typeAssert (.iface 135 v) xT 242 true).run Tryz.prog w = .ok (.tuple #[.nilIface,.bool false]) w:=run_typeAssert_lacksB Tryz.underlying242 (by kernel_rfl) (by kernel_rfl) v xT w
theorem noIsF (v:Value) (xT:TypeId) (w:World):(Instr.typeAssert (.iface 148 v) xT 237 true).run Tryz.prog w = .ok (.tuple #[.nilIface,.bool false]) w:=run_typeAssert_lacksB Tryz.underlying237 (by kernel_rfl) (by kernel_rfl) v xT w
theorem hasUnwrapF (v:Value) (xT:TypeId) (w:World):(Instr.typeAssert (.iface 148 v) xT 240 true).run Tryz.prog w = .ok (.tuple #[.iface 148 v,.bool true]) w:=run_typeAssert_hasB Tryz.underlying240 (by kernel_rfl) v xT w
theorem methodUnwrap (v : Value) (w : World) : (Go.method 414 148 v "Unwrap").run Tryz.prog w = .ok (198, v) w := by kernel_rfl
theorem valueOfFF (t:Addr) (w:World):(ReflectliteValue.unpack (.iface 150 (.pointer (some t)))).run Tryz.prog w
  = .ok (.agg #[.pointer (some ⟨5,150,none⟩),.pointer (some ⟨w.heap.size,0,none⟩),.int .u64 150]) (w.alloc (.cells #[.pointer (some t)] 150)):=by kernel_rfl
theorem typeFF (a : Addr) (w : World) : (ReflectliteValue.methodAny (ReflectliteValue.valueError "reflectlite.Value.Type" 0) (fun t _ _ _ => ReflectliteType.toType t) #[.agg #[.pointer (some ⟨5, 150, none⟩), .pointer (some a), .int .u64 150]]).run Tryz.prog w
  = .ok (.iface 235 (.agg #[.pointer (some ⟨5,150,none⟩)])) w:=by kernel_rfl
theorem methodKind (h : Value) (w : World) : (Go.method 414 235 (.agg #[h]) "Kind").run Tryz.prog w = .ok (193, h) w := by kernel_rfl
theorem kindFF (w:World):((ReflectliteType.abiMethod fun t=>(fun a:Nat=>Value.int IntKind.u8 (a:Int)) <$> Rtype.kind t) #[.pointer (some ⟨5,150,none⟩)]).run Tryz.prog w = .ok (.int .u8 22) w:=by kernel_rfl
theorem kindF (w:World):((ReflectliteType.abiMethod fun t=>(fun a:Nat=>Value.int IntKind.u8 (a:Int)) <$> Rtype.kind t) #[.pointer (some ⟨5,148,none⟩)]).run Tryz.prog w = .ok (.int .u8 22) w:=by kernel_rfl
theorem rlm (z:Sem Value) (f:TypeId->Addr->Nat->Nat->Sem Value) (v:Value) :
  ReflectliteValue.method z f #[v]=(do match <- ReflectliteValue.parts v with|none=>z|some (t,a,fl)=>f t a fl (fl % 32)):=rfl
theorem partsFF (a:Addr) (w:World):(ReflectliteValue.parts (.agg #[.pointer (some ⟨5,150,none⟩),.pointer (some a),.int .u64 150])).run Tryz.prog w = .ok (some (150,a,150)) w:=by kernel_rfl
theorem isNilFF (a p:Addr) (W:World) (ha:W.cell? a=some (.pointer (some p))) :
  (ReflectliteValue.method (ReflectliteValue.valueError "reflectlite.Value.IsNil" 0) ReflectliteValue.isNil #[.agg #[.pointer (some ⟨5, 150, none⟩), .pointer (some a), .int .u64 150]]).run Tryz.prog W = .ok (.bool false) W := by
 rw[rlm]
 simp only[Sem.run_bind,partsFF,Result.andThen]
 simp[ReflectliteValue.isNil,loadVar,isAgg,underlying,Tryz.underlying150,ha,Result.andThen]
theorem methodElem (h : Value) (w : World) : (Go.method 414 235 (.agg #[h]) "Elem").run Tryz.prog w = .ok (206, .agg #[h]) w := by kernel_rfl
theorem methodImplements (h : Value) (w : World) : (Go.method 414 235 (.agg #[h]) "Implements").run Tryz.prog w = .ok (207, .agg #[h]) w := by kernel_rfl
theorem methodAssignableTo (h : Value) (w : World) : (Go.method 414 235 (.agg #[h]) "AssignableTo").run Tryz.prog w = .ok (204, .agg #[h]) w := by kernel_rfl
theorem elemFF (w:World):(ReflectliteType.method ReflectliteType.elem #[.agg #[.pointer (some ⟨5,150,none⟩)]]).run Tryz.prog w = .ok (.iface 235 (.agg #[.pointer (some ⟨5,148,none⟩)])) w:=by kernel_rfl
theorem implementsF (w : World) : (ReflectliteType.relation "Implements" ReflectliteType.implements_ #[.agg #[.pointer (some ⟨5, 148, none⟩)], .iface 235 (.agg #[.pointer (some ⟨5, 77, none⟩)])]).run Tryz.prog w = .ok (.bool true) w := by kernel_rfl
theorem typeOfF (v:Value) (w:World):(ReflectliteType.typeOf #[.iface 148 v]).run Tryz.prog w = .ok (.iface 235 (.agg #[.pointer (some ⟨5,148,none⟩)])) w:=by kernel_rfl
theorem assignableF (w : World) : (ReflectliteType.relation "AssignableTo" ReflectliteType.assignableTo #[.agg #[.pointer (some ⟨5, 148, none⟩)], .iface 235 (.agg #[.pointer (some ⟨5, 148, none⟩)])]).run Tryz.prog w = .ok (.bool true) w := by kernel_rfl
theorem valueOfF (e:Addr) (w:World):(ReflectliteValue.unpack (.iface 148 (.pointer (some e)))).run Tryz.prog w
  = .ok (.agg #[.pointer (some ⟨5,148,none⟩),.pointer (some ⟨w.heap.size,0,none⟩),.int .u64 150]) (w.alloc (.cells #[.pointer (some e)] 148)):=by kernel_rfl
theorem elemOfFF (w:World):(Rtype.elem? 150).run Tryz.prog w = .ok (some 148) w:=by kernel_rfl
theorem mkF (p:Addr) (w:World):(ReflectliteValue.mk 148 p ReflectliteValue.flagAddr).run Tryz.prog w = .ok (.agg #[.pointer (some ⟨5,148,none⟩),.pointer (some p),.int .u64 406]) w:=by kernel_rfl
theorem elemVFF (a p:Addr) (W:World) (ha:W.cell? a=some (.pointer (some p))) :
  (ReflectliteValue.method (ReflectliteValue.valueError "reflectlite.Value.Elem" 0) ReflectliteValue.elem #[.agg #[.pointer (some ⟨5, 150, none⟩), .pointer (some a), .int .u64 150]]).run Tryz.prog W
   = .ok (.agg #[.pointer (some ⟨5,148,none⟩),.pointer (some p),.int .u64 406]) W:=by
 rw[rlm]
 simp only[Sem.run_bind,partsFF,Result.andThen]
 simp[ReflectliteValue.elem,loadVar,isAgg,underlying,Tryz.underlying150,ha,Result.andThen,elemOfFF,mkF]
theorem rls (v x:Value):ReflectliteValue.set #[v,x]=(do
  let (some (dst,a,fl),some (src,b,_)):=(<- ReflectliteValue.parts v,<- ReflectliteValue.parts x)
   | unsupported (.noEntry "extern/(internal/reflectlite.Value).Set.zeroValue")
  if fl / ReflectliteValue.flagAddr % 2 == 0 then unsupported (.noEntry "extern/(internal/reflectlite.Value).Set.unaddressable")
  let val <- loadVar src b
  if <- Rtype.directlyAssignable dst src then storeVar dst a val
  else if <- Rtype.implements dst src then
   if (<- Rtype.kind src)==20 then
    match val with
    | .nilIface => unsupported (.noEntry "extern/reflectlite: a nil value of one interface type handed on as a value of another")
    |_=>storeVar dst a val
   else storeVar dst a (.iface src val)
  else panicString ("reflectlite.Set: value of type " ++ (<- Rtype.spelt src) ++ " is not assignable to type " ++ (<- Rtype.spelt dst))
  pure (.tuple #[])):=rfl
theorem partsFa (a:Addr) (w:World):(ReflectliteValue.parts (.agg #[.pointer (some ⟨5,148,none⟩),.pointer (some a),.int .u64 406])).run Tryz.prog w = .ok (some (148,a,406)) w:=by kernel_rfl
theorem partsF (a:Addr) (w:World):(ReflectliteValue.parts (.agg #[.pointer (some ⟨5,148,none⟩),.pointer (some a),.int .u64 150])).run Tryz.prog w = .ok (some (148,a,150)) w:=by kernel_rfl
theorem directF (w:World):(Rtype.directlyAssignable 148 148).run Tryz.prog w = .ok true w:=by kernel_rfl
theorem setF (ta b e:Addr) (old:Value) (W:World) (hb:W.cell? b=some (.pointer (some e))) (ht:W.cell? ta=some old) (hf:W.frozen? ta=false) :
  (ReflectliteValue.set #[.agg #[.pointer (some ⟨5,148,none⟩),.pointer (some ta),.int .u64 406],.agg #[.pointer (some ⟨5,148,none⟩),.pointer (some b),.int .u64 150]]).run Tryz.prog W
   = .ok (.tuple #[]) (W.setCell ta (.pointer (some e))):=by
 rw[rls]
 simp only[Sem.run_bind,partsFa,partsF,Result.andThen]
 simp[ReflectliteValue.flagAddr,loadVar,isAgg,underlying,Tryz.underlying148,hb,Result.andThen,directF,storeVar,Value.cells,storeCells,Addr.add]
 rw[run_store Tryz.prog W ta _ _ (by rfl)]
 simp[ht,hf]
def asBefore (e t:Addr) (w:World):World:=(((w.alloc (.cells #[.pointer (some t)] 150)).alloc (.cells #[.pointer (some ⟨5,150,none⟩),.pointer (some ⟨w.heap.size,0,none⟩),.int .u64 150] 200)).alloc (.cells #[.pointer (some ⟨5,150,none⟩),.pointer (some ⟨w.heap.size,0,none⟩),.int .u64 150] 200)).alloc (.cells #[.pointer (some e)] 148)
set_option maxHeartbeats 4000000 in
theorem as_hit (e t:Addr) (old:Value) (w:World) (hg:w.cell? ⟨0,0,none⟩=some (.iface 235 (.agg #[.pointer (some ⟨5,77,none⟩)]))) (ht0:w.cell? t=some old) (hf0:w.frozen? t=false) :
  Calls Tryz.prog 70 #[.iface 148 (.pointer (some e)),.iface 150 (.pointer (some t))] w fun ev w'=>ev = .returned (.bool true)/\w'=(asBefore e t w).setCell t (.pointer (some e)):=by
 have h6 := @run_callFunc_extern Tryz.prog 100 _ (fun args=>ReflectliteValue.unpack (args.getD 0 (.tuple #[]))) Tryz.func100 (by kernel_rfl) (by kernel_rfl) (by kernel_rfl) (by kernel_rfl)
 have h7 := @run_callFunc_extern Tryz.prog 101 _ (ReflectliteValue.methodAny (ReflectliteValue.valueError "reflectlite.Value.Type" 0) (fun t _ _ _ => ReflectliteType.toType t)) Tryz.func101 (by kernel_rfl) (by kernel_rfl) (by kernel_rfl) (by kernel_rfl)
 have h8 := @run_callFunc_extern Tryz.prog 102 _ (ReflectliteValue.method (ReflectliteValue.valueError "reflectlite.Value.IsNil" 0) ReflectliteValue.isNil) Tryz.func102 (by kernel_rfl) (by kernel_rfl) (by kernel_rfl) (by kernel_rfl)
 have h27 := @run_callFunc_extern Tryz.prog 193 _ (ReflectliteType.abiMethod fun t=>do pure (.int .u8 (<- Rtype.kind t))) Tryz.func193 (by kernel_rfl) (by kernel_rfl) (by kernel_rfl) (by kernel_rfl)
 have h37 := @run_callFunc_extern Tryz.prog 206 _ (ReflectliteType.method ReflectliteType.elem) Tryz.func206 (by kernel_rfl) (by kernel_rfl) (by kernel_rfl) (by kernel_rfl)
 have h38 := @run_callFunc_extern Tryz.prog 207 _ (ReflectliteType.relation "Implements" ReflectliteType.implements_) Tryz.func207 (by kernel_rfl) (by kernel_rfl) (by kernel_rfl) (by kernel_rfl)
 have h10 := @run_callFunc_extern Tryz.prog 98 _ ReflectliteType.typeOf Tryz.func98 (by kernel_rfl) (by kernel_rfl) (by kernel_rfl) (by kernel_rfl)
 have h35 := @run_callFunc_extern Tryz.prog 204 _ (ReflectliteType.relation "AssignableTo" ReflectliteType.assignableTo) Tryz.func204 (by kernel_rfl) (by kernel_rfl) (by kernel_rfl) (by kernel_rfl)
 have h11 := @run_callFunc_extern Tryz.prog 127 _ (ReflectliteValue.method (ReflectliteValue.valueError "reflectlite.Value.Elem" 0) ReflectliteValue.elem) Tryz.func127 (by kernel_rfl) (by kernel_rfl) (by kernel_rfl) (by kernel_rfl)
 have h12 := @run_callFunc_extern Tryz.prog 128 _ ReflectliteValue.set Tryz.func128 (by kernel_rfl) (by kernel_rfl) (by kernel_rfl) (by kernel_rfl)
 have tO:=typeOfF
 have mA:=methodAssignableTo
 have a25:=assignableF
 have v25:=valueOfF
 have f6:=valueOfFF
 have f7:=typeFF
 have mK:=methodKind
 have mE:=methodElem
 have mI:=methodImplements
 have k27:=kindFF
 have k25:=kindF
 have e27:=elemFF
 have i25:=implementsF
 have n8:=isNilFF ⟨w.heap.size,0,none⟩ t ((w.alloc (.cells #[.pointer (some t)] 150)).alloc (.cells #[.pointer (some ⟨5,150,none⟩),.pointer (some ⟨w.heap.size,0,none⟩),.int .u64 150] 200)) (by simp)
 have hlt:0<w.heap.size:=by
  rcases Nat.eq_zero_or_pos w.heap.size with h0|h
  ·simp[World.cell?,h0] at hg
  ·exact h
 have hg2:((w.alloc (.cells #[.pointer (some t)] 150)).alloc (.cells #[.pointer (some ⟨5,150,none⟩),.pointer (some ⟨w.heap.size,0,none⟩),.int .u64 150] 200)).cell? ⟨0,0,none⟩=some (.iface 235 (.agg #[.pointer (some ⟨5,77,none⟩)])):=by
  rw[World.cell?_alloc_lt _ _ ⟨0,0,none⟩ (by simp),World.cell?_alloc_lt _ _ ⟨0,0,none⟩ hlt]; exact hg
 have htl:t.block<w.heap.size:=by
  rcases Nat.lt_or_ge t.block w.heap.size with h|h
  ·exact h
  ·simp[World.cell?,Array.getElem?_eq_none h] at ht0
 have el:=elemVFF ⟨w.heap.size,0,none⟩ t (((w.alloc (.cells #[.pointer (some t)] 150)).alloc (.cells #[.pointer (some ⟨5,150,none⟩),.pointer (some ⟨w.heap.size,0,none⟩),.int .u64 150] 200)).alloc (.cells #[.pointer (some ⟨5,150,none⟩),.pointer (some ⟨w.heap.size,0,none⟩),.int .u64 150] 200)) (by rw[World.cell?_alloc_lt _ _ ⟨w.heap.size,0,none⟩ (by simp; omega)]; simp)
 have st:=setF t ⟨w.heap.size+1+1+1,0,none⟩ e old (asBefore e t w)
  (by unfold asBefore; rw[World.cell?_alloc_at _ _ _ _ (by simp)]; rfl)
  (by unfold asBefore; rw[World.cell?_alloc_lt _ _ t (by simp; omega),World.cell?_alloc_lt _ _ t (by simp; omega),World.cell?_alloc_lt _ _ t (by simp; omega),World.cell?_alloc_lt _ _ t htl]; exact ht0)
  (by unfold asBefore; rw[World.frozen?_alloc_old _ _ t (by simp; omega),World.frozen?_alloc_old _ _ t (by simp; omega),World.frozen?_alloc_old _ _ t (by simp; omega),World.frozen?_alloc_old _ _ t (Nat.ne_of_lt htl)]; exact hf0)
 unfold asBefore at st ⊢
 go_enter Tryz.func70,Tryz.ntmps70
 go_wp2
 refine wp_loop_rounds 1 ?_
 rw[rounds_succ]
 go_wp2
 go_ret
 exact⟨rfl,rfl⟩
abbrev tF:TypeId:=148
abbrev tFF:TypeId:=150
abbrev tE:TypeId:=135
abbrev fIs:FuncId:=69
abbrev fAs:FuncId:=70
theorem fn_is:Tryz.prog.funcs[fIs]? = some Tryz.f69:=by kernel_rfl
theorem fn_as:Tryz.prog.funcs[fAs]? = some Tryz.f70:=by kernel_rfl
abbrev typeCell:Value:=.iface 235 (.agg #[.pointer (some ⟨5,77,none⟩)])
theorem any_as (e t:Addr) (old:Value) (w:World) (hg:w.cell? ⟨0,0,none⟩=some typeCell) (ht0:w.cell? t=some old) (hf0:w.frozen? t=false) :
  Calls Tryz.prog fAs #[.iface tF (.pointer (some e)),.iface tFF (.pointer (some t))] w fun ev w'=>ev = .returned (.bool true)/\w'=(asBefore e t w).setCell t (.pointer (some e)):=as_hit e t old w hg ht0 hf0
end Go.Proofs.YtdhhaipppjgicaaGreatDoorPe.Patx.Errs
set_option maxRecDepth 100000
set_option linter.unusedVariables false
namespace Go.Proofs.YtdhhaipppjgicaaGreatDoorPe.Patx.Errs
open Go Go.Proofs Go.RowKit Go.Extern.Stop Go.Stop Go.Extern
inductive Chain (w:World) (n:Int):Nat->Value->Prop where
 |zero:Chain w n 0 (.iface 135 (.int .i64 n))
 |succ {k:Nat} {b o:Nat} {v:Value} (hc:w.cell? ⟨b,o+2,none⟩=some v) (h:Chain w n k v):Chain w n (k+1) (.iface 148 (.pointer (some ⟨b,o,none⟩)))
set_option maxHeartbeats 4000000 in
theorem is_chain (k:Nat) (v:Value) (n m:Int) (w:World) (h:Chain w n k v) :
  Calls Tryz.prog 69 #[v,.iface 135 (.int .i64 m)] w fun e w'=>e = .returned (.bool (n==m))/\w'=w:=by
 obtain⟨i,hi,hcmp⟩:=Option.map_eq_some_iff.1 isComp
 have h8 := @run_callFunc_extern Tryz.prog 98 _ Extern.ReflectliteType.typeOf Tryz.func98 (by kernel_rfl) (by kernel_rfl) (by kernel_rfl) (by kernel_rfl)
 have h32:=callComparable
 have tT:=isTypeOf
 have mR:=isMethodComparable
 have nE:=noIsE
 have uE:=noUnwrapE
 have vE:=noUnwrapsE
 have nW:=noIsF
 have uW:=hasUnwrapF
 have mU:=methodUnwrap
 have heq:=eql_int (P:=Tryz.prog) w n m Tryz.underlying77 Tryz.underlying135 hi hcmp
 have hty:=fun v=>run_eql_iface_types (P:=Tryz.prog) 148 135 v (.int .i64 m) Tryz.underlying77 (by decide) w
 obtain⟨t,u,rfl⟩ : ∃ t u,v = .iface t u:=by cases h <;> exact⟨_,_,rfl⟩
 have H:Aside (Chain w n k (.iface t u)):=h
 clear h
 generalize hq:(n==m)=q at heq ⊢
 clear hq
 go_enter Tryz.func69,Tryz.ntmps69
 go_wp2
 cases q
 all_goals
  go_loopg [0] k (fun j e wr=>wr=w/\Aside (Chain w n j e))
  case atStart=>exact⟨rfl,H⟩
  case round =>
   obtain⟨rfl,hc⟩:=hrel
   cases hc.out with
   |zero =>
    clear hc
    go_wp2
    go_ret
    exact⟨rfl,rfl⟩
   |@succ j b o v hcell hch =>
    clear hc
    have HC:Aside (Chain wr n j v):=hch
    clear hch
    obtain⟨t',v',rfl⟩ : ∃ t u,v = .iface t u:=by cases HC.out <;> exact⟨_,_,rfl⟩
    have hty':=hty (.pointer (some ⟨b,o,none⟩))
    clear hty
    go_wp2
    go_roundg j
    case measure=>exact Nat.lt_succ_self _
    case rel=>exact⟨rfl,HC⟩
theorem valueOfFE (t:Addr) (w:World):(ReflectliteValue.unpack (.iface 192 (.pointer (some t)))).run Tryz.prog w
  = .ok (.agg #[.pointer (some ⟨5,192,none⟩),.pointer (some ⟨w.heap.size,0,none⟩),.int .u64 150]) (w.alloc (.cells #[.pointer (some t)] 192)):=by kernel_rfl
theorem typeFE (a : Addr) (w : World) : (ReflectliteValue.methodAny (ReflectliteValue.valueError "reflectlite.Value.Type" 0) (fun t _ _ _ => ReflectliteType.toType t) #[.agg #[.pointer (some ⟨5, 192, none⟩), .pointer (some a), .int .u64 150]]).run Tryz.prog w
  = .ok (.iface 235 (.agg #[.pointer (some ⟨5,192,none⟩)])) w:=by kernel_rfl
theorem kindFE (w:World):((ReflectliteType.abiMethod fun t=>(fun a:Nat=>Value.int IntKind.u8 (a:Int)) <$> Rtype.kind t) #[.pointer (some ⟨5,192,none⟩)]).run Tryz.prog w = .ok (.int .u8 22) w:=by kernel_rfl
theorem kindE (w:World):((ReflectliteType.abiMethod fun t=>(fun a:Nat=>Value.int IntKind.u8 (a:Int)) <$> Rtype.kind t) #[.pointer (some ⟨5,135,none⟩)]).run Tryz.prog w = .ok (.int .u8 2) w:=by kernel_rfl
theorem partsFE (a:Addr) (w:World):(ReflectliteValue.parts (.agg #[.pointer (some ⟨5,192,none⟩),.pointer (some a),.int .u64 150])).run Tryz.prog w = .ok (some (192,a,150)) w:=by kernel_rfl
theorem isNilFE (a p:Addr) (W:World) (ha:W.cell? a=some (.pointer (some p))) :
  (ReflectliteValue.method (ReflectliteValue.valueError "reflectlite.Value.IsNil" 0) ReflectliteValue.isNil #[.agg #[.pointer (some ⟨5, 192, none⟩), .pointer (some a), .int .u64 150]]).run Tryz.prog W = .ok (.bool false) W := by
 rw[rlm]
 simp only[Sem.run_bind,partsFE,Result.andThen]
 simp[ReflectliteValue.isNil,loadVar,isAgg,underlying,Tryz.underlying192,ha,Result.andThen]
theorem elemFE (w:World):(ReflectliteType.method ReflectliteType.elem #[.agg #[.pointer (some ⟨5,192,none⟩)]]).run Tryz.prog w = .ok (.iface 235 (.agg #[.pointer (some ⟨5,135,none⟩)])) w:=by kernel_rfl
theorem implementsE (w : World) : (ReflectliteType.relation "Implements" ReflectliteType.implements_ #[.agg #[.pointer (some ⟨5, 135, none⟩)], .iface 235 (.agg #[.pointer (some ⟨5, 77, none⟩)])]).run Tryz.prog w = .ok (.bool true) w := by kernel_rfl
theorem assignableEF (w : World) : (ReflectliteType.relation "AssignableTo" ReflectliteType.assignableTo #[.agg #[.pointer (some ⟨5, 135, none⟩)], .iface 235 (.agg #[.pointer (some ⟨5, 148, none⟩)])]).run Tryz.prog w = .ok (.bool false) w := by kernel_rfl
theorem assignableE (w : World) : (ReflectliteType.relation "AssignableTo" ReflectliteType.assignableTo #[.agg #[.pointer (some ⟨5, 135, none⟩)], .iface 235 (.agg #[.pointer (some ⟨5, 135, none⟩)])]).run Tryz.prog w = .ok (.bool true) w := by kernel_rfl
theorem noAsE (v:Value) (xT:TypeId) (w:World):(Instr.typeAssert (.iface 135 v) xT 247 true).run Tryz.prog w = .ok (.tuple #[.nilIface,.bool false]) w:=run_typeAssert_lacksB Tryz.underlying247 (by kernel_rfl) (by kernel_rfl) v xT w
theorem valueOfE (n:Int) (w:World):(ReflectliteValue.unpack (.iface 135 (.int .i64 n))).run Tryz.prog w
  = .ok (.agg #[.pointer (some ⟨5,135,none⟩),.pointer (some ⟨w.heap.size,0,none⟩),.int .u64 130]) (w.alloc (.cells #[.int .i64 n] 135)):=by kernel_rfl
theorem elemOfFE (w:World):(Rtype.elem? 192).run Tryz.prog w = .ok (some 135) w:=by kernel_rfl
theorem mkE (p:Addr) (w:World):(ReflectliteValue.mk 135 p ReflectliteValue.flagAddr).run Tryz.prog w = .ok (.agg #[.pointer (some ⟨5,135,none⟩),.pointer (some p),.int .u64 386]) w:=by kernel_rfl
theorem elemVFE (a p:Addr) (W:World) (ha:W.cell? a=some (.pointer (some p))) :
  (ReflectliteValue.method (ReflectliteValue.valueError "reflectlite.Value.Elem" 0) ReflectliteValue.elem #[.agg #[.pointer (some ⟨5, 192, none⟩), .pointer (some a), .int .u64 150]]).run Tryz.prog W
   = .ok (.agg #[.pointer (some ⟨5,135,none⟩),.pointer (some p),.int .u64 386]) W:=by
 rw[rlm]
 simp only[Sem.run_bind,partsFE,Result.andThen]
 simp[ReflectliteValue.elem,loadVar,isAgg,underlying,Tryz.underlying192,ha,Result.andThen,elemOfFE,mkE]
theorem partsEa (a:Addr) (w:World):(ReflectliteValue.parts (.agg #[.pointer (some ⟨5,135,none⟩),.pointer (some a),.int .u64 386])).run Tryz.prog w = .ok (some (135,a,386)) w:=by kernel_rfl
theorem partsE (a:Addr) (w:World):(ReflectliteValue.parts (.agg #[.pointer (some ⟨5,135,none⟩),.pointer (some a),.int .u64 130])).run Tryz.prog w = .ok (some (135,a,130)) w:=by kernel_rfl
theorem directE (w:World):(Rtype.directlyAssignable 135 135).run Tryz.prog w = .ok true w:=by kernel_rfl
theorem setE (ta b:Addr) (n:Int) (old:Value) (W:World) (hb:W.cell? b=some (.int .i64 n)) (ht:W.cell? ta=some old) (hf:W.frozen? ta=false) :
  (ReflectliteValue.set #[.agg #[.pointer (some ⟨5,135,none⟩),.pointer (some ta),.int .u64 386],.agg #[.pointer (some ⟨5,135,none⟩),.pointer (some b),.int .u64 130]]).run Tryz.prog W
   = .ok (.tuple #[]) (W.setCell ta (.int .i64 n)):=by
 rw[rls]
 simp only[Sem.run_bind,partsEa,partsE,Result.andThen]
 simp[ReflectliteValue.flagAddr,loadVar,isAgg,underlying,Tryz.underlying135,hb,Result.andThen,directE,storeVar,Value.cells,storeCells,Addr.add]
 rw[run_store Tryz.prog W ta _ _ (by rfl)]
 simp[ht,hf]
def asMade (t:Addr) (T:TypeId) (w:World):World:=(((w.alloc (.cells #[.pointer (some t)] T)).alloc (.cells #[.pointer (some ⟨5,T,none⟩),.pointer (some ⟨w.heap.size,0,none⟩),.int .u64 150] 200)).alloc (.cells #[.pointer (some ⟨5,T,none⟩),.pointer (some ⟨w.heap.size,0,none⟩),.int .u64 150] 200))
set_option maxHeartbeats 4000000 in
theorem as_none (t:Addr) (n:Int) (w:World) (hg:w.cell? ⟨0,0,none⟩=some (.iface 235 (.agg #[.pointer (some ⟨5,77,none⟩)]))) :
  Calls Tryz.prog 70 #[.iface 135 (.int .i64 n),.iface 150 (.pointer (some t))] w fun ev w'=>ev = .returned (.bool false)/\w'=asMade t 150 w:=by
 have h6 := @run_callFunc_extern Tryz.prog 100 _ (fun args=>ReflectliteValue.unpack (args.getD 0 (.tuple #[]))) Tryz.func100 (by kernel_rfl) (by kernel_rfl) (by kernel_rfl) (by kernel_rfl)
 have h7 := @run_callFunc_extern Tryz.prog 101 _ (ReflectliteValue.methodAny (ReflectliteValue.valueError "reflectlite.Value.Type" 0) (fun t _ _ _ => ReflectliteType.toType t)) Tryz.func101 (by kernel_rfl) (by kernel_rfl) (by kernel_rfl) (by kernel_rfl)
 have h8 := @run_callFunc_extern Tryz.prog 102 _ (ReflectliteValue.method (ReflectliteValue.valueError "reflectlite.Value.IsNil" 0) ReflectliteValue.isNil) Tryz.func102 (by kernel_rfl) (by kernel_rfl) (by kernel_rfl) (by kernel_rfl)
 have h27 := @run_callFunc_extern Tryz.prog 193 _ (ReflectliteType.abiMethod fun t=>do pure (.int .u8 (<- Rtype.kind t))) Tryz.func193 (by kernel_rfl) (by kernel_rfl) (by kernel_rfl) (by kernel_rfl)
 have h37 := @run_callFunc_extern Tryz.prog 206 _ (ReflectliteType.method ReflectliteType.elem) Tryz.func206 (by kernel_rfl) (by kernel_rfl) (by kernel_rfl) (by kernel_rfl)
 have h38 := @run_callFunc_extern Tryz.prog 207 _ (ReflectliteType.relation "Implements" ReflectliteType.implements_) Tryz.func207 (by kernel_rfl) (by kernel_rfl) (by kernel_rfl) (by kernel_rfl)
 have h10 := @run_callFunc_extern Tryz.prog 98 _ ReflectliteType.typeOf Tryz.func98 (by kernel_rfl) (by kernel_rfl) (by kernel_rfl) (by kernel_rfl)
 have h35 := @run_callFunc_extern Tryz.prog 204 _ (ReflectliteType.relation "AssignableTo" ReflectliteType.assignableTo) Tryz.func204 (by kernel_rfl) (by kernel_rfl) (by kernel_rfl) (by kernel_rfl)
 have tO:=isTypeOf
 have mA:=methodAssignableTo
 have a25:=assignableEF
 have f6:=valueOfFF
 have f7:=typeFF
 have mK:=methodKind
 have mE:=methodElem
 have mI:=methodImplements
 have k27:=kindFF
 have k25:=kindF
 have e27:=elemFF
 have i25:=implementsF
 have nE:=noAsE
 have uE:=noUnwrapE
 have vE:=noUnwrapsE
 have n8:=isNilFF ⟨w.heap.size,0,none⟩ t ((w.alloc (.cells #[.pointer (some t)] 150)).alloc (.cells #[.pointer (some ⟨5,150,none⟩),.pointer (some ⟨w.heap.size,0,none⟩),.int .u64 150] 200)) (by simp)
 have hlt:0<w.heap.size:=by
  rcases Nat.eq_zero_or_pos w.heap.size with h0|h
  ·simp[World.cell?,h0] at hg
  ·exact h
 have hg2:((w.alloc (.cells #[.pointer (some t)] 150)).alloc (.cells #[.pointer (some ⟨5,150,none⟩),.pointer (some ⟨w.heap.size,0,none⟩),.int .u64 150] 200)).cell? ⟨0,0,none⟩=some (.iface 235 (.agg #[.pointer (some ⟨5,77,none⟩)])):=by
  rw[World.cell?_alloc_lt _ _ ⟨0,0,none⟩ (by simp),World.cell?_alloc_lt _ _ ⟨0,0,none⟩ hlt]; exact hg
 unfold asMade
 go_enter Tryz.func70,Tryz.ntmps70
 go_wp2
 refine wp_loop_rounds 1 ?_
 rw[rounds_succ]
 go_wp2
 go_ret
 exact⟨rfl,rfl⟩
def asEBefore (n:Int) (t:Addr) (w:World):World:=(((w.alloc (.cells #[.pointer (some t)] 192)).alloc (.cells #[.pointer (some ⟨5,192,none⟩),.pointer (some ⟨w.heap.size,0,none⟩),.int .u64 150] 200)).alloc (.cells #[.pointer (some ⟨5,192,none⟩),.pointer (some ⟨w.heap.size,0,none⟩),.int .u64 150] 200)).alloc (.cells #[.int .i64 n] 135)
set_option maxHeartbeats 4000000 in
theorem asE_hit (t:Addr) (n:Int) (old:Value) (w:World) (hg:w.cell? ⟨0,0,none⟩=some (.iface 235 (.agg #[.pointer (some ⟨5,77,none⟩)]))) (ht0:w.cell? t=some old) (hf0:w.frozen? t=false) :
  Calls Tryz.prog 70 #[.iface 135 (.int .i64 n),.iface 192 (.pointer (some t))] w fun ev w'=>ev = .returned (.bool true)/\w'=(asEBefore n t w).setCell t (.int .i64 n):=by
 have h6 := @run_callFunc_extern Tryz.prog 100 _ (fun args=>ReflectliteValue.unpack (args.getD 0 (.tuple #[]))) Tryz.func100 (by kernel_rfl) (by kernel_rfl) (by kernel_rfl) (by kernel_rfl)
 have h7 := @run_callFunc_extern Tryz.prog 101 _ (ReflectliteValue.methodAny (ReflectliteValue.valueError "reflectlite.Value.Type" 0) (fun t _ _ _ => ReflectliteType.toType t)) Tryz.func101 (by kernel_rfl) (by kernel_rfl) (by kernel_rfl) (by kernel_rfl)
 have h8 := @run_callFunc_extern Tryz.prog 102 _ (ReflectliteValue.method (ReflectliteValue.valueError "reflectlite.Value.IsNil" 0) ReflectliteValue.isNil) Tryz.func102 (by kernel_rfl) (by kernel_rfl) (by kernel_rfl) (by kernel_rfl)
 have h27 := @run_callFunc_extern Tryz.prog 193 _ (ReflectliteType.abiMethod fun t=>do pure (.int .u8 (<- Rtype.kind t))) Tryz.func193 (by kernel_rfl) (by kernel_rfl) (by kernel_rfl) (by kernel_rfl)
 have h37 := @run_callFunc_extern Tryz.prog 206 _ (ReflectliteType.method ReflectliteType.elem) Tryz.func206 (by kernel_rfl) (by kernel_rfl) (by kernel_rfl) (by kernel_rfl)
 have h38 := @run_callFunc_extern Tryz.prog 207 _ (ReflectliteType.relation "Implements" ReflectliteType.implements_) Tryz.func207 (by kernel_rfl) (by kernel_rfl) (by kernel_rfl) (by kernel_rfl)
 have h10 := @run_callFunc_extern Tryz.prog 98 _ ReflectliteType.typeOf Tryz.func98 (by kernel_rfl) (by kernel_rfl) (by kernel_rfl) (by kernel_rfl)
 have h35 := @run_callFunc_extern Tryz.prog 204 _ (ReflectliteType.relation "AssignableTo" ReflectliteType.assignableTo) Tryz.func204 (by kernel_rfl) (by kernel_rfl) (by kernel_rfl) (by kernel_rfl)
 have h11 := @run_callFunc_extern Tryz.prog 127 _ (ReflectliteValue.method (ReflectliteValue.valueError "reflectlite.Value.Elem" 0) ReflectliteValue.elem) Tryz.func127 (by kernel_rfl) (by kernel_rfl) (by kernel_rfl) (by kernel_rfl)
 have h12 := @run_callFunc_extern Tryz.prog 128 _ ReflectliteValue.set Tryz.func128 (by kernel_rfl) (by kernel_rfl) (by kernel_rfl) (by kernel_rfl)
 have tO:=isTypeOf
 have mA:=methodAssignableTo
 have a25:=assignableE
 have v25:=valueOfE
 have f6:=valueOfFE
 have f7:=typeFE
 have mK:=methodKind
 have mE:=methodElem
 have mI:=methodImplements
 have k27:=kindFE
 have k25:=kindE
 have e27:=elemFE
 have i25:=implementsE
 have n8:=isNilFE ⟨w.heap.size,0,none⟩ t ((w.alloc (.cells #[.pointer (some t)] 192)).alloc (.cells #[.pointer (some ⟨5,192,none⟩),.pointer (some ⟨w.heap.size,0,none⟩),.int .u64 150] 200)) (by simp)
 have hlt:0<w.heap.size:=by
  rcases Nat.eq_zero_or_pos w.heap.size with h0|h
  ·simp[World.cell?,h0] at hg
  ·exact h
 have hg2:((w.alloc (.cells #[.pointer (some t)] 192)).alloc (.cells #[.pointer (some ⟨5,192,none⟩),.pointer (some ⟨w.heap.size,0,none⟩),.int .u64 150] 200)).cell? ⟨0,0,none⟩=some (.iface 235 (.agg #[.pointer (some ⟨5,77,none⟩)])):=by
  rw[World.cell?_alloc_lt _ _ ⟨0,0,none⟩ (by simp),World.cell?_alloc_lt _ _ ⟨0,0,none⟩ hlt]; exact hg
 have htl:t.block<w.heap.size:=by
  rcases Nat.lt_or_ge t.block w.heap.size with h|h
  ·exact h
  ·simp[World.cell?,Array.getElem?_eq_none h] at ht0
 have el:=elemVFE ⟨w.heap.size,0,none⟩ t (((w.alloc (.cells #[.pointer (some t)] 192)).alloc (.cells #[.pointer (some ⟨5,192,none⟩),.pointer (some ⟨w.heap.size,0,none⟩),.int .u64 150] 200)).alloc (.cells #[.pointer (some ⟨5,192,none⟩),.pointer (some ⟨w.heap.size,0,none⟩),.int .u64 150] 200)) (by rw[World.cell?_alloc_lt _ _ ⟨w.heap.size,0,none⟩ (by simp; omega)]; simp)
 have st:=setE t ⟨w.heap.size+1+1+1,0,none⟩ n old (asEBefore n t w)
  (by unfold asEBefore; rw[World.cell?_alloc_at _ _ _ _ (by simp)]; rfl)
  (by unfold asEBefore; rw[World.cell?_alloc_lt _ _ t (by simp; omega),World.cell?_alloc_lt _ _ t (by simp; omega),World.cell?_alloc_lt _ _ t (by simp; omega),World.cell?_alloc_lt _ _ t htl]; exact ht0)
  (by unfold asEBefore; rw[World.frozen?_alloc_old _ _ t (by simp; omega),World.frozen?_alloc_old _ _ t (by simp; omega),World.frozen?_alloc_old _ _ t (by simp; omega),World.frozen?_alloc_old _ _ t (Nat.ne_of_lt htl)]; exact hf0)
 unfold asEBefore at st ⊢
 go_enter Tryz.func70,Tryz.ntmps70
 go_wp2
 refine wp_loop_rounds 1 ?_
 rw[rounds_succ]
 go_wp2
 go_ret
 exact⟨rfl,rfl⟩
abbrev tFE:TypeId:=192
end Go.Proofs.YtdhhaipppjgicaaGreatDoorPe.Patx.Errs
set_option maxRecDepth 100000
set_option linter.unusedVariables false
namespace Go.Proofs.YtdhhaipppjgicaaGreatDoorPe.Patx.Get
open Go Go.Proofs Go.RowKit Go.Shelf
attribute [local go_sem] Oper.semAt_some
def upto {α : Type} (f:Nat -> α) (k:Nat):List α := (List.range k).map f
theorem upto_succ {α : Type} (f:Nat -> α) (k:Nat):upto f (k+1)=upto f k++[f k]:=by simp[upto,List.range_succ]
theorem upto_length {α : Type} (f:Nat -> α) (k:Nat):(upto f k).length=k:=by simp[upto]
set_option maxHeartbeats 2000000 in
theorem back1_in (F:Fence) (n:Nat) (h7:F.fn 119) (hro:F.round=none) (hn:1<=n) (l Bs n₀ b off len cap:Nat) (f:Nat->Nat->Value) (hreach:len*8<=140737488351232) (hb:b<n₀) (J Jx:List Nat->World->Prop)
  (hY : ∀ (pre:List Nat) (x:Nat) (W:World),J pre W->pre.length<len->YieldAt F (n-1) Tryz.prog l #[.int .i64 (x:Int),.agg #[f x 0,f x 1,f x 2,f x 3]] W fun e W' =>
   (e = .returned (.bool true)/\J (pre++[x]) W'/\Below n₀ W W')\/(e = .returned (.bool false)/\Jx (pre++[x]) W'))
  (W:World) (hBs:W.cell? ⟨Bs,0,none⟩=some (.slice (some ⟨b,off,none⟩) len cap)) (hBn:Bs<n₀) (hc : ∀ j q,j<len->q<4->W.cell? ⟨b,off+(j*4+q),none⟩=some (f j q)) (h0:J [] W) :
  CallsIn F n Tryz.prog 119 #[.func (.yield l) #[] #[],.pointer (some ⟨Bs,0,none⟩)] W fun e W'=>(∃ v,e = .returned v) /\
   ((∃ ys,ys=upto (fun j=>len-1-j) len/\J ys W')\/(∃ pre,(∃ k,k<=len/\pre=upto (fun j=>len-1-j) k)/\Jx pre W')):=by
 refine callsIn_of_wp Tryz.func119 rfl h7 ?_ hro
 simp only[Tryz.ntmps119,List.size_toArray,List.length_cons,List.length_nil,Nat.reduceAdd,Nat.reduceSub,Array.replicate_succ,Array.replicate_zero,List.push_toArray,List.append_toArray,List.nil_append,List.cons_append]
 gi_wp2
 gi_loopw [3] (fun i wr => ∃ m:Nat,m<=len/\i = .int .i64 ((m:Int)-1)/\J (upto (fun j=>len-1-j) (len-m)) wr/\Below n₀ W wr)
  (fun i _=>(intOf i+1).toNat)
 case atStart=>exact⟨len,Nat.le_refl _,rfl,by rw[Nat.sub_self]; exact h0,Below.refl _ _⟩
 case round =>
  obtain⟨m,hm,rfl,hJs,hnx⟩:=hrel
  cases m with
  |zero =>
   gi_wp2
   go_end0
   exact⟨⟨_,rfl⟩,.inl ⟨_,rfl,hJs⟩⟩
  |succ j =>
   have hB':wr.cell? ⟨Bs,0,none⟩=some (.slice (some ⟨b,off,none⟩) len cap):=(hnx.cell (p:=⟨Bs,0,none⟩) hBn).trans hBs
   have c0:wr.cell? ⟨b,off+j*4,none⟩=some (f j 0):=by
    have:=(hnx.cell (p:=⟨b,off+(j*4+0),none⟩) hb).trans (hc j 0 (by omega) (by omega))
    exact this
   have c1:wr.cell? ⟨b,off+j*4+1,none⟩=some (f j 1):=by
    have:=(hnx.cell (p:=⟨b,off+(j*4+1),none⟩) hb).trans (hc j 1 (by omega) (by omega))
    rw[Nat.add_assoc]; exact this
   have c2:wr.cell? ⟨b,off+j*4+2,none⟩=some (f j 2):=by
    have:=(hnx.cell (p:=⟨b,off+(j*4+2),none⟩) hb).trans (hc j 2 (by omega) (by omega))
    rw[Nat.add_assoc]; exact this
   have c3:wr.cell? ⟨b,off+j*4+3,none⟩=some (f j 3):=by
    have:=(hnx.cell (p:=⟨b,off+(j*4+3),none⟩) hb).trans (hc j 3 (by omega) (by omega))
    rw[Nat.add_assoc]; exact this
   obtain⟨fn,tmps,assign,body,hy,hR⟩:=hY _ j wr hJs (by rw[upto_length]; omega)
   have e1:((j+1:Nat):Int)-1=(j:Int):=by omega
   simp only[e1]
   gi_wp2
   have e2:upto (fun j=>len-1-j) (len-(j+1))++[j]=upto (fun j=>len-1-j) (len-j):=by
    rw[show len-j=len-(j+1)+1 by omega,upto_succ,show len-1-(len-(j+1))=j by omega]
   rw[e2] at hR
   refine hR.mono ?_
   rintro e W3 (⟨rfl,hJ3,hk3⟩|⟨rfl,hJx3⟩)
   ·gi_wp2
    go_roundw
    case rel=>exact⟨j,by omega,by simp,hJ3,hnx.trans hk3⟩
    case measure=>simp[intOf]; try omega
   ·gi_wp2
    refine bodyPost_ret (results_none rfl _ _ _) rfl ?_
    exact⟨⟨_,rfl⟩,.inr ⟨_,⟨len-j,by omega,rfl⟩,hJx3⟩⟩
set_option maxHeartbeats 1000000 in
theorem back1_nil_in (F:Fence) (n:Nat) (h7:F.fn 119) (hro:F.round=none) (l Bs:Nat) (J:List Nat->World->Prop) (W:World) (a:Option Addr) (cap:Nat) (hBs:W.cell? ⟨Bs,0,none⟩=some (.slice a 0 cap)) (h0:J [] W) :
  CallsIn F n Tryz.prog 119 #[.func (.yield l) #[] #[],.pointer (some ⟨Bs,0,none⟩)] W fun e W'=>(∃ v,e = .returned v)/\J [] W':=by
 refine callsIn_of_wp Tryz.func119 rfl h7 ?_ hro
 simp only[Tryz.ntmps119,List.size_toArray,List.length_cons,List.length_nil,Nat.reduceAdd,Nat.reduceSub,Array.replicate_succ,Array.replicate_zero,List.push_toArray,List.append_toArray,List.nil_append,List.cons_append]
 gi_wp2
 gi_loopw [3] (fun i wr=>i = .int .i64 (-1)/\J [] wr) (fun _ _=>0)
 case atStart=>exact⟨rfl,h0⟩
 case round =>
  obtain⟨rfl,hJs⟩:=hrel
  gi_wp2
  go_end0
  exact⟨⟨_,rfl⟩,hJs⟩
set_option maxHeartbeats 1000000 in
theorem back_in (F:Fence) (n:Nat) (h5:F.fn 85) (hro:F.round=none) (a:Option Addr) (len cap:Nat) (w:World) :
  CallsIn F n Tryz.prog 85 #[.slice a len cap] w fun e w'=>e = .returned (.func (.func 119) #[] #[.pointer (some ⟨w.heap.size,0,none⟩)])/\w'=w.alloc (.cells #[.slice a len cap] 26):=by
 refine callsIn_of_wp Tryz.func85 rfl h5 ?_ hro
 simp only[Tryz.ntmps85,List.size_toArray,List.length_cons,List.length_nil,Nat.reduceAdd,Nat.reduceSub,Array.replicate_succ,Array.replicate_zero,List.push_toArray,List.append_toArray,List.nil_append,List.cons_append]
 gi_wp2
 go_ret
 exact⟨rfl,rfl⟩
def Binds (n₀ : Nat) (W:World) (sv:Value) (len:Nat) (f:Nat->Nat->Value):Prop :=
 ((∃ a cap,sv = .slice a 0 cap)/\len=0) \/ ∃ b off cap,sv = .slice (some ⟨b,off,none⟩) len cap/\b<n₀ /\ ∀ j q,j<len->q<4->W.cell? ⟨b,off+(j*4+q),none⟩=some (f j q)
theorem Binds.below {n₀ : Nat} {A B:World} (h:Below n₀ A B) {sv:Value} {len:Nat} {f:Nat->Nat->Value}:Binds n₀ A sv len f->Binds n₀ B sv len f
 |.inl e=>.inl e
 |.inr ⟨b,off,cap,e,hb,hc⟩=>.inr ⟨b,off,cap,e,hb,fun j q hj hq=>(h.cell (p:=⟨b,off+(j*4+q),none⟩) hb).trans (hc j q hj hq)⟩
theorem back_stops (F:Fence) (n:Nat) (h7:F.fn 119) (hro:F.round=none) (hn:1<=n) (Bs n₀ : Nat) (sv:Value) (len:Nat) (f:Nat->Nat->Value) (hreach:len*8<=140737488351232) (w:World) (hBs:Bs<w.heap.size) (hBn:Bs<n₀) (hn₀ : n₀ <= w.heap.size)
  (hc:w.cell? ⟨Bs,0,none⟩=some sv) (hI:Binds n₀ w sv len f) :
  SeqStopsK F n Tryz.prog 119 #[.pointer (some ⟨Bs,0,none⟩)] (fun x:Nat => #[Value.int .i64 (x:Int),.agg #[f x 0,f x 1,f x 2,f x 3]]) (Below n₀) (fun ys=>ys=upto (fun j=>len-1-j) len)
   (fun pre => ∃ k,k<=len/\pre=upto (fun j=>len-1-j) k) len w:=fun l J Jx W hW _ _ hY h0=>by
 have hc':=(hW.cell (p:=⟨Bs,0,none⟩) hBs).trans hc
 rcases hI.below (hW.mono hn₀) with ⟨⟨a,cap,rfl⟩,rfl⟩|⟨b,off,cap,rfl,hb,hcs⟩
 ·exact (back1_nil_in F n h7 hro l Bs J W a cap hc' h0).mono fun e W' ⟨he,hj⟩=>⟨he,.inl ⟨_,rfl,hj⟩⟩
 ·exact back1_in F n h7 hro hn l Bs n₀ b off len cap f hreach hb J Jx hY W hc' hBn hcs h0
end Go.Proofs.YtdhhaipppjgicaaGreatDoorPe.Patx.Get
set_option maxRecDepth 100000
set_option linter.unusedVariables false
namespace Go.Proofs.YtdhhaipppjgicaaGreatDoorPe.Patx.Get
open Go Go.Proofs Go.RowKit Go.Shelf
attribute [local go_sem] Oper.semAt_some
theorem set_blk {W:World} {B:Nat} {vs:Array Value} {t:TypeId} {o:Nat} {v:Value} (h:W.heap[B]? = some (.cells vs t (0,0))):(W.setCell ⟨B,o,none⟩ v).heap[B]? = some (.cells (vs.setIfInBounds o v) t (0,0)):=by
 obtain⟨hlt,hk⟩:=Array.getElem?_eq_some_iff.1 h
 show (W.heap.modify B _)[B]? = _
 rw[Array.getElem?_eq_getElem (by rw[Array.size_modify]; exact hlt),Array.getElem_modify_self,hk]
 rfl
theorem set_other {W:World} {B B':Nat} {o:Nat} {v:Value} (hne:B≠B'):(W.setCell ⟨B',o,none⟩ v).heap[B]? = W.heap[B]? := Below.heap_setCell _ _ _ B hne
theorem set_both {W:World} {B:Nat} {x0 x1 x2 x3 y0 y1 y2 y3:Value} {t u:TypeId} (h:W.heap[B]? = some (.cells #[x0,x1,x2] t (0,0))) (k:Boxed W (B+1) u x3) :
  ((((W.setCell ⟨B,0,none⟩ y0).setCell ⟨B,1,none⟩ y1).setCell ⟨B,2,none⟩ y2).setCell ⟨B+1,0,none⟩ y3).heap[B]? = some (.cells #[y0,y1,y2] t (0,0)) /\
  Boxed ((((W.setCell ⟨B,0,none⟩ y0).setCell ⟨B,1,none⟩ y1).setCell ⟨B,2,none⟩ y2).setCell ⟨B+1,0,none⟩ y3) (B+1) u y3:=by
 refine⟨?_,?_⟩
 ·rw[set_other (by omega)]
  have:=set_blk (o:=2) (v:=y2) (set_blk (o:=1) (v:=y1) (set_blk (o:=0) (v:=y0) h))
  simpa using this
 ·refine Boxed.set (v:=x3) _ ?_
  unfold Boxed at k ⊢
  rw[set_other (by omega),set_other (by omega),set_other (by omega)]
  exact k
theorem others4 (W:World) (B C:Nat) (y0 y1 y2 y3:Value):KeepsOthers W ((((W.setCell ⟨B,0,none⟩ y0).setCell ⟨B,1,none⟩ y1).setCell ⟨B,2,none⟩ y2).setCell ⟨C,0,none⟩ y3) :=
 (((KeepsOthers.setCell _ _ _).trans (KeepsOthers.setCell _ _ _)).trans (KeepsOthers.setCell _ _ _)).trans (KeepsOthers.setCell _ _ _)
theorem below4 {n₀ : Nat} {A W:World} (h:Below n₀ A W) {B C:Nat} (hB:n₀ <= B) (hC:n₀ <= C) (y0 y1 y2 y3:Value):Below n₀ A ((((W.setCell ⟨B,0,none⟩ y0).setCell ⟨B,1,none⟩ y1).setCell ⟨B,2,none⟩ y2).setCell ⟨C,0,none⟩ y3) :=
 (((h.setCell (p:=⟨B,0,none⟩) hB _).setCell (p:=⟨B,1,none⟩) hB _).setCell (p:=⟨B,2,none⟩) hB _).setCell (p:=⟨C,0,none⟩) hC _
theorem cell_at {W:World} {B o:Nat} {vs:Array Value} {t:TypeId} {v:Value} (h:W.heap[B]? = some (.cells vs t (0,0))) (hv:vs[o]? = some v):W.cell? ⟨B,o,none⟩=some v:=by simp[World.cell?,h,hv]
def fv (nm:Nat->List UInt8) (ks is_:Nat->Int) (ss:Nat->List UInt8) (j:Nat):Nat->Value
 |0=>.string ⟨⟨nm j⟩⟩
 |1=>.int .i64 (ks j)
 |2=>.int .i64 (is_ j)
 |_=>.string ⟨⟨ss j⟩⟩
theorem fv0 (nm:Nat->List UInt8) (ks is_:Nat->Int) (ss:Nat->List UInt8) (j:Nat):fv nm ks is_ ss j 0 = .string ⟨⟨nm j⟩⟩:=rfl
theorem fv1 (nm:Nat->List UInt8) (ks is_:Nat->Int) (ss:Nat->List UInt8) (j:Nat):fv nm ks is_ ss j 1 = .int .i64 (ks j):=rfl
theorem fv2 (nm:Nat->List UInt8) (ks is_:Nat->Int) (ss:Nat->List UInt8) (j:Nat):fv nm ks is_ ss j 2 = .int .i64 (is_ j):=rfl
theorem fv3 (nm:Nat->List UInt8) (ks is_:Nat->Int) (ss:Nat->List UInt8) (j:Nat):fv nm ks is_ ss j 3 = .string ⟨⟨ss j⟩⟩:=rfl
set_option maxHeartbeats 2000000 in
theorem get_in (F:Fence) (n:Nat) (h3:F.fn 50) (h4:F.fn 85) (h5:F.fn 119) (hro:F.round=none) (hn:3<=n) (a:Option Addr) (len cap:Nat) (nm:Nat->List UInt8) (ks is_:Nat->Int) (ss:Nat->List UInt8) (name:List UInt8)
  (hreach:len*8<=140737488351232) (w:World) (hI:Binds w.heap.size w (.slice a len cap) len (fv nm ks is_ ss)) :
  CallsIn F n Tryz.prog 50 #[.slice a len cap,.string ⟨⟨name⟩⟩] w fun e W' =>
   ((e = .returned (.tuple #[.agg #[.int .i64 0,.int .i64 0,.string ⟨⟨[]⟩⟩],.bool false]) /\ ∀ j,j<len->nm j≠name) \/
    (∃ k,k<len/\e = .returned (.tuple #[.agg #[.int .i64 (ks k),.int .i64 (is_ k),.string ⟨⟨ss k⟩⟩],.bool true])/\nm k=name /\ ∀ j,k<j->j<len->nm j≠name))/\Below w.heap.size w W':=by
 have h1:1<=n:=by omega
 refine callsIn_of_wp_marks Tryz.func50 rfl h3 ?_ hro
 simp only[Tryz.ntmps50,List.size_toArray,List.length_cons,List.length_nil,Nat.reduceAdd,Nat.reduceSub,Array.replicate_succ,Array.replicate_zero,List.push_toArray,List.append_toArray,List.nil_append,List.cons_append]
 gi_wp2_with (gi_at_call 85; refine (back_in F (n-1) h4 hro _ _ _ _).mono ?_; rintro e w' ⟨rfl,rfl⟩)
 have bB:=(((Boxed.new w 9 (.string ⟨⟨name⟩⟩)).alloc (.cells #[.int .i64 0,.int .i64 0,.string ⟨#[]⟩] 31)).alloc (.cells #[.bool false] 4)).alloc (.cells #[.slice a len cap] 26)
 have bV:((((w.alloc (.cells #[.string ⟨⟨name⟩⟩] 9)).alloc (.cells #[.int .i64 0,.int .i64 0,.string ⟨#[]⟩] 31)).alloc (.cells #[.bool false] 4)).alloc (.cells #[.slice a len cap] 26)).heap[w.heap.size+1]? = some (.cells #[.int .i64 0,.int .i64 0,.string ⟨#[]⟩] 31 (0,0)):=by
  rw[Below.heap_alloc _ _ _ (by simp),Below.heap_alloc _ _ _ (by simp)]
  have:=World.alloc_heap_new (w.alloc (.cells #[.string ⟨⟨name⟩⟩] 9)) (.cells #[.int .i64 0,.int .i64 0,.string ⟨#[]⟩] 31)
  rwa [World.size_alloc] at this
 have bO:=(Boxed.new ((w.alloc (.cells #[.string ⟨⟨name⟩⟩] 9)).alloc (.cells #[.int .i64 0,.int .i64 0,.string ⟨#[]⟩] 31)) 4 (.bool false)).alloc (.cells #[.slice a len cap] 26)
 have bS:=Boxed.new (((w.alloc (.cells #[.string ⟨⟨name⟩⟩] 9)).alloc (.cells #[.int .i64 0,.int .i64 0,.string ⟨#[]⟩] 31)).alloc (.cells #[.bool false] 4)) 26 (.slice a len cap)
 simp only[World.size_alloc] at bO bS
 have hB0:Below w.heap.size w ((((w.alloc (.cells #[.string ⟨⟨name⟩⟩] 9)).alloc (.cells #[.int .i64 0,.int .i64 0,.string ⟨#[]⟩] 31)).alloc (.cells #[.bool false] 4)).alloc (.cells #[.slice a len cap] 26)):=((((Below.refl _ w).alloc (Nat.le_refl _) _).alloc (by simp) _).alloc (by simp; omega) _).alloc (by simp; omega) _
 have hsz:((((w.alloc (.cells #[.string ⟨⟨name⟩⟩] 9)).alloc (.cells #[.int .i64 0,.int .i64 0,.string ⟨#[]⟩] 31)).alloc (.cells #[.bool false] 4)).alloc (.cells #[.slice a len cap] 26)).heap.size=w.heap.size+4:=by simp
 obtain⟨W0,hW0⟩ : ∃ W0,(((w.alloc (.cells #[.string ⟨⟨name⟩⟩] 9)).alloc (.cells #[.int .i64 0,.int .i64 0,.string ⟨#[]⟩] 31)).alloc (.cells #[.bool false] 4)).alloc (.cells #[.slice a len cap] 26)=W0:=⟨_,rfl⟩
 rw[hW0] at bB bV bO bS hB0 hsz ⊢
 clear hW0
 have hI0:Binds (w.heap.size+4) W0 (.slice a len cap) len (fv nm ks is_ ss):=by
  rcases hI.below hB0 with h|⟨b,off,cap,e,hb,hc⟩
  ·exact .inl h
  ·exact .inr ⟨b,off,cap,e,by omega,hc⟩
 refine wpIn_rangeFunc_ownH hro h1 (gf:=119) (lb := #[.pointer (some ⟨w.heap.size+1+1+1,0,none⟩)]) rfl h5 (enters_of Tryz.func119 (by kernel_rfl) rfl)
  (back_stops F (n-1) h5 hro (by omega) (w.heap.size+1+1+1) (w.heap.size+4) _ len (fv nm ks is_ ss) hreach W0 (by omega) (by omega) (by omega) bS.cell hI0) belowK_t (belowK_b (by omega)) (Below.refl _ _) (fun _=>rfl)
  (fun pre W=>((∀ x∈pre,nm x≠name)/\Boxed W w.heap.size 9 (.string ⟨⟨name⟩⟩))/\Below (w.heap.size+4) W0 W)
  (fun c pre W=>((c = .ret /\ ∃ ini last,pre=ini++[last]/\(∀ x∈ini,nm x≠name)/\nm last=name/\W.heap[w.heap.size+1]? = some (.cells #[.int .i64 (ks last),.int .i64 (is_ last),.string ⟨⟨ss last⟩⟩] 31 (0,0)))/\Boxed W (w.heap.size+1+1) 4 (.bool true))/\Below w.heap.size w W)
  (OwnFrom.and (OwnFrom.and (ownFrom_pure _ _) (Own.from (boxed_own _ _ _) _)) (ownFrom_below (by omega) (by omega)))
  (fun c=>OwnFrom.and (OwnFrom.and (fun s X Y row hs hg hr=>by
   obtain⟨e0,ini,last,e1,e2,e3,e4⟩:=hs
   exact⟨e0,ini,last,e1,e2,e3,(grownBy_keeps_cells hg (fun r e=>(hr r e).2) e4 rfl).trans e4⟩) (Own.from (boxed_own _ _ _) _)) (ownFrom_below (Nat.le_refl _) (by omega)))
  ⟨⟨by simp,bB⟩,Below.refl _ _⟩
  (fun x a' W => ∃ Bx,w.heap.size+3<Bx/\W.heap[Bx]? = some (.cells #[.string ⟨⟨nm x⟩⟩,.int .i64 (ks x),.int .i64 (is_ x),.string ⟨⟨ss x⟩⟩] 69 (0,0))/\a'={ tmps := #[.slice a len cap,.string ⟨⟨name⟩⟩,undef,.pointer (some ⟨w.heap.size,0,none⟩),.pointer (some ⟨w.heap.size+1,0,none⟩),.pointer (some ⟨w.heap.size+1+1,0,none⟩),undef,.pointer (some ⟨Bx,0,none⟩),.slice a len cap,.func (.func 119) #[] #[.pointer (some ⟨w.heap.size+1+1+1,0,none⟩)],.int .i64 (x:Int),.agg #[.string ⟨⟨nm x⟩⟩,.int .i64 (ks x),.int .i64 (is_ x),.string ⟨⟨ss x⟩⟩],undef,undef,undef,undef,undef,undef,undef],defers:=[] })
  (fun x a' _ X Y row hs hg hr=>by obtain⟨Bx,e1,e2,e3⟩:=hs; exact⟨Bx,e1,(grownBy_keeps_cells hg (fun r e=>(hr r e).2) e2 rfl).trans e2,e3⟩)
  ?assign ?body ?done ?stop
 case assign =>
  rintro l pre x W K ⟨⟨hp,bB1⟩,hB1⟩ hK
  have hle:w.heap.size+4<=W.heap.size:=by have:=hB1.size; omega
  simp only[fv0,fv1,fv2,fv3]
  gi_wp2
  exact hK _ _ ((KeepsOthers.alloc _ _).from _) ((Below.refl _ W).alloc hle _) ⟨⟨hp,bB1.alloc _⟩,hB1.alloc hle _⟩ ⟨W.heap.size,by omega,World.alloc_heap_new W _,rfl⟩
 case body =>
  rintro l pre x a' W hl ⟨r,hr⟩ ⟨⟨hp,bB1⟩,hB1⟩ ⟨Bx,hBx,bX,rfl⟩ hlt
  have cB:=bB1.cell
  have c0:W.cell? ⟨Bx,0,none⟩=some (.string ⟨⟨nm x⟩⟩):=by simp[World.cell?,bX]
  have c1:W.cell? ⟨Bx,1,none⟩=some (.int .i64 (ks x)):=by simp[World.cell?,bX]
  have c2:W.cell? ⟨Bx,1+1,none⟩=some (.int .i64 (is_ x)):=by simp[World.cell?,bX]
  have c3:W.cell? ⟨Bx,1+2,none⟩=some (.string ⟨⟨ss x⟩⟩):=by simp[World.cell?,bX]
  have bV1:=(hB1.block (w.heap.size+1) (by omega)).trans bV
  have v0:W.cell? ⟨w.heap.size+1,0,none⟩=some (.int .i64 0):=by simp[World.cell?,bV1]
  have v1:W.cell? ⟨w.heap.size+1,1,none⟩=some (.int .i64 0):=by simp[World.cell?,bV1]
  have v2:W.cell? ⟨w.heap.size+1,2,none⟩=some (.string ⟨#[]⟩):=by simp[World.cell?,bV1]
  have z0:W.frozen? ⟨w.heap.size+1,0,none⟩=false:=by simp[World.frozen?,bV1]
  have z1:W.frozen? ⟨w.heap.size+1,1,none⟩=false:=by simp[World.frozen?,bV1]
  have z2:W.frozen? ⟨w.heap.size+1,2,none⟩=false:=by simp[World.frozen?,bV1]
  have bO1:Boxed W (w.heap.size+1+1) 4 (.bool false):=(hB1.block (w.heap.size+1+1) (by omega)).trans bO
  have cO:=bO1.cell
  have zO:=bO1.frozen
  gi_wp2
  ·rename_i hxy
   have hxy:nm x=name:=eq_of_beq hxy
   obtain⟨q1,q2⟩:=set_both (y0:=.int .i64 (ks x)) (y1:=.int .i64 (is_ x)) (y2:=.string ⟨⟨ss x⟩⟩) (y3:=.bool true) bV1 bO1
   exact⟨(others4 _ _ _ _ _ _ _).from _,⟨⟨rfl,pre,x,rfl,hp,hxy,q1⟩,q2⟩,below4 (hB0.trans (hB1.mono (by omega))) (by omega) (by omega) _ _ _ _⟩
  ·rename_i hxy
   exact⟨KeepsFrom.refl _ _,Below.refl _ _,⟨fun z hz=>(List.mem_append.1 hz).elim (hp z) (fun e=>by simp at e; subst e; simpa using hxy),bB1⟩,hB1⟩
 case done =>
  rintro D zs W hD rfl ⟨⟨hp,bB1⟩,hB1⟩ hK
  have bV1:=(hB1.block (w.heap.size+1) (by omega)).trans bV
  have v0:W.cell? ⟨w.heap.size+1,0,none⟩=some (.int .i64 0):=by simp[World.cell?,bV1]
  have v1:W.cell? ⟨w.heap.size+1,1,none⟩=some (.int .i64 0):=by simp[World.cell?,bV1]
  have v2:W.cell? ⟨w.heap.size+1,2,none⟩=some (.string ⟨#[]⟩):=by simp[World.cell?,bV1]
  have z0:W.frozen? ⟨w.heap.size+1,0,none⟩=false:=by simp[World.frozen?,bV1]
  have z1:W.frozen? ⟨w.heap.size+1,1,none⟩=false:=by simp[World.frozen?,bV1]
  have z2:W.frozen? ⟨w.heap.size+1,2,none⟩=false:=by simp[World.frozen?,bV1]
  have bO1:Boxed W (w.heap.size+1+1) 4 (.bool false):=(hB1.block (w.heap.size+1+1) (by omega)).trans bO
  have cO:=bO1.cell
  have zO:=bO1.frozen
  gi_wp2
  obtain⟨q1,q2⟩:=set_both (y0:=.int .i64 0) (y1:=.int .i64 0) (y2:=.string ⟨#[]⟩) (y3:=.bool false) bV1 bO1
  have hK':=(others4 W (w.heap.size+1) (w.heap.size+1+1) (.int .i64 0) (.int .i64 0) (.string ⟨#[]⟩) (.bool false)).same D _ hK rfl
  refine⟨by simp,.inl ⟨_,_,rfl,run_takeDeferred hK',?_⟩⟩
  have g1:=(grownBy_keeps_cells (grownBy_putObj' _ D (.deferred none)) (fun r e=>by cases e; exact⟨_,hK',rfl⟩) q1 rfl).trans q1
  have g2:=(grownBy_keeps_cells (grownBy_putObj' _ D (.deferred none)) (fun r e=>by cases e; exact⟨_,hK',rfl⟩) q2 rfl).trans q2
  have d0:=cell_at (o:=0) g1 rfl
  have d1:=cell_at (o:=1) g1 rfl
  have d2:=cell_at (o:=2) g1 rfl
  have d3:=cell_at (o:=0) g2 rfl
  refine⟨.tuple #[.agg #[.int .i64 0,.int .i64 0,.string ⟨#[]⟩],.bool false],?_,.inl ⟨rfl,fun j hj=>hp j (by simp only[upto,List.mem_map,List.mem_range]; exact⟨len-1-j,by omega,by omega⟩)⟩,
   (below4 (hB0.trans (hB1.mono (by omega))) (by omega) (by omega) _ _ _ _).trans (belowK_b (w:=w) (Nat.le_refl _) _ D _ _ (by omega) hK' rfl rfl)⟩
  simp[results,Tryz.f50,go_sem,d0,d1,d2,d3]
 case stop =>
  rintro D c pre W hD ⟨k,hk,rfl⟩ ⟨⟨⟨rfl,ini,last,e1,e2,e3,q1⟩,q2⟩,hB1⟩ hK
  gi_wp2
  refine⟨by simp,.inl ⟨_,_,rfl,run_takeDeferred hK,?_⟩⟩
  have g1:=(grownBy_keeps_cells (grownBy_putObj' _ D (.deferred none)) (fun r e=>by cases e; exact⟨_,hK,rfl⟩) q1 rfl).trans q1
  have g2:=(grownBy_keeps_cells (grownBy_putObj' _ D (.deferred none)) (fun r e=>by cases e; exact⟨_,hK,rfl⟩) q2 rfl).trans q2
  have d0:=cell_at (o:=0) g1 rfl
  have d1:=cell_at (o:=1) g1 rfl
  have d2:=cell_at (o:=2) g1 rfl
  have d3:=cell_at (o:=0) g2 rfl
  obtain⟨k',rfl⟩ : ∃ k',k=k'+1:=by
   cases k with
   |zero=>simp[upto] at e1
   |succ k'=>exact⟨k',rfl⟩
  rw[upto_succ] at e1
  obtain⟨rfl,e5⟩:=List.append_inj' e1 rfl
  obtain rfl:len-1-k'=last:=by simpa using e5
  refine⟨.tuple #[.agg #[.int .i64 (ks (len-1-k')),.int .i64 (is_ (len-1-k')),.string ⟨⟨ss (len-1-k')⟩⟩],.bool true],?_,.inr ⟨len-1-k',by omega,rfl,e3,fun j hj hl=>e2 j (by simp only[upto,List.mem_map,List.mem_range]; exact⟨len-1-j,by omega,by omega⟩)⟩,
   hB1.trans (belowK_b (w:=w) (Nat.le_refl _) W D _ _ (by omega) hK rfl rfl)⟩
  simp[results,Tryz.f50,go_sem,d0,d1,d2,d3]
end Go.Proofs.YtdhhaipppjgicaaGreatDoorPe.Patx.Get
set_option maxRecDepth 100000
set_option linter.unusedVariables false
namespace Go.Proofs.YtdhhaipppjgicaaGreatDoorPe.Patx.Get
open Go Go.Proofs Go.Proofs.YtdhhaipppjgicaaGreatDoorPe Go.Proofs.YtdhhaipppjgicaaGreatDoorPe.PatxCode
abbrev Bd:=List UInt8 × Int × Int × List UInt8
def bdP (b:Bd):PV:=.agg [.str b.1,.int .i64 b.2.1,.int .i64 b.2.2.1,.str b.2.2.2]
def bdV (b:Bd):PV:=.agg [.int .i64 b.2.1,.int .i64 b.2.2.1,.str b.2.2.2]
def bindsOf:List PV->Option (List Bd)
 |[]=>some []
 |.agg [.str n,.int .i64 k,.int .i64 i,.str s]::l=>match bindsOf l with
  |some r=>some ((n,k,i,s)::r)
  |none=>none
 |_=>none
def getM (name:List UInt8):List Bd->Option Bd
 |[]=>none
 |b::l=>match getM name l with
  |some c=>some c
  |none=>if b.1=name then some b else none
def getR:Option Bd->PV
 |some b=>.tuple [bdV b,.bool true]
 |none=>.tuple [.agg [.int .i64 0,.int .i64 0,.str []],.bool false]
def getG:List PV->Option PV
 |[.lst l,.str name]=>match bindsOf l with
  |some bs=>if bs.length<=17592186043904 then some (getR (getM name bs)) else none
  |none=>none
 |[.nils,.str name]=>some (getR none)
 |[.emp,.str name]=>some (getR none)
 |[.emc,.str name]=>some (getR none)
 |_=>none
theorem bindsOf_eq : ∀ {l:List PV} {bs:List Bd},bindsOf l=some bs->l=bs.map bdP
 |[],bs,h=>by cases h; rfl
 |x::l,bs,h=>by
  unfold bindsOf at h
  split at h
  ·rename_i e; cases e
  ·rename_i n k i s l' e
   cases e
   split at h
   ·rename_i r hr
    cases h
    rw[List.map_cons,<- bindsOf_eq hr]
    rfl
   ·cases h
  ·cases h
theorem getM_none {name:List UInt8} : ∀ {bs:List Bd},(∀ b∈bs,b.1≠name)->getM name bs=none
 |[],_=>rfl
 |b::l,h=>by
  unfold getM
  rw[getM_none (fun c hc=>h c (List.mem_cons_of_mem _ hc))]
  simp only
  rw[if_neg (h b (by simp))]
theorem getM_some {name:List UInt8} : ∀ {bs:List Bd} {k:Nat} (hk:k<bs.length),bs[k].1=name->(∀ j (h:j<bs.length),k<j->bs[j].1≠name)->getM name bs=some bs[k]
 |[],k,hk,_,_=>absurd hk (Nat.not_lt_zero _)
 |b::l,0,hk,h,hn=>by
  unfold getM
  rw[getM_none (fun c hc=>by
   obtain⟨j,hj,rfl⟩:=List.mem_iff_getElem.1 hc
   exact hn (j+1) (by simpa using hj) (by omega))]
  simp only
  simp only[List.getElem_cons_zero] at h ⊢
  rw[if_pos h]
 |b::l,k+1,hk,h,hn=>by
  unfold getM
  rw[getM_some (bs:=l) (k:=k) (by simpa using hk) (by simpa using h) (fun j hj hkj=>hn (j+1) (Nat.succ_lt_succ hj) (Nat.succ_lt_succ hkj))]
  rfl
theorem invI {F:Fix} {w:World} {v:Value} {k:IntKind} {m:Int} (h:RepD F w (.int k m) v):v = .int k m:=by
 cases h with
 |int=>rfl
 |sl hx=>rcases hx with hx|⟨hx,_⟩ <;> cases hx
theorem invS {F:Fix} {w:World} {v:Value} {s:List UInt8} (h:RepD F w (.str s) v):v = .string ⟨⟨s⟩⟩:=by
 cases h with
 |str=>rfl
 |sl hx=>rcases hx with hx|⟨hx,_⟩ <;> cases hx
theorem invN {F:Fix} {w:World} {v:Value} (h:RepD F w .nils v):v = .slice none 0 0:=by
 cases h with
 |nils=>rfl
 |sl hx=>rcases hx with hx|⟨hx,_⟩ <;> cases hx
theorem two {vs:Array Value} (hs:vs.size=2):vs = #[vs.getD 0 Go.undef,vs.getD 1 Go.undef]:=by
 apply Array.ext
 ·simpa using hs
 ·intro k hk hk'
  match k,hk with
  |0,hk=>simp[hk]
  |1,hk=>simp[hk]
  |k+2,hk=>omega
theorem four {vs:Array Value} (hs:vs.size=4):vs = #[vs.getD 0 Go.undef,vs.getD 1 Go.undef,vs.getD 2 Go.undef,vs.getD 3 Go.undef]:=by
 apply Array.ext
 ·simpa using hs
 ·intro k hk hk'
  match k,hk with
  |0,hk=>simp[hk]
  |1,hk=>simp[hk]
  |2,hk=>simp[hk]
  |3,hk=>simp[hk]
  |k+4,hk=>omega
theorem invB {F:Fix} {w:World} {v:Value} {b:Bd} (h:RepD F w (bdP b) v):v = .agg #[.string ⟨⟨b.1⟩⟩,.int .i64 b.2.1,.int .i64 b.2.2.1,.string ⟨⟨b.2.2.2⟩⟩]:=by
 unfold bdP at h
 cases h with
 |@agg _ ws hl hr =>
  have h0:=hr 0 (by simp)
  have h1:=hr 1 (by simp)
  have h2:=hr 2 (by simp)
  have h3:=hr 3 (by simp)
  simp only[List.getElem_cons_zero,List.getElem_cons_succ] at h0 h1 h2 h3
  rw[four (vs:=ws) (by simpa using hl),invS h0,invI h1,invI h2,invS h3]
 |sl hx=>rcases hx with hx|⟨hx,_⟩ <;> cases hx
theorem rep_tup2 {F:Fix} {w:World} {a b:PV} {u v:Value} (h:RepD F w a u) (k:RepD F w b v):RepD F w (.tuple [a,b]) (.tuple #[u,v]) :=
 .tuple rfl fun j hj=>by
  match j,hj with
  |0,_=>exact h
  |1,_=>exact k
theorem rep_agg3 {F:Fix} {w:World} {a b c:PV} {u v x:Value} (h:RepD F w a u) (k:RepD F w b v) (l:RepD F w c x):RepD F w (.agg [a,b,c]) (.agg #[u,v,x]) :=
 .agg rfl fun j hj=>by
  match j,hj with
  |0,_=>exact h
  |1,_=>exact k
  |2,_=>exact l
theorem get_given {xs:List PV} {r:PV} (hg:getG xs=some r) {w:World} {F:Fix} {vs:Array Value} (hFd : ∀ b o,F b o->b<w.heap.size) (hsz:vs.size=xs.length) (hr : ∀ j (h:j<xs.length),RepD F w (xs[j]) (vs.getD j Go.undef)) :
  Calls Tryz.prog f_eval_Get vs w fun e w' => ∃ v,e = .returned v/\Go.RowKit.Below w.heap.size w w'/\RepD F w' r v:=by
 have run : ∀ (a:Option Addr) (len cap:Nat) (bs:List Bd) (name:List UInt8),len=bs.length->bs.length<=17592186043904 ->
   Binds w.heap.size w (.slice a len cap) len (fv (fun j=>(bs.getD j default).1) (fun j=>(bs.getD j default).2.1) (fun j=>(bs.getD j default).2.2.1) (fun j=>(bs.getD j default).2.2.2)) ->
   Calls Tryz.prog f_eval_Get #[.slice a len cap,.string ⟨⟨name⟩⟩] w fun e w' => ∃ v,e = .returned v/\Go.RowKit.Below w.heap.size w w'/\RepD F w' (getR (getM name bs)) v:=by
  intro a len cap bs name hl hb hI
  refine (callsIn_wide (n:=3)).1 ((get_in Fence.wide 3 trivial trivial trivial rfl (by omega) a len cap _ _ _ _ name (by omega) w hI).mono ?_)
  rintro e w' ⟨⟨rfl,hn⟩|⟨k,hk,rfl,h1,h2⟩,hB⟩
  ·rw[getM_none (fun b hb=>by
    obtain⟨j,hj,rfl⟩:=List.mem_iff_getElem.1 hb
    have:=hn j (by omega)
    rw[List.getD_eq_getElem?_getD,List.getElem?_eq_getElem hj] at this
    exact this)]
   exact⟨_,rfl,hB,rep_tup2 (rep_agg3 (.int _ _) (.int _ _) (.str _)) (.bool _)⟩
  ·have hk':k<bs.length:=by omega
   have e1:bs.getD k default=bs[k]:=by rw[List.getD_eq_getElem?_getD,List.getElem?_eq_getElem hk']; rfl
   rw[getM_some hk' (by rw[e1] at h1; exact h1) (fun j hj hkj=>by
    have:=h2 j hkj (by omega)
    rw[List.getD_eq_getElem?_getD,List.getElem?_eq_getElem hj] at this
    exact this)]
   simp only[e1]
   exact⟨_,rfl,hB,rep_tup2 (rep_agg3 (.int _ _) (.int _ _) (.str _)) (.bool _)⟩
 unfold getG at hg
 split at hg
 ·rename_i l name
  split at hg
  ·rename_i bs hbs
   split at hg
   ·rename_i hn
    cases hg
    obtain rfl:=bindsOf_eq hbs
    have h0:=hr 0 (by simp)
    have h1:=hr 1 (by simp)
    simp only[List.getElem_cons_succ,List.getElem_cons_zero] at h0 h1
    rw[two hsz,invS h1]
    generalize vs.getD 0 Go.undef=v0 at h0
    cases h0 with
    |@sl _ l a cap b o sz us hx hcap ha hsz2 hc hv =>
     rcases hx with hx|⟨hx,_⟩
     ·cases hx
      refine run _ _ _ bs name (by simp) hn ?_
      cases bs with
      |nil=>exact .inl ⟨⟨_,_,rfl⟩,rfl⟩
      |cons b0 bs0 =>
       have hu : ∀ j (h:j<(b0::bs0).length),us j = .agg #[.string ⟨⟨((b0::bs0)[j]).1⟩⟩,.int .i64 ((b0::bs0)[j]).2.1,.int .i64 ((b0::bs0)[j]).2.2.1,.string ⟨⟨((b0::bs0)[j]).2.2.2⟩⟩]:=fun j h=>by
        have:=hv j (by simpa using h)
        rw[List.getElem_map] at this
        exact invB this
       have hs4:sz=4:=by
        rw[<- hsz2 0 (by simp),hu 0 (by simp)]
        rfl
       subst hs4
       have hbk:b<w.heap.size:=hFd _ _ (hc 0 0 (by simp) (by omega)).1
       refine .inr ⟨b,o,cap,by rw[ha.1 (by simp)],hbk,fun j q hj hq => ?_⟩
       have hj':j<(b0::bs0).length:=by simpa using hj
       have h3:=(hc j q (by simpa using hj) hq).2.1
       rw[hu j hj'] at h3
       rw[<- Nat.add_assoc,h3]
       have e1:(b0::bs0).getD j default=(b0::bs0)[j]:=by rw[List.getD_eq_getElem?_getD,List.getElem?_eq_getElem hj']; rfl
       match q,hq with
       |0,_=>simp only[fv,e1]; rfl
       |1,_=>simp only[fv,e1]; rfl
       |2,_=>simp only[fv,e1]; rfl
       |3,_=>simp only[fv,e1]; rfl
     ·cases hx
   ·cases hg
  ·cases hg
 ·rename_i name
  cases hg
  have h0:=hr 0 (by simp)
  have h1:=hr 1 (by simp)
  simp only[List.getElem_cons_succ,List.getElem_cons_zero] at h0 h1
  rw[two hsz,invS h1,invN h0]
  exact run none 0 0 [] name rfl (by simp) (.inl ⟨⟨_,_,rfl⟩,rfl⟩)
 ·rename_i name
  cases hg
  have h0:=hr 0 (by simp)
  have h1:=hr 1 (by simp)
  simp only[List.getElem_cons_succ,List.getElem_cons_zero] at h0 h1
  rw[two hsz,invS h1]
  generalize vs.getD 0 Go.undef=v0 at h0
  cases h0 with
  |emp a=>exact run (some a) 0 0 [] name rfl (by simp) (.inl ⟨⟨_,_,rfl⟩,rfl⟩)
  |sl hx=>rcases hx with hx|⟨hx,_⟩ <;> cases hx
 ·rename_i name
  cases hg
  have h0:=hr 0 (by simp)
  have h1:=hr 1 (by simp)
  simp only[List.getElem_cons_succ,List.getElem_cons_zero] at h0 h1
  rw[two hsz,invS h1]
  generalize vs.getD 0 Go.undef=v0 at h0
  cases h0 with
  |emc a cap=>exact run (some a) 0 cap [] name rfl (by simp) (.inl ⟨⟨_,_,rfl⟩,rfl⟩)
  |sl hx=>rcases hx with hx|⟨hx,_⟩ <;> cases hx
 ·cases hg
end Go.Proofs.YtdhhaipppjgicaaGreatDoorPe.Patx.Get
