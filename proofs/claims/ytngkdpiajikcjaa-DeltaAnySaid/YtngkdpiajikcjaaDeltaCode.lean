/- THE CODES of the functions that the laws reach, told by expressions, and that they are the program's own (made by program: tool/gen.py, tool/code.py). -/
import Derived.Test.YtngkdpiajikcjaaEcRow
import Derived.Test.YtngkdpiajikcjaaProg
import Derived.KernelRfl
set_option maxRecDepth 100000
set_option linter.unusedVariables false
namespace Go.Proofs.YtngkdpiajikcjaaPe.DeltaCode
open Go Go.Proofs.YtngkdpiajikcjaaPe

abbrev f_law18_DeltaAny : Nat := 3
abbrev f_law18_DeltaMerges : Nat := 4
abbrev f_law18_DeltaTurns : Nat := 5
abbrev f_law18_known : Nat := 6
abbrev f_law18_few : Nat := 7
abbrev f_law18_insts : Nat := 8
abbrev f_delta_Diff : Nat := 9
abbrev f_law18_has : Nat := 10
abbrev f_ref15_Compare : Nat := 11
abbrev f_law18_same : Nat := 12
abbrev f_delta_Apply : Nat := 13
abbrev f_delta_Merge : Nat := 14
abbrev f_delta_walk : Nat := 15
abbrev f_delta_Diff_1 : Nat := 16
abbrev f_delta_apart : Nat := 17
abbrev f_delta_Apply_1 : Nat := 18
abbrev f_slices_ContainsFunc_int_int : Nat := 19
abbrev f_delta_Apply_1_1 : Nat := 20
abbrev f_slices_Equal_int_int : Nat := 21
abbrev f_delta_Merge_1 : Nat := 22
abbrev f_slices_Clip_model_Inst_model_Inst : Nat := 23
abbrev f_model_Compare : Nat := 24
abbrev f_slices_Clip_int_int : Nat := 25
abbrev f_slices_Clone_int_int : Nat := 26
abbrev f_slices_Clip_eval_Bind_eval_Bind : Nat := 27
abbrev f_slices_Clone_eval_Bind_eval_Bind : Nat := 28
abbrev f_slices_IndexFunc_int_int : Nat := 29
abbrev f_slices_Compare_int_int : Nat := 30
abbrev f_cmp_Compare_int : Nat := 31
abbrev f_cmp_isNaN_int : Nat := 32

def sh : Nat → Nat
  | 15 => 6
  | 16 => 3
  | 18 => 3
  | 19 => 4
  | 20 => 4
  | 22 => 3
  | 23 => 1
  | 25 => 1
  | 26 => 2
  | 27 => 1
  | 28 => 2
  | 29 => 4
  | _ => 0

/-- whelk/whelklaw18.DeltaAny [0=a, 1=b, 2=x, 3=y, 4=c, 5=n, 6=i, 7=m, 8=i] -/
def b_law18_DeltaAny_0 : EC :=
 (.seq (.cond (.bi (.bin .lss) (.v 6) (.un .len (.v 3)))
  (.skip)
  (.exit 0))
 (.seq (.block 1 (.seq (.cond (.tup (.call 0 f_law18_has) (.cons (.v 2) (.cons (.un (.ld none) (.un (.off 0) (.bi (.idx 2) (.v 3) (.v 6)))) .nil)))
   (.exit 1)
   (.skip))
  (.seq (.seq (.st [.eff (some 9) none (.load none (.un (.off 0) (.v 4))),
    .eff (some 10) (some ((.bi (.bin .geq) (.v 5) (.un .len (.v 9))), false)) (.load none (.un (.off 0) (.v 4)))])
  (.cond (.pick (.bi (.bin .geq) (.v 5) (.un .len (.v 9))) (.c (.bool true)) (.bi (.bin .neq) (.tup (.call 0 f_ref15_Compare) (.cons (.un (.ld none) (.un (.off 0) (.bi (.idx 2) (.v 10) (.v 5)))) (.cons (.un (.ld none) (.un (.off 0) (.bi (.idx 2) (.v 3) (.v 6)))) .nil))) (.c (.int .i64 0))))
   (.ret [.e (.c (.bool false))])
   (.skip)))
  (.st [.sets [(5, (.bi (.bin .add) (.v 5) (.c (.int .i64 1))))]]))))
 (.st [.sets [(6, (.bi (.bin .add) (.v 6) (.c (.int .i64 1))))]])))
def b_law18_DeltaAny_1 : EC :=
 (.seq (.cond (.bi (.bin .lss) (.v 8) (.un .len (.v 2)))
  (.skip)
  (.exit 2))
 (.seq (.block 3 (.seq (.cond (.tup (.call 0 f_law18_has) (.cons (.v 3) (.cons (.un (.ld none) (.un (.off 0) (.bi (.idx 2) (.v 2) (.v 8)))) .nil)))
   (.exit 3)
   (.skip))
  (.seq (.seq (.st [.eff (some 11) none (.load none (.un (.off 1) (.v 4))),
    .eff (some 12) (some ((.bi (.bin .geq) (.v 7) (.un .len (.v 11))), false)) (.load none (.un (.off 1) (.v 4)))])
  (.cond (.pick (.bi (.bin .geq) (.v 7) (.un .len (.v 11))) (.c (.bool true)) (.bi (.bin .neq) (.tup (.call 0 f_ref15_Compare) (.cons (.un (.ld none) (.bi (.idx 1) (.v 12) (.v 7))) (.cons (.un (.ld none) (.un (.off 0) (.bi (.idx 2) (.v 2) (.v 8)))) .nil))) (.c (.int .i64 0))))
   (.ret [.e (.c (.bool false))])
   (.skip)))
  (.st [.sets [(7, (.bi (.bin .add) (.v 7) (.c (.int .i64 1))))]]))))
 (.st [.sets [(8, (.bi (.bin .add) (.v 8) (.c (.int .i64 1))))]])))
def e_law18_DeltaAny : EFunc := ⟨2, 17,
 (.seq (.cond (.un .not (.tup (.call 0 f_law18_known) .nil))
  (.ret [.e (.c (.bool false))])
  (.skip))
 (.seq (.cond (.pick (.un .not (.tup (.call 0 f_law18_few) (.cons (.v 0) .nil))) (.c (.bool true)) (.un .not (.tup (.call 0 f_law18_few) (.cons (.v 1) .nil))))
  (.ret [.e (.c (.bool true))])
  (.skip))
 (.seq (.st [.sets [(2, (.tup (.call 0 f_law18_insts) (.cons (.v 0) .nil)))]])
 (.seq (.st [.sets [(3, (.tup (.call 0 f_law18_insts) (.cons (.v 1) .nil)))]])
 (.seq (.st [.eff (some 4) none (.zbox [.nils, .nils]),
   .eff none none (.store 2 (.v 4) (.tup (.call 0 f_delta_Diff) (.cons (.v 2) (.cons (.v 3) .nil))))])
 (.seq (.st [.sets [(5, (.c (.int .i64 0)))]])
 (.seq (.seq (.st [.sets [(6, (.c (.int .i64 0)))]])
 (.block 0 (.loop [false, false, true, true, true, true, true, false, false, false, false, false, false, false, false, false, false] b_law18_DeltaAny_0)))
 (.seq (.st [.sets [(7, (.c (.int .i64 0)))]])
 (.seq (.seq (.st [.sets [(8, (.c (.int .i64 0)))]])
 (.block 2 (.loop [false, false, true, true, true, true, false, true, true, false, false, false, false, false, false, false, false] b_law18_DeltaAny_1)))
 (.seq (.st [.eff (some 13) none (.load none (.un (.off 0) (.v 4))),
   .sets [(14, (.gd true (.bi (.bin .eql) (.v 5) (.un .len (.v 13))) (.un (.off 1) (.v 4))))],
   .eff (some 15) (some ((.bi (.bin .eql) (.v 5) (.un .len (.v 13))), true)) (.load none (.v 14)),
   .eff (some 16) (some ((.pick (.bi (.bin .eql) (.v 5) (.un .len (.v 13))) (.bi (.bin .eql) (.v 7) (.un .len (.v 15))) (.c (.bool false))), true)) (.load (some 2) (.v 4))])
 (.ret [.e (.pick (.pick (.bi (.bin .eql) (.v 5) (.un .len (.v 13))) (.bi (.bin .eql) (.v 7) (.un .len (.v 15))) (.c (.bool false))) (.tup (.call 0 f_law18_same) (.cons (.tup (.call 0 f_delta_Apply) (.cons (.v 2) (.cons (.v 16) .nil))) (.cons (.v 3) .nil))) (.c (.bool false)))])))))))))))⟩
noncomputable def r3 : ERow := ⟨Go.Proofs.Try.f3, ⟨[(13, (.cons 0 0 (.cons 0 1 (.cons 1 2 (.cons 0 3 (.cons 0 4 (.cons 0 5 (.cons 0 6 (.cons 0 8 (.cons 0 12 (.cons 0 13 (.cons 0 14 (.cons 0 15 (.cons 1 7 (.cons 0 9 (.cons 0 10 (.cons 1 11 (.cons 1 16 (.cons 2 17 (.cons 0 18 (.cons 0 19 .nil))))))))))))))))))))), (21, (.cons 0 0 (.cons 0 1 (.cons 1 2 (.cons 0 3 (.cons 0 4 (.cons 0 5 (.cons 0 6 (.cons 0 8 (.cons 0 11 (.cons 0 12 (.cons 0 13 (.cons 0 14 (.cons 1 7 (.cons 0 9 (.cons 1 10 (.cons 1 15 (.cons 2 16 (.cons 0 17 (.cons 0 18 .nil))))))))))))))))))))], [(0, [false, false, false, false, false, true, true, true, true, true]), (2, [false, false, false, false, false, true, true, true, true, false, true, true])]⟩, ⟨117, [0, 1, 5, 6, 7, 8, 9, 10, 11, 44, 49, 79, 84, 100, 105, 106, 112], [40, 53, 58, 75, 87, 92], []⟩, 2, e_law18_DeltaAny⟩

/-- whelk/whelklaw18.DeltaMerges [0=l, 1=rows, 2=all, 3=i] -/
def b_law18_DeltaMerges_0 : EC :=
 (.seq (.cond (.bi (.bin .lss) (.v 3) (.un .len (.v 0)))
  (.skip)
  (.exit 0))
 (.seq (.block 1 (.seq (.cond (.un .not (.tup (.call 0 f_law18_few) (.cons (.un (.ld none) (.bi (.idx 1) (.v 0) (.v 3))) .nil)))
   (.ret [.e (.c (.bool true))])
   (.skip))
  (.seq (.st [.eff (some 4) none (.append 1 24 (.v 1) (.tup (.bslice 1 [.nils] 1 [0]) (.cons (.tup (.call 0 f_law18_insts) (.cons (.un (.ld none) (.bi (.idx 1) (.v 0) (.v 3))) .nil)) .nil))),
    .sets [(1, (.v 4))]])
  (.st [.eff (some 5) none (.append 1 24 (.v 2) (.un (.ld none) (.bi (.idx 1) (.v 0) (.v 3)))),
    .sets [(2, (.v 5))]]))))
 (.st [.sets [(3, (.bi (.bin .add) (.v 3) (.c (.int .i64 1))))]])))
def e_law18_DeltaMerges : EFunc := ⟨1, 6,
 (.seq (.cond (.un .not (.tup (.call 0 f_law18_known) .nil))
  (.ret [.e (.c (.bool false))])
  (.skip))
 (.seq (.cond (.bi (.bin .gtr) (.un .len (.v 0)) (.c (.int .i64 6)))
  (.ret [.e (.c (.bool true))])
  (.skip))
 (.seq (.st [.sets [(1, (.c .nils))]])
 (.seq (.st [.sets [(2, (.c .nils))]])
 (.seq (.seq (.st [.sets [(3, (.c (.int .i64 0)))]])
 (.block 0 (.loop [true, true, true, true, false, false] b_law18_DeltaMerges_0)))
 (.ret [.e (.tup (.call 0 f_law18_same) (.cons (.tup (.call 0 f_delta_Merge) (.cons (.v 1) .nil)) (.cons (.tup (.call 0 f_law18_insts) (.cons (.v 2) .nil)) .nil)))]))))))⟩
noncomputable def r4 : ERow := ⟨Go.Proofs.Try.f4, ⟨[], [(0, [true, false, false, true, true, true])]⟩, ⟨42, [0, 3, 4, 5, 30, 36], [20, 27, 35], []⟩, 1, e_law18_DeltaMerges⟩

/-- whelk/whelklaw18.DeltaTurns [0=a, 1=b, 2=x, 3=y, 4=c, 5=d, 6=n] -/
def e_law18_DeltaTurns : EFunc := ⟨2, 19,
 (.seq (.cond (.un .not (.tup (.call 0 f_law18_known) .nil))
  (.ret [.e (.c (.bool false))])
  (.skip))
 (.seq (.cond (.pick (.un .not (.tup (.call 0 f_law18_few) (.cons (.v 0) .nil))) (.c (.bool true)) (.un .not (.tup (.call 0 f_law18_few) (.cons (.v 1) .nil))))
  (.ret [.e (.c (.bool true))])
  (.skip))
 (.seq (.st [.sets [(2, (.tup (.call 0 f_law18_insts) (.cons (.v 0) .nil)))]])
 (.seq (.st [.sets [(3, (.tup (.call 0 f_law18_insts) (.cons (.v 1) .nil)))]])
 (.seq (.st [.eff (some 4) none (.zbox [.nils, .nils]),
   .eff none none (.store 2 (.v 4) (.tup (.call 0 f_delta_Diff) (.cons (.v 2) (.cons (.v 3) .nil))))])
 (.seq (.st [.eff (some 5) none (.zbox [.nils, .nils]),
   .eff none none (.store 2 (.v 5) (.tup (.call 0 f_delta_Diff) (.cons (.v 3) (.cons (.v 2) .nil))))])
 (.seq (.st [.eff (some 6) none (.zbox [.nils, .nils]),
   .eff none none (.store 2 (.v 6) (.tup (.call 0 f_delta_Diff) (.cons (.v 2) (.cons (.v 2) .nil))))])
 (.seq (.seq (.st [.eff (some 7) none (.load none (.un (.off 0) (.v 4))),
   .eff (some 8) none (.load none (.un (.off 1) (.v 5))),
   .sets [(9, (.bi (.bin .neq) (.un .len (.v 7)) (.un .len (.v 8)))), (10, (.gd false (.bi (.bin .neq) (.un .len (.v 7)) (.un .len (.v 8))) (.un (.off 1) (.v 4))))],
   .eff (some 11) (some ((.v 9), false)) (.load none (.v 10)),
   .eff (some 12) (some ((.v 9), false)) (.load none (.un (.off 0) (.v 5))),
   .sets [(13, (.pick (.v 9) (.c (.bool true)) (.bi (.bin .neq) (.un .len (.v 11)) (.un .len (.v 12))))), (14, (.gd false (.pick (.v 9) (.c (.bool true)) (.bi (.bin .neq) (.un .len (.v 11)) (.un .len (.v 12)))) (.un (.off 0) (.v 6))))],
   .eff (some 15) (some ((.v 13), false)) (.load none (.v 14)),
   .eff (some 16) (some ((.v 13), false)) (.load none (.un (.off 1) (.v 6)))])
 (.cond (.pick (.v 13) (.c (.bool true)) (.bi (.bin .neq) (.bi (.bin .add) (.un .len (.v 15)) (.un .len (.v 16))) (.c (.int .i64 0))))
  (.ret [.e (.c (.bool false))])
  (.skip)))
 (.seq (.st [.eff (some 17) none (.load (some 2) (.v 4)),
   .eff (some 18) none (.load (some 2) (.v 5))])
 (.ret [.e (.tup (.call 0 f_law18_same) (.cons (.tup (.call 0 f_delta_Apply) (.cons (.tup (.call 0 f_delta_Apply) (.cons (.v 2) (.cons (.v 17) .nil))) (.cons (.v 18) .nil))) (.cons (.v 2) .nil)))]))))))))))⟩
noncomputable def r5 : ERow := ⟨Go.Proofs.Try.f5, ⟨[(12, (.cons 0 0 (.cons 0 5 (.cons 1 1 (.cons 1 3 (.cons 2 2 (.cons 2 4 (.cons 2 6 (.cons 0 7 .nil)))))))))], []⟩, ⟨66, [0, 1, 5, 6, 7, 8, 9, 34, 37, 40, 41, 42, 45, 49, 50, 51, 54, 60, 62], [], []⟩, 2, e_law18_DeltaTurns⟩

/-- whelk/whelklaw18.known [0=a, 1=b, 2=c] -/
def e_law18_known : EFunc := ⟨0, 14,
 (.seq (.st [.sets [(0, (.tup (.call 0 f_law18_insts) (.cons (.tup (.bslice 1 [.nils] 2 [0, 1]) (.cons (.tup (.bslice 1 [(.int .i64 0)] 1 [0]) (.cons (.c (.int .i64 1)) .nil)) (.cons (.tup (.bslice 1 [(.int .i64 0)] 1 [0]) (.cons (.c (.int .i64 2)) .nil)) .nil))) .nil)))]])
 (.seq (.st [.sets [(1, (.tup (.call 0 f_law18_insts) (.cons (.tup (.bslice 1 [.nils] 2 [0, 1]) (.cons (.tup (.bslice 1 [(.int .i64 0)] 1 [0]) (.cons (.c (.int .i64 2)) .nil)) (.cons (.tup (.bslice 1 [(.int .i64 0)] 1 [0]) (.cons (.c (.int .i64 3)) .nil)) .nil))) .nil)))]])
 (.seq (.st [.eff (some 2) none (.zbox [.nils, .nils]),
   .eff none none (.store 2 (.v 2) (.tup (.call 0 f_delta_Diff) (.cons (.v 0) (.cons (.v 1) .nil))))])
 (.seq (.st [.eff (some 3) none (.load none (.un (.off 0) (.v 2))),
   .eff (some 4) (some ((.bi (.bin .eql) (.un .len (.v 3)) (.c (.int .i64 1))), true)) (.load none (.un (.off 0) (.v 2))),
   .sets [(5, (.pick (.bi (.bin .eql) (.un .len (.v 3)) (.c (.int .i64 1))) (.bi (.bin .eql) (.un (.ld none) (.bi (.idx 1) (.un (.ld none) (.un (.off 0) (.bi (.idx 2) (.v 4) (.c (.int .i64 0))))) (.c (.int .i64 0)))) (.c (.int .i64 3))) (.c (.bool false)))), (6, (.gd true (.pick (.bi (.bin .eql) (.un .len (.v 3)) (.c (.int .i64 1))) (.bi (.bin .eql) (.un (.ld none) (.bi (.idx 1) (.un (.ld none) (.un (.off 0) (.bi (.idx 2) (.v 4) (.c (.int .i64 0))))) (.c (.int .i64 0)))) (.c (.int .i64 3))) (.c (.bool false))) (.un (.off 1) (.v 2))))],
   .eff (some 7) (some ((.v 5), true)) (.load none (.v 6)),
   .sets [(8, (.pick (.v 5) (.bi (.bin .eql) (.un .len (.v 7)) (.c (.int .i64 1))) (.c (.bool false)))), (9, (.gd true (.pick (.v 5) (.bi (.bin .eql) (.un .len (.v 7)) (.c (.int .i64 1))) (.c (.bool false))) (.un (.off 1) (.v 2))))],
   .eff (some 10) (some ((.v 8), true)) (.load none (.v 9)),
   .sets [(11, (.pick (.v 8) (.bi (.bin .eql) (.un (.ld none) (.bi (.idx 1) (.un (.ld none) (.bi (.idx 1) (.v 10) (.c (.int .i64 0)))) (.c (.int .i64 0)))) (.c (.int .i64 1))) (.c (.bool false)))), (12, (.gd true (.pick (.v 8) (.bi (.bin .eql) (.un (.ld none) (.bi (.idx 1) (.un (.ld none) (.bi (.idx 1) (.v 10) (.c (.int .i64 0)))) (.c (.int .i64 0)))) (.c (.int .i64 1))) (.c (.bool false))) (.v 0)))],
   .eff (some 13) (some ((.v 11), true)) (.load (some 2) (.v 2))])
 (.ret [.e (.pick (.pick (.v 11) (.bi (.bin .eql) (.un .len (.tup (.call 0 f_delta_Apply) (.cons (.v 12) (.cons (.v 13) .nil)))) (.c (.int .i64 2))) (.c (.bool false))) (.bi (.bin .eql) (.un .len (.tup (.call 0 f_delta_Merge) (.cons (.tup (.bslice 1 [.nils] 2 [0, 1]) (.cons (.v 0) (.cons (.v 1) .nil))) .nil))) (.c (.int .i64 3))) (.c (.bool false)))])))))⟩
noncomputable def r6 : ERow := ⟨Go.Proofs.Try.f6, ⟨[], []⟩, ⟨59, [1, 2, 3, 16, 21, 29, 30, 31, 35, 36, 37, 44, 45, 46], [24, 26, 39, 41], []⟩, 0, e_law18_known⟩

/-- whelk/whelklaw18.few [0=l, 1=i] -/
def b_law18_few_0 : EC :=
 (.seq (.cond (.bi (.bin .lss) (.v 1) (.un .len (.v 0)))
  (.skip)
  (.exit 0))
 (.seq (.block 1 (.cond (.bi (.bin .gtr) (.un .len (.un (.ld none) (.bi (.idx 1) (.v 0) (.v 1)))) (.c (.int .i64 20)))
   (.ret [.e (.c (.bool false))])
   (.skip)))
 (.st [.sets [(1, (.bi (.bin .add) (.v 1) (.c (.int .i64 1))))]])))
def e_law18_few : EFunc := ⟨1, 2,
 (.seq (.cond (.bi (.bin .gtr) (.un .len (.v 0)) (.c (.int .i64 60)))
  (.ret [.e (.c (.bool false))])
  (.skip))
 (.seq (.seq (.st [.sets [(1, (.c (.int .i64 0)))]])
 (.block 0 (.loop [true, true] b_law18_few_0)))
 (.ret [.e (.c (.bool true))])))⟩
noncomputable def r7 : ERow := ⟨Go.Proofs.Try.f7, ⟨[], [(0, [true, false, false, true])]⟩, ⟨19, [0, 3], [16], []⟩, 1, e_law18_few⟩

/-- whelk/whelklaw18.insts [0=l, 1=out, 2=i, 3=k] -/
def b_law18_insts_0 : EC :=
 (.seq (.cond (.pick (.bi (.bin .gtr) (.v 3) (.c (.int .i64 0))) (.bi (.bin .gtr) (.tup (.call 0 f_ref15_Compare) (.cons (.un (.ld none) (.un (.off 0) (.bi (.idx 2) (.v 1) (.bi (.bin .sub) (.v 3) (.c (.int .i64 1)))))) (.cons (.un (.ld none) (.bi (.idx 1) (.v 0) (.v 2))) .nil))) (.c (.int .i64 0))) (.c (.bool false)))
  (.skip)
  (.exit 2))
 (.block 3 (.st [.sets [(3, (.bi (.bin .sub) (.v 3) (.c (.int .i64 1))))]])))
def b_law18_insts_1 : EC :=
 (.seq (.cond (.bi (.bin .lss) (.v 2) (.un .len (.v 0)))
  (.skip)
  (.exit 0))
 (.seq (.block 1 (.seq (.st [.sets [(3, (.un .len (.v 1)))]])
  (.seq (.block 2 (.loop [true, true, true, true, false, false, false] b_law18_insts_0))
  (.seq (.cond (.pick (.bi (.bin .gtr) (.v 3) (.c (.int .i64 0))) (.bi (.bin .eql) (.tup (.call 0 f_ref15_Compare) (.cons (.un (.ld none) (.un (.off 0) (.bi (.idx 2) (.v 1) (.bi (.bin .sub) (.v 3) (.c (.int .i64 1)))))) (.cons (.un (.ld none) (.bi (.idx 1) (.v 0) (.v 2))) .nil))) (.c (.int .i64 0))) (.c (.bool false)))
   (.exit 1)
   (.skip))
  (.seq (.st [.eff (some 4) none (.append 2 48 (.tup (.bslice 2 [.nils, .nils] 0 []) .nil) (.lsub 2 false true false (.v 1) (.c .undef) (.v 3) (.c .undef))),
    .eff (some 5) none (.append 2 48 (.v 4) (.tup (.bslice 2 [.nils, .nils] 1 [0]) (.cons (.tup (.build [.nils, .nils] [(0, 1)]) (.cons (.un (.ld none) (.bi (.idx 1) (.v 0) (.v 2))) .nil)) .nil)))])
  (.st [.eff (some 6) none (.append 2 48 (.v 5) (.lsub 2 true false false (.v 1) (.v 3) (.c .undef) (.c .undef))),
    .sets [(1, (.v 6))]]))))))
 (.st [.sets [(2, (.bi (.bin .add) (.v 2) (.c (.int .i64 1))))]])))
def e_law18_insts : EFunc := ⟨1, 7,
 (.seq (.st [.sets [(1, (.c .nils))]])
 (.seq (.seq (.st [.sets [(2, (.c (.int .i64 0)))]])
 (.block 0 (.loop [true, true, true, false, false, false, false] b_law18_insts_1)))
 (.ret [.e (.v 1)])))⟩
noncomputable def r8 : ERow := ⟨Go.Proofs.Try.f8, ⟨[(6, (.cons 0 0 (.cons 0 1 (.cons 0 2 (.cons 0 3 (.cons 0 4 (.cons 0 5 (.cons 0 6 (.cons 0 7 (.cons 0 9 (.cons 0 10 (.cons 0 11 (.cons 1 8 (.cons 1 12 (.cons 2 13 (.cons 0 14 (.cons 0 15 .nil))))))))))))))))), (8, (.cons 0 0 (.cons 0 1 (.cons 0 2 (.cons 0 3 (.cons 0 4 (.cons 0 5 (.cons 0 6 (.cons 0 7 (.cons 0 9 (.cons 0 10 (.cons 0 11 (.cons 1 8 (.cons 1 12 (.cons 2 13 (.cons 0 14 (.cons 0 15 .nil))))))))))))))))), (9, (.cons 0 1 (.cons 0 2 (.cons 0 3 (.cons 0 5 (.cons 0 6 (.cons 0 7 (.cons 1 8 (.cons 0 9 (.alt (.cons 2 0 (.alt (.cons 2 4 (.cons 2 10 (.cons 2 11 (.cons 0 12 .nil)))) (.cons 2 10 (.cons 2 4 (.cons 2 11 (.cons 0 12 .nil)))))) (.cons 2 10 (.cons 2 0 (.cons 2 4 (.cons 2 11 (.cons 0 12 .nil)))))))))))))))], [(0, [true, false, false, true, true]), (2, [true, false, false, true, true, true])]⟩, ⟨67, [0, 3, 4, 5, 53, 60, 65], [23, 27, 41, 45, 57], []⟩, 1, e_law18_insts⟩

/-- whelk/delta.Diff [0=old, 1=now, 3=c] -/
def e_delta_Diff : EFunc := ⟨2, 5,
 (.seq (.st [.eff (some 2) none (.zbox [.nils, .nils])])
 (.seq (.st [.eff (some 3) none (.zbox [.nils, .nils])])
 (.seq (.st [.eff none none (.calls [false, false, true, true, true, true, true, true, true, true, true, true, true, true, true, true] f_delta_walk (.cons (.v 0) (.cons (.v 1) (.cons (.tup (.mkfn f_delta_Diff_1) (.cons (.v 3) .nil)) .nil))))])
 (.seq (.st [.eff (some 4) none (.load (some 2) (.v 3)),
   .eff none none (.store 2 (.v 2) (.v 4))])
 (.ret [.cell (.v 2) (some 2)])))))⟩
noncomputable def r9 : ERow := ⟨Go.Proofs.Try.f9, ⟨[], []⟩, ⟨11, [0, 1, 4, 5, 10], [], []⟩, 2, e_delta_Diff⟩

/-- whelk/whelklaw18.has [0=l, 1=f, 2=i] -/
def b_law18_has_0 : EC :=
 (.seq (.cond (.bi (.bin .lss) (.v 2) (.un .len (.v 0)))
  (.skip)
  (.exit 0))
 (.seq (.block 1 (.cond (.bi (.bin .eql) (.tup (.call 0 f_ref15_Compare) (.cons (.un (.ld none) (.un (.off 0) (.bi (.idx 2) (.v 0) (.v 2)))) (.cons (.v 1) .nil))) (.c (.int .i64 0)))
   (.ret [.e (.c (.bool true))])
   (.skip)))
 (.st [.sets [(2, (.bi (.bin .add) (.v 2) (.c (.int .i64 1))))]])))
def e_law18_has : EFunc := ⟨2, 3,
 (.seq (.seq (.st [.sets [(2, (.c (.int .i64 0)))]])
 (.block 0 (.loop [true, true, true] b_law18_has_0)))
 (.ret [.e (.c (.bool false))]))⟩
noncomputable def r10 : ERow := ⟨Go.Proofs.Try.f10, ⟨[], [(0, [true, true, false, false, false, true])]⟩, ⟨20, [0, 1, 5], [16], []⟩, 2, e_law18_has⟩

/-- whelk/whelkref15.Compare [0=a, 1=b, 2=i] -/
def b_ref15_Compare_0 : EC :=
 (.seq (.cond (.pick (.bi (.bin .lss) (.v 2) (.un .len (.v 0))) (.bi (.bin .lss) (.v 2) (.un .len (.v 1))) (.c (.bool false)))
  (.skip)
  (.exit 0))
 (.seq (.block 1 (.seq (.cond (.bi (.bin .lss) (.un (.ld none) (.bi (.idx 1) (.v 0) (.v 2))) (.un (.ld none) (.bi (.idx 1) (.v 1) (.v 2))))
   (.ret [.e (.c (.int .i64 (-1)))])
   (.skip))
  (.cond (.bi (.bin .gtr) (.un (.ld none) (.bi (.idx 1) (.v 0) (.v 2))) (.un (.ld none) (.bi (.idx 1) (.v 1) (.v 2))))
   (.ret [.e (.c (.int .i64 1))])
   (.skip))))
 (.st [.sets [(2, (.bi (.bin .add) (.v 2) (.c (.int .i64 1))))]])))
def e_ref15_Compare : EFunc := ⟨2, 3,
 (.seq (.seq (.st [.sets [(2, (.c (.int .i64 0)))]])
 (.block 0 (.loop [true, true, true] b_ref15_Compare_0)))
 (.seq (.block 2 (.cond (.bi (.bin .lss) (.un .len (.v 0)) (.un .len (.v 1)))
   (.ret [.e (.c (.int .i64 (-1)))])
   (.cond (.bi (.bin .gtr) (.un .len (.v 0)) (.un .len (.v 1)))
    (.ret [.e (.c (.int .i64 1))])
    (.skip))))
 (.ret [.e (.c (.int .i64 0))])))⟩
noncomputable def r11 : ERow := ⟨Go.Proofs.Try.f11, ⟨[(4, (.cons 0 0 (.cons 0 1 (.cons 0 2 (.cons 0 4 (.cons 0 5 (.cons 0 6 (.cons 1 3 (.cons 1 7 (.cons 0 8 .nil)))))))))), (6, (.cons 0 0 (.cons 0 1 (.cons 0 2 (.cons 0 4 (.cons 0 5 (.cons 0 6 (.cons 1 3 (.cons 1 7 (.cons 0 8 .nil))))))))))], [(0, [true, true, false, false, false, true])]⟩, ⟨48, [0, 1, 5], [21, 25, 30, 34], []⟩, 2, e_ref15_Compare⟩

/-- whelk/whelklaw18.same [0=a, 1=b, 2=i] -/
def b_law18_same_0 : EC :=
 (.seq (.cond (.bi (.bin .lss) (.v 2) (.un .len (.v 0)))
  (.skip)
  (.exit 0))
 (.seq (.block 1 (.cond (.bi (.bin .neq) (.tup (.call 0 f_ref15_Compare) (.cons (.un (.ld none) (.un (.off 0) (.bi (.idx 2) (.v 0) (.v 2)))) (.cons (.un (.ld none) (.un (.off 0) (.bi (.idx 2) (.v 1) (.v 2)))) .nil))) (.c (.int .i64 0)))
   (.ret [.e (.c (.bool false))])
   (.skip)))
 (.st [.sets [(2, (.bi (.bin .add) (.v 2) (.c (.int .i64 1))))]])))
def e_law18_same : EFunc := ⟨2, 3,
 (.seq (.cond (.bi (.bin .neq) (.un .len (.v 0)) (.un .len (.v 1)))
  (.ret [.e (.c (.bool false))])
  (.skip))
 (.seq (.seq (.st [.sets [(2, (.c (.int .i64 0)))]])
 (.block 0 (.loop [true, true, true] b_law18_same_0)))
 (.ret [.e (.c (.bool true))])))⟩
noncomputable def r12 : ERow := ⟨Go.Proofs.Try.f12, ⟨[(6, (.cons 0 0 (.cons 0 1 (.cons 0 2 (.cons 0 3 (.cons 0 5 (.cons 0 6 (.cons 0 7 (.cons 0 8 (.cons 1 4 (.cons 1 9 (.cons 2 10 (.cons 0 11 .nil)))))))))))))], [(0, [true, true, false, false, false, true])]⟩, ⟨29, [0, 1, 5], [21, 26], []⟩, 2, e_law18_same⟩

/-- whelk/delta.Apply [0=old, 1=c, 2=c, 3=gone, 4=left, 5=x] -/
def b_delta_Apply_0 : EC :=
 (.seq (.cond (.bi (.bin .lss) (.v 8) (.v 7))
  (.skip)
  (.exit 0))
 (.seq (.block 1 (.seq (.st [.eff (some 5) none (.zbox [.nils, .nils]),
    .eff none none (.store 2 (.v 5) (.un (.ld (some 2)) (.bi (.idx 2) (.v 6) (.v 8))))])
  (.seq (.st [.eff (some 9) none (.load (some 2) (.v 5)),
    .eff (some 10) none (.callv (.v 3) (.cons (.v 9) .nil))])
  (.cond (.un .not (.v 10))
   (.st [.eff (some 11) none (.load (some 2) (.v 5)),
     .eff (some 12) none (.append 2 48 (.v 4) (.tup (.bslice 2 [.nils, .nils] 1 [0]) (.cons (.v 11) .nil))),
     .sets [(4, (.v 12))]])
   (.skip)))))
 (.st [.sets [(8, (.bi (.bin .add) (.v 8) (.c (.int .i64 1))))]])))
def e_delta_Apply : EFunc := ⟨2, 14,
 (.seq (.st [.eff (some 2) none (.box 2 (.v 1))])
 (.seq (.st [.sets [(3, (.tup (.mkfn f_delta_Apply_1) (.cons (.v 2) .nil)))]])
 (.seq (.st [.sets [(4, (.c .nils))]])
 (.seq (.seq (.st [.sets [(6, (.v 0)), (7, (.un .len (.v 0))), (8, (.c (.int .i64 0)))]])
 (.block 0 (.loop [false, false, true, true, true, false, true, true, true, false, false, false, false, false] b_delta_Apply_0)))
 (.seq (.st [.eff (some 13) none (.load none (.un (.off 0) (.v 2)))])
 (.ret [.e (.tup (.call 0 f_delta_Merge) (.cons (.tup (.bslice 1 [.nils] 2 [0, 1]) (.cons (.v 4) (.cons (.v 13) .nil))) .nil))]))))))⟩
noncomputable def r13 : ERow := ⟨Go.Proofs.Try.f13, ⟨[], [(0, [false, false, false, true, false, true, true, false, false, false, true, true, true])]⟩, ⟨30, [0, 1, 3, 5, 6, 8, 10, 11, 12, 17, 18, 21, 23, 27], [15], []⟩, 2, e_delta_Apply⟩

/-- whelk/delta.Merge [0=l, 1=out, 2=next] -/
def b_delta_Merge_0 : EC :=
 (.seq (.cond (.bi (.bin .lss) (.v 5) (.v 4))
  (.skip)
  (.exit 0))
 (.seq (.block 1 (.seq (.st [.eff (some 2) none (.zbox [.nils])])
  (.seq (.st [.eff none none (.calls [false, false, true, true, true, true, true, true, true, true, true, true, true, true, true, true] f_delta_walk (.cons (.v 1) (.cons (.un (.ld none) (.bi (.idx 1) (.v 3) (.v 5))) (.cons (.tup (.mkfn f_delta_Merge_1) (.cons (.v 2) .nil)) .nil))))])
  (.st [.eff (some 6) none (.load none (.v 2)),
    .sets [(1, (.v 6))]]))))
 (.st [.sets [(5, (.bi (.bin .add) (.v 5) (.c (.int .i64 1))))]])))
def e_delta_Merge : EFunc := ⟨1, 7,
 (.seq (.st [.sets [(1, (.c .nils))]])
 (.seq (.seq (.st [.sets [(3, (.v 0)), (4, (.un .len (.v 0))), (5, (.c (.int .i64 0)))]])
 (.block 0 (.loop [false, true, false, true, true, true, false] b_delta_Merge_0)))
 (.ret [.e (.tup (.call 1 f_slices_Clip_model_Inst_model_Inst) (.cons (.v 1) .nil))])))⟩
noncomputable def r14 : ERow := ⟨Go.Proofs.Try.f14, ⟨[], [(0, [false, false, false, true, false, false, false, true, true, true])]⟩, ⟨21, [0, 3, 6, 7, 8, 9, 17], [12], []⟩, 1, e_delta_Merge⟩

/-- whelk/delta.walk [0=a, 1=b, 2=f, 3=c] -/
def b_delta_walk_0 : EC :=
 (.seq (.cond (.pick (.bi (.bin .gtr) (.un .len (.v 0)) (.c (.int .i64 0))) (.c (.bool true)) (.bi (.bin .gtr) (.un .len (.v 1)) (.c (.int .i64 0))))
  (.skip)
  (.exit 0))
 (.block 1 (.seq (.st [.sets [(3, (.c (.int .i64 0)))]])
  (.seq (.block 2 (.cond (.bi (.bin .eql) (.un .len (.v 0)) (.c (.int .i64 0)))
    (.st [.sets [(3, (.c (.int .i64 1)))]])
    (.cond (.bi (.bin .eql) (.un .len (.v 1)) (.c (.int .i64 0)))
     (.st [.sets [(3, (.c (.int .i64 (-1))))]])
     (.st [.sets [(3, (.tup (.call 0 f_model_Compare) (.cons (.un (.ld none) (.un (.off 0) (.bi (.idx 2) (.v 0) (.c (.int .i64 0))))) (.cons (.un (.ld none) (.un (.off 0) (.bi (.idx 2) (.v 1) (.c (.int .i64 0))))) .nil))))]]))))
  (.seq (.cond (.bi (.bin .leq) (.v 3) (.c (.int .i64 0)))
   (.seq (.st [.eff none none (.callv (.v 2) (.cons (.un (.ld (some 2)) (.bi (.idx 2) (.v 0) (.c (.int .i64 0)))) (.cons (.c (.bool true)) (.cons (.bi (.bin .eql) (.v 3) (.c (.int .i64 0))) .nil))))])
   (.st [.sets [(0, (.lsub 2 true false false (.v 0) (.c (.int .i64 1)) (.c .undef) (.c .undef)))]]))
   (.skip))
  (.seq (.cond (.bi (.bin .eql) (.v 3) (.c (.int .i64 0)))
   (.st [.sets [(1, (.lsub 2 true false false (.v 1) (.c (.int .i64 1)) (.c .undef) (.c .undef)))]])
   (.skip))
  (.cond (.bi (.bin .gtr) (.v 3) (.c (.int .i64 0)))
   (.seq (.st [.eff none none (.callv (.v 2) (.cons (.un (.ld (some 2)) (.bi (.idx 2) (.v 1) (.c (.int .i64 0)))) (.cons (.c (.bool false)) (.cons (.c (.bool true)) .nil))))])
   (.st [.sets [(1, (.lsub 2 true false false (.v 1) (.c (.int .i64 1)) (.c .undef) (.c .undef)))]]))
   (.skip))))))))
def e_delta_walk : EFunc := ⟨3, 4,
 (.seq (.block 0 (.loop [true, true, true, false] b_delta_walk_0))
 (.ret []))⟩
noncomputable def r15 : ERow := ⟨Go.Proofs.Try.f15, ⟨[(2, (.cons 0 0 (.cons 0 1 (.cons 0 2 (.cons 0 4 (.cons 0 5 (.cons 0 6 (.cons 1 3 (.cons 1 7 (.cons 2 8 (.cons 0 9 .nil)))))))))))], [(0, [true, true, true])]⟩, ⟨56, [0, 1, 2, 6], [18, 22, 37, 52], []⟩, 3, e_delta_walk⟩

/-- whelk/delta.Diff$1 [0=x, 1=was, 2=is, 4=x] -/
def e_delta_Diff_1 : EFunc := ⟨4, 11,
 (.seq (.seq (.st [.eff (some 4) none (.box 2 (.v 0))])
 (.block 0 (.cond (.un .not (.v 1))
   (.st [.eff (some 5) none (.load none (.un (.off 0) (.v 3))),
     .eff (some 6) none (.load (some 2) (.v 4)),
     .eff (some 7) none (.append 2 48 (.v 5) (.tup (.bslice 2 [.nils, .nils] 1 [0]) (.cons (.tup (.call 0 f_delta_apart) (.cons (.v 6) .nil)) .nil))),
     .eff none none (.store 1 (.un (.off 0) (.v 3)) (.v 7))])
   (.cond (.un .not (.v 2))
    (.st [.eff (some 8) none (.load none (.un (.off 1) (.v 3))),
      .eff (some 9) none (.load (some 2) (.v 4)),
      .eff (some 10) none (.append 1 24 (.v 8) (.tup (.bslice 1 [.nils] 1 [0]) (.cons (.un (.field none 0) (.tup (.call 0 f_delta_apart) (.cons (.v 9) .nil))) .nil))),
      .eff none none (.store 1 (.un (.off 1) (.v 3)) (.v 10))])
    (.skip)))))
 (.ret []))⟩
noncomputable def r16 : ERow := ⟨Go.Proofs.Try.f16, ⟨[(2, (.cons 0 0 (.cons 1 1 (.cons 1 2 (.cons 2 3 (.cons 2 4 (.cons 2 5 (.cons 0 6 (.cons 3 7 .nil))))))))), (4, (.cons 0 0 (.cons 1 1 (.cons 1 2 (.cons 2 3 (.cons 0 4 (.cons 2 5 (.cons 2 6 (.cons 0 7 (.cons 3 8 .nil))))))))))], []⟩, ⟨28, [0, 1, 2, 3, 4, 11, 12, 15, 21, 22, 26], [], []⟩, 4, e_delta_Diff_1⟩

/-- whelk/delta.apart [0=x, 1=x] -/
def e_delta_apart : EFunc := ⟨1, 8,
 (.seq (.st [.eff (some 1) none (.box 2 (.v 0)),
   .eff (some 2) none (.zbox [.nils, .nils])])
 (.seq (.st [.eff (some 3) none (.load none (.un (.off 0) (.v 1))),
   .eff (some 4) none (.callo f_slices_Clone_int_int (.cons (.v 3) .nil)),
   .eff none none (.store 1 (.un (.off 0) (.v 1)) (.tup (.call 1 f_slices_Clip_int_int) (.cons (.v 4) .nil)))])
 (.seq (.st [.eff (some 5) none (.load none (.un (.off 1) (.v 1))),
   .eff (some 6) none (.callo f_slices_Clone_eval_Bind_eval_Bind (.cons (.v 5) .nil)),
   .eff none none (.store 1 (.un (.off 1) (.v 1)) (.tup (.call 1 f_slices_Clip_eval_Bind_eval_Bind) (.cons (.v 6) .nil)))])
 (.seq (.st [.eff (some 7) none (.load (some 2) (.v 1)),
   .eff none none (.store 2 (.v 2) (.v 7))])
 (.ret [.cell (.v 2) (some 2)])))))⟩
noncomputable def r17 : ERow := ⟨Go.Proofs.Try.f17, ⟨[], []⟩, ⟨14, [0, 1, 2, 4, 5, 9, 10, 13], [], []⟩, 1, e_delta_apart⟩

/-- whelk/delta.Apply$1 [0=x, 2=x] -/
def e_delta_Apply_1 : EFunc := ⟨2, 5,
 (.seq (.st [.eff (some 2) none (.box 2 (.v 0))])
 (.seq (.st [.eff (some 3) none (.load none (.un (.off 1) (.v 1))),
   .eff (some 4) none (.calls [false, true, true, true, true, true, true, true, true, true, true, true, true, true, true, true] f_slices_ContainsFunc_int_int (.cons (.v 3) (.cons (.tup (.mkfn f_delta_Apply_1_1) (.cons (.v 2) .nil)) .nil)))])
 (.ret [.e (.v 4)])))⟩
noncomputable def r18 : ERow := ⟨Go.Proofs.Try.f18, ⟨[], []⟩, ⟨8, [0, 1, 2, 5, 7], [], []⟩, 2, e_delta_Apply_1⟩

/-- slices.ContainsFunc[[][]int,[]int] [0=s, 1=f] -/
def e_slices_ContainsFunc_int_int : EFunc := ⟨2, 3,
 (.seq (.st [.eff (some 2) none (.calls [false, true, true, true, true, true, true, true, true, true, true, true, true, true, true, true] f_slices_IndexFunc_int_int (.cons (.v 0) (.cons (.v 1) .nil)))])
 (.ret [.e (.bi (.bin .geq) (.v 2) (.c (.int .i64 0)))]))⟩
noncomputable def r19 : ERow := ⟨Go.Proofs.Try.f19, ⟨[], []⟩, ⟨9, [0, 1, 7], [], []⟩, 2, e_slices_ContainsFunc_int_int⟩

/-- whelk/delta.Apply$1$1 [0=l] -/
def e_delta_Apply_1_1 : EFunc := ⟨2, 3,
 (.seq (.st [.eff (some 2) none (.load none (.un (.off 0) (.v 1)))])
 (.ret [.e (.tup (.call 0 f_slices_Equal_int_int) (.cons (.v 0) (.cons (.v 2) .nil)))]))⟩
noncomputable def r20 : ERow := ⟨Go.Proofs.Try.f20, ⟨[], []⟩, ⟨8, [0, 1, 6], [], []⟩, 2, e_delta_Apply_1_1⟩

/-- slices.Equal[[]int,int] [0=s1, 1=s2] -/
def b_slices_Equal_int_int_0 : EC :=
 (.seq (.cond (.bi (.bin .lss) (.v 3) (.v 2))
  (.skip)
  (.exit 0))
 (.seq (.block 1 (.cond (.bi (.bin .neq) (.un (.ld none) (.bi (.idx 1) (.v 0) (.v 3))) (.un (.ld none) (.bi (.idx 1) (.v 1) (.v 3))))
   (.ret [.e (.c (.bool false))])
   (.skip)))
 (.st [.sets [(3, (.bi (.bin .add) (.v 3) (.c (.int .i64 1))))]])))
def e_slices_Equal_int_int : EFunc := ⟨2, 4,
 (.seq (.cond (.bi (.bin .neq) (.un .len (.v 0)) (.un .len (.v 1)))
  (.ret [.e (.c (.bool false))])
  (.skip))
 (.seq (.seq (.st [.sets [(2, (.un .len (.v 0))), (3, (.c (.int .i64 0)))]])
 (.block 0 (.loop [true, true, true, true] b_slices_Equal_int_int_0)))
 (.ret [.e (.c (.bool true))])))⟩
noncomputable def r21 : ERow := ⟨Go.Proofs.Try.f21, ⟨[(6, (.cons 0 0 (.cons 0 1 (.cons 0 2 (.cons 0 4 (.cons 0 5 (.cons 0 6 (.cons 1 3 (.cons 1 7 (.cons 0 8 .nil))))))))))], [(0, [true, true, false, false, false, false, false, false, false, false, false, false, true, true])]⟩, ⟨26, [0, 1, 12, 13], [19, 23], []⟩, 2, e_slices_Equal_int_int⟩

/-- whelk/delta.Merge$1 [0=x, 1=_, 2=_, 4=x] -/
def e_delta_Merge_1 : EFunc := ⟨4, 8,
 (.seq (.seq (.st [.eff (some 4) none (.box 2 (.v 0))])
 (.st [.eff (some 5) none (.load none (.v 3)),
   .eff (some 6) none (.load (some 2) (.v 4)),
   .eff (some 7) none (.append 2 48 (.v 5) (.tup (.bslice 2 [.nils, .nils] 1 [0]) (.cons (.tup (.call 0 f_delta_apart) (.cons (.v 6) .nil)) .nil))),
   .eff none none (.store 1 (.v 3) (.v 7))]))
 (.ret []))⟩
noncomputable def r22 : ERow := ⟨Go.Proofs.Try.f22, ⟨[(1, (.cons 1 0 (.cons 1 1 (.cons 2 2 (.cons 2 3 (.cons 2 4 (.cons 3 5 .nil)))))))], []⟩, ⟨12, [0, 1, 2, 3, 4, 7, 8, 11], [], []⟩, 4, e_delta_Merge_1⟩

/-- slices.Clip[[]whelk/model.Inst,whelk/model.Inst] [0=s] -/
def e_slices_Clip_model_Inst_model_Inst : EFunc := ⟨1, 1,
 (.ret [.e (.lsub 2 false true true (.v 0) (.c .undef) (.un .len (.v 0)) (.un .len (.v 0)))])⟩
noncomputable def r23 : ERow := ⟨Go.Proofs.Try.f23, ⟨[], []⟩, ⟨9, [0], [], []⟩, 1, e_slices_Clip_model_Inst_model_Inst⟩

/-- whelk/model.Compare [0=a, 1=b] -/
def e_model_Compare : EFunc := ⟨2, 2,
 (.ret [.e (.tup (.call 0 f_slices_Compare_int_int) (.cons (.v 0) (.cons (.v 1) .nil)))])⟩
noncomputable def r24 : ERow := ⟨Go.Proofs.Try.f24, ⟨[], []⟩, ⟨8, [0, 1], [], []⟩, 2, e_model_Compare⟩

/-- slices.Clip[[]int,int] [0=s] -/
def e_slices_Clip_int_int : EFunc := ⟨1, 1,
 (.ret [.e (.lsub 1 false true true (.v 0) (.c .undef) (.un .len (.v 0)) (.un .len (.v 0)))])⟩
noncomputable def r25 : ERow := ⟨Go.Proofs.Try.f25, ⟨[], []⟩, ⟨9, [0], [], []⟩, 1, e_slices_Clip_int_int⟩

/-- slices.Clone[[]int,int] [0=s] -/
def e_slices_Clone_int_int : EFunc := ⟨1, 2,
 (.seq (.cond (.bi (.eqs 3 false) (.v 0) (.c .nils))
  (.ret [.e (.c .nils)])
  (.skip))
 (.seq (.st [.eff (some 1) none (.append 1 8 (.tup (.bslice 1 [(.int .i64 0)] 0 []) .nil) (.v 0))])
 (.ret [.e (.v 1)])))⟩
noncomputable def r26 : ERow := ⟨Go.Proofs.Try.f26, ⟨[], []⟩, ⟨8, [0, 7], [], []⟩, 1, e_slices_Clone_int_int⟩

/-- slices.Clip[[]whelk/eval.Bind,whelk/eval.Bind] [0=s] -/
def e_slices_Clip_eval_Bind_eval_Bind : EFunc := ⟨1, 1,
 (.ret [.e (.lsub 4 false true true (.v 0) (.c .undef) (.un .len (.v 0)) (.un .len (.v 0)))])⟩
noncomputable def r27 : ERow := ⟨Go.Proofs.Try.f27, ⟨[], []⟩, ⟨9, [0], [], []⟩, 1, e_slices_Clip_eval_Bind_eval_Bind⟩

/-- slices.Clone[[]whelk/eval.Bind,whelk/eval.Bind] [0=s] -/
def e_slices_Clone_eval_Bind_eval_Bind : EFunc := ⟨1, 2,
 (.seq (.cond (.bi (.eqs 3 false) (.v 0) (.c .nils))
  (.ret [.e (.c .nils)])
  (.skip))
 (.seq (.st [.eff (some 1) none (.append 4 48 (.tup (.bslice 4 [(.str []), (.int .i64 0), (.int .i64 0), (.str [])] 0 []) .nil) (.v 0))])
 (.ret [.e (.v 1)])))⟩
noncomputable def r28 : ERow := ⟨Go.Proofs.Try.f28, ⟨[], []⟩, ⟨8, [0, 7], [], []⟩, 1, e_slices_Clone_eval_Bind_eval_Bind⟩

/-- slices.IndexFunc[[][]int,[]int] [0=s, 1=f] -/
def b_slices_IndexFunc_int_int_0 : EC :=
 (.seq (.cond (.bi (.bin .lss) (.v 3) (.v 2))
  (.skip)
  (.exit 0))
 (.seq (.block 1 (.seq (.st [.eff (some 4) none (.callv (.v 1) (.cons (.un (.ld none) (.bi (.idx 1) (.v 0) (.v 3))) .nil))])
  (.cond (.v 4)
   (.ret [.e (.v 3)])
   (.skip))))
 (.st [.sets [(3, (.bi (.bin .add) (.v 3) (.c (.int .i64 1))))]])))
def e_slices_IndexFunc_int_int : EFunc := ⟨2, 5,
 (.seq (.seq (.st [.sets [(2, (.un .len (.v 0))), (3, (.c (.int .i64 0)))]])
 (.block 0 (.loop [true, true, true, true, false] b_slices_IndexFunc_int_int_0)))
 (.ret [.e (.c (.int .i64 (-1)))]))⟩
noncomputable def r29 : ERow := ⟨Go.Proofs.Try.f29, ⟨[], [(0, [true, true, false, false, false, false, false, true, true])]⟩, ⟨19, [0, 1, 7, 8, 16], [15], []⟩, 2, e_slices_IndexFunc_int_int⟩

/-- slices.Compare[[]int,int] [0=s1, 1=s2, 2=v1, 3=c] -/
def b_slices_Compare_int_int_0 : EC :=
 (.seq (.cond (.bi (.bin .lss) (.v 6) (.v 5))
  (.skip)
  (.exit 0))
 (.seq (.block 1 (.seq (.st [.sets [(2, (.un (.ld none) (.bi (.idx 1) (.v 4) (.v 6))))]])
  (.seq (.cond (.bi (.bin .geq) (.v 6) (.un .len (.v 1)))
   (.ret [.e (.c (.int .i64 1))])
   (.skip))
  (.seq (.st [.sets [(3, (.tup (.call 0 f_cmp_Compare_int) (.cons (.v 2) (.cons (.un (.ld none) (.bi (.idx 1) (.v 1) (.v 6))) .nil))))]])
  (.cond (.bi (.bin .neq) (.v 3) (.c (.int .i64 0)))
   (.ret [.e (.v 3)])
   (.skip))))))
 (.st [.sets [(6, (.bi (.bin .add) (.v 6) (.c (.int .i64 1))))]])))
def e_slices_Compare_int_int : EFunc := ⟨2, 7,
 (.seq (.seq (.st [.sets [(4, (.v 0)), (5, (.un .len (.v 0))), (6, (.c (.int .i64 0)))]])
 (.block 0 (.loop [true, true, false, false, true, true, true] b_slices_Compare_int_int_0)))
 (.seq (.cond (.bi (.bin .lss) (.un .len (.v 0)) (.un .len (.v 1)))
  (.ret [.e (.c (.int .i64 (-1)))])
  (.skip))
 (.ret [.e (.c (.int .i64 0))])))⟩
noncomputable def r30 : ERow := ⟨Go.Proofs.Try.f30, ⟨[], [(0, [true, true, false, false, false, false, false, false, false, true, true, true])]⟩, ⟨36, [0, 1, 6, 8, 9, 10, 11], [15, 23], []⟩, 2, e_slices_Compare_int_int⟩

/-- cmp.Compare[int] [0=x, 1=y, 2=yNaN] -/
def e_cmp_Compare_int : EFunc := ⟨2, 3,
 (.seq (.st [.sets [(2, (.tup (.call 0 f_cmp_isNaN_int) (.cons (.v 1) .nil)))]])
 (.seq (.cond (.tup (.call 0 f_cmp_isNaN_int) (.cons (.v 0) .nil))
  (.seq (.cond (.v 2)
   (.ret [.e (.c (.int .i64 0))])
   (.skip))
  (.ret [.e (.c (.int .i64 (-1)))]))
  (.skip))
 (.seq (.cond (.v 2)
  (.ret [.e (.c (.int .i64 1))])
  (.skip))
 (.seq (.cond (.bi (.bin .lss) (.v 0) (.v 1))
  (.ret [.e (.c (.int .i64 (-1)))])
  (.skip))
 (.seq (.cond (.bi (.bin .gtr) (.v 0) (.v 1))
  (.ret [.e (.c (.int .i64 1))])
  (.skip))
 (.ret [.e (.c (.int .i64 0))]))))))⟩
noncomputable def r31 : ERow := ⟨Go.Proofs.Try.f31, ⟨[], []⟩, ⟨20, [0, 1, 6], [], []⟩, 2, e_cmp_Compare_int⟩

/-- cmp.isNaN[int] [0=x] -/
def e_cmp_isNaN_int : EFunc := ⟨1, 1,
 (.ret [.e (.bi (.bin .neq) (.v 0) (.v 0))])⟩
noncomputable def r32 : ERow := ⟨Go.Proofs.Try.f32, ⟨[], []⟩, ⟨6, [0], [], []⟩, 1, e_cmp_isNaN_int⟩

def eT : BT EFunc := (.node 18 e_delta_Apply_1 (.node 10 e_law18_has (.node 6 e_law18_known (.node 4 e_law18_DeltaMerges (.node 3 e_law18_DeltaAny .leaf .leaf) (.node 5 e_law18_DeltaTurns .leaf .leaf)) (.node 8 e_law18_insts (.node 7 e_law18_few .leaf .leaf) (.node 9 e_delta_Diff .leaf .leaf))) (.node 14 e_delta_Merge (.node 12 e_law18_same (.node 11 e_ref15_Compare .leaf .leaf) (.node 13 e_delta_Apply .leaf .leaf)) (.node 16 e_delta_Diff_1 (.node 15 e_delta_walk .leaf .leaf) (.node 17 e_delta_apart .leaf .leaf)))) (.node 26 e_slices_Clone_int_int (.node 22 e_delta_Merge_1 (.node 20 e_delta_Apply_1_1 (.node 19 e_slices_ContainsFunc_int_int .leaf .leaf) (.node 21 e_slices_Equal_int_int .leaf .leaf)) (.node 24 e_model_Compare (.node 23 e_slices_Clip_model_Inst_model_Inst .leaf .leaf) (.node 25 e_slices_Clip_int_int .leaf .leaf))) (.node 30 e_slices_Compare_int_int (.node 28 e_slices_Clone_eval_Bind_eval_Bind (.node 27 e_slices_Clip_eval_Bind_eval_Bind .leaf .leaf) (.node 29 e_slices_IndexFunc_int_int .leaf .leaf)) (.node 32 e_cmp_isNaN_int (.node 31 e_cmp_Compare_int .leaf .leaf) .leaf))))
noncomputable def rT : BT ERow := (.node 18 r18 (.node 10 r10 (.node 6 r6 (.node 4 r4 (.node 3 r3 .leaf .leaf) (.node 5 r5 .leaf .leaf)) (.node 8 r8 (.node 7 r7 .leaf .leaf) (.node 9 r9 .leaf .leaf))) (.node 14 r14 (.node 12 r12 (.node 11 r11 .leaf .leaf) (.node 13 r13 .leaf .leaf)) (.node 16 r16 (.node 15 r15 .leaf .leaf) (.node 17 r17 .leaf .leaf)))) (.node 26 r26 (.node 22 r22 (.node 20 r20 (.node 19 r19 .leaf .leaf) (.node 21 r21 .leaf .leaf)) (.node 24 r24 (.node 23 r23 .leaf .leaf) (.node 25 r25 .leaf .leaf))) (.node 30 r30 (.node 28 r28 (.node 27 r27 .leaf .leaf) (.node 29 r29 .leaf .leaf)) (.node 32 r32 (.node 31 r31 .leaf .leaf) .leaf))))
def efns : FuncId → Option EFunc := fun f => eT.get f
noncomputable def rows : FuncId → Option ERow := fun f => rT.get f

theorem ok3 : rowB Go.Proofs.Try.prog sh r3 = some e_law18_DeltaAny := by kernel_rfl
theorem g3 : Go.Proofs.Try.prog.funcs[3]? = some Go.Proofs.Try.f3 := by kernel_rfl
theorem ok4 : rowB Go.Proofs.Try.prog sh r4 = some e_law18_DeltaMerges := by kernel_rfl
theorem g4 : Go.Proofs.Try.prog.funcs[4]? = some Go.Proofs.Try.f4 := by kernel_rfl
theorem ok5 : rowB Go.Proofs.Try.prog sh r5 = some e_law18_DeltaTurns := by kernel_rfl
theorem g5 : Go.Proofs.Try.prog.funcs[5]? = some Go.Proofs.Try.f5 := by kernel_rfl
theorem ok6 : rowB Go.Proofs.Try.prog sh r6 = some e_law18_known := by kernel_rfl
theorem g6 : Go.Proofs.Try.prog.funcs[6]? = some Go.Proofs.Try.f6 := by kernel_rfl
theorem ok7 : rowB Go.Proofs.Try.prog sh r7 = some e_law18_few := by kernel_rfl
theorem g7 : Go.Proofs.Try.prog.funcs[7]? = some Go.Proofs.Try.f7 := by kernel_rfl
theorem ok8 : rowB Go.Proofs.Try.prog sh r8 = some e_law18_insts := by kernel_rfl
theorem g8 : Go.Proofs.Try.prog.funcs[8]? = some Go.Proofs.Try.f8 := by kernel_rfl
theorem ok9 : rowB Go.Proofs.Try.prog sh r9 = some e_delta_Diff := by kernel_rfl
theorem g9 : Go.Proofs.Try.prog.funcs[9]? = some Go.Proofs.Try.f9 := by kernel_rfl
theorem ok10 : rowB Go.Proofs.Try.prog sh r10 = some e_law18_has := by kernel_rfl
theorem g10 : Go.Proofs.Try.prog.funcs[10]? = some Go.Proofs.Try.f10 := by kernel_rfl
theorem ok11 : rowB Go.Proofs.Try.prog sh r11 = some e_ref15_Compare := by kernel_rfl
theorem g11 : Go.Proofs.Try.prog.funcs[11]? = some Go.Proofs.Try.f11 := by kernel_rfl
theorem ok12 : rowB Go.Proofs.Try.prog sh r12 = some e_law18_same := by kernel_rfl
theorem g12 : Go.Proofs.Try.prog.funcs[12]? = some Go.Proofs.Try.f12 := by kernel_rfl
theorem ok13 : rowB Go.Proofs.Try.prog sh r13 = some e_delta_Apply := by kernel_rfl
theorem g13 : Go.Proofs.Try.prog.funcs[13]? = some Go.Proofs.Try.f13 := by kernel_rfl
theorem ok14 : rowB Go.Proofs.Try.prog sh r14 = some e_delta_Merge := by kernel_rfl
theorem g14 : Go.Proofs.Try.prog.funcs[14]? = some Go.Proofs.Try.f14 := by kernel_rfl
theorem ok15 : rowB Go.Proofs.Try.prog sh r15 = some e_delta_walk := by kernel_rfl
theorem g15 : Go.Proofs.Try.prog.funcs[15]? = some Go.Proofs.Try.f15 := by kernel_rfl
theorem ok16 : rowB Go.Proofs.Try.prog sh r16 = some e_delta_Diff_1 := by kernel_rfl
theorem g16 : Go.Proofs.Try.prog.funcs[16]? = some Go.Proofs.Try.f16 := by kernel_rfl
theorem ok17 : rowB Go.Proofs.Try.prog sh r17 = some e_delta_apart := by kernel_rfl
theorem g17 : Go.Proofs.Try.prog.funcs[17]? = some Go.Proofs.Try.f17 := by kernel_rfl
theorem ok18 : rowB Go.Proofs.Try.prog sh r18 = some e_delta_Apply_1 := by kernel_rfl
theorem g18 : Go.Proofs.Try.prog.funcs[18]? = some Go.Proofs.Try.f18 := by kernel_rfl
theorem ok19 : rowB Go.Proofs.Try.prog sh r19 = some e_slices_ContainsFunc_int_int := by kernel_rfl
theorem g19 : Go.Proofs.Try.prog.funcs[19]? = some Go.Proofs.Try.f19 := by kernel_rfl
theorem ok20 : rowB Go.Proofs.Try.prog sh r20 = some e_delta_Apply_1_1 := by kernel_rfl
theorem g20 : Go.Proofs.Try.prog.funcs[20]? = some Go.Proofs.Try.f20 := by kernel_rfl
theorem ok21 : rowB Go.Proofs.Try.prog sh r21 = some e_slices_Equal_int_int := by kernel_rfl
theorem g21 : Go.Proofs.Try.prog.funcs[21]? = some Go.Proofs.Try.f21 := by kernel_rfl
theorem ok22 : rowB Go.Proofs.Try.prog sh r22 = some e_delta_Merge_1 := by kernel_rfl
theorem g22 : Go.Proofs.Try.prog.funcs[22]? = some Go.Proofs.Try.f22 := by kernel_rfl
theorem ok23 : rowB Go.Proofs.Try.prog sh r23 = some e_slices_Clip_model_Inst_model_Inst := by kernel_rfl
theorem g23 : Go.Proofs.Try.prog.funcs[23]? = some Go.Proofs.Try.f23 := by kernel_rfl
theorem ok24 : rowB Go.Proofs.Try.prog sh r24 = some e_model_Compare := by kernel_rfl
theorem g24 : Go.Proofs.Try.prog.funcs[24]? = some Go.Proofs.Try.f24 := by kernel_rfl
theorem ok25 : rowB Go.Proofs.Try.prog sh r25 = some e_slices_Clip_int_int := by kernel_rfl
theorem g25 : Go.Proofs.Try.prog.funcs[25]? = some Go.Proofs.Try.f25 := by kernel_rfl
theorem ok26 : rowB Go.Proofs.Try.prog sh r26 = some e_slices_Clone_int_int := by kernel_rfl
theorem g26 : Go.Proofs.Try.prog.funcs[26]? = some Go.Proofs.Try.f26 := by kernel_rfl
theorem ok27 : rowB Go.Proofs.Try.prog sh r27 = some e_slices_Clip_eval_Bind_eval_Bind := by kernel_rfl
theorem g27 : Go.Proofs.Try.prog.funcs[27]? = some Go.Proofs.Try.f27 := by kernel_rfl
theorem ok28 : rowB Go.Proofs.Try.prog sh r28 = some e_slices_Clone_eval_Bind_eval_Bind := by kernel_rfl
theorem g28 : Go.Proofs.Try.prog.funcs[28]? = some Go.Proofs.Try.f28 := by kernel_rfl
theorem ok29 : rowB Go.Proofs.Try.prog sh r29 = some e_slices_IndexFunc_int_int := by kernel_rfl
theorem g29 : Go.Proofs.Try.prog.funcs[29]? = some Go.Proofs.Try.f29 := by kernel_rfl
theorem ok30 : rowB Go.Proofs.Try.prog sh r30 = some e_slices_Compare_int_int := by kernel_rfl
theorem g30 : Go.Proofs.Try.prog.funcs[30]? = some Go.Proofs.Try.f30 := by kernel_rfl
theorem ok31 : rowB Go.Proofs.Try.prog sh r31 = some e_cmp_Compare_int := by kernel_rfl
theorem g31 : Go.Proofs.Try.prog.funcs[31]? = some Go.Proofs.Try.f31 := by kernel_rfl
theorem ok32 : rowB Go.Proofs.Try.prog sh r32 = some e_cmp_isNaN_int := by kernel_rfl
theorem g32 : Go.Proofs.Try.prog.funcs[32]? = some Go.Proofs.Try.f32 := by kernel_rfl

theorem efns_eq : efnsOf rows = efns := efnsOf_tree rT eT rfl

theorem rows_ok : RowsOk Go.Proofs.Try.prog sh rows := rowsOk_of (t := rT) ⟨⟨g18, by rfl, ok18⟩, ⟨⟨g10, by rfl, ok10⟩, ⟨⟨g6, by rfl, ok6⟩, ⟨⟨g4, by rfl, ok4⟩, ⟨⟨g3, by rfl, ok3⟩, trivial, trivial⟩, ⟨⟨g5, by rfl, ok5⟩, trivial, trivial⟩⟩, ⟨⟨g8, by rfl, ok8⟩, ⟨⟨g7, by rfl, ok7⟩, trivial, trivial⟩, ⟨⟨g9, by rfl, ok9⟩, trivial, trivial⟩⟩⟩, ⟨⟨g14, by rfl, ok14⟩, ⟨⟨g12, by rfl, ok12⟩, ⟨⟨g11, by rfl, ok11⟩, trivial, trivial⟩, ⟨⟨g13, by rfl, ok13⟩, trivial, trivial⟩⟩, ⟨⟨g16, by rfl, ok16⟩, ⟨⟨g15, by rfl, ok15⟩, trivial, trivial⟩, ⟨⟨g17, by rfl, ok17⟩, trivial, trivial⟩⟩⟩⟩, ⟨⟨g26, by rfl, ok26⟩, ⟨⟨g22, by rfl, ok22⟩, ⟨⟨g20, by rfl, ok20⟩, ⟨⟨g19, by rfl, ok19⟩, trivial, trivial⟩, ⟨⟨g21, by rfl, ok21⟩, trivial, trivial⟩⟩, ⟨⟨g24, by rfl, ok24⟩, ⟨⟨g23, by rfl, ok23⟩, trivial, trivial⟩, ⟨⟨g25, by rfl, ok25⟩, trivial, trivial⟩⟩⟩, ⟨⟨g30, by rfl, ok30⟩, ⟨⟨g28, by rfl, ok28⟩, ⟨⟨g27, by rfl, ok27⟩, trivial, trivial⟩, ⟨⟨g29, by rfl, ok29⟩, trivial, trivial⟩⟩, ⟨⟨g32, by rfl, ok32⟩, ⟨⟨g31, by rfl, ok31⟩, trivial, trivial⟩, trivial⟩⟩⟩⟩

theorem follows_ok : Go.Proofs.Try.prog.follows .mixedOrders = true := by kernel_rfl

end Go.Proofs.YtngkdpiajikcjaaPe.DeltaCode
