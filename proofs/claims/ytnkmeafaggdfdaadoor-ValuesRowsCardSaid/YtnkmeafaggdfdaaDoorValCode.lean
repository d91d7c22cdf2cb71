/- THE CODES of the functions that the laws reach, told by expressions, and that they are the program's own (made by program: tool/gen.py, tool/code.py). -/
import Derived.Test.YtnkmeafaggdfdaaDoorEcRow
import Derived.Test.YtnkmeafaggdfdaaDoorProg
import Derived.KernelRfl
set_option maxRecDepth 100000
set_option linter.unusedVariables false
namespace Go.Proofs.YtnkmeafaggdfdaaDoorPe.ValCode
open Go Go.Proofs.YtnkmeafaggdfdaaDoorPe

abbrev f_law3_ValuesWords : Nat := 3
abbrev f_law3_ValuesRows : Nat := 4
abbrev f_law3_ValuesThree : Nat := 5
abbrev f_law3_ValuesMade : Nat := 6
abbrev f_law3_known : Nat := 7
abbrev f_law3_few : Nat := 8
abbrev f_ref3_Right : Nat := 9
abbrev f_val_Quote : Nat := 10
abbrev f_val_Text : Nat := 11
abbrev f_ref3_Text : Nat := 12
abbrev f_ref3_Quote : Nat := 13
abbrev f_val_Hash : Nat := 14
abbrev f_ref3_Rows : Nat := 15
abbrev f_val_Compare : Nat := 16
abbrev f_val_OfInt : Nat := 17
abbrev f_val_OfSym : Nat := 18
abbrev f_val_OfStr : Nat := 19
abbrev f_val_OfBool : Nat := 20
abbrev f_ref3_Same : Nat := 21
abbrev f_ref3_Int : Nat := 22
abbrev f_ref3_Sym : Nat := 23
abbrev f_ref3_Str : Nat := 24
abbrev f_ref3_Bool : Nat := 25
abbrev f_val_True : Nat := 26
abbrev f_val_Right : Nat := 27
abbrev f_val_Same : Nat := 28
abbrev f_ref1_Shape : Nat := 29
abbrev f_ref3_Sign : Nat := 30
abbrev f_strings_Builder_WriteByte : Nat := 31
abbrev f_strings_Builder_String : Nat := 32
abbrev f_num_Text : Nat := 33
abbrev f_strings_Clone : Nat := 34
abbrev f_ref1_Text : Nat := 35
abbrev f_strings_Builder_WriteString : Nat := 36
abbrev f_strconv_Itoa : Nat := 37
abbrev f_cmp_Or_int : Nat := 38
abbrev f_cmp_Compare_int : Nat := 39
abbrev f_cmp_Compare_int64 : Nat := 40
abbrev f_cmp_Compare_string : Nat := 41
abbrev f_val_symbol : Nat := 42
abbrev f_strings_Builder_copyCheck : Nat := 43
abbrev f_strconv_FormatInt : Nat := 44
abbrev f_internal_stringslite_Clone : Nat := 45
abbrev f_ref1_size : Nat := 46
abbrev f_internal_strconv_Itoa : Nat := 47
abbrev f_cmp_isNaN_int : Nat := 48
abbrev f_cmp_isNaN_int64 : Nat := 49
abbrev f_cmp_isNaN_string : Nat := 50
abbrev f_val_sign : Nat := 51
abbrev f_num_Parse : Nat := 52
abbrev f_internal_strconv_FormatInt : Nat := 54
abbrev f_strings_HasPrefix : Nat := 55
abbrev f_num_Mul : Nat := 56
abbrev f_num_Sub : Nat := 57
abbrev f_internal_stringslite_HasPrefix : Nat := 62
abbrev f_math_bits_Mul64 : Nat := 63
abbrev f_num_abs : Nat := 64
abbrev T_byte : Nat := 5
abbrev T_bld : Nat := 43
abbrev T_law3_ValuesWords_0 : Nat := 23
abbrev T_law3_ValuesThree_0 : Nat := 23
abbrev T_law3_ValuesMade_0 : Nat := 23
abbrev T_law3_known_0 : Nat := 23
abbrev T_law3_few_0 : Nat := 23
abbrev T_ref3_Right_0 : Nat := 23
abbrev T_val_Text_0 : Nat := 23
abbrev T_ref3_Text_0 : Nat := 23
abbrev T_val_Hash_0 : Nat := 23
abbrev T_val_Compare_0 : Nat := 23
abbrev T_val_OfInt_0 : Nat := 23
abbrev T_val_OfSym_0 : Nat := 23
abbrev T_val_OfStr_0 : Nat := 23
abbrev T_val_OfBool_0 : Nat := 23
abbrev T_ref3_Same_0 : Nat := 23
abbrev T_ref3_Int_0 : Nat := 23
abbrev T_ref3_Sym_0 : Nat := 23
abbrev T_ref3_Str_0 : Nat := 23
abbrev T_ref3_Bool_0 : Nat := 23
abbrev T_val_True_0 : Nat := 23
abbrev T_val_Right_0 : Nat := 23
abbrev T_val_Same_0 : Nat := 23

def sh : Nat → Nat
  | 31 => 3
  | 32 => 3
  | 36 => 3
  | 43 => 3
  | _ => 0

/-- whelk/whelklaw3.ValuesWords [0=v, 1=v, 2=q, 3=back, 4=i] -/
def b_law3_ValuesWords_0 : EC :=
 (.seq (.cond (.bi (.bin .lss) (.v 4) (.bi (.bin .sub) (.un .slen (.v 2)) (.c (.int .i64 1))))
  (.skip)
  (.exit 0))
 (.seq (.block 1 (.seq (.cond (.bi (.bin .eql) (.bi .sidx (.v 2) (.v 4)) (.c (.int .u8 92)))
   (.st [.sets [(4, (.bi (.bin .add) (.v 4) (.c (.int .i64 1))))]])
   (.skip))
  (.st [.sets [(3, (.bi (.bin .add) (.v 3) (.ssub true true (.v 2) (.v 4) (.bi (.bin .add) (.v 4) (.c (.int .i64 1))))))]])))
 (.st [.sets [(4, (.bi (.bin .add) (.v 4) (.c (.int .i64 1))))]])))
def e_law3_ValuesWords : EFunc := ⟨1, 17,
 (.seq (.st [.eff (some 1) none (.box 3 T_law3_ValuesWords_0 (.v 0))])
 (.seq (.cond (.un .not (.tup (.call 0 f_law3_known) .nil))
  (.ret [.e (.c (.bool false))])
  (.skip))
 (.seq (.seq (.st [.eff (some 5) none (.load (some 3) (.v 1)),
   .sets [(6, (.tup (.call 0 f_law3_few) (.cons (.v 5) .nil)))],
   .eff (some 7) (some ((.un .not (.v 6)), false)) (.load (some 3) (.v 1))])
 (.cond (.pick (.un .not (.v 6)) (.c (.bool true)) (.un .not (.tup (.call 0 f_ref3_Right) (.cons (.v 7) .nil))))
  (.ret [.e (.c (.bool true))])
  (.skip)))
 (.seq (.st [.eff (some 8) none (.load none (.un (.off 2) (.v 1))),
   .sets [(2, (.tup (.call 0 f_val_Quote) (.cons (.v 8) .nil)))]])
 (.seq (.st [.sets [(3, (.c (.str [])))]])
 (.seq (.seq (.st [.sets [(4, (.c (.int .i64 1)))]])
 (.block 0 (.loop [false, true, true, true, true, false, false, false, false, false, false, false, false, false, false, false, false] b_law3_ValuesWords_0)))
 (.seq (.st [.eff (some 9) none (.load (some 3) (.v 1)),
   .eff (some 11) none (.load (some 3) (.v 1)),
   .sets [(10, (.tup (.call 0 f_val_Text) (.cons (.v 9) .nil))), (12, (.tup (.call 0 f_ref3_Text) (.cons (.v 11) .nil)))],
   .sets [(13, (.gd true (.bi (.bin .eql) (.v 10) (.v 12)) (.un (.off 2) (.v 1))))],
   .eff (some 14) (some ((.bi (.bin .eql) (.v 10) (.v 12)), true)) (.load none (.v 13)),
   .sets [(15, (.gd true (.bi (.bin .eql) (.v 10) (.v 12)) (.tup (.call 0 f_ref3_Quote) (.cons (.v 14) .nil))))],
   .eff (some 16) (some ((.pick (.bi (.bin .eql) (.v 10) (.v 12)) (.bi (.bin .eql) (.v 2) (.v 15)) (.c (.bool false))), true)) (.load none (.un (.off 2) (.v 1)))])
 (.ret [.e (.pick (.pick (.bi (.bin .eql) (.v 10) (.v 12)) (.bi (.bin .eql) (.v 2) (.v 15)) (.c (.bool false))) (.bi (.bin .eql) (.v 3) (.v 16)) (.c (.bool false)))]))))))))⟩
noncomputable def r3 : ERow := ⟨Go.Proofs.Tryd.f3, ⟨[(13, (.cons 1 0 (.cons 1 2 (.cons 2 1 (.cons 2 3 (.cons 0 4 (.cons 0 5 (.cons 0 6 (.cons 0 7 (.cons 1 8 (.cons 2 9 (.cons 0 10 (.cons 0 11 (.cons 0 12 (.cons 0 13 (.cons 0 14 (.cons 1 15 (.cons 0 16 (.cons 0 17 (.cons 0 18 .nil))))))))))))))))))))], [(0, [false, true, false, true, true, true])]⟩, ⟨57, [0, 1, 3, 4, 5, 8, 9, 12, 17, 39, 40, 41, 42, 46, 47, 48, 54], [], [9, 42, 48]⟩, 1, e_law3_ValuesWords⟩

/-- whelk/whelklaw3.ValuesRows [0=a, 1=b, 2=i, 3=i] -/
def b_law3_ValuesRows_0 : EC :=
 (.seq (.cond (.bi (.bin .lss) (.v 2) (.un .len (.v 0)))
  (.skip)
  (.exit 0))
 (.seq (.block 1 (.cond (.un .not (.tup (.call 0 f_law3_few) (.cons (.un (.ld (some 3)) (.bi (.idx 3) (.v 0) (.v 2))) .nil)))
   (.ret [.e (.c (.bool true))])
   (.skip)))
 (.st [.sets [(2, (.bi (.bin .add) (.v 2) (.c (.int .i64 1))))]])))
def b_law3_ValuesRows_1 : EC :=
 (.seq (.cond (.bi (.bin .lss) (.v 3) (.un .len (.v 1)))
  (.skip)
  (.exit 2))
 (.seq (.block 3 (.cond (.un .not (.tup (.call 0 f_law3_few) (.cons (.un (.ld (some 3)) (.bi (.idx 3) (.v 1) (.v 3))) .nil)))
   (.ret [.e (.c (.bool true))])
   (.skip)))
 (.st [.sets [(3, (.bi (.bin .add) (.v 3) (.c (.int .i64 1))))]])))
def e_law3_ValuesRows : EFunc := ⟨2, 4,
 (.seq (.cond (.un .not (.tup (.call 0 f_law3_known) .nil))
  (.ret [.e (.c (.bool false))])
  (.skip))
 (.seq (.cond (.pick (.bi (.bin .gtr) (.un .len (.v 0)) (.c (.int .i64 20))) (.c (.bool true)) (.bi (.bin .gtr) (.un .len (.v 1)) (.c (.int .i64 20))))
  (.ret [.e (.c (.bool true))])
  (.skip))
 (.seq (.seq (.st [.sets [(2, (.c (.int .i64 0)))]])
 (.block 0 (.loop [true, true, true, false] b_law3_ValuesRows_0)))
 (.seq (.seq (.st [.sets [(3, (.c (.int .i64 0)))]])
 (.block 2 (.loop [true, true, false, true] b_law3_ValuesRows_1)))
 (.ret [.e (.bi (.eqs 0 false) (.bi (.bin .eql) (.tup (.call 0 f_val_Hash) (.cons (.v 0) .nil)) (.tup (.call 0 f_val_Hash) (.cons (.v 1) .nil))) (.tup (.call 0 f_ref3_Rows) (.cons (.v 0) (.cons (.v 1) .nil))))])))))⟩
noncomputable def r4 : ERow := ⟨Go.Proofs.Tryd.f4, ⟨[], [(0, [true, true, false, false, false, true]), (2, [true, true, false, false, false, false, true])]⟩, ⟨50, [0, 1, 5, 6], [26, 38], []⟩, 2, e_law3_ValuesRows⟩

/-- whelk/whelklaw3.ValuesThree [0=a, 1=b, 2=c, 3=a, 4=b, 5=c, 6=x, 7=y, 8=z] -/
def e_law3_ValuesThree : EFunc := ⟨3, 20,
 (.seq (.st [.eff (some 3) none (.box 3 T_law3_ValuesThree_0 (.v 0)),
   .eff (some 4) none (.box 3 T_law3_ValuesThree_0 (.v 1)),
   .eff (some 5) none (.box 3 T_law3_ValuesThree_0 (.v 2))])
 (.seq (.cond (.un .not (.tup (.call 0 f_law3_known) .nil))
  (.ret [.e (.c (.bool false))])
  (.skip))
 (.seq (.seq (.st [.eff (some 9) none (.load (some 3) (.v 3)),
   .sets [(10, (.tup (.call 0 f_law3_few) (.cons (.v 9) .nil)))],
   .eff (some 11) (some ((.un .not (.v 10)), false)) (.load (some 3) (.v 4)),
   .sets [(12, (.gd false (.un .not (.v 10)) (.tup (.call 0 f_law3_few) (.cons (.v 11) .nil))))],
   .eff (some 13) (some ((.pick (.un .not (.v 10)) (.c (.bool true)) (.un .not (.v 12))), false)) (.load (some 3) (.v 5))])
 (.cond (.pick (.pick (.un .not (.v 10)) (.c (.bool true)) (.un .not (.v 12))) (.c (.bool true)) (.un .not (.tup (.call 0 f_law3_few) (.cons (.v 13) .nil))))
  (.ret [.e (.c (.bool true))])
  (.skip)))
 (.seq (.st [.eff (some 14) none (.load (some 3) (.v 3)),
   .eff (some 15) none (.load (some 3) (.v 4)),
   .sets [(6, (.tup (.call 0 f_val_Compare) (.cons (.v 14) (.cons (.v 15) .nil))))]])
 (.seq (.st [.eff (some 16) none (.load (some 3) (.v 4)),
   .eff (some 17) none (.load (some 3) (.v 5)),
   .sets [(7, (.tup (.call 0 f_val_Compare) (.cons (.v 16) (.cons (.v 17) .nil))))]])
 (.seq (.st [.eff (some 18) none (.load (some 3) (.v 3)),
   .eff (some 19) none (.load (some 3) (.v 5)),
   .sets [(8, (.tup (.call 0 f_val_Compare) (.cons (.v 18) (.cons (.v 19) .nil))))]])
 (.ret [.e (.pick (.pick (.pick (.bi (.bin .gtr) (.v 6) (.c (.int .i64 0))) (.c (.bool true)) (.bi (.bin .gtr) (.v 7) (.c (.int .i64 0)))) (.c (.bool true)) (.bi (.bin .leq) (.v 8) (.c (.int .i64 0)))) (.pick (.pick (.bi (.bin .lss) (.v 6) (.c (.int .i64 0))) (.c (.bool true)) (.bi (.bin .lss) (.v 7) (.c (.int .i64 0)))) (.c (.bool true)) (.bi (.bin .geq) (.v 8) (.c (.int .i64 0)))) (.c (.bool false)))])))))))⟩
noncomputable def r5 : ERow := ⟨Go.Proofs.Tryd.f5, ⟨[], []⟩, ⟨56, [0, 1, 2, 3, 4, 5, 7, 8, 9, 12, 13, 16, 17, 21, 25, 26, 28, 29, 31, 32], [], [13, 17]⟩, 3, e_law3_ValuesThree⟩

/-- whelk/whelklaw3.ValuesMade [0=i, 1=s, 2=b, 3=x, 4=y, 5=z, 6=t] -/
def e_law3_ValuesMade : EFunc := ⟨3, 28,
 (.seq (.cond (.un .not (.tup (.call 0 f_law3_known) .nil))
  (.ret [.e (.c (.bool false))])
  (.skip))
 (.seq (.cond (.bi (.bin .gtr) (.un .slen (.v 1)) (.c (.int .i64 1000)))
  (.ret [.e (.c (.bool true))])
  (.skip))
 (.seq (.st [.eff (some 3) none (.zbox [(.int .i64 0), (.int .i64 0), (.str [])] T_law3_ValuesMade_0),
   .eff none none (.store 3 (.v 3) (.tup (.call 0 f_val_OfInt) (.cons (.v 0) .nil)))])
 (.seq (.st [.eff (some 4) none (.zbox [(.int .i64 0), (.int .i64 0), (.str [])] T_law3_ValuesMade_0),
   .eff none none (.store 3 (.v 4) (.tup (.call 0 f_val_OfSym) (.cons (.v 1) .nil)))])
 (.seq (.st [.eff (some 5) none (.zbox [(.int .i64 0), (.int .i64 0), (.str [])] T_law3_ValuesMade_0),
   .eff none none (.store 3 (.v 5) (.tup (.call 0 f_val_OfStr) (.cons (.v 1) .nil)))])
 (.seq (.st [.eff (some 6) none (.zbox [(.int .i64 0), (.int .i64 0), (.str [])] T_law3_ValuesMade_0),
   .eff none none (.store 3 (.v 6) (.tup (.call 0 f_val_OfBool) (.cons (.v 2) .nil)))])
 (.seq (.st [.eff (some 7) none (.load (some 3) (.v 3)),
   .sets [(8, (.tup (.call 0 f_ref3_Same) (.cons (.v 7) (.cons (.tup (.call 0 f_ref3_Int) (.cons (.v 0) .nil)) .nil))))],
   .eff (some 9) (some ((.v 8), true)) (.load (some 3) (.v 4)),
   .sets [(10, (.gd true (.v 8) (.tup (.call 0 f_ref3_Same) (.cons (.v 9) (.cons (.tup (.call 0 f_ref3_Sym) (.cons (.v 1) .nil)) .nil)))))],
   .sets [(11, (.pick (.v 8) (.v 10) (.c (.bool false)))), (13, (.gd true (.pick (.v 8) (.v 10) (.c (.bool false))) (.v 1)))],
   .eff (some 12) (some ((.v 11), true)) (.load (some 3) (.v 5)),
   .sets [(14, (.gd true (.v 11) (.tup (.call 0 f_ref3_Same) (.cons (.v 12) (.cons (.tup (.call 0 f_ref3_Str) (.cons (.v 13) .nil)) .nil)))))],
   .sets [(15, (.pick (.v 11) (.v 14) (.c (.bool false)))), (17, (.gd true (.pick (.v 11) (.v 14) (.c (.bool false))) (.v 2)))],
   .eff (some 16) (some ((.v 15), true)) (.load (some 3) (.v 6)),
   .sets [(18, (.gd true (.v 15) (.tup (.call 0 f_ref3_Same) (.cons (.v 16) (.cons (.tup (.call 0 f_ref3_Bool) (.cons (.v 17) .nil)) .nil)))))],
   .sets [(19, (.pick (.v 15) (.v 18) (.c (.bool false)))), (22, (.gd true (.pick (.v 15) (.v 18) (.c (.bool false))) (.v 2)))],
   .eff (some 20) (some ((.v 19), true)) (.load (some 3) (.v 6)),
   .sets [(21, (.gd true (.v 19) (.tup (.call 0 f_val_True) (.cons (.v 20) .nil))))],
   .eff (some 23) (some ((.pick (.v 19) (.bi (.eqs 0 false) (.v 21) (.v 22)) (.c (.bool false))), true)) (.load (some 3) (.v 3)),
   .sets [(24, (.pick (.pick (.v 19) (.bi (.eqs 0 false) (.v 21) (.v 22)) (.c (.bool false))) (.tup (.call 0 f_val_Right) (.cons (.v 23) .nil)) (.c (.bool false))))],
   .eff (some 25) (some ((.v 24), true)) (.load (some 3) (.v 5)),
   .sets [(26, (.gd true (.v 24) (.tup (.call 0 f_val_Right) (.cons (.v 25) .nil))))],
   .eff (some 27) (some ((.pick (.v 24) (.v 26) (.c (.bool false))), true)) (.load (some 3) (.v 6))])
 (.ret [.e (.pick (.pick (.v 24) (.v 26) (.c (.bool false))) (.tup (.call 0 f_val_Right) (.cons (.v 27) .nil)) (.c (.bool false)))]))))))))⟩
noncomputable def r6 : ERow := ⟨Go.Proofs.Tryd.f6, ⟨[(9, (.cons 0 1 (.cons 1 0 (.cons 2 2 (.cons 2 3 (.cons 0 4 (.cons 0 6 (.cons 1 5 (.cons 2 7 (.cons 2 8 (.cons 0 9 (.cons 0 10 (.cons 0 12 (.cons 1 11 (.cons 2 13 (.cons 2 14 (.cons 0 15 (.cons 0 16 (.cons 0 18 (.cons 1 17 (.cons 2 19 (.cons 2 20 (.cons 0 21 (.cons 0 22 (.cons 0 25 (.cons 1 23 (.cons 2 24 (.cons 0 26 (.cons 0 27 (.cons 0 28 (.cons 1 29 (.cons 2 30 (.cons 0 31 (.cons 0 32 (.cons 1 33 (.cons 2 34 (.cons 0 35 (.cons 0 36 (.cons 1 37 (.cons 2 38 (.cons 0 39 (.cons 0 40 .nil))))))))))))))))))))))))))))))))))))))))))], []⟩, ⟨64, [0, 1, 2, 7, 8, 9, 10, 24, 27, 29, 32, 34, 35, 36, 38, 40, 41, 42, 44, 46, 47, 48, 49, 53, 56, 57, 58, 61], [], [27, 32, 38, 44, 48, 58]⟩, 3, e_law3_ValuesMade⟩

/-- whelk/whelklaw3.known [0=a, 1=b, 2=c] -/
def e_law3_known : EFunc := ⟨0, 24,
 (.seq (.st [.eff (some 0) none (.zbox [(.int .i64 0), (.int .i64 0), (.str [])] T_law3_known_0),
   .eff none none (.store 3 (.v 0) (.tup (.call 0 f_val_OfInt) (.cons (.c (.int .i64 5)) .nil)))])
 (.seq (.st [.eff (some 1) none (.zbox [(.int .i64 0), (.int .i64 0), (.str [])] T_law3_known_0),
   .eff none none (.store 3 (.v 1) (.tup (.call 0 f_val_OfSym) (.cons (.c (.str [120])) .nil)))])
 (.seq (.st [.eff (some 2) none (.zbox [(.int .i64 0), (.int .i64 0), (.str [])] T_law3_known_0),
   .eff none none (.store 3 (.v 2) (.tup (.call 0 f_val_OfStr) (.cons (.c (.str [113, 34, 114])) .nil)))])
 (.seq (.st [.eff (some 3) none (.load none (.un (.off 1) (.v 0))),
   .eff (some 4) (some ((.bi (.bin .eql) (.v 3) (.c (.int .i64 5))), true)) (.load (some 3) (.v 1)),
   .sets [(5, (.gd true (.bi (.bin .eql) (.v 3) (.c (.int .i64 5))) (.tup (.call 0 f_val_Text) (.cons (.v 4) .nil))))],
   .eff (some 6) (some ((.pick (.bi (.bin .eql) (.v 3) (.c (.int .i64 5))) (.bi (.bin .eql) (.v 5) (.c (.str [120]))) (.c (.bool false))), true)) (.load (some 3) (.v 2)),
   .sets [(7, (.pick (.pick (.bi (.bin .eql) (.v 3) (.c (.int .i64 5))) (.bi (.bin .eql) (.v 5) (.c (.str [120]))) (.c (.bool false))) (.bi (.bin .eql) (.tup (.call 0 f_val_Text) (.cons (.v 6) .nil)) (.c (.str [34, 113, 92, 34, 114, 34]))) (.c (.bool false))))],
   .eff (some 8) (some ((.v 7), true)) (.load (some 3) (.v 0)),
   .eff (some 9) (some ((.v 7), true)) (.load (some 3) (.v 1)),
   .sets [(10, (.pick (.v 7) (.bi (.bin .eql) (.tup (.call 0 f_val_Compare) (.cons (.v 8) (.cons (.v 9) .nil))) (.c (.int .i64 (-1)))) (.c (.bool false))))],
   .eff (some 11) (some ((.v 10), true)) (.load (some 3) (.v 0)),
   .eff (some 12) (some ((.v 10), true)) (.load (some 3) (.v 0)),
   .sets [(13, (.gd true (.v 10) (.tup (.call 0 f_val_Same) (.cons (.v 11) (.cons (.v 12) .nil)))))],
   .eff (some 14) (some ((.pick (.v 10) (.v 13) (.c (.bool false))), true)) (.load (some 3) (.v 0)),
   .eff (some 15) (some ((.pick (.v 10) (.v 13) (.c (.bool false))), true)) (.load (some 3) (.v 1)),
   .sets [(16, (.pick (.pick (.v 10) (.v 13) (.c (.bool false))) (.un .not (.tup (.call 0 f_val_Same) (.cons (.v 14) (.cons (.v 15) .nil)))) (.c (.bool false))))],
   .eff (some 17) (some ((.v 16), true)) (.load (some 3) (.v 0)),
   .sets [(18, (.gd true (.v 16) (.tup (.call 0 f_val_True) (.cons (.v 17) .nil))))],
   .sets [(19, (.gd true (.pick (.v 16) (.v 18) (.c (.bool false))) (.tup (.call 0 f_val_True) (.cons (.tup (.call 0 f_val_OfBool) (.cons (.c (.bool false)) .nil)) .nil))))],
   .eff (some 20) (some ((.pick (.pick (.v 16) (.v 18) (.c (.bool false))) (.un .not (.v 19)) (.c (.bool false))), true)) (.load (some 3) (.v 2)),
   .sets [(21, (.pick (.pick (.pick (.pick (.v 16) (.v 18) (.c (.bool false))) (.un .not (.v 19)) (.c (.bool false))) (.tup (.call 0 f_val_Right) (.cons (.v 20) .nil)) (.c (.bool false))) (.un .not (.tup (.call 0 f_val_Right) (.cons (.tup (.call 0 f_val_OfSym) (.cons (.c (.str [53])) .nil)) .nil))) (.c (.bool false))))],
   .eff (some 22) (some ((.v 21), true)) (.load (some 3) (.v 0)),
   .eff (some 23) (some ((.v 21), true)) (.load (some 3) (.v 1))])
 (.ret [.e (.pick (.v 21) (.bi (.bin .neq) (.tup (.call 0 f_val_Hash) (.cons (.tup (.bslice 3 [(.int .i64 0), (.int .i64 0), (.str [])] 1 [0]) (.cons (.v 22) .nil)) .nil)) (.tup (.call 0 f_val_Hash) (.cons (.tup (.bslice 3 [(.int .i64 0), (.int .i64 0), (.str [])] 1 [0]) (.cons (.v 23) .nil)) .nil))) (.c (.bool false)))])))))⟩
noncomputable def r7 : ERow := ⟨Go.Proofs.Tryd.f7, ⟨[(4, (.cons 0 0 (.cons 1 1 (.cons 0 2 (.cons 0 3 (.cons 1 4 (.cons 2 5 (.cons 0 6 (.cons 0 7 (.cons 0 8 (.cons 1 9 (.cons 2 10 (.cons 0 11 (.cons 0 12 (.cons 0 13 (.cons 1 14 (.cons 1 15 (.cons 2 16 (.cons 0 17 (.cons 0 18 (.cons 0 19 (.cons 1 20 (.cons 1 21 (.cons 2 22 (.cons 0 23 (.cons 0 24 (.cons 1 25 (.cons 1 26 (.cons 2 27 (.cons 0 28 (.cons 0 29 (.cons 0 30 (.cons 1 31 (.cons 2 32 (.cons 0 33 (.cons 0 34 (.cons 2 35 (.cons 2 36 (.cons 0 37 (.cons 0 38 (.cons 0 39 (.cons 1 40 (.cons 2 41 (.cons 0 42 (.cons 0 43 (.cons 2 44 (.cons 2 45 (.cons 0 46 (.cons 0 47 (.cons 0 48 (.cons 1 49 (.cons 1 52 (.alt (.cons 2 50 (.alt (.cons 2 51 (.cons 2 53 (.cons 2 54 (.cons 0 55 (.cons 0 56 (.cons 0 57 .nil)))))) (.cons 2 53 (.cons 2 51 (.cons 2 54 (.cons 0 55 (.cons 0 56 (.cons 0 57 .nil)))))))) (.cons 2 53 (.cons 2 50 (.cons 2 51 (.cons 2 54 (.cons 0 55 (.cons 0 56 (.cons 0 57 .nil))))))))))))))))))))))))))))))))))))))))))))))))))))))))))))], []⟩, ⟨64, [1, 2, 3, 8, 11, 12, 16, 20, 21, 22, 26, 27, 28, 29, 32, 33, 37, 38, 39, 43, 47, 55, 56, 59], [], [12, 29, 39, 43]⟩, 0, e_law3_known⟩

/-- whelk/whelklaw3.few [0=v, 1=v] -/
def e_law3_few : EFunc := ⟨1, 3,
 (.seq (.st [.eff (some 1) none (.box 3 T_law3_few_0 (.v 0))])
 (.seq (.st [.eff (some 2) none (.load none (.un (.off 2) (.v 1)))])
 (.ret [.e (.bi (.bin .leq) (.un .slen (.v 2)) (.c (.int .i64 1100)))])))⟩
noncomputable def r8 : ERow := ⟨Go.Proofs.Tryd.f8, ⟨[], []⟩, ⟨7, [0, 1, 4], [], []⟩, 1, e_law3_few⟩

/-- whelk/whelkref3.Right [0=v, 1=v, 2=ok, 3=i] -/
def b_ref3_Right_0 : EC :=
 (.seq (.seq (.st [.eff (some 12) none (.load none (.un (.off 2) (.v 1)))])
 (.cond (.bi (.bin .lss) (.v 3) (.un .slen (.v 12)))
  (.skip)
  (.exit 1)))
 (.seq (.block 2 (.st [.eff (some 13) (some ((.v 2), true)) (.load none (.un (.off 2) (.v 1))),
    .sets [(2, (.pick (.v 2) (.tup (.call 0 f_ref3_Sign) (.cons (.bi .sidx (.v 13) (.v 3)) .nil)) (.c (.bool false))))]]))
 (.st [.sets [(3, (.bi (.bin .add) (.v 3) (.c (.int .i64 1))))]])))
def e_ref3_Right : EFunc := ⟨1, 16,
 (.seq (.st [.eff (some 1) none (.box 3 T_ref3_Right_0 (.v 0))])
 (.seq (.seq (.st [.eff (some 4) none (.load none (.un (.off 0) (.v 1)))])
 (.block 0 (.cond (.bi (.bin .eql) (.v 4) (.c (.int .i64 1)))
   (.seq (.st [.eff (some 5) none (.load none (.un (.off 2) (.v 1)))])
   (.ret [.e (.bi (.bin .eql) (.v 5) (.c (.str [])))]))
   (.cond (.bi (.bin .eql) (.v 4) (.c (.int .i64 2)))
    (.seq (.st [.eff (some 6) none (.load none (.un (.off 1) (.v 1))),
      .eff (some 7) (some ((.bi (.bin .eql) (.v 6) (.c (.int .i64 0))), true)) (.load none (.un (.off 2) (.v 1))),
      .sets [(8, (.pick (.bi (.bin .eql) (.v 6) (.c (.int .i64 0))) (.bi (.bin .geq) (.un .slen (.v 7)) (.c (.int .i64 1))) (.c (.bool false)))), (9, (.gd true (.pick (.bi (.bin .eql) (.v 6) (.c (.int .i64 0))) (.bi (.bin .geq) (.un .slen (.v 7)) (.c (.int .i64 1))) (.c (.bool false))) (.un (.off 2) (.v 1))))],
      .eff (some 10) (some ((.v 8), true)) (.load none (.v 9)),
      .eff (some 11) (some ((.pick (.v 8) (.bi (.bin .leq) (.un .slen (.v 10)) (.c (.int .i64 40))) (.c (.bool false))), true)) (.load none (.un (.off 2) (.v 1))),
      .sets [(2, (.pick (.pick (.v 8) (.bi (.bin .leq) (.un .slen (.v 10)) (.c (.int .i64 40))) (.c (.bool false))) (.un .not (.tup (.call 0 f_ref1_Shape) (.cons (.v 11) .nil))) (.c (.bool false))))]])
    (.seq (.seq (.st [.sets [(3, (.c (.int .i64 0)))]])
    (.block 1 (.loop [false, true, true, true, false, false, false, false, false, false, false, false, false, false, false, false] b_ref3_Right_0)))
    (.ret [.e (.v 2)])))
    (.cond (.bi (.bin .eql) (.v 4) (.c (.int .i64 3)))
     (.seq (.st [.eff (some 14) none (.load none (.un (.off 1) (.v 1))),
       .eff (some 15) (some ((.bi (.bin .eql) (.v 14) (.c (.int .i64 0))), true)) (.load none (.un (.off 2) (.v 1)))])
     (.ret [.e (.pick (.bi (.bin .eql) (.v 14) (.c (.int .i64 0))) (.bi (.bin .leq) (.un .slen (.v 15)) (.c (.int .i64 1000))) (.c (.bool false)))]))
     (.skip))))))
 (.ret [.e (.c (.bool false))])))⟩
noncomputable def r9 : ERow := ⟨Go.Proofs.Tryd.f9, ⟨[], [(1, [false, true, false, true, true])]⟩, ⟨62, [0, 1, 3, 4, 6, 10, 15, 19, 23, 24, 25, 31, 37, 45, 54, 58], [], []⟩, 1, e_ref3_Right⟩

/-- whelk/val.Quote [0=s, 1=out, 2=i] -/
def b_val_Quote_0 : EC :=
 (.seq (.cond (.bi (.bin .lss) (.v 4) (.v 3))
  (.skip)
  (.exit 0))
 (.seq (.block 1 (.seq (.st [.sets [(2, (.v 4))]])
  (.seq (.block 2 (.seq (.seq (.st [.sets [(5, (.bi (.bin .eql) (.bi .sidx (.v 0) (.v 2)) (.c (.int .u8 34))))]])
   (.cond (.v 5)
    (.skip)
    (.st [.sets [(5, (.bi (.bin .eql) (.bi .sidx (.v 0) (.v 2)) (.c (.int .u8 92))))]])))
   (.cond (.v 5)
    (.st [.eff none none (.calls [true, true, true, true, true, true, true, true, true, true, true, true, true, true, true, true] f_strings_Builder_WriteByte (.cons (.v 1) (.cons (.c (.int .u8 92)) .nil)))])
    (.skip))))
  (.st [.eff none none (.calls [true, true, true, true, true, true, true, true, true, true, true, true, true, true, true, true] f_strings_Builder_WriteByte (.cons (.v 1) (.cons (.bi .sidx (.v 0) (.v 2)) .nil)))]))))
 (.st [.sets [(4, (.bi (.bin .add) (.v 4) (.c (.int .i64 1))))]])))
def e_val_Quote : EFunc := ⟨1, 7,
 (.seq (.st [.eff (some 1) none (.zbox [.nilp, .nils] T_bld)])
 (.seq (.st [.eff none none (.calls [true, true, true, true, true, true, true, true, true, true, true, true, true, true, true, true] f_strings_Builder_WriteByte (.cons (.v 1) (.cons (.c (.int .u8 34)) .nil)))])
 (.seq (.seq (.st [.sets [(3, (.un .slen (.v 0))), (4, (.c (.int .i64 0)))]])
 (.block 0 (.loop [true, true, false, true, true, false, false] b_val_Quote_0)))
 (.seq (.st [.eff none none (.calls [true, true, true, true, true, true, true, true, true, true, true, true, true, true, true, true] f_strings_Builder_WriteByte (.cons (.v 1) (.cons (.c (.int .u8 34)) .nil)))])
 (.seq (.st [.eff (some 6) none (.calls [true, true, true, true, true, true, true, true, true, true, true, true, true, true, true, true] f_strings_Builder_String (.cons (.v 1) .nil))])
 (.ret [.e (.v 6)]))))))⟩
noncomputable def r10 : ERow := ⟨Go.Proofs.Tryd.f10, ⟨[], [(0, [true, false, false, true, false, false, false, true, true])]⟩, ⟨25, [0, 3, 4, 7, 8, 14, 24], [], []⟩, 1, e_val_Quote⟩

/-- whelk/val.Text [0=v, 1=v, 2=out] -/
def e_val_Text : EFunc := ⟨1, 6,
 (.seq (.st [.eff (some 1) none (.box 3 T_val_Text_0 (.v 0))])
 (.seq (.st [.eff (some 3) none (.load none (.un (.off 2) (.v 1))),
   .sets [(2, (.v 3))]])
 (.seq (.seq (.st [.eff (some 4) none (.load none (.un (.off 0) (.v 1)))])
 (.block 0 (.seq (.block 3 (.seq (.block 2 (.seq (.block 1 (.seq (.seq (.cond (.bi (.bin .eql) (.v 4) (.c (.int .i64 1)))
      (.exit 1)
      (.skip))
     (.seq (.cond (.bi (.bin .eql) (.v 4) (.c (.int .i64 3)))
      (.exit 2)
      (.skip))
     (.cond (.bi (.bin .eql) (.v 4) (.c (.int .i64 2)))
      (.exit 3)
      (.skip))))
     (.exit 0)))
    (.seq (.st [.eff (some 5) none (.load none (.un (.off 1) (.v 1))),
      .sets [(2, (.tup (.call 0 f_num_Text) (.cons (.v 5) .nil)))]])
    (.exit 0))))
   (.st [.sets [(2, (.tup (.call 0 f_val_Quote) (.cons (.v 2) .nil)))]])))
  (.seq (.st [.sets [(2, (.tup (.call 0 f_strings_Clone) (.cons (.v 2) .nil)))]])
  (.exit 0)))))
 (.ret [.e (.v 2)]))))⟩
noncomputable def r11 : ERow := ⟨Go.Proofs.Tryd.f11, ⟨[], []⟩, ⟨22, [0, 1, 3, 5, 7, 15], [], []⟩, 1, e_val_Text⟩

/-- whelk/whelkref3.Text [0=v, 1=v] -/
def e_ref3_Text : EFunc := ⟨1, 6,
 (.seq (.st [.eff (some 1) none (.box 3 T_ref3_Text_0 (.v 0))])
 (.seq (.seq (.st [.eff (some 2) none (.load none (.un (.off 0) (.v 1)))])
 (.block 0 (.cond (.bi (.bin .eql) (.v 2) (.c (.int .i64 1)))
   (.seq (.st [.eff (some 3) none (.load none (.un (.off 1) (.v 1)))])
   (.ret [.e (.tup (.call 0 f_ref1_Text) (.cons (.v 3) .nil))]))
   (.cond (.bi (.bin .eql) (.v 2) (.c (.int .i64 3)))
    (.seq (.st [.eff (some 4) none (.load none (.un (.off 2) (.v 1)))])
    (.ret [.e (.tup (.call 0 f_ref3_Quote) (.cons (.v 4) .nil))]))
    (.skip)))))
 (.seq (.st [.eff (some 5) none (.load none (.un (.off 2) (.v 1)))])
 (.ret [.e (.v 5)]))))⟩
noncomputable def r12 : ERow := ⟨Go.Proofs.Tryd.f12, ⟨[], []⟩, ⟨17, [0, 1, 4, 8, 13, 16], [], []⟩, 1, e_ref3_Text⟩

/-- whelk/whelkref3.Quote [0=s, 1=q, 2=i] -/
def b_ref3_Quote_0 : EC :=
 (.seq (.cond (.bi (.bin .lss) (.v 2) (.un .slen (.v 0)))
  (.skip)
  (.exit 0))
 (.seq (.block 1 (.seq (.cond (.pick (.bi (.bin .eql) (.bi .sidx (.v 0) (.v 2)) (.c (.int .u8 34))) (.c (.bool true)) (.bi (.bin .eql) (.bi .sidx (.v 0) (.v 2)) (.c (.int .u8 92))))
   (.st [.sets [(1, (.bi (.bin .add) (.v 1) (.c (.str [92]))))]])
   (.skip))
  (.st [.sets [(1, (.bi (.bin .add) (.v 1) (.ssub true true (.v 0) (.v 2) (.bi (.bin .add) (.v 2) (.c (.int .i64 1))))))]])))
 (.st [.sets [(2, (.bi (.bin .add) (.v 2) (.c (.int .i64 1))))]])))
def e_ref3_Quote : EFunc := ⟨1, 3,
 (.seq (.st [.sets [(1, (.c (.str [34])))]])
 (.seq (.seq (.st [.sets [(2, (.c (.int .i64 0)))]])
 (.block 0 (.loop [true, true, true] b_ref3_Quote_0)))
 (.ret [.e (.bi (.bin .add) (.v 1) (.c (.str [34])))])))⟩
noncomputable def r13 : ERow := ⟨Go.Proofs.Tryd.f13, ⟨[], [(0, [true, false, false, true, true])]⟩, ⟨32, [0, 3, 4], [], []⟩, 1, e_ref3_Quote⟩

/-- whelk/val.Hash [0=l, 1=out, 2=v] -/
def b_val_Hash_0 : EC :=
 (.seq (.cond (.bi (.bin .lss) (.v 5) (.v 4))
  (.skip)
  (.exit 0))
 (.seq (.block 1 (.seq (.st [.eff (some 2) none (.zbox [(.int .i64 0), (.int .i64 0), (.str [])] T_val_Hash_0),
    .eff none none (.store 3 (.v 2) (.un (.ld (some 3)) (.bi (.idx 3) (.v 3) (.v 5))))])
  (.st [.eff (some 6) none (.load none (.un (.off 0) (.v 2))),
    .eff (some 7) none (.load none (.un (.off 1) (.v 2))),
    .eff (some 8) none (.load none (.un (.off 2) (.v 2))),
    .eff (some 9) none (.load none (.un (.off 2) (.v 2))),
    .eff none none (.calls [true, true, true, true, true, true, true, true, true, true, true, true, true, true, true, true] f_strings_Builder_WriteString (.cons (.v 1) (.cons (.bi (.bin .add) (.bi (.bin .add) (.bi (.bin .add) (.bi (.bin .add) (.bi (.bin .add) (.bi (.bin .add) (.tup (.call 0 f_strconv_Itoa) (.cons (.v 6) .nil)) (.c (.str [32]))) (.tup (.call 0 f_num_Text) (.cons (.v 7) .nil))) (.c (.str [32]))) (.tup (.call 0 f_strconv_Itoa) (.cons (.un .slen (.v 8)) .nil))) (.c (.str [58]))) (.v 9)) .nil)))])))
 (.st [.sets [(5, (.bi (.bin .add) (.v 5) (.c (.int .i64 1))))]])))
def e_val_Hash : EFunc := ⟨1, 11,
 (.seq (.st [.eff (some 1) none (.zbox [.nilp, .nils] T_bld)])
 (.seq (.seq (.st [.sets [(3, (.v 0)), (4, (.un .len (.v 0))), (5, (.c (.int .i64 0)))]])
 (.block 0 (.loop [false, true, false, true, true, true, false, false, false, false, false] b_val_Hash_0)))
 (.seq (.st [.eff (some 10) none (.calls [true, true, true, true, true, true, true, true, true, true, true, true, true, true, true, true] f_strings_Builder_String (.cons (.v 1) .nil))])
 (.ret [.e (.v 10)]))))⟩
noncomputable def r14 : ERow := ⟨Go.Proofs.Tryd.f14, ⟨[(5, (.cons 0 0 (.cons 0 4 (.cons 0 9 (.cons 0 15 (.cons 1 1 (.cons 1 5 (.cons 1 10 (.cons 0 11 (.cons 1 16 (.cons 2 2 (.cons 0 3 (.cons 2 6 (.cons 0 7 (.cons 0 8 (.cons 2 12 (.cons 0 13 (.cons 0 14 (.cons 0 17 (.cons 3 18 .nil))))))))))))))))))))], [(0, [false, false, false, true, false, false, true, true, true])]⟩, ⟨33, [0, 3, 5, 6, 7, 8, 13, 17, 22, 28, 32], [11], []⟩, 1, e_val_Hash⟩

/-- whelk/whelkref3.Rows [0=a, 1=b, 2=i] -/
def b_ref3_Rows_0 : EC :=
 (.seq (.cond (.bi (.bin .lss) (.v 2) (.un .len (.v 0)))
  (.skip)
  (.exit 0))
 (.seq (.block 1 (.cond (.un .not (.tup (.call 0 f_ref3_Same) (.cons (.un (.ld (some 3)) (.bi (.idx 3) (.v 0) (.v 2))) (.cons (.un (.ld (some 3)) (.bi (.idx 3) (.v 1) (.v 2))) .nil))))
   (.ret [.e (.c (.bool false))])
   (.skip)))
 (.st [.sets [(2, (.bi (.bin .add) (.v 2) (.c (.int .i64 1))))]])))
def e_ref3_Rows : EFunc := ⟨2, 3,
 (.seq (.cond (.bi (.bin .neq) (.un .len (.v 0)) (.un .len (.v 1)))
  (.ret [.e (.c (.bool false))])
  (.skip))
 (.seq (.seq (.st [.sets [(2, (.c (.int .i64 0)))]])
 (.block 0 (.loop [true, true, true] b_ref3_Rows_0)))
 (.ret [.e (.c (.bool true))])))⟩
noncomputable def r15 : ERow := ⟨Go.Proofs.Tryd.f15, ⟨[(6, (.cons 0 0 (.cons 0 1 (.cons 0 2 (.cons 0 4 (.cons 0 5 (.cons 0 6 (.cons 1 3 (.cons 1 7 (.cons 2 8 (.cons 0 9 .nil)))))))))))], [(0, [true, true, false, false, false, true])]⟩, ⟨27, [0, 1, 5], [20, 24], []⟩, 2, e_ref3_Rows⟩

/-- whelk/val.Compare [0=a, 1=b, 2=a, 3=b] -/
def e_val_Compare : EFunc := ⟨2, 10,
 (.seq (.st [.eff (some 2) none (.box 3 T_val_Compare_0 (.v 0)),
   .eff (some 3) none (.box 3 T_val_Compare_0 (.v 1))])
 (.seq (.st [.eff (some 4) none (.load none (.un (.off 0) (.v 2))),
   .eff (some 5) none (.load none (.un (.off 0) (.v 3))),
   .eff (some 6) none (.load none (.un (.off 1) (.v 2))),
   .eff (some 7) none (.load none (.un (.off 1) (.v 3))),
   .eff (some 8) none (.load none (.un (.off 2) (.v 2))),
   .eff (some 9) none (.load none (.un (.off 2) (.v 3)))])
 (.ret [.e (.tup (.call 0 f_cmp_Or_int) (.cons (.tup (.bslice 1 [(.int .i64 0)] 3 [0, 1, 2]) (.cons (.tup (.call 0 f_cmp_Compare_int) (.cons (.v 4) (.cons (.v 5) .nil))) (.cons (.tup (.call 0 f_cmp_Compare_int64) (.cons (.v 6) (.cons (.v 7) .nil))) (.cons (.tup (.call 0 f_cmp_Compare_string) (.cons (.v 8) (.cons (.v 9) .nil))) .nil)))) .nil))])))⟩
noncomputable def r16 : ERow := ⟨Go.Proofs.Tryd.f16, ⟨[(1, (.cons 0 0 (.cons 0 2 (.cons 0 5 (.cons 0 7 (.cons 0 10 (.cons 0 12 (.cons 1 1 (.cons 1 3 (.cons 1 6 (.cons 1 8 (.cons 1 11 (.cons 1 13 (.cons 2 4 (.cons 2 9 (.cons 2 14 (.cons 2 15 (.cons 2 16 (.cons 0 17 .nil)))))))))))))))))))], []⟩, ⟨22, [0, 1, 2, 3, 6, 8, 11, 13, 16, 18], [], []⟩, 2, e_val_Compare⟩

/-- whelk/val.OfInt [0=i] -/
def e_val_OfInt : EFunc := ⟨1, 2,
 (.seq (.st [.eff (some 1) none (.zbox [(.int .i64 0), (.int .i64 0), (.str [])] T_val_OfInt_0)])
 (.seq (.st [.eff none none (.store 3 (.v 1) (.tup (.build [(.int .i64 0), (.int .i64 0), (.str [])] [(0, 1), (1, 1)]) (.cons (.c (.int .i64 1)) (.cons (.v 0) .nil))))])
 (.ret [.cell (.v 1) (some 3)])))⟩
noncomputable def r17 : ERow := ⟨Go.Proofs.Tryd.f17, ⟨[], []⟩, ⟨5, [0, 2], [], []⟩, 1, e_val_OfInt⟩

/-- whelk/val.OfSym [0=s] -/
def e_val_OfSym : EFunc := ⟨1, 2,
 (.seq (.st [.eff (some 1) none (.zbox [(.int .i64 0), (.int .i64 0), (.str [])] T_val_OfSym_0)])
 (.seq (.st [.eff none none (.store 3 (.v 1) (.tup (.build [(.int .i64 0), (.int .i64 0), (.str [])] [(0, 1), (2, 1)]) (.cons (.c (.int .i64 2)) (.cons (.v 0) .nil))))])
 (.ret [.cell (.v 1) (some 3)])))⟩
noncomputable def r18 : ERow := ⟨Go.Proofs.Tryd.f18, ⟨[], []⟩, ⟨5, [0, 2], [], []⟩, 1, e_val_OfSym⟩

/-- whelk/val.OfStr [0=s] -/
def e_val_OfStr : EFunc := ⟨1, 2,
 (.seq (.st [.eff (some 1) none (.zbox [(.int .i64 0), (.int .i64 0), (.str [])] T_val_OfStr_0)])
 (.seq (.st [.eff none none (.store 3 (.v 1) (.tup (.build [(.int .i64 0), (.int .i64 0), (.str [])] [(0, 1), (2, 1)]) (.cons (.c (.int .i64 3)) (.cons (.v 0) .nil))))])
 (.ret [.cell (.v 1) (some 3)])))⟩
noncomputable def r19 : ERow := ⟨Go.Proofs.Tryd.f19, ⟨[], []⟩, ⟨5, [0, 2], [], []⟩, 1, e_val_OfStr⟩

/-- whelk/val.OfBool [0=b] -/
def e_val_OfBool : EFunc := ⟨1, 2,
 (.seq (.st [.eff (some 1) none (.zbox [(.int .i64 0), (.int .i64 0), (.str [])] T_val_OfBool_0)])
 (.seq (.cond (.v 0)
  (.seq (.st [.eff none none (.store 3 (.v 1) (.tup (.call 0 f_val_OfSym) (.cons (.c (.str [84, 82, 85, 69])) .nil)))])
  (.ret [.cell (.v 1) (some 3)]))
  (.skip))
 (.seq (.st [.eff none none (.store 3 (.v 1) (.tup (.call 0 f_val_OfSym) (.cons (.c (.str [70, 65, 76, 83, 69])) .nil)))])
 (.ret [.cell (.v 1) (some 3)]))))⟩
noncomputable def r20 : ERow := ⟨Go.Proofs.Tryd.f20, ⟨[], []⟩, ⟨6, [0, 2], [], []⟩, 1, e_val_OfBool⟩

/-- whelk/whelkref3.Same [0=a, 1=b, 2=a, 3=b] -/
def e_ref3_Same : EFunc := ⟨2, 12,
 (.seq (.st [.eff (some 2) none (.box 3 T_ref3_Same_0 (.v 0)),
   .eff (some 3) none (.box 3 T_ref3_Same_0 (.v 1))])
 (.seq (.st [.eff (some 4) none (.load none (.un (.off 0) (.v 2))),
   .eff (some 5) none (.load none (.un (.off 0) (.v 3))),
   .eff (some 6) (some ((.bi (.bin .eql) (.v 4) (.v 5)), true)) (.load none (.un (.off 1) (.v 2))),
   .eff (some 7) (some ((.bi (.bin .eql) (.v 4) (.v 5)), true)) (.load none (.un (.off 1) (.v 3))),
   .sets [(8, (.pick (.bi (.bin .eql) (.v 4) (.v 5)) (.bi (.bin .eql) (.v 6) (.v 7)) (.c (.bool false)))), (9, (.gd true (.pick (.bi (.bin .eql) (.v 4) (.v 5)) (.bi (.bin .eql) (.v 6) (.v 7)) (.c (.bool false))) (.un (.off 2) (.v 2))))],
   .eff (some 10) (some ((.v 8), true)) (.load none (.v 9)),
   .eff (some 11) (some ((.v 8), true)) (.load none (.un (.off 2) (.v 3)))])
 (.ret [.e (.pick (.v 8) (.bi (.bin .eql) (.v 10) (.v 11)) (.c (.bool false)))])))⟩
noncomputable def r21 : ERow := ⟨Go.Proofs.Tryd.f21, ⟨[], []⟩, ⟨24, [0, 1, 2, 3, 6, 8, 12, 14, 17, 18, 19, 21], [], []⟩, 2, e_ref3_Same⟩

/-- whelk/whelkref3.Int [0=i] -/
def e_ref3_Int : EFunc := ⟨1, 2,
 (.seq (.st [.eff (some 1) none (.zbox [(.int .i64 0), (.int .i64 0), (.str [])] T_ref3_Int_0)])
 (.seq (.st [.eff none none (.store 3 (.v 1) (.tup (.build [(.int .i64 0), (.int .i64 0), (.str [])] [(0, 1), (1, 1)]) (.cons (.c (.int .i64 1)) (.cons (.v 0) .nil))))])
 (.ret [.cell (.v 1) (some 3)])))⟩
noncomputable def r22 : ERow := ⟨Go.Proofs.Tryd.f22, ⟨[], []⟩, ⟨5, [0, 2], [], []⟩, 1, e_ref3_Int⟩

/-- whelk/whelkref3.Sym [0=s] -/
def e_ref3_Sym : EFunc := ⟨1, 2,
 (.seq (.st [.eff (some 1) none (.zbox [(.int .i64 0), (.int .i64 0), (.str [])] T_ref3_Sym_0)])
 (.seq (.st [.eff none none (.store 3 (.v 1) (.tup (.build [(.int .i64 0), (.int .i64 0), (.str [])] [(0, 1), (2, 1)]) (.cons (.c (.int .i64 2)) (.cons (.v 0) .nil))))])
 (.ret [.cell (.v 1) (some 3)])))⟩
noncomputable def r23 : ERow := ⟨Go.Proofs.Tryd.f23, ⟨[], []⟩, ⟨5, [0, 2], [], []⟩, 1, e_ref3_Sym⟩

/-- whelk/whelkref3.Str [0=s] -/
def e_ref3_Str : EFunc := ⟨1, 2,
 (.seq (.st [.eff (some 1) none (.zbox [(.int .i64 0), (.int .i64 0), (.str [])] T_ref3_Str_0)])
 (.seq (.st [.eff none none (.store 3 (.v 1) (.tup (.build [(.int .i64 0), (.int .i64 0), (.str [])] [(0, 1), (2, 1)]) (.cons (.c (.int .i64 3)) (.cons (.v 0) .nil))))])
 (.ret [.cell (.v 1) (some 3)])))⟩
noncomputable def r24 : ERow := ⟨Go.Proofs.Tryd.f24, ⟨[], []⟩, ⟨5, [0, 2], [], []⟩, 1, e_ref3_Str⟩

/-- whelk/whelkref3.Bool [0=b] -/
def e_ref3_Bool : EFunc := ⟨1, 2,
 (.seq (.st [.eff (some 1) none (.zbox [(.int .i64 0), (.int .i64 0), (.str [])] T_ref3_Bool_0)])
 (.seq (.cond (.v 0)
  (.seq (.st [.eff none none (.store 3 (.v 1) (.tup (.call 0 f_ref3_Sym) (.cons (.c (.str [84, 82, 85, 69])) .nil)))])
  (.ret [.cell (.v 1) (some 3)]))
  (.skip))
 (.seq (.st [.eff none none (.store 3 (.v 1) (.tup (.call 0 f_ref3_Sym) (.cons (.c (.str [70, 65, 76, 83, 69])) .nil)))])
 (.ret [.cell (.v 1) (some 3)]))))⟩
noncomputable def r25 : ERow := ⟨Go.Proofs.Tryd.f25, ⟨[], []⟩, ⟨6, [0, 2], [], []⟩, 1, e_ref3_Bool⟩

/-- whelk/val.True [0=v, 1=v] -/
def e_val_True : EFunc := ⟨1, 3,
 (.seq (.st [.eff (some 1) none (.box 3 T_val_True_0 (.v 0))])
 (.seq (.st [.eff (some 2) none (.load (some 3) (.v 1))])
 (.ret [.e (.bi (.bin .neq) (.tup (.call 0 f_val_Compare) (.cons (.v 2) (.cons (.tup (.call 0 f_val_OfBool) (.cons (.c (.bool false)) .nil)) .nil))) (.c (.int .i64 0)))])))⟩
noncomputable def r26 : ERow := ⟨Go.Proofs.Tryd.f26, ⟨[(1, (.cons 1 0 (.cons 2 1 (.cons 2 2 (.cons 0 3 (.cons 0 4 .nil))))))], []⟩, ⟨7, [0, 1, 3], [], []⟩, 1, e_val_True⟩

/-- whelk/val.Right [0=v, 1=v] -/
def e_val_Right : EFunc := ⟨1, 8,
 (.seq (.st [.eff (some 1) none (.box 3 T_val_Right_0 (.v 0))])
 (.seq (.seq (.st [.eff (some 2) none (.load none (.un (.off 0) (.v 1)))])
 (.block 0 (.cond (.bi (.bin .eql) (.v 2) (.c (.int .i64 1)))
   (.seq (.st [.eff (some 3) none (.load none (.un (.off 2) (.v 1)))])
   (.ret [.e (.bi (.bin .eql) (.v 3) (.c (.str [])))]))
   (.cond (.bi (.bin .eql) (.v 2) (.c (.int .i64 2)))
    (.seq (.st [.eff (some 4) none (.load none (.un (.off 1) (.v 1))),
      .eff (some 5) (some ((.bi (.bin .eql) (.v 4) (.c (.int .i64 0))), true)) (.load none (.un (.off 2) (.v 1)))])
    (.ret [.e (.pick (.bi (.bin .eql) (.v 4) (.c (.int .i64 0))) (.tup (.call 0 f_val_symbol) (.cons (.v 5) .nil)) (.c (.bool false)))]))
    (.cond (.bi (.bin .eql) (.v 2) (.c (.int .i64 3)))
     (.seq (.st [.eff (some 6) none (.load none (.un (.off 1) (.v 1))),
       .eff (some 7) (some ((.bi (.bin .eql) (.v 6) (.c (.int .i64 0))), true)) (.load none (.un (.off 2) (.v 1)))])
     (.ret [.e (.pick (.bi (.bin .eql) (.v 6) (.c (.int .i64 0))) (.bi (.bin .leq) (.un .slen (.v 7)) (.c (.int .i64 1000))) (.c (.bool false)))]))
     (.skip))))))
 (.ret [.e (.c (.bool false))])))⟩
noncomputable def r27 : ERow := ⟨Go.Proofs.Tryd.f27, ⟨[], []⟩, ⟨31, [0, 1, 4, 8, 13, 17, 23, 27], [], []⟩, 1, e_val_Right⟩

/-- whelk/val.Same [0=a, 1=b, 2=a, 3=b] -/
def e_val_Same : EFunc := ⟨2, 6,
 (.seq (.st [.eff (some 2) none (.box 3 T_val_Same_0 (.v 0)),
   .eff (some 3) none (.box 3 T_val_Same_0 (.v 1))])
 (.seq (.st [.eff (some 4) none (.load (some 3) (.v 2)),
   .eff (some 5) none (.load (some 3) (.v 3))])
 (.ret [.e (.bi (.bin .eql) (.tup (.call 0 f_val_Compare) (.cons (.v 4) (.cons (.v 5) .nil))) (.c (.int .i64 0)))])))⟩
noncomputable def r28 : ERow := ⟨Go.Proofs.Tryd.f28, ⟨[], []⟩, ⟨9, [0, 1, 2, 3, 5, 6], [], []⟩, 2, e_val_Same⟩

/-- whelk/whelkref1.Shape [0=s, 1=from, 2=i] -/
def b_ref1_Shape_0 : EC :=
 (.seq (.cond (.bi (.bin .lss) (.v 2) (.un .slen (.v 0)))
  (.skip)
  (.exit 0))
 (.seq (.block 1 (.cond (.pick (.bi (.bin .lss) (.bi .sidx (.v 0) (.v 2)) (.c (.int .u8 48))) (.c (.bool true)) (.bi (.bin .gtr) (.bi .sidx (.v 0) (.v 2)) (.c (.int .u8 57))))
   (.ret [.e (.c (.bool false))])
   (.skip)))
 (.st [.sets [(2, (.bi (.bin .add) (.v 2) (.c (.int .i64 1))))]])))
def e_ref1_Shape : EFunc := ⟨1, 3,
 (.seq (.st [.sets [(1, (.c (.int .i64 0)))]])
 (.seq (.cond (.pick (.bi (.bin .gtr) (.un .slen (.v 0)) (.c (.int .i64 0))) (.pick (.bi (.bin .eql) (.bi .sidx (.v 0) (.c (.int .i64 0))) (.c (.int .u8 43))) (.c (.bool true)) (.bi (.bin .eql) (.bi .sidx (.v 0) (.c (.int .i64 0))) (.c (.int .u8 45)))) (.c (.bool false)))
  (.st [.sets [(1, (.c (.int .i64 1)))]])
  (.skip))
 (.seq (.seq (.st [.sets [(2, (.v 1))]])
 (.block 0 (.loop [true, true, true] b_ref1_Shape_0)))
 (.ret [.e (.bi (.bin .gtr) (.un .slen (.v 0)) (.v 1))]))))⟩
noncomputable def r29 : ERow := ⟨Go.Proofs.Tryd.f29, ⟨[], [(0, [true, false, false, true, true])]⟩, ⟨39, [0, 3, 4], [], []⟩, 1, e_ref1_Shape⟩

/-- whelk/whelkref3.Sign [0=c] -/
def e_ref3_Sign : EFunc := ⟨1, 1,
 (.ret [.e (.pick (.pick (.pick (.pick (.pick (.pick (.pick (.bi (.bin .geq) (.v 0) (.c (.int .u8 33))) (.bi (.bin .leq) (.v 0) (.c (.int .u8 126))) (.c (.bool false))) (.bi (.bin .neq) (.v 0) (.c (.int .u8 40))) (.c (.bool false))) (.bi (.bin .neq) (.v 0) (.c (.int .u8 41))) (.c (.bool false))) (.bi (.bin .neq) (.v 0) (.c (.int .u8 34))) (.c (.bool false))) (.bi (.bin .neq) (.v 0) (.c (.int .u8 59))) (.c (.bool false))) (.bi (.bin .neq) (.v 0) (.c (.int .u8 63))) (.c (.bool false))) (.bi (.bin .neq) (.v 0) (.c (.int .u8 126))) (.c (.bool false)))])⟩
noncomputable def r30 : ERow := ⟨Go.Proofs.Tryd.f30, ⟨[], []⟩, ⟨33, [0], [], []⟩, 1, e_ref3_Sign⟩

/-- (*strings.Builder).WriteByte [0=b, 1=c] -/
def e_strings_Builder_WriteByte : EFunc := ⟨2, 4,
 (.seq (.st [.eff none none (.calls [true, true, true, true, true, true, true, true, true, true, true, true, true, true, true, true] f_strings_Builder_copyCheck (.cons (.v 0) .nil))])
 (.seq (.st [.eff (some 2) none (.load none (.un (.off 1) (.un .nilchk (.v 0)))),
   .eff (some 3) none (.append 1 1 T_byte (.v 2) (.tup (.bslice 1 [(.int .u8 0)] 1 [0]) (.cons (.v 1) .nil))),
   .eff none none (.store 1 (.un (.off 1) (.un .nilchk (.v 0))) (.v 3))])
 (.ret [.e (.c .nili)])))⟩
noncomputable def r31 : ERow := ⟨Go.Proofs.Tryd.f31, ⟨[], []⟩, ⟨17, [0, 1, 11, 14], [], []⟩, 2, e_strings_Builder_WriteByte⟩

/-- (*strings.Builder).String [0=b] -/
def e_strings_Builder_String : EFunc := ⟨1, 4,
 (.seq (.st [.eff (some 1) none (.load none (.un (.off 1) (.un .nilchk (.v 0)))),
   .eff (some 2) none (.load none (.un (.off 1) (.un .nilchk (.v 0)))),
   .eff (some 3) none (.ustr T_byte (.un .sdata (.v 1)) (.un .len (.v 2)))])
 (.ret [.e (.v 3)]))⟩
noncomputable def r32 : ERow := ⟨Go.Proofs.Tryd.f32, ⟨[(1, (.cons 0 0 (.cons 0 1 (.cons 0 2 (.cons 0 5 (.cons 0 6 (.cons 0 7 (.cons 1 3 (.cons 0 4 (.cons 1 8 (.cons 0 9 (.cons 2 10 (.cons 0 11 .nil)))))))))))))], []⟩, ⟨14, [0, 6, 11, 13], [], []⟩, 1, e_strings_Builder_String⟩

/-- whelk/num.Text [0=n] -/
def e_num_Text : EFunc := ⟨1, 1,
 (.ret [.e (.tup (.call 0 f_strconv_FormatInt) (.cons (.v 0) (.cons (.c (.int .i64 10)) .nil)))])⟩
noncomputable def r33 : ERow := ⟨Go.Proofs.Tryd.f33, ⟨[], []⟩, ⟨5, [0], [], []⟩, 1, e_num_Text⟩

/-- strings.Clone [0=s] -/
def e_strings_Clone : EFunc := ⟨1, 1,
 (.ret [.e (.tup (.call 0 f_internal_stringslite_Clone) (.cons (.v 0) .nil))])⟩
noncomputable def r34 : ERow := ⟨Go.Proofs.Tryd.f34, ⟨[], []⟩, ⟨5, [0], [], []⟩, 1, e_strings_Clone⟩

/-- whelk/whelkref1.Text [0=n, 1=u, 2=s] -/
def b_ref1_Text_0 : EC :=
 (.seq (.cond (.bi (.bin .geq) (.v 1) (.c (.int .u64 10)))
  (.skip)
  (.exit 0))
 (.block 1 (.seq (.st [.sets [(1, (.bi (.bin .quo) (.v 1) (.c (.int .u64 10))))]])
  (.st [.sets [(2, (.bi (.bin .add) (.un .tostr (.tup (.bslice 1 [(.int .u8 0)] 1 [0]) (.cons (.un (.conv .u8) (.bi (.bin .add) (.c (.int .u64 48)) (.bi (.bin .rem) (.v 1) (.c (.int .u64 10))))) .nil))) (.v 2)))]]))))
def e_ref1_Text : EFunc := ⟨1, 3,
 (.seq (.st [.sets [(1, (.tup (.call 0 f_ref1_size) (.cons (.v 0) .nil)))]])
 (.seq (.st [.sets [(2, (.un .tostr (.tup (.bslice 1 [(.int .u8 0)] 1 [0]) (.cons (.un (.conv .u8) (.bi (.bin .add) (.c (.int .u64 48)) (.bi (.bin .rem) (.v 1) (.c (.int .u64 10))))) .nil))))]])
 (.seq (.block 0 (.loop [true, true, true] b_ref1_Text_0))
 (.seq (.cond (.bi (.bin .lss) (.v 0) (.c (.int .i64 0)))
  (.ret [.e (.bi (.bin .add) (.c (.str [45])) (.v 2))])
  (.skip))
 (.ret [.e (.v 2)])))))⟩
noncomputable def r35 : ERow := ⟨Go.Proofs.Tryd.f35, ⟨[], [(0, [true, false, false, true, true])]⟩, ⟨30, [0, 3, 4], [], []⟩, 1, e_ref1_Text⟩

/-- (*strings.Builder).WriteString [0=b, 1=s] -/
def e_strings_Builder_WriteString : EFunc := ⟨2, 4,
 (.seq (.st [.eff none none (.calls [true, true, true, true, true, true, true, true, true, true, true, true, true, true, true, true] f_strings_Builder_copyCheck (.cons (.v 0) .nil))])
 (.seq (.st [.eff (some 2) none (.load none (.un (.off 1) (.un .nilchk (.v 0)))),
   .eff (some 3) none (.append 1 1 T_byte (.v 2) (.v 1)),
   .eff none none (.store 1 (.un (.off 1) (.un .nilchk (.v 0))) (.v 3))])
 (.ret [.e (.un .slen (.v 1)), .e (.c .nili)])))⟩
noncomputable def r36 : ERow := ⟨Go.Proofs.Tryd.f36, ⟨[], []⟩, ⟨19, [0, 1, 12, 14], [], []⟩, 2, e_strings_Builder_WriteString⟩

/-- strconv.Itoa [0=i] -/
def e_strconv_Itoa : EFunc := ⟨1, 1,
 (.ret [.e (.tup (.call 0 f_internal_strconv_Itoa) (.cons (.v 0) .nil))])⟩
noncomputable def r37 : ERow := ⟨Go.Proofs.Tryd.f37, ⟨[], []⟩, ⟨5, [0], [], []⟩, 1, e_strconv_Itoa⟩

/-- cmp.Or[int] [0=vals, 1=zero] -/
def b_cmp_Or_int_0 : EC :=
 (.seq (.cond (.bi (.bin .lss) (.v 4) (.v 3))
  (.skip)
  (.exit 0))
 (.seq (.block 1 (.cond (.bi (.bin .neq) (.un (.ld none) (.bi (.idx 1) (.v 2) (.v 4))) (.v 1))
   (.ret [.e (.un (.ld none) (.bi (.idx 1) (.v 2) (.v 4)))])
   (.skip)))
 (.st [.sets [(4, (.bi (.bin .add) (.v 4) (.c (.int .i64 1))))]])))
def e_cmp_Or_int : EFunc := ⟨1, 5,
 (.seq (.st [.sets [(1, (.c (.int .i64 0)))]])
 (.seq (.seq (.st [.sets [(2, (.v 0)), (3, (.un .len (.v 0))), (4, (.c (.int .i64 0)))]])
 (.block 0 (.loop [false, true, true, true, true] b_cmp_Or_int_0)))
 (.ret [.e (.v 1)])))⟩
noncomputable def r38 : ERow := ⟨Go.Proofs.Tryd.f38, ⟨[], [(0, [false, false, false, true, false, false, true, true, true])]⟩, ⟨18, [0, 3, 6, 7, 8], [11], []⟩, 1, e_cmp_Or_int⟩

/-- cmp.Compare[int] [0=x, 1=y, 2=yNaN] -/
def e_cmp_Compare_int : EFunc := ⟨2, 3,
 (.seq (.st [.sets [(2, (.tup (.call 0 f_cmp_isNaN_int) (.cons (.v 1) .nil)))]])
 (.seq (.cond (.tup (.call 0 f_cmp_isNaN_int) (.cons (.v 0) .nil))
  (.seq (.cond (.v 2)
   (.ret [.e (.c (.int .i64 0))])
   (.skip))
  (.ret [.e (.c (.int .i64 (-1)))]))
  (.skip))
 (.seq (.cond (.v 2)
  (.ret [.e (.c (.int .i64 1))])
  (.skip))
 (.seq (.cond (.bi (.bin .lss) (.v 0) (.v 1))
  (.ret [.e (.c (.int .i64 (-1)))])
  (.skip))
 (.seq (.cond (.bi (.bin .gtr) (.v 0) (.v 1))
  (.ret [.e (.c (.int .i64 1))])
  (.skip))
 (.ret [.e (.c (.int .i64 0))]))))))⟩
noncomputable def r39 : ERow := ⟨Go.Proofs.Tryd.f39, ⟨[], []⟩, ⟨20, [0, 1, 6], [], []⟩, 2, e_cmp_Compare_int⟩

/-- cmp.Compare[int64] [0=x, 1=y, 2=yNaN] -/
def e_cmp_Compare_int64 : EFunc := ⟨2, 3,
 (.seq (.st [.sets [(2, (.tup (.call 0 f_cmp_isNaN_int64) (.cons (.v 1) .nil)))]])
 (.seq (.cond (.tup (.call 0 f_cmp_isNaN_int64) (.cons (.v 0) .nil))
  (.seq (.cond (.v 2)
   (.ret [.e (.c (.int .i64 0))])
   (.skip))
  (.ret [.e (.c (.int .i64 (-1)))]))
  (.skip))
 (.seq (.cond (.v 2)
  (.ret [.e (.c (.int .i64 1))])
  (.skip))
 (.seq (.cond (.bi (.bin .lss) (.v 0) (.v 1))
  (.ret [.e (.c (.int .i64 (-1)))])
  (.skip))
 (.seq (.cond (.bi (.bin .gtr) (.v 0) (.v 1))
  (.ret [.e (.c (.int .i64 1))])
  (.skip))
 (.ret [.e (.c (.int .i64 0))]))))))⟩
noncomputable def r40 : ERow := ⟨Go.Proofs.Tryd.f40, ⟨[], []⟩, ⟨20, [0, 1, 6], [], []⟩, 2, e_cmp_Compare_int64⟩

/-- cmp.Compare[string] [0=x, 1=y, 2=yNaN] -/
def e_cmp_Compare_string : EFunc := ⟨2, 3,
 (.seq (.st [.sets [(2, (.tup (.call 0 f_cmp_isNaN_string) (.cons (.v 1) .nil)))]])
 (.seq (.cond (.tup (.call 0 f_cmp_isNaN_string) (.cons (.v 0) .nil))
  (.seq (.cond (.v 2)
   (.ret [.e (.c (.int .i64 0))])
   (.skip))
  (.ret [.e (.c (.int .i64 (-1)))]))
  (.skip))
 (.seq (.cond (.v 2)
  (.ret [.e (.c (.int .i64 1))])
  (.skip))
 (.seq (.cond (.bi (.bin .lss) (.v 0) (.v 1))
  (.ret [.e (.c (.int .i64 (-1)))])
  (.skip))
 (.seq (.cond (.bi (.bin .gtr) (.v 0) (.v 1))
  (.ret [.e (.c (.int .i64 1))])
  (.skip))
 (.ret [.e (.c (.int .i64 0))]))))))⟩
noncomputable def r41 : ERow := ⟨Go.Proofs.Tryd.f41, ⟨[], []⟩, ⟨20, [0, 1, 6], [], []⟩, 2, e_cmp_Compare_string⟩

/-- whelk/val.symbol [0=s, 1=_] -/
def b_val_symbol_0 : EC :=
 (.seq (.cond (.bi (.bin .lss) (.v 3) (.v 2))
  (.skip)
  (.exit 0))
 (.seq (.block 1 (.cond (.un .not (.tup (.call 0 f_val_sign) (.cons (.bi .sidx (.v 0) (.v 3)) .nil)))
   (.ret [.e (.c (.bool false))])
   (.skip)))
 (.st [.sets [(3, (.bi (.bin .add) (.v 3) (.c (.int .i64 1))))]])))
def e_val_symbol : EFunc := ⟨1, 5,
 (.seq (.cond (.pick (.bi (.bin .lss) (.un .slen (.v 0)) (.c (.int .i64 1))) (.c (.bool true)) (.bi (.bin .gtr) (.un .slen (.v 0)) (.c (.int .i64 40))))
  (.ret [.e (.c (.bool false))])
  (.skip))
 (.seq (.seq (.st [.sets [(2, (.un .slen (.v 0))), (3, (.c (.int .i64 0)))]])
 (.block 0 (.loop [true, false, true, true, false] b_val_symbol_0)))
 (.seq (.st [.sets [(4, (.tup (.call 0 f_num_Parse) (.cons (.v 0) .nil)))],
   .sets [(1, (.un (.ext 0) (.v 4)))]])
 (.ret [.e (.bi (.bin .eql) (.un (.ext 1) (.v 4)) (.c (.int .i64 2)))]))))⟩
noncomputable def r42 : ERow := ⟨Go.Proofs.Tryd.f42, ⟨[], [(0, [true, false, false, false, false, false, false, false, false, false, false, false, false, false, false, true, true])]⟩, ⟨32, [0, 4, 15, 16, 25], [], [25]⟩, 1, e_val_symbol⟩

/-- (*strings.Builder).copyCheck [0=b] FAILS [other code] -/
def e_strings_Builder_copyCheck : EFunc := ⟨1, 5,
 (.seq (.seq (.st [.eff (some 1) none (.load none (.un (.off 0) (.un .nilchk (.v 0))))])
 (.cond (.bi (.eqs 2 false) (.v 1) (.c .nilp))
  (.st [.eff (some 2) none (.touns (.v 0)),
    .eff (some 3) none (.fromuns 2 T_bld (.v 2)),
    .eff none none (.store 1 (.un (.off 0) (.un .nilchk (.v 0))) (.v 3))])
  (.seq (.st [.eff (some 4) none (.load none (.un (.off 0) (.un .nilchk (.v 0))))])
  (.cond (.bi (.eqs 2 true) (.v 4) (.v 0))
   (.st [.eff none none .fail])
   (.skip)))))
 (.ret []))⟩
noncomputable def r43 : ERow := ⟨Go.Proofs.Tryd.f43, ⟨[], []⟩, ⟨20, [0, 5, 9, 11, 17], [], []⟩, 1, e_strings_Builder_copyCheck⟩

/-- strconv.FormatInt [0=i, 1=base] -/
def e_strconv_FormatInt : EFunc := ⟨2, 2,
 (.ret [.e (.tup (.call 0 f_internal_strconv_FormatInt) (.cons (.v 0) (.cons (.v 1) .nil)))])⟩
noncomputable def r44 : ERow := ⟨Go.Proofs.Tryd.f44, ⟨[], []⟩, ⟨8, [0, 1], [], []⟩, 2, e_strconv_FormatInt⟩

/-- whelk/whelkref1.size [0=v] -/
def e_ref1_size : EFunc := ⟨1, 1,
 (.seq (.cond (.bi (.bin .lss) (.v 0) (.c (.int .i64 0)))
  (.ret [.e (.bi (.bin .add) (.un (.conv .u64) (.bi (.bin .sub) (.c (.int .i64 0)) (.bi (.bin .add) (.v 0) (.c (.int .i64 1))))) (.c (.int .u64 1)))])
  (.skip))
 (.ret [.e (.un (.conv .u64) (.v 0))]))⟩
noncomputable def r46 : ERow := ⟨Go.Proofs.Tryd.f46, ⟨[], []⟩, ⟨12, [0], [], []⟩, 1, e_ref1_size⟩

/-- internal/strconv.Itoa [0=i] -/
def e_internal_strconv_Itoa : EFunc := ⟨1, 1,
 (.ret [.e (.tup (.call 0 f_internal_strconv_FormatInt) (.cons (.v 0) (.cons (.c (.int .i64 10)) .nil)))])⟩
noncomputable def r47 : ERow := ⟨Go.Proofs.Tryd.f47, ⟨[], []⟩, ⟨5, [0], [], []⟩, 1, e_internal_strconv_Itoa⟩

/-- cmp.isNaN[int] [0=x] -/
def e_cmp_isNaN_int : EFunc := ⟨1, 1,
 (.ret [.e (.bi (.bin .neq) (.v 0) (.v 0))])⟩
noncomputable def r48 : ERow := ⟨Go.Proofs.Tryd.f48, ⟨[], []⟩, ⟨6, [0], [], []⟩, 1, e_cmp_isNaN_int⟩

/-- cmp.isNaN[int64] [0=x] -/
def e_cmp_isNaN_int64 : EFunc := ⟨1, 1,
 (.ret [.e (.bi (.bin .neq) (.v 0) (.v 0))])⟩
noncomputable def r49 : ERow := ⟨Go.Proofs.Tryd.f49, ⟨[], []⟩, ⟨6, [0], [], []⟩, 1, e_cmp_isNaN_int64⟩

/-- cmp.isNaN[string] [0=x] -/
def e_cmp_isNaN_string : EFunc := ⟨1, 1,
 (.ret [.e (.bi (.bin .neq) (.v 0) (.v 0))])⟩
noncomputable def r50 : ERow := ⟨Go.Proofs.Tryd.f50, ⟨[], []⟩, ⟨6, [0], [], []⟩, 1, e_cmp_isNaN_string⟩

/-- whelk/val.sign [0=c] -/
def e_val_sign : EFunc := ⟨1, 2,
 (.seq (.block 0 (.seq (.seq (.st [.sets [(1, (.bi (.bin .eql) (.v 0) (.c (.int .u8 40))))]])
  (.cond (.v 1)
   (.skip)
   (.seq (.st [.sets [(1, (.bi (.bin .eql) (.v 0) (.c (.int .u8 41))))]])
   (.cond (.v 1)
    (.skip)
    (.seq (.st [.sets [(1, (.bi (.bin .eql) (.v 0) (.c (.int .u8 34))))]])
    (.cond (.v 1)
     (.skip)
     (.seq (.st [.sets [(1, (.bi (.bin .eql) (.v 0) (.c (.int .u8 59))))]])
     (.cond (.v 1)
      (.skip)
      (.seq (.st [.sets [(1, (.bi (.bin .eql) (.v 0) (.c (.int .u8 63))))]])
      (.cond (.v 1)
       (.skip)
       (.st [.sets [(1, (.bi (.bin .eql) (.v 0) (.c (.int .u8 126))))]])))))))))))
  (.cond (.v 1)
   (.ret [.e (.c (.bool false))])
   (.skip))))
 (.ret [.e (.pick (.bi (.bin .geq) (.v 0) (.c (.int .u8 33))) (.bi (.bin .leq) (.v 0) (.c (.int .u8 126))) (.c (.bool false)))]))⟩
noncomputable def r51 : ERow := ⟨Go.Proofs.Tryd.f51, ⟨[], []⟩, ⟨17, [0, 4], [], []⟩, 1, e_val_sign⟩

/-- whelk/num.Parse [0=s, 1=digits, 2=minus, 3=n, 4=t, 5=c] -/
def b_num_Parse_0 : EC :=
 (.seq (.cond (.bi (.bin .lss) (.v 7) (.v 6))
  (.skip)
  (.exit 3))
 (.seq (.block 4 (.cond (.pick (.bi (.bin .lss) (.bi .sidx (.v 1) (.v 7)) (.c (.int .u8 48))) (.c (.bool true)) (.bi (.bin .gtr) (.bi .sidx (.v 1) (.v 7)) (.c (.int .u8 57))))
   (.ret [.e (.c (.int .i64 0)), .e (.c (.int .i64 2))])
   (.skip)))
 (.st [.sets [(7, (.bi (.bin .add) (.v 7) (.c (.int .i64 1))))]])))
def b_num_Parse_1 : EC :=
 (.seq (.cond (.bi (.bin .lss) (.v 9) (.v 8))
  (.skip)
  (.exit 5))
 (.seq (.block 6 (.seq (.st [.sets [(10, (.tup (.call 0 f_num_Mul) (.cons (.v 3) (.cons (.c (.int .i64 10)) .nil))))],
    .sets [(4, (.un (.ext 0) (.v 10))), (5, (.un (.ext 1) (.v 10)))]])
  (.seq (.cond (.bi (.bin .eql) (.v 5) (.c (.int .i64 0)))
   (.st [.sets [(11, (.tup (.call 0 f_num_Sub) (.cons (.v 4) (.cons (.un (.conv .i64) (.bi (.bin .sub) (.bi .sidx (.v 1) (.v 9)) (.c (.int .u8 48)))) .nil))))],
     .sets [(4, (.un (.ext 0) (.v 11))), (5, (.un (.ext 1) (.v 11)))]])
   (.skip))
  (.seq (.cond (.bi (.bin .neq) (.v 5) (.c (.int .i64 0)))
   (.ret [.e (.c (.int .i64 0)), .e (.v 5)])
   (.skip))
  (.st [.sets [(3, (.v 4))]])))))
 (.st [.sets [(9, (.bi (.bin .add) (.v 9) (.c (.int .i64 1))))]])))
def e_num_Parse : EFunc := ⟨1, 13,
 (.seq (.st [.sets [(1, (.v 0)), (2, (.c (.bool false)))]])
 (.seq (.block 0 (.seq (.block 2 (.seq (.block 1 (.seq (.seq (.cond (.tup (.call 0 f_strings_HasPrefix) (.cons (.v 0) (.cons (.c (.str [45])) .nil)))
     (.exit 1)
     (.skip))
    (.cond (.tup (.call 0 f_strings_HasPrefix) (.cons (.v 0) (.cons (.c (.str [43])) .nil)))
     (.exit 2)
     (.skip)))
    (.exit 0)))
   (.st [.sets [(2, (.c (.bool true)))]])))
  (.seq (.st [.sets [(1, (.ssub true false (.v 0) (.c (.int .i64 1)) (.c .undef)))]])
  (.exit 0))))
 (.seq (.cond (.bi (.bin .eql) (.v 1) (.c (.str [])))
  (.ret [.e (.c (.int .i64 0)), .e (.c (.int .i64 2))])
  (.skip))
 (.seq (.seq (.st [.sets [(6, (.un .slen (.v 1))), (7, (.c (.int .i64 0)))]])
 (.block 3 (.loop [false, true, true, false, false, false, true, true, false, false, false, false, false] b_num_Parse_0)))
 (.seq (.st [.sets [(3, (.c (.int .i64 0)))]])
 (.seq (.seq (.st [.sets [(8, (.un .slen (.v 1))), (9, (.c (.int .i64 0)))]])
 (.block 5 (.loop [false, true, true, true, false, false, false, false, true, true, false, false, false] b_num_Parse_1)))
 (.seq (.cond (.v 2)
  (.ret [.e (.v 3), .e (.c (.int .i64 0))])
  (.skip))
 (.seq (.st [.sets [(12, (.tup (.call 0 f_num_Sub) (.cons (.c (.int .i64 0)) (.cons (.v 3) .nil))))]])
 (.ret [.e (.un (.ext 0) (.v 12)), .e (.un (.ext 1) (.v 12))])))))))))⟩
noncomputable def r52 : ERow := ⟨Go.Proofs.Tryd.f52, ⟨[], [(3, [false, false, false, false, true, true, false, false, false, false, false, false, false, false, false, false, false, false, false, false, false, false, false, true, true]), (5, [false, false, false, false, true, true, false, true, false, false, false, false, false, false, false, false, false, false, false, false, false, false, false, false, false, false, false, false, false, false, false, false, false, false, false, false, false, false, false, true, true])]⟩, ⟨71, [0, 4, 5, 7, 9, 10, 23, 24, 39, 40, 43, 50, 68], [], [68, 43, 50]⟩, 1, e_num_Parse⟩

/-- strings.HasPrefix [0=s, 1=prefix] -/
def e_strings_HasPrefix : EFunc := ⟨2, 2,
 (.ret [.e (.tup (.call 0 f_internal_stringslite_HasPrefix) (.cons (.v 0) (.cons (.v 1) .nil)))])⟩
noncomputable def r55 : ERow := ⟨Go.Proofs.Tryd.f55, ⟨[], []⟩, ⟨8, [0, 1], [], []⟩, 2, e_strings_HasPrefix⟩

/-- whelk/num.Mul [0=a, 1=b, 2=lo, 3=minus] -/
def e_num_Mul : EFunc := ⟨2, 6,
 (.seq (.st [.sets [(4, (.tup (.call 0 f_math_bits_Mul64) (.cons (.tup (.call 0 f_num_abs) (.cons (.v 0) .nil)) (.cons (.tup (.call 0 f_num_abs) (.cons (.v 1) .nil)) .nil))))],
   .sets [(2, (.un (.ext 1) (.v 4)))]])
 (.seq (.st [.sets [(3, (.bi (.eqs 0 true) (.bi (.bin .lss) (.v 0) (.c (.int .i64 0))) (.bi (.bin .lss) (.v 1) (.c (.int .i64 0)))))]])
 (.seq (.block 0 (.seq (.seq (.st [.sets [(5, (.bi (.bin .gtr) (.un (.ext 0) (.v 4)) (.c (.int .u64 0))))]])
  (.cond (.v 5)
   (.skip)
   (.seq (.st [.sets [(5, (.bi (.bin .gtr) (.v 2) (.c (.int .u64 9223372036854775808))))]])
   (.cond (.v 5)
    (.skip)
    (.st [.sets [(5, (.pick (.bi (.bin .eql) (.v 2) (.c (.int .u64 9223372036854775808))) (.un .not (.v 3)) (.c (.bool false))))]])))))
  (.cond (.v 5)
   (.ret [.e (.c (.int .i64 0)), .e (.c (.int .i64 11))])
   (.cond (.v 3)
    (.ret [.e (.un (.conv .i64) (.bi (.bin .sub) (.c (.int .u64 0)) (.v 2))), .e (.c (.int .i64 0))])
    (.skip)))))
 (.ret [.e (.un (.conv .i64) (.v 2)), .e (.c (.int .i64 0))]))))⟩
noncomputable def r56 : ERow := ⟨Go.Proofs.Tryd.f56, ⟨[], []⟩, ⟨40, [0, 1, 7, 8, 9, 22], [], [9]⟩, 2, e_num_Mul⟩

/-- whelk/num.Sub [0=a, 1=b] -/
def e_num_Sub : EFunc := ⟨2, 2,
 (.seq (.cond (.pick (.pick (.bi (.bin .lss) (.v 1) (.c (.int .i64 0))) (.bi (.bin .gtr) (.v 0) (.bi (.bin .add) (.c (.int .i64 9223372036854775807)) (.v 1))) (.c (.bool false))) (.c (.bool true)) (.pick (.bi (.bin .gtr) (.v 1) (.c (.int .i64 0))) (.bi (.bin .lss) (.v 0) (.bi (.bin .add) (.c (.int .i64 (-9223372036854775808))) (.v 1))) (.c (.bool false))))
  (.ret [.e (.c (.int .i64 0)), .e (.c (.int .i64 11))])
  (.skip))
 (.ret [.e (.bi (.bin .sub) (.v 0) (.v 1)), .e (.c (.int .i64 0))]))⟩
noncomputable def r57 : ERow := ⟨Go.Proofs.Tryd.f57, ⟨[], []⟩, ⟨27, [0, 1], [], []⟩, 2, e_num_Sub⟩

/-- internal/stringslite.HasPrefix [0=s, 1=prefix] -/
def e_internal_stringslite_HasPrefix : EFunc := ⟨2, 2,
 (.ret [.e (.pick (.bi (.bin .geq) (.un .slen (.v 0)) (.un .slen (.v 1))) (.bi (.bin .eql) (.ssub false true (.v 0) (.c .undef) (.un .slen (.v 1))) (.v 1)) (.c (.bool false)))])⟩
noncomputable def r62 : ERow := ⟨Go.Proofs.Tryd.f62, ⟨[], []⟩, ⟨18, [0, 1], [], []⟩, 2, e_internal_stringslite_HasPrefix⟩

/-- math/bits.Mul64 [0=x, 1=y] -/
def e_math_bits_Mul64 : EFunc := ⟨2, 2,
 (.ret [.e (.bi (.bin .add) (.bi (.bin .add) (.bi (.bin .mul) (.bi (.bin .shr) (.v 0) (.c (.int .u64 32))) (.bi (.bin .shr) (.v 1) (.c (.int .u64 32)))) (.bi (.bin .shr) (.bi (.bin .add) (.bi (.bin .mul) (.bi (.bin .shr) (.v 0) (.c (.int .u64 32))) (.bi (.bin .and) (.v 1) (.c (.int .u64 4294967295)))) (.bi (.bin .shr) (.bi (.bin .mul) (.bi (.bin .and) (.v 0) (.c (.int .u64 4294967295))) (.bi (.bin .and) (.v 1) (.c (.int .u64 4294967295)))) (.c (.int .u64 32)))) (.c (.int .u64 32)))) (.bi (.bin .shr) (.bi (.bin .add) (.bi (.bin .and) (.bi (.bin .add) (.bi (.bin .mul) (.bi (.bin .shr) (.v 0) (.c (.int .u64 32))) (.bi (.bin .and) (.v 1) (.c (.int .u64 4294967295)))) (.bi (.bin .shr) (.bi (.bin .mul) (.bi (.bin .and) (.v 0) (.c (.int .u64 4294967295))) (.bi (.bin .and) (.v 1) (.c (.int .u64 4294967295)))) (.c (.int .u64 32)))) (.c (.int .u64 4294967295))) (.bi (.bin .mul) (.bi (.bin .and) (.v 0) (.c (.int .u64 4294967295))) (.bi (.bin .shr) (.v 1) (.c (.int .u64 32))))) (.c (.int .u64 32)))), .e (.bi (.bin .mul) (.v 0) (.v 1))])⟩
noncomputable def r63 : ERow := ⟨Go.Proofs.Tryd.f63, ⟨[], []⟩, ⟨51, [0, 1], [], []⟩, 2, e_math_bits_Mul64⟩

/-- whelk/num.abs [0=a] -/
def e_num_abs : EFunc := ⟨1, 1,
 (.seq (.cond (.bi (.bin .lss) (.v 0) (.c (.int .i64 0)))
  (.ret [.e (.bi (.bin .sub) (.c (.int .u64 0)) (.un (.conv .u64) (.v 0)))])
  (.skip))
 (.ret [.e (.un (.conv .u64) (.v 0))]))⟩
noncomputable def r64 : ERow := ⟨Go.Proofs.Tryd.f64, ⟨[], []⟩, ⟨10, [0], [], []⟩, 1, e_num_abs⟩

def eT : BT EFunc := (.node 30 e_ref3_Sign (.node 16 e_val_Compare (.node 9 e_ref3_Right (.node 6 e_law3_ValuesMade (.node 4 e_law3_ValuesRows (.node 3 e_law3_ValuesWords .leaf .leaf) (.node 5 e_law3_ValuesThree .leaf .leaf)) (.node 8 e_law3_few (.node 7 e_law3_known .leaf .leaf) .leaf)) (.node 13 e_ref3_Quote (.node 11 e_val_Text (.node 10 e_val_Quote .leaf .leaf) (.node 12 e_ref3_Text .leaf .leaf)) (.node 15 e_ref3_Rows (.node 14 e_val_Hash .leaf .leaf) .leaf))) (.node 23 e_ref3_Sym (.node 20 e_val_OfBool (.node 18 e_val_OfSym (.node 17 e_val_OfInt .leaf .leaf) (.node 19 e_val_OfStr .leaf .leaf)) (.node 22 e_ref3_Int (.node 21 e_ref3_Same .leaf .leaf) .leaf)) (.node 27 e_val_Right (.node 25 e_ref3_Bool (.node 24 e_ref3_Str .leaf .leaf) (.node 26 e_val_True .leaf .leaf)) (.node 29 e_ref1_Shape (.node 28 e_val_Same .leaf .leaf) .leaf)))) (.node 44 e_strconv_FormatInt (.node 37 e_strconv_Itoa (.node 34 e_strings_Clone (.node 32 e_strings_Builder_String (.node 31 e_strings_Builder_WriteByte .leaf .leaf) (.node 33 e_num_Text .leaf .leaf)) (.node 36 e_strings_Builder_WriteString (.node 35 e_ref1_Text .leaf .leaf) .leaf)) (.node 41 e_cmp_Compare_string (.node 39 e_cmp_Compare_int (.node 38 e_cmp_Or_int .leaf .leaf) (.node 40 e_cmp_Compare_int64 .leaf .leaf)) (.node 43 e_strings_Builder_copyCheck (.node 42 e_val_symbol .leaf .leaf) .leaf))) (.node 52 e_num_Parse (.node 49 e_cmp_isNaN_int64 (.node 47 e_internal_strconv_Itoa (.node 46 e_ref1_size .leaf .leaf) (.node 48 e_cmp_isNaN_int .leaf .leaf)) (.node 51 e_val_sign (.node 50 e_cmp_isNaN_string .leaf .leaf) .leaf)) (.node 62 e_internal_stringslite_HasPrefix (.node 56 e_num_Mul (.node 55 e_strings_HasPrefix .leaf .leaf) (.node 57 e_num_Sub .leaf .leaf)) (.node 64 e_num_abs (.node 63 e_math_bits_Mul64 .leaf .leaf) .leaf)))))
noncomputable def rT : BT ERow := (.node 30 r30 (.node 16 r16 (.node 9 r9 (.node 6 r6 (.node 4 r4 (.node 3 r3 .leaf .leaf) (.node 5 r5 .leaf .leaf)) (.node 8 r8 (.node 7 r7 .leaf .leaf) .leaf)) (.node 13 r13 (.node 11 r11 (.node 10 r10 .leaf .leaf) (.node 12 r12 .leaf .leaf)) (.node 15 r15 (.node 14 r14 .leaf .leaf) .leaf))) (.node 23 r23 (.node 20 r20 (.node 18 r18 (.node 17 r17 .leaf .leaf) (.node 19 r19 .leaf .leaf)) (.node 22 r22 (.node 21 r21 .leaf .leaf) .leaf)) (.node 27 r27 (.node 25 r25 (.node 24 r24 .leaf .leaf) (.node 26 r26 .leaf .leaf)) (.node 29 r29 (.node 28 r28 .leaf .leaf) .leaf)))) (.node 44 r44 (.node 37 r37 (.node 34 r34 (.node 32 r32 (.node 31 r31 .leaf .leaf) (.node 33 r33 .leaf .leaf)) (.node 36 r36 (.node 35 r35 .leaf .leaf) .leaf)) (.node 41 r41 (.node 39 r39 (.node 38 r38 .leaf .leaf) (.node 40 r40 .leaf .leaf)) (.node 43 r43 (.node 42 r42 .leaf .leaf) .leaf))) (.node 52 r52 (.node 49 r49 (.node 47 r47 (.node 46 r46 .leaf .leaf) (.node 48 r48 .leaf .leaf)) (.node 51 r51 (.node 50 r50 .leaf .leaf) .leaf)) (.node 62 r62 (.node 56 r56 (.node 55 r55 .leaf .leaf) (.node 57 r57 .leaf .leaf)) (.node 64 r64 (.node 63 r63 .leaf .leaf) .leaf)))))
def efns : FuncId → Option EFunc := fun f => eT.get f
noncomputable def rows : FuncId → Option ERow := fun f => rT.get f

theorem ok3 : rowB Go.Proofs.Tryd.prog sh r3 = some e_law3_ValuesWords := by kernel_rfl
theorem g3 : Go.Proofs.Tryd.prog.funcs[3]? = some Go.Proofs.Tryd.f3 := by kernel_rfl
theorem ok4 : rowB Go.Proofs.Tryd.prog sh r4 = some e_law3_ValuesRows := by kernel_rfl
theorem g4 : Go.Proofs.Tryd.prog.funcs[4]? = some Go.Proofs.Tryd.f4 := by kernel_rfl
theorem ok5 : rowB Go.Proofs.Tryd.prog sh r5 = some e_law3_ValuesThree := by kernel_rfl
theorem g5 : Go.Proofs.Tryd.prog.funcs[5]? = some Go.Proofs.Tryd.f5 := by kernel_rfl
theorem ok6 : rowB Go.Proofs.Tryd.prog sh r6 = some e_law3_ValuesMade := by kernel_rfl
theorem g6 : Go.Proofs.Tryd.prog.funcs[6]? = some Go.Proofs.Tryd.f6 := by kernel_rfl
theorem ok7 : rowB Go.Proofs.Tryd.prog sh r7 = some e_law3_known := by kernel_rfl
theorem g7 : Go.Proofs.Tryd.prog.funcs[7]? = some Go.Proofs.Tryd.f7 := by kernel_rfl
theorem ok8 : rowB Go.Proofs.Tryd.prog sh r8 = some e_law3_few := by kernel_rfl
theorem g8 : Go.Proofs.Tryd.prog.funcs[8]? = some Go.Proofs.Tryd.f8 := by kernel_rfl
theorem ok9 : rowB Go.Proofs.Tryd.prog sh r9 = some e_ref3_Right := by kernel_rfl
theorem g9 : Go.Proofs.Tryd.prog.funcs[9]? = some Go.Proofs.Tryd.f9 := by kernel_rfl
theorem ok10 : rowB Go.Proofs.Tryd.prog sh r10 = some e_val_Quote := by kernel_rfl
theorem g10 : Go.Proofs.Tryd.prog.funcs[10]? = some Go.Proofs.Tryd.f10 := by kernel_rfl
theorem ok11 : rowB Go.Proofs.Tryd.prog sh r11 = some e_val_Text := by kernel_rfl
theorem g11 : Go.Proofs.Tryd.prog.funcs[11]? = some Go.Proofs.Tryd.f11 := by kernel_rfl
theorem ok12 : rowB Go.Proofs.Tryd.prog sh r12 = some e_ref3_Text := by kernel_rfl
theorem g12 : Go.Proofs.Tryd.prog.funcs[12]? = some Go.Proofs.Tryd.f12 := by kernel_rfl
theorem ok13 : rowB Go.Proofs.Tryd.prog sh r13 = some e_ref3_Quote := by kernel_rfl
theorem g13 : Go.Proofs.Tryd.prog.funcs[13]? = some Go.Proofs.Tryd.f13 := by kernel_rfl
theorem ok14 : rowB Go.Proofs.Tryd.prog sh r14 = some e_val_Hash := by kernel_rfl
theorem g14 : Go.Proofs.Tryd.prog.funcs[14]? = some Go.Proofs.Tryd.f14 := by kernel_rfl
theorem ok15 : rowB Go.Proofs.Tryd.prog sh r15 = some e_ref3_Rows := by kernel_rfl
theorem g15 : Go.Proofs.Tryd.prog.funcs[15]? = some Go.Proofs.Tryd.f15 := by kernel_rfl
theorem ok16 : rowB Go.Proofs.Tryd.prog sh r16 = some e_val_Compare := by kernel_rfl
theorem g16 : Go.Proofs.Tryd.prog.funcs[16]? = some Go.Proofs.Tryd.f16 := by kernel_rfl
theorem ok17 : rowB Go.Proofs.Tryd.prog sh r17 = some e_val_OfInt := by kernel_rfl
theorem g17 : Go.Proofs.Tryd.prog.funcs[17]? = some Go.Proofs.Tryd.f17 := by kernel_rfl
theorem ok18 : rowB Go.Proofs.Tryd.prog sh r18 = some e_val_OfSym := by kernel_rfl
theorem g18 : Go.Proofs.Tryd.prog.funcs[18]? = some Go.Proofs.Tryd.f18 := by kernel_rfl
theorem ok19 : rowB Go.Proofs.Tryd.prog sh r19 = some e_val_OfStr := by kernel_rfl
theorem g19 : Go.Proofs.Tryd.prog.funcs[19]? = some Go.Proofs.Tryd.f19 := by kernel_rfl
theorem ok20 : rowB Go.Proofs.Tryd.prog sh r20 = some e_val_OfBool := by kernel_rfl
theorem g20 : Go.Proofs.Tryd.prog.funcs[20]? = some Go.Proofs.Tryd.f20 := by kernel_rfl
theorem ok21 : rowB Go.Proofs.Tryd.prog sh r21 = some e_ref3_Same := by kernel_rfl
theorem g21 : Go.Proofs.Tryd.prog.funcs[21]? = some Go.Proofs.Tryd.f21 := by kernel_rfl
theorem ok22 : rowB Go.Proofs.Tryd.prog sh r22 = some e_ref3_Int := by kernel_rfl
theorem g22 : Go.Proofs.Tryd.prog.funcs[22]? = some Go.Proofs.Tryd.f22 := by kernel_rfl
theorem ok23 : rowB Go.Proofs.Tryd.prog sh r23 = some e_ref3_Sym := by kernel_rfl
theorem g23 : Go.Proofs.Tryd.prog.funcs[23]? = some Go.Proofs.Tryd.f23 := by kernel_rfl
theorem ok24 : rowB Go.Proofs.Tryd.prog sh r24 = some e_ref3_Str := by kernel_rfl
theorem g24 : Go.Proofs.Tryd.prog.funcs[24]? = some Go.Proofs.Tryd.f24 := by kernel_rfl
theorem ok25 : rowB Go.Proofs.Tryd.prog sh r25 = some e_ref3_Bool := by kernel_rfl
theorem g25 : Go.Proofs.Tryd.prog.funcs[25]? = some Go.Proofs.Tryd.f25 := by kernel_rfl
theorem ok26 : rowB Go.Proofs.Tryd.prog sh r26 = some e_val_True := by kernel_rfl
theorem g26 : Go.Proofs.Tryd.prog.funcs[26]? = some Go.Proofs.Tryd.f26 := by kernel_rfl
theorem ok27 : rowB Go.Proofs.Tryd.prog sh r27 = some e_val_Right := by kernel_rfl
theorem g27 : Go.Proofs.Tryd.prog.funcs[27]? = some Go.Proofs.Tryd.f27 := by kernel_rfl
theorem ok28 : rowB Go.Proofs.Tryd.prog sh r28 = some e_val_Same := by kernel_rfl
theorem g28 : Go.Proofs.Tryd.prog.funcs[28]? = some Go.Proofs.Tryd.f28 := by kernel_rfl
theorem ok29 : rowB Go.Proofs.Tryd.prog sh r29 = some e_ref1_Shape := by kernel_rfl
theorem g29 : Go.Proofs.Tryd.prog.funcs[29]? = some Go.Proofs.Tryd.f29 := by kernel_rfl
theorem ok30 : rowB Go.Proofs.Tryd.prog sh r30 = some e_ref3_Sign := by kernel_rfl
theorem g30 : Go.Proofs.Tryd.prog.funcs[30]? = some Go.Proofs.Tryd.f30 := by kernel_rfl
theorem ok31 : rowB Go.Proofs.Tryd.prog sh r31 = some e_strings_Builder_WriteByte := by kernel_rfl
theorem g31 : Go.Proofs.Tryd.prog.funcs[31]? = some Go.Proofs.Tryd.f31 := by kernel_rfl
theorem ok32 : rowB Go.Proofs.Tryd.prog sh r32 = some e_strings_Builder_String := by kernel_rfl
theorem g32 : Go.Proofs.Tryd.prog.funcs[32]? = some Go.Proofs.Tryd.f32 := by kernel_rfl
theorem ok33 : rowB Go.Proofs.Tryd.prog sh r33 = some e_num_Text := by kernel_rfl
theorem g33 : Go.Proofs.Tryd.prog.funcs[33]? = some Go.Proofs.Tryd.f33 := by kernel_rfl
theorem ok34 : rowB Go.Proofs.Tryd.prog sh r34 = some e_strings_Clone := by kernel_rfl
theorem g34 : Go.Proofs.Tryd.prog.funcs[34]? = some Go.Proofs.Tryd.f34 := by kernel_rfl
theorem ok35 : rowB Go.Proofs.Tryd.prog sh r35 = some e_ref1_Text := by kernel_rfl
theorem g35 : Go.Proofs.Tryd.prog.funcs[35]? = some Go.Proofs.Tryd.f35 := by kernel_rfl
theorem ok36 : rowB Go.Proofs.Tryd.prog sh r36 = some e_strings_Builder_WriteString := by kernel_rfl
theorem g36 : Go.Proofs.Tryd.prog.funcs[36]? = some Go.Proofs.Tryd.f36 := by kernel_rfl
theorem ok37 : rowB Go.Proofs.Tryd.prog sh r37 = some e_strconv_Itoa := by kernel_rfl
theorem g37 : Go.Proofs.Tryd.prog.funcs[37]? = some Go.Proofs.Tryd.f37 := by kernel_rfl
theorem ok38 : rowB Go.Proofs.Tryd.prog sh r38 = some e_cmp_Or_int := by kernel_rfl
theorem g38 : Go.Proofs.Tryd.prog.funcs[38]? = some Go.Proofs.Tryd.f38 := by kernel_rfl
theorem ok39 : rowB Go.Proofs.Tryd.prog sh r39 = some e_cmp_Compare_int := by kernel_rfl
theorem g39 : Go.Proofs.Tryd.prog.funcs[39]? = some Go.Proofs.Tryd.f39 := by kernel_rfl
theorem ok40 : rowB Go.Proofs.Tryd.prog sh r40 = some e_cmp_Compare_int64 := by kernel_rfl
theorem g40 : Go.Proofs.Tryd.prog.funcs[40]? = some Go.Proofs.Tryd.f40 := by kernel_rfl
theorem ok41 : rowB Go.Proofs.Tryd.prog sh r41 = some e_cmp_Compare_string := by kernel_rfl
theorem g41 : Go.Proofs.Tryd.prog.funcs[41]? = some Go.Proofs.Tryd.f41 := by kernel_rfl
theorem ok42 : rowB Go.Proofs.Tryd.prog sh r42 = some e_val_symbol := by kernel_rfl
theorem g42 : Go.Proofs.Tryd.prog.funcs[42]? = some Go.Proofs.Tryd.f42 := by kernel_rfl
theorem ok43 : rowB Go.Proofs.Tryd.prog sh r43 = some e_strings_Builder_copyCheck := by kernel_rfl
theorem g43 : Go.Proofs.Tryd.prog.funcs[43]? = some Go.Proofs.Tryd.f43 := by kernel_rfl
theorem ok44 : rowB Go.Proofs.Tryd.prog sh r44 = some e_strconv_FormatInt := by kernel_rfl
theorem g44 : Go.Proofs.Tryd.prog.funcs[44]? = some Go.Proofs.Tryd.f44 := by kernel_rfl
theorem ok46 : rowB Go.Proofs.Tryd.prog sh r46 = some e_ref1_size := by kernel_rfl
theorem g46 : Go.Proofs.Tryd.prog.funcs[46]? = some Go.Proofs.Tryd.f46 := by kernel_rfl
theorem ok47 : rowB Go.Proofs.Tryd.prog sh r47 = some e_internal_strconv_Itoa := by kernel_rfl
theorem g47 : Go.Proofs.Tryd.prog.funcs[47]? = some Go.Proofs.Tryd.f47 := by kernel_rfl
theorem ok48 : rowB Go.Proofs.Tryd.prog sh r48 = some e_cmp_isNaN_int := by kernel_rfl
theorem g48 : Go.Proofs.Tryd.prog.funcs[48]? = some Go.Proofs.Tryd.f48 := by kernel_rfl
theorem ok49 : rowB Go.Proofs.Tryd.prog sh r49 = some e_cmp_isNaN_int64 := by kernel_rfl
theorem g49 : Go.Proofs.Tryd.prog.funcs[49]? = some Go.Proofs.Tryd.f49 := by kernel_rfl
theorem ok50 : rowB Go.Proofs.Tryd.prog sh r50 = some e_cmp_isNaN_string := by kernel_rfl
theorem g50 : Go.Proofs.Tryd.prog.funcs[50]? = some Go.Proofs.Tryd.f50 := by kernel_rfl
theorem ok51 : rowB Go.Proofs.Tryd.prog sh r51 = some e_val_sign := by kernel_rfl
theorem g51 : Go.Proofs.Tryd.prog.funcs[51]? = some Go.Proofs.Tryd.f51 := by kernel_rfl
theorem ok52 : rowB Go.Proofs.Tryd.prog sh r52 = some e_num_Parse := by kernel_rfl
theorem g52 : Go.Proofs.Tryd.prog.funcs[52]? = some Go.Proofs.Tryd.f52 := by kernel_rfl
theorem ok55 : rowB Go.Proofs.Tryd.prog sh r55 = some e_strings_HasPrefix := by kernel_rfl
theorem g55 : Go.Proofs.Tryd.prog.funcs[55]? = some Go.Proofs.Tryd.f55 := by kernel_rfl
theorem ok56 : rowB Go.Proofs.Tryd.prog sh r56 = some e_num_Mul := by kernel_rfl
theorem g56 : Go.Proofs.Tryd.prog.funcs[56]? = some Go.Proofs.Tryd.f56 := by kernel_rfl
theorem ok57 : rowB Go.Proofs.Tryd.prog sh r57 = some e_num_Sub := by kernel_rfl
theorem g57 : Go.Proofs.Tryd.prog.funcs[57]? = some Go.Proofs.Tryd.f57 := by kernel_rfl
theorem ok62 : rowB Go.Proofs.Tryd.prog sh r62 = some e_internal_stringslite_HasPrefix := by kernel_rfl
theorem g62 : Go.Proofs.Tryd.prog.funcs[62]? = some Go.Proofs.Tryd.f62 := by kernel_rfl
theorem ok63 : rowB Go.Proofs.Tryd.prog sh r63 = some e_math_bits_Mul64 := by kernel_rfl
theorem g63 : Go.Proofs.Tryd.prog.funcs[63]? = some Go.Proofs.Tryd.f63 := by kernel_rfl
theorem ok64 : rowB Go.Proofs.Tryd.prog sh r64 = some e_num_abs := by kernel_rfl
theorem g64 : Go.Proofs.Tryd.prog.funcs[64]? = some Go.Proofs.Tryd.f64 := by kernel_rfl

theorem efns_eq : efnsOf rows = efns := efnsOf_tree rT eT rfl

theorem rows_ok : RowsOk Go.Proofs.Tryd.prog sh rows := rowsOk_of (t := rT) ⟨⟨g30, by rfl, ok30⟩, ⟨⟨g16, by rfl, ok16⟩, ⟨⟨g9, by rfl, ok9⟩, ⟨⟨g6, by rfl, ok6⟩, ⟨⟨g4, by rfl, ok4⟩, ⟨⟨g3, by rfl, ok3⟩, trivial, trivial⟩, ⟨⟨g5, by rfl, ok5⟩, trivial, trivial⟩⟩, ⟨⟨g8, by rfl, ok8⟩, ⟨⟨g7, by rfl, ok7⟩, trivial, trivial⟩, trivial⟩⟩, ⟨⟨g13, by rfl, ok13⟩, ⟨⟨g11, by rfl, ok11⟩, ⟨⟨g10, by rfl, ok10⟩, trivial, trivial⟩, ⟨⟨g12, by rfl, ok12⟩, trivial, trivial⟩⟩, ⟨⟨g15, by rfl, ok15⟩, ⟨⟨g14, by rfl, ok14⟩, trivial, trivial⟩, trivial⟩⟩⟩, ⟨⟨g23, by rfl, ok23⟩, ⟨⟨g20, by rfl, ok20⟩, ⟨⟨g18, by rfl, ok18⟩, ⟨⟨g17, by rfl, ok17⟩, trivial, trivial⟩, ⟨⟨g19, by rfl, ok19⟩, trivial, trivial⟩⟩, ⟨⟨g22, by rfl, ok22⟩, ⟨⟨g21, by rfl, ok21⟩, trivial, trivial⟩, trivial⟩⟩, ⟨⟨g27, by rfl, ok27⟩, ⟨⟨g25, by rfl, ok25⟩, ⟨⟨g24, by rfl, ok24⟩, trivial, trivial⟩, ⟨⟨g26, by rfl, ok26⟩, trivial, trivial⟩⟩, ⟨⟨g29, by rfl, ok29⟩, ⟨⟨g28, by rfl, ok28⟩, trivial, trivial⟩, trivial⟩⟩⟩⟩, ⟨⟨g44, by rfl, ok44⟩, ⟨⟨g37, by rfl, ok37⟩, ⟨⟨g34, by rfl, ok34⟩, ⟨⟨g32, by rfl, ok32⟩, ⟨⟨g31, by rfl, ok31⟩, trivial, trivial⟩, ⟨⟨g33, by rfl, ok33⟩, trivial, trivial⟩⟩, ⟨⟨g36, by rfl, ok36⟩, ⟨⟨g35, by rfl, ok35⟩, trivial, trivial⟩, trivial⟩⟩, ⟨⟨g41, by rfl, ok41⟩, ⟨⟨g39, by rfl, ok39⟩, ⟨⟨g38, by rfl, ok38⟩, trivial, trivial⟩, ⟨⟨g40, by rfl, ok40⟩, trivial, trivial⟩⟩, ⟨⟨g43, by rfl, ok43⟩, ⟨⟨g42, by rfl, ok42⟩, trivial, trivial⟩, trivial⟩⟩⟩, ⟨⟨g52, by rfl, ok52⟩, ⟨⟨g49, by rfl, ok49⟩, ⟨⟨g47, by rfl, ok47⟩, ⟨⟨g46, by rfl, ok46⟩, trivial, trivial⟩, ⟨⟨g48, by rfl, ok48⟩, trivial, trivial⟩⟩, ⟨⟨g51, by rfl, ok51⟩, ⟨⟨g50, by rfl, ok50⟩, trivial, trivial⟩, trivial⟩⟩, ⟨⟨g62, by rfl, ok62⟩, ⟨⟨g56, by rfl, ok56⟩, ⟨⟨g55, by rfl, ok55⟩, trivial, trivial⟩, ⟨⟨g57, by rfl, ok57⟩, trivial, trivial⟩⟩, ⟨⟨g64, by rfl, ok64⟩, ⟨⟨g63, by rfl, ok63⟩, trivial, trivial⟩, trivial⟩⟩⟩⟩⟩

theorem follows_ok : Go.Proofs.Tryd.prog.follows .mixedOrders = true := by kernel_rfl

end Go.Proofs.YtnkmeafaggdfdaaDoorPe.ValCode
