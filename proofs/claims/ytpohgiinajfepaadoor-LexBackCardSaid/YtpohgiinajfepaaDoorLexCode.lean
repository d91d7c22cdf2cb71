/- THE CODES of the functions that the laws reach, told by expressions, and that they are the program's own (made by program: tool/gen.py, tool/code.py). -/
import Derived.Test.YtpohgiinajfepaaDoorEcRow
import Derived.Test.YtpohgiinajfepaaDoorProg
import Derived.KernelRfl
set_option maxRecDepth 100000
set_option linter.unusedVariables false
namespace Go.Proofs.YtpohgiinajfepaaDoorPe.LexCode
open Go Go.Proofs.YtpohgiinajfepaaDoorPe

abbrev f_law4_LexBytes : Nat := 3
abbrev f_law4_LexBack : Nat := 4
abbrev f_law4_LexValues : Nat := 5
abbrev f_law4_LexLengths : Nat := 6
abbrev f_law4_LexBlanks : Nat := 7
abbrev f_law4_known : Nat := 8
abbrev f_lex_Scan : Nat := 9
abbrev f_ref4_Scan : Nat := 10
abbrev f_errors_As : Nat := 11
abbrev f_errors_Is : Nat := 12
abbrev f_lex_Text : Nat := 13
abbrev f_ref4_Text : Nat := 14
abbrev f_ref3_Right : Nat := 15
abbrev f_ref3_Text : Nat := 16
abbrev f_lex_fault : Nat := 17
abbrev f_lex_scanner_skip : Nat := 18
abbrev f_lex_scanner_token : Nat := 19
abbrev f_ref4_blank : Nat := 20
abbrev f_ref4_one : Nat := 21
abbrev f_val_Text : Nat := 28
abbrev f_ref1_Shape : Nat := 29
abbrev f_ref3_Sign : Nat := 30
abbrev f_ref1_Text : Nat := 31
abbrev f_ref3_Quote : Nat := 32
abbrev f_lex_scanner_more : Nat := 33
abbrev f_lex_scanner_text : Nat := 34
abbrev f_lex_scanner_variable : Nat := 35
abbrev f_lex_scanner_word : Nat := 36
abbrev f_ref4_text : Nat := 37
abbrev f_ref4_name : Nat := 38
abbrev f_ref1_Parse : Nat := 39
abbrev f_num_Text : Nat := 42
abbrev f_val_Quote : Nat := 43
abbrev f_strings_Clone : Nat := 44
abbrev f_ref1_size : Nat := 45
abbrev f_lex_scanner_name : Nat := 46
abbrev f_lex_sign : Nat := 47
abbrev f_num_Parse : Nat := 48
abbrev f_ref3_Part : Nat := 49
abbrev f_ref3_Good : Nat := 50
abbrev f_ref1_Mul : Nat := 51
abbrev f_ref1_Add : Nat := 52
abbrev f_strconv_FormatInt : Nat := 53
abbrev f_strings_Builder_WriteByte : Nat := 54
abbrev f_strings_Builder_String : Nat := 55
abbrev f_internal_stringslite_Clone : Nat := 56
abbrev f_lex_part : Nat := 57
abbrev f_sym_Good : Nat := 58
abbrev f_val_Right : Nat := 59
abbrev f_val_OfSym : Nat := 60
abbrev f_strings_HasPrefix : Nat := 61
abbrev f_num_Mul : Nat := 62
abbrev f_num_Sub : Nat := 63
abbrev f_ref3_letter : Nat := 64
abbrev f_internal_strconv_FormatInt : Nat := 65
abbrev f_strings_Builder_copyCheck : Nat := 66
abbrev f_sym_class : Nat := 67
abbrev f_val_symbol : Nat := 68
abbrev f_internal_stringslite_HasPrefix : Nat := 69
abbrev f_math_bits_Mul64 : Nat := 70
abbrev f_num_abs : Nat := 71
abbrev f_val_sign : Nat := 77
abbrev T_byte : Nat := 5
abbrev T_bld : Nat := 110
abbrev T_law4_LexBytes_0 : Nat := 32
abbrev T_law4_LexBytes_1 : Nat := 34
abbrev T_law4_LexBytes_2 : Nat := 38
abbrev T_law4_LexValues_0 : Nat := 48
abbrev T_law4_known_0 : Nat := 32
abbrev T_law4_known_1 : Nat := 38
abbrev T_law4_known_2 : Nat := 34
abbrev T_lex_Scan_0 : Nat := 40
abbrev T_lex_Scan_1 : Nat := 55
abbrev T_ref4_Scan_0 : Nat := 41
abbrev T_lex_Text_0 : Nat := 40
abbrev T_ref4_Text_0 : Nat := 41
abbrev T_ref3_Right_0 : Nat := 48
abbrev T_ref3_Text_0 : Nat := 48
abbrev T_lex_fault_0 : Nat := 36
abbrev T_lex_fault_1 : Nat := 38
abbrev T_lex_fault_2 : Nat := 32
abbrev T_lex_scanner_token_0 : Nat := 40
abbrev T_ref4_one_0 : Nat := 41
abbrev T_val_Text_0 : Nat := 48
abbrev T_lex_scanner_text_0 : Nat := 40
abbrev T_lex_scanner_variable_0 : Nat := 40
abbrev T_lex_scanner_word_0 : Nat := 40
abbrev T_val_Right_0 : Nat := 48
abbrev T_val_OfSym_0 : Nat := 48

def sh : Nat → Nat
  | 11 => 3
  | 18 => 3
  | 19 => 3
  | 33 => 3
  | 34 => 3
  | 35 => 3
  | 36 => 3
  | 46 => 3
  | 54 => 3
  | 55 => 3
  | 66 => 3
  | _ => 0

/-- whelk/whelklaw4.LexBytes [0=b, 1=l, 2=e, 3=m, 4=at, 5=w, 6=i] -/
def b_law4_LexBytes_0 : EC :=
 (.seq (.cond (.bi (.bin .lss) (.v 6) (.un .len (.v 1)))
  (.skip)
  (.exit 0))
 (.seq (.block 1 (.cond (.pick (.pick (.pick (.pick (.bi (.bin .neq) (.un (.ld none) (.un (.off 0) (.bi (.idx 4) (.v 1) (.v 6)))) (.un (.ld none) (.un (.off 0) (.bi (.idx 4) (.v 3) (.v 6))))) (.c (.bool true)) (.bi (.bin .neq) (.un (.ld none) (.un (.off 1) (.bi (.idx 4) (.v 1) (.v 6)))) (.un (.ld none) (.un (.off 1) (.bi (.idx 4) (.v 3) (.v 6)))))) (.c (.bool true)) (.bi (.bin .neq) (.un (.ld none) (.un (.off 2) (.bi (.idx 4) (.v 1) (.v 6)))) (.un (.ld none) (.un (.off 2) (.bi (.idx 4) (.v 3) (.v 6)))))) (.c (.bool true)) (.bi (.bin .neq) (.un (.ld none) (.un (.off 3) (.bi (.idx 4) (.v 1) (.v 6)))) (.un (.ld none) (.un (.off 3) (.bi (.idx 4) (.v 3) (.v 6)))))) (.c (.bool true)) (.bi (.bin .neq) (.tup (.call 0 f_lex_Text) (.cons (.un (.ld (some 4)) (.bi (.idx 4) (.v 1) (.v 6))) .nil)) (.tup (.call 0 f_ref4_Text) (.cons (.un (.ld (some 4)) (.bi (.idx 4) (.v 3) (.v 6))) .nil))))
   (.ret [.e (.c (.bool false))])
   (.skip)))
 (.st [.sets [(6, (.bi (.bin .add) (.v 6) (.c (.int .i64 1))))]])))
def e_law4_LexBytes : EFunc := ⟨1, 15,
 (.seq (.cond (.un .not (.tup (.call 0 f_law4_known) .nil))
  (.ret [.e (.c (.bool false))])
  (.skip))
 (.seq (.cond (.bi (.bin .gtr) (.un .len (.v 0)) (.c (.int .i64 3000)))
  (.ret [.e (.c (.bool true))])
  (.skip))
 (.seq (.st [.sets [(7, (.tup (.call 0 f_lex_Scan) (.cons (.v 0) .nil)))],
   .sets [(1, (.un (.ext 0) (.v 7))), (2, (.un (.ext 1) (.v 7)))]])
 (.seq (.st [.sets [(8, (.tup (.call 0 f_ref4_Scan) (.cons (.v 0) .nil)))],
   .sets [(3, (.un (.ext 0) (.v 8))), (4, (.un (.ext 1) (.v 8)))]])
 (.seq (.cond (.bi (.bin .neq) (.un (.ext 2) (.v 8)) (.c (.int .i64 0)))
  (.seq (.st [.eff (some 5) none (.zbox [.nilp] T_law4_LexBytes_0)])
  (.seq (.st [.eff (some 9) (some ((.bi (.bin .eql) (.un .len (.v 1)) (.c (.int .i64 0))), true)) (.calls [true, true, true, true, true, true, true, true, true, true, true, true, true, true, true, true] f_errors_As (.cons (.v 2) (.cons (.un (.iface T_law4_LexBytes_1) (.v 5)) .nil))),
    .eff (some 10) (some ((.pick (.bi (.bin .eql) (.un .len (.v 1)) (.c (.int .i64 0))) (.v 9) (.c (.bool false))), true)) (.load none (.v 5)),
    .eff (some 11) (some ((.pick (.bi (.bin .eql) (.un .len (.v 1)) (.c (.int .i64 0))) (.v 9) (.c (.bool false))), true)) (.load none (.un (.off 0) (.un .nilchk (.v 10)))),
    .sets [(12, (.pick (.pick (.bi (.bin .eql) (.un .len (.v 1)) (.c (.int .i64 0))) (.v 9) (.c (.bool false))) (.bi (.bin .eql) (.v 11) (.c (.str [99, 104, 97, 114]))) (.c (.bool false))))],
    .eff (some 13) (some ((.v 12), true)) (.load none (.v 5)),
    .eff (some 14) (some ((.v 12), true)) (.load none (.un (.off 1) (.un .nilchk (.v 13))))])
  (.ret [.e (.pick (.pick (.v 12) (.bi (.bin .eql) (.v 14) (.v 4)) (.c (.bool false))) (.tup (.call 0 f_errors_Is) (.cons (.v 2) (.cons (.un (.iface T_law4_LexBytes_2) (.un (.ext 2) (.v 8))) .nil))) (.c (.bool false)))])))
  (.skip))
 (.seq (.cond (.pick (.bi (.eqs 1 true) (.v 2) (.c .nili)) (.c (.bool true)) (.bi (.bin .neq) (.un .len (.v 1)) (.un .len (.v 3))))
  (.ret [.e (.c (.bool false))])
  (.skip))
 (.seq (.seq (.st [.sets [(6, (.c (.int .i64 0)))]])
 (.block 0 (.loop [false, true, false, true, false, false, true, false, false, false, false, false, false, false, false] b_law4_LexBytes_0)))
 (.ret [.e (.c (.bool true))]))))))))⟩
noncomputable def r3 : ERow := ⟨Go.Proofs.Tryd.f3, ⟨[(15, (.cons 0 0 (.cons 0 1 (.cons 0 2 (.cons 0 3 (.cons 0 5 (.cons 0 6 (.cons 0 7 (.cons 0 8 (.cons 1 4 (.cons 1 9 (.cons 0 10 (.cons 0 11 (.cons 0 12 (.cons 0 13 (.cons 0 14 (.cons 0 15 (.cons 0 17 (.cons 0 18 (.cons 0 19 (.cons 0 20 (.cons 1 16 (.cons 1 21 (.cons 0 22 (.cons 0 23 (.cons 0 24 (.cons 0 25 (.cons 0 26 (.cons 0 27 (.cons 0 28 (.cons 0 30 (.cons 0 31 (.cons 0 32 (.cons 0 33 (.cons 1 29 (.cons 1 34 (.cons 0 35 (.cons 0 36 (.cons 0 37 (.cons 0 38 (.cons 0 39 (.cons 0 40 (.cons 0 41 (.cons 0 43 (.cons 0 44 (.cons 0 45 (.cons 0 46 (.cons 1 42 (.cons 1 47 (.cons 0 48 (.cons 0 49 (.cons 0 50 (.cons 0 51 (.cons 0 52 (.cons 0 53 (.cons 0 56 (.cons 0 57 (.cons 0 58 (.cons 1 54 (.cons 1 59 (.cons 2 55 (.cons 2 60 (.cons 0 61 (.cons 0 62 .nil))))))))))))))))))))))))))))))))))))))))))))))))))))))))))))))))], [(0, [false, false, false, true, false, true, false, false, false, true])]⟩, ⟨135, [0, 3, 4, 5, 6, 8, 9, 15, 20, 34, 37, 40, 43, 44, 47], [76, 81, 88, 93, 101, 106, 114, 119, 126, 131], [15, 20]⟩, 1, e_law4_LexBytes⟩

/-- whelk/whelklaw4.LexBack [0=b, 1=blanks, 2=m, 3=_, 4=s, 5=i, 6=k, 7=l, 8=i] -/
def b_law4_LexBack_0 : EC :=
 (.seq (.cond (.bi (.bin .lss) (.v 5) (.un .len (.v 2)))
  (.skip)
  (.exit 0))
 (.seq (.block 1 (.seq (.st [.sets [(4, (.bi (.bin .add) (.v 4) (.tup (.call 0 f_lex_Text) (.cons (.tup (.build [(.int .i64 0), (.int .i64 0), (.int .i64 0), (.str [])] [(0, 1), (1, 1), (2, 1), (3, 1)]) (.cons (.un (.ld none) (.un (.off 0) (.bi (.idx 4) (.v 2) (.v 5)))) (.cons (.un (.ld none) (.un (.off 1) (.bi (.idx 4) (.v 2) (.v 5)))) (.cons (.un (.ld none) (.un (.off 2) (.bi (.idx 4) (.v 2) (.v 5)))) (.cons (.un (.ld none) (.un (.off 3) (.bi (.idx 4) (.v 2) (.v 5)))) .nil))))) .nil))))]])
  (.seq (.st [.sets [(6, (.c (.int .u8 0)))]])
  (.seq (.cond (.bi (.bin .lss) (.v 5) (.un .len (.v 1)))
   (.st [.sets [(6, (.un (.ld none) (.bi (.idx 1) (.v 1) (.v 5))))]])
   (.skip))
  (.st [.sets [(4, (.bi (.bin .add) (.v 4) (.un (.ld none) (.bi (.idx 1) (.tup (.bslice 1 [(.str [])] 5 [0, 1, 2, 3, 4]) (.cons (.c (.str [32])) (.cons (.c (.str [10])) (.cons (.c (.str [9, 32])) (.cons (.c (.str [32, 59, 32, 97, 32, 40, 99, 111, 109, 109, 101, 110, 116, 10])) (.cons (.c (.str [13, 10])) .nil)))))) (.bi (.bin .rem) (.v 6) (.c (.int .u8 5)))))))]])))))
 (.st [.sets [(5, (.bi (.bin .add) (.v 5) (.c (.int .i64 1))))]])))
def b_law4_LexBack_1 : EC :=
 (.seq (.cond (.bi (.bin .lss) (.v 8) (.un .len (.v 7)))
  (.skip)
  (.exit 2))
 (.seq (.block 3 (.cond (.pick (.pick (.bi (.bin .neq) (.un (.ld none) (.un (.off 0) (.bi (.idx 4) (.v 7) (.v 8)))) (.un (.ld none) (.un (.off 0) (.bi (.idx 4) (.v 2) (.v 8))))) (.c (.bool true)) (.bi (.bin .neq) (.un (.ld none) (.un (.off 2) (.bi (.idx 4) (.v 7) (.v 8)))) (.un (.ld none) (.un (.off 2) (.bi (.idx 4) (.v 2) (.v 8)))))) (.c (.bool true)) (.bi (.bin .neq) (.un (.ld none) (.un (.off 3) (.bi (.idx 4) (.v 7) (.v 8)))) (.un (.ld none) (.un (.off 3) (.bi (.idx 4) (.v 2) (.v 8))))))
   (.ret [.e (.c (.bool false))])
   (.skip)))
 (.st [.sets [(8, (.bi (.bin .add) (.v 8) (.c (.int .i64 1))))]])))
def e_law4_LexBack : EFunc := ⟨2, 11,
 (.seq (.cond (.un .not (.tup (.call 0 f_law4_known) .nil))
  (.ret [.e (.c (.bool false))])
  (.skip))
 (.seq (.cond (.pick (.bi (.bin .gtr) (.un .len (.v 0)) (.c (.int .i64 1000))) (.c (.bool true)) (.bi (.bin .gtr) (.un .len (.v 1)) (.c (.int .i64 100))))
  (.ret [.e (.c (.bool true))])
  (.skip))
 (.seq (.st [.sets [(9, (.tup (.call 0 f_ref4_Scan) (.cons (.v 0) .nil)))],
   .sets [(2, (.un (.ext 0) (.v 9))), (3, (.un (.ext 1) (.v 9)))]])
 (.seq (.cond (.pick (.bi (.bin .neq) (.un (.ext 2) (.v 9)) (.c (.int .i64 0))) (.c (.bool true)) (.bi (.bin .gtr) (.un .len (.v 2)) (.c (.int .i64 500))))
  (.ret [.e (.c (.bool true))])
  (.skip))
 (.seq (.st [.sets [(4, (.c (.str [])))]])
 (.seq (.seq (.st [.sets [(5, (.c (.int .i64 0)))]])
 (.block 0 (.loop [false, true, true, false, true, true, false, false, false, false, false] b_law4_LexBack_0)))
 (.seq (.st [.sets [(10, (.tup (.call 0 f_lex_Scan) (.cons (.un .tobytes (.v 4)) .nil)))],
   .sets [(7, (.un (.ext 0) (.v 10)))]])
 (.seq (.cond (.pick (.bi (.eqs 1 true) (.un (.ext 1) (.v 10)) (.c .nili)) (.c (.bool true)) (.bi (.bin .neq) (.un .len (.v 7)) (.un .len (.v 2))))
  (.ret [.e (.c (.bool false))])
  (.skip))
 (.seq (.seq (.st [.sets [(8, (.c (.int .i64 0)))]])
 (.block 2 (.loop [false, false, true, false, false, false, false, true, true, false, false] b_law4_LexBack_1)))
 (.ret [.e (.c (.bool true))]))))))))))⟩
noncomputable def r4 : ERow := ⟨Go.Proofs.Tryd.f4, ⟨[(12, (.cons 0 0 (.cons 0 1 (.cons 0 2 (.cons 0 3 (.cons 0 4 (.cons 0 6 (.cons 0 7 (.cons 0 8 (.cons 0 9 (.cons 0 11 (.cons 0 12 (.cons 0 13 (.cons 0 14 (.cons 0 16 (.cons 0 17 (.cons 0 18 (.cons 0 19 (.cons 1 5 (.cons 1 10 (.cons 1 15 (.cons 1 20 (.cons 0 21 (.cons 2 22 (.cons 0 23 (.cons 0 24 .nil)))))))))))))))))))))))))), (23, (.cons 0 0 (.cons 0 1 (.cons 0 2 (.cons 0 3 (.cons 0 5 (.cons 0 6 (.cons 0 7 (.cons 0 8 (.cons 1 4 (.cons 1 9 (.cons 0 10 (.cons 0 11 (.cons 0 12 (.cons 0 13 (.cons 0 14 (.cons 0 15 (.cons 0 17 (.cons 0 18 (.cons 0 19 (.cons 0 20 (.cons 1 16 (.cons 1 21 (.cons 0 22 (.cons 0 23 (.cons 0 24 (.cons 0 25 (.cons 0 26 (.cons 0 27 (.cons 0 28 (.cons 0 30 (.cons 0 31 (.cons 0 32 (.cons 0 33 (.cons 1 29 (.cons 1 34 (.cons 0 35 (.cons 0 36 .nil))))))))))))))))))))))))))))))))))))))], [(0, [false, true, false, false, false, true, false, false, true, true]), (2, [false, false, false, false, false, true, false, false, false, false, false, true, false, true])]⟩, ⟨140, [0, 1, 5, 6, 8, 9, 10, 11, 13, 24, 82], [48, 53, 58, 63, 74, 80, 107, 112, 119, 124, 132, 137], [24, 82]⟩, 2, e_law4_LexBack⟩

/-- whelk/whelklaw4.LexValues [0=v, 1=v, 2=l] -/
def e_law4_LexValues : EFunc := ⟨1, 15,
 (.seq (.st [.eff (some 1) none (.box 3 T_law4_LexValues_0 (.v 0))])
 (.seq (.cond (.un .not (.tup (.call 0 f_law4_known) .nil))
  (.ret [.e (.c (.bool false))])
  (.skip))
 (.seq (.seq (.st [.eff (some 3) none (.load (some 3) (.v 1))])
 (.cond (.un .not (.tup (.call 0 f_ref3_Right) (.cons (.v 3) .nil)))
  (.ret [.e (.c (.bool true))])
  (.skip)))
 (.seq (.st [.eff (some 5) none (.load (some 3) (.v 1)),
   .sets [(4, (.tup (.call 0 f_lex_Scan) (.cons (.un .tobytes (.tup (.call 0 f_ref3_Text) (.cons (.v 5) .nil))) .nil)))],
   .sets [(2, (.un (.ext 0) (.v 4)))]])
 (.seq (.st [.sets [(6, (.pick (.bi (.eqs 1 false) (.un (.ext 1) (.v 4)) (.c .nili)) (.bi (.bin .eql) (.un .len (.v 2)) (.c (.int .i64 1))) (.c (.bool false)))), (7, (.gd true (.pick (.bi (.eqs 1 false) (.un (.ext 1) (.v 4)) (.c .nili)) (.bi (.bin .eql) (.un .len (.v 2)) (.c (.int .i64 1))) (.c (.bool false))) (.un (.ld none) (.un (.off 0) (.bi (.idx 4) (.v 2) (.c (.int .i64 0))))))), (8, (.gd true (.pick (.bi (.eqs 1 false) (.un (.ext 1) (.v 4)) (.c .nili)) (.bi (.bin .eql) (.un .len (.v 2)) (.c (.int .i64 1))) (.c (.bool false))) (.un (.off 0) (.v 1))))],
   .eff (some 9) (some ((.v 6), true)) (.load none (.v 8)),
   .sets [(10, (.pick (.v 6) (.bi (.bin .eql) (.v 7) (.v 9)) (.c (.bool false)))), (11, (.gd true (.pick (.v 6) (.bi (.bin .eql) (.v 7) (.v 9)) (.c (.bool false))) (.un (.ld none) (.un (.off 2) (.bi (.idx 4) (.v 2) (.c (.int .i64 0))))))), (12, (.gd true (.pick (.v 6) (.bi (.bin .eql) (.v 7) (.v 9)) (.c (.bool false))) (.un (.off 1) (.v 1))))],
   .eff (some 13) (some ((.v 10), true)) (.load none (.v 12)),
   .eff (some 14) (some ((.pick (.v 10) (.bi (.bin .eql) (.v 11) (.v 13)) (.c (.bool false))), true)) (.load none (.un (.off 2) (.v 1)))])
 (.ret [.e (.pick (.pick (.pick (.v 10) (.bi (.bin .eql) (.v 11) (.v 13)) (.c (.bool false))) (.bi (.bin .eql) (.un (.ld none) (.un (.off 3) (.bi (.idx 4) (.v 2) (.c (.int .i64 0))))) (.v 14)) (.c (.bool false))) (.bi (.bin .eql) (.un (.ld none) (.un (.off 1) (.bi (.idx 4) (.v 2) (.c (.int .i64 0))))) (.c (.int .i64 0))) (.c (.bool false)))]))))))⟩
noncomputable def r5 : ERow := ⟨Go.Proofs.Tryd.f5, ⟨[(6, (.cons 0 0 (.cons 0 1 (.cons 0 2 (.cons 0 3 (.cons 0 4 (.cons 0 5 (.cons 0 6 (.cons 0 7 (.cons 0 8 (.cons 0 9 (.cons 0 10 (.cons 0 12 (.cons 1 11 (.cons 1 13 (.cons 0 14 (.cons 0 15 (.cons 0 16 (.cons 0 17 (.cons 0 18 (.cons 0 19 (.cons 0 21 (.cons 1 20 (.cons 1 22 (.cons 0 23 (.cons 0 24 (.cons 0 25 (.cons 0 26 (.cons 0 27 (.cons 0 28 (.cons 0 30 (.cons 1 29 (.cons 1 31 (.cons 0 32 (.cons 0 33 (.cons 0 34 (.cons 0 35 (.cons 0 36 (.cons 0 37 (.cons 1 38 (.cons 0 39 (.cons 0 40 (.cons 0 41 .nil)))))))))))))))))))))))))))))))))))))))))))], []⟩, ⟨58, [0, 1, 3, 7, 10, 11, 24, 28, 29, 30, 33, 37, 38, 39, 48], [28, 37, 46, 55], [10]⟩, 1, e_law4_LexValues⟩

/-- whelk/whelklaw4.LexLengths [0=n, 1=kind, 2=s, 3=i, 4=most, 5=l, 6=e, 7=_, 8=at, 9=f] -/
def b_law4_LexLengths_0 : EC :=
 (.seq (.cond (.bi (.bin .lss) (.v 3) (.v 0))
  (.skip)
  (.exit 0))
 (.seq (.block 1 (.st [.sets [(2, (.bi (.bin .add) (.v 2) (.c (.str [107]))))]]))
 (.st [.sets [(3, (.bi (.bin .add) (.v 3) (.c (.int .i64 1))))]])))
def e_law4_LexLengths : EFunc := ⟨2, 12,
 (.seq (.cond (.un .not (.tup (.call 0 f_law4_known) .nil))
  (.ret [.e (.c (.bool false))])
  (.skip))
 (.seq (.cond (.pick (.bi (.bin .lss) (.v 0) (.c (.int .i64 1))) (.c (.bool true)) (.bi (.bin .gtr) (.v 0) (.c (.int .i64 1100))))
  (.ret [.e (.c (.bool true))])
  (.skip))
 (.seq (.st [.sets [(2, (.c (.str [])))]])
 (.seq (.seq (.st [.sets [(3, (.c (.int .i64 0)))]])
 (.block 0 (.loop [true, true, true, true, false, false, false, false, false, false, false, false] b_law4_LexLengths_0)))
 (.seq (.st [.sets [(4, (.c (.int .i64 40)))]])
 (.seq (.block 2 (.cond (.bi (.bin .eql) (.bi (.bin .rem) (.v 1) (.c (.int .u8 4))) (.c (.int .u8 1)))
   (.st [.sets [(2, (.bi (.bin .add) (.c (.str [63])) (.v 2)))]])
   (.cond (.bi (.bin .eql) (.bi (.bin .rem) (.v 1) (.c (.int .u8 4))) (.c (.int .u8 2)))
    (.st [.sets [(2, (.bi (.bin .add) (.bi (.bin .add) (.c (.str [63, 42])) (.v 2)) (.c (.str [42]))))]])
    (.cond (.bi (.bin .eql) (.bi (.bin .rem) (.v 1) (.c (.int .u8 4))) (.c (.int .u8 3)))
     (.seq (.st [.sets [(2, (.bi (.bin .add) (.bi (.bin .add) (.c (.str [34])) (.v 2)) (.c (.str [34]))))]])
     (.st [.sets [(4, (.c (.int .i64 1000)))]]))
     (.skip)))))
 (.seq (.st [.sets [(10, (.tup (.call 0 f_lex_Scan) (.cons (.un .tobytes (.v 2)) .nil)))],
   .sets [(5, (.un (.ext 0) (.v 10))), (6, (.un (.ext 1) (.v 10)))]])
 (.seq (.st [.sets [(11, (.tup (.call 0 f_ref4_Scan) (.cons (.un .tobytes (.v 2)) .nil)))],
   .sets [(7, (.un (.ext 0) (.v 11))), (8, (.un (.ext 1) (.v 11))), (9, (.un (.ext 2) (.v 11)))]])
 (.seq (.cond (.bi (.bin .gtr) (.v 0) (.v 4))
  (.ret [.e (.pick (.pick (.pick (.bi (.eqs 1 true) (.v 6) (.c .nili)) (.bi (.bin .eql) (.un .len (.v 5)) (.c (.int .i64 0))) (.c (.bool false))) (.bi (.bin .eql) (.v 9) (.c (.int .i64 4))) (.c (.bool false))) (.bi (.bin .eql) (.v 8) (.c (.int .i64 0))) (.c (.bool false)))])
  (.skip))
 (.ret [.e (.pick (.pick (.bi (.eqs 1 false) (.v 6) (.c .nili)) (.bi (.bin .eql) (.un .len (.v 5)) (.c (.int .i64 1))) (.c (.bool false))) (.bi (.bin .eql) (.v 9) (.c (.int .i64 0))) (.c (.bool false)))]))))))))))⟩
noncomputable def r6 : ERow := ⟨Go.Proofs.Tryd.f6, ⟨[], [(0, [true, true, false, false, false, true, true])]⟩, ⟨86, [0, 1, 5, 6, 7, 8, 9, 10, 11, 12, 44, 50], [], [44, 50]⟩, 2, e_law4_LexLengths⟩

/-- whelk/whelklaw4.LexBlanks [0=l, 1=s, 2=i, 3=a, 4=b, 5=f, 6=c, 7=g] -/
def b_law4_LexBlanks_0 : EC :=
 (.seq (.cond (.bi (.bin .lss) (.v 2) (.un .len (.v 0)))
  (.skip)
  (.exit 0))
 (.seq (.block 1 (.st [.sets [(1, (.bi (.bin .add) (.v 1) (.un (.ld none) (.bi (.idx 1) (.tup (.bslice 1 [(.str [])] 6 [0, 1, 2, 3, 4, 5]) (.cons (.c (.str [32])) (.cons (.c (.str [10])) (.cons (.c (.str [9])) (.cons (.c (.str [13])) (.cons (.c (.str [59, 120, 40, 34, 10])) (.cons (.c (.str [59, 10])) .nil))))))) (.bi (.bin .rem) (.un (.ld none) (.bi (.idx 1) (.v 0) (.v 2))) (.c (.int .u8 6)))))))]]))
 (.st [.sets [(2, (.bi (.bin .add) (.v 2) (.c (.int .i64 1))))]])))
def e_law4_LexBlanks : EFunc := ⟨1, 11,
 (.seq (.cond (.un .not (.tup (.call 0 f_law4_known) .nil))
  (.ret [.e (.c (.bool false))])
  (.skip))
 (.seq (.cond (.bi (.bin .gtr) (.un .len (.v 0)) (.c (.int .i64 200)))
  (.ret [.e (.c (.bool true))])
  (.skip))
 (.seq (.st [.sets [(1, (.c (.str [])))]])
 (.seq (.seq (.st [.sets [(2, (.c (.int .i64 0)))]])
 (.block 0 (.loop [true, true, true, false, false, false, false, false, false, false, false] b_law4_LexBlanks_0)))
 (.seq (.st [.sets [(8, (.tup (.call 0 f_lex_Scan) (.cons (.un .tobytes (.v 1)) .nil)))],
   .sets [(3, (.un (.ext 0) (.v 8)))]])
 (.seq (.st [.sets [(9, (.tup (.call 0 f_lex_Scan) (.cons (.un .tobytes (.bi (.bin .add) (.v 1) (.c (.str [59, 32, 116, 104, 101, 32, 101, 110, 100])))) .nil)))],
   .sets [(4, (.un (.ext 0) (.v 9))), (5, (.un (.ext 1) (.v 9)))]])
 (.seq (.st [.sets [(10, (.tup (.call 0 f_lex_Scan) (.cons (.un .tobytes (.bi (.bin .add) (.v 1) (.c (.str [122])))) .nil)))],
   .sets [(6, (.un (.ext 0) (.v 10))), (7, (.un (.ext 1) (.v 10)))]])
 (.ret [.e (.pick (.pick (.pick (.pick (.pick (.bi (.eqs 1 false) (.un (.ext 1) (.v 8)) (.c .nili)) (.bi (.eqs 1 false) (.v 5) (.c .nili)) (.c (.bool false))) (.bi (.eqs 1 false) (.v 7) (.c .nili)) (.c (.bool false))) (.bi (.bin .eql) (.bi (.bin .add) (.un .len (.v 3)) (.un .len (.v 4))) (.c (.int .i64 0))) (.c (.bool false))) (.bi (.bin .eql) (.un .len (.v 6)) (.c (.int .i64 1))) (.c (.bool false))) (.bi (.bin .eql) (.un (.ld none) (.un (.off 1) (.bi (.idx 4) (.v 6) (.c (.int .i64 0))))) (.un .slen (.v 1))) (.c (.bool false)))]))))))))⟩
noncomputable def r7 : ERow := ⟨Go.Proofs.Tryd.f7, ⟨[], [(0, [true, false, false, true, true])]⟩, ⟨84, [0, 3, 4, 5, 7, 8, 9, 10, 32, 38, 45], [27, 30, 79], [32, 38, 45]⟩, 1, e_law4_LexBlanks⟩

/-- whelk/whelklaw4.known [0=l, 1=_, 2=f, 3=w] -/
def e_law4_known : EFunc := ⟨0, 18,
 (.seq (.st [.eff (some 5) none (.bown 1 [(.int .u8 0)] 22 [0, 1, 2, 3, 4, 5, 6, 7, 8, 9, 10, 11, 12, 13, 14, 15, 16, 17, 18, 19, 20, 21] (.cons (.c (.int .u8 40)) (.cons (.c (.int .u8 97)) (.cons (.c (.int .u8 32)) (.cons (.c (.int .u8 63)) (.cons (.c (.int .u8 120)) (.cons (.c (.int .u8 32)) (.cons (.c (.int .u8 63)) (.cons (.c (.int .u8 42)) (.cons (.c (.int .u8 103)) (.cons (.c (.int .u8 42)) (.cons (.c (.int .u8 32)) (.cons (.c (.int .u8 126)) (.cons (.c (.int .u8 53)) (.cons (.c (.int .u8 32)) (.cons (.c (.int .u8 34)) (.cons (.c (.int .u8 115)) (.cons (.c (.int .u8 34)) (.cons (.c (.int .u8 41)) (.cons (.c (.int .u8 32)) (.cons (.c (.int .u8 59)) (.cons (.c (.int .u8 32)) (.cons (.c (.int .u8 99)) .nil))))))))))))))))))))))),
   .eff (some 6) none (.mark (.v 5)),
   .sets [(4, (.tup (.call 0 f_lex_Scan) (.cons (.v 6) .nil)))],
   .sets [(0, (.un (.ext 0) (.v 4)))]])
 (.seq (.st [.eff (some 8) none (.bown 1 [(.int .u8 0)] 3 [0, 1, 2] (.cons (.c (.int .u8 97)) (.cons (.c (.int .u8 32)) (.cons (.c (.int .u8 63)) .nil)))),
   .eff (some 9) none (.mark (.v 8)),
   .sets [(7, (.tup (.call 0 f_lex_Scan) (.cons (.v 9) .nil)))],
   .sets [(1, (.un (.ext 0) (.v 7))), (2, (.un (.ext 1) (.v 7)))]])
 (.seq (.st [.eff (some 3) none (.zbox [.nilp] T_law4_known_0)])
 (.seq (.st [.sets [(10, (.pick (.pick (.pick (.pick (.pick (.pick (.pick (.pick (.bi (.eqs 1 false) (.un (.ext 1) (.v 4)) (.c .nili)) (.bi (.bin .eql) (.un .len (.v 0)) (.c (.int .i64 8))) (.c (.bool false))) (.bi (.bin .eql) (.un (.ld none) (.un (.off 0) (.bi (.idx 4) (.v 0) (.c (.int .i64 0))))) (.c (.int .i64 4))) (.c (.bool false))) (.bi (.bin .eql) (.un (.ld none) (.un (.off 0) (.bi (.idx 4) (.v 0) (.c (.int .i64 2))))) (.c (.int .i64 6))) (.c (.bool false))) (.bi (.bin .eql) (.un (.ld none) (.un (.off 3) (.bi (.idx 4) (.v 0) (.c (.int .i64 2))))) (.c (.str [120]))) (.c (.bool false))) (.bi (.bin .eql) (.un (.ld none) (.un (.off 0) (.bi (.idx 4) (.v 0) (.c (.int .i64 3))))) (.c (.int .i64 7))) (.c (.bool false))) (.bi (.bin .eql) (.un (.ld none) (.un (.off 2) (.bi (.idx 4) (.v 0) (.c (.int .i64 5))))) (.c (.int .i64 5))) (.c (.bool false))) (.bi (.bin .eql) (.un (.ld none) (.un (.off 3) (.bi (.idx 4) (.v 0) (.c (.int .i64 6))))) (.c (.str [115]))) (.c (.bool false))) (.bi (.bin .eql) (.un (.ld none) (.un (.off 1) (.bi (.idx 4) (.v 0) (.c (.int .i64 7))))) (.c (.int .i64 17))) (.c (.bool false)))), (11, (.gd true (.pick (.pick (.pick (.pick (.pick (.pick (.pick (.pick (.bi (.eqs 1 false) (.un (.ext 1) (.v 4)) (.c .nili)) (.bi (.bin .eql) (.un .len (.v 0)) (.c (.int .i64 8))) (.c (.bool false))) (.bi (.bin .eql) (.un (.ld none) (.un (.off 0) (.bi (.idx 4) (.v 0) (.c (.int .i64 0))))) (.c (.int .i64 4))) (.c (.bool false))) (.bi (.bin .eql) (.un (.ld none) (.un (.off 0) (.bi (.idx 4) (.v 0) (.c (.int .i64 2))))) (.c (.int .i64 6))) (.c (.bool false))) (.bi (.bin .eql) (.un (.ld none) (.un (.off 3) (.bi (.idx 4) (.v 0) (.c (.int .i64 2))))) (.c (.str [120]))) (.c (.bool false))) (.bi (.bin .eql) (.un (.ld none) (.un (.off 0) (.bi (.idx 4) (.v 0) (.c (.int .i64 3))))) (.c (.int .i64 7))) (.c (.bool false))) (.bi (.bin .eql) (.un (.ld none) (.un (.off 2) (.bi (.idx 4) (.v 0) (.c (.int .i64 5))))) (.c (.int .i64 5))) (.c (.bool false))) (.bi (.bin .eql) (.un (.ld none) (.un (.off 3) (.bi (.idx 4) (.v 0) (.c (.int .i64 6))))) (.c (.str [115]))) (.c (.bool false))) (.bi (.bin .eql) (.un (.ld none) (.un (.off 1) (.bi (.idx 4) (.v 0) (.c (.int .i64 7))))) (.c (.int .i64 17))) (.c (.bool false))) (.tup (.call 0 f_errors_Is) (.cons (.v 2) (.cons (.un (.iface T_law4_known_1) (.c (.int .i64 2))) .nil)))))],
   .eff (some 12) (some ((.pick (.v 10) (.v 11) (.c (.bool false))), true)) (.calls [true, true, true, true, true, true, true, true, true, true, true, true, true, true, true, true] f_errors_As (.cons (.v 2) (.cons (.un (.iface T_law4_known_2) (.v 3)) .nil))),
   .eff (some 13) (some ((.pick (.pick (.v 10) (.v 11) (.c (.bool false))) (.v 12) (.c (.bool false))), true)) (.load none (.v 3)),
   .eff (some 14) (some ((.pick (.pick (.v 10) (.v 11) (.c (.bool false))) (.v 12) (.c (.bool false))), true)) (.load none (.un (.off 0) (.un .nilchk (.v 13)))),
   .sets [(15, (.pick (.pick (.pick (.v 10) (.v 11) (.c (.bool false))) (.v 12) (.c (.bool false))) (.bi (.bin .eql) (.v 14) (.c (.str [99, 104, 97, 114]))) (.c (.bool false))))],
   .eff (some 16) (some ((.v 15), true)) (.load none (.v 3)),
   .eff (some 17) (some ((.v 15), true)) (.load none (.un (.off 1) (.un .nilchk (.v 16))))])
 (.ret [.e (.pick (.pick (.v 15) (.bi (.bin .eql) (.v 17) (.c (.int .i64 2))) (.c (.bool false))) (.bi (.bin .eql) (.tup (.call 0 f_lex_Text) (.cons (.un (.ld (some 4)) (.bi (.idx 4) (.v 0) (.c (.int .i64 3)))) .nil)) (.c (.str [63, 42, 103, 42]))) (.c (.bool false)))])))))⟩
noncomputable def r8 : ERow := ⟨Go.Proofs.Tryd.f8, ⟨[], []⟩, ⟨105, [1, 3, 4, 5, 6, 7, 8, 12, 13, 14, 74, 77, 82, 85, 88, 91, 92, 95], [29, 36, 43, 50, 57, 64, 71, 101], [77, 6, 12]⟩, 0, e_law4_known⟩

/-- whelk/lex.Scan [0=b, 1=s, 2=out, 3=t] -/
def b_lex_Scan_0 : EC :=
 (.seq (.seq (.st [.eff (some 5) none (.load none (.un (.off 1) (.un .nilchk (.v 1))))])
 (.cond (.bi (.bin .lss) (.v 5) (.un .len (.v 0)))
  (.skip)
  (.exit 0)))
 (.seq (.block 1 (.seq (.st [.eff (some 6) none (.load none (.un (.off 1) (.un .nilchk (.v 1))))])
  (.seq (.st [.eff (some 7) none (.calls [true, true, true, true, true, true, true, true, true, true, true, true, true, true, true, true] f_lex_scanner_token (.cons (.v 1) .nil)),
    .eff (some 3) none (.zbox [(.int .i64 0), (.int .i64 0), (.int .i64 0), (.str [])] T_lex_Scan_0),
    .eff none none (.store 4 (.v 3) (.un (.ext 0) (.v 7)))])
  (.seq (.cond (.bi (.bin .neq) (.un (.ext 1) (.v 7)) (.c (.int .i64 0)))
   (.ret [.e (.c .nils), .e (.tup (.call 0 f_lex_fault) (.cons (.v 6) (.cons (.un (.ext 1) (.v 7)) .nil)))])
   (.skip))
  (.seq (.st [.eff none none (.store 1 (.un (.off 1) (.v 3)) (.v 6))])
  (.st [.eff (some 8) none (.load (some 4) (.v 3)),
    .eff (some 9) none (.append 4 40 T_lex_Scan_0 (.v 2) (.tup (.bslice 4 [(.int .i64 0), (.int .i64 0), (.int .i64 0), (.str [])] 1 [0]) (.cons (.v 8) .nil))),
    .sets [(2, (.v 9))]]))))))
 (.st [.eff none none (.calls [true, true, true, true, true, true, true, true, true, true, true, true, true, true, true, true] f_lex_scanner_skip (.cons (.v 1) .nil))])))
def e_lex_Scan : EFunc := ⟨1, 10,
 (.seq (.cond (.bi (.bin .gtr) (.un .len (.v 0)) (.c (.int .i64 65536)))
  (.ret [.e (.c .nils), .e (.tup (.call 0 f_lex_fault) (.cons (.c (.int .i64 0)) (.cons (.c (.int .i64 4)) .nil)))])
  (.skip))
 (.seq (.st [.eff (some 4) none (.box 2 T_lex_Scan_1 (.tup (.build [.nils, (.int .i64 0)] [(0, 1)]) (.cons (.v 0) .nil))),
   .sets [(1, (.v 4))]])
 (.seq (.st [.sets [(2, (.c .nils))]])
 (.seq (.seq (.st [.eff none none (.calls [true, true, true, true, true, true, true, true, true, true, true, true, true, true, true, true] f_lex_scanner_skip (.cons (.v 1) .nil))])
 (.block 0 (.loop [true, true, true, false, false, false, false, false, false, false] b_lex_Scan_0)))
 (.ret [.e (.v 2), .e (.c .nili)])))))⟩
noncomputable def r9 : ERow := ⟨Go.Proofs.Tryd.f9, ⟨[], [(0, [true, false, false, false, true, true])]⟩, ⟨48, [0, 4, 5, 7, 15, 21, 30, 33, 44, 46], [], []⟩, 1, e_lex_Scan⟩

/-- whelk/whelkref4.Scan [0=b, 1=l, 2=at, 3=t, 4=n] -/
def b_ref4_Scan_0 : EC :=
 (.seq (.cond (.pick (.bi (.bin .lss) (.v 2) (.un .len (.v 0))) (.bi (.bin .neq) (.un (.ld none) (.bi (.idx 1) (.v 0) (.v 2))) (.c (.int .u8 10))) (.c (.bool false)))
  (.skip)
  (.exit 2))
 (.block 3 (.st [.sets [(2, (.bi (.bin .add) (.v 2) (.c (.int .i64 1))))]])))
def b_ref4_Scan_1 : EC :=
 (.seq (.cond (.bi (.bin .lss) (.v 2) (.un .len (.v 0)))
  (.skip)
  (.exit 0))
 (.block 1 (.seq (.cond (.tup (.call 0 f_ref4_blank) (.cons (.un (.ld none) (.bi (.idx 1) (.v 0) (.v 2))) .nil))
   (.seq (.st [.sets [(2, (.bi (.bin .add) (.v 2) (.c (.int .i64 1))))]])
   (.exit 1))
   (.skip))
  (.seq (.cond (.bi (.bin .eql) (.un (.ld none) (.bi (.idx 1) (.v 0) (.v 2))) (.c (.int .u8 59)))
   (.seq (.block 2 (.loop [true, true, true, false, false, false, false, false] b_ref4_Scan_0))
   (.exit 1))
   (.skip))
  (.seq (.st [.sets [(5, (.tup (.call 0 f_ref4_one) (.cons (.v 0) (.cons (.v 2) .nil))))],
    .eff (some 3) none (.zbox [(.int .i64 0), (.int .i64 0), (.int .i64 0), (.str [])] T_ref4_Scan_0),
    .eff none none (.store 4 (.v 3) (.un (.ext 0) (.v 5))),
    .sets [(4, (.un (.ext 1) (.v 5)))]])
  (.seq (.cond (.bi (.bin .neq) (.un (.ext 2) (.v 5)) (.c (.int .i64 0)))
   (.ret [.e (.c .nils), .e (.v 2), .e (.un (.ext 2) (.v 5))])
   (.skip))
  (.seq (.st [.eff (some 6) none (.load (some 4) (.v 3)),
    .eff (some 7) none (.append 4 40 T_ref4_Scan_0 (.v 1) (.tup (.bslice 4 [(.int .i64 0), (.int .i64 0), (.int .i64 0), (.str [])] 1 [0]) (.cons (.v 6) .nil))),
    .sets [(1, (.v 7))]])
  (.st [.sets [(2, (.v 4))]]))))))))
def e_ref4_Scan : EFunc := ⟨1, 8,
 (.seq (.cond (.bi (.bin .gtr) (.un .len (.v 0)) (.c (.int .i64 65536)))
  (.ret [.e (.c .nils), .e (.c (.int .i64 0)), .e (.c (.int .i64 4))])
  (.skip))
 (.seq (.st [.sets [(1, (.c .nils))]])
 (.seq (.st [.sets [(2, (.c (.int .i64 0)))]])
 (.seq (.block 0 (.loop [true, true, true, false, false, false, false, false] b_ref4_Scan_1))
 (.ret [.e (.v 1), .e (.c (.int .i64 0)), .e (.c (.int .i64 0))])))))⟩
noncomputable def r10 : ERow := ⟨Go.Proofs.Tryd.f10, ⟨[], [(0, [true, false, false, false, false, true, true]), (2, [true, false, false, false, false, true, true])]⟩, ⟨59, [0, 5, 6, 7, 8, 42, 54, 56], [20, 27, 37], [42]⟩, 1, e_ref4_Scan⟩

/-- whelk/lex.Text [0=t, 1=t] -/
def e_lex_Text : EFunc := ⟨1, 8,
 (.seq (.st [.eff (some 1) none (.box 4 T_lex_Text_0 (.v 0))])
 (.seq (.seq (.st [.eff (some 2) none (.load none (.un (.off 0) (.v 1)))])
 (.block 0 (.cond (.bi (.bin .eql) (.v 2) (.c (.int .i64 4)))
   (.ret [.e (.c (.str [40]))])
   (.cond (.bi (.bin .eql) (.v 2) (.c (.int .i64 5)))
    (.ret [.e (.c (.str [41]))])
    (.cond (.bi (.bin .eql) (.v 2) (.c (.int .i64 8)))
     (.ret [.e (.c (.str [126]))])
     (.cond (.bi (.bin .eql) (.v 2) (.c (.int .i64 6)))
      (.seq (.st [.eff (some 3) none (.load none (.un (.off 3) (.v 1)))])
      (.ret [.e (.bi (.bin .add) (.c (.str [63])) (.v 3))]))
      (.cond (.bi (.bin .eql) (.v 2) (.c (.int .i64 7)))
       (.seq (.st [.eff (some 4) none (.load none (.un (.off 3) (.v 1)))])
       (.ret [.e (.bi (.bin .add) (.bi (.bin .add) (.c (.str [63, 42])) (.v 4)) (.c (.str [42])))]))
       (.skip))))))))
 (.seq (.st [.eff (some 5) none (.load none (.un (.off 0) (.v 1))),
   .eff (some 6) none (.load none (.un (.off 2) (.v 1))),
   .eff (some 7) none (.load none (.un (.off 3) (.v 1)))])
 (.ret [.e (.tup (.call 0 f_val_Text) (.cons (.tup (.build [(.int .i64 0), (.int .i64 0), (.str [])] [(0, 1), (1, 1), (2, 1)]) (.cons (.v 5) (.cons (.v 6) (.cons (.v 7) .nil)))) .nil))]))))⟩
noncomputable def r13 : ERow := ⟨Go.Proofs.Tryd.f13, ⟨[], []⟩, ⟨30, [0, 1, 4, 14, 19, 23, 25, 27], [], []⟩, 1, e_lex_Text⟩

/-- whelk/whelkref4.Text [0=t, 1=t] -/
def e_ref4_Text : EFunc := ⟨1, 8,
 (.seq (.st [.eff (some 1) none (.box 4 T_ref4_Text_0 (.v 0))])
 (.seq (.seq (.st [.eff (some 2) none (.load none (.un (.off 0) (.v 1)))])
 (.block 0 (.cond (.bi (.bin .eql) (.v 2) (.c (.int .i64 4)))
   (.ret [.e (.c (.str [40]))])
   (.cond (.bi (.bin .eql) (.v 2) (.c (.int .i64 5)))
    (.ret [.e (.c (.str [41]))])
    (.cond (.bi (.bin .eql) (.v 2) (.c (.int .i64 8)))
     (.ret [.e (.c (.str [126]))])
     (.cond (.bi (.bin .eql) (.v 2) (.c (.int .i64 6)))
      (.seq (.st [.eff (some 3) none (.load none (.un (.off 3) (.v 1)))])
      (.ret [.e (.bi (.bin .add) (.c (.str [63])) (.v 3))]))
      (.cond (.bi (.bin .eql) (.v 2) (.c (.int .i64 7)))
       (.seq (.st [.eff (some 4) none (.load none (.un (.off 3) (.v 1)))])
       (.ret [.e (.bi (.bin .add) (.bi (.bin .add) (.c (.str [63, 42])) (.v 4)) (.c (.str [42])))]))
       (.skip))))))))
 (.seq (.st [.eff (some 5) none (.load none (.un (.off 0) (.v 1))),
   .eff (some 6) none (.load none (.un (.off 2) (.v 1))),
   .eff (some 7) none (.load none (.un (.off 3) (.v 1)))])
 (.ret [.e (.tup (.call 0 f_ref3_Text) (.cons (.tup (.build [(.int .i64 0), (.int .i64 0), (.str [])] [(0, 1), (1, 1), (2, 1)]) (.cons (.v 5) (.cons (.v 6) (.cons (.v 7) .nil)))) .nil))]))))⟩
noncomputable def r14 : ERow := ⟨Go.Proofs.Tryd.f14, ⟨[], []⟩, ⟨30, [0, 1, 4, 14, 19, 23, 25, 27], [], []⟩, 1, e_ref4_Text⟩

/-- whelk/whelkref3.Right [0=v, 1=v, 2=ok, 3=i] -/
def b_ref3_Right_0 : EC :=
 (.seq (.seq (.st [.eff (some 12) none (.load none (.un (.off 2) (.v 1)))])
 (.cond (.bi (.bin .lss) (.v 3) (.un .slen (.v 12)))
  (.skip)
  (.exit 1)))
 (.seq (.block 2 (.st [.eff (some 13) (some ((.v 2), true)) (.load none (.un (.off 2) (.v 1))),
    .sets [(2, (.pick (.v 2) (.tup (.call 0 f_ref3_Sign) (.cons (.bi .sidx (.v 13) (.v 3)) .nil)) (.c (.bool false))))]]))
 (.st [.sets [(3, (.bi (.bin .add) (.v 3) (.c (.int .i64 1))))]])))
def e_ref3_Right : EFunc := ⟨1, 16,
 (.seq (.st [.eff (some 1) none (.box 3 T_ref3_Right_0 (.v 0))])
 (.seq (.seq (.st [.eff (some 4) none (.load none (.un (.off 0) (.v 1)))])
 (.block 0 (.cond (.bi (.bin .eql) (.v 4) (.c (.int .i64 1)))
   (.seq (.st [.eff (some 5) none (.load none (.un (.off 2) (.v 1)))])
   (.ret [.e (.bi (.bin .eql) (.v 5) (.c (.str [])))]))
   (.cond (.bi (.bin .eql) (.v 4) (.c (.int .i64 2)))
    (.seq (.st [.eff (some 6) none (.load none (.un (.off 1) (.v 1))),
      .eff (some 7) (some ((.bi (.bin .eql) (.v 6) (.c (.int .i64 0))), true)) (.load none (.un (.off 2) (.v 1))),
      .sets [(8, (.pick (.bi (.bin .eql) (.v 6) (.c (.int .i64 0))) (.bi (.bin .geq) (.un .slen (.v 7)) (.c (.int .i64 1))) (.c (.bool false)))), (9, (.gd true (.pick (.bi (.bin .eql) (.v 6) (.c (.int .i64 0))) (.bi (.bin .geq) (.un .slen (.v 7)) (.c (.int .i64 1))) (.c (.bool false))) (.un (.off 2) (.v 1))))],
      .eff (some 10) (some ((.v 8), true)) (.load none (.v 9)),
      .eff (some 11) (some ((.pick (.v 8) (.bi (.bin .leq) (.un .slen (.v 10)) (.c (.int .i64 40))) (.c (.bool false))), true)) (.load none (.un (.off 2) (.v 1))),
      .sets [(2, (.pick (.pick (.v 8) (.bi (.bin .leq) (.un .slen (.v 10)) (.c (.int .i64 40))) (.c (.bool false))) (.un .not (.tup (.call 0 f_ref1_Shape) (.cons (.v 11) .nil))) (.c (.bool false))))]])
    (.seq (.seq (.st [.sets [(3, (.c (.int .i64 0)))]])
    (.block 1 (.loop [false, true, true, true, false, false, false, false, false, false, false, false, false, false, false, false] b_ref3_Right_0)))
    (.ret [.e (.v 2)])))
    (.cond (.bi (.bin .eql) (.v 4) (.c (.int .i64 3)))
     (.seq (.st [.eff (some 14) none (.load none (.un (.off 1) (.v 1))),
       .eff (some 15) (some ((.bi (.bin .eql) (.v 14) (.c (.int .i64 0))), true)) (.load none (.un (.off 2) (.v 1)))])
     (.ret [.e (.pick (.bi (.bin .eql) (.v 14) (.c (.int .i64 0))) (.bi (.bin .leq) (.un .slen (.v 15)) (.c (.int .i64 1000))) (.c (.bool false)))]))
     (.skip))))))
 (.ret [.e (.c (.bool false))])))⟩
noncomputable def r15 : ERow := ⟨Go.Proofs.Tryd.f15, ⟨[], [(1, [false, true, false, true, true])]⟩, ⟨62, [0, 1, 3, 4, 6, 10, 15, 19, 23, 24, 25, 31, 37, 45, 54, 58], [], []⟩, 1, e_ref3_Right⟩

/-- whelk/whelkref3.Text [0=v, 1=v] -/
def e_ref3_Text : EFunc := ⟨1, 6,
 (.seq (.st [.eff (some 1) none (.box 3 T_ref3_Text_0 (.v 0))])
 (.seq (.seq (.st [.eff (some 2) none (.load none (.un (.off 0) (.v 1)))])
 (.block 0 (.cond (.bi (.bin .eql) (.v 2) (.c (.int .i64 1)))
   (.seq (.st [.eff (some 3) none (.load none (.un (.off 1) (.v 1)))])
   (.ret [.e (.tup (.call 0 f_ref1_Text) (.cons (.v 3) .nil))]))
   (.cond (.bi (.bin .eql) (.v 2) (.c (.int .i64 3)))
    (.seq (.st [.eff (some 4) none (.load none (.un (.off 2) (.v 1)))])
    (.ret [.e (.tup (.call 0 f_ref3_Quote) (.cons (.v 4) .nil))]))
    (.skip)))))
 (.seq (.st [.eff (some 5) none (.load none (.un (.off 2) (.v 1)))])
 (.ret [.e (.v 5)]))))⟩
noncomputable def r16 : ERow := ⟨Go.Proofs.Tryd.f16, ⟨[], []⟩, ⟨17, [0, 1, 4, 8, 13, 16], [], []⟩, 1, e_ref3_Text⟩

/-- whelk/lex.fault [0=at, 1=err] -/
def e_lex_fault : EFunc := ⟨2, 3,
 (.seq (.st [.eff (some 2) none (.box 3 T_lex_fault_0 (.tup (.build [(.str []), (.int .i64 0), .nili] [(0, 1), (1, 1), (2, 1)]) (.cons (.c (.str [99, 104, 97, 114])) (.cons (.v 0) (.cons (.un (.iface T_lex_fault_1) (.v 1)) .nil)))))])
 (.ret [.e (.un (.iface T_lex_fault_2) (.v 2))]))⟩
noncomputable def r17 : ERow := ⟨Go.Proofs.Tryd.f17, ⟨[], []⟩, ⟨11, [0, 1, 9], [], []⟩, 2, e_lex_fault⟩

/-- (*whelk/lex.scanner).skip [0=s, 1=c, 2=ok, 3=c, 4=ok] -/
def b_lex_scanner_skip_0 : EC :=
 (.seq (.cond (.pick (.v 4) (.bi (.bin .neq) (.v 3) (.c (.int .u8 10))) (.c (.bool false)))
  (.skip)
  (.exit 3))
 (.seq (.block 4 (.st [.eff (some 9) none (.load none (.un (.off 1) (.un .nilchk (.v 0)))),
    .eff none none (.store 1 (.un (.off 1) (.un .nilchk (.v 0))) (.bi (.bin .add) (.v 9) (.c (.int .i64 1))))]))
 (.st [.eff (some 8) none (.calls [true, true, true, true, true, true, true, true, true, true, true, true, true, true, true, true] f_lex_scanner_more (.cons (.v 0) .nil)),
   .sets [(3, (.un (.ext 0) (.v 8))), (4, (.un (.ext 1) (.v 8)))]])))
def b_lex_scanner_skip_1 : EC :=
 (.seq (.cond (.v 2)
  (.skip)
  (.exit 0))
 (.seq (.block 1 (.block 2 (.cond (.bi (.bin .eql) (.v 1) (.c (.int .u8 59)))
    (.seq (.st [.eff (some 7) none (.calls [true, true, true, true, true, true, true, true, true, true, true, true, true, true, true, true] f_lex_scanner_more (.cons (.v 0) .nil)),
      .sets [(3, (.un (.ext 0) (.v 7))), (4, (.un (.ext 1) (.v 7)))]])
    (.block 3 (.loop [true, false, false, true, true, false, false, false, false, false, false, false] b_lex_scanner_skip_0)))
    (.seq (.seq (.st [.sets [(10, (.bi (.bin .eql) (.v 1) (.c (.int .u8 32))))]])
    (.cond (.v 10)
     (.skip)
     (.seq (.st [.sets [(10, (.bi (.bin .eql) (.v 1) (.c (.int .u8 9))))]])
     (.cond (.v 10)
      (.skip)
      (.seq (.st [.sets [(10, (.bi (.bin .eql) (.v 1) (.c (.int .u8 10))))]])
      (.cond (.v 10)
       (.skip)
       (.st [.sets [(10, (.bi (.bin .eql) (.v 1) (.c (.int .u8 13))))]])))))))
    (.cond (.v 10)
     (.st [.eff (some 11) none (.load none (.un (.off 1) (.un .nilchk (.v 0)))),
       .eff none none (.store 1 (.un (.off 1) (.un .nilchk (.v 0))) (.bi (.bin .add) (.v 11) (.c (.int .i64 1))))])
     (.ret []))))))
 (.st [.eff (some 6) none (.calls [true, true, true, true, true, true, true, true, true, true, true, true, true, true, true, true] f_lex_scanner_more (.cons (.v 0) .nil)),
   .sets [(1, (.un (.ext 0) (.v 6))), (2, (.un (.ext 1) (.v 6)))]])))
def e_lex_scanner_skip : EFunc := ⟨1, 12,
 (.seq (.seq (.st [.eff (some 5) none (.calls [true, true, true, true, true, true, true, true, true, true, true, true, true, true, true, true] f_lex_scanner_more (.cons (.v 0) .nil)),
   .sets [(1, (.un (.ext 0) (.v 5))), (2, (.un (.ext 1) (.v 5)))]])
 (.block 0 (.loop [true, true, true, false, false, false, false, false, false, false, false, false] b_lex_scanner_skip_1)))
 (.ret []))⟩
noncomputable def r18 : ERow := ⟨Go.Proofs.Tryd.f18, ⟨[], [(0, [true, false, true, true]), (3, [true, false, false, false, true, true])]⟩, ⟨54, [0, 2, 3, 4, 5, 8, 14, 22, 32, 38, 42, 50], [], []⟩, 1, e_lex_scanner_skip⟩

/-- (*whelk/lex.scanner).token [0=s, 2=kind, 3=c] -/
def e_lex_scanner_token : EFunc := ⟨1, 12,
 (.seq (.st [.eff (some 1) none (.zbox [(.int .i64 0), (.int .i64 0), (.int .i64 0), (.str [])] T_lex_scanner_token_0)])
 (.seq (.st [.sets [(2, (.c (.int .i64 0)))]])
 (.seq (.seq (.st [.eff (some 4) none (.load none (.un (.off 0) (.un .nilchk (.v 0)))),
   .eff (some 5) none (.load none (.un (.off 1) (.un .nilchk (.v 0)))),
   .sets [(3, (.un (.ld none) (.bi (.idx 1) (.v 4) (.v 5))))]])
 (.block 0 (.cond (.bi (.bin .eql) (.v 3) (.c (.int .u8 40)))
   (.st [.sets [(2, (.c (.int .i64 4)))]])
   (.cond (.bi (.bin .eql) (.v 3) (.c (.int .u8 41)))
    (.st [.sets [(2, (.c (.int .i64 5)))]])
    (.cond (.bi (.bin .eql) (.v 3) (.c (.int .u8 126)))
     (.st [.sets [(2, (.c (.int .i64 8)))]])
     (.cond (.bi (.bin .eql) (.v 3) (.c (.int .u8 34)))
      (.seq (.st [.eff (some 7) none (.load none (.un (.off 1) (.un .nilchk (.v 0)))),
        .eff none none (.store 1 (.un (.off 1) (.un .nilchk (.v 0))) (.bi (.bin .add) (.v 7) (.c (.int .i64 1))))])
      (.seq (.st [.eff (some 8) none (.calls [true, true, true, true, true, true, true, true, true, true, true, true, true, true, true, true] f_lex_scanner_text (.cons (.v 0) .nil)),
        .eff none none (.store 4 (.v 1) (.un (.ext 0) (.v 8)))])
      (.ret [.cell (.v 1) (some 4), .e (.un (.ext 1) (.v 8))])))
      (.cond (.bi (.bin .eql) (.v 3) (.c (.int .u8 63)))
       (.seq (.st [.eff (some 9) none (.load none (.un (.off 1) (.un .nilchk (.v 0)))),
         .eff none none (.store 1 (.un (.off 1) (.un .nilchk (.v 0))) (.bi (.bin .add) (.v 9) (.c (.int .i64 1))))])
       (.seq (.st [.eff (some 10) none (.calls [true, true, true, true, true, true, true, true, true, true, true, true, true, true, true, true] f_lex_scanner_variable (.cons (.v 0) .nil)),
         .eff none none (.store 4 (.v 1) (.un (.ext 0) (.v 10)))])
       (.ret [.cell (.v 1) (some 4), .e (.un (.ext 1) (.v 10))])))
       (.seq (.st [.eff (some 6) none (.calls [true, true, true, true, true, true, true, true, true, true, true, true, true, true, true, true] f_lex_scanner_word (.cons (.v 0) .nil)),
         .eff none none (.store 4 (.v 1) (.un (.ext 0) (.v 6)))])
       (.ret [.cell (.v 1) (some 4), .e (.un (.ext 1) (.v 6))])))))))))
 (.seq (.st [.eff (some 11) none (.load none (.un (.off 1) (.un .nilchk (.v 0)))),
   .eff none none (.store 1 (.un (.off 1) (.un .nilchk (.v 0))) (.bi (.bin .add) (.v 11) (.c (.int .i64 1))))])
 (.seq (.st [.eff none none (.store 4 (.v 1) (.tup (.build [(.int .i64 0), (.int .i64 0), (.int .i64 0), (.str [])] [(0, 1)]) (.cons (.v 2) .nil)))])
 (.ret [.cell (.v 1) (some 4), .e (.c (.int .i64 0))]))))))⟩
noncomputable def r19 : ERow := ⟨Go.Proofs.Tryd.f19, ⟨[(2, (.cons 0 0 (.cons 0 1 (.cons 0 2 (.cons 0 4 (.cons 0 5 (.cons 0 6 (.cons 1 3 (.cons 1 7 (.cons 0 8 (.cons 1 9 (.cons 0 10 .nil))))))))))))], []⟩, ⟨62, [0, 2, 4, 5, 9, 13, 18, 32, 37, 45, 50, 56], [15], []⟩, 1, e_lex_scanner_token⟩

/-- whelk/whelkref4.blank [0=c] -/
def e_ref4_blank : EFunc := ⟨1, 1,
 (.ret [.e (.pick (.pick (.pick (.bi (.bin .eql) (.v 0) (.c (.int .u8 32))) (.c (.bool true)) (.bi (.bin .eql) (.v 0) (.c (.int .u8 9)))) (.c (.bool true)) (.bi (.bin .eql) (.v 0) (.c (.int .u8 10)))) (.c (.bool true)) (.bi (.bin .eql) (.v 0) (.c (.int .u8 13))))])⟩
noncomputable def r20 : ERow := ⟨Go.Proofs.Tryd.f20, ⟨[], []⟩, ⟨17, [0], [], []⟩, 1, e_ref4_blank⟩

/-- whelk/whelkref4.one [0=b, 1=at, 3=t, 4=s, 5=n, 6=e, 7=end, 8=s] -/
def b_ref4_one_0 : EC :=
 (.seq (.cond (.pick (.bi (.bin .lss) (.v 7) (.un .len (.v 0))) (.tup (.call 0 f_ref3_Sign) (.cons (.un (.ld none) (.bi (.idx 1) (.v 0) (.v 7))) .nil)) (.c (.bool false)))
  (.skip)
  (.exit 1))
 (.block 2 (.st [.sets [(7, (.bi (.bin .add) (.v 7) (.c (.int .i64 1))))]])))
def e_ref4_one : EFunc := ⟨2, 24,
 (.seq (.st [.eff (some 2) none (.zbox [(.int .i64 0), (.int .i64 0), (.int .i64 0), (.str [])] T_ref4_one_0)])
 (.seq (.st [.eff (some 3) none (.zbox [(.int .i64 0), (.int .i64 0), (.int .i64 0), (.str [])] T_ref4_one_0),
   .eff none none (.store 4 (.v 3) (.tup (.build [(.int .i64 0), (.int .i64 0), (.int .i64 0), (.str [])] [(1, 1)]) (.cons (.v 1) .nil)))])
 (.seq (.seq (.st [.sets [(9, (.un (.ld none) (.bi (.idx 1) (.v 0) (.v 1))))]])
 (.block 0 (.cond (.bi (.bin .eql) (.v 9) (.c (.int .u8 40)))
   (.seq (.st [.eff none none (.store 1 (.un (.off 0) (.v 3)) (.c (.int .i64 4)))])
   (.seq (.st [.eff (some 10) none (.load (some 4) (.v 3)),
     .eff none none (.store 4 (.v 2) (.v 10))])
   (.ret [.cell (.v 2) (some 4), .e (.bi (.bin .add) (.v 1) (.c (.int .i64 1))), .e (.c (.int .i64 0))])))
   (.cond (.bi (.bin .eql) (.v 9) (.c (.int .u8 41)))
    (.seq (.st [.eff none none (.store 1 (.un (.off 0) (.v 3)) (.c (.int .i64 5)))])
    (.seq (.st [.eff (some 11) none (.load (some 4) (.v 3)),
      .eff none none (.store 4 (.v 2) (.v 11))])
    (.ret [.cell (.v 2) (some 4), .e (.bi (.bin .add) (.v 1) (.c (.int .i64 1))), .e (.c (.int .i64 0))])))
    (.cond (.bi (.bin .eql) (.v 9) (.c (.int .u8 126)))
     (.seq (.st [.eff none none (.store 1 (.un (.off 0) (.v 3)) (.c (.int .i64 8)))])
     (.seq (.st [.eff (some 12) none (.load (some 4) (.v 3)),
       .eff none none (.store 4 (.v 2) (.v 12))])
     (.ret [.cell (.v 2) (some 4), .e (.bi (.bin .add) (.v 1) (.c (.int .i64 1))), .e (.c (.int .i64 0))])))
     (.cond (.bi (.bin .eql) (.v 9) (.c (.int .u8 34)))
      (.seq (.st [.sets [(13, (.tup (.call 0 f_ref4_text) (.cons (.v 0) (.cons (.bi (.bin .add) (.v 1) (.c (.int .i64 1))) .nil))))]])
      (.seq (.st [.eff none none (.store 1 (.un (.off 0) (.v 3)) (.c (.int .i64 3)))])
      (.seq (.st [.eff none none (.store 1 (.un (.off 3) (.v 3)) (.un (.ext 0) (.v 13)))])
      (.seq (.st [.eff (some 14) none (.load (some 4) (.v 3)),
        .eff none none (.store 4 (.v 2) (.v 14))])
      (.ret [.cell (.v 2) (some 4), .e (.un (.ext 1) (.v 13)), .e (.un (.ext 2) (.v 13))])))))
      (.cond (.bi (.bin .eql) (.v 9) (.c (.int .u8 63)))
       (.seq (.cond (.pick (.bi (.bin .lss) (.bi (.bin .add) (.v 1) (.c (.int .i64 1))) (.un .len (.v 0))) (.bi (.bin .eql) (.un (.ld none) (.bi (.idx 1) (.v 0) (.bi (.bin .add) (.v 1) (.c (.int .i64 1))))) (.c (.int .u8 42))) (.c (.bool false)))
        (.seq (.st [.sets [(15, (.tup (.call 0 f_ref4_name) (.cons (.v 0) (.cons (.bi (.bin .add) (.v 1) (.c (.int .i64 2))) .nil))))],
          .sets [(4, (.un (.ext 0) (.v 15))), (5, (.un (.ext 1) (.v 15))), (6, (.un (.ext 2) (.v 15)))]])
        (.seq (.cond (.pick (.bi (.bin .eql) (.v 6) (.c (.int .i64 0))) (.pick (.bi (.bin .eql) (.v 5) (.un .len (.v 0))) (.c (.bool true)) (.bi (.bin .neq) (.un (.ld none) (.bi (.idx 1) (.v 0) (.v 5))) (.c (.int .u8 42)))) (.c (.bool false)))
         (.st [.sets [(6, (.c (.int .i64 2)))]])
         (.skip))
        (.seq (.st [.eff none none (.store 1 (.un (.off 0) (.v 3)) (.c (.int .i64 7)))])
        (.seq (.st [.eff none none (.store 1 (.un (.off 3) (.v 3)) (.v 4))])
        (.seq (.st [.eff (some 16) none (.load (some 4) (.v 3)),
          .eff none none (.store 4 (.v 2) (.v 16))])
        (.ret [.cell (.v 2) (some 4), .e (.bi (.bin .add) (.v 5) (.c (.int .i64 1))), .e (.v 6)]))))))
        (.skip))
       (.seq (.st [.sets [(17, (.tup (.call 0 f_ref4_name) (.cons (.v 0) (.cons (.bi (.bin .add) (.v 1) (.c (.int .i64 1))) .nil))))]])
       (.seq (.st [.eff none none (.store 1 (.un (.off 0) (.v 3)) (.c (.int .i64 6)))])
       (.seq (.st [.eff none none (.store 1 (.un (.off 3) (.v 3)) (.un (.ext 0) (.v 17)))])
       (.seq (.st [.eff (some 18) none (.load (some 4) (.v 3)),
         .eff none none (.store 4 (.v 2) (.v 18))])
       (.ret [.cell (.v 2) (some 4), .e (.un (.ext 1) (.v 17)), .e (.un (.ext 2) (.v 17))]))))))
       (.skip))))))))
 (.seq (.st [.sets [(7, (.v 1))]])
 (.seq (.block 1 (.loop [true, true, true, true, false, false, false, true, false, false, false, false, false, false, false, false, false, false, false, false, false, false, false, false] b_ref4_one_0))
 (.seq (.st [.sets [(8, (.un .tostr (.lsub 1 true true false (.v 0) (.v 1) (.v 7) (.c .undef))))]])
 (.seq (.cond (.bi (.bin .eql) (.un .slen (.v 8)) (.c (.int .i64 0)))
  (.seq (.st [.eff (some 19) none (.load (some 4) (.v 3)),
    .eff none none (.store 4 (.v 2) (.v 19))])
  (.ret [.cell (.v 2) (some 4), .e (.c (.int .i64 0)), .e (.c (.int .i64 2))]))
  (.skip))
 (.seq (.cond (.tup (.call 0 f_ref1_Shape) (.cons (.v 8) .nil))
  (.seq (.st [.sets [(20, (.tup (.call 0 f_ref1_Parse) (.cons (.v 8) .nil)))]])
  (.seq (.st [.eff none none (.store 1 (.un (.off 0) (.v 3)) (.c (.int .i64 1)))])
  (.seq (.st [.eff none none (.store 1 (.un (.off 2) (.v 3)) (.un (.ext 0) (.v 20)))])
  (.seq (.st [.eff (some 21) none (.load (some 4) (.v 3)),
    .eff none none (.store 4 (.v 2) (.v 21))])
  (.ret [.cell (.v 2) (some 4), .e (.v 7), .e (.un (.ext 1) (.v 20))])))))
  (.skip))
 (.seq (.cond (.bi (.bin .gtr) (.un .slen (.v 8)) (.c (.int .i64 40)))
  (.seq (.st [.eff (some 22) none (.load (some 4) (.v 3)),
    .eff none none (.store 4 (.v 2) (.v 22))])
  (.ret [.cell (.v 2) (some 4), .e (.c (.int .i64 0)), .e (.c (.int .i64 4))]))
  (.skip))
 (.seq (.st [.eff none none (.store 1 (.un (.off 0) (.v 3)) (.c (.int .i64 2)))])
 (.seq (.st [.eff none none (.store 1 (.un (.off 3) (.v 3)) (.v 8))])
 (.seq (.st [.eff (some 23) none (.load (some 4) (.v 3)),
   .eff none none (.store 4 (.v 2) (.v 23))])
 (.ret [.cell (.v 2) (some 4), .e (.v 7), .e (.c (.int .i64 0))])))))))))))))⟩
noncomputable def r21 : ERow := ⟨Go.Proofs.Tryd.f21, ⟨[], [(1, [true, true, false, false, true, false, false, true, false, false, false, false, false, false, false, false, false, true])]⟩, ⟨165, [0, 1, 4, 7, 11, 12, 13, 17, 18, 26, 30, 36, 42, 47, 58, 76, 102, 106, 117, 142, 145, 153, 159, 163], [26, 73, 95, 129], [47, 76, 106, 145]⟩, 2, e_ref4_one⟩

/-- whelk/val.Text [0=v, 1=v, 2=out] -/
def e_val_Text : EFunc := ⟨1, 6,
 (.seq (.st [.eff (some 1) none (.box 3 T_val_Text_0 (.v 0))])
 (.seq (.st [.eff (some 3) none (.load none (.un (.off 2) (.v 1))),
   .sets [(2, (.v 3))]])
 (.seq (.seq (.st [.eff (some 4) none (.load none (.un (.off 0) (.v 1)))])
 (.block 0 (.seq (.block 3 (.seq (.block 2 (.seq (.block 1 (.seq (.seq (.cond (.bi (.bin .eql) (.v 4) (.c (.int .i64 1)))
      (.exit 1)
      (.skip))
     (.seq (.cond (.bi (.bin .eql) (.v 4) (.c (.int .i64 3)))
      (.exit 2)
      (.skip))
     (.cond (.bi (.bin .eql) (.v 4) (.c (.int .i64 2)))
      (.exit 3)
      (.skip))))
     (.exit 0)))
    (.seq (.st [.eff (some 5) none (.load none (.un (.off 1) (.v 1))),
      .sets [(2, (.tup (.call 0 f_num_Text) (.cons (.v 5) .nil)))]])
    (.exit 0))))
   (.st [.sets [(2, (.tup (.call 0 f_val_Quote) (.cons (.v 2) .nil)))]])))
  (.seq (.st [.sets [(2, (.tup (.call 0 f_strings_Clone) (.cons (.v 2) .nil)))]])
  (.exit 0)))))
 (.ret [.e (.v 2)]))))⟩
noncomputable def r28 : ERow := ⟨Go.Proofs.Tryd.f28, ⟨[], []⟩, ⟨22, [0, 1, 3, 5, 7, 15], [], []⟩, 1, e_val_Text⟩

/-- whelk/whelkref1.Shape [0=s, 1=from, 2=i] -/
def b_ref1_Shape_0 : EC :=
 (.seq (.cond (.bi (.bin .lss) (.v 2) (.un .slen (.v 0)))
  (.skip)
  (.exit 0))
 (.seq (.block 1 (.cond (.pick (.bi (.bin .lss) (.bi .sidx (.v 0) (.v 2)) (.c (.int .u8 48))) (.c (.bool true)) (.bi (.bin .gtr) (.bi .sidx (.v 0) (.v 2)) (.c (.int .u8 57))))
   (.ret [.e (.c (.bool false))])
   (.skip)))
 (.st [.sets [(2, (.bi (.bin .add) (.v 2) (.c (.int .i64 1))))]])))
def e_ref1_Shape : EFunc := ⟨1, 3,
 (.seq (.st [.sets [(1, (.c (.int .i64 0)))]])
 (.seq (.cond (.pick (.bi (.bin .gtr) (.un .slen (.v 0)) (.c (.int .i64 0))) (.pick (.bi (.bin .eql) (.bi .sidx (.v 0) (.c (.int .i64 0))) (.c (.int .u8 43))) (.c (.bool true)) (.bi (.bin .eql) (.bi .sidx (.v 0) (.c (.int .i64 0))) (.c (.int .u8 45)))) (.c (.bool false)))
  (.st [.sets [(1, (.c (.int .i64 1)))]])
  (.skip))
 (.seq (.seq (.st [.sets [(2, (.v 1))]])
 (.block 0 (.loop [true, true, true] b_ref1_Shape_0)))
 (.ret [.e (.bi (.bin .gtr) (.un .slen (.v 0)) (.v 1))]))))⟩
noncomputable def r29 : ERow := ⟨Go.Proofs.Tryd.f29, ⟨[], [(0, [true, false, false, true, true])]⟩, ⟨39, [0, 3, 4], [], []⟩, 1, e_ref1_Shape⟩

/-- whelk/whelkref3.Sign [0=c] -/
def e_ref3_Sign : EFunc := ⟨1, 1,
 (.ret [.e (.pick (.pick (.pick (.pick (.pick (.pick (.pick (.bi (.bin .geq) (.v 0) (.c (.int .u8 33))) (.bi (.bin .leq) (.v 0) (.c (.int .u8 126))) (.c (.bool false))) (.bi (.bin .neq) (.v 0) (.c (.int .u8 40))) (.c (.bool false))) (.bi (.bin .neq) (.v 0) (.c (.int .u8 41))) (.c (.bool false))) (.bi (.bin .neq) (.v 0) (.c (.int .u8 34))) (.c (.bool false))) (.bi (.bin .neq) (.v 0) (.c (.int .u8 59))) (.c (.bool false))) (.bi (.bin .neq) (.v 0) (.c (.int .u8 63))) (.c (.bool false))) (.bi (.bin .neq) (.v 0) (.c (.int .u8 126))) (.c (.bool false)))])⟩
noncomputable def r30 : ERow := ⟨Go.Proofs.Tryd.f30, ⟨[], []⟩, ⟨33, [0], [], []⟩, 1, e_ref3_Sign⟩

/-- whelk/whelkref1.Text [0=n, 1=u, 2=s] -/
def b_ref1_Text_0 : EC :=
 (.seq (.cond (.bi (.bin .geq) (.v 1) (.c (.int .u64 10)))
  (.skip)
  (.exit 0))
 (.block 1 (.seq (.st [.sets [(1, (.bi (.bin .quo) (.v 1) (.c (.int .u64 10))))]])
  (.st [.sets [(2, (.bi (.bin .add) (.un .tostr (.tup (.bslice 1 [(.int .u8 0)] 1 [0]) (.cons (.un (.conv .u8) (.bi (.bin .add) (.c (.int .u64 48)) (.bi (.bin .rem) (.v 1) (.c (.int .u64 10))))) .nil))) (.v 2)))]]))))
def e_ref1_Text : EFunc := ⟨1, 3,
 (.seq (.st [.sets [(1, (.tup (.call 0 f_ref1_size) (.cons (.v 0) .nil)))]])
 (.seq (.st [.sets [(2, (.un .tostr (.tup (.bslice 1 [(.int .u8 0)] 1 [0]) (.cons (.un (.conv .u8) (.bi (.bin .add) (.c (.int .u64 48)) (.bi (.bin .rem) (.v 1) (.c (.int .u64 10))))) .nil))))]])
 (.seq (.block 0 (.loop [true, true, true] b_ref1_Text_0))
 (.seq (.cond (.bi (.bin .lss) (.v 0) (.c (.int .i64 0)))
  (.ret [.e (.bi (.bin .add) (.c (.str [45])) (.v 2))])
  (.skip))
 (.ret [.e (.v 2)])))))⟩
noncomputable def r31 : ERow := ⟨Go.Proofs.Tryd.f31, ⟨[], [(0, [true, false, false, true, true])]⟩, ⟨30, [0, 3, 4], [], []⟩, 1, e_ref1_Text⟩

/-- whelk/whelkref3.Quote [0=s, 1=q, 2=i] -/
def b_ref3_Quote_0 : EC :=
 (.seq (.cond (.bi (.bin .lss) (.v 2) (.un .slen (.v 0)))
  (.skip)
  (.exit 0))
 (.seq (.block 1 (.seq (.cond (.pick (.bi (.bin .eql) (.bi .sidx (.v 0) (.v 2)) (.c (.int .u8 34))) (.c (.bool true)) (.bi (.bin .eql) (.bi .sidx (.v 0) (.v 2)) (.c (.int .u8 92))))
   (.st [.sets [(1, (.bi (.bin .add) (.v 1) (.c (.str [92]))))]])
   (.skip))
  (.st [.sets [(1, (.bi (.bin .add) (.v 1) (.ssub true true (.v 0) (.v 2) (.bi (.bin .add) (.v 2) (.c (.int .i64 1))))))]])))
 (.st [.sets [(2, (.bi (.bin .add) (.v 2) (.c (.int .i64 1))))]])))
def e_ref3_Quote : EFunc := ⟨1, 3,
 (.seq (.st [.sets [(1, (.c (.str [34])))]])
 (.seq (.seq (.st [.sets [(2, (.c (.int .i64 0)))]])
 (.block 0 (.loop [true, true, true] b_ref3_Quote_0)))
 (.ret [.e (.bi (.bin .add) (.v 1) (.c (.str [34])))])))⟩
noncomputable def r32 : ERow := ⟨Go.Proofs.Tryd.f32, ⟨[], [(0, [true, false, false, true, true])]⟩, ⟨32, [0, 3, 4], [], []⟩, 1, e_ref3_Quote⟩

/-- (*whelk/lex.scanner).more [0=s] -/
def e_lex_scanner_more : EFunc := ⟨1, 5,
 (.seq (.seq (.st [.eff (some 1) none (.load none (.un (.off 1) (.un .nilchk (.v 0)))),
   .eff (some 2) none (.load none (.un (.off 0) (.un .nilchk (.v 0))))])
 (.cond (.bi (.bin .geq) (.v 1) (.un .len (.v 2)))
  (.ret [.e (.c (.int .u8 0)), .e (.c (.bool false))])
  (.skip)))
 (.seq (.st [.eff (some 3) none (.load none (.un (.off 0) (.un .nilchk (.v 0)))),
   .eff (some 4) none (.load none (.un (.off 1) (.un .nilchk (.v 0))))])
 (.ret [.e (.un (.ld none) (.bi (.idx 1) (.v 3) (.v 4))), .e (.c (.bool true))])))⟩
noncomputable def r33 : ERow := ⟨Go.Proofs.Tryd.f33, ⟨[(1, (.cons 0 0 (.cons 0 1 (.cons 0 2 (.cons 0 4 (.cons 0 5 (.cons 0 6 (.cons 1 3 (.cons 1 7 (.cons 0 8 (.cons 0 9 .nil))))))))))), (3, (.cons 0 0 (.cons 0 1 (.cons 0 2 (.cons 0 4 (.cons 0 5 (.cons 0 6 (.cons 1 3 (.cons 1 7 (.cons 0 8 (.cons 1 9 (.cons 0 10 (.cons 0 11 .nil)))))))))))))], []⟩, ⟨24, [0, 7, 11, 17, 21], [23], []⟩, 1, e_lex_scanner_more⟩

/-- (*whelk/lex.scanner).text [0=s, 2=out, 3=c, 4=ok] -/
def b_lex_scanner_text_0 : EC :=
 (.seq (.cond (.v 4)
  (.skip)
  (.exit 0))
 (.seq (.block 1 (.seq (.st [.eff (some 7) none (.load none (.un (.off 1) (.un .nilchk (.v 0)))),
    .eff none none (.store 1 (.un (.off 1) (.un .nilchk (.v 0))) (.bi (.bin .add) (.v 7) (.c (.int .i64 1))))])
  (.block 2 (.seq (.block 5 (.seq (.block 4 (.seq (.block 3 (.seq (.seq (.cond (.bi (.bin .eql) (.v 3) (.c (.int .u8 34)))
       (.exit 3)
       (.skip))
      (.cond (.bi (.bin .eql) (.v 3) (.c (.int .u8 92)))
       (.exit 4)
       (.skip)))
      (.exit 5)))
     (.seq (.cond (.bi (.bin .gtr) (.un .len (.v 2)) (.c (.int .i64 1000)))
      (.seq (.st [.eff none none (.store 4 (.v 1) (.tup (.build [(.int .i64 0), (.int .i64 0), (.int .i64 0), (.str [])] []) .nil))])
      (.ret [.cell (.v 1) (some 4), .e (.c (.int .i64 4))]))
      (.skip))
     (.seq (.st [.eff none none (.store 4 (.v 1) (.tup (.build [(.int .i64 0), (.int .i64 0), (.int .i64 0), (.str [])] [(0, 1), (3, 1)]) (.cons (.c (.int .i64 3)) (.cons (.un .tostr (.v 2)) .nil))))])
     (.ret [.cell (.v 1) (some 4), .e (.c (.int .i64 0))])))))
    (.seq (.seq (.st [.eff (some 8) none (.calls [true, true, true, true, true, true, true, true, true, true, true, true, true, true, true, true] f_lex_scanner_more (.cons (.v 0) .nil)),
      .sets [(3, (.un (.ext 0) (.v 8))), (4, (.un (.ext 1) (.v 8)))]])
    (.cond (.un .not (.v 4))
     (.seq (.st [.eff none none (.store 4 (.v 1) (.tup (.build [(.int .i64 0), (.int .i64 0), (.int .i64 0), (.str [])] []) .nil))])
     (.ret [.cell (.v 1) (some 4), .e (.c (.int .i64 3))]))
     (.skip)))
    (.st [.eff (some 9) none (.load none (.un (.off 1) (.un .nilchk (.v 0)))),
      .eff none none (.store 1 (.un (.off 1) (.un .nilchk (.v 0))) (.bi (.bin .add) (.v 9) (.c (.int .i64 1))))]))))
   (.seq (.st [.eff (some 10) none (.append 1 1 T_byte (.v 2) (.tup (.bslice 1 [(.int .u8 0)] 1 [0]) (.cons (.v 3) .nil))),
     .sets [(2, (.v 10))]])
   (.exit 2))))))
 (.st [.eff (some 6) none (.calls [true, true, true, true, true, true, true, true, true, true, true, true, true, true, true, true] f_lex_scanner_more (.cons (.v 0) .nil)),
   .sets [(3, (.un (.ext 0) (.v 6))), (4, (.un (.ext 1) (.v 6)))]])))
def e_lex_scanner_text : EFunc := ⟨1, 11,
 (.seq (.st [.eff (some 1) none (.zbox [(.int .i64 0), (.int .i64 0), (.int .i64 0), (.str [])] T_lex_scanner_text_0)])
 (.seq (.st [.sets [(2, (.c .nils))]])
 (.seq (.seq (.st [.eff (some 5) none (.calls [true, true, true, true, true, true, true, true, true, true, true, true, true, true, true, true] f_lex_scanner_more (.cons (.v 0) .nil)),
   .sets [(3, (.un (.ext 0) (.v 5))), (4, (.un (.ext 1) (.v 5)))]])
 (.block 0 (.loop [true, true, true, true, true, false, false, false, false, false, false] b_lex_scanner_text_0)))
 (.seq (.st [.eff none none (.store 4 (.v 1) (.tup (.build [(.int .i64 0), (.int .i64 0), (.int .i64 0), (.str [])] []) .nil))])
 (.ret [.cell (.v 1) (some 4), .e (.c (.int .i64 3))])))))⟩
noncomputable def r34 : ERow := ⟨Go.Proofs.Tryd.f34, ⟨[], [(0, [true, false, true, false, true, true, true])]⟩, ⟨57, [0, 2, 4, 5, 6, 9, 15, 21, 39, 48, 55], [], []⟩, 1, e_lex_scanner_text⟩

/-- (*whelk/lex.scanner).variable [0=s, 2=kind, 3=c, 4=n, 5=c] -/
def e_lex_scanner_variable : EFunc := ⟨1, 11,
 (.seq (.st [.eff (some 1) none (.zbox [(.int .i64 0), (.int .i64 0), (.int .i64 0), (.str [])] T_lex_scanner_variable_0)])
 (.seq (.st [.sets [(2, (.c (.int .i64 6)))]])
 (.seq (.seq (.st [.eff (some 6) none (.calls [true, true, true, true, true, true, true, true, true, true, true, true, true, true, true, true] f_lex_scanner_more (.cons (.v 0) .nil)),
   .sets [(3, (.un (.ext 0) (.v 6)))]])
 (.cond (.pick (.un (.ext 1) (.v 6)) (.bi (.bin .eql) (.v 3) (.c (.int .u8 42))) (.c (.bool false)))
  (.seq (.st [.eff (some 7) none (.load none (.un (.off 1) (.un .nilchk (.v 0)))),
    .eff none none (.store 1 (.un (.off 1) (.un .nilchk (.v 0))) (.bi (.bin .add) (.v 7) (.c (.int .i64 1))))])
  (.st [.sets [(2, (.c (.int .i64 7)))]]))
  (.skip)))
 (.seq (.st [.eff (some 8) none (.calls [true, true, true, true, true, true, true, true, true, true, true, true, true, true, true, true] f_lex_scanner_name (.cons (.v 0) .nil)),
   .sets [(4, (.un (.ext 0) (.v 8)))]])
 (.seq (.cond (.bi (.bin .neq) (.un (.ext 1) (.v 8)) (.c (.int .i64 0)))
  (.seq (.st [.eff none none (.store 4 (.v 1) (.tup (.build [(.int .i64 0), (.int .i64 0), (.int .i64 0), (.str [])] []) .nil))])
  (.ret [.cell (.v 1) (some 4), .e (.un (.ext 1) (.v 8))]))
  (.skip))
 (.seq (.cond (.bi (.bin .eql) (.v 2) (.c (.int .i64 7)))
  (.seq (.seq (.st [.eff (some 9) none (.calls [true, true, true, true, true, true, true, true, true, true, true, true, true, true, true, true] f_lex_scanner_more (.cons (.v 0) .nil)),
    .sets [(5, (.un (.ext 0) (.v 9)))]])
  (.cond (.pick (.un .not (.un (.ext 1) (.v 9))) (.c (.bool true)) (.bi (.bin .neq) (.v 5) (.c (.int .u8 42))))
   (.seq (.st [.eff none none (.store 4 (.v 1) (.tup (.build [(.int .i64 0), (.int .i64 0), (.int .i64 0), (.str [])] []) .nil))])
   (.ret [.cell (.v 1) (some 4), .e (.c (.int .i64 2))]))
   (.skip)))
  (.st [.eff (some 10) none (.load none (.un (.off 1) (.un .nilchk (.v 0)))),
    .eff none none (.store 1 (.un (.off 1) (.un .nilchk (.v 0))) (.bi (.bin .add) (.v 10) (.c (.int .i64 1))))]))
  (.skip))
 (.seq (.st [.eff none none (.store 4 (.v 1) (.tup (.build [(.int .i64 0), (.int .i64 0), (.int .i64 0), (.str [])] [(0, 1), (3, 1)]) (.cons (.v 2) (.cons (.v 4) .nil))))])
 (.ret [.cell (.v 1) (some 4), .e (.c (.int .i64 0))]))))))))⟩
noncomputable def r35 : ERow := ⟨Go.Proofs.Tryd.f35, ⟨[], []⟩, ⟨61, [0, 2, 4, 5, 7, 9, 13, 24, 30, 41, 54], [], []⟩, 1, e_lex_scanner_variable⟩

/-- (*whelk/lex.scanner).word [0=s, 2=from, 3=c, 4=ok, 5=w, 6=n, 7=err] -/
def b_lex_scanner_word_0 : EC :=
 (.seq (.cond (.pick (.v 4) (.tup (.call 0 f_lex_sign) (.cons (.v 3) .nil)) (.c (.bool false)))
  (.skip)
  (.exit 0))
 (.seq (.block 1 (.st [.eff (some 11) none (.load none (.un (.off 1) (.un .nilchk (.v 0)))),
    .eff none none (.store 1 (.un (.off 1) (.un .nilchk (.v 0))) (.bi (.bin .add) (.v 11) (.c (.int .i64 1))))]))
 (.st [.eff (some 10) none (.calls [true, true, true, true, true, true, true, true, true, true, true, true, true, true, true, true] f_lex_scanner_more (.cons (.v 0) .nil)),
   .sets [(3, (.un (.ext 0) (.v 10))), (4, (.un (.ext 1) (.v 10)))]])))
def e_lex_scanner_word : EFunc := ⟨1, 15,
 (.seq (.st [.eff (some 1) none (.zbox [(.int .i64 0), (.int .i64 0), (.int .i64 0), (.str [])] T_lex_scanner_word_0)])
 (.seq (.st [.eff (some 8) none (.load none (.un (.off 1) (.un .nilchk (.v 0)))),
   .sets [(2, (.v 8))]])
 (.seq (.seq (.st [.eff (some 9) none (.calls [true, true, true, true, true, true, true, true, true, true, true, true, true, true, true, true] f_lex_scanner_more (.cons (.v 0) .nil)),
   .sets [(3, (.un (.ext 0) (.v 9))), (4, (.un (.ext 1) (.v 9)))]])
 (.block 0 (.loop [true, true, true, true, true, false, false, false, false, false, false, false, false, false, false] b_lex_scanner_word_0)))
 (.seq (.st [.eff (some 12) none (.load none (.un (.off 0) (.un .nilchk (.v 0)))),
   .eff (some 13) none (.load none (.un (.off 1) (.un .nilchk (.v 0)))),
   .sets [(5, (.un .tostr (.lsub 1 true true false (.v 12) (.v 2) (.v 13) (.c .undef))))]])
 (.seq (.st [.sets [(14, (.tup (.call 0 f_num_Parse) (.cons (.v 5) .nil)))],
   .sets [(6, (.un (.ext 0) (.v 14))), (7, (.un (.ext 1) (.v 14)))]])
 (.seq (.block 2 (.cond (.bi (.bin .eql) (.v 5) (.c (.str [])))
   (.seq (.st [.eff none none (.store 4 (.v 1) (.tup (.build [(.int .i64 0), (.int .i64 0), (.int .i64 0), (.str [])] []) .nil))])
   (.ret [.cell (.v 1) (some 4), .e (.c (.int .i64 2))]))
   (.cond (.bi (.bin .eql) (.v 7) (.c (.int .i64 0)))
    (.seq (.st [.eff none none (.store 4 (.v 1) (.tup (.build [(.int .i64 0), (.int .i64 0), (.int .i64 0), (.str [])] [(0, 1), (2, 1)]) (.cons (.c (.int .i64 1)) (.cons (.v 6) .nil))))])
    (.ret [.cell (.v 1) (some 4), .e (.c (.int .i64 0))]))
    (.cond (.bi (.bin .neq) (.v 7) (.c (.int .i64 2)))
     (.seq (.st [.eff none none (.store 4 (.v 1) (.tup (.build [(.int .i64 0), (.int .i64 0), (.int .i64 0), (.str [])] []) .nil))])
     (.ret [.cell (.v 1) (some 4), .e (.v 7)]))
     (.cond (.bi (.bin .gtr) (.un .slen (.v 5)) (.c (.int .i64 40)))
      (.seq (.st [.eff none none (.store 4 (.v 1) (.tup (.build [(.int .i64 0), (.int .i64 0), (.int .i64 0), (.str [])] []) .nil))])
      (.ret [.cell (.v 1) (some 4), .e (.c (.int .i64 4))]))
      (.skip))))))
 (.seq (.st [.eff none none (.store 4 (.v 1) (.tup (.build [(.int .i64 0), (.int .i64 0), (.int .i64 0), (.str [])] [(0, 1), (3, 1)]) (.cons (.c (.int .i64 2)) (.cons (.v 5) .nil))))])
 (.ret [.cell (.v 1) (some 4), .e (.c (.int .i64 0))]))))))))⟩
noncomputable def r36 : ERow := ⟨Go.Proofs.Tryd.f36, ⟨[(6, (.cons 0 0 (.cons 0 1 (.cons 0 2 (.cons 0 4 (.cons 0 5 (.cons 0 6 (.cons 0 7 (.cons 1 3 (.cons 1 8 (.cons 0 9 (.cons 2 10 (.cons 0 11 .nil)))))))))))))], [(0, [true, false, true, false, true, true, true])]⟩, ⟨73, [0, 2, 4, 5, 6, 7, 8, 9, 13, 16, 26, 32, 39, 44, 47], [], [47]⟩, 1, e_lex_scanner_word⟩

/-- whelk/whelkref4.text [0=b, 1=at, 2=s, 3=c] -/
def b_ref4_text_0 : EC :=
 (.seq (.cond (.bi (.bin .lss) (.v 1) (.un .len (.v 0)))
  (.skip)
  (.exit 0))
 (.block 1 (.seq (.st [.sets [(3, (.un (.ld none) (.bi (.idx 1) (.v 0) (.v 1))))]])
  (.seq (.cond (.bi (.bin .eql) (.v 3) (.c (.int .u8 34)))
   (.seq (.cond (.bi (.bin .gtr) (.un .slen (.v 2)) (.c (.int .i64 1000)))
    (.ret [.e (.c (.str [])), .e (.c (.int .i64 0)), .e (.c (.int .i64 4))])
    (.skip))
   (.ret [.e (.v 2), .e (.bi (.bin .add) (.v 1) (.c (.int .i64 1))), .e (.c (.int .i64 0))]))
   (.skip))
  (.seq (.cond (.bi (.bin .eql) (.v 3) (.c (.int .u8 92)))
   (.seq (.st [.sets [(1, (.bi (.bin .add) (.v 1) (.c (.int .i64 1))))]])
   (.seq (.cond (.bi (.bin .eql) (.v 1) (.un .len (.v 0)))
    (.ret [.e (.c (.str [])), .e (.c (.int .i64 0)), .e (.c (.int .i64 3))])
    (.skip))
   (.st [.sets [(3, (.un (.ld none) (.bi (.idx 1) (.v 0) (.v 1))))]])))
   (.skip))
  (.seq (.st [.sets [(2, (.bi (.bin .add) (.v 2) (.un .tostr (.tup (.bslice 1 [(.int .u8 0)] 1 [0]) (.cons (.v 3) .nil)))))]])
  (.st [.sets [(1, (.bi (.bin .add) (.v 1) (.c (.int .i64 1))))]])))))))
def e_ref4_text : EFunc := ⟨2, 4,
 (.seq (.st [.sets [(2, (.c (.str [])))]])
 (.seq (.block 0 (.loop [true, true, true, false] b_ref4_text_0))
 (.ret [.e (.c (.str [])), .e (.c (.int .i64 0)), .e (.c (.int .i64 3))])))⟩
noncomputable def r37 : ERow := ⟨Go.Proofs.Tryd.f37, ⟨[], [(0, [true, true, false, false, false, false, false, true])]⟩, ⟨44, [0, 1, 7, 8], [16, 36], []⟩, 2, e_ref4_text⟩

/-- whelk/whelkref4.name [0=b, 1=at, 2=end, 3=s] -/
def b_ref4_name_0 : EC :=
 (.seq (.cond (.pick (.bi (.bin .lss) (.v 2) (.un .len (.v 0))) (.tup (.call 0 f_ref3_Part) (.cons (.un (.ld none) (.bi (.idx 1) (.v 0) (.v 2))) .nil)) (.c (.bool false)))
  (.skip)
  (.exit 0))
 (.block 1 (.st [.sets [(2, (.bi (.bin .add) (.v 2) (.c (.int .i64 1))))]])))
def e_ref4_name : EFunc := ⟨2, 4,
 (.seq (.st [.sets [(2, (.v 1))]])
 (.seq (.block 0 (.loop [true, true, true, false] b_ref4_name_0))
 (.seq (.st [.sets [(3, (.un .tostr (.lsub 1 true true false (.v 0) (.v 1) (.v 2) (.c .undef))))]])
 (.seq (.cond (.bi (.bin .gtr) (.un .slen (.v 3)) (.c (.int .i64 40)))
  (.ret [.e (.c (.str [])), .e (.c (.int .i64 0)), .e (.c (.int .i64 4))])
  (.skip))
 (.seq (.cond (.un .not (.tup (.call 0 f_ref3_Good) (.cons (.v 3) .nil)))
  (.ret [.e (.c (.str [])), .e (.c (.int .i64 0)), .e (.c (.int .i64 2))])
  (.skip))
 (.ret [.e (.v 3), .e (.v 2), .e (.c (.int .i64 0))]))))))⟩
noncomputable def r38 : ERow := ⟨Go.Proofs.Tryd.f38, ⟨[], [(0, [true, true, false, false, false, false, false, true])]⟩, ⟨36, [0, 1, 7, 8], [18], []⟩, 2, e_ref4_name⟩

/-- whelk/whelkref1.Parse [0=s, 1=neg, 2=v, 3=i, 4=d, 5=w, 6=x] -/
def b_ref1_Parse_0 : EC :=
 (.seq (.cond (.bi (.bin .lss) (.v 3) (.un .slen (.v 0)))
  (.skip)
  (.exit 0))
 (.seq (.block 1 (.seq (.cond (.pick (.bi (.bin .eql) (.bi .sidx (.v 0) (.v 3)) (.c (.int .u8 43))) (.c (.bool true)) (.bi (.bin .eql) (.bi .sidx (.v 0) (.v 3)) (.c (.int .u8 45))))
   (.exit 1)
   (.skip))
  (.seq (.st [.sets [(4, (.un (.conv .i64) (.bi (.bin .sub) (.bi .sidx (.v 0) (.v 3)) (.c (.int .u8 48)))))]])
  (.seq (.cond (.v 1)
   (.st [.sets [(4, (.bi (.bin .sub) (.c (.int .i64 0)) (.v 4)))]])
   (.skip))
  (.seq (.st [.sets [(7, (.tup (.call 0 f_ref1_Mul) (.cons (.v 2) (.cons (.c (.int .i64 10)) .nil))))],
    .sets [(5, (.un (.ext 0) (.v 7)))]])
  (.seq (.cond (.bi (.bin .neq) (.un (.ext 1) (.v 7)) (.c (.int .i64 0)))
   (.ret [.e (.c (.int .i64 0)), .e (.un (.ext 1) (.v 7))])
   (.skip))
  (.seq (.st [.sets [(8, (.tup (.call 0 f_ref1_Add) (.cons (.v 5) (.cons (.v 4) .nil))))],
    .sets [(6, (.un (.ext 0) (.v 8)))]])
  (.seq (.cond (.bi (.bin .neq) (.un (.ext 1) (.v 8)) (.c (.int .i64 0)))
   (.ret [.e (.c (.int .i64 0)), .e (.un (.ext 1) (.v 8))])
   (.skip))
  (.st [.sets [(2, (.v 6))]])))))))))
 (.st [.sets [(3, (.bi (.bin .add) (.v 3) (.c (.int .i64 1))))]])))
def e_ref1_Parse : EFunc := ⟨1, 9,
 (.seq (.cond (.un .not (.tup (.call 0 f_ref1_Shape) (.cons (.v 0) .nil)))
  (.ret [.e (.c (.int .i64 0)), .e (.c (.int .i64 2))])
  (.skip))
 (.seq (.st [.sets [(1, (.bi (.bin .eql) (.bi .sidx (.v 0) (.c (.int .i64 0))) (.c (.int .u8 45))))]])
 (.seq (.st [.sets [(2, (.c (.int .i64 0)))]])
 (.seq (.seq (.st [.sets [(3, (.c (.int .i64 0)))]])
 (.block 0 (.loop [true, true, true, true, false, false, false, false, false] b_ref1_Parse_0)))
 (.ret [.e (.v 2), .e (.c (.int .i64 0))])))))⟩
noncomputable def r39 : ERow := ⟨Go.Proofs.Tryd.f39, ⟨[], [(0, [true, false, false, false, true, true, true])]⟩, ⟨61, [0, 4, 5, 6, 7, 8, 10, 42, 50], [], [42, 50]⟩, 1, e_ref1_Parse⟩

/-- whelk/num.Text [0=n] -/
def e_num_Text : EFunc := ⟨1, 1,
 (.ret [.e (.tup (.call 0 f_strconv_FormatInt) (.cons (.v 0) (.cons (.c (.int .i64 10)) .nil)))])⟩
noncomputable def r42 : ERow := ⟨Go.Proofs.Tryd.f42, ⟨[], []⟩, ⟨5, [0], [], []⟩, 1, e_num_Text⟩

/-- whelk/val.Quote [0=s, 1=out, 2=i] -/
def b_val_Quote_0 : EC :=
 (.seq (.cond (.bi (.bin .lss) (.v 4) (.v 3))
  (.skip)
  (.exit 0))
 (.seq (.block 1 (.seq (.st [.sets [(2, (.v 4))]])
  (.seq (.block 2 (.seq (.seq (.st [.sets [(5, (.bi (.bin .eql) (.bi .sidx (.v 0) (.v 2)) (.c (.int .u8 34))))]])
   (.cond (.v 5)
    (.skip)
    (.st [.sets [(5, (.bi (.bin .eql) (.bi .sidx (.v 0) (.v 2)) (.c (.int .u8 92))))]])))
   (.cond (.v 5)
    (.st [.eff none none (.calls [true, true, true, true, true, true, true, true, true, true, true, true, true, true, true, true] f_strings_Builder_WriteByte (.cons (.v 1) (.cons (.c (.int .u8 92)) .nil)))])
    (.skip))))
  (.st [.eff none none (.calls [true, true, true, true, true, true, true, true, true, true, true, true, true, true, true, true] f_strings_Builder_WriteByte (.cons (.v 1) (.cons (.bi .sidx (.v 0) (.v 2)) .nil)))]))))
 (.st [.sets [(4, (.bi (.bin .add) (.v 4) (.c (.int .i64 1))))]])))
def e_val_Quote : EFunc := ⟨1, 7,
 (.seq (.st [.eff (some 1) none (.zbox [.nilp, .nils] T_bld)])
 (.seq (.st [.eff none none (.calls [true, true, true, true, true, true, true, true, true, true, true, true, true, true, true, true] f_strings_Builder_WriteByte (.cons (.v 1) (.cons (.c (.int .u8 34)) .nil)))])
 (.seq (.seq (.st [.sets [(3, (.un .slen (.v 0))), (4, (.c (.int .i64 0)))]])
 (.block 0 (.loop [true, true, false, true, true, false, false] b_val_Quote_0)))
 (.seq (.st [.eff none none (.calls [true, true, true, true, true, true, true, true, true, true, true, true, true, true, true, true] f_strings_Builder_WriteByte (.cons (.v 1) (.cons (.c (.int .u8 34)) .nil)))])
 (.seq (.st [.eff (some 6) none (.calls [true, true, true, true, true, true, true, true, true, true, true, true, true, true, true, true] f_strings_Builder_String (.cons (.v 1) .nil))])
 (.ret [.e (.v 6)]))))))⟩
noncomputable def r43 : ERow := ⟨Go.Proofs.Tryd.f43, ⟨[], [(0, [true, false, false, true, false, false, false, true, true])]⟩, ⟨25, [0, 3, 4, 7, 8, 14, 24], [], []⟩, 1, e_val_Quote⟩

/-- strings.Clone [0=s] -/
def e_strings_Clone : EFunc := ⟨1, 1,
 (.ret [.e (.tup (.call 0 f_internal_stringslite_Clone) (.cons (.v 0) .nil))])⟩
noncomputable def r44 : ERow := ⟨Go.Proofs.Tryd.f44, ⟨[], []⟩, ⟨5, [0], [], []⟩, 1, e_strings_Clone⟩

/-- whelk/whelkref1.size [0=v] -/
def e_ref1_size : EFunc := ⟨1, 1,
 (.seq (.cond (.bi (.bin .lss) (.v 0) (.c (.int .i64 0)))
  (.ret [.e (.bi (.bin .add) (.un (.conv .u64) (.bi (.bin .sub) (.c (.int .i64 0)) (.bi (.bin .add) (.v 0) (.c (.int .i64 1))))) (.c (.int .u64 1)))])
  (.skip))
 (.ret [.e (.un (.conv .u64) (.v 0))]))⟩
noncomputable def r45 : ERow := ⟨Go.Proofs.Tryd.f45, ⟨[], []⟩, ⟨12, [0], [], []⟩, 1, e_ref1_size⟩

/-- (*whelk/lex.scanner).name [0=s, 1=from, 2=c, 3=ok, 4=n] -/
def b_lex_scanner_name_0 : EC :=
 (.seq (.cond (.pick (.v 3) (.tup (.call 0 f_lex_part) (.cons (.v 2) .nil)) (.c (.bool false)))
  (.skip)
  (.exit 0))
 (.seq (.block 1 (.st [.eff (some 8) none (.load none (.un (.off 1) (.un .nilchk (.v 0)))),
    .eff none none (.store 1 (.un (.off 1) (.un .nilchk (.v 0))) (.bi (.bin .add) (.v 8) (.c (.int .i64 1))))]))
 (.st [.eff (some 7) none (.calls [true, true, true, true, true, true, true, true, true, true, true, true, true, true, true, true] f_lex_scanner_more (.cons (.v 0) .nil)),
   .sets [(2, (.un (.ext 0) (.v 7))), (3, (.un (.ext 1) (.v 7)))]])))
def e_lex_scanner_name : EFunc := ⟨1, 11,
 (.seq (.st [.eff (some 5) none (.load none (.un (.off 1) (.un .nilchk (.v 0)))),
   .sets [(1, (.v 5))]])
 (.seq (.seq (.st [.eff (some 6) none (.calls [true, true, true, true, true, true, true, true, true, true, true, true, true, true, true, true] f_lex_scanner_more (.cons (.v 0) .nil)),
   .sets [(2, (.un (.ext 0) (.v 6))), (3, (.un (.ext 1) (.v 6)))]])
 (.block 0 (.loop [true, true, true, true, false, false, false, false, false, false, false] b_lex_scanner_name_0)))
 (.seq (.st [.eff (some 9) none (.load none (.un (.off 0) (.un .nilchk (.v 0)))),
   .eff (some 10) none (.load none (.un (.off 1) (.un .nilchk (.v 0)))),
   .sets [(4, (.un .tostr (.lsub 1 true true false (.v 9) (.v 1) (.v 10) (.c .undef))))]])
 (.seq (.block 2 (.cond (.bi (.bin .gtr) (.un .slen (.v 4)) (.c (.int .i64 40)))
   (.ret [.e (.c (.str [])), .e (.c (.int .i64 4))])
   (.cond (.un .not (.tup (.call 0 f_sym_Good) (.cons (.v 4) .nil)))
    (.ret [.e (.c (.str [])), .e (.c (.int .i64 2))])
    (.skip))))
 (.ret [.e (.v 4), .e (.c (.int .i64 0))])))))⟩
noncomputable def r46 : ERow := ⟨Go.Proofs.Tryd.f46, ⟨[(6, (.cons 0 0 (.cons 0 1 (.cons 0 2 (.cons 0 4 (.cons 0 5 (.cons 0 6 (.cons 0 7 (.cons 1 3 (.cons 1 8 (.cons 0 9 (.cons 2 10 (.cons 0 11 .nil)))))))))))))], [(0, [true, false, false, false, true, true, true])]⟩, ⟨54, [0, 4, 5, 6, 7, 11, 14, 24, 30, 37, 42], [], []⟩, 1, e_lex_scanner_name⟩

/-- whelk/lex.sign [0=c] -/
def e_lex_sign : EFunc := ⟨1, 1,
 (.ret [.e (.tup (.call 0 f_val_Right) (.cons (.tup (.call 0 f_val_OfSym) (.cons (.bi (.bin .add) (.c (.str [97])) (.un .tostr (.tup (.bslice 1 [(.int .u8 0)] 1 [0]) (.cons (.v 0) .nil)))) .nil)) .nil))])⟩
noncomputable def r47 : ERow := ⟨Go.Proofs.Tryd.f47, ⟨[], []⟩, ⟨9, [0], [], []⟩, 1, e_lex_sign⟩

/-- whelk/num.Parse [0=s, 1=digits, 2=minus, 3=n, 4=t, 5=c] -/
def b_num_Parse_0 : EC :=
 (.seq (.cond (.bi (.bin .lss) (.v 7) (.v 6))
  (.skip)
  (.exit 3))
 (.seq (.block 4 (.cond (.pick (.bi (.bin .lss) (.bi .sidx (.v 1) (.v 7)) (.c (.int .u8 48))) (.c (.bool true)) (.bi (.bin .gtr) (.bi .sidx (.v 1) (.v 7)) (.c (.int .u8 57))))
   (.ret [.e (.c (.int .i64 0)), .e (.c (.int .i64 2))])
   (.skip)))
 (.st [.sets [(7, (.bi (.bin .add) (.v 7) (.c (.int .i64 1))))]])))
def b_num_Parse_1 : EC :=
 (.seq (.cond (.bi (.bin .lss) (.v 9) (.v 8))
  (.skip)
  (.exit 5))
 (.seq (.block 6 (.seq (.st [.sets [(10, (.tup (.call 0 f_num_Mul) (.cons (.v 3) (.cons (.c (.int .i64 10)) .nil))))],
    .sets [(4, (.un (.ext 0) (.v 10))), (5, (.un (.ext 1) (.v 10)))]])
  (.seq (.cond (.bi (.bin .eql) (.v 5) (.c (.int .i64 0)))
   (.st [.sets [(11, (.tup (.call 0 f_num_Sub) (.cons (.v 4) (.cons (.un (.conv .i64) (.bi (.bin .sub) (.bi .sidx (.v 1) (.v 9)) (.c (.int .u8 48)))) .nil))))],
     .sets [(4, (.un (.ext 0) (.v 11))), (5, (.un (.ext 1) (.v 11)))]])
   (.skip))
  (.seq (.cond (.bi (.bin .neq) (.v 5) (.c (.int .i64 0)))
   (.ret [.e (.c (.int .i64 0)), .e (.v 5)])
   (.skip))
  (.st [.sets [(3, (.v 4))]])))))
 (.st [.sets [(9, (.bi (.bin .add) (.v 9) (.c (.int .i64 1))))]])))
def e_num_Parse : EFunc := ⟨1, 13,
 (.seq (.st [.sets [(1, (.v 0)), (2, (.c (.bool false)))]])
 (.seq (.block 0 (.seq (.block 2 (.seq (.block 1 (.seq (.seq (.cond (.tup (.call 0 f_strings_HasPrefix) (.cons (.v 0) (.cons (.c (.str [45])) .nil)))
     (.exit 1)
     (.skip))
    (.cond (.tup (.call 0 f_strings_HasPrefix) (.cons (.v 0) (.cons (.c (.str [43])) .nil)))
     (.exit 2)
     (.skip)))
    (.exit 0)))
   (.st [.sets [(2, (.c (.bool true)))]])))
  (.seq (.st [.sets [(1, (.ssub true false (.v 0) (.c (.int .i64 1)) (.c .undef)))]])
  (.exit 0))))
 (.seq (.cond (.bi (.bin .eql) (.v 1) (.c (.str [])))
  (.ret [.e (.c (.int .i64 0)), .e (.c (.int .i64 2))])
  (.skip))
 (.seq (.seq (.st [.sets [(6, (.un .slen (.v 1))), (7, (.c (.int .i64 0)))]])
 (.block 3 (.loop [false, true, true, false, false, false, true, true, false, false, false, false, false] b_num_Parse_0)))
 (.seq (.st [.sets [(3, (.c (.int .i64 0)))]])
 (.seq (.seq (.st [.sets [(8, (.un .slen (.v 1))), (9, (.c (.int .i64 0)))]])
 (.block 5 (.loop [false, true, true, true, false, false, false, false, true, true, false, false, false] b_num_Parse_1)))
 (.seq (.cond (.v 2)
  (.ret [.e (.v 3), .e (.c (.int .i64 0))])
  (.skip))
 (.seq (.st [.sets [(12, (.tup (.call 0 f_num_Sub) (.cons (.c (.int .i64 0)) (.cons (.v 3) .nil))))]])
 (.ret [.e (.un (.ext 0) (.v 12)), .e (.un (.ext 1) (.v 12))])))))))))⟩
noncomputable def r48 : ERow := ⟨Go.Proofs.Tryd.f48, ⟨[], [(3, [false, false, false, false, true, true, false, false, false, false, false, false, false, false, false, false, false, false, false, false, false, false, false, true, true]), (5, [false, false, false, false, true, true, false, true, false, false, false, false, false, false, false, false, false, false, false, false, false, false, false, false, false, false, false, false, false, false, false, false, false, false, false, false, false, false, false, true, true])]⟩, ⟨71, [0, 4, 5, 7, 9, 10, 23, 24, 39, 40, 43, 50, 68], [], [68, 43, 50]⟩, 1, e_num_Parse⟩

/-- whelk/whelkref3.Part [0=c] -/
def e_ref3_Part : EFunc := ⟨1, 1,
 (.ret [.e (.pick (.pick (.pick (.tup (.call 0 f_ref3_letter) (.cons (.v 0) .nil)) (.c (.bool true)) (.pick (.bi (.bin .geq) (.v 0) (.c (.int .u8 48))) (.bi (.bin .leq) (.v 0) (.c (.int .u8 57))) (.c (.bool false)))) (.c (.bool true)) (.bi (.bin .eql) (.v 0) (.c (.int .u8 45)))) (.c (.bool true)) (.bi (.bin .eql) (.v 0) (.c (.int .u8 95))))])⟩
noncomputable def r49 : ERow := ⟨Go.Proofs.Tryd.f49, ⟨[], []⟩, ⟨21, [0], [], []⟩, 1, e_ref3_Part⟩

/-- whelk/whelkref3.Good [0=s, 1=i] -/
def b_ref3_Good_0 : EC :=
 (.seq (.cond (.bi (.bin .lss) (.v 1) (.un .slen (.v 0)))
  (.skip)
  (.exit 0))
 (.seq (.block 1 (.cond (.un .not (.tup (.call 0 f_ref3_Part) (.cons (.bi .sidx (.v 0) (.v 1)) .nil)))
   (.ret [.e (.c (.bool false))])
   (.skip)))
 (.st [.sets [(1, (.bi (.bin .add) (.v 1) (.c (.int .i64 1))))]])))
def e_ref3_Good : EFunc := ⟨1, 2,
 (.seq (.cond (.pick (.pick (.bi (.bin .eql) (.un .slen (.v 0)) (.c (.int .i64 0))) (.c (.bool true)) (.bi (.bin .gtr) (.un .slen (.v 0)) (.c (.int .i64 40)))) (.c (.bool true)) (.un .not (.tup (.call 0 f_ref3_letter) (.cons (.bi .sidx (.v 0) (.c (.int .i64 0))) .nil))))
  (.ret [.e (.c (.bool false))])
  (.skip))
 (.seq (.seq (.st [.sets [(1, (.c (.int .i64 0)))]])
 (.block 0 (.loop [true, true] b_ref3_Good_0)))
 (.ret [.e (.c (.bool true))])))⟩
noncomputable def r50 : ERow := ⟨Go.Proofs.Tryd.f50, ⟨[], [(0, [true, false, false, true])]⟩, ⟨29, [0, 3], [], []⟩, 1, e_ref3_Good⟩

/-- whelk/whelkref1.Mul [0=a, 1=b, 2=x, 3=y, 4=top] -/
def e_ref1_Mul : EFunc := ⟨2, 5,
 (.seq (.st [.sets [(2, (.tup (.call 0 f_ref1_size) (.cons (.v 0) .nil)))]])
 (.seq (.st [.sets [(3, (.tup (.call 0 f_ref1_size) (.cons (.v 1) .nil)))]])
 (.seq (.st [.sets [(4, (.c (.int .u64 9223372036854775807)))]])
 (.seq (.cond (.bi (.eqs 0 true) (.bi (.bin .lss) (.v 0) (.c (.int .i64 0))) (.bi (.bin .lss) (.v 1) (.c (.int .i64 0))))
  (.st [.sets [(4, (.bi (.bin .add) (.v 4) (.c (.int .u64 1))))]])
  (.skip))
 (.seq (.cond (.pick (.bi (.bin .neq) (.v 2) (.c (.int .u64 0))) (.bi (.bin .gtr) (.v 3) (.bi (.bin .quo) (.v 4) (.v 2))) (.c (.bool false)))
  (.ret [.e (.c (.int .i64 0)), .e (.c (.int .i64 11))])
  (.skip))
 (.ret [.e (.bi (.bin .mul) (.v 0) (.v 1)), .e (.c (.int .i64 0))]))))))⟩
noncomputable def r51 : ERow := ⟨Go.Proofs.Tryd.f51, ⟨[], []⟩, ⟨32, [0, 1, 6, 7, 8], [], []⟩, 2, e_ref1_Mul⟩

/-- whelk/whelkref1.Add [0=a, 1=b] -/
def e_ref1_Add : EFunc := ⟨2, 2,
 (.seq (.cond (.pick (.pick (.bi (.bin .gtr) (.v 1) (.c (.int .i64 0))) (.bi (.bin .gtr) (.v 0) (.bi (.bin .sub) (.c (.int .i64 9223372036854775807)) (.v 1))) (.c (.bool false))) (.c (.bool true)) (.pick (.bi (.bin .lss) (.v 1) (.c (.int .i64 0))) (.bi (.bin .lss) (.v 0) (.bi (.bin .sub) (.c (.int .i64 (-9223372036854775808))) (.v 1))) (.c (.bool false))))
  (.ret [.e (.c (.int .i64 0)), .e (.c (.int .i64 11))])
  (.skip))
 (.ret [.e (.bi (.bin .add) (.v 0) (.v 1)), .e (.c (.int .i64 0))]))⟩
noncomputable def r52 : ERow := ⟨Go.Proofs.Tryd.f52, ⟨[], []⟩, ⟨27, [0, 1], [], []⟩, 2, e_ref1_Add⟩

/-- strconv.FormatInt [0=i, 1=base] -/
def e_strconv_FormatInt : EFunc := ⟨2, 2,
 (.ret [.e (.tup (.call 0 f_internal_strconv_FormatInt) (.cons (.v 0) (.cons (.v 1) .nil)))])⟩
noncomputable def r53 : ERow := ⟨Go.Proofs.Tryd.f53, ⟨[], []⟩, ⟨8, [0, 1], [], []⟩, 2, e_strconv_FormatInt⟩

/-- (*strings.Builder).WriteByte [0=b, 1=c] -/
def e_strings_Builder_WriteByte : EFunc := ⟨2, 4,
 (.seq (.st [.eff none none (.calls [true, true, true, true, true, true, true, true, true, true, true, true, true, true, true, true] f_strings_Builder_copyCheck (.cons (.v 0) .nil))])
 (.seq (.st [.eff (some 2) none (.load none (.un (.off 1) (.un .nilchk (.v 0)))),
   .eff (some 3) none (.append 1 1 T_byte (.v 2) (.tup (.bslice 1 [(.int .u8 0)] 1 [0]) (.cons (.v 1) .nil))),
   .eff none none (.store 1 (.un (.off 1) (.un .nilchk (.v 0))) (.v 3))])
 (.ret [.e (.c .nili)])))⟩
noncomputable def r54 : ERow := ⟨Go.Proofs.Tryd.f54, ⟨[], []⟩, ⟨17, [0, 1, 11, 14], [], []⟩, 2, e_strings_Builder_WriteByte⟩

/-- (*strings.Builder).String [0=b] -/
def e_strings_Builder_String : EFunc := ⟨1, 4,
 (.seq (.st [.eff (some 1) none (.load none (.un (.off 1) (.un .nilchk (.v 0)))),
   .eff (some 2) none (.load none (.un (.off 1) (.un .nilchk (.v 0)))),
   .eff (some 3) none (.ustr T_byte (.un .sdata (.v 1)) (.un .len (.v 2)))])
 (.ret [.e (.v 3)]))⟩
noncomputable def r55 : ERow := ⟨Go.Proofs.Tryd.f55, ⟨[(1, (.cons 0 0 (.cons 0 1 (.cons 0 2 (.cons 0 5 (.cons 0 6 (.cons 0 7 (.cons 1 3 (.cons 0 4 (.cons 1 8 (.cons 0 9 (.cons 2 10 (.cons 0 11 .nil)))))))))))))], []⟩, ⟨14, [0, 6, 11, 13], [], []⟩, 1, e_strings_Builder_String⟩

/-- whelk/lex.part [0=c] -/
def e_lex_part : EFunc := ⟨1, 1,
 (.ret [.e (.tup (.call 0 f_sym_Good) (.cons (.bi (.bin .add) (.c (.str [97])) (.un .tostr (.tup (.bslice 1 [(.int .u8 0)] 1 [0]) (.cons (.v 0) .nil)))) .nil))])⟩
noncomputable def r57 : ERow := ⟨Go.Proofs.Tryd.f57, ⟨[], []⟩, ⟨8, [0], [], []⟩, 1, e_lex_part⟩

/-- whelk/sym.Good [0=s] -/
def b_sym_Good_0 : EC :=
 (.seq (.cond (.bi (.bin .lss) (.v 2) (.v 1))
  (.skip)
  (.exit 0))
 (.seq (.block 1 (.cond (.bi (.bin .eql) (.tup (.call 0 f_sym_class) (.cons (.bi .sidx (.v 0) (.v 2)) .nil)) (.c (.int .i64 0)))
   (.ret [.e (.c (.bool false))])
   (.skip)))
 (.st [.sets [(2, (.bi (.bin .add) (.v 2) (.c (.int .i64 1))))]])))
def e_sym_Good : EFunc := ⟨1, 3,
 (.seq (.cond (.pick (.pick (.bi (.bin .lss) (.un .slen (.v 0)) (.c (.int .i64 1))) (.c (.bool true)) (.bi (.bin .gtr) (.un .slen (.v 0)) (.c (.int .i64 40)))) (.c (.bool true)) (.bi (.bin .lss) (.tup (.call 0 f_sym_class) (.cons (.bi .sidx (.v 0) (.c (.int .i64 0))) .nil)) (.c (.int .i64 2))))
  (.ret [.e (.c (.bool false))])
  (.skip))
 (.seq (.seq (.st [.sets [(1, (.un .slen (.v 0))), (2, (.c (.int .i64 0)))]])
 (.block 0 (.loop [true, true, true] b_sym_Good_0)))
 (.ret [.e (.c (.bool true))])))⟩
noncomputable def r58 : ERow := ⟨Go.Proofs.Tryd.f58, ⟨[], [(0, [true, false, false, false, false, false, false, false, false, false, false, false, false, false, false, false, false, false, false, true, true])]⟩, ⟨29, [0, 19, 20], [], []⟩, 1, e_sym_Good⟩

/-- whelk/val.Right [0=v, 1=v] -/
def e_val_Right : EFunc := ⟨1, 8,
 (.seq (.st [.eff (some 1) none (.box 3 T_val_Right_0 (.v 0))])
 (.seq (.seq (.st [.eff (some 2) none (.load none (.un (.off 0) (.v 1)))])
 (.block 0 (.cond (.bi (.bin .eql) (.v 2) (.c (.int .i64 1)))
   (.seq (.st [.eff (some 3) none (.load none (.un (.off 2) (.v 1)))])
   (.ret [.e (.bi (.bin .eql) (.v 3) (.c (.str [])))]))
   (.cond (.bi (.bin .eql) (.v 2) (.c (.int .i64 2)))
    (.seq (.st [.eff (some 4) none (.load none (.un (.off 1) (.v 1))),
      .eff (some 5) (some ((.bi (.bin .eql) (.v 4) (.c (.int .i64 0))), true)) (.load none (.un (.off 2) (.v 1)))])
    (.ret [.e (.pick (.bi (.bin .eql) (.v 4) (.c (.int .i64 0))) (.tup (.call 0 f_val_symbol) (.cons (.v 5) .nil)) (.c (.bool false)))]))
    (.cond (.bi (.bin .eql) (.v 2) (.c (.int .i64 3)))
     (.seq (.st [.eff (some 6) none (.load none (.un (.off 1) (.v 1))),
       .eff (some 7) (some ((.bi (.bin .eql) (.v 6) (.c (.int .i64 0))), true)) (.load none (.un (.off 2) (.v 1)))])
     (.ret [.e (.pick (.bi (.bin .eql) (.v 6) (.c (.int .i64 0))) (.bi (.bin .leq) (.un .slen (.v 7)) (.c (.int .i64 1000))) (.c (.bool false)))]))
     (.skip))))))
 (.ret [.e (.c (.bool false))])))⟩
noncomputable def r59 : ERow := ⟨Go.Proofs.Tryd.f59, ⟨[], []⟩, ⟨31, [0, 1, 4, 8, 13, 17, 23, 27], [], []⟩, 1, e_val_Right⟩

/-- whelk/val.OfSym [0=s] -/
def e_val_OfSym : EFunc := ⟨1, 2,
 (.seq (.st [.eff (some 1) none (.zbox [(.int .i64 0), (.int .i64 0), (.str [])] T_val_OfSym_0)])
 (.seq (.st [.eff none none (.store 3 (.v 1) (.tup (.build [(.int .i64 0), (.int .i64 0), (.str [])] [(0, 1), (2, 1)]) (.cons (.c (.int .i64 2)) (.cons (.v 0) .nil))))])
 (.ret [.cell (.v 1) (some 3)])))⟩
noncomputable def r60 : ERow := ⟨Go.Proofs.Tryd.f60, ⟨[], []⟩, ⟨5, [0, 2], [], []⟩, 1, e_val_OfSym⟩

/-- strings.HasPrefix [0=s, 1=prefix] -/
def e_strings_HasPrefix : EFunc := ⟨2, 2,
 (.ret [.e (.tup (.call 0 f_internal_stringslite_HasPrefix) (.cons (.v 0) (.cons (.v 1) .nil)))])⟩
noncomputable def r61 : ERow := ⟨Go.Proofs.Tryd.f61, ⟨[], []⟩, ⟨8, [0, 1], [], []⟩, 2, e_strings_HasPrefix⟩

/-- whelk/num.Mul [0=a, 1=b, 2=lo, 3=minus] -/
def e_num_Mul : EFunc := ⟨2, 6,
 (.seq (.st [.sets [(4, (.tup (.call 0 f_math_bits_Mul64) (.cons (.tup (.call 0 f_num_abs) (.cons (.v 0) .nil)) (.cons (.tup (.call 0 f_num_abs) (.cons (.v 1) .nil)) .nil))))],
   .sets [(2, (.un (.ext 1) (.v 4)))]])
 (.seq (.st [.sets [(3, (.bi (.eqs 0 true) (.bi (.bin .lss) (.v 0) (.c (.int .i64 0))) (.bi (.bin .lss) (.v 1) (.c (.int .i64 0)))))]])
 (.seq (.block 0 (.seq (.seq (.st [.sets [(5, (.bi (.bin .gtr) (.un (.ext 0) (.v 4)) (.c (.int .u64 0))))]])
  (.cond (.v 5)
   (.skip)
   (.seq (.st [.sets [(5, (.bi (.bin .gtr) (.v 2) (.c (.int .u64 9223372036854775808))))]])
   (.cond (.v 5)
    (.skip)
    (.st [.sets [(5, (.pick (.bi (.bin .eql) (.v 2) (.c (.int .u64 9223372036854775808))) (.un .not (.v 3)) (.c (.bool false))))]])))))
  (.cond (.v 5)
   (.ret [.e (.c (.int .i64 0)), .e (.c (.int .i64 11))])
   (.cond (.v 3)
    (.ret [.e (.un (.conv .i64) (.bi (.bin .sub) (.c (.int .u64 0)) (.v 2))), .e (.c (.int .i64 0))])
    (.skip)))))
 (.ret [.e (.un (.conv .i64) (.v 2)), .e (.c (.int .i64 0))]))))⟩
noncomputable def r62 : ERow := ⟨Go.Proofs.Tryd.f62, ⟨[], []⟩, ⟨40, [0, 1, 7, 8, 9, 22], [], [9]⟩, 2, e_num_Mul⟩

/-- whelk/num.Sub [0=a, 1=b] -/
def e_num_Sub : EFunc := ⟨2, 2,
 (.seq (.cond (.pick (.pick (.bi (.bin .lss) (.v 1) (.c (.int .i64 0))) (.bi (.bin .gtr) (.v 0) (.bi (.bin .add) (.c (.int .i64 9223372036854775807)) (.v 1))) (.c (.bool false))) (.c (.bool true)) (.pick (.bi (.bin .gtr) (.v 1) (.c (.int .i64 0))) (.bi (.bin .lss) (.v 0) (.bi (.bin .add) (.c (.int .i64 (-9223372036854775808))) (.v 1))) (.c (.bool false))))
  (.ret [.e (.c (.int .i64 0)), .e (.c (.int .i64 11))])
  (.skip))
 (.ret [.e (.bi (.bin .sub) (.v 0) (.v 1)), .e (.c (.int .i64 0))]))⟩
noncomputable def r63 : ERow := ⟨Go.Proofs.Tryd.f63, ⟨[], []⟩, ⟨27, [0, 1], [], []⟩, 2, e_num_Sub⟩

/-- whelk/whelkref3.letter [0=c] -/
def e_ref3_letter : EFunc := ⟨1, 1,
 (.ret [.e (.pick (.pick (.bi (.bin .geq) (.v 0) (.c (.int .u8 97))) (.bi (.bin .leq) (.v 0) (.c (.int .u8 122))) (.c (.bool false))) (.c (.bool true)) (.pick (.bi (.bin .geq) (.v 0) (.c (.int .u8 65))) (.bi (.bin .leq) (.v 0) (.c (.int .u8 90))) (.c (.bool false))))])⟩
noncomputable def r64 : ERow := ⟨Go.Proofs.Tryd.f64, ⟨[], []⟩, ⟨17, [0], [], []⟩, 1, e_ref3_letter⟩

/-- (*strings.Builder).copyCheck [0=b] FAILS [other code] -/
def e_strings_Builder_copyCheck : EFunc := ⟨1, 5,
 (.seq (.seq (.st [.eff (some 1) none (.load none (.un (.off 0) (.un .nilchk (.v 0))))])
 (.cond (.bi (.eqs 2 false) (.v 1) (.c .nilp))
  (.st [.eff (some 2) none (.touns (.v 0)),
    .eff (some 3) none (.fromuns 2 T_bld (.v 2)),
    .eff none none (.store 1 (.un (.off 0) (.un .nilchk (.v 0))) (.v 3))])
  (.seq (.st [.eff (some 4) none (.load none (.un (.off 0) (.un .nilchk (.v 0))))])
  (.cond (.bi (.eqs 2 true) (.v 4) (.v 0))
   (.st [.eff none none .fail])
   (.skip)))))
 (.ret []))⟩
noncomputable def r66 : ERow := ⟨Go.Proofs.Tryd.f66, ⟨[], []⟩, ⟨20, [0, 5, 9, 11, 17], [], []⟩, 1, e_strings_Builder_copyCheck⟩

/-- whelk/sym.class [0=c, 1=n] -/
def e_sym_class : EFunc := ⟨1, 4,
 (.seq (.st [.sets [(1, (.c (.int .i64 0)))]])
 (.seq (.block 0 (.seq (.block 2 (.seq (.block 1 (.seq (.seq (.seq (.seq (.st [.sets [(2, (.pick (.bi (.bin .geq) (.v 0) (.c (.int .u8 97))) (.bi (.bin .leq) (.v 0) (.c (.int .u8 122))) (.c (.bool false))))]])
    (.cond (.v 2)
     (.skip)
     (.st [.sets [(2, (.pick (.bi (.bin .geq) (.v 0) (.c (.int .u8 65))) (.bi (.bin .leq) (.v 0) (.c (.int .u8 90))) (.c (.bool false))))]])))
    (.cond (.v 2)
     (.exit 1)
     (.skip)))
    (.seq (.seq (.st [.sets [(3, (.pick (.bi (.bin .geq) (.v 0) (.c (.int .u8 48))) (.bi (.bin .leq) (.v 0) (.c (.int .u8 57))) (.c (.bool false))))]])
    (.cond (.v 3)
     (.skip)
     (.seq (.st [.sets [(3, (.bi (.bin .eql) (.v 0) (.c (.int .u8 45))))]])
     (.cond (.v 3)
      (.skip)
      (.st [.sets [(3, (.bi (.bin .eql) (.v 0) (.c (.int .u8 95))))]])))))
    (.cond (.v 3)
     (.exit 2)
     (.skip))))
    (.exit 0)))
   (.st [.sets [(1, (.bi (.bin .add) (.v 1) (.c (.int .i64 1))))]])))
  (.seq (.st [.sets [(1, (.bi (.bin .add) (.v 1) (.c (.int .i64 1))))]])
  (.exit 0))))
 (.ret [.e (.v 1)])))⟩
noncomputable def r67 : ERow := ⟨Go.Proofs.Tryd.f67, ⟨[], []⟩, ⟨33, [0, 3, 4, 17], [], []⟩, 1, e_sym_class⟩

/-- whelk/val.symbol [0=s, 1=_] -/
def b_val_symbol_0 : EC :=
 (.seq (.cond (.bi (.bin .lss) (.v 3) (.v 2))
  (.skip)
  (.exit 0))
 (.seq (.block 1 (.cond (.un .not (.tup (.call 0 f_val_sign) (.cons (.bi .sidx (.v 0) (.v 3)) .nil)))
   (.ret [.e (.c (.bool false))])
   (.skip)))
 (.st [.sets [(3, (.bi (.bin .add) (.v 3) (.c (.int .i64 1))))]])))
def e_val_symbol : EFunc := ⟨1, 5,
 (.seq (.cond (.pick (.bi (.bin .lss) (.un .slen (.v 0)) (.c (.int .i64 1))) (.c (.bool true)) (.bi (.bin .gtr) (.un .slen (.v 0)) (.c (.int .i64 40))))
  (.ret [.e (.c (.bool false))])
  (.skip))
 (.seq (.seq (.st [.sets [(2, (.un .slen (.v 0))), (3, (.c (.int .i64 0)))]])
 (.block 0 (.loop [true, false, true, true, false] b_val_symbol_0)))
 (.seq (.st [.sets [(4, (.tup (.call 0 f_num_Parse) (.cons (.v 0) .nil)))],
   .sets [(1, (.un (.ext 0) (.v 4)))]])
 (.ret [.e (.bi (.bin .eql) (.un (.ext 1) (.v 4)) (.c (.int .i64 2)))]))))⟩
noncomputable def r68 : ERow := ⟨Go.Proofs.Tryd.f68, ⟨[], [(0, [true, false, false, false, false, false, false, false, false, false, false, false, false, false, false, true, true])]⟩, ⟨32, [0, 4, 15, 16, 25], [], [25]⟩, 1, e_val_symbol⟩

/-- internal/stringslite.HasPrefix [0=s, 1=prefix] -/
def e_internal_stringslite_HasPrefix : EFunc := ⟨2, 2,
 (.ret [.e (.pick (.bi (.bin .geq) (.un .slen (.v 0)) (.un .slen (.v 1))) (.bi (.bin .eql) (.ssub false true (.v 0) (.c .undef) (.un .slen (.v 1))) (.v 1)) (.c (.bool false)))])⟩
noncomputable def r69 : ERow := ⟨Go.Proofs.Tryd.f69, ⟨[], []⟩, ⟨18, [0, 1], [], []⟩, 2, e_internal_stringslite_HasPrefix⟩

/-- math/bits.Mul64 [0=x, 1=y] -/
def e_math_bits_Mul64 : EFunc := ⟨2, 2,
 (.ret [.e (.bi (.bin .add) (.bi (.bin .add) (.bi (.bin .mul) (.bi (.bin .shr) (.v 0) (.c (.int .u64 32))) (.bi (.bin .shr) (.v 1) (.c (.int .u64 32)))) (.bi (.bin .shr) (.bi (.bin .add) (.bi (.bin .mul) (.bi (.bin .shr) (.v 0) (.c (.int .u64 32))) (.bi (.bin .and) (.v 1) (.c (.int .u64 4294967295)))) (.bi (.bin .shr) (.bi (.bin .mul) (.bi (.bin .and) (.v 0) (.c (.int .u64 4294967295))) (.bi (.bin .and) (.v 1) (.c (.int .u64 4294967295)))) (.c (.int .u64 32)))) (.c (.int .u64 32)))) (.bi (.bin .shr) (.bi (.bin .add) (.bi (.bin .and) (.bi (.bin .add) (.bi (.bin .mul) (.bi (.bin .shr) (.v 0) (.c (.int .u64 32))) (.bi (.bin .and) (.v 1) (.c (.int .u64 4294967295)))) (.bi (.bin .shr) (.bi (.bin .mul) (.bi (.bin .and) (.v 0) (.c (.int .u64 4294967295))) (.bi (.bin .and) (.v 1) (.c (.int .u64 4294967295)))) (.c (.int .u64 32)))) (.c (.int .u64 4294967295))) (.bi (.bin .mul) (.bi (.bin .and) (.v 0) (.c (.int .u64 4294967295))) (.bi (.bin .shr) (.v 1) (.c (.int .u64 32))))) (.c (.int .u64 32)))), .e (.bi (.bin .mul) (.v 0) (.v 1))])⟩
noncomputable def r70 : ERow := ⟨Go.Proofs.Tryd.f70, ⟨[], []⟩, ⟨51, [0, 1], [], []⟩, 2, e_math_bits_Mul64⟩

/-- whelk/num.abs [0=a] -/
def e_num_abs : EFunc := ⟨1, 1,
 (.seq (.cond (.bi (.bin .lss) (.v 0) (.c (.int .i64 0)))
  (.ret [.e (.bi (.bin .sub) (.c (.int .u64 0)) (.un (.conv .u64) (.v 0)))])
  (.skip))
 (.ret [.e (.un (.conv .u64) (.v 0))]))⟩
noncomputable def r71 : ERow := ⟨Go.Proofs.Tryd.f71, ⟨[], []⟩, ⟨10, [0], [], []⟩, 1, e_num_abs⟩

/-- whelk/val.sign [0=c] -/
def e_val_sign : EFunc := ⟨1, 2,
 (.seq (.block 0 (.seq (.seq (.st [.sets [(1, (.bi (.bin .eql) (.v 0) (.c (.int .u8 40))))]])
  (.cond (.v 1)
   (.skip)
   (.seq (.st [.sets [(1, (.bi (.bin .eql) (.v 0) (.c (.int .u8 41))))]])
   (.cond (.v 1)
    (.skip)
    (.seq (.st [.sets [(1, (.bi (.bin .eql) (.v 0) (.c (.int .u8 34))))]])
    (.cond (.v 1)
     (.skip)
     (.seq (.st [.sets [(1, (.bi (.bin .eql) (.v 0) (.c (.int .u8 59))))]])
     (.cond (.v 1)
      (.skip)
      (.seq (.st [.sets [(1, (.bi (.bin .eql) (.v 0) (.c (.int .u8 63))))]])
      (.cond (.v 1)
       (.skip)
       (.st [.sets [(1, (.bi (.bin .eql) (.v 0) (.c (.int .u8 126))))]])))))))))))
  (.cond (.v 1)
   (.ret [.e (.c (.bool false))])
   (.skip))))
 (.ret [.e (.pick (.bi (.bin .geq) (.v 0) (.c (.int .u8 33))) (.bi (.bin .leq) (.v 0) (.c (.int .u8 126))) (.c (.bool false)))]))⟩
noncomputable def r77 : ERow := ⟨Go.Proofs.Tryd.f77, ⟨[], []⟩, ⟨17, [0, 4], [], []⟩, 1, e_val_sign⟩

def eT : BT EFunc := (.node 42 e_num_Text (.node 19 e_lex_scanner_token (.node 10 e_ref4_Scan (.node 6 e_law4_LexLengths (.node 4 e_law4_LexBack (.node 3 e_law4_LexBytes .leaf .leaf) (.node 5 e_law4_LexValues .leaf .leaf)) (.node 8 e_law4_known (.node 7 e_law4_LexBlanks .leaf .leaf) (.node 9 e_lex_Scan .leaf .leaf))) (.node 16 e_ref3_Text (.node 14 e_ref4_Text (.node 13 e_lex_Text .leaf .leaf) (.node 15 e_ref3_Right .leaf .leaf)) (.node 18 e_lex_scanner_skip (.node 17 e_lex_fault .leaf .leaf) .leaf))) (.node 33 e_lex_scanner_more (.node 29 e_ref1_Shape (.node 21 e_ref4_one (.node 20 e_ref4_blank .leaf .leaf) (.node 28 e_val_Text .leaf .leaf)) (.node 31 e_ref1_Text (.node 30 e_ref3_Sign .leaf .leaf) (.node 32 e_ref3_Quote .leaf .leaf))) (.node 37 e_ref4_text (.node 35 e_lex_scanner_variable (.node 34 e_lex_scanner_text .leaf .leaf) (.node 36 e_lex_scanner_word .leaf .leaf)) (.node 39 e_ref1_Parse (.node 38 e_ref4_name .leaf .leaf) .leaf)))) (.node 58 e_sym_Good (.node 50 e_ref3_Good (.node 46 e_lex_scanner_name (.node 44 e_strings_Clone (.node 43 e_val_Quote .leaf .leaf) (.node 45 e_ref1_size .leaf .leaf)) (.node 48 e_num_Parse (.node 47 e_lex_sign .leaf .leaf) (.node 49 e_ref3_Part .leaf .leaf))) (.node 54 e_strings_Builder_WriteByte (.node 52 e_ref1_Add (.node 51 e_ref1_Mul .leaf .leaf) (.node 53 e_strconv_FormatInt .leaf .leaf)) (.node 57 e_lex_part (.node 55 e_strings_Builder_String .leaf .leaf) .leaf))) (.node 66 e_strings_Builder_copyCheck (.node 62 e_num_Mul (.node 60 e_val_OfSym (.node 59 e_val_Right .leaf .leaf) (.node 61 e_strings_HasPrefix .leaf .leaf)) (.node 64 e_ref3_letter (.node 63 e_num_Sub .leaf .leaf) .leaf)) (.node 70 e_math_bits_Mul64 (.node 68 e_val_symbol (.node 67 e_sym_class .leaf .leaf) (.node 69 e_internal_stringslite_HasPrefix .leaf .leaf)) (.node 77 e_val_sign (.node 71 e_num_abs .leaf .leaf) .leaf)))))
noncomputable def rT : BT ERow := (.node 42 r42 (.node 19 r19 (.node 10 r10 (.node 6 r6 (.node 4 r4 (.node 3 r3 .leaf .leaf) (.node 5 r5 .leaf .leaf)) (.node 8 r8 (.node 7 r7 .leaf .leaf) (.node 9 r9 .leaf .leaf))) (.node 16 r16 (.node 14 r14 (.node 13 r13 .leaf .leaf) (.node 15 r15 .leaf .leaf)) (.node 18 r18 (.node 17 r17 .leaf .leaf) .leaf))) (.node 33 r33 (.node 29 r29 (.node 21 r21 (.node 20 r20 .leaf .leaf) (.node 28 r28 .leaf .leaf)) (.node 31 r31 (.node 30 r30 .leaf .leaf) (.node 32 r32 .leaf .leaf))) (.node 37 r37 (.node 35 r35 (.node 34 r34 .leaf .leaf) (.node 36 r36 .leaf .leaf)) (.node 39 r39 (.node 38 r38 .leaf .leaf) .leaf)))) (.node 58 r58 (.node 50 r50 (.node 46 r46 (.node 44 r44 (.node 43 r43 .leaf .leaf) (.node 45 r45 .leaf .leaf)) (.node 48 r48 (.node 47 r47 .leaf .leaf) (.node 49 r49 .leaf .leaf))) (.node 54 r54 (.node 52 r52 (.node 51 r51 .leaf .leaf) (.node 53 r53 .leaf .leaf)) (.node 57 r57 (.node 55 r55 .leaf .leaf) .leaf))) (.node 66 r66 (.node 62 r62 (.node 60 r60 (.node 59 r59 .leaf .leaf) (.node 61 r61 .leaf .leaf)) (.node 64 r64 (.node 63 r63 .leaf .leaf) .leaf)) (.node 70 r70 (.node 68 r68 (.node 67 r67 .leaf .leaf) (.node 69 r69 .leaf .leaf)) (.node 77 r77 (.node 71 r71 .leaf .leaf) .leaf)))))
def efns : FuncId → Option EFunc := fun f => eT.get f
noncomputable def rows : FuncId → Option ERow := fun f => rT.get f

theorem ok3 : rowB Go.Proofs.Tryd.prog sh r3 = some e_law4_LexBytes := by kernel_rfl
theorem g3 : Go.Proofs.Tryd.prog.funcs[3]? = some Go.Proofs.Tryd.f3 := by kernel_rfl
theorem ok4 : rowB Go.Proofs.Tryd.prog sh r4 = some e_law4_LexBack := by kernel_rfl
theorem g4 : Go.Proofs.Tryd.prog.funcs[4]? = some Go.Proofs.Tryd.f4 := by kernel_rfl
theorem ok5 : rowB Go.Proofs.Tryd.prog sh r5 = some e_law4_LexValues := by kernel_rfl
theorem g5 : Go.Proofs.Tryd.prog.funcs[5]? = some Go.Proofs.Tryd.f5 := by kernel_rfl
theorem ok6 : rowB Go.Proofs.Tryd.prog sh r6 = some e_law4_LexLengths := by kernel_rfl
theorem g6 : Go.Proofs.Tryd.prog.funcs[6]? = some Go.Proofs.Tryd.f6 := by kernel_rfl
theorem ok7 : rowB Go.Proofs.Tryd.prog sh r7 = some e_law4_LexBlanks := by kernel_rfl
theorem g7 : Go.Proofs.Tryd.prog.funcs[7]? = some Go.Proofs.Tryd.f7 := by kernel_rfl
theorem ok8 : rowB Go.Proofs.Tryd.prog sh r8 = some e_law4_known := by kernel_rfl
theorem g8 : Go.Proofs.Tryd.prog.funcs[8]? = some Go.Proofs.Tryd.f8 := by kernel_rfl
theorem ok9 : rowB Go.Proofs.Tryd.prog sh r9 = some e_lex_Scan := by kernel_rfl
theorem g9 : Go.Proofs.Tryd.prog.funcs[9]? = some Go.Proofs.Tryd.f9 := by kernel_rfl
theorem ok10 : rowB Go.Proofs.Tryd.prog sh r10 = some e_ref4_Scan := by kernel_rfl
theorem g10 : Go.Proofs.Tryd.prog.funcs[10]? = some Go.Proofs.Tryd.f10 := by kernel_rfl
theorem ok13 : rowB Go.Proofs.Tryd.prog sh r13 = some e_lex_Text := by kernel_rfl
theorem g13 : Go.Proofs.Tryd.prog.funcs[13]? = some Go.Proofs.Tryd.f13 := by kernel_rfl
theorem ok14 : rowB Go.Proofs.Tryd.prog sh r14 = some e_ref4_Text := by kernel_rfl
theorem g14 : Go.Proofs.Tryd.prog.funcs[14]? = some Go.Proofs.Tryd.f14 := by kernel_rfl
theorem ok15 : rowB Go.Proofs.Tryd.prog sh r15 = some e_ref3_Right := by kernel_rfl
theorem g15 : Go.Proofs.Tryd.prog.funcs[15]? = some Go.Proofs.Tryd.f15 := by kernel_rfl
theorem ok16 : rowB Go.Proofs.Tryd.prog sh r16 = some e_ref3_Text := by kernel_rfl
theorem g16 : Go.Proofs.Tryd.prog.funcs[16]? = some Go.Proofs.Tryd.f16 := by kernel_rfl
theorem ok17 : rowB Go.Proofs.Tryd.prog sh r17 = some e_lex_fault := by kernel_rfl
theorem g17 : Go.Proofs.Tryd.prog.funcs[17]? = some Go.Proofs.Tryd.f17 := by kernel_rfl
theorem ok18 : rowB Go.Proofs.Tryd.prog sh r18 = some e_lex_scanner_skip := by kernel_rfl
theorem g18 : Go.Proofs.Tryd.prog.funcs[18]? = some Go.Proofs.Tryd.f18 := by kernel_rfl
theorem ok19 : rowB Go.Proofs.Tryd.prog sh r19 = some e_lex_scanner_token := by kernel_rfl
theorem g19 : Go.Proofs.Tryd.prog.funcs[19]? = some Go.Proofs.Tryd.f19 := by kernel_rfl
theorem ok20 : rowB Go.Proofs.Tryd.prog sh r20 = some e_ref4_blank := by kernel_rfl
theorem g20 : Go.Proofs.Tryd.prog.funcs[20]? = some Go.Proofs.Tryd.f20 := by kernel_rfl
theorem ok21 : rowB Go.Proofs.Tryd.prog sh r21 = some e_ref4_one := by kernel_rfl
theorem g21 : Go.Proofs.Tryd.prog.funcs[21]? = some Go.Proofs.Tryd.f21 := by kernel_rfl
theorem ok28 : rowB Go.Proofs.Tryd.prog sh r28 = some e_val_Text := by kernel_rfl
theorem g28 : Go.Proofs.Tryd.prog.funcs[28]? = some Go.Proofs.Tryd.f28 := by kernel_rfl
theorem ok29 : rowB Go.Proofs.Tryd.prog sh r29 = some e_ref1_Shape := by kernel_rfl
theorem g29 : Go.Proofs.Tryd.prog.funcs[29]? = some Go.Proofs.Tryd.f29 := by kernel_rfl
theorem ok30 : rowB Go.Proofs.Tryd.prog sh r30 = some e_ref3_Sign := by kernel_rfl
theorem g30 : Go.Proofs.Tryd.prog.funcs[30]? = some Go.Proofs.Tryd.f30 := by kernel_rfl
theorem ok31 : rowB Go.Proofs.Tryd.prog sh r31 = some e_ref1_Text := by kernel_rfl
theorem g31 : Go.Proofs.Tryd.prog.funcs[31]? = some Go.Proofs.Tryd.f31 := by kernel_rfl
theorem ok32 : rowB Go.Proofs.Tryd.prog sh r32 = some e_ref3_Quote := by kernel_rfl
theorem g32 : Go.Proofs.Tryd.prog.funcs[32]? = some Go.Proofs.Tryd.f32 := by kernel_rfl
theorem ok33 : rowB Go.Proofs.Tryd.prog sh r33 = some e_lex_scanner_more := by kernel_rfl
theorem g33 : Go.Proofs.Tryd.prog.funcs[33]? = some Go.Proofs.Tryd.f33 := by kernel_rfl
theorem ok34 : rowB Go.Proofs.Tryd.prog sh r34 = some e_lex_scanner_text := by kernel_rfl
theorem g34 : Go.Proofs.Tryd.prog.funcs[34]? = some Go.Proofs.Tryd.f34 := by kernel_rfl
theorem ok35 : rowB Go.Proofs.Tryd.prog sh r35 = some e_lex_scanner_variable := by kernel_rfl
theorem g35 : Go.Proofs.Tryd.prog.funcs[35]? = some Go.Proofs.Tryd.f35 := by kernel_rfl
theorem ok36 : rowB Go.Proofs.Tryd.prog sh r36 = some e_lex_scanner_word := by kernel_rfl
theorem g36 : Go.Proofs.Tryd.prog.funcs[36]? = some Go.Proofs.Tryd.f36 := by kernel_rfl
theorem ok37 : rowB Go.Proofs.Tryd.prog sh r37 = some e_ref4_text := by kernel_rfl
theorem g37 : Go.Proofs.Tryd.prog.funcs[37]? = some Go.Proofs.Tryd.f37 := by kernel_rfl
theorem ok38 : rowB Go.Proofs.Tryd.prog sh r38 = some e_ref4_name := by kernel_rfl
theorem g38 : Go.Proofs.Tryd.prog.funcs[38]? = some Go.Proofs.Tryd.f38 := by kernel_rfl
theorem ok39 : rowB Go.Proofs.Tryd.prog sh r39 = some e_ref1_Parse := by kernel_rfl
theorem g39 : Go.Proofs.Tryd.prog.funcs[39]? = some Go.Proofs.Tryd.f39 := by kernel_rfl
theorem ok42 : rowB Go.Proofs.Tryd.prog sh r42 = some e_num_Text := by kernel_rfl
theorem g42 : Go.Proofs.Tryd.prog.funcs[42]? = some Go.Proofs.Tryd.f42 := by kernel_rfl
theorem ok43 : rowB Go.Proofs.Tryd.prog sh r43 = some e_val_Quote := by kernel_rfl
theorem g43 : Go.Proofs.Tryd.prog.funcs[43]? = some Go.Proofs.Tryd.f43 := by kernel_rfl
theorem ok44 : rowB Go.Proofs.Tryd.prog sh r44 = some e_strings_Clone := by kernel_rfl
theorem g44 : Go.Proofs.Tryd.prog.funcs[44]? = some Go.Proofs.Tryd.f44 := by kernel_rfl
theorem ok45 : rowB Go.Proofs.Tryd.prog sh r45 = some e_ref1_size := by kernel_rfl
theorem g45 : Go.Proofs.Tryd.prog.funcs[45]? = some Go.Proofs.Tryd.f45 := by kernel_rfl
theorem ok46 : rowB Go.Proofs.Tryd.prog sh r46 = some e_lex_scanner_name := by kernel_rfl
theorem g46 : Go.Proofs.Tryd.prog.funcs[46]? = some Go.Proofs.Tryd.f46 := by kernel_rfl
theorem ok47 : rowB Go.Proofs.Tryd.prog sh r47 = some e_lex_sign := by kernel_rfl
theorem g47 : Go.Proofs.Tryd.prog.funcs[47]? = some Go.Proofs.Tryd.f47 := by kernel_rfl
theorem ok48 : rowB Go.Proofs.Tryd.prog sh r48 = some e_num_Parse := by kernel_rfl
theorem g48 : Go.Proofs.Tryd.prog.funcs[48]? = some Go.Proofs.Tryd.f48 := by kernel_rfl
theorem ok49 : rowB Go.Proofs.Tryd.prog sh r49 = some e_ref3_Part := by kernel_rfl
theorem g49 : Go.Proofs.Tryd.prog.funcs[49]? = some Go.Proofs.Tryd.f49 := by kernel_rfl
theorem ok50 : rowB Go.Proofs.Tryd.prog sh r50 = some e_ref3_Good := by kernel_rfl
theorem g50 : Go.Proofs.Tryd.prog.funcs[50]? = some Go.Proofs.Tryd.f50 := by kernel_rfl
theorem ok51 : rowB Go.Proofs.Tryd.prog sh r51 = some e_ref1_Mul := by kernel_rfl
theorem g51 : Go.Proofs.Tryd.prog.funcs[51]? = some Go.Proofs.Tryd.f51 := by kernel_rfl
theorem ok52 : rowB Go.Proofs.Tryd.prog sh r52 = some e_ref1_Add := by kernel_rfl
theorem g52 : Go.Proofs.Tryd.prog.funcs[52]? = some Go.Proofs.Tryd.f52 := by kernel_rfl
theorem ok53 : rowB Go.Proofs.Tryd.prog sh r53 = some e_strconv_FormatInt := by kernel_rfl
theorem g53 : Go.Proofs.Tryd.prog.funcs[53]? = some Go.Proofs.Tryd.f53 := by kernel_rfl
theorem ok54 : rowB Go.Proofs.Tryd.prog sh r54 = some e_strings_Builder_WriteByte := by kernel_rfl
theorem g54 : Go.Proofs.Tryd.prog.funcs[54]? = some Go.Proofs.Tryd.f54 := by kernel_rfl
theorem ok55 : rowB Go.Proofs.Tryd.prog sh r55 = some e_strings_Builder_String := by kernel_rfl
theorem g55 : Go.Proofs.Tryd.prog.funcs[55]? = some Go.Proofs.Tryd.f55 := by kernel_rfl
theorem ok57 : rowB Go.Proofs.Tryd.prog sh r57 = some e_lex_part := by kernel_rfl
theorem g57 : Go.Proofs.Tryd.prog.funcs[57]? = some Go.Proofs.Tryd.f57 := by kernel_rfl
theorem ok58 : rowB Go.Proofs.Tryd.prog sh r58 = some e_sym_Good := by kernel_rfl
theorem g58 : Go.Proofs.Tryd.prog.funcs[58]? = some Go.Proofs.Tryd.f58 := by kernel_rfl
theorem ok59 : rowB Go.Proofs.Tryd.prog sh r59 = some e_val_Right := by kernel_rfl
theorem g59 : Go.Proofs.Tryd.prog.funcs[59]? = some Go.Proofs.Tryd.f59 := by kernel_rfl
theorem ok60 : rowB Go.Proofs.Tryd.prog sh r60 = some e_val_OfSym := by kernel_rfl
theorem g60 : Go.Proofs.Tryd.prog.funcs[60]? = some Go.Proofs.Tryd.f60 := by kernel_rfl
theorem ok61 : rowB Go.Proofs.Tryd.prog sh r61 = some e_strings_HasPrefix := by kernel_rfl
theorem g61 : Go.Proofs.Tryd.prog.funcs[61]? = some Go.Proofs.Tryd.f61 := by kernel_rfl
theorem ok62 : rowB Go.Proofs.Tryd.prog sh r62 = some e_num_Mul := by kernel_rfl
theorem g62 : Go.Proofs.Tryd.prog.funcs[62]? = some Go.Proofs.Tryd.f62 := by kernel_rfl
theorem ok63 : rowB Go.Proofs.Tryd.prog sh r63 = some e_num_Sub := by kernel_rfl
theorem g63 : Go.Proofs.Tryd.prog.funcs[63]? = some Go.Proofs.Tryd.f63 := by kernel_rfl
theorem ok64 : rowB Go.Proofs.Tryd.prog sh r64 = some e_ref3_letter := by kernel_rfl
theorem g64 : Go.Proofs.Tryd.prog.funcs[64]? = some Go.Proofs.Tryd.f64 := by kernel_rfl
theorem ok66 : rowB Go.Proofs.Tryd.prog sh r66 = some e_strings_Builder_copyCheck := by kernel_rfl
theorem g66 : Go.Proofs.Tryd.prog.funcs[66]? = some Go.Proofs.Tryd.f66 := by kernel_rfl
theorem ok67 : rowB Go.Proofs.Tryd.prog sh r67 = some e_sym_class := by kernel_rfl
theorem g67 : Go.Proofs.Tryd.prog.funcs[67]? = some Go.Proofs.Tryd.f67 := by kernel_rfl
theorem ok68 : rowB Go.Proofs.Tryd.prog sh r68 = some e_val_symbol := by kernel_rfl
theorem g68 : Go.Proofs.Tryd.prog.funcs[68]? = some Go.Proofs.Tryd.f68 := by kernel_rfl
theorem ok69 : rowB Go.Proofs.Tryd.prog sh r69 = some e_internal_stringslite_HasPrefix := by kernel_rfl
theorem g69 : Go.Proofs.Tryd.prog.funcs[69]? = some Go.Proofs.Tryd.f69 := by kernel_rfl
theorem ok70 : rowB Go.Proofs.Tryd.prog sh r70 = some e_math_bits_Mul64 := by kernel_rfl
theorem g70 : Go.Proofs.Tryd.prog.funcs[70]? = some Go.Proofs.Tryd.f70 := by kernel_rfl
theorem ok71 : rowB Go.Proofs.Tryd.prog sh r71 = some e_num_abs := by kernel_rfl
theorem g71 : Go.Proofs.Tryd.prog.funcs[71]? = some Go.Proofs.Tryd.f71 := by kernel_rfl
theorem ok77 : rowB Go.Proofs.Tryd.prog sh r77 = some e_val_sign := by kernel_rfl
theorem g77 : Go.Proofs.Tryd.prog.funcs[77]? = some Go.Proofs.Tryd.f77 := by kernel_rfl

theorem efns_eq : efnsOf rows = efns := efnsOf_tree rT eT rfl

theorem rows_ok : RowsOk Go.Proofs.Tryd.prog sh rows := rowsOk_of (t := rT) ⟨⟨g42, by rfl, ok42⟩, ⟨⟨g19, by rfl, ok19⟩, ⟨⟨g10, by rfl, ok10⟩, ⟨⟨g6, by rfl, ok6⟩, ⟨⟨g4, by rfl, ok4⟩, ⟨⟨g3, by rfl, ok3⟩, trivial, trivial⟩, ⟨⟨g5, by rfl, ok5⟩, trivial, trivial⟩⟩, ⟨⟨g8, by rfl, ok8⟩, ⟨⟨g7, by rfl, ok7⟩, trivial, trivial⟩, ⟨⟨g9, by rfl, ok9⟩, trivial, trivial⟩⟩⟩, ⟨⟨g16, by rfl, ok16⟩, ⟨⟨g14, by rfl, ok14⟩, ⟨⟨g13, by rfl, ok13⟩, trivial, trivial⟩, ⟨⟨g15, by rfl, ok15⟩, trivial, trivial⟩⟩, ⟨⟨g18, by rfl, ok18⟩, ⟨⟨g17, by rfl, ok17⟩, trivial, trivial⟩, trivial⟩⟩⟩, ⟨⟨g33, by rfl, ok33⟩, ⟨⟨g29, by rfl, ok29⟩, ⟨⟨g21, by rfl, ok21⟩, ⟨⟨g20, by rfl, ok20⟩, trivial, trivial⟩, ⟨⟨g28, by rfl, ok28⟩, trivial, trivial⟩⟩, ⟨⟨g31, by rfl, ok31⟩, ⟨⟨g30, by rfl, ok30⟩, trivial, trivial⟩, ⟨⟨g32, by rfl, ok32⟩, trivial, trivial⟩⟩⟩, ⟨⟨g37, by rfl, ok37⟩, ⟨⟨g35, by rfl, ok35⟩, ⟨⟨g34, by rfl, ok34⟩, trivial, trivial⟩, ⟨⟨g36, by rfl, ok36⟩, trivial, trivial⟩⟩, ⟨⟨g39, by rfl, ok39⟩, ⟨⟨g38, by rfl, ok38⟩, trivial, trivial⟩, trivial⟩⟩⟩⟩, ⟨⟨g58, by rfl, ok58⟩, ⟨⟨g50, by rfl, ok50⟩, ⟨⟨g46, by rfl, ok46⟩, ⟨⟨g44, by rfl, ok44⟩, ⟨⟨g43, by rfl, ok43⟩, trivial, trivial⟩, ⟨⟨g45, by rfl, ok45⟩, trivial, trivial⟩⟩, ⟨⟨g48, by rfl, ok48⟩, ⟨⟨g47, by rfl, ok47⟩, trivial, trivial⟩, ⟨⟨g49, by rfl, ok49⟩, trivial, trivial⟩⟩⟩, ⟨⟨g54, by rfl, ok54⟩, ⟨⟨g52, by rfl, ok52⟩, ⟨⟨g51, by rfl, ok51⟩, trivial, trivial⟩, ⟨⟨g53, by rfl, ok53⟩, trivial, trivial⟩⟩, ⟨⟨g57, by rfl, ok57⟩, ⟨⟨g55, by rfl, ok55⟩, trivial, trivial⟩, trivial⟩⟩⟩, ⟨⟨g66, by rfl, ok66⟩, ⟨⟨g62, by rfl, ok62⟩, ⟨⟨g60, by rfl, ok60⟩, ⟨⟨g59, by rfl, ok59⟩, trivial, trivial⟩, ⟨⟨g61, by rfl, ok61⟩, trivial, trivial⟩⟩, ⟨⟨g64, by rfl, ok64⟩, ⟨⟨g63, by rfl, ok63⟩, trivial, trivial⟩, trivial⟩⟩, ⟨⟨g70, by rfl, ok70⟩, ⟨⟨g68, by rfl, ok68⟩, ⟨⟨g67, by rfl, ok67⟩, trivial, trivial⟩, ⟨⟨g69, by rfl, ok69⟩, trivial, trivial⟩⟩, ⟨⟨g77, by rfl, ok77⟩, ⟨⟨g71, by rfl, ok71⟩, trivial, trivial⟩, trivial⟩⟩⟩⟩⟩

theorem follows_ok : Go.Proofs.Tryd.prog.follows .mixedOrders = true := by kernel_rfl

end Go.Proofs.YtpohgiinajfepaaDoorPe.LexCode
