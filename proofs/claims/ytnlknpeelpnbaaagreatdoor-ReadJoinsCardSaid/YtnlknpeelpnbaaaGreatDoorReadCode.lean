/- A part of the proof of this folder's statement; it has no condition of its own. -/
import Derived.Test.YtnlknpeelpnbaaaGreatDoorEcFast
import Derived.Test.YtnlknpeelpnbaaaGreatDoorProg
import Derived.KernelRfl
set_option maxRecDepth 100000
set_option linter.unusedVariables false
namespace Go.Proofs.YtnlknpeelpnbaaaGreatDoorPe.ReadCode
open Go Go.Proofs.YtnlknpeelpnbaaaGreatDoorPe
open Go.Proofs
abbrev f_law5_ReadJoins:Nat:=6
abbrev f_law5_known:Nat:=10
abbrev f_sexp_Read:Nat:=11
abbrev f_ref5_Read:Nat:=12
abbrev f_sexp_Value:Nat:=14
abbrev f_law5_Places:Nat:=16
abbrev f_law5_Of:Nat:=17
abbrev f_sexp_Text:Nat:=18
abbrev f_sexp_Count:Nat:=20
abbrev f_sexp_Head:Nat:=22
abbrev f_sexp_Lines:Nat:=24
abbrev f_sexp_Same:Nat:=25
abbrev f_ref5_Same:Nat:=26
abbrev f_ref5_At:Nat:=27
abbrev f_sexp_Told:Nat:=29
abbrev f_sexp_Number:Nat:=31
abbrev f_lex_Scan:Nat:=32
abbrev f_sexp_reader_step:Nat:=33
abbrev f_sexp_fault:Nat:=34
abbrev f_ref4_Scan:Nat:=35
abbrev f_ref5_reader_node:Nat:=36
abbrev f_errors_Is:Nat:=38
abbrev f_errors_As:Nat:=39
abbrev f_law5_places:Nat:=40
abbrev f_strings_Join:Nat:=41
abbrev f_lex_Text:Nat:=42
abbrev f_strings_Builder_WriteString:Nat:=44
abbrev f_strings_Builder_String:Nat:=45
abbrev f_slices_EqualFunc_sexp_Node_sexp_Node_sexp_Node_sexp_Node:Nat:=46
abbrev f_sexp_last:Nat:=47
abbrev f_strconv_Itoa:Nat:=48
abbrev f_lex_fault:Nat:=49
abbrev f_lex_scanner_skip:Nat:=50
abbrev f_lex_scanner_token:Nat:=51
abbrev f_sexp_reader_not:Nat:=52
abbrev f_sexp_reader_count:Nat:=53
abbrev f_sexp_reader_put:Nat:=54
abbrev f_sexp_leaf:Nat:=55
abbrev f_ref4_blank:Nat:=56
abbrev f_ref4_one:Nat:=57
abbrev f_val_Text:Nat:=67
abbrev f_strings_Builder_copyCheck:Nat:=69
abbrev f_api_Errno_Error:Nat:=70
abbrev f_internal_strconv_Itoa:Nat:=71
abbrev f_lex_scanner_more:Nat:=72
abbrev f_lex_scanner_text:Nat:=73
abbrev f_lex_scanner_variable:Nat:=74
abbrev f_lex_scanner_word:Nat:=75
abbrev f_ref4_text:Nat:=76
abbrev f_ref4_name:Nat:=77
abbrev f_ref3_Sign:Nat:=78
abbrev f_ref1_Shape:Nat:=79
abbrev f_ref1_Parse:Nat:=80
abbrev f_ref1_size:Nat:=81
abbrev f_num_Text:Nat:=85
abbrev f_val_Quote:Nat:=86
abbrev f_strings_Clone:Nat:=87
abbrev f_internal_strconv_FormatInt:Nat:=90
abbrev f_lex_scanner_name:Nat:=91
abbrev f_lex_sign:Nat:=92
abbrev f_num_Parse:Nat:=93
abbrev f_ref3_Part:Nat:=94
abbrev f_ref3_Good:Nat:=95
abbrev f_ref1_Mul:Nat:=96
abbrev f_ref1_Add:Nat:=97
abbrev f_strconv_FormatInt:Nat:=99
abbrev f_strings_Builder_WriteByte:Nat:=100
abbrev f_internal_stringslite_Clone:Nat:=101
abbrev f_lex_part:Nat:=106
abbrev f_sym_Good:Nat:=107
abbrev f_val_Right:Nat:=108
abbrev f_val_OfSym:Nat:=109
abbrev f_strings_HasPrefix:Nat:=110
abbrev f_num_Mul:Nat:=111
abbrev f_num_Sub:Nat:=112
abbrev f_ref3_letter:Nat:=113
abbrev f_sym_class:Nat:=119
abbrev f_val_symbol:Nat:=120
abbrev f_internal_stringslite_HasPrefix:Nat:=121
abbrev f_math_bits_Mul64:Nat:=122
abbrev f_num_abs:Nat:=123
abbrev f_val_sign:Nat:=126
noncomputable abbrev G_strings_Join:Go.Func:=Tryz.f41
noncomputable abbrev G_internal_strconv_FormatInt:Go.Func:=Tryz.f90
noncomputable abbrev G_internal_stringslite_Clone:Go.Func:=Tryz.f101
abbrev T_byte:Nat:=5
abbrev T_bld:Nat:=100
abbrev T_law5_ReadJoins_0:Nat:=32
abbrev T_law5_known_0:Nat:=37
abbrev T_sexp_Read_0:Nat:=76
abbrev T_ref5_Read_0:Nat:=44
abbrev T_ref5_Read_1:Nat:=32
abbrev T_ref5_Read_2:Nat:=85
abbrev T_sexp_Value_0:Nat:=41
abbrev T_sexp_Value_1:Nat:=37
abbrev T_law5_Places_0:Nat:=44
abbrev T_law5_Of_0:Nat:=44
abbrev T_law5_Of_1:Nat:=41
abbrev T_sexp_Text_0:Nat:=9
abbrev T_sexp_Text_1:Nat:=41
abbrev T_sexp_Count_0:Nat:=41
abbrev T_sexp_Head_0:Nat:=41
abbrev T_sexp_Lines_0:Nat:=41
abbrev T_sexp_Same_0:Nat:=41
abbrev T_ref5_Same_0:Nat:=44
abbrev T_ref5_At_0:Nat:=32
abbrev T_sexp_Told_0:Nat:=63
abbrev T_sexp_Told_1:Nat:=91
abbrev T_sexp_Number_0:Nat:=62
abbrev T_sexp_Number_1:Nat:=108
abbrev T_lex_Scan_0:Nat:=95
abbrev T_lex_Scan_1:Nat:=111
abbrev T_sexp_reader_step_0:Nat:=41
abbrev T_sexp_reader_step_1:Nat:=95
abbrev T_sexp_fault_0:Nat:=65
abbrev T_sexp_fault_1:Nat:=62
abbrev T_sexp_fault_2:Nat:=63
abbrev T_ref4_Scan_0:Nat:=97
abbrev T_ref5_reader_node_0:Nat:=44
abbrev T_ref5_reader_node_1:Nat:=32
abbrev T_ref5_reader_node_2:Nat:=97
abbrev T_law5_places_0:Nat:=44
abbrev T_lex_Text_0:Nat:=95
abbrev T_slices_EqualFunc_sexp_Node_sexp_Node_sexp_Node_sexp_Node_0:Nat:=41
abbrev T_sexp_last_0:Nat:=62
abbrev T_sexp_last_1:Nat:=108
abbrev T_lex_fault_0:Nat:=65
abbrev T_lex_fault_1:Nat:=62
abbrev T_lex_fault_2:Nat:=63
abbrev T_lex_scanner_token_0:Nat:=95
abbrev T_sexp_reader_not_0:Nat:=95
abbrev T_sexp_reader_count_0:Nat:=95
abbrev T_sexp_reader_put_0:Nat:=41
abbrev T_sexp_reader_put_1:Nat:=4
abbrev T_sexp_leaf_0:Nat:=95
abbrev T_sexp_leaf_1:Nat:=41
abbrev T_ref4_one_0:Nat:=97
abbrev T_val_Text_0:Nat:=37
abbrev T_lex_scanner_text_0:Nat:=95
abbrev T_lex_scanner_variable_0:Nat:=95
abbrev T_lex_scanner_word_0:Nat:=95
abbrev T_val_Right_0:Nat:=37
abbrev T_val_OfSym_0:Nat:=37
def sh:Nat->Nat
 |33=>3
 |36=>3
 |39=>3
 |44=>3
 |45=>3
 |46=>6
 |50=>3
 |51=>3
 |52=>3
 |53=>3
 |54=>3
 |69=>3
 |72=>3
 |73=>3
 |74=>3
 |75=>3
 |91=>3
 |100=>3
 |_=>0
def b_law5_ReadJoins_0:EC :=
 (.seq (.cond (.bi (.bin .lss) (.v 7) (.un .len (.v 6)))
 (.skip)
 (.exit 0))
 (.seq (.block 1 (.cond (.pick (.pick (.bi (.bin .lss) (.v 7) (.un .len (.v 2))) (.un .not (.tup (.call 0 f_law5_Places) (.cons (.tup (.call 0 f_law5_Of) (.cons (.un (.ld (some 5)) (.bi (.idx 5) (.v 6) (.v 7))) .nil)) (.cons (.un (.ld (some 5)) (.bi (.idx 5) (.v 2) (.v 7))) .nil)))) (.c (.bool false))) (.c (.bool true)) (.pick (.bi (.bin .geq) (.v 7) (.un .len (.v 2))) (.pick (.un .not (.tup (.call 0 f_ref5_Same) (.cons (.tup (.call 0 f_law5_Of) (.cons (.un (.ld (some 5)) (.bi (.idx 5) (.v 6) (.v 7))) .nil)) (.cons (.un (.ld (some 5)) (.bi (.idx 5) (.v 4) (.bi (.bin .sub) (.v 7) (.un .len (.v 2))))) .nil)))) (.c (.bool true)) (.bi (.bin .neq) (.un (.ld none) (.un (.off 1) (.bi (.idx 5) (.v 6) (.v 7)))) (.bi (.bin .add) (.bi (.bin .add) (.un (.ld none) (.un (.off 1) (.bi (.idx 5) (.v 4) (.bi (.bin .sub) (.v 7) (.un .len (.v 2)))))) (.un .len (.v 0))) (.c (.int .i64 1))))) (.c (.bool false))))
  (.ret [.e (.c (.bool false))])
  (.skip)))
 (.st [.sets [(7,(.bi (.bin .add) (.v 7) (.c (.int .i64 1))))]])))
def e_law5_ReadJoins:EFunc:=⟨2,13,
 (.seq (.cond (.un .not (.tup (.call 0 f_law5_known) .nil))
 (.ret [.e (.c (.bool false))])
 (.skip))
 (.seq (.cond (.pick (.bi (.bin .gtr) (.un .len (.v 0)) (.c (.int .i64 1000))) (.c (.bool true)) (.bi (.bin .gtr) (.un .len (.v 1)) (.c (.int .i64 1000))))
 (.ret [.e (.c (.bool true))])
 (.skip))
 (.seq (.st [.sets [(8,(.tup (.call 0 f_ref5_Read) (.cons (.v 0) .nil)))],
  .eff (some 3) none (.zbox [.nils,(.int .i64 0)] T_law5_ReadJoins_0),
  .sets [(2,(.un (.ext 0) (.v 8)))],
  .eff none none (.store 2 (.v 3) (.un (.ext 1) (.v 8)))])
 (.seq (.st [.sets [(9,(.tup (.call 0 f_ref5_Read) (.cons (.v 1) .nil)))],
  .eff (some 5) none (.zbox [.nils,(.int .i64 0)] T_law5_ReadJoins_0),
  .sets [(4,(.un (.ext 0) (.v 9)))],
  .eff none none (.store 2 (.v 5) (.un (.ext 1) (.v 9)))])
 (.seq (.seq (.st [.eff (some 10) none (.load none (.un (.off 1) (.v 3))),
  .eff (some 11) (some ((.bi (.bin .neq) (.v 10) (.c (.int .i64 0))),false)) (.load none (.un (.off 1) (.v 5)))])
 (.cond (.pick (.bi (.bin .neq) (.v 10) (.c (.int .i64 0))) (.c (.bool true)) (.bi (.bin .neq) (.v 11) (.c (.int .i64 0))))
 (.ret [.e (.c (.bool true))])
 (.skip)))
 (.seq (.st [.sets [(12,(.tup (.call 0 f_sexp_Read) (.cons (.un .tobytes (.bi (.bin .add) (.bi (.bin .add) (.un .tostr (.v 0)) (.c (.str [10]))) (.un .tostr (.v 1)))) .nil)))],
  .sets [(6,(.un (.ext 0) (.v 12)))]])
 (.seq (.cond (.pick (.bi (.eqs 1 true) (.un (.ext 1) (.v 12)) (.c .nili)) (.c (.bool true)) (.bi (.bin .neq) (.un .len (.v 6)) (.bi (.bin .add) (.un .len (.v 2)) (.un .len (.v 4)))))
 (.ret [.e (.c (.bool false))])
 (.skip))
 (.seq (.seq (.st [.sets [(7,(.c (.int .i64 0)))]])
 (.block 0 (.loop [true,false,true,false,true,false,true,true,false,false,false,false,false] b_law5_ReadJoins_0)))
 (.ret [.e (.c (.bool true))])))))))))⟩
noncomputable def r6:ERow:=⟨Tryz.f6,⟨[(16,(.cons 0 0 (.cons 0 1 (.cons 0 2 (.cons 0 3 (.cons 0 4 (.cons 0 5 (.cons 0 6 (.cons 0 7 (.cons 0 10 (.cons 0 11 (.cons 0 12 (.cons 1 8 (.cons 1 13 (.cons 2 9 (.cons 2 14 (.cons 0 15 (.cons 0 16 (.cons 0 17 (.cons 0 18 (.cons 0 19 (.cons 0 20 (.cons 0 21 (.cons 0 22 (.cons 0 23 (.cons 0 24 (.cons 0 25 (.cons 0 28 (.cons 0 29 (.cons 0 30 (.cons 0 31 (.cons 0 32 (.cons 0 33 (.cons 1 26 (.cons 1 34 (.cons 2 27 (.cons 2 35 (.cons 0 36 (.cons 0 37 (.cons 0 38 (.cons 0 39 (.cons 0 40 (.cons 0 41 (.cons 0 43 (.cons 0 44 (.cons 0 45 (.cons 0 46 (.cons 0 47 (.cons 0 48 (.cons 0 49 (.cons 0 51 (.cons 0 52 (.cons 1 42 (.cons 1 50 (.cons 0 53 (.cons 0 54 (.cons 0 55 (.cons 0 56 (.cons 0 57 (.cons 0 58 .nil))))))))))))))))))))))))))))))))))))))))))))))))))))))))))))],[(0,[true,false,false,false,false,true,false,true,false,false,true,false,true])],[],[],[],[]⟩,⟨130,[0,1,5,6,7,8,10,12,23,28,34,38,47],[79,84,97,105,113,121],[23,28,47]⟩,2,e_law5_ReadJoins⟩
def e_law5_known:EFunc:=⟨0,17,
 (.seq (.st [.eff (some 6) none (.bown 1 [(.int .u8 0)] 13 [0,1,2,3,4,5,6,7,8,9,10,11,12] (.cons (.c (.int .u8 40)) (.cons (.c (.int .u8 97)) (.cons (.c (.int .u8 32)) (.cons (.c (.int .u8 40)) (.cons (.c (.int .u8 98)) (.cons (.c (.int .u8 32)) (.cons (.c (.int .u8 126)) (.cons (.c (.int .u8 63)) (.cons (.c (.int .u8 120)) (.cons (.c (.int .u8 41)) (.cons (.c (.int .u8 41)) (.cons (.c (.int .u8 32)) (.cons (.c (.int .u8 53)) .nil)))))))))))))),
  .eff (some 7) none (.mark (.v 6)),
  .sets [(5,(.tup (.call 0 f_sexp_Read) (.cons (.v 7) .nil)))],
  .sets [(0,(.un (.ext 0) (.v 5)))]])
 (.seq (.cond (.pick (.bi (.eqs 1 true) (.un (.ext 1) (.v 5)) (.c .nili)) (.c (.bool true)) (.bi (.bin .neq) (.un .len (.v 0)) (.c (.int .i64 2))))
 (.ret [.e (.c (.bool false))])
 (.skip))
 (.seq (.st [.eff (some 9) none (.bown 1 [(.int .u8 0)] 2 [0,1] (.cons (.c (.int .u8 40)) (.cons (.c (.int .u8 97)) .nil))),
  .eff (some 10) none (.mark (.v 9)),
  .sets [(8,(.tup (.call 0 f_sexp_Read) (.cons (.v 10) .nil)))],
  .sets [(1,(.un (.ext 0) (.v 8))),(2,(.un (.ext 1) (.v 8)))]])
 (.seq (.st [.sets [(11,(.tup (.call 0 f_sexp_Value) (.cons (.un (.ld (some 5)) (.bi (.idx 5) (.v 0) (.c (.int .i64 1)))) .nil)))],
  .eff (some 3) none (.zbox [(.int .i64 0),(.int .i64 0),(.str [])] T_law5_known_0),
  .eff none none (.store 3 (.v 3) (.un (.ext 0) (.v 11))),
  .sets [(4,(.un (.ext 1) (.v 11)))]])
 (.seq (.st [.sets [(12,(.tup (.call 0 f_sexp_Text) (.cons (.un (.ld (some 5)) (.bi (.idx 5) (.v 0) (.c (.int .i64 0)))) .nil)))],
  .sets [(13,(.gd true (.bi (.bin .eql) (.v 12) (.c (.str [40,97,32,40,98,32,126,63,120,41,41]))) (.tup (.call 0 f_sexp_Head) (.cons (.un (.ld (some 5)) (.bi (.idx 5) (.v 0) (.c (.int .i64 0)))) .nil))))],
  .sets [(14,(.pick (.bi (.bin .eql) (.v 12) (.c (.str [40,97,32,40,98,32,126,63,120,41,41]))) (.bi (.bin .eql) (.v 13) (.c (.str [97]))) (.c (.bool false)))),(15,(.gd true (.pick (.bi (.bin .eql) (.v 12) (.c (.str [40,97,32,40,98,32,126,63,120,41,41]))) (.bi (.bin .eql) (.v 13) (.c (.str [97]))) (.c (.bool false))) (.tup (.call 0 f_sexp_Count) (.cons (.un (.ld (some 5)) (.bi (.idx 5) (.v 0) (.c (.int .i64 0)))) .nil))))],
  .eff (some 16) (some ((.pick (.v 14) (.bi (.bin .eql) (.v 15) (.c (.int .i64 6))) (.c (.bool false))),true)) (.load none (.un (.off 1) (.v 3)))])
 (.ret [.e (.pick (.pick (.pick (.pick (.pick (.pick (.pick (.pick (.v 14) (.bi (.bin .eql) (.v 15) (.c (.int .i64 6))) (.c (.bool false))) (.bi (.bin .eql) (.v 16) (.c (.int .i64 5))) (.c (.bool false))) (.v 4) (.c (.bool false))) (.bi (.bin .eql) (.tup (.call 0 f_sexp_Lines) (.cons (.v 0) .nil)) (.c (.str [40,97,32,40,98,32,126,63,120,41,41,10,53,10]))) (.c (.bool false))) (.bi (.bin .eql) (.tup (.call 0 f_sexp_Told) (.cons (.v 2) .nil)) (.c (.str [99,104,97,114,32,48,58,32,115,104,111,114,116]))) (.c (.bool false))) (.bi (.bin .eql) (.tup (.call 0 f_sexp_Number) (.cons (.v 2) .nil)) (.c (.int .i64 3))) (.c (.bool false))) (.bi (.bin .eql) (.tup (.call 0 f_sexp_Told) (.cons (.c .nili) .nil)) (.c (.str []))) (.c (.bool false))) (.tup (.call 0 f_sexp_Same) (.cons (.un (.ld (some 5)) (.bi (.idx 5) (.v 0) (.c (.int .i64 0)))) (.cons (.un (.ld (some 5)) (.bi (.idx 5) (.v 0) (.c (.int .i64 0)))) .nil))) (.c (.bool false)))]))))))⟩
noncomputable def r10:ERow:=⟨Tryz.f10,⟨[(6,(.cons 0 0 (.cons 0 1 (.cons 1 2 (.cons 2 3 (.cons 0 4 (.cons 0 5 (.cons 0 6 (.cons 0 7 (.cons 1 8 (.cons 2 9 (.cons 0 10 (.cons 0 11 (.cons 0 12 (.cons 0 13 (.cons 0 14 (.cons 1 15 (.cons 2 16 (.cons 0 17 (.cons 0 18 (.cons 0 19 (.cons 0 20 (.cons 1 21 (.cons 0 22 (.cons 0 23 (.cons 0 24 (.cons 0 25 (.cons 0 26 (.cons 0 27 (.cons 0 28 (.cons 2 29 (.cons 0 30 (.cons 0 31 (.cons 0 32 (.cons 0 33 (.cons 2 34 (.cons 0 35 (.cons 0 36 (.cons 0 37 (.cons 0 38 (.cons 2 39 (.cons 0 40 (.cons 0 41 (.cons 0 42 (.cons 2 43 (.cons 0 44 (.cons 0 45 (.cons 0 46 (.cons 0 47 (.cons 0 48 (.cons 0 50 (.cons 0 51 (.cons 1 49 (.cons 1 52 (.cons 2 53 (.cons 0 54 (.cons 0 55 .nil)))))))))))))))))))))))))))))))))))))))))))))))))))))))))],[],[],[],[],[]⟩,⟨88,[1,3,4,5,6,7,8,9,20,21,22,26,36,42,45,49,54],[29,35,41,48,82,85],[36,42,49,7,20,26]⟩,0,e_law5_known⟩
def b_sexp_Read_0:EC :=
 (.seq (.cond (.bi (.bin .lss) (.v 3) (.un .len (.v 1)))
 (.skip)
 (.exit 0))
 (.block 1 (.seq (.st [.eff (some 7) none (.calls [true,true,true,true,true,true,true,true,true,true,true,true,true,true,true,true] f_sexp_reader_step (.cons (.v 2) (.cons (.v 3) .nil))),
  .sets [(4,(.un (.ext 0) (.v 7)))]])
 (.seq (.cond (.bi (.eqs 1 true) (.un (.ext 1) (.v 7)) (.c .nili))
  (.ret [.e (.c .nils),.e (.un (.ext 1) (.v 7))])
  (.skip))
 (.st [.sets [(3,(.bi (.bin .add) (.v 3) (.v 4)))]])))))
def e_sexp_Read:EFunc:=⟨1,12,
 (.seq (.st [.sets [(5,(.tup (.call 0 f_lex_Scan) (.cons (.v 0) .nil)))],
  .sets [(1,(.un (.ext 0) (.v 5)))]])
 (.seq (.cond (.bi (.eqs 1 true) (.un (.ext 1) (.v 5)) (.c .nili))
 (.ret [.e (.c .nils),.e (.un (.ext 1) (.v 5))])
 (.skip))
 (.seq (.st [.eff (some 6) none (.box 4 T_sexp_Read_0 (.tup (.build [.nils,(.int .i64 0),.nils,.nils] [(0,1)]) (.cons (.v 1) .nil))),
  .sets [(2,(.v 6))]])
 (.seq (.seq (.st [.sets [(3,(.c (.int .i64 0)))]])
 (.block 0 (.loop [false,true,true,true,false,false,false,false,false,false,false,false] b_sexp_Read_0)))
 (.seq (.seq (.st [.eff (some 8) none (.load none (.un (.off 2) (.un .nilchk (.v 2))))])
 (.cond (.bi (.bin .gtr) (.un .len (.v 8)) (.c (.int .i64 0)))
 (.seq (.st [.eff (some 9) none (.load none (.un (.off 2) (.un .nilchk (.v 2)))),
  .eff (some 10) none (.load none (.un (.off 1) (.bi (.idx 5) (.v 9) (.bi (.bin .sub) (.un .len (.v 8)) (.c (.int .i64 1))))))])
 (.ret [.e (.c .nils),.e (.tup (.call 0 f_sexp_fault) (.cons (.v 10) (.cons (.c (.int .i64 3)) .nil)))]))
 (.skip)))
 (.seq (.st [.eff (some 11) none (.load none (.un (.off 3) (.un .nilchk (.v 2))))])
 (.ret [.e (.v 11),.e (.c .nili)])))))))⟩
noncomputable def r11:ERow:=⟨Tryz.f11,⟨[],[(0,[false,false,false,false,true,false,true,true])],[],[],[],[]⟩,⟨59,[0,4,6,7,8,11,21,29,41,48,53,58],[],[11]⟩,1,e_sexp_Read⟩
def b_ref5_Read_0:EC :=
 (.seq (.seq (.st [.eff (some 10) none (.load none (.un (.off 1) (.un .nilchk (.v 4))))])
 (.cond (.bi (.bin .lss) (.v 10) (.un .len (.v 2)))
 (.skip)
 (.exit 0)))
 (.block 1 (.seq (.st [.eff (some 11) none (.calls [true,true,true,true,true,true,true,true,true,true,true,true,true,true,true,true] f_ref5_reader_node (.cons (.v 4) (.cons (.c (.int .i64 0)) .nil))),
  .eff (some 6) none (.zbox [(.int .i64 0),(.int .i64 0),(.int .i64 0),(.str []),.nils] T_ref5_Read_0),
  .eff (some 7) none (.zbox [.nils,(.int .i64 0)] T_ref5_Read_1),
  .eff none none (.store 5 (.v 6) (.un (.ext 0) (.v 11))),
  .eff none none (.store 2 (.v 7) (.un (.ext 1) (.v 11)))])
 (.seq (.seq (.st [.eff (some 12) none (.load none (.un (.off 1) (.v 7)))])
 (.cond (.bi (.bin .neq) (.v 12) (.c (.int .i64 0)))
  (.seq (.st [.eff (some 13) none (.load (some 2) (.v 7)),
   .eff none none (.store 2 (.v 1) (.v 13))])
  (.ret [.e (.c .nils),.cell (.v 1) (some 2)]))
  (.skip)))
 (.st [.eff (some 14) none (.load (some 5) (.v 6)),
  .eff (some 15) none (.append 5 64 T_ref5_Read_0 (.v 5) (.tup (.bslice 5 [(.int .i64 0),(.int .i64 0),(.int .i64 0),(.str []),.nils] 1 [0]) (.cons (.v 14) .nil))),
  .sets [(5,(.v 15))]])))))
def e_ref5_Read:EFunc:=⟨1,16,
 (.seq (.st [.eff (some 1) none (.zbox [.nils,(.int .i64 0)] T_ref5_Read_1)])
 (.seq (.st [.sets [(8,(.tup (.call 0 f_ref4_Scan) (.cons (.v 0) .nil)))],
  .sets [(2,(.un (.ext 0) (.v 8))),(3,(.un (.ext 1) (.v 8)))]])
 (.seq (.cond (.bi (.bin .neq) (.un (.ext 2) (.v 8)) (.c (.int .i64 0)))
 (.seq (.st [.eff none none (.store 2 (.v 1) (.tup (.call 0 f_ref5_At) (.cons (.c (.str [99,104,97,114])) (.cons (.v 3) (.cons (.un (.ext 2) (.v 8)) .nil)))))])
 (.ret [.e (.c .nils),.cell (.v 1) (some 2)]))
 (.skip))
 (.seq (.st [.eff (some 9) none (.box 3 T_ref5_Read_2 (.tup (.build [.nils,(.int .i64 0),(.int .i64 0)] [(0,1)]) (.cons (.v 2) .nil))),
  .sets [(4,(.v 9))]])
 (.seq (.st [.sets [(5,(.c .nils))]])
 (.seq (.block 0 (.loop [false,true,true,false,true,true,false,false,false,false,false,false,false,false,false,false] b_ref5_Read_0))
 (.seq (.st [.eff none none (.store 2 (.v 1) (.tup (.build [.nils,(.int .i64 0)] []) .nil))])
 (.ret [.e (.v 5),.cell (.v 1) (some 2)]))))))))⟩
noncomputable def r12:ERow:=⟨Tryz.f12,⟨[(9,(.cons 0 1 (.cons 1 0 (.cons 3 2 .nil))))],[(0,[false,false,false,true,true,false,false,true,true])],[],[],[],[]⟩,⟨47,[0,3,4,5,7,8,9,10,11,24,28,34,38,40,42,44],[],[11]⟩,1,e_ref5_Read⟩
def e_sexp_Value:EFunc:=⟨1,8,
 (.seq (.st [.eff (some 1) none (.box 5 T_sexp_Value_0 (.v 0)),
  .eff (some 2) none (.zbox [(.int .i64 0),(.int .i64 0),(.str [])] T_sexp_Value_1)])
 (.seq (.seq (.st [.eff (some 3) none (.load none (.un (.off 0) (.v 1)))])
 (.block 0 (.seq (.seq (.st [.sets [(4,(.bi (.bin .eql) (.v 3) (.c (.int .i64 1))))]])
 (.cond (.v 4)
  (.skip)
  (.seq (.st [.sets [(4,(.bi (.bin .eql) (.v 3) (.c (.int .i64 2))))]])
  (.cond (.v 4)
  (.skip)
  (.st [.sets [(4,(.bi (.bin .eql) (.v 3) (.c (.int .i64 3))))]])))))
 (.cond (.v 4)
  (.seq (.st [.eff (some 5) none (.load none (.un (.off 0) (.v 1))),
   .eff (some 6) none (.load none (.un (.off 2) (.v 1))),
   .eff (some 7) none (.load none (.un (.off 3) (.v 1))),
   .eff none none (.store 3 (.v 2) (.tup (.build [(.int .i64 0),(.int .i64 0),(.str [])] [(0,1),(1,1),(2,1)]) (.cons (.v 5) (.cons (.v 6) (.cons (.v 7) .nil)))))])
  (.ret [.cell (.v 2) (some 3),.e (.c (.bool true))]))
  (.skip)))))
 (.seq (.st [.eff none none (.store 3 (.v 2) (.tup (.build [(.int .i64 0),(.int .i64 0),(.str [])] []) .nil))])
 (.ret [.cell (.v 2) (some 3),.e (.c (.bool false))]))))⟩
noncomputable def r14:ERow:=⟨Tryz.f14,⟨[],[],[],[],[],[]⟩,⟨18,[0,1,2,5,6,11,13,15],[],[]⟩,1,e_sexp_Value⟩
def e_law5_Places:EFunc:=⟨2,8,
 (.seq (.st [.eff (some 2) none (.box 5 T_law5_Places_0 (.v 0)),
  .eff (some 3) none (.box 5 T_law5_Places_0 (.v 1))])
 (.seq (.seq (.st [.eff (some 4) none (.load (some 5) (.v 2)),
  .eff (some 5) none (.load (some 5) (.v 3))])
 (.cond (.un .not (.tup (.call 0 f_ref5_Same) (.cons (.v 4) (.cons (.v 5) .nil))))
 (.ret [.e (.c (.bool false))])
 (.skip)))
 (.seq (.st [.eff (some 6) none (.load (some 5) (.v 2)),
  .eff (some 7) none (.load (some 5) (.v 3))])
 (.ret [.e (.tup (.call 0 f_law5_places) (.cons (.v 6) (.cons (.v 7) .nil)))]))))⟩
noncomputable def r16:ERow:=⟨Tryz.f16,⟨[],[],[],[],[],[]⟩,⟨12,[0,1,2,3,5,6,9,10],[],[]⟩,2,e_law5_Places⟩
def b_law5_Of_0:EC :=
 (.seq (.seq (.st [.eff (some 9) none (.load none (.un (.off 4) (.v 1)))])
 (.cond (.bi (.bin .lss) (.v 4) (.un .len (.v 9)))
 (.skip)
 (.exit 0)))
 (.seq (.block 1 (.st [.eff (some 10) none (.load none (.un (.off 4) (.v 3))),
  .eff (some 11) none (.load none (.un (.off 4) (.v 1))),
  .eff (some 12) none (.append 5 64 T_law5_Of_0 (.v 10) (.tup (.bslice 5 [(.int .i64 0),(.int .i64 0),(.int .i64 0),(.str []),.nils] 1 [0]) (.cons (.tup (.call 0 f_law5_Of) (.cons (.un (.ld (some 5)) (.bi (.idx 5) (.v 11) (.v 4))) .nil)) .nil))),
  .eff none none (.store 1 (.un (.off 4) (.v 3)) (.v 12))]))
 (.st [.sets [(4,(.bi (.bin .add) (.v 4) (.c (.int .i64 1))))]])))
def e_law5_Of:EFunc:=⟨1,14,
 (.seq (.st [.eff (some 1) none (.box 5 T_law5_Of_1 (.v 0)),
  .eff (some 2) none (.zbox [(.int .i64 0),(.int .i64 0),(.int .i64 0),(.str []),.nils] T_law5_Of_0)])
 (.seq (.st [.eff (some 5) none (.load none (.un (.off 0) (.v 1))),
  .eff (some 6) none (.load none (.un (.off 1) (.v 1))),
  .eff (some 7) none (.load none (.un (.off 2) (.v 1))),
  .eff (some 8) none (.load none (.un (.off 3) (.v 1))),
  .eff (some 3) none (.zbox [(.int .i64 0),(.int .i64 0),(.int .i64 0),(.str []),.nils] T_law5_Of_0),
  .eff none none (.store 5 (.v 3) (.tup (.build [(.int .i64 0),(.int .i64 0),(.int .i64 0),(.str []),.nils] [(0,1),(1,1),(2,1),(3,1)]) (.cons (.v 5) (.cons (.v 6) (.cons (.v 7) (.cons (.v 8) .nil))))))])
 (.seq (.seq (.st [.sets [(4,(.c (.int .i64 0)))]])
 (.block 0 (.loop [false,true,true,true,true,false,false,false,false,false,false,false,false,false] b_law5_Of_0)))
 (.seq (.st [.eff (some 13) none (.load (some 5) (.v 3)),
  .eff none none (.store 5 (.v 2) (.v 13))])
 (.ret [.cell (.v 2) (some 5)])))))⟩
noncomputable def r17:ERow:=⟨Tryz.f17,⟨[(5,(.cons 0 0 (.cons 0 2 (.cons 0 4 (.cons 1 1 (.cons 1 3 (.cons 0 5 (.cons 1 6 (.cons 2 7 (.cons 2 8 (.cons 2 9 (.cons 0 10 (.cons 3 11 .nil)))))))))))))],[(0,[false,true,true,true,true])],[],[],[],[]⟩,⟨33,[0,1,2,3,4,6,8,10,12,16,22,24,30,32],[27],[]⟩,1,e_law5_Of⟩
def b_sexp_Text_0:EC :=
 (.seq (.cond (.bi (.bin .lss) (.v 9) (.v 8))
 (.skip)
 (.exit 1))
 (.seq (.block 2 (.seq (.st [.eff (some 3) none (.zbox [(.int .i64 0),(.int .i64 0),(.int .i64 0),(.str []),.nils] T_sexp_Text_1),
  .eff none none (.store 5 (.v 3) (.un (.ld (some 5)) (.bi (.idx 5) (.v 7) (.v 9))))])
 (.st [.eff (some 10) none (.load (some 5) (.v 3)),
  .eff (some 11) none (.append 1 16 T_sexp_Text_0 (.v 2) (.tup (.bslice 1 [(.str [])] 1 [0]) (.cons (.tup (.call 0 f_sexp_Text) (.cons (.v 10) .nil)) .nil))),
  .sets [(2,(.v 11))]])))
 (.st [.sets [(9,(.bi (.bin .add) (.v 9) (.c (.int .i64 1))))]])))
def b_sexp_Text_1:EC :=
 (.seq (.cond (.bi (.bin .lss) (.v 14) (.v 13))
 (.skip)
 (.exit 3))
 (.seq (.block 4 (.seq (.st [.eff (some 5) none (.zbox [(.int .i64 0),(.int .i64 0),(.int .i64 0),(.str []),.nils] T_sexp_Text_1),
  .eff none none (.store 5 (.v 5) (.un (.ld (some 5)) (.bi (.idx 5) (.v 12) (.v 14))))])
 (.st [.eff (some 15) none (.load (some 5) (.v 5)),
  .sets [(4,(.bi (.bin .add) (.v 4) (.tup (.call 0 f_sexp_Text) (.cons (.v 15) .nil))))]])))
 (.st [.sets [(14,(.bi (.bin .add) (.v 14) (.c (.int .i64 1))))]])))
def e_sexp_Text:EFunc:=⟨1,19,
 (.seq (.st [.eff (some 1) none (.box 5 T_sexp_Text_1 (.v 0))])
 (.seq (.seq (.st [.eff (some 6) none (.load none (.un (.off 0) (.v 1)))])
 (.block 0 (.cond (.bi (.bin .eql) (.v 6) (.c (.int .i64 0)))
  (.seq (.st [.sets [(2,(.c .nils))]])
  (.seq (.seq (.st [.eff (some 7) none (.load none (.un (.off 4) (.v 1))),
   .sets [(8,(.un .len (.v 7))),(9,(.c (.int .i64 0)))]])
  (.block 1 (.loop [false,false,true,false,false,false,false,true,true,true,false,false,false,false,false,false,false,false,false] b_sexp_Text_0)))
  (.ret [.e (.bi (.bin .add) (.bi (.bin .add) (.c (.str [40])) (.tup (.call 0 f_strings_Join) (.cons (.v 2) (.cons (.c (.str [32])) .nil)))) (.c (.str [41])))])))
  (.cond (.bi (.bin .eql) (.v 6) (.c (.int .i64 8)))
  (.seq (.st [.sets [(4,(.c (.str [126])))]])
  (.seq (.seq (.st [.eff (some 12) none (.load none (.un (.off 4) (.v 1))),
   .sets [(13,(.un .len (.v 12))),(14,(.c (.int .i64 0)))]])
  (.block 3 (.loop [false,false,false,false,true,false,false,false,false,false,false,false,true,true,true,false,false,false,false] b_sexp_Text_1)))
  (.ret [.e (.v 4)])))
  (.skip)))))
 (.seq (.st [.eff (some 16) none (.load none (.un (.off 0) (.v 1))),
  .eff (some 17) none (.load none (.un (.off 2) (.v 1))),
  .eff (some 18) none (.load none (.un (.off 3) (.v 1)))])
 (.ret [.e (.tup (.call 0 f_lex_Text) (.cons (.tup (.build [(.int .i64 0),(.int .i64 0),(.int .i64 0),(.str [])] [(0,1),(2,1),(3,1)]) (.cons (.v 16) (.cons (.v 17) (.cons (.v 18) .nil)))) .nil))]))))⟩
noncomputable def r18:ERow:=⟨Tryz.f18,⟨[],[(1,[false,false,false,true,false,false,false,false,false,false,false,false,false,false,true,true,true]),(3,[false,false,false,false,false,false,true,false,false,false,false,false,false,false,false,false,false,false,false,false,false,false,false,false,false,false,false,false,false,false,false,false,false,true,true,true])],[],[],[],[]⟩,⟨53,[0,1,3,5,6,8,10,14,15,16,21,24,33,34,35,40,46,48,50],[19,38],[]⟩,1,e_sexp_Text⟩
def b_sexp_Count_0:EC :=
 (.seq (.cond (.bi (.bin .lss) (.v 6) (.v 5))
 (.skip)
 (.exit 0))
 (.seq (.block 1 (.seq (.st [.eff (some 3) none (.zbox [(.int .i64 0),(.int .i64 0),(.int .i64 0),(.str []),.nils] T_sexp_Count_0),
  .eff none none (.store 5 (.v 3) (.un (.ld (some 5)) (.bi (.idx 5) (.v 4) (.v 6))))])
 (.st [.eff (some 7) none (.load (some 5) (.v 3)),
  .sets [(2,(.bi (.bin .add) (.v 2) (.tup (.call 0 f_sexp_Count) (.cons (.v 7) .nil))))]])))
 (.st [.sets [(6,(.bi (.bin .add) (.v 6) (.c (.int .i64 1))))]])))
def e_sexp_Count:EFunc:=⟨1,8,
 (.seq (.st [.eff (some 1) none (.box 5 T_sexp_Count_0 (.v 0))])
 (.seq (.st [.sets [(2,(.c (.int .i64 1)))]])
 (.seq (.seq (.st [.eff (some 4) none (.load none (.un (.off 4) (.v 1))),
  .sets [(5,(.un .len (.v 4))),(6,(.c (.int .i64 0)))]])
 (.block 0 (.loop [false,false,true,false,true,true,true,false] b_sexp_Count_0)))
 (.ret [.e (.v 2)]))))⟩
noncomputable def r20:ERow:=⟨Tryz.f20,⟨[],[(0,[false,false,false,true,false,false,false,true,true,true])],[],[],[],[]⟩,⟨19,[0,1,3,5,7,8,9,14],[12],[]⟩,1,e_sexp_Count⟩
def e_sexp_Head:EFunc:=⟨1,6,
 (.seq (.st [.eff (some 1) none (.box 5 T_sexp_Head_0 (.v 0))])
 (.seq (.seq (.st [.eff (some 2) none (.load none (.un (.off 0) (.v 1))),
  .eff (some 3) (some ((.bi (.bin .neq) (.v 2) (.c (.int .i64 0))),false)) (.load none (.un (.off 4) (.v 1))),
  .eff (some 4) (some ((.pick (.bi (.bin .neq) (.v 2) (.c (.int .i64 0))) (.c (.bool true)) (.bi (.bin .eql) (.un .len (.v 3)) (.c (.int .i64 0)))),false)) (.load none (.un (.off 4) (.v 1)))])
 (.cond (.pick (.pick (.bi (.bin .neq) (.v 2) (.c (.int .i64 0))) (.c (.bool true)) (.bi (.bin .eql) (.un .len (.v 3)) (.c (.int .i64 0)))) (.c (.bool true)) (.bi (.bin .neq) (.un (.ld none) (.un (.off 0) (.bi (.idx 5) (.v 4) (.c (.int .i64 0))))) (.c (.int .i64 2))))
 (.ret [.e (.c (.str []))])
 (.skip)))
 (.seq (.st [.eff (some 5) none (.load none (.un (.off 4) (.v 1)))])
 (.ret [.e (.un (.ld none) (.un (.off 3) (.bi (.idx 5) (.v 5) (.c (.int .i64 0)))))]))))⟩
noncomputable def r22:ERow:=⟨Tryz.f22,⟨[],[],[],[],[],[]⟩,⟨25,[0,1,4,8,14,21],[17,24],[]⟩,1,e_sexp_Head⟩
def b_sexp_Lines_0:EC :=
 (.seq (.cond (.bi (.bin .lss) (.v 5) (.v 4))
 (.skip)
 (.exit 0))
 (.seq (.block 1 (.seq (.st [.eff (some 2) none (.zbox [(.int .i64 0),(.int .i64 0),(.int .i64 0),(.str []),.nils] T_sexp_Lines_0),
  .eff none none (.store 5 (.v 2) (.un (.ld (some 5)) (.bi (.idx 5) (.v 3) (.v 5))))])
 (.st [.eff (some 6) none (.load (some 5) (.v 2)),
  .eff none none (.calls [true,true,true,true,true,true,true,true,true,true,true,true,true,true,true,true] f_strings_Builder_WriteString (.cons (.v 1) (.cons (.bi (.bin .add) (.tup (.call 0 f_sexp_Text) (.cons (.v 6) .nil)) (.c (.str [10]))) .nil)))])))
 (.st [.sets [(5,(.bi (.bin .add) (.v 5) (.c (.int .i64 1))))]])))
def e_sexp_Lines:EFunc:=⟨1,8,
 (.seq (.st [.eff (some 1) none (.zbox [.nilp,.nils] T_bld)])
 (.seq (.seq (.st [.sets [(3,(.v 0)),(4,(.un .len (.v 0))),(5,(.c (.int .i64 0)))]])
 (.block 0 (.loop [false,true,false,true,true,true,false,false] b_sexp_Lines_0)))
 (.seq (.st [.eff (some 7) none (.calls [true,true,true,true,true,true,true,true,true,true,true,true,true,true,true,true] f_strings_Builder_String (.cons (.v 1) .nil))])
 (.ret [.e (.v 7)]))))⟩
noncomputable def r24:ERow:=⟨Tryz.f24,⟨[],[(0,[false,false,false,true,false,false,true,true,true])],[],[],[],[]⟩,⟨18,[0,3,5,6,7,8,12,17],[11],[]⟩,1,e_sexp_Lines⟩
def e_sexp_Same:EFunc:=⟨2,17,
 (.seq (.st [.eff (some 2) none (.box 5 T_sexp_Same_0 (.v 0)),
  .eff (some 3) none (.box 5 T_sexp_Same_0 (.v 1))])
 (.seq (.st [.eff (some 4) none (.load none (.un (.off 0) (.v 2))),
  .eff (some 5) none (.load none (.un (.off 0) (.v 3))),
  .eff (some 6) (some ((.bi (.bin .eql) (.v 4) (.v 5)),true)) (.load none (.un (.off 2) (.v 2))),
  .eff (some 7) (some ((.bi (.bin .eql) (.v 4) (.v 5)),true)) (.load none (.un (.off 2) (.v 3))),
  .sets [(8,(.pick (.bi (.bin .eql) (.v 4) (.v 5)) (.bi (.bin .eql) (.v 6) (.v 7)) (.c (.bool false)))),(9,(.gd true (.pick (.bi (.bin .eql) (.v 4) (.v 5)) (.bi (.bin .eql) (.v 6) (.v 7)) (.c (.bool false))) (.un (.off 3) (.v 2))))],
  .eff (some 10) (some ((.v 8),true)) (.load none (.v 9)),
  .eff (some 11) (some ((.v 8),true)) (.load none (.un (.off 3) (.v 3))),
  .sets [(12,(.pick (.v 8) (.bi (.bin .eql) (.v 10) (.v 11)) (.c (.bool false)))),(13,(.gd true (.pick (.v 8) (.bi (.bin .eql) (.v 10) (.v 11)) (.c (.bool false))) (.un (.off 4) (.v 2))))],
  .eff (some 14) (some ((.v 12),true)) (.load none (.v 13)),
  .eff (some 15) (some ((.v 12),true)) (.load none (.un (.off 4) (.v 3))),
  .eff (some 16) (some ((.v 12),true)) (.calls [false,false,true,true,true,true,true,true,true,true,true,true,true,true,true,true] f_slices_EqualFunc_sexp_Node_sexp_Node_sexp_Node_sexp_Node (.cons (.v 14) (.cons (.v 15) (.cons (.c (.func f_sexp_Same [])) .nil))))])
 (.ret [.e (.pick (.v 12) (.v 16) (.c (.bool false)))])))⟩
noncomputable def r25:ERow:=⟨Tryz.f25,⟨[],[],[],[],[],[]⟩,⟨31,[0,1,2,3,6,8,12,14,17,18,19,21,24,25,26,28,29],[],[]⟩,2,e_sexp_Same⟩
def b_ref5_Same_0:EC :=
 (.seq (.seq (.st [.eff (some 17) none (.load none (.un (.off 4) (.v 2)))])
 (.cond (.bi (.bin .lss) (.v 4) (.un .len (.v 17)))
 (.skip)
 (.exit 0)))
 (.seq (.block 1 (.seq (.st [.eff (some 18) none (.load none (.un (.off 4) (.v 2))),
  .eff (some 19) none (.load none (.un (.off 4) (.v 3)))])
 (.cond (.un .not (.tup (.call 0 f_ref5_Same) (.cons (.un (.ld (some 5)) (.bi (.idx 5) (.v 18) (.v 4))) (.cons (.un (.ld (some 5)) (.bi (.idx 5) (.v 19) (.v 4))) .nil))))
  (.ret [.e (.c (.bool false))])
  (.skip))))
 (.st [.sets [(4,(.bi (.bin .add) (.v 4) (.c (.int .i64 1))))]])))
def e_ref5_Same:EFunc:=⟨2,20,
 (.seq (.st [.eff (some 2) none (.box 5 T_ref5_Same_0 (.v 0)),
  .eff (some 3) none (.box 5 T_ref5_Same_0 (.v 1))])
 (.seq (.seq (.st [.eff (some 5) none (.load none (.un (.off 0) (.v 2))),
  .eff (some 6) none (.load none (.un (.off 0) (.v 3))),
  .eff (some 7) (some ((.bi (.bin .neq) (.v 5) (.v 6)),false)) (.load none (.un (.off 2) (.v 2))),
  .eff (some 8) (some ((.bi (.bin .neq) (.v 5) (.v 6)),false)) (.load none (.un (.off 2) (.v 3))),
  .sets [(9,(.pick (.bi (.bin .neq) (.v 5) (.v 6)) (.c (.bool true)) (.bi (.bin .neq) (.v 7) (.v 8)))),(10,(.gd false (.pick (.bi (.bin .neq) (.v 5) (.v 6)) (.c (.bool true)) (.bi (.bin .neq) (.v 7) (.v 8))) (.un (.off 3) (.v 2))))],
  .eff (some 11) (some ((.v 9),false)) (.load none (.v 10)),
  .eff (some 12) (some ((.v 9),false)) (.load none (.un (.off 3) (.v 3))),
  .sets [(13,(.pick (.v 9) (.c (.bool true)) (.bi (.bin .neq) (.v 11) (.v 12)))),(14,(.gd false (.pick (.v 9) (.c (.bool true)) (.bi (.bin .neq) (.v 11) (.v 12))) (.un (.off 4) (.v 2))))],
  .eff (some 15) (some ((.v 13),false)) (.load none (.v 14)),
  .eff (some 16) (some ((.v 13),false)) (.load none (.un (.off 4) (.v 3)))])
 (.cond (.pick (.v 13) (.c (.bool true)) (.bi (.bin .neq) (.un .len (.v 15)) (.un .len (.v 16))))
 (.ret [.e (.c (.bool false))])
 (.skip)))
 (.seq (.seq (.st [.sets [(4,(.c (.int .i64 0)))]])
 (.block 0 (.loop [false,false,true,true,true,false,false,false,false,false,false,false,false,false,false,false,false,false,false,false] b_ref5_Same_0)))
 (.ret [.e (.c (.bool true))]))))⟩
noncomputable def r26:ERow:=⟨Tryz.f26,⟨[(6,(.cons 0 0 (.cons 0 2 (.cons 0 5 (.cons 0 7 (.cons 1 1 (.cons 0 3 (.cons 1 4 (.cons 1 6 (.cons 0 8 (.cons 1 9 (.cons 2 10 (.cons 0 11 .nil)))))))))))))],[(0,[false,false,true,true,false,true])],[],[],[],[]⟩,⟨53,[0,1,2,3,5,7,9,13,15,18,19,20,22,25,26,27,30,36,42,47],[45,50],[]⟩,2,e_ref5_Same⟩
def e_ref5_At:EFunc:=⟨3,4,
 (.seq (.st [.eff (some 3) none (.zbox [.nils,(.int .i64 0)] T_ref5_At_0)])
 (.seq (.st [.eff none none (.store 2 (.v 3) (.tup (.build [.nils,(.int .i64 0)] [(0,1),(1,1)]) (.cons (.tup (.bslice 2 [(.str []),(.int .i64 0)] 1 [0]) (.cons (.tup (.build [(.str []),(.int .i64 0)] [(0,1),(1,1)]) (.cons (.v 0) (.cons (.v 1) .nil))) .nil)) (.cons (.v 2) .nil))))])
 (.ret [.cell (.v 3) (some 2)])))⟩
noncomputable def r27:ERow:=⟨Tryz.f27,⟨[],[],[],[],[],[]⟩,⟨13,[0,1,2,6],[],[]⟩,3,e_ref5_At⟩
def b_sexp_Told_0:EC :=
 (.seq (.cond (.bi (.eqs 1 true) (.v 0) (.c .nili))
 (.skip)
 (.exit 0))
 (.block 1 (.seq (.st [.eff (some 2) none (.zbox [.nilp] T_sexp_Told_0)])
 (.seq (.seq (.st [.eff (some 3) none (.calls [true,true,true,true,true,true,true,true,true,true,true,true,true,true,true,true] f_errors_As (.cons (.v 0) (.cons (.un (.iface T_sexp_Told_1) (.v 2)) .nil)))])
 (.cond (.un .not (.v 3))
  (.ret [.e (.bi (.bin .add) (.v 1) (.tup (.call 0 f_sexp_last) (.cons (.v 0) .nil)))])
  (.skip)))
 (.seq (.st [.eff (some 4) none (.load none (.v 2)),
  .eff (some 5) none (.load none (.un (.off 0) (.un .nilchk (.v 4)))),
  .eff (some 6) none (.load none (.v 2)),
  .eff (some 7) none (.load none (.un (.off 1) (.un .nilchk (.v 6)))),
  .sets [(1,(.bi (.bin .add) (.v 1) (.bi (.bin .add) (.bi (.bin .add) (.v 5) (.c (.str [32]))) (.tup (.call 0 f_strconv_Itoa) (.cons (.v 7) .nil)))))]])
 (.seq (.st [.eff (some 8) none (.load none (.v 2)),
  .eff (some 9) none (.load none (.un (.off 2) (.un .nilchk (.v 8)))),
  .sets [(0,(.v 9))]])
 (.cond (.bi (.eqs 1 true) (.v 0) (.c .nili))
  (.st [.sets [(1,(.bi (.bin .add) (.v 1) (.c (.str [58,32]))))]])
  (.skip))))))))
def e_sexp_Told:EFunc:=⟨1,10,
 (.seq (.st [.sets [(1,(.c (.str [])))]])
 (.seq (.block 0 (.loop [true,true,false,false,false,false,false,false,false,false] b_sexp_Told_0))
 (.ret [.e (.v 1)])))⟩
noncomputable def r29:ERow:=⟨Tryz.f29,⟨[(6,(.cons 0 0 (.cons 1 1 (.cons 0 2 (.cons 0 3 (.cons 1 4 (.cons 0 5 (.cons 1 6 (.cons 0 7 (.cons 0 8 (.cons 1 9 (.cons 2 10 (.cons 0 11 (.cons 0 12 (.cons 0 13 .nil)))))))))))))))],[(0,[true,false,false,true])],[],[],[],[]⟩,⟨37,[0,3,4,9,16,19,21,24,28,31],[],[]⟩,1,e_sexp_Told⟩
def b_sexp_Number_0:EC :=
 (.seq (.cond (.bi (.bin .leq) (.v 1) (.c (.int .i64 11)))
 (.skip)
 (.exit 0))
 (.seq (.block 1 (.cond (.tup (.call 0 f_errors_Is) (.cons (.v 0) (.cons (.un (.iface T_sexp_Number_0) (.v 1)) .nil)))
  (.ret [.e (.v 1)])
  (.skip)))
 (.st [.sets [(1,(.bi (.bin .add) (.v 1) (.c (.int .i64 1))))]])))
def e_sexp_Number:EFunc:=⟨1,4,
 (.seq (.cond (.bi (.eqs 1 false) (.v 0) (.c .nili))
 (.ret [.e (.c (.int .i64 0))])
 (.skip))
 (.seq (.seq (.st [.sets [(1,(.c (.int .i64 1)))]])
 (.block 0 (.loop [true,true,false,false] b_sexp_Number_0)))
 (.seq (.st [.eff (some 2) none (.zbox [(.int .i64 0)] T_sexp_Number_0),
  .eff none none (.store 1 (.v 2) (.c (.int .i64 2)))])
 (.seq (.st [.eff none none (.calls [true,true,true,true,true,true,true,true,true,true,true,true,true,true,true,true] f_errors_As (.cons (.v 0) (.cons (.un (.iface T_sexp_Number_1) (.v 2)) .nil)))])
 (.seq (.st [.eff (some 3) none (.load none (.v 2))])
 (.ret [.e (.v 3)]))))))⟩
noncomputable def r31:ERow:=⟨Tryz.f31,⟨[],[(0,[true,false,false,true])],[],[],[],[]⟩,⟨20,[0,3,4,19],[],[]⟩,1,e_sexp_Number⟩
def b_lex_Scan_0:EC :=
 (.seq (.seq (.st [.eff (some 5) none (.load none (.un (.off 1) (.un .nilchk (.v 1))))])
 (.cond (.bi (.bin .lss) (.v 5) (.un .len (.v 0)))
 (.skip)
 (.exit 0)))
 (.seq (.block 1 (.seq (.st [.eff (some 6) none (.load none (.un (.off 1) (.un .nilchk (.v 1))))])
 (.seq (.st [.eff (some 7) none (.calls [true,true,true,true,true,true,true,true,true,true,true,true,true,true,true,true] f_lex_scanner_token (.cons (.v 1) .nil)),
  .eff (some 3) none (.zbox [(.int .i64 0),(.int .i64 0),(.int .i64 0),(.str [])] T_lex_Scan_0),
  .eff none none (.store 4 (.v 3) (.un (.ext 0) (.v 7)))])
 (.seq (.cond (.bi (.bin .neq) (.un (.ext 1) (.v 7)) (.c (.int .i64 0)))
  (.ret [.e (.c .nils),.e (.tup (.call 0 f_lex_fault) (.cons (.v 6) (.cons (.un (.ext 1) (.v 7)) .nil)))])
  (.skip))
 (.seq (.st [.eff none none (.store 1 (.un (.off 1) (.v 3)) (.v 6))])
 (.st [.eff (some 8) none (.load (some 4) (.v 3)),
  .eff (some 9) none (.append 4 40 T_lex_Scan_0 (.v 2) (.tup (.bslice 4 [(.int .i64 0),(.int .i64 0),(.int .i64 0),(.str [])] 1 [0]) (.cons (.v 8) .nil))),
  .sets [(2,(.v 9))]]))))))
 (.st [.eff none none (.calls [true,true,true,true,true,true,true,true,true,true,true,true,true,true,true,true] f_lex_scanner_skip (.cons (.v 1) .nil))])))
def e_lex_Scan:EFunc:=⟨1,10,
 (.seq (.cond (.bi (.bin .gtr) (.un .len (.v 0)) (.c (.int .i64 65536)))
 (.ret [.e (.c .nils),.e (.tup (.call 0 f_lex_fault) (.cons (.c (.int .i64 0)) (.cons (.c (.int .i64 4)) .nil)))])
 (.skip))
 (.seq (.st [.eff (some 4) none (.box 2 T_lex_Scan_1 (.tup (.build [.nils,(.int .i64 0)] [(0,1)]) (.cons (.v 0) .nil))),
  .sets [(1,(.v 4))]])
 (.seq (.st [.sets [(2,(.c .nils))]])
 (.seq (.seq (.st [.eff none none (.calls [true,true,true,true,true,true,true,true,true,true,true,true,true,true,true,true] f_lex_scanner_skip (.cons (.v 1) .nil))])
 (.block 0 (.loop [true,true,true,false,false,false,false,false,false,false] b_lex_Scan_0)))
 (.ret [.e (.v 2),.e (.c .nili)])))))⟩
noncomputable def r32:ERow:=⟨Tryz.f32,⟨[],[(0,[true,false,false,false,true,true])],[],[],[],[]⟩,⟨48,[0,4,5,7,15,21,30,33,44,46],[],[]⟩,1,e_lex_Scan⟩
def e_sexp_reader_step:EFunc:=⟨2,25,
 (.seq (.st [.eff (some 4) none (.load none (.un (.off 0) (.un .nilchk (.v 0)))),
  .eff (some 5) none (.load (some 4) (.bi (.idx 4) (.v 4) (.v 1))),
  .eff (some 2) none (.zbox [(.int .i64 0),(.int .i64 0),(.int .i64 0),(.str [])] T_sexp_reader_step_1),
  .eff none none (.store 4 (.v 2) (.v 5))])
 (.seq (.seq (.st [.eff (some 6) none (.load none (.un (.off 0) (.v 2)))])
 (.block 0 (.cond (.bi (.bin .eql) (.v 6) (.c (.int .i64 8)))
  (.seq (.st [.eff (some 10) none (.load (some 4) (.v 2)),
   .eff (some 11) none (.calls [true,true,true,true,true,true,true,true,true,true,true,true,true,true,true,true] f_sexp_reader_not (.cons (.v 0) (.cons (.v 10) (.cons (.v 1) .nil))))])
  (.ret [.e (.c (.int .i64 2)),.e (.v 11)]))
  (.cond (.bi (.bin .eql) (.v 6) (.c (.int .i64 4)))
  (.seq (.seq (.st [.eff (some 12) none (.load none (.un (.off 2) (.un .nilchk (.v 0))))])
  (.cond (.bi (.bin .geq) (.un .len (.v 12)) (.c (.int .i64 32)))
   (.seq (.st [.eff (some 13) none (.load none (.un (.off 1) (.v 2)))])
   (.ret [.e (.c (.int .i64 0)),.e (.tup (.call 0 f_sexp_fault) (.cons (.v 13) (.cons (.c (.int .i64 4)) .nil)))]))
   (.skip)))
  (.seq (.seq (.st [.eff (some 14) none (.load (some 4) (.v 2)),
   .eff (some 15) none (.calls [true,true,true,true,true,true,true,true,true,true,true,true,true,true,true,true] f_sexp_reader_count (.cons (.v 0) (.cons (.v 14) .nil)))])
  (.cond (.bi (.eqs 1 true) (.v 15) (.c .nili))
   (.ret [.e (.c (.int .i64 0)),.e (.v 15)])
   (.skip)))
  (.st [.eff (some 16) none (.load none (.un (.off 2) (.un .nilchk (.v 0)))),
   .eff (some 17) none (.load none (.un (.off 1) (.v 2))),
   .eff (some 18) none (.happend 5 64 T_sexp_reader_step_0 (.v 16) (.tup (.bslice 5 [(.int .i64 0),(.int .i64 0),(.int .i64 0),(.str []),.nils] 1 [0]) (.cons (.c (.agg [(.int .i64 0),(.int .i64 0),(.int .i64 0),(.str []),.nils])) .nil))),
   .swap (.store 5 (.bi (.idx 5) (.v 18) (.un .len (.v 16))) (.tup (.build [(.int .i64 0),(.int .i64 0),(.int .i64 0),(.str []),.nils] [(0,1),(1,1)]) (.cons (.c (.int .i64 0)) (.cons (.v 17) .nil)))) (.store 1 (.un (.off 2) (.un .nilchk (.v 0))) (.v 18))])))
  (.cond (.bi (.bin .eql) (.v 6) (.c (.int .i64 5)))
   (.seq (.st [.eff (some 19) none (.load none (.un (.off 2) (.un .nilchk (.v 0))))])
   (.seq (.cond (.bi (.bin .lss) (.bi (.bin .sub) (.un .len (.v 19)) (.c (.int .i64 1))) (.c (.int .i64 0)))
   (.seq (.st [.eff (some 20) none (.load none (.un (.off 1) (.v 2)))])
   (.ret [.e (.c (.int .i64 0)),.e (.tup (.call 0 f_sexp_fault) (.cons (.v 20) (.cons (.c (.int .i64 2)) .nil)))]))
   (.skip))
   (.seq (.st [.eff (some 21) none (.load none (.un (.off 2) (.un .nilchk (.v 0)))),
    .eff (some 22) none (.load (some 5) (.bi (.idx 5) (.v 21) (.bi (.bin .sub) (.un .len (.v 19)) (.c (.int .i64 1))))),
    .eff (some 3) none (.zbox [(.int .i64 0),(.int .i64 0),(.int .i64 0),(.str []),.nils] T_sexp_reader_step_0),
    .eff none none (.store 5 (.v 3) (.v 22))])
   (.seq (.st [.eff (some 23) none (.load none (.un (.off 2) (.un .nilchk (.v 0)))),
    .eff none none (.store 1 (.un (.off 2) (.un .nilchk (.v 0))) (.lsub 5 false true false (.v 23) (.c .undef) (.bi (.bin .sub) (.un .len (.v 19)) (.c (.int .i64 1))) (.c .undef)))])
   (.st [.eff (some 24) none (.load (some 5) (.v 3)),
    .eff none none (.calls [true,true,true,true,true,true,true,true,true,true,true,true,true,true,true,true] f_sexp_reader_put (.cons (.v 0) (.cons (.v 24) .nil)))])))))
   (.seq (.seq (.st [.eff (some 7) none (.load (some 4) (.v 2)),
    .eff (some 8) none (.calls [true,true,true,true,true,true,true,true,true,true,true,true,true,true,true,true] f_sexp_reader_count (.cons (.v 0) (.cons (.v 7) .nil)))])
   (.cond (.bi (.eqs 1 true) (.v 8) (.c .nili))
   (.ret [.e (.c (.int .i64 0)),.e (.v 8)])
   (.skip)))
   (.st [.eff (some 9) none (.load (some 4) (.v 2)),
    .eff none none (.calls [true,true,true,true,true,true,true,true,true,true,true,true,true,true,true,true] f_sexp_reader_put (.cons (.v 0) (.cons (.tup (.call 0 f_sexp_leaf) (.cons (.v 9) .nil)) .nil)))])))))))
 (.ret [.e (.c (.int .i64 1)),.e (.c .nili)])))⟩
noncomputable def r33:ERow:=⟨Tryz.f33,⟨[(15,(.cons 0 0 (.cons 0 1 (.cons 0 2 (.cons 0 4 (.cons 1 3 (.cons 0 7 (.cons 1 5 (.cons 0 6 (.cons 2 8 (.cons 3 9 (.cons 0 10 (.cons 0 12 (.cons 0 13 (.alt (.cons 3 11 (.cons 3 14 .nil)) (.cons 3 14 (.cons 3 11 .nil)))))))))))))))))],[],[41],[],[],[]⟩,⟨98,[0,1,6,9,14,17,19,21,22,27,33,35,41,45,48,49,56,58,62,71,77,82,85,90,96],[],[]⟩,2,e_sexp_reader_step⟩
def e_sexp_fault:EFunc:=⟨2,3,
 (.seq (.st [.eff (some 2) none (.box 3 T_sexp_fault_0 (.tup (.build [(.str []),(.int .i64 0),.nili] [(0,1),(1,1),(2,1)]) (.cons (.c (.str [99,104,97,114])) (.cons (.v 0) (.cons (.un (.iface T_sexp_fault_1) (.v 1)) .nil)))))])
 (.ret [.e (.un (.iface T_sexp_fault_2) (.v 2))]))⟩
noncomputable def r34:ERow:=⟨Tryz.f34,⟨[],[],[],[],[],[]⟩,⟨11,[0,1,9],[],[]⟩,2,e_sexp_fault⟩
def b_ref4_Scan_0:EC :=
 (.seq (.cond (.pick (.bi (.bin .lss) (.v 2) (.un .len (.v 0))) (.bi (.bin .neq) (.un (.ld none) (.bi (.idx 1) (.v 0) (.v 2))) (.c (.int .u8 10))) (.c (.bool false)))
 (.skip)
 (.exit 2))
 (.block 3 (.st [.sets [(2,(.bi (.bin .add) (.v 2) (.c (.int .i64 1))))]])))
def b_ref4_Scan_1:EC :=
 (.seq (.cond (.bi (.bin .lss) (.v 2) (.un .len (.v 0)))
 (.skip)
 (.exit 0))
 (.block 1 (.seq (.cond (.tup (.call 0 f_ref4_blank) (.cons (.un (.ld none) (.bi (.idx 1) (.v 0) (.v 2))) .nil))
  (.seq (.st [.sets [(2,(.bi (.bin .add) (.v 2) (.c (.int .i64 1))))]])
  (.exit 1))
  (.skip))
 (.seq (.cond (.bi (.bin .eql) (.un (.ld none) (.bi (.idx 1) (.v 0) (.v 2))) (.c (.int .u8 59)))
  (.seq (.block 2 (.loop [true,true,true,false,false,false,false,false] b_ref4_Scan_0))
  (.exit 1))
  (.skip))
 (.seq (.st [.sets [(5,(.tup (.call 0 f_ref4_one) (.cons (.v 0) (.cons (.v 2) .nil))))],
  .eff (some 3) none (.zbox [(.int .i64 0),(.int .i64 0),(.int .i64 0),(.str [])] T_ref4_Scan_0),
  .eff none none (.store 4 (.v 3) (.un (.ext 0) (.v 5))),
  .sets [(4,(.un (.ext 1) (.v 5)))]])
 (.seq (.cond (.bi (.bin .neq) (.un (.ext 2) (.v 5)) (.c (.int .i64 0)))
  (.ret [.e (.c .nils),.e (.v 2),.e (.un (.ext 2) (.v 5))])
  (.skip))
 (.seq (.st [.eff (some 6) none (.load (some 4) (.v 3)),
  .eff (some 7) none (.append 4 40 T_ref4_Scan_0 (.v 1) (.tup (.bslice 4 [(.int .i64 0),(.int .i64 0),(.int .i64 0),(.str [])] 1 [0]) (.cons (.v 6) .nil))),
  .sets [(1,(.v 7))]])
 (.st [.sets [(2,(.v 4))]]))))))))
def e_ref4_Scan:EFunc:=⟨1,8,
 (.seq (.cond (.bi (.bin .gtr) (.un .len (.v 0)) (.c (.int .i64 65536)))
 (.ret [.e (.c .nils),.e (.c (.int .i64 0)),.e (.c (.int .i64 4))])
 (.skip))
 (.seq (.st [.sets [(1,(.c .nils))]])
 (.seq (.st [.sets [(2,(.c (.int .i64 0)))]])
 (.seq (.block 0 (.loop [true,true,true,false,false,false,false,false] b_ref4_Scan_1))
 (.ret [.e (.v 1),.e (.c (.int .i64 0)),.e (.c (.int .i64 0))])))))⟩
noncomputable def r35:ERow:=⟨Tryz.f35,⟨[],[(0,[true,false,false,false,false,true,true]),(2,[true,false,false,false,false,true,true])],[],[],[],[]⟩,⟨59,[0,5,6,7,8,42,54,56],[20,27,37],[42]⟩,1,e_ref4_Scan⟩
def b_ref5_reader_node_0:EC :=
 (.block 1 (.seq (.seq (.st [.eff (some 37) none (.load none (.un (.off 1) (.un .nilchk (.v 0)))),
  .eff (some 38) none (.load none (.un (.off 0) (.un .nilchk (.v 0))))])
 (.cond (.bi (.bin .eql) (.v 37) (.un .len (.v 38)))
  (.seq (.st [.eff (some 39) none (.load none (.un (.off 1) (.v 4))),
   .eff none none (.store 5 (.v 2) (.tup (.build [(.int .i64 0),(.int .i64 0),(.int .i64 0),(.str []),.nils] []) .nil)),
   .eff none none (.store 2 (.v 3) (.tup (.call 0 f_ref5_At) (.cons (.c (.str [99,104,97,114])) (.cons (.v 39) (.cons (.c (.int .i64 3)) .nil)))))])
  (.ret [.cell (.v 2) (some 5),.cell (.v 3) (some 2)]))
  (.skip)))
 (.seq (.seq (.st [.eff (some 40) none (.load none (.un (.off 0) (.un .nilchk (.v 0)))),
  .eff (some 41) none (.load none (.un (.off 1) (.un .nilchk (.v 0))))])
 (.cond (.bi (.bin .eql) (.un (.ld none) (.un (.off 0) (.bi (.idx 4) (.v 40) (.v 41)))) (.c (.int .i64 5)))
  (.seq (.st [.eff (some 42) none (.load none (.un (.off 1) (.un .nilchk (.v 0)))),
   .eff none none (.store 1 (.un (.off 1) (.un .nilchk (.v 0))) (.bi (.bin .add) (.v 42) (.c (.int .i64 1))))])
  (.seq (.st [.eff (some 43) none (.load (some 5) (.v 5)),
   .eff none none (.store 5 (.v 2) (.v 43)),
   .eff none none (.store 2 (.v 3) (.tup (.build [.nils,(.int .i64 0)] []) .nil))])
  (.ret [.cell (.v 2) (some 5),.cell (.v 3) (some 2)])))
  (.skip)))
 (.seq (.st [.eff (some 44) none (.calls [true,true,true,true,true,true,true,true,true,true,true,true,true,true,true,true] f_ref5_reader_node (.cons (.v 0) (.cons (.bi (.bin .add) (.v 1) (.c (.int .i64 1))) .nil))),
  .eff (some 9) none (.zbox [(.int .i64 0),(.int .i64 0),(.int .i64 0),(.str []),.nils] T_ref5_reader_node_0),
  .eff (some 10) none (.zbox [.nils,(.int .i64 0)] T_ref5_reader_node_1),
  .eff none none (.store 5 (.v 9) (.un (.ext 0) (.v 44))),
  .eff none none (.store 2 (.v 10) (.un (.ext 1) (.v 44)))])
 (.seq (.seq (.st [.eff (some 45) none (.load none (.un (.off 1) (.v 10)))])
 (.cond (.bi (.bin .neq) (.v 45) (.c (.int .i64 0)))
  (.seq (.st [.eff (some 46) none (.load (some 2) (.v 10)),
   .chk (.tup .apart (.cons (.v 2) (.cons (.v 10) .nil))),
   .eff none none (.store 5 (.v 2) (.tup (.build [(.int .i64 0),(.int .i64 0),(.int .i64 0),(.str []),.nils] []) .nil)),
   .chk (.tup .apart (.cons (.v 3) (.cons (.v 10) .nil))),
   .eff none none (.store 2 (.v 3) (.v 46))])
  (.ret [.cell (.v 2) (some 5),.cell (.v 3) (some 2)]))
  (.skip)))
 (.st [.eff (some 47) none (.load none (.un (.off 4) (.v 5))),
  .eff (some 48) none (.load (some 5) (.v 9)),
  .eff (some 49) none (.append 5 64 T_ref5_reader_node_0 (.v 47) (.tup (.bslice 5 [(.int .i64 0),(.int .i64 0),(.int .i64 0),(.str []),.nils] 1 [0]) (.cons (.v 48) .nil))),
  .eff none none (.store 1 (.un (.off 4) (.v 5)) (.v 49))]))))))
def e_ref5_reader_node:EFunc:=⟨2,50,
 (.seq (.seq (.st [.eff (some 2) none (.zbox [(.int .i64 0),(.int .i64 0),(.int .i64 0),(.str []),.nils] T_ref5_reader_node_0),
  .eff (some 3) none (.zbox [.nils,(.int .i64 0)] T_ref5_reader_node_1)])
 (.seq (.st [.eff (some 11) none (.load none (.un (.off 0) (.un .nilchk (.v 0)))),
  .eff (some 12) none (.load none (.un (.off 1) (.un .nilchk (.v 0)))),
  .eff (some 4) none (.zbox [(.int .i64 0),(.int .i64 0),(.int .i64 0),(.str [])] T_ref5_reader_node_2),
  .eff none none (.store 4 (.v 4) (.un (.ld (some 4)) (.bi (.idx 4) (.v 11) (.v 12))))])
 (.seq (.st [.eff (some 13) none (.load none (.un (.off 1) (.un .nilchk (.v 0)))),
  .eff none none (.store 1 (.un (.off 1) (.un .nilchk (.v 0))) (.bi (.bin .add) (.v 13) (.c (.int .i64 1))))])
 (.seq (.st [.eff (some 14) none (.load none (.un (.off 2) (.un .nilchk (.v 0)))),
  .eff none none (.store 1 (.un (.off 2) (.un .nilchk (.v 0))) (.bi (.bin .add) (.v 14) (.c (.int .i64 1))))])
 (.seq (.seq (.st [.eff (some 15) none (.load none (.un (.off 0) (.v 4)))])
 (.cond (.bi (.bin .eql) (.v 15) (.c (.int .i64 5)))
 (.seq (.st [.eff (some 16) none (.load none (.un (.off 1) (.v 4))),
  .eff none none (.store 5 (.v 2) (.tup (.build [(.int .i64 0),(.int .i64 0),(.int .i64 0),(.str []),.nils] []) .nil)),
  .eff none none (.store 2 (.v 3) (.tup (.call 0 f_ref5_At) (.cons (.c (.str [99,104,97,114])) (.cons (.v 16) (.cons (.c (.int .i64 2)) .nil)))))])
 (.ret [.cell (.v 2) (some 5),.cell (.v 3) (some 2)]))
 (.skip)))
 (.seq (.seq (.st [.eff (some 17) none (.load none (.un (.off 2) (.un .nilchk (.v 0))))])
 (.cond (.bi (.bin .gtr) (.v 17) (.c (.int .i64 4096)))
 (.seq (.st [.eff (some 18) none (.load none (.un (.off 1) (.v 4))),
  .eff none none (.store 5 (.v 2) (.tup (.build [(.int .i64 0),(.int .i64 0),(.int .i64 0),(.str []),.nils] []) .nil)),
  .eff none none (.store 2 (.v 3) (.tup (.call 0 f_ref5_At) (.cons (.c (.str [99,104,97,114])) (.cons (.v 18) (.cons (.c (.int .i64 4)) .nil)))))])
 (.ret [.cell (.v 2) (some 5),.cell (.v 3) (some 2)]))
 (.skip)))
 (.seq (.st [.eff (some 19) none (.load none (.un (.off 0) (.v 4))),
  .eff (some 20) none (.load none (.un (.off 1) (.v 4))),
  .eff (some 21) none (.load none (.un (.off 2) (.v 4))),
  .eff (some 22) none (.load none (.un (.off 3) (.v 4))),
  .eff (some 5) none (.zbox [(.int .i64 0),(.int .i64 0),(.int .i64 0),(.str []),.nils] T_ref5_reader_node_0),
  .eff none none (.store 5 (.v 5) (.tup (.build [(.int .i64 0),(.int .i64 0),(.int .i64 0),(.str []),.nils] [(0,1),(1,1),(2,1),(3,1)]) (.cons (.v 19) (.cons (.v 20) (.cons (.v 21) (.cons (.v 22) .nil))))))])
 (.seq (.seq (.st [.eff (some 23) none (.load none (.un (.off 0) (.v 4)))])
 (.cond (.bi (.bin .eql) (.v 23) (.c (.int .i64 8)))
 (.seq (.seq (.st [.eff (some 24) none (.load none (.un (.off 1) (.un .nilchk (.v 0)))),
  .eff (some 25) none (.load none (.un (.off 0) (.un .nilchk (.v 0))))])
 (.cond (.bi (.bin .eql) (.v 24) (.un .len (.v 25)))
  (.seq (.st [.eff (some 26) none (.load none (.un (.off 1) (.v 4))),
   .eff none none (.store 5 (.v 2) (.tup (.build [(.int .i64 0),(.int .i64 0),(.int .i64 0),(.str []),.nils] []) .nil)),
   .eff none none (.store 2 (.v 3) (.tup (.call 0 f_ref5_At) (.cons (.c (.str [99,104,97,114])) (.cons (.v 26) (.cons (.c (.int .i64 3)) .nil)))))])
  (.ret [.cell (.v 2) (some 5),.cell (.v 3) (some 2)]))
  (.skip)))
 (.seq (.st [.eff (some 27) none (.load none (.un (.off 0) (.un .nilchk (.v 0)))),
  .eff (some 28) none (.load none (.un (.off 1) (.un .nilchk (.v 0)))),
  .sets [(6,(.un (.ld none) (.un (.off 0) (.bi (.idx 4) (.v 27) (.v 28)))))]])
 (.seq (.cond (.pick (.pick (.bi (.bin .eql) (.v 6) (.c (.int .i64 4))) (.c (.bool true)) (.bi (.bin .eql) (.v 6) (.c (.int .i64 5)))) (.c (.bool true)) (.bi (.bin .eql) (.v 6) (.c (.int .i64 8))))
  (.seq (.st [.eff (some 29) none (.load none (.un (.off 1) (.v 4))),
   .eff none none (.store 5 (.v 2) (.tup (.build [(.int .i64 0),(.int .i64 0),(.int .i64 0),(.str []),.nils] []) .nil)),
   .eff none none (.store 2 (.v 3) (.tup (.call 0 f_ref5_At) (.cons (.c (.str [99,104,97,114])) (.cons (.v 29) (.cons (.c (.int .i64 2)) .nil)))))])
  (.ret [.cell (.v 2) (some 5),.cell (.v 3) (some 2)]))
  (.skip))
 (.seq (.st [.eff (some 30) none (.calls [true,true,true,true,true,true,true,true,true,true,true,true,true,true,true,true] f_ref5_reader_node (.cons (.v 0) (.cons (.v 1) .nil))),
  .eff (some 7) none (.zbox [(.int .i64 0),(.int .i64 0),(.int .i64 0),(.str []),.nils] T_ref5_reader_node_0),
  .eff (some 8) none (.zbox [.nils,(.int .i64 0)] T_ref5_reader_node_1),
  .eff none none (.store 5 (.v 7) (.un (.ext 0) (.v 30))),
  .eff none none (.store 2 (.v 8) (.un (.ext 1) (.v 30)))])
 (.seq (.st [.eff (some 31) none (.load (some 5) (.v 7)),
  .eff none none (.store 1 (.un (.off 4) (.v 5)) (.tup (.bslice 5 [(.int .i64 0),(.int .i64 0),(.int .i64 0),(.str []),.nils] 1 [0]) (.cons (.v 31) .nil)))])
 (.seq (.st [.eff (some 32) none (.load (some 5) (.v 5)),
  .eff (some 33) none (.load (some 2) (.v 8)),
  .chk (.tup .apart (.cons (.v 2) (.cons (.v 8) (.cons (.v 5) .nil)))),
  .eff none none (.store 5 (.v 2) (.v 32)),
  .chk (.tup .apart (.cons (.v 3) (.cons (.v 8) (.cons (.v 5) .nil)))),
  .eff none none (.store 2 (.v 3) (.v 33))])
 (.ret [.cell (.v 2) (some 5),.cell (.v 3) (some 2)])))))))
 (.skip)))
 (.seq (.seq (.st [.eff (some 34) none (.load none (.un (.off 0) (.v 4)))])
 (.cond (.bi (.bin .neq) (.v 34) (.c (.int .i64 4)))
 (.seq (.st [.eff (some 35) none (.load (some 5) (.v 5)),
  .eff none none (.store 5 (.v 2) (.v 35)),
  .eff none none (.store 2 (.v 3) (.tup (.build [.nils,(.int .i64 0)] []) .nil))])
 (.ret [.cell (.v 2) (some 5),.cell (.v 3) (some 2)]))
 (.skip)))
 (.seq (.st [.eff none none (.store 1 (.un (.off 0) (.v 5)) (.c (.int .i64 0)))])
 (.seq (.cond (.bi (.bin .geq) (.v 1) (.c (.int .i64 32)))
 (.seq (.st [.eff (some 36) none (.load none (.un (.off 1) (.v 4))),
  .eff none none (.store 5 (.v 2) (.tup (.build [(.int .i64 0),(.int .i64 0),(.int .i64 0),(.str []),.nils] []) .nil)),
  .eff none none (.store 2 (.v 3) (.tup (.call 0 f_ref5_At) (.cons (.c (.str [99,104,97,114])) (.cons (.v 36) (.cons (.c (.int .i64 4)) .nil)))))])
 (.ret [.cell (.v 2) (some 5),.cell (.v 3) (some 2)]))
 (.skip))
 (.block 0 (.loop [true,true,true,true,true,true,false,false,false,false,false,false,false,false,false,false,false,false,false,false,false,false,false,false,false,false,false,false,false,false,false,false,false,false,false,false,false,false,false,false,false,false,false,false,false,false,false,false,false,false] b_ref5_reader_node_0)))))))))))))
 (.ret [.cell (.v 2) (some 5),.cell (.v 3) (some 2)]))⟩
noncomputable def r36:ERow:=⟨Tryz.f36,⟨[(1,(.cons 0 0 (.cons 0 1 (.cons 0 2 (.cons 0 4 (.cons 0 5 (.cons 0 6 (.cons 1 3 (.cons 1 7 (.cons 0 8 (.cons 1 9 (.cons 2 10 (.cons 3 11 .nil))))))))))))),(10,(.cons 0 0 (.cons 0 1 (.cons 0 2 (.cons 0 4 (.cons 0 5 (.cons 0 6 (.cons 1 3 (.cons 1 7 (.cons 0 8 (.cons 0 9 .nil))))))))))),(12,(.cons 0 0 (.cons 0 1 (.cons 0 2 (.cons 0 4 (.cons 0 5 (.cons 0 6 (.cons 1 3 (.cons 1 7 (.cons 0 8 (.cons 0 9 (.cons 1 10 (.cons 0 11 .nil))))))))))))),(17,(.cons 1 0 (.cons 1 1 (.cons 2 2 (.cons 2 3 .nil))))),(23,(.cons 0 0 (.cons 0 1 (.cons 0 2 (.cons 0 4 (.cons 0 5 (.cons 0 6 (.cons 1 3 (.cons 1 7 (.cons 0 8 (.cons 0 9 .nil))))))))))),(25,(.cons 0 0 (.cons 0 1 (.cons 0 2 (.cons 0 4 (.cons 0 5 (.cons 0 6 (.cons 1 3 (.cons 1 7 (.cons 0 8 (.cons 0 9 (.cons 1 10 (.cons 0 11 .nil))))))))))))),(30,(.cons 0 0 (.cons 1 1 (.cons 2 2 (.cons 2 3 .nil)))))],[(0,[true,true,false,false,true,true,true,true])],[],[],[],[]⟩,⟨180,[0,1,4,5,6,7,8,9,10,11,12,16,20,26,33,38,42,47,51,54,56,58,60,63,68,72,77,82,86,102,107,110,113,114,116,118,125,130,134,139,144,148,156,160,166,170,173,175,176,178],[22,89,151],[]⟩,2,e_ref5_reader_node⟩
def b_law5_places_0:EC :=
 (.seq (.seq (.st [.eff (some 7) none (.load none (.un (.off 4) (.v 2)))])
 (.cond (.bi (.bin .lss) (.v 4) (.un .len (.v 7)))
 (.skip)
 (.exit 0)))
 (.seq (.block 1 (.seq (.st [.eff (some 8) none (.load none (.un (.off 4) (.v 2))),
  .eff (some 9) none (.load none (.un (.off 4) (.v 3)))])
 (.cond (.un .not (.tup (.call 0 f_law5_places) (.cons (.un (.ld (some 5)) (.bi (.idx 5) (.v 8) (.v 4))) (.cons (.un (.ld (some 5)) (.bi (.idx 5) (.v 9) (.v 4))) .nil))))
  (.ret [.e (.c (.bool false))])
  (.skip))))
 (.st [.sets [(4,(.bi (.bin .add) (.v 4) (.c (.int .i64 1))))]])))
def e_law5_places:EFunc:=⟨2,10,
 (.seq (.st [.eff (some 2) none (.box 5 T_law5_places_0 (.v 0)),
  .eff (some 3) none (.box 5 T_law5_places_0 (.v 1))])
 (.seq (.seq (.st [.eff (some 5) none (.load none (.un (.off 1) (.v 2))),
  .eff (some 6) none (.load none (.un (.off 1) (.v 3)))])
 (.cond (.bi (.bin .neq) (.v 5) (.v 6))
 (.ret [.e (.c (.bool false))])
 (.skip)))
 (.seq (.seq (.st [.sets [(4,(.c (.int .i64 0)))]])
 (.block 0 (.loop [false,false,true,true,true,false,false,false,false,false] b_law5_places_0)))
 (.ret [.e (.c (.bool true))]))))⟩
noncomputable def r40:ERow:=⟨Tryz.f40,⟨[(6,(.cons 0 0 (.cons 0 2 (.cons 0 5 (.cons 0 7 (.cons 1 1 (.cons 0 3 (.cons 1 4 (.cons 1 6 (.cons 0 8 (.cons 1 9 (.cons 2 10 (.cons 0 11 .nil)))))))))))))],[(0,[false,false,true,true,false,true])],[],[],[],[]⟩,⟨30,[0,1,2,3,5,7,9,13,19,24],[22,27],[]⟩,2,e_law5_places⟩
def e_lex_Text:EFunc:=⟨1,8,
 (.seq (.st [.eff (some 1) none (.box 4 T_lex_Text_0 (.v 0))])
 (.seq (.seq (.st [.eff (some 2) none (.load none (.un (.off 0) (.v 1)))])
 (.block 0 (.cond (.bi (.bin .eql) (.v 2) (.c (.int .i64 4)))
  (.ret [.e (.c (.str [40]))])
  (.cond (.bi (.bin .eql) (.v 2) (.c (.int .i64 5)))
  (.ret [.e (.c (.str [41]))])
  (.cond (.bi (.bin .eql) (.v 2) (.c (.int .i64 8)))
   (.ret [.e (.c (.str [126]))])
   (.cond (.bi (.bin .eql) (.v 2) (.c (.int .i64 6)))
   (.seq (.st [.eff (some 3) none (.load none (.un (.off 3) (.v 1)))])
   (.ret [.e (.bi (.bin .add) (.c (.str [63])) (.v 3))]))
   (.cond (.bi (.bin .eql) (.v 2) (.c (.int .i64 7)))
    (.seq (.st [.eff (some 4) none (.load none (.un (.off 3) (.v 1)))])
    (.ret [.e (.bi (.bin .add) (.bi (.bin .add) (.c (.str [63,42])) (.v 4)) (.c (.str [42])))]))
    (.skip))))))))
 (.seq (.st [.eff (some 5) none (.load none (.un (.off 0) (.v 1))),
  .eff (some 6) none (.load none (.un (.off 2) (.v 1))),
  .eff (some 7) none (.load none (.un (.off 3) (.v 1)))])
 (.ret [.e (.tup (.call 0 f_val_Text) (.cons (.tup (.build [(.int .i64 0),(.int .i64 0),(.str [])] [(0,1),(1,1),(2,1)]) (.cons (.v 5) (.cons (.v 6) (.cons (.v 7) .nil)))) .nil))]))))⟩
noncomputable def r42:ERow:=⟨Tryz.f42,⟨[],[],[],[],[],[]⟩,⟨30,[0,1,4,14,19,23,25,27],[],[]⟩,1,e_lex_Text⟩
def e_strings_Builder_WriteString:EFunc:=⟨2,4,
 (.seq (.st [.eff none none (.calls [true,true,true,true,true,true,true,true,true,true,true,true,true,true,true,true] f_strings_Builder_copyCheck (.cons (.v 0) .nil))])
 (.seq (.st [.eff (some 2) none (.load none (.un (.off 1) (.un .nilchk (.v 0)))),
  .eff (some 3) none (.append 1 1 T_byte (.v 2) (.v 1)),
  .eff none none (.store 1 (.un (.off 1) (.un .nilchk (.v 0))) (.v 3))])
 (.ret [.e (.un .slen (.v 1)),.e (.c .nili)])))⟩
noncomputable def r44:ERow:=⟨Tryz.f44,⟨[],[],[],[],[],[]⟩,⟨19,[0,1,12,14],[],[]⟩,2,e_strings_Builder_WriteString⟩
def e_strings_Builder_String:EFunc:=⟨1,4,
 (.seq (.st [.eff (some 1) none (.load none (.un (.off 1) (.un .nilchk (.v 0)))),
  .eff (some 2) none (.load none (.un (.off 1) (.un .nilchk (.v 0)))),
  .eff (some 3) none (.ustr T_byte (.un .sdata (.v 1)) (.un .len (.v 2)))])
 (.ret [.e (.v 3)]))⟩
noncomputable def r45:ERow:=⟨Tryz.f45,⟨[(1,(.cons 0 0 (.cons 0 1 (.cons 0 2 (.cons 0 5 (.cons 0 6 (.cons 0 7 (.cons 1 3 (.cons 0 4 (.cons 1 8 (.cons 0 9 (.cons 2 10 (.cons 0 11 .nil)))))))))))))],[],[],[],[],[]⟩,⟨14,[0,6,11,13],[],[]⟩,1,e_strings_Builder_String⟩
def b_slices_EqualFunc_sexp_Node_sexp_Node_sexp_Node_sexp_Node_0:EC :=
 (.seq (.cond (.bi (.bin .lss) (.v 7) (.v 6))
 (.skip)
 (.exit 0))
 (.seq (.block 1 (.seq (.st [.eff (some 3) none (.zbox [(.int .i64 0),(.int .i64 0),(.int .i64 0),(.str []),.nils] T_slices_EqualFunc_sexp_Node_sexp_Node_sexp_Node_sexp_Node_0),
  .eff none none (.store 5 (.v 3) (.un (.ld (some 5)) (.bi (.idx 5) (.v 5) (.v 7))))])
 (.seq (.st [.eff (some 4) none (.zbox [(.int .i64 0),(.int .i64 0),(.int .i64 0),(.str []),.nils] T_slices_EqualFunc_sexp_Node_sexp_Node_sexp_Node_sexp_Node_0),
  .eff none none (.store 5 (.v 4) (.un (.ld (some 5)) (.bi (.idx 5) (.v 1) (.v 7))))])
 (.seq (.st [.eff (some 8) none (.load (some 5) (.v 3)),
  .eff (some 9) none (.load (some 5) (.v 4)),
  .eff (some 10) none (.callv (.v 2) (.cons (.v 8) (.cons (.v 9) .nil)))])
 (.cond (.un .not (.v 10))
  (.ret [.e (.c (.bool false))])
  (.skip))))))
 (.st [.sets [(7,(.bi (.bin .add) (.v 7) (.c (.int .i64 1))))]])))
def e_slices_EqualFunc_sexp_Node_sexp_Node_sexp_Node_sexp_Node:EFunc:=⟨3,11,
 (.seq (.cond (.bi (.bin .neq) (.un .len (.v 0)) (.un .len (.v 1)))
 (.ret [.e (.c (.bool false))])
 (.skip))
 (.seq (.seq (.st [.sets [(5,(.v 0)),(6,(.un .len (.v 0))),(7,(.c (.int .i64 0)))]])
 (.block 0 (.loop [false,true,true,false,false,true,true,true,false,false,false] b_slices_EqualFunc_sexp_Node_sexp_Node_sexp_Node_sexp_Node_0)))
 (.ret [.e (.c (.bool true))])))⟩
noncomputable def r46:ERow:=⟨Tryz.f46,⟨[],[(0,[false,true,true,false,false,false,false,false,false,false,false,false,false,false,false,true,true,true])],[],[],[],[]⟩,⟨32,[0,1,2,8,9,15,16,17,27,28,29],[21,25],[]⟩,3,e_slices_EqualFunc_sexp_Node_sexp_Node_sexp_Node_sexp_Node⟩
def e_sexp_last:EFunc:=⟨1,4,
 (.seq (.st [.eff (some 1) none (.zbox [(.int .i64 0)] T_sexp_last_0)])
 (.seq (.seq (.st [.eff (some 2) none (.calls [true,true,true,true,true,true,true,true,true,true,true,true,true,true,true,true] f_errors_As (.cons (.v 0) (.cons (.un (.iface T_sexp_last_1) (.v 1)) .nil)))])
 (.cond (.v 2)
 (.seq (.st [.eff (some 3) none (.load none (.v 1))])
 (.ret [.e (.tup (.call 0 f_api_Errno_Error) (.cons (.v 3) .nil))]))
 (.skip)))
 (.ret [.e (.c (.str [63]))])))⟩
noncomputable def r47:ERow:=⟨Tryz.f47,⟨[],[],[],[],[],[]⟩,⟨9,[0,3,6,7],[],[]⟩,1,e_sexp_last⟩
def e_strconv_Itoa:EFunc:=⟨1,1,
 (.ret [.e (.tup (.call 0 f_internal_strconv_Itoa) (.cons (.v 0) .nil))])⟩
noncomputable def r48:ERow:=⟨Tryz.f48,⟨[],[],[],[],[],[]⟩,⟨5,[0],[],[]⟩,1,e_strconv_Itoa⟩
def e_lex_fault:EFunc:=⟨2,3,
 (.seq (.st [.eff (some 2) none (.box 3 T_lex_fault_0 (.tup (.build [(.str []),(.int .i64 0),.nili] [(0,1),(1,1),(2,1)]) (.cons (.c (.str [99,104,97,114])) (.cons (.v 0) (.cons (.un (.iface T_lex_fault_1) (.v 1)) .nil)))))])
 (.ret [.e (.un (.iface T_lex_fault_2) (.v 2))]))⟩
noncomputable def r49:ERow:=⟨Tryz.f49,⟨[],[],[],[],[],[]⟩,⟨11,[0,1,9],[],[]⟩,2,e_lex_fault⟩
def b_lex_scanner_skip_0:EC :=
 (.seq (.cond (.pick (.v 4) (.bi (.bin .neq) (.v 3) (.c (.int .u8 10))) (.c (.bool false)))
 (.skip)
 (.exit 3))
 (.seq (.block 4 (.st [.eff (some 9) none (.load none (.un (.off 1) (.un .nilchk (.v 0)))),
  .eff none none (.store 1 (.un (.off 1) (.un .nilchk (.v 0))) (.bi (.bin .add) (.v 9) (.c (.int .i64 1))))]))
 (.st [.eff (some 8) none (.calls [true,true,true,true,true,true,true,true,true,true,true,true,true,true,true,true] f_lex_scanner_more (.cons (.v 0) .nil)),
  .sets [(3,(.un (.ext 0) (.v 8))),(4,(.un (.ext 1) (.v 8)))]])))
def b_lex_scanner_skip_1:EC :=
 (.seq (.cond (.v 2)
 (.skip)
 (.exit 0))
 (.seq (.block 1 (.block 2 (.cond (.bi (.bin .eql) (.v 1) (.c (.int .u8 59)))
  (.seq (.st [.eff (some 7) none (.calls [true,true,true,true,true,true,true,true,true,true,true,true,true,true,true,true] f_lex_scanner_more (.cons (.v 0) .nil)),
   .sets [(3,(.un (.ext 0) (.v 7))),(4,(.un (.ext 1) (.v 7)))]])
  (.block 3 (.loop [true,false,false,true,true,false,false,false,false,false,false,false] b_lex_scanner_skip_0)))
  (.seq (.seq (.st [.sets [(10,(.bi (.bin .eql) (.v 1) (.c (.int .u8 32))))]])
  (.cond (.v 10)
   (.skip)
   (.seq (.st [.sets [(10,(.bi (.bin .eql) (.v 1) (.c (.int .u8 9))))]])
   (.cond (.v 10)
   (.skip)
   (.seq (.st [.sets [(10,(.bi (.bin .eql) (.v 1) (.c (.int .u8 10))))]])
   (.cond (.v 10)
    (.skip)
    (.st [.sets [(10,(.bi (.bin .eql) (.v 1) (.c (.int .u8 13))))]])))))))
  (.cond (.v 10)
   (.st [.eff (some 11) none (.load none (.un (.off 1) (.un .nilchk (.v 0)))),
    .eff none none (.store 1 (.un (.off 1) (.un .nilchk (.v 0))) (.bi (.bin .add) (.v 11) (.c (.int .i64 1))))])
   (.ret []))))))
 (.st [.eff (some 6) none (.calls [true,true,true,true,true,true,true,true,true,true,true,true,true,true,true,true] f_lex_scanner_more (.cons (.v 0) .nil)),
  .sets [(1,(.un (.ext 0) (.v 6))),(2,(.un (.ext 1) (.v 6)))]])))
def e_lex_scanner_skip:EFunc:=⟨1,12,
 (.seq (.seq (.st [.eff (some 5) none (.calls [true,true,true,true,true,true,true,true,true,true,true,true,true,true,true,true] f_lex_scanner_more (.cons (.v 0) .nil)),
  .sets [(1,(.un (.ext 0) (.v 5))),(2,(.un (.ext 1) (.v 5)))]])
 (.block 0 (.loop [true,true,true,false,false,false,false,false,false,false,false,false] b_lex_scanner_skip_1)))
 (.ret []))⟩
noncomputable def r50:ERow:=⟨Tryz.f50,⟨[],[(0,[true,false,true,true]),(3,[true,false,false,false,true,true])],[],[],[],[]⟩,⟨54,[0,2,3,4,5,8,14,22,32,38,42,50],[],[]⟩,1,e_lex_scanner_skip⟩
def e_lex_scanner_token:EFunc:=⟨1,12,
 (.seq (.st [.eff (some 1) none (.zbox [(.int .i64 0),(.int .i64 0),(.int .i64 0),(.str [])] T_lex_scanner_token_0)])
 (.seq (.st [.sets [(2,(.c (.int .i64 0)))]])
 (.seq (.seq (.st [.eff (some 4) none (.load none (.un (.off 0) (.un .nilchk (.v 0)))),
  .eff (some 5) none (.load none (.un (.off 1) (.un .nilchk (.v 0)))),
  .sets [(3,(.un (.ld none) (.bi (.idx 1) (.v 4) (.v 5))))]])
 (.block 0 (.cond (.bi (.bin .eql) (.v 3) (.c (.int .u8 40)))
  (.st [.sets [(2,(.c (.int .i64 4)))]])
  (.cond (.bi (.bin .eql) (.v 3) (.c (.int .u8 41)))
  (.st [.sets [(2,(.c (.int .i64 5)))]])
  (.cond (.bi (.bin .eql) (.v 3) (.c (.int .u8 126)))
   (.st [.sets [(2,(.c (.int .i64 8)))]])
   (.cond (.bi (.bin .eql) (.v 3) (.c (.int .u8 34)))
   (.seq (.st [.eff (some 7) none (.load none (.un (.off 1) (.un .nilchk (.v 0)))),
    .eff none none (.store 1 (.un (.off 1) (.un .nilchk (.v 0))) (.bi (.bin .add) (.v 7) (.c (.int .i64 1))))])
   (.seq (.st [.eff (some 8) none (.calls [true,true,true,true,true,true,true,true,true,true,true,true,true,true,true,true] f_lex_scanner_text (.cons (.v 0) .nil)),
    .eff none none (.store 4 (.v 1) (.un (.ext 0) (.v 8)))])
   (.ret [.cell (.v 1) (some 4),.e (.un (.ext 1) (.v 8))])))
   (.cond (.bi (.bin .eql) (.v 3) (.c (.int .u8 63)))
    (.seq (.st [.eff (some 9) none (.load none (.un (.off 1) (.un .nilchk (.v 0)))),
     .eff none none (.store 1 (.un (.off 1) (.un .nilchk (.v 0))) (.bi (.bin .add) (.v 9) (.c (.int .i64 1))))])
    (.seq (.st [.eff (some 10) none (.calls [true,true,true,true,true,true,true,true,true,true,true,true,true,true,true,true] f_lex_scanner_variable (.cons (.v 0) .nil)),
     .eff none none (.store 4 (.v 1) (.un (.ext 0) (.v 10)))])
    (.ret [.cell (.v 1) (some 4),.e (.un (.ext 1) (.v 10))])))
    (.seq (.st [.eff (some 6) none (.calls [true,true,true,true,true,true,true,true,true,true,true,true,true,true,true,true] f_lex_scanner_word (.cons (.v 0) .nil)),
     .eff none none (.store 4 (.v 1) (.un (.ext 0) (.v 6)))])
    (.ret [.cell (.v 1) (some 4),.e (.un (.ext 1) (.v 6))])))))))))
 (.seq (.st [.eff (some 11) none (.load none (.un (.off 1) (.un .nilchk (.v 0)))),
  .eff none none (.store 1 (.un (.off 1) (.un .nilchk (.v 0))) (.bi (.bin .add) (.v 11) (.c (.int .i64 1))))])
 (.seq (.st [.eff none none (.store 4 (.v 1) (.tup (.build [(.int .i64 0),(.int .i64 0),(.int .i64 0),(.str [])] [(0,1)]) (.cons (.v 2) .nil)))])
 (.ret [.cell (.v 1) (some 4),.e (.c (.int .i64 0))]))))))⟩
noncomputable def r51:ERow:=⟨Tryz.f51,⟨[(2,(.cons 0 0 (.cons 0 1 (.cons 0 2 (.cons 0 4 (.cons 0 5 (.cons 0 6 (.cons 1 3 (.cons 1 7 (.cons 0 8 (.cons 1 9 (.cons 0 10 .nil))))))))))))],[],[],[],[],[]⟩,⟨62,[0,2,4,5,9,13,18,32,37,45,50,56],[15],[]⟩,1,e_lex_scanner_token⟩
def e_sexp_reader_not:EFunc:=⟨3,17,
 (.seq (.st [.eff (some 3) none (.box 4 T_sexp_reader_not_0 (.v 1))])
 (.seq (.seq (.st [.eff (some 5) none (.load (some 4) (.v 3)),
  .eff (some 6) none (.calls [true,true,true,true,true,true,true,true,true,true,true,true,true,true,true,true] f_sexp_reader_count (.cons (.v 0) (.cons (.v 5) .nil)))])
 (.cond (.bi (.eqs 1 true) (.v 6) (.c .nili))
 (.ret [.e (.v 6)])
 (.skip)))
 (.seq (.seq (.st [.eff (some 7) none (.load none (.un (.off 0) (.un .nilchk (.v 0))))])
 (.cond (.bi (.bin .geq) (.bi (.bin .add) (.v 2) (.c (.int .i64 1))) (.un .len (.v 7)))
 (.seq (.st [.eff (some 8) none (.load none (.un (.off 1) (.v 3)))])
 (.ret [.e (.tup (.call 0 f_sexp_fault) (.cons (.v 8) (.cons (.c (.int .i64 3)) .nil)))]))
 (.skip)))
 (.seq (.st [.eff (some 9) none (.load none (.un (.off 0) (.un .nilchk (.v 0)))),
  .eff (some 4) none (.zbox [(.int .i64 0),(.int .i64 0),(.int .i64 0),(.str [])] T_sexp_reader_not_0),
  .eff none none (.store 4 (.v 4) (.un (.ld (some 4)) (.bi (.idx 4) (.v 9) (.bi (.bin .add) (.v 2) (.c (.int .i64 1))))))])
 (.seq (.seq (.st [.eff (some 10) none (.load none (.un (.off 0) (.v 4)))])
 (.block 0 (.seq (.seq (.st [.sets [(11,(.bi (.bin .eql) (.v 10) (.c (.int .i64 4))))]])
 (.cond (.v 11)
  (.skip)
  (.seq (.st [.sets [(11,(.bi (.bin .eql) (.v 10) (.c (.int .i64 5))))]])
  (.cond (.v 11)
  (.skip)
  (.st [.sets [(11,(.bi (.bin .eql) (.v 10) (.c (.int .i64 8))))]])))))
 (.cond (.v 11)
  (.seq (.st [.eff (some 12) none (.load none (.un (.off 1) (.v 3)))])
  (.ret [.e (.tup (.call 0 f_sexp_fault) (.cons (.v 12) (.cons (.c (.int .i64 2)) .nil)))]))
  (.skip)))))
 (.seq (.seq (.st [.eff (some 13) none (.load (some 4) (.v 4)),
  .eff (some 14) none (.calls [true,true,true,true,true,true,true,true,true,true,true,true,true,true,true,true] f_sexp_reader_count (.cons (.v 0) (.cons (.v 13) .nil)))])
 (.cond (.bi (.eqs 1 true) (.v 14) (.c .nili))
 (.ret [.e (.v 14)])
 (.skip)))
 (.seq (.st [.eff (some 15) none (.load none (.un (.off 1) (.v 3))),
  .eff (some 16) none (.load (some 4) (.v 4)),
  .eff none none (.calls [true,true,true,true,true,true,true,true,true,true,true,true,true,true,true,true] f_sexp_reader_put (.cons (.v 0) (.cons (.tup (.build [(.int .i64 0),(.int .i64 0),(.int .i64 0),(.str []),.nils] [(0,1),(1,1),(4,1)]) (.cons (.c (.int .i64 8)) (.cons (.v 15) (.cons (.tup (.bslice 5 [(.int .i64 0),(.int .i64 0),(.int .i64 0),(.str []),.nils] 1 [0]) (.cons (.tup (.call 0 f_sexp_leaf) (.cons (.v 16) .nil)) .nil)) .nil)))) .nil)))])
 (.ret [.e (.c .nili)]))))))))⟩
noncomputable def r52:ERow:=⟨Tryz.f52,⟨[(15,(.cons 0 0 (.cons 0 1 (.cons 1 2 (.cons 1 3 (.cons 2 4 (.cons 2 5 (.cons 0 6 (.cons 3 7 .nil)))))))))],[],[],[],[],[]⟩,⟨58,[0,1,2,4,8,11,12,21,25,30,36,37,42,45,46,52,53],[34],[]⟩,3,e_sexp_reader_not⟩
def e_sexp_reader_count:EFunc:=⟨2,6,
 (.seq (.st [.eff (some 2) none (.box 4 T_sexp_reader_count_0 (.v 1))])
 (.seq (.st [.eff (some 3) none (.load none (.un (.off 1) (.un .nilchk (.v 0)))),
  .eff none none (.store 1 (.un (.off 1) (.un .nilchk (.v 0))) (.bi (.bin .add) (.v 3) (.c (.int .i64 1))))])
 (.seq (.seq (.st [.eff (some 4) none (.load none (.un (.off 1) (.un .nilchk (.v 0))))])
 (.cond (.bi (.bin .gtr) (.v 4) (.c (.int .i64 4096)))
 (.seq (.st [.eff (some 5) none (.load none (.un (.off 1) (.v 2)))])
 (.ret [.e (.tup (.call 0 f_sexp_fault) (.cons (.v 5) (.cons (.c (.int .i64 4)) .nil)))]))
 (.skip)))
 (.ret [.e (.c .nili)]))))⟩
noncomputable def r53:ERow:=⟨Tryz.f53,⟨[],[],[],[],[],[]⟩,⟨20,[0,1,3,8,15,18],[],[]⟩,2,e_sexp_reader_count⟩
def e_sexp_reader_put:EFunc:=⟨2,17,
 (.seq (.seq (.st [.eff (some 2) none (.box 5 T_sexp_reader_put_0 (.v 1))])
 (.seq (.seq (.st [.eff (some 3) none (.load none (.un (.off 2) (.un .nilchk (.v 0))))])
 (.cond (.bi (.bin .gtr) (.un .len (.v 3)) (.c (.int .i64 0)))
 (.seq (.choose [false,false,false,false,false,false,false,false,false,false,false,false,false,false,false,false,false] T_sexp_reader_put_1
  (.seq (.st [.eff (some 4) none (.load none (.un (.off 2) (.un .nilchk (.v 0)))),
   .eff (some 5) none (.load none (.un (.off 2) (.un .nilchk (.v 0)))),
   .eff (some 6) none (.load none (.un (.off 4) (.bi (.idx 5) (.v 5) (.bi (.bin .sub) (.un .len (.v 3)) (.c (.int .i64 1)))))),
   .eff (some 7) none (.load (some 5) (.v 2)),
   .eff (some 8) none (.pappend 5 64 T_sexp_reader_put_0 (.v 6) (.tup (.bslice 5 [(.int .i64 0),(.int .i64 0),(.int .i64 0),(.str []),.nils] 1 [0]) (.cons (.c (.agg [(.int .i64 0),(.int .i64 0),(.int .i64 0),(.str []),.nils])) .nil)) (.v 7)),
   .eff none none (.store 1 (.un (.off 4) (.bi (.idx 5) (.v 4) (.bi (.bin .sub) (.un .len (.v 3)) (.c (.int .i64 1))))) (.v 8))])
  (.st [.eff none none (.fill 5 (.bi (.pidx 5) (.v 8) (.un .len (.v 6))) (.v 7))]))
  (.st [.eff (some 9) none (.load none (.un (.off 2) (.un .nilchk (.v 0)))),
   .eff (some 10) none (.load none (.un (.off 2) (.un .nilchk (.v 0)))),
   .eff (some 11) none (.load none (.un (.off 4) (.bi (.idx 5) (.v 10) (.bi (.bin .sub) (.un .len (.v 3)) (.c (.int .i64 1)))))),
   .eff (some 12) none (.load (some 5) (.v 2)),
   .eff (some 13) none (.append 5 64 T_sexp_reader_put_0 (.v 11) (.tup (.bslice 5 [(.int .i64 0),(.int .i64 0),(.int .i64 0),(.str []),.nils] 1 [0]) (.cons (.v 12) .nil))),
   .eff none none (.store 1 (.un (.off 4) (.bi (.idx 5) (.v 9) (.bi (.bin .sub) (.un .len (.v 3)) (.c (.int .i64 1))))) (.v 13))]))
 (.ret []))
 (.skip)))
 (.st [.eff (some 14) none (.load none (.un (.off 3) (.un .nilchk (.v 0)))),
  .eff (some 15) none (.load (some 5) (.v 2)),
  .eff (some 16) none (.pappend 5 64 T_sexp_reader_put_0 (.v 14) (.tup (.bslice 5 [(.int .i64 0),(.int .i64 0),(.int .i64 0),(.str []),.nils] 1 [0]) (.cons (.c (.agg [(.int .i64 0),(.int .i64 0),(.int .i64 0),(.str []),.nils])) .nil)) (.v 15)),
  .eff none none (.fill 5 (.bi (.pidx 5) (.v 16) (.un .len (.v 14))) (.v 15)),
  .eff none none (.store 1 (.un (.off 3) (.un .nilchk (.v 0))) (.v 16))])))
 (.ret []))⟩
noncomputable def r54:ERow:=⟨Tryz.f54,⟨[(3,(.cons 2 0 (.alt (.cons 2 1 (.cons 2 2 (.cons 2 3 .nil))) (.cons 2 2 (.cons 2 1 (.cons 2 3 .nil)))))),(4,(.cons 0 0 (.cons 0 1 (.cons 0 2 (.cons 0 4 (.cons 0 5 (.cons 0 6 (.cons 0 7 (.cons 0 8 (.cons 0 10 (.cons 0 11 (.cons 1 3 (.cons 1 9 (.cons 0 12 (.cons 0 13 (.cons 1 14 (.cons 0 16 (.cons 1 15 (.cons 2 17 (.cons 3 18 (.cons 0 19 (.cons 0 20 (.cons 3 21 .nil))))))))))))))))))))))),(6,(.cons 0 0 (.cons 0 1 (.cons 0 2 (.cons 0 4 (.cons 0 5 (.cons 0 6 (.cons 0 7 (.cons 0 8 (.cons 0 10 (.cons 0 11 (.cons 1 3 (.cons 1 9 (.cons 0 12 (.cons 0 13 (.cons 1 14 (.cons 1 15 (.cons 2 16 (.cons 2 17 (.cons 0 18 (.cons 0 19 (.cons 3 20 .nil)))))))))))))))))))))),(7,(.cons 0 0 (.cons 0 1 (.cons 0 2 (.cons 1 3 (.cons 0 5 (.cons 1 4 (.cons 2 6 (.cons 3 7 (.cons 0 8 (.cons 0 10 (.cons 0 11 (.alt (.cons 3 9 (.cons 3 12 .nil)) (.cons 3 12 (.cons 3 9 .nil)))))))))))))))],[],[],[(4,[(18,29)]),(7,[(7,60)])],[(4,⟨5,32,29,[]⟩)],[(3,[])]⟩,⟨67,[0,1,3,8,17,23,28,29,32,39,45,50,51,53,59,60,63],[],[]⟩,2,e_sexp_reader_put⟩
def e_sexp_leaf:EFunc:=⟨1,7,
 (.seq (.st [.eff (some 1) none (.box 4 T_sexp_leaf_0 (.v 0)),
  .eff (some 2) none (.zbox [(.int .i64 0),(.int .i64 0),(.int .i64 0),(.str []),.nils] T_sexp_leaf_1)])
 (.seq (.st [.eff (some 3) none (.load none (.un (.off 0) (.v 1))),
  .eff (some 4) none (.load none (.un (.off 1) (.v 1))),
  .eff (some 5) none (.load none (.un (.off 2) (.v 1))),
  .eff (some 6) none (.load none (.un (.off 3) (.v 1))),
  .eff none none (.store 5 (.v 2) (.tup (.build [(.int .i64 0),(.int .i64 0),(.int .i64 0),(.str []),.nils] [(0,1),(1,1),(2,1),(3,1)]) (.cons (.v 3) (.cons (.v 4) (.cons (.v 5) (.cons (.v 6) .nil))))))])
 (.ret [.cell (.v 2) (some 5)])))⟩
noncomputable def r55:ERow:=⟨Tryz.f55,⟨[],[],[],[],[],[]⟩,⟨12,[0,1,2,4,6,8,10],[],[]⟩,1,e_sexp_leaf⟩
def e_ref4_blank:EFunc:=⟨1,1,
 (.ret [.e (.pick (.pick (.pick (.bi (.bin .eql) (.v 0) (.c (.int .u8 32))) (.c (.bool true)) (.bi (.bin .eql) (.v 0) (.c (.int .u8 9)))) (.c (.bool true)) (.bi (.bin .eql) (.v 0) (.c (.int .u8 10)))) (.c (.bool true)) (.bi (.bin .eql) (.v 0) (.c (.int .u8 13))))])⟩
noncomputable def r56:ERow:=⟨Tryz.f56,⟨[],[],[],[],[],[]⟩,⟨17,[0],[],[]⟩,1,e_ref4_blank⟩
def b_ref4_one_0:EC :=
 (.seq (.cond (.pick (.bi (.bin .lss) (.v 7) (.un .len (.v 0))) (.tup (.call 0 f_ref3_Sign) (.cons (.un (.ld none) (.bi (.idx 1) (.v 0) (.v 7))) .nil)) (.c (.bool false)))
 (.skip)
 (.exit 1))
 (.block 2 (.st [.sets [(7,(.bi (.bin .add) (.v 7) (.c (.int .i64 1))))]])))
def e_ref4_one:EFunc:=⟨2,24,
 (.seq (.st [.eff (some 2) none (.zbox [(.int .i64 0),(.int .i64 0),(.int .i64 0),(.str [])] T_ref4_one_0)])
 (.seq (.st [.eff (some 3) none (.zbox [(.int .i64 0),(.int .i64 0),(.int .i64 0),(.str [])] T_ref4_one_0),
  .eff none none (.store 4 (.v 3) (.tup (.build [(.int .i64 0),(.int .i64 0),(.int .i64 0),(.str [])] [(1,1)]) (.cons (.v 1) .nil)))])
 (.seq (.seq (.st [.sets [(9,(.un (.ld none) (.bi (.idx 1) (.v 0) (.v 1))))]])
 (.block 0 (.cond (.bi (.bin .eql) (.v 9) (.c (.int .u8 40)))
  (.seq (.st [.eff none none (.store 1 (.un (.off 0) (.v 3)) (.c (.int .i64 4)))])
  (.seq (.st [.eff (some 10) none (.load (some 4) (.v 3)),
   .eff none none (.store 4 (.v 2) (.v 10))])
  (.ret [.cell (.v 2) (some 4),.e (.bi (.bin .add) (.v 1) (.c (.int .i64 1))),.e (.c (.int .i64 0))])))
  (.cond (.bi (.bin .eql) (.v 9) (.c (.int .u8 41)))
  (.seq (.st [.eff none none (.store 1 (.un (.off 0) (.v 3)) (.c (.int .i64 5)))])
  (.seq (.st [.eff (some 11) none (.load (some 4) (.v 3)),
   .eff none none (.store 4 (.v 2) (.v 11))])
  (.ret [.cell (.v 2) (some 4),.e (.bi (.bin .add) (.v 1) (.c (.int .i64 1))),.e (.c (.int .i64 0))])))
  (.cond (.bi (.bin .eql) (.v 9) (.c (.int .u8 126)))
   (.seq (.st [.eff none none (.store 1 (.un (.off 0) (.v 3)) (.c (.int .i64 8)))])
   (.seq (.st [.eff (some 12) none (.load (some 4) (.v 3)),
    .eff none none (.store 4 (.v 2) (.v 12))])
   (.ret [.cell (.v 2) (some 4),.e (.bi (.bin .add) (.v 1) (.c (.int .i64 1))),.e (.c (.int .i64 0))])))
   (.cond (.bi (.bin .eql) (.v 9) (.c (.int .u8 34)))
   (.seq (.st [.sets [(13,(.tup (.call 0 f_ref4_text) (.cons (.v 0) (.cons (.bi (.bin .add) (.v 1) (.c (.int .i64 1))) .nil))))]])
   (.seq (.st [.eff none none (.store 1 (.un (.off 0) (.v 3)) (.c (.int .i64 3)))])
   (.seq (.st [.eff none none (.store 1 (.un (.off 3) (.v 3)) (.un (.ext 0) (.v 13)))])
   (.seq (.st [.eff (some 14) none (.load (some 4) (.v 3)),
    .eff none none (.store 4 (.v 2) (.v 14))])
   (.ret [.cell (.v 2) (some 4),.e (.un (.ext 1) (.v 13)),.e (.un (.ext 2) (.v 13))])))))
   (.cond (.bi (.bin .eql) (.v 9) (.c (.int .u8 63)))
    (.seq (.cond (.pick (.bi (.bin .lss) (.bi (.bin .add) (.v 1) (.c (.int .i64 1))) (.un .len (.v 0))) (.bi (.bin .eql) (.un (.ld none) (.bi (.idx 1) (.v 0) (.bi (.bin .add) (.v 1) (.c (.int .i64 1))))) (.c (.int .u8 42))) (.c (.bool false)))
    (.seq (.st [.sets [(15,(.tup (.call 0 f_ref4_name) (.cons (.v 0) (.cons (.bi (.bin .add) (.v 1) (.c (.int .i64 2))) .nil))))],
     .sets [(4,(.un (.ext 0) (.v 15))),(5,(.un (.ext 1) (.v 15))),(6,(.un (.ext 2) (.v 15)))]])
    (.seq (.cond (.pick (.bi (.bin .eql) (.v 6) (.c (.int .i64 0))) (.pick (.bi (.bin .eql) (.v 5) (.un .len (.v 0))) (.c (.bool true)) (.bi (.bin .neq) (.un (.ld none) (.bi (.idx 1) (.v 0) (.v 5))) (.c (.int .u8 42)))) (.c (.bool false)))
     (.st [.sets [(6,(.c (.int .i64 2)))]])
     (.skip))
    (.seq (.st [.eff none none (.store 1 (.un (.off 0) (.v 3)) (.c (.int .i64 7)))])
    (.seq (.st [.eff none none (.store 1 (.un (.off 3) (.v 3)) (.v 4))])
    (.seq (.st [.eff (some 16) none (.load (some 4) (.v 3)),
     .eff none none (.store 4 (.v 2) (.v 16))])
    (.ret [.cell (.v 2) (some 4),.e (.bi (.bin .add) (.v 5) (.c (.int .i64 1))),.e (.v 6)]))))))
    (.skip))
    (.seq (.st [.sets [(17,(.tup (.call 0 f_ref4_name) (.cons (.v 0) (.cons (.bi (.bin .add) (.v 1) (.c (.int .i64 1))) .nil))))]])
    (.seq (.st [.eff none none (.store 1 (.un (.off 0) (.v 3)) (.c (.int .i64 6)))])
    (.seq (.st [.eff none none (.store 1 (.un (.off 3) (.v 3)) (.un (.ext 0) (.v 17)))])
    (.seq (.st [.eff (some 18) none (.load (some 4) (.v 3)),
     .eff none none (.store 4 (.v 2) (.v 18))])
    (.ret [.cell (.v 2) (some 4),.e (.un (.ext 1) (.v 17)),.e (.un (.ext 2) (.v 17))]))))))
    (.skip))))))))
 (.seq (.st [.sets [(7,(.v 1))]])
 (.seq (.block 1 (.loop [true,true,true,true,false,false,false,true,false,false,false,false,false,false,false,false,false,false,false,false,false,false,false,false] b_ref4_one_0))
 (.seq (.st [.sets [(8,(.un .tostr (.lsub 1 true true false (.v 0) (.v 1) (.v 7) (.c .undef))))]])
 (.seq (.cond (.bi (.bin .eql) (.un .slen (.v 8)) (.c (.int .i64 0)))
 (.seq (.st [.eff (some 19) none (.load (some 4) (.v 3)),
  .eff none none (.store 4 (.v 2) (.v 19))])
 (.ret [.cell (.v 2) (some 4),.e (.c (.int .i64 0)),.e (.c (.int .i64 2))]))
 (.skip))
 (.seq (.cond (.tup (.call 0 f_ref1_Shape) (.cons (.v 8) .nil))
 (.seq (.st [.sets [(20,(.tup (.call 0 f_ref1_Parse) (.cons (.v 8) .nil)))]])
 (.seq (.st [.eff none none (.store 1 (.un (.off 0) (.v 3)) (.c (.int .i64 1)))])
 (.seq (.st [.eff none none (.store 1 (.un (.off 2) (.v 3)) (.un (.ext 0) (.v 20)))])
 (.seq (.st [.eff (some 21) none (.load (some 4) (.v 3)),
  .eff none none (.store 4 (.v 2) (.v 21))])
 (.ret [.cell (.v 2) (some 4),.e (.v 7),.e (.un (.ext 1) (.v 20))])))))
 (.skip))
 (.seq (.cond (.bi (.bin .gtr) (.un .slen (.v 8)) (.c (.int .i64 40)))
 (.seq (.st [.eff (some 22) none (.load (some 4) (.v 3)),
  .eff none none (.store 4 (.v 2) (.v 22))])
 (.ret [.cell (.v 2) (some 4),.e (.c (.int .i64 0)),.e (.c (.int .i64 4))]))
 (.skip))
 (.seq (.st [.eff none none (.store 1 (.un (.off 0) (.v 3)) (.c (.int .i64 2)))])
 (.seq (.st [.eff none none (.store 1 (.un (.off 3) (.v 3)) (.v 8))])
 (.seq (.st [.eff (some 23) none (.load (some 4) (.v 3)),
  .eff none none (.store 4 (.v 2) (.v 23))])
 (.ret [.cell (.v 2) (some 4),.e (.v 7),.e (.c (.int .i64 0))])))))))))))))⟩
noncomputable def r57:ERow:=⟨Tryz.f57,⟨[],[(1,[true,true,false,false,true,false,false,true,false,false,false,false,false,false,false,false,false,true])],[],[],[],[]⟩,⟨165,[0,1,4,7,11,12,13,17,18,26,30,36,42,47,58,76,102,106,117,142,145,153,159,163],[26,73,95,129],[47,76,106,145]⟩,2,e_ref4_one⟩
def e_val_Text:EFunc:=⟨1,6,
 (.seq (.st [.eff (some 1) none (.box 3 T_val_Text_0 (.v 0))])
 (.seq (.st [.eff (some 3) none (.load none (.un (.off 2) (.v 1))),
  .sets [(2,(.v 3))]])
 (.seq (.seq (.st [.eff (some 4) none (.load none (.un (.off 0) (.v 1)))])
 (.block 0 (.seq (.block 3 (.seq (.block 2 (.seq (.block 1 (.seq (.seq (.cond (.bi (.bin .eql) (.v 4) (.c (.int .i64 1)))
   (.exit 1)
   (.skip))
   (.seq (.cond (.bi (.bin .eql) (.v 4) (.c (.int .i64 3)))
   (.exit 2)
   (.skip))
   (.cond (.bi (.bin .eql) (.v 4) (.c (.int .i64 2)))
   (.exit 3)
   (.skip))))
   (.exit 0)))
  (.seq (.st [.eff (some 5) none (.load none (.un (.off 1) (.v 1))),
   .sets [(2,(.tup (.call 0 f_num_Text) (.cons (.v 5) .nil)))]])
  (.exit 0))))
  (.st [.sets [(2,(.tup (.call 0 f_val_Quote) (.cons (.v 2) .nil)))]])))
 (.seq (.st [.sets [(2,(.tup (.call 0 f_strings_Clone) (.cons (.v 2) .nil)))]])
 (.exit 0)))))
 (.ret [.e (.v 2)]))))⟩
noncomputable def r67:ERow:=⟨Tryz.f67,⟨[],[],[],[],[],[]⟩,⟨22,[0,1,3,5,7,15],[],[]⟩,1,e_val_Text⟩
def e_strings_Builder_copyCheck:EFunc:=⟨1,5,
 (.seq (.seq (.st [.eff (some 1) none (.load none (.un (.off 0) (.un .nilchk (.v 0))))])
 (.cond (.bi (.eqs 2 false) (.v 1) (.c .nilp))
 (.st [.eff (some 2) none (.touns (.v 0)),
  .eff (some 3) none (.fromuns 2 T_bld (.v 2)),
  .eff none none (.store 1 (.un (.off 0) (.un .nilchk (.v 0))) (.v 3))])
 (.seq (.st [.eff (some 4) none (.load none (.un (.off 0) (.un .nilchk (.v 0))))])
 (.cond (.bi (.eqs 2 true) (.v 4) (.v 0))
  (.st [.eff none none .fail])
  (.skip)))))
 (.ret []))⟩
noncomputable def r69:ERow:=⟨Tryz.f69,⟨[],[],[],[],[],[]⟩,⟨20,[0,5,9,11,17],[],[]⟩,1,e_strings_Builder_copyCheck⟩
def e_api_Errno_Error:EFunc:=⟨1,1,
 (.seq (.block 0 (.cond (.bi (.bin .eql) (.v 0) (.c (.int .i64 0)))
  (.ret [.e (.c (.str [111,107]))])
  (.cond (.bi (.bin .eql) (.v 0) (.c (.int .i64 1)))
  (.ret [.e (.c (.str [97,114,103]))])
  (.cond (.bi (.bin .eql) (.v 0) (.c (.int .i64 2)))
   (.ret [.e (.c (.str [102,111,114,109]))])
   (.cond (.bi (.bin .eql) (.v 0) (.c (.int .i64 3)))
   (.ret [.e (.c (.str [115,104,111,114,116]))])
   (.cond (.bi (.bin .eql) (.v 0) (.c (.int .i64 4)))
    (.ret [.e (.c (.str [108,111,110,103]))])
    (.cond (.bi (.bin .eql) (.v 0) (.c (.int .i64 5)))
    (.ret [.e (.c (.str [110,97,109,101]))])
    (.cond (.bi (.bin .eql) (.v 0) (.c (.int .i64 6)))
     (.ret [.e (.c (.str [116,119,105,99,101]))])
     (.cond (.bi (.bin .eql) (.v 0) (.c (.int .i64 7)))
     (.ret [.e (.c (.str [98,111,117,110,100]))])
     (.cond (.bi (.bin .eql) (.v 0) (.c (.int .i64 8)))
      (.ret [.e (.c (.str [116,121,112,101]))])
      (.cond (.bi (.bin .eql) (.v 0) (.c (.int .i64 9)))
      (.ret [.e (.c (.str [102,117,101,108]))])
      (.cond (.bi (.bin .eql) (.v 0) (.c (.int .i64 10)))
       (.ret [.e (.c (.str [102,117,108,108]))])
       (.cond (.bi (.bin .eql) (.v 0) (.c (.int .i64 11)))
       (.ret [.e (.c (.str [114,97,110,103,101]))])
       (.skip))))))))))))))
 (.ret [.e (.c (.str [101,114,114,111,114]))]))⟩
noncomputable def r70:ERow:=⟨Tryz.f70,⟨[],[],[],[],[],[]⟩,⟨28,[0],[],[]⟩,1,e_api_Errno_Error⟩
def e_internal_strconv_Itoa:EFunc:=⟨1,1,
 (.ret [.e (.tup (.call 0 f_internal_strconv_FormatInt) (.cons (.v 0) (.cons (.c (.int .i64 10)) .nil)))])⟩
noncomputable def r71:ERow:=⟨Tryz.f71,⟨[],[],[],[],[],[]⟩,⟨5,[0],[],[]⟩,1,e_internal_strconv_Itoa⟩
def e_lex_scanner_more:EFunc:=⟨1,5,
 (.seq (.seq (.st [.eff (some 1) none (.load none (.un (.off 1) (.un .nilchk (.v 0)))),
  .eff (some 2) none (.load none (.un (.off 0) (.un .nilchk (.v 0))))])
 (.cond (.bi (.bin .geq) (.v 1) (.un .len (.v 2)))
 (.ret [.e (.c (.int .u8 0)),.e (.c (.bool false))])
 (.skip)))
 (.seq (.st [.eff (some 3) none (.load none (.un (.off 0) (.un .nilchk (.v 0)))),
  .eff (some 4) none (.load none (.un (.off 1) (.un .nilchk (.v 0))))])
 (.ret [.e (.un (.ld none) (.bi (.idx 1) (.v 3) (.v 4))),.e (.c (.bool true))])))⟩
noncomputable def r72:ERow:=⟨Tryz.f72,⟨[(1,(.cons 0 0 (.cons 0 1 (.cons 0 2 (.cons 0 4 (.cons 0 5 (.cons 0 6 (.cons 1 3 (.cons 1 7 (.cons 0 8 (.cons 0 9 .nil))))))))))),(3,(.cons 0 0 (.cons 0 1 (.cons 0 2 (.cons 0 4 (.cons 0 5 (.cons 0 6 (.cons 1 3 (.cons 1 7 (.cons 0 8 (.cons 1 9 (.cons 0 10 (.cons 0 11 .nil)))))))))))))],[],[],[],[],[]⟩,⟨24,[0,7,11,17,21],[23],[]⟩,1,e_lex_scanner_more⟩
def b_lex_scanner_text_0:EC :=
 (.seq (.cond (.v 4)
 (.skip)
 (.exit 0))
 (.seq (.block 1 (.seq (.st [.eff (some 7) none (.load none (.un (.off 1) (.un .nilchk (.v 0)))),
  .eff none none (.store 1 (.un (.off 1) (.un .nilchk (.v 0))) (.bi (.bin .add) (.v 7) (.c (.int .i64 1))))])
 (.block 2 (.seq (.block 5 (.seq (.block 4 (.seq (.block 3 (.seq (.seq (.cond (.bi (.bin .eql) (.v 3) (.c (.int .u8 34)))
    (.exit 3)
    (.skip))
   (.cond (.bi (.bin .eql) (.v 3) (.c (.int .u8 92)))
    (.exit 4)
    (.skip)))
   (.exit 5)))
   (.seq (.cond (.bi (.bin .gtr) (.un .len (.v 2)) (.c (.int .i64 1000)))
   (.seq (.st [.eff none none (.store 4 (.v 1) (.tup (.build [(.int .i64 0),(.int .i64 0),(.int .i64 0),(.str [])] []) .nil))])
   (.ret [.cell (.v 1) (some 4),.e (.c (.int .i64 4))]))
   (.skip))
   (.seq (.st [.eff none none (.store 4 (.v 1) (.tup (.build [(.int .i64 0),(.int .i64 0),(.int .i64 0),(.str [])] [(0,1),(3,1)]) (.cons (.c (.int .i64 3)) (.cons (.un .tostr (.v 2)) .nil))))])
   (.ret [.cell (.v 1) (some 4),.e (.c (.int .i64 0))])))))
  (.seq (.seq (.st [.eff (some 8) none (.calls [true,true,true,true,true,true,true,true,true,true,true,true,true,true,true,true] f_lex_scanner_more (.cons (.v 0) .nil)),
   .sets [(3,(.un (.ext 0) (.v 8))),(4,(.un (.ext 1) (.v 8)))]])
  (.cond (.un .not (.v 4))
   (.seq (.st [.eff none none (.store 4 (.v 1) (.tup (.build [(.int .i64 0),(.int .i64 0),(.int .i64 0),(.str [])] []) .nil))])
   (.ret [.cell (.v 1) (some 4),.e (.c (.int .i64 3))]))
   (.skip)))
  (.st [.eff (some 9) none (.load none (.un (.off 1) (.un .nilchk (.v 0)))),
   .eff none none (.store 1 (.un (.off 1) (.un .nilchk (.v 0))) (.bi (.bin .add) (.v 9) (.c (.int .i64 1))))]))))
  (.seq (.st [.eff (some 10) none (.append 1 1 T_byte (.v 2) (.tup (.bslice 1 [(.int .u8 0)] 1 [0]) (.cons (.v 3) .nil))),
   .sets [(2,(.v 10))]])
  (.exit 2))))))
 (.st [.eff (some 6) none (.calls [true,true,true,true,true,true,true,true,true,true,true,true,true,true,true,true] f_lex_scanner_more (.cons (.v 0) .nil)),
  .sets [(3,(.un (.ext 0) (.v 6))),(4,(.un (.ext 1) (.v 6)))]])))
def e_lex_scanner_text:EFunc:=⟨1,11,
 (.seq (.st [.eff (some 1) none (.zbox [(.int .i64 0),(.int .i64 0),(.int .i64 0),(.str [])] T_lex_scanner_text_0)])
 (.seq (.st [.sets [(2,(.c .nils))]])
 (.seq (.seq (.st [.eff (some 5) none (.calls [true,true,true,true,true,true,true,true,true,true,true,true,true,true,true,true] f_lex_scanner_more (.cons (.v 0) .nil)),
  .sets [(3,(.un (.ext 0) (.v 5))),(4,(.un (.ext 1) (.v 5)))]])
 (.block 0 (.loop [true,true,true,true,true,false,false,false,false,false,false] b_lex_scanner_text_0)))
 (.seq (.st [.eff none none (.store 4 (.v 1) (.tup (.build [(.int .i64 0),(.int .i64 0),(.int .i64 0),(.str [])] []) .nil))])
 (.ret [.cell (.v 1) (some 4),.e (.c (.int .i64 3))])))))⟩
noncomputable def r73:ERow:=⟨Tryz.f73,⟨[],[(0,[true,false,true,false,true,true,true])],[],[],[],[]⟩,⟨57,[0,2,4,5,6,9,15,21,39,48,55],[],[]⟩,1,e_lex_scanner_text⟩
def e_lex_scanner_variable:EFunc:=⟨1,11,
 (.seq (.st [.eff (some 1) none (.zbox [(.int .i64 0),(.int .i64 0),(.int .i64 0),(.str [])] T_lex_scanner_variable_0)])
 (.seq (.st [.sets [(2,(.c (.int .i64 6)))]])
 (.seq (.seq (.st [.eff (some 6) none (.calls [true,true,true,true,true,true,true,true,true,true,true,true,true,true,true,true] f_lex_scanner_more (.cons (.v 0) .nil)),
  .sets [(3,(.un (.ext 0) (.v 6)))]])
 (.cond (.pick (.un (.ext 1) (.v 6)) (.bi (.bin .eql) (.v 3) (.c (.int .u8 42))) (.c (.bool false)))
 (.seq (.st [.eff (some 7) none (.load none (.un (.off 1) (.un .nilchk (.v 0)))),
  .eff none none (.store 1 (.un (.off 1) (.un .nilchk (.v 0))) (.bi (.bin .add) (.v 7) (.c (.int .i64 1))))])
 (.st [.sets [(2,(.c (.int .i64 7)))]]))
 (.skip)))
 (.seq (.st [.eff (some 8) none (.calls [true,true,true,true,true,true,true,true,true,true,true,true,true,true,true,true] f_lex_scanner_name (.cons (.v 0) .nil)),
  .sets [(4,(.un (.ext 0) (.v 8)))]])
 (.seq (.cond (.bi (.bin .neq) (.un (.ext 1) (.v 8)) (.c (.int .i64 0)))
 (.seq (.st [.eff none none (.store 4 (.v 1) (.tup (.build [(.int .i64 0),(.int .i64 0),(.int .i64 0),(.str [])] []) .nil))])
 (.ret [.cell (.v 1) (some 4),.e (.un (.ext 1) (.v 8))]))
 (.skip))
 (.seq (.cond (.bi (.bin .eql) (.v 2) (.c (.int .i64 7)))
 (.seq (.seq (.st [.eff (some 9) none (.calls [true,true,true,true,true,true,true,true,true,true,true,true,true,true,true,true] f_lex_scanner_more (.cons (.v 0) .nil)),
  .sets [(5,(.un (.ext 0) (.v 9)))]])
 (.cond (.pick (.un .not (.un (.ext 1) (.v 9))) (.c (.bool true)) (.bi (.bin .neq) (.v 5) (.c (.int .u8 42))))
  (.seq (.st [.eff none none (.store 4 (.v 1) (.tup (.build [(.int .i64 0),(.int .i64 0),(.int .i64 0),(.str [])] []) .nil))])
  (.ret [.cell (.v 1) (some 4),.e (.c (.int .i64 2))]))
  (.skip)))
 (.st [.eff (some 10) none (.load none (.un (.off 1) (.un .nilchk (.v 0)))),
  .eff none none (.store 1 (.un (.off 1) (.un .nilchk (.v 0))) (.bi (.bin .add) (.v 10) (.c (.int .i64 1))))]))
 (.skip))
 (.seq (.st [.eff none none (.store 4 (.v 1) (.tup (.build [(.int .i64 0),(.int .i64 0),(.int .i64 0),(.str [])] [(0,1),(3,1)]) (.cons (.v 2) (.cons (.v 4) .nil))))])
 (.ret [.cell (.v 1) (some 4),.e (.c (.int .i64 0))]))))))))⟩
noncomputable def r74:ERow:=⟨Tryz.f74,⟨[],[],[],[],[],[]⟩,⟨61,[0,2,4,5,7,9,13,24,30,41,54],[],[]⟩,1,e_lex_scanner_variable⟩
def b_lex_scanner_word_0:EC :=
 (.seq (.cond (.pick (.v 4) (.tup (.call 0 f_lex_sign) (.cons (.v 3) .nil)) (.c (.bool false)))
 (.skip)
 (.exit 0))
 (.seq (.block 1 (.st [.eff (some 11) none (.load none (.un (.off 1) (.un .nilchk (.v 0)))),
  .eff none none (.store 1 (.un (.off 1) (.un .nilchk (.v 0))) (.bi (.bin .add) (.v 11) (.c (.int .i64 1))))]))
 (.st [.eff (some 10) none (.calls [true,true,true,true,true,true,true,true,true,true,true,true,true,true,true,true] f_lex_scanner_more (.cons (.v 0) .nil)),
  .sets [(3,(.un (.ext 0) (.v 10))),(4,(.un (.ext 1) (.v 10)))]])))
def e_lex_scanner_word:EFunc:=⟨1,15,
 (.seq (.st [.eff (some 1) none (.zbox [(.int .i64 0),(.int .i64 0),(.int .i64 0),(.str [])] T_lex_scanner_word_0)])
 (.seq (.st [.eff (some 8) none (.load none (.un (.off 1) (.un .nilchk (.v 0)))),
  .sets [(2,(.v 8))]])
 (.seq (.seq (.st [.eff (some 9) none (.calls [true,true,true,true,true,true,true,true,true,true,true,true,true,true,true,true] f_lex_scanner_more (.cons (.v 0) .nil)),
  .sets [(3,(.un (.ext 0) (.v 9))),(4,(.un (.ext 1) (.v 9)))]])
 (.block 0 (.loop [true,true,true,true,true,false,false,false,false,false,false,false,false,false,false] b_lex_scanner_word_0)))
 (.seq (.st [.eff (some 12) none (.load none (.un (.off 0) (.un .nilchk (.v 0)))),
  .eff (some 13) none (.load none (.un (.off 1) (.un .nilchk (.v 0)))),
  .sets [(5,(.un .tostr (.lsub 1 true true false (.v 12) (.v 2) (.v 13) (.c .undef))))]])
 (.seq (.st [.sets [(14,(.tup (.call 0 f_num_Parse) (.cons (.v 5) .nil)))],
  .sets [(6,(.un (.ext 0) (.v 14))),(7,(.un (.ext 1) (.v 14)))]])
 (.seq (.block 2 (.cond (.bi (.bin .eql) (.v 5) (.c (.str [])))
  (.seq (.st [.eff none none (.store 4 (.v 1) (.tup (.build [(.int .i64 0),(.int .i64 0),(.int .i64 0),(.str [])] []) .nil))])
  (.ret [.cell (.v 1) (some 4),.e (.c (.int .i64 2))]))
  (.cond (.bi (.bin .eql) (.v 7) (.c (.int .i64 0)))
  (.seq (.st [.eff none none (.store 4 (.v 1) (.tup (.build [(.int .i64 0),(.int .i64 0),(.int .i64 0),(.str [])] [(0,1),(2,1)]) (.cons (.c (.int .i64 1)) (.cons (.v 6) .nil))))])
  (.ret [.cell (.v 1) (some 4),.e (.c (.int .i64 0))]))
  (.cond (.bi (.bin .neq) (.v 7) (.c (.int .i64 2)))
   (.seq (.st [.eff none none (.store 4 (.v 1) (.tup (.build [(.int .i64 0),(.int .i64 0),(.int .i64 0),(.str [])] []) .nil))])
   (.ret [.cell (.v 1) (some 4),.e (.v 7)]))
   (.cond (.bi (.bin .gtr) (.un .slen (.v 5)) (.c (.int .i64 40)))
   (.seq (.st [.eff none none (.store 4 (.v 1) (.tup (.build [(.int .i64 0),(.int .i64 0),(.int .i64 0),(.str [])] []) .nil))])
   (.ret [.cell (.v 1) (some 4),.e (.c (.int .i64 4))]))
   (.skip))))))
 (.seq (.st [.eff none none (.store 4 (.v 1) (.tup (.build [(.int .i64 0),(.int .i64 0),(.int .i64 0),(.str [])] [(0,1),(3,1)]) (.cons (.c (.int .i64 2)) (.cons (.v 5) .nil))))])
 (.ret [.cell (.v 1) (some 4),.e (.c (.int .i64 0))]))))))))⟩
noncomputable def r75:ERow:=⟨Tryz.f75,⟨[(6,(.cons 0 0 (.cons 0 1 (.cons 0 2 (.cons 0 4 (.cons 0 5 (.cons 0 6 (.cons 0 7 (.cons 1 3 (.cons 1 8 (.cons 0 9 (.cons 2 10 (.cons 0 11 .nil)))))))))))))],[(0,[true,false,true,false,true,true,true])],[],[],[],[]⟩,⟨73,[0,2,4,5,6,7,8,9,13,16,26,32,39,44,47],[],[47]⟩,1,e_lex_scanner_word⟩
def b_ref4_text_0:EC :=
 (.seq (.cond (.bi (.bin .lss) (.v 1) (.un .len (.v 0)))
 (.skip)
 (.exit 0))
 (.block 1 (.seq (.st [.sets [(3,(.un (.ld none) (.bi (.idx 1) (.v 0) (.v 1))))]])
 (.seq (.cond (.bi (.bin .eql) (.v 3) (.c (.int .u8 34)))
  (.seq (.cond (.bi (.bin .gtr) (.un .slen (.v 2)) (.c (.int .i64 1000)))
  (.ret [.e (.c (.str [])),.e (.c (.int .i64 0)),.e (.c (.int .i64 4))])
  (.skip))
  (.ret [.e (.v 2),.e (.bi (.bin .add) (.v 1) (.c (.int .i64 1))),.e (.c (.int .i64 0))]))
  (.skip))
 (.seq (.cond (.bi (.bin .eql) (.v 3) (.c (.int .u8 92)))
  (.seq (.st [.sets [(1,(.bi (.bin .add) (.v 1) (.c (.int .i64 1))))]])
  (.seq (.cond (.bi (.bin .eql) (.v 1) (.un .len (.v 0)))
  (.ret [.e (.c (.str [])),.e (.c (.int .i64 0)),.e (.c (.int .i64 3))])
  (.skip))
  (.st [.sets [(3,(.un (.ld none) (.bi (.idx 1) (.v 0) (.v 1))))]])))
  (.skip))
 (.seq (.st [.sets [(2,(.bi (.bin .add) (.v 2) (.un .tostr (.tup (.bslice 1 [(.int .u8 0)] 1 [0]) (.cons (.v 3) .nil)))))]])
 (.st [.sets [(1,(.bi (.bin .add) (.v 1) (.c (.int .i64 1))))]])))))))
def e_ref4_text:EFunc:=⟨2,4,
 (.seq (.st [.sets [(2,(.c (.str [])))]])
 (.seq (.block 0 (.loop [true,true,true,false] b_ref4_text_0))
 (.ret [.e (.c (.str [])),.e (.c (.int .i64 0)),.e (.c (.int .i64 3))])))⟩
noncomputable def r76:ERow:=⟨Tryz.f76,⟨[],[(0,[true,true,false,false,false,false,false,true])],[],[],[],[]⟩,⟨44,[0,1,7,8],[16,36],[]⟩,2,e_ref4_text⟩
def b_ref4_name_0:EC :=
 (.seq (.cond (.pick (.bi (.bin .lss) (.v 2) (.un .len (.v 0))) (.tup (.call 0 f_ref3_Part) (.cons (.un (.ld none) (.bi (.idx 1) (.v 0) (.v 2))) .nil)) (.c (.bool false)))
 (.skip)
 (.exit 0))
 (.block 1 (.st [.sets [(2,(.bi (.bin .add) (.v 2) (.c (.int .i64 1))))]])))
def e_ref4_name:EFunc:=⟨2,4,
 (.seq (.st [.sets [(2,(.v 1))]])
 (.seq (.block 0 (.loop [true,true,true,false] b_ref4_name_0))
 (.seq (.st [.sets [(3,(.un .tostr (.lsub 1 true true false (.v 0) (.v 1) (.v 2) (.c .undef))))]])
 (.seq (.cond (.bi (.bin .gtr) (.un .slen (.v 3)) (.c (.int .i64 40)))
 (.ret [.e (.c (.str [])),.e (.c (.int .i64 0)),.e (.c (.int .i64 4))])
 (.skip))
 (.seq (.cond (.un .not (.tup (.call 0 f_ref3_Good) (.cons (.v 3) .nil)))
 (.ret [.e (.c (.str [])),.e (.c (.int .i64 0)),.e (.c (.int .i64 2))])
 (.skip))
 (.ret [.e (.v 3),.e (.v 2),.e (.c (.int .i64 0))]))))))⟩
noncomputable def r77:ERow:=⟨Tryz.f77,⟨[],[(0,[true,true,false,false,false,false,false,true])],[],[],[],[]⟩,⟨36,[0,1,7,8],[18],[]⟩,2,e_ref4_name⟩
def e_ref3_Sign:EFunc:=⟨1,1,
 (.ret [.e (.pick (.pick (.pick (.pick (.pick (.pick (.pick (.bi (.bin .geq) (.v 0) (.c (.int .u8 33))) (.bi (.bin .leq) (.v 0) (.c (.int .u8 126))) (.c (.bool false))) (.bi (.bin .neq) (.v 0) (.c (.int .u8 40))) (.c (.bool false))) (.bi (.bin .neq) (.v 0) (.c (.int .u8 41))) (.c (.bool false))) (.bi (.bin .neq) (.v 0) (.c (.int .u8 34))) (.c (.bool false))) (.bi (.bin .neq) (.v 0) (.c (.int .u8 59))) (.c (.bool false))) (.bi (.bin .neq) (.v 0) (.c (.int .u8 63))) (.c (.bool false))) (.bi (.bin .neq) (.v 0) (.c (.int .u8 126))) (.c (.bool false)))])⟩
noncomputable def r78:ERow:=⟨Tryz.f78,⟨[],[],[],[],[],[]⟩,⟨33,[0],[],[]⟩,1,e_ref3_Sign⟩
def b_ref1_Shape_0:EC :=
 (.seq (.cond (.bi (.bin .lss) (.v 2) (.un .slen (.v 0)))
 (.skip)
 (.exit 0))
 (.seq (.block 1 (.cond (.pick (.bi (.bin .lss) (.bi .sidx (.v 0) (.v 2)) (.c (.int .u8 48))) (.c (.bool true)) (.bi (.bin .gtr) (.bi .sidx (.v 0) (.v 2)) (.c (.int .u8 57))))
  (.ret [.e (.c (.bool false))])
  (.skip)))
 (.st [.sets [(2,(.bi (.bin .add) (.v 2) (.c (.int .i64 1))))]])))
def e_ref1_Shape:EFunc:=⟨1,3,
 (.seq (.st [.sets [(1,(.c (.int .i64 0)))]])
 (.seq (.cond (.pick (.bi (.bin .gtr) (.un .slen (.v 0)) (.c (.int .i64 0))) (.pick (.bi (.bin .eql) (.bi .sidx (.v 0) (.c (.int .i64 0))) (.c (.int .u8 43))) (.c (.bool true)) (.bi (.bin .eql) (.bi .sidx (.v 0) (.c (.int .i64 0))) (.c (.int .u8 45)))) (.c (.bool false)))
 (.st [.sets [(1,(.c (.int .i64 1)))]])
 (.skip))
 (.seq (.seq (.st [.sets [(2,(.v 1))]])
 (.block 0 (.loop [true,true,true] b_ref1_Shape_0)))
 (.ret [.e (.bi (.bin .gtr) (.un .slen (.v 0)) (.v 1))]))))⟩
noncomputable def r79:ERow:=⟨Tryz.f79,⟨[],[(0,[true,false,false,true,true])],[],[],[],[]⟩,⟨39,[0,3,4],[],[]⟩,1,e_ref1_Shape⟩
def b_ref1_Parse_0:EC :=
 (.seq (.cond (.bi (.bin .lss) (.v 3) (.un .slen (.v 0)))
 (.skip)
 (.exit 0))
 (.seq (.block 1 (.seq (.cond (.pick (.bi (.bin .eql) (.bi .sidx (.v 0) (.v 3)) (.c (.int .u8 43))) (.c (.bool true)) (.bi (.bin .eql) (.bi .sidx (.v 0) (.v 3)) (.c (.int .u8 45))))
  (.exit 1)
  (.skip))
 (.seq (.st [.sets [(4,(.un (.conv .i64) (.bi (.bin .sub) (.bi .sidx (.v 0) (.v 3)) (.c (.int .u8 48)))))]])
 (.seq (.cond (.v 1)
  (.st [.sets [(4,(.bi (.bin .sub) (.c (.int .i64 0)) (.v 4)))]])
  (.skip))
 (.seq (.st [.sets [(7,(.tup (.call 0 f_ref1_Mul) (.cons (.v 2) (.cons (.c (.int .i64 10)) .nil))))],
  .sets [(5,(.un (.ext 0) (.v 7)))]])
 (.seq (.cond (.bi (.bin .neq) (.un (.ext 1) (.v 7)) (.c (.int .i64 0)))
  (.ret [.e (.c (.int .i64 0)),.e (.un (.ext 1) (.v 7))])
  (.skip))
 (.seq (.st [.sets [(8,(.tup (.call 0 f_ref1_Add) (.cons (.v 5) (.cons (.v 4) .nil))))],
  .sets [(6,(.un (.ext 0) (.v 8)))]])
 (.seq (.cond (.bi (.bin .neq) (.un (.ext 1) (.v 8)) (.c (.int .i64 0)))
  (.ret [.e (.c (.int .i64 0)),.e (.un (.ext 1) (.v 8))])
  (.skip))
 (.st [.sets [(2,(.v 6))]])))))))))
 (.st [.sets [(3,(.bi (.bin .add) (.v 3) (.c (.int .i64 1))))]])))
def e_ref1_Parse:EFunc:=⟨1,9,
 (.seq (.cond (.un .not (.tup (.call 0 f_ref1_Shape) (.cons (.v 0) .nil)))
 (.ret [.e (.c (.int .i64 0)),.e (.c (.int .i64 2))])
 (.skip))
 (.seq (.st [.sets [(1,(.bi (.bin .eql) (.bi .sidx (.v 0) (.c (.int .i64 0))) (.c (.int .u8 45))))]])
 (.seq (.st [.sets [(2,(.c (.int .i64 0)))]])
 (.seq (.seq (.st [.sets [(3,(.c (.int .i64 0)))]])
 (.block 0 (.loop [true,true,true,true,false,false,false,false,false] b_ref1_Parse_0)))
 (.ret [.e (.v 2),.e (.c (.int .i64 0))])))))⟩
noncomputable def r80:ERow:=⟨Tryz.f80,⟨[],[(0,[true,false,false,false,true,true,true])],[],[],[],[]⟩,⟨61,[0,4,5,6,7,8,10,42,50],[],[42,50]⟩,1,e_ref1_Parse⟩
def e_ref1_size:EFunc:=⟨1,1,
 (.seq (.cond (.bi (.bin .lss) (.v 0) (.c (.int .i64 0)))
 (.ret [.e (.bi (.bin .add) (.un (.conv .u64) (.bi (.bin .sub) (.c (.int .i64 0)) (.bi (.bin .add) (.v 0) (.c (.int .i64 1))))) (.c (.int .u64 1)))])
 (.skip))
 (.ret [.e (.un (.conv .u64) (.v 0))]))⟩
noncomputable def r81:ERow:=⟨Tryz.f81,⟨[],[],[],[],[],[]⟩,⟨12,[0],[],[]⟩,1,e_ref1_size⟩
def e_num_Text:EFunc:=⟨1,1,
 (.ret [.e (.tup (.call 0 f_strconv_FormatInt) (.cons (.v 0) (.cons (.c (.int .i64 10)) .nil)))])⟩
noncomputable def r85:ERow:=⟨Tryz.f85,⟨[],[],[],[],[],[]⟩,⟨5,[0],[],[]⟩,1,e_num_Text⟩
def b_val_Quote_0:EC :=
 (.seq (.cond (.bi (.bin .lss) (.v 4) (.v 3))
 (.skip)
 (.exit 0))
 (.seq (.block 1 (.seq (.st [.sets [(2,(.v 4))]])
 (.seq (.block 2 (.seq (.seq (.st [.sets [(5,(.bi (.bin .eql) (.bi .sidx (.v 0) (.v 2)) (.c (.int .u8 34))))]])
  (.cond (.v 5)
  (.skip)
  (.st [.sets [(5,(.bi (.bin .eql) (.bi .sidx (.v 0) (.v 2)) (.c (.int .u8 92))))]])))
  (.cond (.v 5)
  (.st [.eff none none (.calls [true,true,true,true,true,true,true,true,true,true,true,true,true,true,true,true] f_strings_Builder_WriteByte (.cons (.v 1) (.cons (.c (.int .u8 92)) .nil)))])
  (.skip))))
 (.st [.eff none none (.calls [true,true,true,true,true,true,true,true,true,true,true,true,true,true,true,true] f_strings_Builder_WriteByte (.cons (.v 1) (.cons (.bi .sidx (.v 0) (.v 2)) .nil)))]))))
 (.st [.sets [(4,(.bi (.bin .add) (.v 4) (.c (.int .i64 1))))]])))
def e_val_Quote:EFunc:=⟨1,7,
 (.seq (.st [.eff (some 1) none (.zbox [.nilp,.nils] T_bld)])
 (.seq (.st [.eff none none (.calls [true,true,true,true,true,true,true,true,true,true,true,true,true,true,true,true] f_strings_Builder_WriteByte (.cons (.v 1) (.cons (.c (.int .u8 34)) .nil)))])
 (.seq (.seq (.st [.sets [(3,(.un .slen (.v 0))),(4,(.c (.int .i64 0)))]])
 (.block 0 (.loop [true,true,false,true,true,false,false] b_val_Quote_0)))
 (.seq (.st [.eff none none (.calls [true,true,true,true,true,true,true,true,true,true,true,true,true,true,true,true] f_strings_Builder_WriteByte (.cons (.v 1) (.cons (.c (.int .u8 34)) .nil)))])
 (.seq (.st [.eff (some 6) none (.calls [true,true,true,true,true,true,true,true,true,true,true,true,true,true,true,true] f_strings_Builder_String (.cons (.v 1) .nil))])
 (.ret [.e (.v 6)]))))))⟩
noncomputable def r86:ERow:=⟨Tryz.f86,⟨[],[(0,[true,false,false,true,false,false,false,true,true])],[],[],[],[]⟩,⟨25,[0,3,4,7,8,14,24],[],[]⟩,1,e_val_Quote⟩
def e_strings_Clone:EFunc:=⟨1,1,
 (.ret [.e (.tup (.call 0 f_internal_stringslite_Clone) (.cons (.v 0) .nil))])⟩
noncomputable def r87:ERow:=⟨Tryz.f87,⟨[],[],[],[],[],[]⟩,⟨5,[0],[],[]⟩,1,e_strings_Clone⟩
def b_lex_scanner_name_0:EC :=
 (.seq (.cond (.pick (.v 3) (.tup (.call 0 f_lex_part) (.cons (.v 2) .nil)) (.c (.bool false)))
 (.skip)
 (.exit 0))
 (.seq (.block 1 (.st [.eff (some 8) none (.load none (.un (.off 1) (.un .nilchk (.v 0)))),
  .eff none none (.store 1 (.un (.off 1) (.un .nilchk (.v 0))) (.bi (.bin .add) (.v 8) (.c (.int .i64 1))))]))
 (.st [.eff (some 7) none (.calls [true,true,true,true,true,true,true,true,true,true,true,true,true,true,true,true] f_lex_scanner_more (.cons (.v 0) .nil)),
  .sets [(2,(.un (.ext 0) (.v 7))),(3,(.un (.ext 1) (.v 7)))]])))
def e_lex_scanner_name:EFunc:=⟨1,11,
 (.seq (.st [.eff (some 5) none (.load none (.un (.off 1) (.un .nilchk (.v 0)))),
  .sets [(1,(.v 5))]])
 (.seq (.seq (.st [.eff (some 6) none (.calls [true,true,true,true,true,true,true,true,true,true,true,true,true,true,true,true] f_lex_scanner_more (.cons (.v 0) .nil)),
  .sets [(2,(.un (.ext 0) (.v 6))),(3,(.un (.ext 1) (.v 6)))]])
 (.block 0 (.loop [true,true,true,true,false,false,false,false,false,false,false] b_lex_scanner_name_0)))
 (.seq (.st [.eff (some 9) none (.load none (.un (.off 0) (.un .nilchk (.v 0)))),
  .eff (some 10) none (.load none (.un (.off 1) (.un .nilchk (.v 0)))),
  .sets [(4,(.un .tostr (.lsub 1 true true false (.v 9) (.v 1) (.v 10) (.c .undef))))]])
 (.seq (.block 2 (.cond (.bi (.bin .gtr) (.un .slen (.v 4)) (.c (.int .i64 40)))
  (.ret [.e (.c (.str [])),.e (.c (.int .i64 4))])
  (.cond (.un .not (.tup (.call 0 f_sym_Good) (.cons (.v 4) .nil)))
  (.ret [.e (.c (.str [])),.e (.c (.int .i64 2))])
  (.skip))))
 (.ret [.e (.v 4),.e (.c (.int .i64 0))])))))⟩
noncomputable def r91:ERow:=⟨Tryz.f91,⟨[(6,(.cons 0 0 (.cons 0 1 (.cons 0 2 (.cons 0 4 (.cons 0 5 (.cons 0 6 (.cons 0 7 (.cons 1 3 (.cons 1 8 (.cons 0 9 (.cons 2 10 (.cons 0 11 .nil)))))))))))))],[(0,[true,false,false,false,true,true,true])],[],[],[],[]⟩,⟨54,[0,4,5,6,7,11,14,24,30,37,42],[],[]⟩,1,e_lex_scanner_name⟩
def e_lex_sign:EFunc:=⟨1,1,
 (.ret [.e (.tup (.call 0 f_val_Right) (.cons (.tup (.call 0 f_val_OfSym) (.cons (.bi (.bin .add) (.c (.str [97])) (.un .tostr (.tup (.bslice 1 [(.int .u8 0)] 1 [0]) (.cons (.v 0) .nil)))) .nil)) .nil))])⟩
noncomputable def r92:ERow:=⟨Tryz.f92,⟨[],[],[],[],[],[]⟩,⟨9,[0],[],[]⟩,1,e_lex_sign⟩
def b_num_Parse_0:EC :=
 (.seq (.cond (.bi (.bin .lss) (.v 7) (.v 6))
 (.skip)
 (.exit 3))
 (.seq (.block 4 (.cond (.pick (.bi (.bin .lss) (.bi .sidx (.v 1) (.v 7)) (.c (.int .u8 48))) (.c (.bool true)) (.bi (.bin .gtr) (.bi .sidx (.v 1) (.v 7)) (.c (.int .u8 57))))
  (.ret [.e (.c (.int .i64 0)),.e (.c (.int .i64 2))])
  (.skip)))
 (.st [.sets [(7,(.bi (.bin .add) (.v 7) (.c (.int .i64 1))))]])))
def b_num_Parse_1:EC :=
 (.seq (.cond (.bi (.bin .lss) (.v 9) (.v 8))
 (.skip)
 (.exit 5))
 (.seq (.block 6 (.seq (.st [.sets [(10,(.tup (.call 0 f_num_Mul) (.cons (.v 3) (.cons (.c (.int .i64 10)) .nil))))],
  .sets [(4,(.un (.ext 0) (.v 10))),(5,(.un (.ext 1) (.v 10)))]])
 (.seq (.cond (.bi (.bin .eql) (.v 5) (.c (.int .i64 0)))
  (.st [.sets [(11,(.tup (.call 0 f_num_Sub) (.cons (.v 4) (.cons (.un (.conv .i64) (.bi (.bin .sub) (.bi .sidx (.v 1) (.v 9)) (.c (.int .u8 48)))) .nil))))],
   .sets [(4,(.un (.ext 0) (.v 11))),(5,(.un (.ext 1) (.v 11)))]])
  (.skip))
 (.seq (.cond (.bi (.bin .neq) (.v 5) (.c (.int .i64 0)))
  (.ret [.e (.c (.int .i64 0)),.e (.v 5)])
  (.skip))
 (.st [.sets [(3,(.v 4))]])))))
 (.st [.sets [(9,(.bi (.bin .add) (.v 9) (.c (.int .i64 1))))]])))
def e_num_Parse:EFunc:=⟨1,13,
 (.seq (.st [.sets [(1,(.v 0)),(2,(.c (.bool false)))]])
 (.seq (.block 0 (.seq (.block 2 (.seq (.block 1 (.seq (.seq (.cond (.tup (.call 0 f_strings_HasPrefix) (.cons (.v 0) (.cons (.c (.str [45])) .nil)))
   (.exit 1)
   (.skip))
  (.cond (.tup (.call 0 f_strings_HasPrefix) (.cons (.v 0) (.cons (.c (.str [43])) .nil)))
   (.exit 2)
   (.skip)))
  (.exit 0)))
  (.st [.sets [(2,(.c (.bool true)))]])))
 (.seq (.st [.sets [(1,(.ssub true false (.v 0) (.c (.int .i64 1)) (.c .undef)))]])
 (.exit 0))))
 (.seq (.cond (.bi (.bin .eql) (.v 1) (.c (.str [])))
 (.ret [.e (.c (.int .i64 0)),.e (.c (.int .i64 2))])
 (.skip))
 (.seq (.seq (.st [.sets [(6,(.un .slen (.v 1))),(7,(.c (.int .i64 0)))]])
 (.block 3 (.loop [false,true,true,false,false,false,true,true,false,false,false,false,false] b_num_Parse_0)))
 (.seq (.st [.sets [(3,(.c (.int .i64 0)))]])
 (.seq (.seq (.st [.sets [(8,(.un .slen (.v 1))),(9,(.c (.int .i64 0)))]])
 (.block 5 (.loop [false,true,true,true,false,false,false,false,true,true,false,false,false] b_num_Parse_1)))
 (.seq (.cond (.v 2)
 (.ret [.e (.v 3),.e (.c (.int .i64 0))])
 (.skip))
 (.seq (.st [.sets [(12,(.tup (.call 0 f_num_Sub) (.cons (.c (.int .i64 0)) (.cons (.v 3) .nil))))]])
 (.ret [.e (.un (.ext 0) (.v 12)),.e (.un (.ext 1) (.v 12))])))))))))⟩
noncomputable def r93:ERow:=⟨Tryz.f93,⟨[],[(3,[false,false,false,false,true,true,false,false,false,false,false,false,false,false,false,false,false,false,false,false,false,false,false,true,true]),(5,[false,false,false,false,true,true,false,true,false,false,false,false,false,false,false,false,false,false,false,false,false,false,false,false,false,false,false,false,false,false,false,false,false,false,false,false,false,false,false,true,true])],[],[],[],[]⟩,⟨71,[0,4,5,7,9,10,23,24,39,40,43,50,68],[],[68,43,50]⟩,1,e_num_Parse⟩
def e_ref3_Part:EFunc:=⟨1,1,
 (.ret [.e (.pick (.pick (.pick (.tup (.call 0 f_ref3_letter) (.cons (.v 0) .nil)) (.c (.bool true)) (.pick (.bi (.bin .geq) (.v 0) (.c (.int .u8 48))) (.bi (.bin .leq) (.v 0) (.c (.int .u8 57))) (.c (.bool false)))) (.c (.bool true)) (.bi (.bin .eql) (.v 0) (.c (.int .u8 45)))) (.c (.bool true)) (.bi (.bin .eql) (.v 0) (.c (.int .u8 95))))])⟩
noncomputable def r94:ERow:=⟨Tryz.f94,⟨[],[],[],[],[],[]⟩,⟨21,[0],[],[]⟩,1,e_ref3_Part⟩
def b_ref3_Good_0:EC :=
 (.seq (.cond (.bi (.bin .lss) (.v 1) (.un .slen (.v 0)))
 (.skip)
 (.exit 0))
 (.seq (.block 1 (.cond (.un .not (.tup (.call 0 f_ref3_Part) (.cons (.bi .sidx (.v 0) (.v 1)) .nil)))
  (.ret [.e (.c (.bool false))])
  (.skip)))
 (.st [.sets [(1,(.bi (.bin .add) (.v 1) (.c (.int .i64 1))))]])))
def e_ref3_Good:EFunc:=⟨1,2,
 (.seq (.cond (.pick (.pick (.bi (.bin .eql) (.un .slen (.v 0)) (.c (.int .i64 0))) (.c (.bool true)) (.bi (.bin .gtr) (.un .slen (.v 0)) (.c (.int .i64 40)))) (.c (.bool true)) (.un .not (.tup (.call 0 f_ref3_letter) (.cons (.bi .sidx (.v 0) (.c (.int .i64 0))) .nil))))
 (.ret [.e (.c (.bool false))])
 (.skip))
 (.seq (.seq (.st [.sets [(1,(.c (.int .i64 0)))]])
 (.block 0 (.loop [true,true] b_ref3_Good_0)))
 (.ret [.e (.c (.bool true))])))⟩
noncomputable def r95:ERow:=⟨Tryz.f95,⟨[],[(0,[true,false,false,true])],[],[],[],[]⟩,⟨29,[0,3],[],[]⟩,1,e_ref3_Good⟩
def e_ref1_Mul:EFunc:=⟨2,5,
 (.seq (.st [.sets [(2,(.tup (.call 0 f_ref1_size) (.cons (.v 0) .nil)))]])
 (.seq (.st [.sets [(3,(.tup (.call 0 f_ref1_size) (.cons (.v 1) .nil)))]])
 (.seq (.st [.sets [(4,(.c (.int .u64 9223372036854775807)))]])
 (.seq (.cond (.bi (.eqs 0 true) (.bi (.bin .lss) (.v 0) (.c (.int .i64 0))) (.bi (.bin .lss) (.v 1) (.c (.int .i64 0))))
 (.st [.sets [(4,(.bi (.bin .add) (.v 4) (.c (.int .u64 1))))]])
 (.skip))
 (.seq (.cond (.pick (.bi (.bin .neq) (.v 2) (.c (.int .u64 0))) (.bi (.bin .gtr) (.v 3) (.bi (.bin .quo) (.v 4) (.v 2))) (.c (.bool false)))
 (.ret [.e (.c (.int .i64 0)),.e (.c (.int .i64 11))])
 (.skip))
 (.ret [.e (.bi (.bin .mul) (.v 0) (.v 1)),.e (.c (.int .i64 0))]))))))⟩
noncomputable def r96:ERow:=⟨Tryz.f96,⟨[],[],[],[],[],[]⟩,⟨32,[0,1,6,7,8],[],[]⟩,2,e_ref1_Mul⟩
def e_ref1_Add:EFunc:=⟨2,2,
 (.seq (.cond (.pick (.pick (.bi (.bin .gtr) (.v 1) (.c (.int .i64 0))) (.bi (.bin .gtr) (.v 0) (.bi (.bin .sub) (.c (.int .i64 9223372036854775807)) (.v 1))) (.c (.bool false))) (.c (.bool true)) (.pick (.bi (.bin .lss) (.v 1) (.c (.int .i64 0))) (.bi (.bin .lss) (.v 0) (.bi (.bin .sub) (.c (.int .i64 (-9223372036854775808))) (.v 1))) (.c (.bool false))))
 (.ret [.e (.c (.int .i64 0)),.e (.c (.int .i64 11))])
 (.skip))
 (.ret [.e (.bi (.bin .add) (.v 0) (.v 1)),.e (.c (.int .i64 0))]))⟩
noncomputable def r97:ERow:=⟨Tryz.f97,⟨[],[],[],[],[],[]⟩,⟨27,[0,1],[],[]⟩,2,e_ref1_Add⟩
def e_strconv_FormatInt:EFunc:=⟨2,2,
 (.ret [.e (.tup (.call 0 f_internal_strconv_FormatInt) (.cons (.v 0) (.cons (.v 1) .nil)))])⟩
noncomputable def r99:ERow:=⟨Tryz.f99,⟨[],[],[],[],[],[]⟩,⟨8,[0,1],[],[]⟩,2,e_strconv_FormatInt⟩
def e_strings_Builder_WriteByte:EFunc:=⟨2,4,
 (.seq (.st [.eff none none (.calls [true,true,true,true,true,true,true,true,true,true,true,true,true,true,true,true] f_strings_Builder_copyCheck (.cons (.v 0) .nil))])
 (.seq (.st [.eff (some 2) none (.load none (.un (.off 1) (.un .nilchk (.v 0)))),
  .eff (some 3) none (.append 1 1 T_byte (.v 2) (.tup (.bslice 1 [(.int .u8 0)] 1 [0]) (.cons (.v 1) .nil))),
  .eff none none (.store 1 (.un (.off 1) (.un .nilchk (.v 0))) (.v 3))])
 (.ret [.e (.c .nili)])))⟩
noncomputable def r100:ERow:=⟨Tryz.f100,⟨[],[],[],[],[],[]⟩,⟨17,[0,1,11,14],[],[]⟩,2,e_strings_Builder_WriteByte⟩
def e_lex_part:EFunc:=⟨1,1,
 (.ret [.e (.tup (.call 0 f_sym_Good) (.cons (.bi (.bin .add) (.c (.str [97])) (.un .tostr (.tup (.bslice 1 [(.int .u8 0)] 1 [0]) (.cons (.v 0) .nil)))) .nil))])⟩
noncomputable def r106:ERow:=⟨Tryz.f106,⟨[],[],[],[],[],[]⟩,⟨8,[0],[],[]⟩,1,e_lex_part⟩
def b_sym_Good_0:EC :=
 (.seq (.cond (.bi (.bin .lss) (.v 2) (.v 1))
 (.skip)
 (.exit 0))
 (.seq (.block 1 (.cond (.bi (.bin .eql) (.tup (.call 0 f_sym_class) (.cons (.bi .sidx (.v 0) (.v 2)) .nil)) (.c (.int .i64 0)))
  (.ret [.e (.c (.bool false))])
  (.skip)))
 (.st [.sets [(2,(.bi (.bin .add) (.v 2) (.c (.int .i64 1))))]])))
def e_sym_Good:EFunc:=⟨1,3,
 (.seq (.cond (.pick (.pick (.bi (.bin .lss) (.un .slen (.v 0)) (.c (.int .i64 1))) (.c (.bool true)) (.bi (.bin .gtr) (.un .slen (.v 0)) (.c (.int .i64 40)))) (.c (.bool true)) (.bi (.bin .lss) (.tup (.call 0 f_sym_class) (.cons (.bi .sidx (.v 0) (.c (.int .i64 0))) .nil)) (.c (.int .i64 2))))
 (.ret [.e (.c (.bool false))])
 (.skip))
 (.seq (.seq (.st [.sets [(1,(.un .slen (.v 0))),(2,(.c (.int .i64 0)))]])
 (.block 0 (.loop [true,true,true] b_sym_Good_0)))
 (.ret [.e (.c (.bool true))])))⟩
noncomputable def r107:ERow:=⟨Tryz.f107,⟨[],[(0,[true,false,false,false,false,false,false,false,false,false,false,false,false,false,false,false,false,false,false,true,true])],[],[],[],[]⟩,⟨29,[0,19,20],[],[]⟩,1,e_sym_Good⟩
def e_val_Right:EFunc:=⟨1,8,
 (.seq (.st [.eff (some 1) none (.box 3 T_val_Right_0 (.v 0))])
 (.seq (.seq (.st [.eff (some 2) none (.load none (.un (.off 0) (.v 1)))])
 (.block 0 (.cond (.bi (.bin .eql) (.v 2) (.c (.int .i64 1)))
  (.seq (.st [.eff (some 3) none (.load none (.un (.off 2) (.v 1)))])
  (.ret [.e (.bi (.bin .eql) (.v 3) (.c (.str [])))]))
  (.cond (.bi (.bin .eql) (.v 2) (.c (.int .i64 2)))
  (.seq (.st [.eff (some 4) none (.load none (.un (.off 1) (.v 1))),
   .eff (some 5) (some ((.bi (.bin .eql) (.v 4) (.c (.int .i64 0))),true)) (.load none (.un (.off 2) (.v 1)))])
  (.ret [.e (.pick (.bi (.bin .eql) (.v 4) (.c (.int .i64 0))) (.tup (.call 0 f_val_symbol) (.cons (.v 5) .nil)) (.c (.bool false)))]))
  (.cond (.bi (.bin .eql) (.v 2) (.c (.int .i64 3)))
   (.seq (.st [.eff (some 6) none (.load none (.un (.off 1) (.v 1))),
    .eff (some 7) (some ((.bi (.bin .eql) (.v 6) (.c (.int .i64 0))),true)) (.load none (.un (.off 2) (.v 1)))])
   (.ret [.e (.pick (.bi (.bin .eql) (.v 6) (.c (.int .i64 0))) (.bi (.bin .leq) (.un .slen (.v 7)) (.c (.int .i64 1000))) (.c (.bool false)))]))
   (.skip))))))
 (.ret [.e (.c (.bool false))])))⟩
noncomputable def r108:ERow:=⟨Tryz.f108,⟨[],[],[],[],[],[]⟩,⟨31,[0,1,4,8,13,17,23,27],[],[]⟩,1,e_val_Right⟩
def e_val_OfSym:EFunc:=⟨1,2,
 (.seq (.st [.eff (some 1) none (.zbox [(.int .i64 0),(.int .i64 0),(.str [])] T_val_OfSym_0)])
 (.seq (.st [.eff none none (.store 3 (.v 1) (.tup (.build [(.int .i64 0),(.int .i64 0),(.str [])] [(0,1),(2,1)]) (.cons (.c (.int .i64 2)) (.cons (.v 0) .nil))))])
 (.ret [.cell (.v 1) (some 3)])))⟩
noncomputable def r109:ERow:=⟨Tryz.f109,⟨[],[],[],[],[],[]⟩,⟨5,[0,2],[],[]⟩,1,e_val_OfSym⟩
def e_strings_HasPrefix:EFunc:=⟨2,2,
 (.ret [.e (.tup (.call 0 f_internal_stringslite_HasPrefix) (.cons (.v 0) (.cons (.v 1) .nil)))])⟩
noncomputable def r110:ERow:=⟨Tryz.f110,⟨[],[],[],[],[],[]⟩,⟨8,[0,1],[],[]⟩,2,e_strings_HasPrefix⟩
def e_num_Mul:EFunc:=⟨2,6,
 (.seq (.st [.sets [(4,(.tup (.call 0 f_math_bits_Mul64) (.cons (.tup (.call 0 f_num_abs) (.cons (.v 0) .nil)) (.cons (.tup (.call 0 f_num_abs) (.cons (.v 1) .nil)) .nil))))],
  .sets [(2,(.un (.ext 1) (.v 4)))]])
 (.seq (.st [.sets [(3,(.bi (.eqs 0 true) (.bi (.bin .lss) (.v 0) (.c (.int .i64 0))) (.bi (.bin .lss) (.v 1) (.c (.int .i64 0)))))]])
 (.seq (.block 0 (.seq (.seq (.st [.sets [(5,(.bi (.bin .gtr) (.un (.ext 0) (.v 4)) (.c (.int .u64 0))))]])
 (.cond (.v 5)
  (.skip)
  (.seq (.st [.sets [(5,(.bi (.bin .gtr) (.v 2) (.c (.int .u64 9223372036854775808))))]])
  (.cond (.v 5)
  (.skip)
  (.st [.sets [(5,(.pick (.bi (.bin .eql) (.v 2) (.c (.int .u64 9223372036854775808))) (.un .not (.v 3)) (.c (.bool false))))]])))))
 (.cond (.v 5)
  (.ret [.e (.c (.int .i64 0)),.e (.c (.int .i64 11))])
  (.cond (.v 3)
  (.ret [.e (.un (.conv .i64) (.bi (.bin .sub) (.c (.int .u64 0)) (.v 2))),.e (.c (.int .i64 0))])
  (.skip)))))
 (.ret [.e (.un (.conv .i64) (.v 2)),.e (.c (.int .i64 0))]))))⟩
noncomputable def r111:ERow:=⟨Tryz.f111,⟨[],[],[],[],[],[]⟩,⟨40,[0,1,7,8,9,22],[],[9]⟩,2,e_num_Mul⟩
def e_num_Sub:EFunc:=⟨2,2,
 (.seq (.cond (.pick (.pick (.bi (.bin .lss) (.v 1) (.c (.int .i64 0))) (.bi (.bin .gtr) (.v 0) (.bi (.bin .add) (.c (.int .i64 9223372036854775807)) (.v 1))) (.c (.bool false))) (.c (.bool true)) (.pick (.bi (.bin .gtr) (.v 1) (.c (.int .i64 0))) (.bi (.bin .lss) (.v 0) (.bi (.bin .add) (.c (.int .i64 (-9223372036854775808))) (.v 1))) (.c (.bool false))))
 (.ret [.e (.c (.int .i64 0)),.e (.c (.int .i64 11))])
 (.skip))
 (.ret [.e (.bi (.bin .sub) (.v 0) (.v 1)),.e (.c (.int .i64 0))]))⟩
noncomputable def r112:ERow:=⟨Tryz.f112,⟨[],[],[],[],[],[]⟩,⟨27,[0,1],[],[]⟩,2,e_num_Sub⟩
def e_ref3_letter:EFunc:=⟨1,1,
 (.ret [.e (.pick (.pick (.bi (.bin .geq) (.v 0) (.c (.int .u8 97))) (.bi (.bin .leq) (.v 0) (.c (.int .u8 122))) (.c (.bool false))) (.c (.bool true)) (.pick (.bi (.bin .geq) (.v 0) (.c (.int .u8 65))) (.bi (.bin .leq) (.v 0) (.c (.int .u8 90))) (.c (.bool false))))])⟩
noncomputable def r113:ERow:=⟨Tryz.f113,⟨[],[],[],[],[],[]⟩,⟨17,[0],[],[]⟩,1,e_ref3_letter⟩
def e_sym_class:EFunc:=⟨1,4,
 (.seq (.st [.sets [(1,(.c (.int .i64 0)))]])
 (.seq (.block 0 (.seq (.block 2 (.seq (.block 1 (.seq (.seq (.seq (.seq (.st [.sets [(2,(.pick (.bi (.bin .geq) (.v 0) (.c (.int .u8 97))) (.bi (.bin .leq) (.v 0) (.c (.int .u8 122))) (.c (.bool false))))]])
  (.cond (.v 2)
   (.skip)
   (.st [.sets [(2,(.pick (.bi (.bin .geq) (.v 0) (.c (.int .u8 65))) (.bi (.bin .leq) (.v 0) (.c (.int .u8 90))) (.c (.bool false))))]])))
  (.cond (.v 2)
   (.exit 1)
   (.skip)))
  (.seq (.seq (.st [.sets [(3,(.pick (.bi (.bin .geq) (.v 0) (.c (.int .u8 48))) (.bi (.bin .leq) (.v 0) (.c (.int .u8 57))) (.c (.bool false))))]])
  (.cond (.v 3)
   (.skip)
   (.seq (.st [.sets [(3,(.bi (.bin .eql) (.v 0) (.c (.int .u8 45))))]])
   (.cond (.v 3)
   (.skip)
   (.st [.sets [(3,(.bi (.bin .eql) (.v 0) (.c (.int .u8 95))))]])))))
  (.cond (.v 3)
   (.exit 2)
   (.skip))))
  (.exit 0)))
  (.st [.sets [(1,(.bi (.bin .add) (.v 1) (.c (.int .i64 1))))]])))
 (.seq (.st [.sets [(1,(.bi (.bin .add) (.v 1) (.c (.int .i64 1))))]])
 (.exit 0))))
 (.ret [.e (.v 1)])))⟩
noncomputable def r119:ERow:=⟨Tryz.f119,⟨[],[],[],[],[],[]⟩,⟨33,[0,3,4,17],[],[]⟩,1,e_sym_class⟩
def b_val_symbol_0:EC :=
 (.seq (.cond (.bi (.bin .lss) (.v 3) (.v 2))
 (.skip)
 (.exit 0))
 (.seq (.block 1 (.cond (.un .not (.tup (.call 0 f_val_sign) (.cons (.bi .sidx (.v 0) (.v 3)) .nil)))
  (.ret [.e (.c (.bool false))])
  (.skip)))
 (.st [.sets [(3,(.bi (.bin .add) (.v 3) (.c (.int .i64 1))))]])))
def e_val_symbol:EFunc:=⟨1,5,
 (.seq (.cond (.pick (.bi (.bin .lss) (.un .slen (.v 0)) (.c (.int .i64 1))) (.c (.bool true)) (.bi (.bin .gtr) (.un .slen (.v 0)) (.c (.int .i64 40))))
 (.ret [.e (.c (.bool false))])
 (.skip))
 (.seq (.seq (.st [.sets [(2,(.un .slen (.v 0))),(3,(.c (.int .i64 0)))]])
 (.block 0 (.loop [true,false,true,true,false] b_val_symbol_0)))
 (.seq (.st [.sets [(4,(.tup (.call 0 f_num_Parse) (.cons (.v 0) .nil)))],
  .sets [(1,(.un (.ext 0) (.v 4)))]])
 (.ret [.e (.bi (.bin .eql) (.un (.ext 1) (.v 4)) (.c (.int .i64 2)))]))))⟩
noncomputable def r120:ERow:=⟨Tryz.f120,⟨[],[(0,[true,false,false,false,false,false,false,false,false,false,false,false,false,false,false,true,true])],[],[],[],[]⟩,⟨32,[0,4,15,16,25],[],[25]⟩,1,e_val_symbol⟩
def e_internal_stringslite_HasPrefix:EFunc:=⟨2,2,
 (.ret [.e (.pick (.bi (.bin .geq) (.un .slen (.v 0)) (.un .slen (.v 1))) (.bi (.bin .eql) (.ssub false true (.v 0) (.c .undef) (.un .slen (.v 1))) (.v 1)) (.c (.bool false)))])⟩
noncomputable def r121:ERow:=⟨Tryz.f121,⟨[],[],[],[],[],[]⟩,⟨18,[0,1],[],[]⟩,2,e_internal_stringslite_HasPrefix⟩
def e_math_bits_Mul64:EFunc:=⟨2,2,
 (.ret [.e (.bi (.bin .add) (.bi (.bin .add) (.bi (.bin .mul) (.bi (.bin .shr) (.v 0) (.c (.int .u64 32))) (.bi (.bin .shr) (.v 1) (.c (.int .u64 32)))) (.bi (.bin .shr) (.bi (.bin .add) (.bi (.bin .mul) (.bi (.bin .shr) (.v 0) (.c (.int .u64 32))) (.bi (.bin .and) (.v 1) (.c (.int .u64 4294967295)))) (.bi (.bin .shr) (.bi (.bin .mul) (.bi (.bin .and) (.v 0) (.c (.int .u64 4294967295))) (.bi (.bin .and) (.v 1) (.c (.int .u64 4294967295)))) (.c (.int .u64 32)))) (.c (.int .u64 32)))) (.bi (.bin .shr) (.bi (.bin .add) (.bi (.bin .and) (.bi (.bin .add) (.bi (.bin .mul) (.bi (.bin .shr) (.v 0) (.c (.int .u64 32))) (.bi (.bin .and) (.v 1) (.c (.int .u64 4294967295)))) (.bi (.bin .shr) (.bi (.bin .mul) (.bi (.bin .and) (.v 0) (.c (.int .u64 4294967295))) (.bi (.bin .and) (.v 1) (.c (.int .u64 4294967295)))) (.c (.int .u64 32)))) (.c (.int .u64 4294967295))) (.bi (.bin .mul) (.bi (.bin .and) (.v 0) (.c (.int .u64 4294967295))) (.bi (.bin .shr) (.v 1) (.c (.int .u64 32))))) (.c (.int .u64 32)))),.e (.bi (.bin .mul) (.v 0) (.v 1))])⟩
noncomputable def r122:ERow:=⟨Tryz.f122,⟨[],[],[],[],[],[]⟩,⟨51,[0,1],[],[]⟩,2,e_math_bits_Mul64⟩
def e_num_abs:EFunc:=⟨1,1,
 (.seq (.cond (.bi (.bin .lss) (.v 0) (.c (.int .i64 0)))
 (.ret [.e (.bi (.bin .sub) (.c (.int .u64 0)) (.un (.conv .u64) (.v 0)))])
 (.skip))
 (.ret [.e (.un (.conv .u64) (.v 0))]))⟩
noncomputable def r123:ERow:=⟨Tryz.f123,⟨[],[],[],[],[],[]⟩,⟨10,[0],[],[]⟩,1,e_num_abs⟩
def e_val_sign:EFunc:=⟨1,2,
 (.seq (.block 0 (.seq (.seq (.st [.sets [(1,(.bi (.bin .eql) (.v 0) (.c (.int .u8 40))))]])
 (.cond (.v 1)
  (.skip)
  (.seq (.st [.sets [(1,(.bi (.bin .eql) (.v 0) (.c (.int .u8 41))))]])
  (.cond (.v 1)
  (.skip)
  (.seq (.st [.sets [(1,(.bi (.bin .eql) (.v 0) (.c (.int .u8 34))))]])
  (.cond (.v 1)
   (.skip)
   (.seq (.st [.sets [(1,(.bi (.bin .eql) (.v 0) (.c (.int .u8 59))))]])
   (.cond (.v 1)
   (.skip)
   (.seq (.st [.sets [(1,(.bi (.bin .eql) (.v 0) (.c (.int .u8 63))))]])
   (.cond (.v 1)
    (.skip)
    (.st [.sets [(1,(.bi (.bin .eql) (.v 0) (.c (.int .u8 126))))]])))))))))))
 (.cond (.v 1)
  (.ret [.e (.c (.bool false))])
  (.skip))))
 (.ret [.e (.pick (.bi (.bin .geq) (.v 0) (.c (.int .u8 33))) (.bi (.bin .leq) (.v 0) (.c (.int .u8 126))) (.c (.bool false)))]))⟩
noncomputable def r126:ERow:=⟨Tryz.f126,⟨[],[],[],[],[],[]⟩,⟨17,[0,4],[],[]⟩,1,e_val_sign⟩
def eT:BT EFunc:=(.node 69 e_strings_Builder_copyCheck (.node 35 e_ref4_Scan (.node 22 e_sexp_Head (.node 14 e_sexp_Value (.node 11 e_sexp_Read (.node 10 e_law5_known (.node 6 e_law5_ReadJoins .leaf .leaf) .leaf) (.node 12 e_ref5_Read .leaf .leaf)) (.node 18 e_sexp_Text (.node 17 e_law5_Of (.node 16 e_law5_Places .leaf .leaf) .leaf) (.node 20 e_sexp_Count .leaf .leaf))) (.node 29 e_sexp_Told (.node 26 e_ref5_Same (.node 25 e_sexp_Same (.node 24 e_sexp_Lines .leaf .leaf) .leaf) (.node 27 e_ref5_At .leaf .leaf)) (.node 33 e_sexp_reader_step (.node 32 e_lex_Scan (.node 31 e_sexp_Number .leaf .leaf) .leaf) (.node 34 e_sexp_fault .leaf .leaf)))) (.node 50 e_lex_scanner_skip (.node 45 e_strings_Builder_String (.node 42 e_lex_Text (.node 40 e_law5_places (.node 36 e_ref5_reader_node .leaf .leaf) .leaf) (.node 44 e_strings_Builder_WriteString .leaf .leaf)) (.node 48 e_strconv_Itoa (.node 47 e_sexp_last (.node 46 e_slices_EqualFunc_sexp_Node_sexp_Node_sexp_Node_sexp_Node .leaf .leaf) .leaf) (.node 49 e_lex_fault .leaf .leaf))) (.node 55 e_sexp_leaf (.node 53 e_sexp_reader_count (.node 52 e_sexp_reader_not (.node 51 e_lex_scanner_token .leaf .leaf) .leaf) (.node 54 e_sexp_reader_put .leaf .leaf)) (.node 57 e_ref4_one (.node 56 e_ref4_blank .leaf .leaf) (.node 67 e_val_Text .leaf .leaf))))) (.node 95 e_ref3_Good (.node 79 e_ref1_Shape (.node 74 e_lex_scanner_variable (.node 72 e_lex_scanner_more (.node 71 e_internal_strconv_Itoa (.node 70 e_api_Errno_Error .leaf .leaf) .leaf) (.node 73 e_lex_scanner_text .leaf .leaf)) (.node 77 e_ref4_name (.node 76 e_ref4_text (.node 75 e_lex_scanner_word .leaf .leaf) .leaf) (.node 78 e_ref3_Sign .leaf .leaf))) (.node 87 e_strings_Clone (.node 85 e_num_Text (.node 81 e_ref1_size (.node 80 e_ref1_Parse .leaf .leaf) .leaf) (.node 86 e_val_Quote .leaf .leaf)) (.node 93 e_num_Parse (.node 92 e_lex_sign (.node 91 e_lex_scanner_name .leaf .leaf) .leaf) (.node 94 e_ref3_Part .leaf .leaf)))) (.node 111 e_num_Mul (.node 106 e_lex_part (.node 99 e_strconv_FormatInt (.node 97 e_ref1_Add (.node 96 e_ref1_Mul .leaf .leaf) .leaf) (.node 100 e_strings_Builder_WriteByte .leaf .leaf)) (.node 109 e_val_OfSym (.node 108 e_val_Right (.node 107 e_sym_Good .leaf .leaf) .leaf) (.node 110 e_strings_HasPrefix .leaf .leaf))) (.node 121 e_internal_stringslite_HasPrefix (.node 119 e_sym_class (.node 113 e_ref3_letter (.node 112 e_num_Sub .leaf .leaf) .leaf) (.node 120 e_val_symbol .leaf .leaf)) (.node 123 e_num_abs (.node 122 e_math_bits_Mul64 .leaf .leaf) (.node 126 e_val_sign .leaf .leaf))))))
noncomputable def rT:BT ERow:=(.node 69 r69 (.node 35 r35 (.node 22 r22 (.node 14 r14 (.node 11 r11 (.node 10 r10 (.node 6 r6 .leaf .leaf) .leaf) (.node 12 r12 .leaf .leaf)) (.node 18 r18 (.node 17 r17 (.node 16 r16 .leaf .leaf) .leaf) (.node 20 r20 .leaf .leaf))) (.node 29 r29 (.node 26 r26 (.node 25 r25 (.node 24 r24 .leaf .leaf) .leaf) (.node 27 r27 .leaf .leaf)) (.node 33 r33 (.node 32 r32 (.node 31 r31 .leaf .leaf) .leaf) (.node 34 r34 .leaf .leaf)))) (.node 50 r50 (.node 45 r45 (.node 42 r42 (.node 40 r40 (.node 36 r36 .leaf .leaf) .leaf) (.node 44 r44 .leaf .leaf)) (.node 48 r48 (.node 47 r47 (.node 46 r46 .leaf .leaf) .leaf) (.node 49 r49 .leaf .leaf))) (.node 55 r55 (.node 53 r53 (.node 52 r52 (.node 51 r51 .leaf .leaf) .leaf) (.node 54 r54 .leaf .leaf)) (.node 57 r57 (.node 56 r56 .leaf .leaf) (.node 67 r67 .leaf .leaf))))) (.node 95 r95 (.node 79 r79 (.node 74 r74 (.node 72 r72 (.node 71 r71 (.node 70 r70 .leaf .leaf) .leaf) (.node 73 r73 .leaf .leaf)) (.node 77 r77 (.node 76 r76 (.node 75 r75 .leaf .leaf) .leaf) (.node 78 r78 .leaf .leaf))) (.node 87 r87 (.node 85 r85 (.node 81 r81 (.node 80 r80 .leaf .leaf) .leaf) (.node 86 r86 .leaf .leaf)) (.node 93 r93 (.node 92 r92 (.node 91 r91 .leaf .leaf) .leaf) (.node 94 r94 .leaf .leaf)))) (.node 111 r111 (.node 106 r106 (.node 99 r99 (.node 97 r97 (.node 96 r96 .leaf .leaf) .leaf) (.node 100 r100 .leaf .leaf)) (.node 109 r109 (.node 108 r108 (.node 107 r107 .leaf .leaf) .leaf) (.node 110 r110 .leaf .leaf))) (.node 121 r121 (.node 119 r119 (.node 113 r113 (.node 112 r112 .leaf .leaf) .leaf) (.node 120 r120 .leaf .leaf)) (.node 123 r123 (.node 122 r122 .leaf .leaf) (.node 126 r126 .leaf .leaf))))))
def efns:FuncId->Option EFunc:=fun f=>eT.get f
noncomputable def rows:FuncId->Option ERow:=fun f=>rT.get f
theorem ok6:rowB Tryz.prog sh r6=some e_law5_ReadJoins:=rowB_of (by kernel_rfl)
theorem g6:Tryz.prog.funcs[6]? = some Tryz.f6:=by kernel_rfl
theorem ok10:rowB Tryz.prog sh r10=some e_law5_known:=rowB_of (by kernel_rfl)
theorem g10:Tryz.prog.funcs[10]? = some Tryz.f10:=by kernel_rfl
theorem ok11:rowB Tryz.prog sh r11=some e_sexp_Read:=rowB_of (by kernel_rfl)
theorem g11:Tryz.prog.funcs[11]? = some Tryz.f11:=by kernel_rfl
theorem ok12:rowB Tryz.prog sh r12=some e_ref5_Read:=rowB_of (by kernel_rfl)
theorem g12:Tryz.prog.funcs[12]? = some Tryz.f12:=by kernel_rfl
theorem ok14:rowB Tryz.prog sh r14=some e_sexp_Value:=rowB_of (by kernel_rfl)
theorem g14:Tryz.prog.funcs[14]? = some Tryz.f14:=by kernel_rfl
theorem ok16:rowB Tryz.prog sh r16=some e_law5_Places:=rowB_of (by kernel_rfl)
theorem g16:Tryz.prog.funcs[16]? = some Tryz.f16:=by kernel_rfl
theorem ok17:rowB Tryz.prog sh r17=some e_law5_Of:=rowB_of (by kernel_rfl)
theorem g17:Tryz.prog.funcs[17]? = some Tryz.f17:=by kernel_rfl
theorem ok18:rowB Tryz.prog sh r18=some e_sexp_Text:=rowB_of (by kernel_rfl)
theorem g18:Tryz.prog.funcs[18]? = some Tryz.f18:=by kernel_rfl
theorem ok20:rowB Tryz.prog sh r20=some e_sexp_Count:=rowB_of (by kernel_rfl)
theorem g20:Tryz.prog.funcs[20]? = some Tryz.f20:=by kernel_rfl
theorem ok22:rowB Tryz.prog sh r22=some e_sexp_Head:=rowB_of (by kernel_rfl)
theorem g22:Tryz.prog.funcs[22]? = some Tryz.f22:=by kernel_rfl
theorem ok24:rowB Tryz.prog sh r24=some e_sexp_Lines:=rowB_of (by kernel_rfl)
theorem g24:Tryz.prog.funcs[24]? = some Tryz.f24:=by kernel_rfl
theorem ok25:rowB Tryz.prog sh r25=some e_sexp_Same:=rowB_of (by kernel_rfl)
theorem g25:Tryz.prog.funcs[25]? = some Tryz.f25:=by kernel_rfl
theorem ok26:rowB Tryz.prog sh r26=some e_ref5_Same:=rowB_of (by kernel_rfl)
theorem g26:Tryz.prog.funcs[26]? = some Tryz.f26:=by kernel_rfl
theorem ok27:rowB Tryz.prog sh r27=some e_ref5_At:=rowB_of (by kernel_rfl)
theorem g27:Tryz.prog.funcs[27]? = some Tryz.f27:=by kernel_rfl
theorem ok29:rowB Tryz.prog sh r29=some e_sexp_Told:=rowB_of (by kernel_rfl)
theorem g29:Tryz.prog.funcs[29]? = some Tryz.f29:=by kernel_rfl
theorem ok31:rowB Tryz.prog sh r31=some e_sexp_Number:=rowB_of (by kernel_rfl)
theorem g31:Tryz.prog.funcs[31]? = some Tryz.f31:=by kernel_rfl
theorem ok32:rowB Tryz.prog sh r32=some e_lex_Scan:=rowB_of (by kernel_rfl)
theorem g32:Tryz.prog.funcs[32]? = some Tryz.f32:=by kernel_rfl
theorem ok33:rowB Tryz.prog sh r33=some e_sexp_reader_step:=rowB_of (by kernel_rfl)
theorem g33:Tryz.prog.funcs[33]? = some Tryz.f33:=by kernel_rfl
theorem ok34:rowB Tryz.prog sh r34=some e_sexp_fault:=rowB_of (by kernel_rfl)
theorem g34:Tryz.prog.funcs[34]? = some Tryz.f34:=by kernel_rfl
theorem ok35:rowB Tryz.prog sh r35=some e_ref4_Scan:=rowB_of (by kernel_rfl)
theorem g35:Tryz.prog.funcs[35]? = some Tryz.f35:=by kernel_rfl
theorem ok36:rowB Tryz.prog sh r36=some e_ref5_reader_node:=rowB_of (by kernel_rfl)
theorem g36:Tryz.prog.funcs[36]? = some Tryz.f36:=by kernel_rfl
theorem ok40:rowB Tryz.prog sh r40=some e_law5_places:=rowB_of (by kernel_rfl)
theorem g40:Tryz.prog.funcs[40]? = some Tryz.f40:=by kernel_rfl
theorem ok42:rowB Tryz.prog sh r42=some e_lex_Text:=rowB_of (by kernel_rfl)
theorem g42:Tryz.prog.funcs[42]? = some Tryz.f42:=by kernel_rfl
theorem ok44:rowB Tryz.prog sh r44=some e_strings_Builder_WriteString:=rowB_of (by kernel_rfl)
theorem g44:Tryz.prog.funcs[44]? = some Tryz.f44:=by kernel_rfl
theorem ok45:rowB Tryz.prog sh r45=some e_strings_Builder_String:=rowB_of (by kernel_rfl)
theorem g45:Tryz.prog.funcs[45]? = some Tryz.f45:=by kernel_rfl
theorem ok46:rowB Tryz.prog sh r46=some e_slices_EqualFunc_sexp_Node_sexp_Node_sexp_Node_sexp_Node:=rowB_of (by kernel_rfl)
theorem g46:Tryz.prog.funcs[46]? = some Tryz.f46:=by kernel_rfl
theorem ok47:rowB Tryz.prog sh r47=some e_sexp_last:=rowB_of (by kernel_rfl)
theorem g47:Tryz.prog.funcs[47]? = some Tryz.f47:=by kernel_rfl
theorem ok48:rowB Tryz.prog sh r48=some e_strconv_Itoa:=rowB_of (by kernel_rfl)
theorem g48:Tryz.prog.funcs[48]? = some Tryz.f48:=by kernel_rfl
theorem ok49:rowB Tryz.prog sh r49=some e_lex_fault:=rowB_of (by kernel_rfl)
theorem g49:Tryz.prog.funcs[49]? = some Tryz.f49:=by kernel_rfl
theorem ok50:rowB Tryz.prog sh r50=some e_lex_scanner_skip:=rowB_of (by kernel_rfl)
theorem g50:Tryz.prog.funcs[50]? = some Tryz.f50:=by kernel_rfl
theorem ok51:rowB Tryz.prog sh r51=some e_lex_scanner_token:=rowB_of (by kernel_rfl)
theorem g51:Tryz.prog.funcs[51]? = some Tryz.f51:=by kernel_rfl
theorem ok52:rowB Tryz.prog sh r52=some e_sexp_reader_not:=rowB_of (by kernel_rfl)
theorem g52:Tryz.prog.funcs[52]? = some Tryz.f52:=by kernel_rfl
theorem ok53:rowB Tryz.prog sh r53=some e_sexp_reader_count:=rowB_of (by kernel_rfl)
theorem g53:Tryz.prog.funcs[53]? = some Tryz.f53:=by kernel_rfl
theorem ok54:rowB Tryz.prog sh r54=some e_sexp_reader_put:=rowB_of (by kernel_rfl)
theorem g54:Tryz.prog.funcs[54]? = some Tryz.f54:=by kernel_rfl
theorem ok55:rowB Tryz.prog sh r55=some e_sexp_leaf:=rowB_of (by kernel_rfl)
theorem g55:Tryz.prog.funcs[55]? = some Tryz.f55:=by kernel_rfl
theorem ok56:rowB Tryz.prog sh r56=some e_ref4_blank:=rowB_of (by kernel_rfl)
theorem g56:Tryz.prog.funcs[56]? = some Tryz.f56:=by kernel_rfl
theorem ok57:rowB Tryz.prog sh r57=some e_ref4_one:=rowB_of (by kernel_rfl)
theorem g57:Tryz.prog.funcs[57]? = some Tryz.f57:=by kernel_rfl
theorem ok67:rowB Tryz.prog sh r67=some e_val_Text:=rowB_of (by kernel_rfl)
theorem g67:Tryz.prog.funcs[67]? = some Tryz.f67:=by kernel_rfl
theorem ok69:rowB Tryz.prog sh r69=some e_strings_Builder_copyCheck:=rowB_of (by kernel_rfl)
theorem g69:Tryz.prog.funcs[69]? = some Tryz.f69:=by kernel_rfl
theorem ok70:rowB Tryz.prog sh r70=some e_api_Errno_Error:=rowB_of (by kernel_rfl)
theorem g70:Tryz.prog.funcs[70]? = some Tryz.f70:=by kernel_rfl
theorem ok71:rowB Tryz.prog sh r71=some e_internal_strconv_Itoa:=rowB_of (by kernel_rfl)
theorem g71:Tryz.prog.funcs[71]? = some Tryz.f71:=by kernel_rfl
theorem ok72:rowB Tryz.prog sh r72=some e_lex_scanner_more:=rowB_of (by kernel_rfl)
theorem g72:Tryz.prog.funcs[72]? = some Tryz.f72:=by kernel_rfl
theorem ok73:rowB Tryz.prog sh r73=some e_lex_scanner_text:=rowB_of (by kernel_rfl)
theorem g73:Tryz.prog.funcs[73]? = some Tryz.f73:=by kernel_rfl
theorem ok74:rowB Tryz.prog sh r74=some e_lex_scanner_variable:=rowB_of (by kernel_rfl)
theorem g74:Tryz.prog.funcs[74]? = some Tryz.f74:=by kernel_rfl
theorem ok75:rowB Tryz.prog sh r75=some e_lex_scanner_word:=rowB_of (by kernel_rfl)
theorem g75:Tryz.prog.funcs[75]? = some Tryz.f75:=by kernel_rfl
theorem ok76:rowB Tryz.prog sh r76=some e_ref4_text:=rowB_of (by kernel_rfl)
theorem g76:Tryz.prog.funcs[76]? = some Tryz.f76:=by kernel_rfl
theorem ok77:rowB Tryz.prog sh r77=some e_ref4_name:=rowB_of (by kernel_rfl)
theorem g77:Tryz.prog.funcs[77]? = some Tryz.f77:=by kernel_rfl
theorem ok78:rowB Tryz.prog sh r78=some e_ref3_Sign:=rowB_of (by kernel_rfl)
theorem g78:Tryz.prog.funcs[78]? = some Tryz.f78:=by kernel_rfl
theorem ok79:rowB Tryz.prog sh r79=some e_ref1_Shape:=rowB_of (by kernel_rfl)
theorem g79:Tryz.prog.funcs[79]? = some Tryz.f79:=by kernel_rfl
theorem ok80:rowB Tryz.prog sh r80=some e_ref1_Parse:=rowB_of (by kernel_rfl)
theorem g80:Tryz.prog.funcs[80]? = some Tryz.f80:=by kernel_rfl
theorem ok81:rowB Tryz.prog sh r81=some e_ref1_size:=rowB_of (by kernel_rfl)
theorem g81:Tryz.prog.funcs[81]? = some Tryz.f81:=by kernel_rfl
theorem ok85:rowB Tryz.prog sh r85=some e_num_Text:=rowB_of (by kernel_rfl)
theorem g85:Tryz.prog.funcs[85]? = some Tryz.f85:=by kernel_rfl
theorem ok86:rowB Tryz.prog sh r86=some e_val_Quote:=rowB_of (by kernel_rfl)
theorem g86:Tryz.prog.funcs[86]? = some Tryz.f86:=by kernel_rfl
theorem ok87:rowB Tryz.prog sh r87=some e_strings_Clone:=rowB_of (by kernel_rfl)
theorem g87:Tryz.prog.funcs[87]? = some Tryz.f87:=by kernel_rfl
theorem ok91:rowB Tryz.prog sh r91=some e_lex_scanner_name:=rowB_of (by kernel_rfl)
theorem g91:Tryz.prog.funcs[91]? = some Tryz.f91:=by kernel_rfl
theorem ok92:rowB Tryz.prog sh r92=some e_lex_sign:=rowB_of (by kernel_rfl)
theorem g92:Tryz.prog.funcs[92]? = some Tryz.f92:=by kernel_rfl
theorem ok93:rowB Tryz.prog sh r93=some e_num_Parse:=rowB_of (by kernel_rfl)
theorem g93:Tryz.prog.funcs[93]? = some Tryz.f93:=by kernel_rfl
theorem ok94:rowB Tryz.prog sh r94=some e_ref3_Part:=rowB_of (by kernel_rfl)
theorem g94:Tryz.prog.funcs[94]? = some Tryz.f94:=by kernel_rfl
theorem ok95:rowB Tryz.prog sh r95=some e_ref3_Good:=rowB_of (by kernel_rfl)
theorem g95:Tryz.prog.funcs[95]? = some Tryz.f95:=by kernel_rfl
theorem ok96:rowB Tryz.prog sh r96=some e_ref1_Mul:=rowB_of (by kernel_rfl)
theorem g96:Tryz.prog.funcs[96]? = some Tryz.f96:=by kernel_rfl
theorem ok97:rowB Tryz.prog sh r97=some e_ref1_Add:=rowB_of (by kernel_rfl)
theorem g97:Tryz.prog.funcs[97]? = some Tryz.f97:=by kernel_rfl
theorem ok99:rowB Tryz.prog sh r99=some e_strconv_FormatInt:=rowB_of (by kernel_rfl)
theorem g99:Tryz.prog.funcs[99]? = some Tryz.f99:=by kernel_rfl
theorem ok100:rowB Tryz.prog sh r100=some e_strings_Builder_WriteByte:=rowB_of (by kernel_rfl)
theorem g100:Tryz.prog.funcs[100]? = some Tryz.f100:=by kernel_rfl
theorem ok106:rowB Tryz.prog sh r106=some e_lex_part:=rowB_of (by kernel_rfl)
theorem g106:Tryz.prog.funcs[106]? = some Tryz.f106:=by kernel_rfl
theorem ok107:rowB Tryz.prog sh r107=some e_sym_Good:=rowB_of (by kernel_rfl)
theorem g107:Tryz.prog.funcs[107]? = some Tryz.f107:=by kernel_rfl
theorem ok108:rowB Tryz.prog sh r108=some e_val_Right:=rowB_of (by kernel_rfl)
theorem g108:Tryz.prog.funcs[108]? = some Tryz.f108:=by kernel_rfl
theorem ok109:rowB Tryz.prog sh r109=some e_val_OfSym:=rowB_of (by kernel_rfl)
theorem g109:Tryz.prog.funcs[109]? = some Tryz.f109:=by kernel_rfl
theorem ok110:rowB Tryz.prog sh r110=some e_strings_HasPrefix:=rowB_of (by kernel_rfl)
theorem g110:Tryz.prog.funcs[110]? = some Tryz.f110:=by kernel_rfl
theorem ok111:rowB Tryz.prog sh r111=some e_num_Mul:=rowB_of (by kernel_rfl)
theorem g111:Tryz.prog.funcs[111]? = some Tryz.f111:=by kernel_rfl
theorem ok112:rowB Tryz.prog sh r112=some e_num_Sub:=rowB_of (by kernel_rfl)
theorem g112:Tryz.prog.funcs[112]? = some Tryz.f112:=by kernel_rfl
theorem ok113:rowB Tryz.prog sh r113=some e_ref3_letter:=rowB_of (by kernel_rfl)
theorem g113:Tryz.prog.funcs[113]? = some Tryz.f113:=by kernel_rfl
theorem ok119:rowB Tryz.prog sh r119=some e_sym_class:=rowB_of (by kernel_rfl)
theorem g119:Tryz.prog.funcs[119]? = some Tryz.f119:=by kernel_rfl
theorem ok120:rowB Tryz.prog sh r120=some e_val_symbol:=rowB_of (by kernel_rfl)
theorem g120:Tryz.prog.funcs[120]? = some Tryz.f120:=by kernel_rfl
theorem ok121:rowB Tryz.prog sh r121=some e_internal_stringslite_HasPrefix:=rowB_of (by kernel_rfl)
theorem g121:Tryz.prog.funcs[121]? = some Tryz.f121:=by kernel_rfl
theorem ok122:rowB Tryz.prog sh r122=some e_math_bits_Mul64:=rowB_of (by kernel_rfl)
theorem g122:Tryz.prog.funcs[122]? = some Tryz.f122:=by kernel_rfl
theorem ok123:rowB Tryz.prog sh r123=some e_num_abs:=rowB_of (by kernel_rfl)
theorem g123:Tryz.prog.funcs[123]? = some Tryz.f123:=by kernel_rfl
theorem ok126:rowB Tryz.prog sh r126=some e_val_sign:=rowB_of (by kernel_rfl)
theorem g126:Tryz.prog.funcs[126]? = some Tryz.f126:=by kernel_rfl
theorem efns_eq:efnsOf rows=efns:=efnsOf_tree rT eT rfl
theorem rows_ok:RowsOk Tryz.prog sh rows:=rowsOk_of (t:=rT) ⟨⟨g69,by rfl,ok69⟩,⟨⟨g35,by rfl,ok35⟩,⟨⟨g22,by rfl,ok22⟩,⟨⟨g14,by rfl,ok14⟩,⟨⟨g11,by rfl,ok11⟩,⟨⟨g10,by rfl,ok10⟩,⟨⟨g6,by rfl,ok6⟩,trivial,trivial⟩,trivial⟩,⟨⟨g12,by rfl,ok12⟩,trivial,trivial⟩⟩,⟨⟨g18,by rfl,ok18⟩,⟨⟨g17,by rfl,ok17⟩,⟨⟨g16,by rfl,ok16⟩,trivial,trivial⟩,trivial⟩,⟨⟨g20,by rfl,ok20⟩,trivial,trivial⟩⟩⟩,⟨⟨g29,by rfl,ok29⟩,⟨⟨g26,by rfl,ok26⟩,⟨⟨g25,by rfl,ok25⟩,⟨⟨g24,by rfl,ok24⟩,trivial,trivial⟩,trivial⟩,⟨⟨g27,by rfl,ok27⟩,trivial,trivial⟩⟩,⟨⟨g33,by rfl,ok33⟩,⟨⟨g32,by rfl,ok32⟩,⟨⟨g31,by rfl,ok31⟩,trivial,trivial⟩,trivial⟩,⟨⟨g34,by rfl,ok34⟩,trivial,trivial⟩⟩⟩⟩,⟨⟨g50,by rfl,ok50⟩,⟨⟨g45,by rfl,ok45⟩,⟨⟨g42,by rfl,ok42⟩,⟨⟨g40,by rfl,ok40⟩,⟨⟨g36,by rfl,ok36⟩,trivial,trivial⟩,trivial⟩,⟨⟨g44,by rfl,ok44⟩,trivial,trivial⟩⟩,⟨⟨g48,by rfl,ok48⟩,⟨⟨g47,by rfl,ok47⟩,⟨⟨g46,by rfl,ok46⟩,trivial,trivial⟩,trivial⟩,⟨⟨g49,by rfl,ok49⟩,trivial,trivial⟩⟩⟩,⟨⟨g55,by rfl,ok55⟩,⟨⟨g53,by rfl,ok53⟩,⟨⟨g52,by rfl,ok52⟩,⟨⟨g51,by rfl,ok51⟩,trivial,trivial⟩,trivial⟩,⟨⟨g54,by rfl,ok54⟩,trivial,trivial⟩⟩,⟨⟨g57,by rfl,ok57⟩,⟨⟨g56,by rfl,ok56⟩,trivial,trivial⟩,⟨⟨g67,by rfl,ok67⟩,trivial,trivial⟩⟩⟩⟩⟩,⟨⟨g95,by rfl,ok95⟩,⟨⟨g79,by rfl,ok79⟩,⟨⟨g74,by rfl,ok74⟩,⟨⟨g72,by rfl,ok72⟩,⟨⟨g71,by rfl,ok71⟩,⟨⟨g70,by rfl,ok70⟩,trivial,trivial⟩,trivial⟩,⟨⟨g73,by rfl,ok73⟩,trivial,trivial⟩⟩,⟨⟨g77,by rfl,ok77⟩,⟨⟨g76,by rfl,ok76⟩,⟨⟨g75,by rfl,ok75⟩,trivial,trivial⟩,trivial⟩,⟨⟨g78,by rfl,ok78⟩,trivial,trivial⟩⟩⟩,⟨⟨g87,by rfl,ok87⟩,⟨⟨g85,by rfl,ok85⟩,⟨⟨g81,by rfl,ok81⟩,⟨⟨g80,by rfl,ok80⟩,trivial,trivial⟩,trivial⟩,⟨⟨g86,by rfl,ok86⟩,trivial,trivial⟩⟩,⟨⟨g93,by rfl,ok93⟩,⟨⟨g92,by rfl,ok92⟩,⟨⟨g91,by rfl,ok91⟩,trivial,trivial⟩,trivial⟩,⟨⟨g94,by rfl,ok94⟩,trivial,trivial⟩⟩⟩⟩,⟨⟨g111,by rfl,ok111⟩,⟨⟨g106,by rfl,ok106⟩,⟨⟨g99,by rfl,ok99⟩,⟨⟨g97,by rfl,ok97⟩,⟨⟨g96,by rfl,ok96⟩,trivial,trivial⟩,trivial⟩,⟨⟨g100,by rfl,ok100⟩,trivial,trivial⟩⟩,⟨⟨g109,by rfl,ok109⟩,⟨⟨g108,by rfl,ok108⟩,⟨⟨g107,by rfl,ok107⟩,trivial,trivial⟩,trivial⟩,⟨⟨g110,by rfl,ok110⟩,trivial,trivial⟩⟩⟩,⟨⟨g121,by rfl,ok121⟩,⟨⟨g119,by rfl,ok119⟩,⟨⟨g113,by rfl,ok113⟩,⟨⟨g112,by rfl,ok112⟩,trivial,trivial⟩,trivial⟩,⟨⟨g120,by rfl,ok120⟩,trivial,trivial⟩⟩,⟨⟨g123,by rfl,ok123⟩,⟨⟨g122,by rfl,ok122⟩,trivial,trivial⟩,⟨⟨g126,by rfl,ok126⟩,trivial,trivial⟩⟩⟩⟩⟩⟩
theorem follows_ok:Tryz.prog.follows .mixedOrders=true:=by kernel_rfl
end Go.Proofs.YtnlknpeelpnbaaaGreatDoorPe.ReadCode
