/- A part of the proof of this folder's statement; it has no condition of its own. -/
import Derived.Test.YthjnlpfibakacaaGreatDoorEcFast
import Derived.Test.YthjnlpfibakacaaGreatDoorProg
import Derived.KernelRfl
set_option maxRecDepth 100000
set_option linter.unusedVariables false
namespace Go.Proofs.YthjnlpfibakacaaGreatDoorPe.TmpfCode
open Go Go.Proofs.YthjnlpfibakacaaGreatDoorPe
open Go.Proofs
abbrev f_law9_TmplDefaults:Nat:=4
abbrev f_law9_known:Nat:=7
abbrev f_ref3_Right:Nat:=10
abbrev f_tmpl_Template_Fill:Nat:=12
abbrev f_tmpl_Template_Slot:Nat:=15
abbrev f_tmpl_Template_Text:Nat:=17
abbrev f_ref3_Int:Nat:=19
abbrev f_ref3_Same:Nat:=20
abbrev f_tmpl_Parse:Nat:=21
abbrev f_tmpl_Node:Nat:=26
abbrev f_tmpl_Same:Nat:=27
abbrev f_sexp_Read:Nat:=31
abbrev f_ref3_Sym:Nat:=33
abbrev f_sexp_Text:Nat:=34
abbrev f_ref1_Shape:Nat:=40
abbrev f_ref3_Sign:Nat:=41
abbrev f_slices_Contains_string_string:Nat:=42
abbrev f_slices_Clip_api_Value_api_Value:Nat:=43
abbrev f_slices_IndexFunc_tmpl_Slot_tmpl_Slot:Nat:=44
abbrev f_tmpl_Template_Slot_1:Nat:=45
abbrev f_strings_Builder_WriteString:Nat:=46
abbrev f_val_Text:Nat:=47
abbrev f_strings_Builder_String:Nat:=48
abbrev f_sexp_Head:Nat:=50
abbrev f_tmpl_good:Nat:=51
abbrev f_tmpl_fault:Nat:=52
abbrev f_tmpl_slot:Nat:=53
abbrev f_tmpl_Template_may:Nat:=54
abbrev f_tmpl_list:Nat:=60
abbrev f_tmpl_word:Nat:=61
abbrev f_val_Same:Nat:=62
abbrev f_tmpl_none:Nat:=63
abbrev f_tmpl_leaf:Nat:=64
abbrev f_slices_EqualFunc_tmpl_Slot_tmpl_Slot_tmpl_Slot_tmpl_Slot:Nat:=65
abbrev f_tmpl_Same_1:Nat:=66
abbrev f_lex_Scan:Nat:=70
abbrev f_sexp_reader_step:Nat:=71
abbrev f_sexp_fault:Nat:=72
abbrev f_strings_Join:Nat:=73
abbrev f_lex_Text:Nat:=74
abbrev f_slices_Index_string_string:Nat:=79
abbrev f_strings_Builder_copyCheck:Nat:=80
abbrev f_num_Text:Nat:=81
abbrev f_val_Quote:Nat:=82
abbrev f_strings_Clone:Nat:=83
abbrev f_sym_Good:Nat:=86
abbrev f_sexp_Value:Nat:=87
abbrev f_val_Compare:Nat:=97
abbrev f_val_OfSym:Nat:=98
abbrev f_lex_fault:Nat:=99
abbrev f_lex_scanner_skip:Nat:=100
abbrev f_lex_scanner_token:Nat:=101
abbrev f_sexp_reader_not:Nat:=102
abbrev f_sexp_reader_count:Nat:=103
abbrev f_sexp_reader_put:Nat:=104
abbrev f_sexp_leaf:Nat:=105
abbrev f_strconv_FormatInt:Nat:=113
abbrev f_strings_Builder_WriteByte:Nat:=114
abbrev f_internal_stringslite_Clone:Nat:=115
abbrev f_sym_class:Nat:=117
abbrev f_cmp_Or_int:Nat:=122
abbrev f_cmp_Compare_int:Nat:=123
abbrev f_cmp_Compare_int64:Nat:=124
abbrev f_cmp_Compare_string:Nat:=125
abbrev f_lex_scanner_more:Nat:=126
abbrev f_lex_scanner_text:Nat:=127
abbrev f_lex_scanner_variable:Nat:=128
abbrev f_lex_scanner_word:Nat:=129
abbrev f_internal_strconv_FormatInt:Nat:=133
abbrev f_cmp_isNaN_int:Nat:=134
abbrev f_cmp_isNaN_int64:Nat:=135
abbrev f_cmp_isNaN_string:Nat:=136
abbrev f_lex_scanner_name:Nat:=137
abbrev f_lex_sign:Nat:=138
abbrev f_num_Parse:Nat:=139
abbrev f_lex_part:Nat:=145
abbrev f_val_Right:Nat:=146
abbrev f_strings_HasPrefix:Nat:=147
abbrev f_num_Mul:Nat:=148
abbrev f_num_Sub:Nat:=149
abbrev f_val_symbol:Nat:=155
abbrev f_internal_stringslite_HasPrefix:Nat:=156
abbrev f_math_bits_Mul64:Nat:=157
abbrev f_num_abs:Nat:=158
abbrev f_val_sign:Nat:=161
noncomputable abbrev G_strings_Join:Go.Func:=Tryz.f73
noncomputable abbrev G_internal_stringslite_Clone:Go.Func:=Tryz.f115
noncomputable abbrev G_internal_strconv_FormatInt:Go.Func:=Tryz.f133
abbrev T_byte:Nat:=5
abbrev T_bld:Nat:=107
abbrev T_law9_TmplDefaults_0:Nat:=58
abbrev T_law9_TmplDefaults_1:Nat:=9
abbrev T_law9_TmplDefaults_2:Nat:=41
abbrev T_law9_TmplDefaults_3:Nat:=44
abbrev T_law9_known_0:Nat:=44
abbrev T_ref3_Right_0:Nat:=41
abbrev T_tmpl_Template_Fill_0:Nat:=41
abbrev T_tmpl_Template_Fill_1:Nat:=58
abbrev T_tmpl_Template_Fill_2:Nat:=44
abbrev T_tmpl_Template_Slot_0:Nat:=44
abbrev T_tmpl_Template_Slot_1:Nat:=9
abbrev T_tmpl_Template_Text_0:Nat:=58
abbrev T_tmpl_Template_Text_1:Nat:=44
abbrev T_ref3_Int_0:Nat:=41
abbrev T_ref3_Same_0:Nat:=41
abbrev T_tmpl_Parse_0:Nat:=58
abbrev T_tmpl_Parse_1:Nat:=68
abbrev T_tmpl_Parse_2:Nat:=44
abbrev T_tmpl_Node_0:Nat:=68
abbrev T_tmpl_Node_1:Nat:=58
abbrev T_tmpl_Node_2:Nat:=44
abbrev T_tmpl_Same_0:Nat:=44
abbrev T_sexp_Read_0:Nat:=142
abbrev T_ref3_Sym_0:Nat:=41
abbrev T_sexp_Text_0:Nat:=9
abbrev T_sexp_Text_1:Nat:=68
abbrev T_tmpl_Template_Slot_1_0:Nat:=58
abbrev T_val_Text_0:Nat:=41
abbrev T_sexp_Head_0:Nat:=68
abbrev T_tmpl_good_0:Nat:=68
abbrev T_tmpl_fault_0:Nat:=68
abbrev T_tmpl_fault_1:Nat:=125
abbrev T_tmpl_fault_2:Nat:=46
abbrev T_tmpl_fault_3:Nat:=121
abbrev T_tmpl_slot_0:Nat:=68
abbrev T_tmpl_slot_1:Nat:=58
abbrev T_tmpl_slot_2:Nat:=41
abbrev T_tmpl_Template_may_0:Nat:=44
abbrev T_tmpl_Template_may_1:Nat:=58
abbrev T_tmpl_list_0:Nat:=68
abbrev T_tmpl_word_0:Nat:=68
abbrev T_val_Same_0:Nat:=41
abbrev T_tmpl_none_0:Nat:=41
abbrev T_tmpl_leaf_0:Nat:=41
abbrev T_tmpl_leaf_1:Nat:=68
abbrev T_slices_EqualFunc_tmpl_Slot_tmpl_Slot_tmpl_Slot_tmpl_Slot_0:Nat:=58
abbrev T_tmpl_Same_1_0:Nat:=58
abbrev T_lex_Scan_0:Nat:=148
abbrev T_lex_Scan_1:Nat:=178
abbrev T_sexp_reader_step_0:Nat:=68
abbrev T_sexp_reader_step_1:Nat:=148
abbrev T_sexp_fault_0:Nat:=125
abbrev T_sexp_fault_1:Nat:=46
abbrev T_sexp_fault_2:Nat:=121
abbrev T_lex_Text_0:Nat:=148
abbrev T_sexp_Value_0:Nat:=68
abbrev T_sexp_Value_1:Nat:=41
abbrev T_val_Compare_0:Nat:=41
abbrev T_val_OfSym_0:Nat:=41
abbrev T_lex_fault_0:Nat:=125
abbrev T_lex_fault_1:Nat:=46
abbrev T_lex_fault_2:Nat:=121
abbrev T_lex_scanner_token_0:Nat:=148
abbrev T_sexp_reader_not_0:Nat:=148
abbrev T_sexp_reader_count_0:Nat:=148
abbrev T_sexp_reader_put_0:Nat:=68
abbrev T_sexp_reader_put_1:Nat:=4
abbrev T_sexp_leaf_0:Nat:=148
abbrev T_sexp_leaf_1:Nat:=68
abbrev T_lex_scanner_text_0:Nat:=148
abbrev T_lex_scanner_variable_0:Nat:=148
abbrev T_lex_scanner_word_0:Nat:=148
abbrev T_val_Right_0:Nat:=41
def sh:Nat->Nat
 |43=>3
 |44=>4
 |45=>3
 |46=>3
 |48=>3
 |60=>65539
 |65=>6
 |71=>3
 |80=>3
 |100=>3
 |101=>3
 |102=>3
 |103=>3
 |104=>3
 |114=>3
 |126=>3
 |127=>3
 |128=>3
 |129=>3
 |137=>3
 |_=>0
def b_law9_TmplDefaults_0:EC :=
 (.seq (.cond (.bi (.bin .lss) (.v 4) (.un .len (.v 0)))
 (.skip)
 (.exit 0))
 (.seq (.block 1 (.seq (.cond (.un .not (.tup (.call 0 f_ref3_Right) (.cons (.un (.ld (some 3)) (.bi (.idx 3) (.v 0) (.v 4))) .nil)))
  (.ret [.e (.c (.bool true))])
  (.skip))
 (.st [.eff (some 13) none (.load none (.un (.off 1) (.v 3))),
  .eff (some 14) none (.append 4 48 T_law9_TmplDefaults_0 (.v 13) (.tup (.bslice 4 [(.str []),(.int .i64 0),(.int .i64 0),(.str [])] 1 [0]) (.cons (.tup (.build [(.str []),(.int .i64 0),(.int .i64 0),(.str [])] [(0,1),(1,3)]) (.cons (.un .tostr (.tup (.bslice 1 [(.int .u8 0)] 1 [0]) (.cons (.un (.conv .u8) (.bi (.bin .add) (.c (.int .i64 97)) (.v 4))) .nil))) (.cons (.un (.ld (some 3)) (.bi (.idx 3) (.v 0) (.v 4))) .nil))) .nil))),
  .eff none none (.store 1 (.un (.off 1) (.v 3)) (.v 14))])))
 (.st [.sets [(4,(.bi (.bin .add) (.v 4) (.c (.int .i64 1))))]])))
def b_law9_TmplDefaults_1:EC :=
 (.seq (.cond (.bi (.bin .lss) (.v 8) (.v 5))
 (.skip)
 (.exit 2))
 (.seq (.block 3 (.seq (.st [.eff (some 15) none (.load none (.un (.off 1) (.v 3))),
  .eff (some 16) none (.append 1 16 T_law9_TmplDefaults_1 (.v 6) (.tup (.bslice 1 [(.str [])] 1 [0]) (.cons (.un (.ld none) (.un (.off 0) (.bi (.idx 4) (.v 15) (.bi (.bin .rem) (.bi (.bin .add) (.v 8) (.un (.conv .i64) (.v 1))) (.un .len (.v 0)))))) .nil))),
  .sets [(6,(.v 16))]])
 (.st [.eff (some 17) none (.append 3 32 T_law9_TmplDefaults_2 (.v 7) (.tup (.bslice 3 [(.int .i64 0),(.int .i64 0),(.str [])] 1 [0]) (.cons (.tup (.call 0 f_ref3_Int) (.cons (.bi (.bin .rem) (.bi (.bin .add) (.v 8) (.un (.conv .i64) (.v 1))) (.un .len (.v 0))) .nil)) .nil))),
  .sets [(7,(.v 17))]])))
 (.st [.sets [(8,(.bi (.bin .add) (.v 8) (.c (.int .i64 1))))]])))
def b_law9_TmplDefaults_2:EC :=
 (.seq (.cond (.bi (.bin .lss) (.v 12) (.v 5))
 (.skip)
 (.exit 6))
 (.seq (.block 7 (.st [.sets [(11,(.pick (.v 11) (.c (.bool true)) (.bi (.bin .eql) (.bi (.bin .rem) (.bi (.bin .add) (.v 12) (.un (.conv .i64) (.v 1))) (.un .len (.v 0))) (.v 10))))]]))
 (.st [.sets [(12,(.bi (.bin .add) (.v 12) (.c (.int .i64 1))))]])))
def b_law9_TmplDefaults_3:EC :=
 (.seq (.cond (.bi (.bin .lss) (.v 10) (.un .len (.v 0)))
 (.skip)
 (.exit 4))
 (.seq (.block 5 (.seq (.st [.sets [(11,(.c (.bool false)))]])
 (.seq (.seq (.st [.sets [(12,(.c (.int .i64 0)))]])
 (.block 6 (.loop [true,true,false,false,false,true,false,false,false,true,true,true,true,false,false,false,false,false,false,false] b_law9_TmplDefaults_2)))
 (.cond (.pick (.pick (.v 11) (.un .not (.tup (.call 0 f_ref3_Same) (.cons (.un (.ld (some 3)) (.bi (.idx 3) (.v 9) (.v 10))) (.cons (.tup (.call 0 f_ref3_Int) (.cons (.v 10) .nil)) .nil)))) (.c (.bool false))) (.c (.bool true)) (.pick (.un .not (.v 11)) (.un .not (.tup (.call 0 f_ref3_Same) (.cons (.un (.ld (some 3)) (.bi (.idx 3) (.v 9) (.v 10))) (.cons (.un (.ld (some 3)) (.bi (.idx 3) (.v 0) (.v 10))) .nil)))) (.c (.bool false))))
  (.ret [.e (.c (.bool false))])
  (.skip)))))
 (.st [.sets [(10,(.bi (.bin .add) (.v 10) (.c (.int .i64 1))))]])))
def e_law9_TmplDefaults:EFunc:=⟨3,20,
 (.seq (.cond (.un .not (.tup (.call 0 f_law9_known) .nil))
 (.ret [.e (.c (.bool false))])
 (.skip))
 (.seq (.cond (.pick (.bi (.bin .eql) (.un .len (.v 0)) (.c (.int .i64 0))) (.c (.bool true)) (.bi (.bin .gtr) (.un .len (.v 0)) (.c (.int .i64 16))))
 (.ret [.e (.c (.bool true))])
 (.skip))
 (.seq (.st [.eff (some 3) none (.zbox [(.str []),.nils] T_law9_TmplDefaults_3),
  .eff none none (.store 2 (.v 3) (.tup (.build [(.str []),.nils] [(0,1)]) (.cons (.c (.str [116])) .nil)))])
 (.seq (.seq (.st [.sets [(4,(.c (.int .i64 0)))]])
 (.block 0 (.loop [true,true,true,true,true,false,false,false,false,false,false,false,false,false,false,false,false,false,false,false] b_law9_TmplDefaults_0)))
 (.seq (.st [.sets [(5,(.bi (.bin .rem) (.un (.conv .i64) (.v 2)) (.bi (.bin .add) (.un .len (.v 0)) (.c (.int .i64 1)))))]])
 (.seq (.st [.sets [(6,(.c .nils))]])
 (.seq (.st [.sets [(7,(.c .nils))]])
 (.seq (.seq (.st [.sets [(8,(.c (.int .i64 0)))]])
 (.block 2 (.loop [true,true,false,true,false,true,true,true,true,false,false,false,false,false,false,false,false,false,false,false] b_law9_TmplDefaults_1)))
 (.seq (.st [.eff (some 19) none (.load (some 2) (.v 3)),
  .sets [(18,(.tup (.call 0 f_tmpl_Template_Fill) (.cons (.v 19) (.cons (.v 6) (.cons (.v 7) .nil)))))],
  .sets [(9,(.un (.ext 0) (.v 18)))]])
 (.seq (.cond (.pick (.bi (.bin .neq) (.un (.ext 1) (.v 18)) (.c (.int .i64 0))) (.c (.bool true)) (.bi (.bin .neq) (.un .len (.v 9)) (.un .len (.v 0))))
 (.ret [.e (.c (.bool false))])
 (.skip))
 (.seq (.seq (.st [.sets [(10,(.c (.int .i64 0)))]])
 (.block 4 (.loop [true,true,false,false,false,true,false,false,false,true,true,false,false,false,false,false,false,false,false,false] b_law9_TmplDefaults_3)))
 (.ret [.e (.c (.bool true))]))))))))))))⟩
noncomputable def r4:ERow:=⟨Tryz.f4,⟨[(11,(.cons 0 0 (.cons 0 2 (.cons 0 3 (.cons 0 4 (.cons 0 7 (.cons 0 8 (.cons 0 9 (.cons 1 1 (.cons 1 10 (.cons 2 5 (.cons 2 6 (.cons 0 11 (.cons 2 12 (.cons 2 13 (.cons 0 14 (.cons 3 15 .nil))))))))))))))))),(32,(.cons 0 0 (.cons 0 1 (.cons 0 2 (.cons 0 3 (.cons 0 4 (.cons 0 6 (.cons 1 5 (.cons 2 7 (.cons 2 8 (.cons 0 9 (.cons 0 10 (.cons 0 11 (.cons 0 12 (.cons 0 13 (.cons 0 14 (.cons 0 15 (.cons 0 16 (.cons 0 17 (.cons 0 19 (.cons 0 20 (.cons 0 21 (.cons 1 18 (.cons 1 22 (.cons 2 23 (.cons 0 24 (.cons 0 25 (.cons 0 26 .nil))))))))))))))))))))))))))))],[(0,[true,true,true,false,false,false,false,true,true]),(2,[true,true,false,false,false,false,false,true,false,true,true,true,true]),(4,[true,true,false,false,false,false,false,false,false,true,false,false,false,false,true,false,true]),(6,[true,true,false,false,false,false,false,false,false,true,false,false,false,false,true,false,true,true,true])],[],[],[],[]⟩,⟨155,[0,1,2,7,8,9,10,11,12,14,16,17,18,43,55,77,83,88,89,90],[39,52,81,133,146,150],[89]⟩,3,e_law9_TmplDefaults⟩
def e_law9_known:EFunc:=⟨0,25,
 (.seq (.st [.eff (some 9) none (.bown 1 [(.int .u8 0)] 45 [0,1,2,3,4,5,6,7,8,9,10,11,12,13,14,15,16,17,18,19,20,21,22,23,24,25,26,27,28,29,30,31,32,33,34,35,36,37,38,39,40,41,42,43,44] (.cons (.c (.int .u8 40)) (.cons (.c (.int .u8 100)) (.cons (.c (.int .u8 101)) (.cons (.c (.int .u8 102)) (.cons (.c (.int .u8 116)) (.cons (.c (.int .u8 101)) (.cons (.c (.int .u8 109)) (.cons (.c (.int .u8 112)) (.cons (.c (.int .u8 108)) (.cons (.c (.int .u8 97)) (.cons (.c (.int .u8 116)) (.cons (.c (.int .u8 101)) (.cons (.c (.int .u8 32)) (.cons (.c (.int .u8 112)) (.cons (.c (.int .u8 32)) (.cons (.c (.int .u8 40)) (.cons (.c (.int .u8 115)) (.cons (.c (.int .u8 108)) (.cons (.c (.int .u8 111)) (.cons (.c (.int .u8 116)) (.cons (.c (.int .u8 32)) (.cons (.c (.int .u8 97)) (.cons (.c (.int .u8 41)) (.cons (.c (.int .u8 32)) (.cons (.c (.int .u8 40)) (.cons (.c (.int .u8 115)) (.cons (.c (.int .u8 108)) (.cons (.c (.int .u8 111)) (.cons (.c (.int .u8 116)) (.cons (.c (.int .u8 32)) (.cons (.c (.int .u8 98)) (.cons (.c (.int .u8 32)) (.cons (.c (.int .u8 40)) (.cons (.c (.int .u8 100)) (.cons (.c (.int .u8 101)) (.cons (.c (.int .u8 102)) (.cons (.c (.int .u8 97)) (.cons (.c (.int .u8 117)) (.cons (.c (.int .u8 108)) (.cons (.c (.int .u8 116)) (.cons (.c (.int .u8 32)) (.cons (.c (.int .u8 53)) (.cons (.c (.int .u8 41)) (.cons (.c (.int .u8 41)) (.cons (.c (.int .u8 41)) .nil)))))))))))))))))))))))))))))))))))))))))))))),
  .eff (some 10) none (.mark (.v 9)),
  .sets [(8,(.tup (.call 0 f_sexp_Read) (.cons (.v 10) .nil)))],
  .sets [(0,(.un (.ext 0) (.v 8)))]])
 (.seq (.cond (.pick (.bi (.eqs 1 true) (.un (.ext 1) (.v 8)) (.c .nili)) (.c (.bool true)) (.bi (.bin .neq) (.un .len (.v 0)) (.c (.int .i64 1))))
 (.ret [.e (.c (.bool false))])
 (.skip))
 (.seq (.st [.sets [(11,(.tup (.call 0 f_tmpl_Parse) (.cons (.un (.ld (some 5)) (.bi (.idx 5) (.v 0) (.c (.int .i64 0)))) .nil)))],
  .eff (some 1) none (.zbox [(.str []),.nils] T_law9_known_0),
  .eff none none (.store 2 (.v 1) (.un (.ext 0) (.v 11)))])
 (.seq (.st [.eff (some 13) none (.load (some 2) (.v 1)),
  .sets [(12,(.tup (.call 0 f_tmpl_Template_Fill) (.cons (.v 13) (.cons (.tup (.bslice 1 [(.str [])] 1 [0]) (.cons (.c (.str [97])) .nil)) (.cons (.tup (.bslice 3 [(.int .i64 0),(.int .i64 0),(.str [])] 1 [0]) (.cons (.tup (.call 0 f_ref3_Sym) (.cons (.c (.str [120])) .nil)) .nil)) .nil)))))],
  .sets [(2,(.un (.ext 0) (.v 12))),(3,(.un (.ext 1) (.v 12)))]])
 (.seq (.st [.eff (some 15) none (.load (some 2) (.v 1)),
  .sets [(14,(.tup (.call 0 f_tmpl_Template_Slot) (.cons (.v 15) (.cons (.c (.str [98])) .nil))))],
  .sets [(4,(.un (.ext 0) (.v 14))),(5,(.un (.ext 1) (.v 14)))]])
 (.seq (.st [.eff (some 17) none (.load (some 2) (.v 1)),
  .sets [(16,(.tup (.call 0 f_tmpl_Template_Fill) (.cons (.v 17) (.cons (.tup (.bslice 1 [(.str [])] 1 [0]) (.cons (.c (.str [99])) .nil)) (.cons (.tup (.bslice 3 [(.int .i64 0),(.int .i64 0),(.str [])] 1 [0]) (.cons (.tup (.call 0 f_ref3_Sym) (.cons (.c (.str [120])) .nil)) .nil)) .nil)))))],
  .sets [(6,(.un (.ext 0) (.v 16))),(7,(.un (.ext 1) (.v 16)))]])
 (.seq (.st [.sets [(18,(.pick (.pick (.bi (.eqs 1 false) (.un (.ext 1) (.v 11)) (.c .nili)) (.bi (.bin .eql) (.v 3) (.c (.int .i64 0))) (.c (.bool false))) (.bi (.bin .eql) (.un .len (.v 2)) (.c (.int .i64 2))) (.c (.bool false))))],
  .eff (some 19) (some ((.v 18),true)) (.load (some 2) (.v 1)),
  .sets [(20,(.pick (.pick (.pick (.pick (.v 18) (.bi (.bin .eql) (.tup (.call 0 f_tmpl_Template_Text) (.cons (.v 19) (.cons (.v 2) .nil))) (.c (.str [40,112,32,40,97,32,120,41,32,40,98,32,53,41,41]))) (.c (.bool false))) (.bi (.bin .eql) (.v 4) (.c (.int .i64 1))) (.c (.bool false))) (.v 5) (.c (.bool false))) (.bi (.bin .eql) (.v 7) (.c (.int .i64 5))) (.c (.bool false))))],
  .eff (some 21) (some ((.v 20),true)) (.load (some 2) (.v 1)),
  .sets [(22,(.pick (.v 20) (.bi (.bin .eql) (.tup (.call 0 f_sexp_Text) (.cons (.tup (.call 0 f_tmpl_Node) (.cons (.v 21) .nil)) .nil)) (.c (.str [40,100,101,102,116,101,109,112,108,97,116,101,32,112,32,40,115,108,111,116,32,97,41,32,40,115,108,111,116,32,98,32,40,100,101,102,97,117,108,116,32,53,41,41,41]))) (.c (.bool false))))],
  .eff (some 23) (some ((.v 22),true)) (.load (some 2) (.v 1)),
  .eff (some 24) (some ((.v 22),true)) (.load (some 2) (.v 1))])
 (.ret [.e (.pick (.v 22) (.tup (.call 0 f_tmpl_Same) (.cons (.v 23) (.cons (.v 24) .nil))) (.c (.bool false)))]))))))))⟩
noncomputable def r7:ERow:=⟨Tryz.f7,⟨[(5,(.cons 1 0 (.alt (.cons 2 1 (.cons 2 2 (.cons 2 3 (.cons 2 4 (.cons 0 5 (.cons 0 6 (.cons 0 7 (.cons 0 8 (.cons 0 9 .nil))))))))) (.cons 2 2 (.alt (.cons 2 1 (.cons 2 3 (.cons 2 4 (.cons 0 5 (.cons 0 6 (.cons 0 7 (.cons 0 8 (.cons 0 9 .nil)))))))) (.cons 2 3 (.cons 2 1 (.cons 2 4 (.cons 0 5 (.cons 0 6 (.cons 0 7 (.cons 0 8 (.cons 0 9 .nil))))))))))))),(7,(.cons 1 0 (.alt (.cons 2 1 (.cons 2 2 (.cons 2 3 (.cons 2 4 (.cons 0 5 (.cons 0 6 (.cons 0 7 (.cons 0 8 (.cons 0 9 .nil))))))))) (.cons 2 2 (.alt (.cons 2 1 (.cons 2 3 (.cons 2 4 (.cons 0 5 (.cons 0 6 (.cons 0 7 (.cons 0 8 (.cons 0 9 .nil)))))))) (.cons 2 3 (.cons 2 1 (.cons 2 4 (.cons 0 5 (.cons 0 6 (.cons 0 7 (.cons 0 8 (.cons 0 9 .nil)))))))))))))],[],[],[],[],[]⟩,⟨91,[1,3,5,6,7,8,9,10,11,12,13,24,31,32,39,40,44,45,63,64,80,81,86,87,88],[27],[11,24,31,39,44]⟩,0,e_law9_known⟩
def b_ref3_Right_0:EC :=
 (.seq (.seq (.st [.eff (some 12) none (.load none (.un (.off 2) (.v 1)))])
 (.cond (.bi (.bin .lss) (.v 3) (.un .slen (.v 12)))
 (.skip)
 (.exit 1)))
 (.seq (.block 2 (.st [.eff (some 13) (some ((.v 2),true)) (.load none (.un (.off 2) (.v 1))),
  .sets [(2,(.pick (.v 2) (.tup (.call 0 f_ref3_Sign) (.cons (.bi .sidx (.v 13) (.v 3)) .nil)) (.c (.bool false))))]]))
 (.st [.sets [(3,(.bi (.bin .add) (.v 3) (.c (.int .i64 1))))]])))
def e_ref3_Right:EFunc:=⟨1,16,
 (.seq (.st [.eff (some 1) none (.box 3 T_ref3_Right_0 (.v 0))])
 (.seq (.seq (.st [.eff (some 4) none (.load none (.un (.off 0) (.v 1)))])
 (.block 0 (.cond (.bi (.bin .eql) (.v 4) (.c (.int .i64 1)))
  (.seq (.st [.eff (some 5) none (.load none (.un (.off 2) (.v 1)))])
  (.ret [.e (.bi (.bin .eql) (.v 5) (.c (.str [])))]))
  (.cond (.bi (.bin .eql) (.v 4) (.c (.int .i64 2)))
  (.seq (.st [.eff (some 6) none (.load none (.un (.off 1) (.v 1))),
   .eff (some 7) (some ((.bi (.bin .eql) (.v 6) (.c (.int .i64 0))),true)) (.load none (.un (.off 2) (.v 1))),
   .sets [(8,(.pick (.bi (.bin .eql) (.v 6) (.c (.int .i64 0))) (.bi (.bin .geq) (.un .slen (.v 7)) (.c (.int .i64 1))) (.c (.bool false)))),(9,(.gd true (.pick (.bi (.bin .eql) (.v 6) (.c (.int .i64 0))) (.bi (.bin .geq) (.un .slen (.v 7)) (.c (.int .i64 1))) (.c (.bool false))) (.un (.off 2) (.v 1))))],
   .eff (some 10) (some ((.v 8),true)) (.load none (.v 9)),
   .eff (some 11) (some ((.pick (.v 8) (.bi (.bin .leq) (.un .slen (.v 10)) (.c (.int .i64 40))) (.c (.bool false))),true)) (.load none (.un (.off 2) (.v 1))),
   .sets [(2,(.pick (.pick (.v 8) (.bi (.bin .leq) (.un .slen (.v 10)) (.c (.int .i64 40))) (.c (.bool false))) (.un .not (.tup (.call 0 f_ref1_Shape) (.cons (.v 11) .nil))) (.c (.bool false))))]])
  (.seq (.seq (.st [.sets [(3,(.c (.int .i64 0)))]])
  (.block 1 (.loop [false,true,true,true,false,false,false,false,false,false,false,false,false,false,false,false] b_ref3_Right_0)))
  (.ret [.e (.v 2)])))
  (.cond (.bi (.bin .eql) (.v 4) (.c (.int .i64 3)))
   (.seq (.st [.eff (some 14) none (.load none (.un (.off 1) (.v 1))),
    .eff (some 15) (some ((.bi (.bin .eql) (.v 14) (.c (.int .i64 0))),true)) (.load none (.un (.off 2) (.v 1)))])
   (.ret [.e (.pick (.bi (.bin .eql) (.v 14) (.c (.int .i64 0))) (.bi (.bin .leq) (.un .slen (.v 15)) (.c (.int .i64 1000))) (.c (.bool false)))]))
   (.skip))))))
 (.ret [.e (.c (.bool false))])))⟩
noncomputable def r10:ERow:=⟨Tryz.f10,⟨[],[(1,[false,true,false,true,true])],[],[],[],[]⟩,⟨62,[0,1,3,4,6,10,15,19,23,24,25,31,37,45,54,58],[],[]⟩,1,e_ref3_Right⟩
def b_tmpl_Template_Fill_0:EC :=
 (.seq (.cond (.bi (.bin .lss) (.v 10) (.v 9))
 (.skip)
 (.exit 0))
 (.seq (.block 1 (.seq (.st [.eff (some 11) none (.load (some 4) (.bi (.idx 4) (.v 8) (.v 10))),
  .eff (some 5) none (.zbox [(.str []),(.int .i64 0),(.int .i64 0),(.str [])] T_tmpl_Template_Fill_1),
  .eff none none (.store 4 (.v 5) (.v 11))])
 (.st [.eff (some 12) none (.load (some 3) (.un (.off 1) (.v 5))),
  .eff (some 13) none (.happend 3 32 T_tmpl_Template_Fill_0 (.v 4) (.tup (.bslice 3 [(.int .i64 0),(.int .i64 0),(.str [])] 1 [0]) (.cons (.v 12) .nil))),
  .sets [(4,(.v 13))]])))
 (.st [.sets [(10,(.bi (.bin .add) (.v 10) (.c (.int .i64 1))))]])))
def b_tmpl_Template_Fill_1:EC :=
 (.seq (.cond (.bi (.bin .lss) (.v 16) (.v 15))
 (.skip)
 (.exit 2))
 (.seq (.block 3 (.seq (.st [.eff (some 17) none (.load none (.bi (.idx 1) (.v 14) (.v 16))),
  .sets [(6,(.v 16))]])
 (.seq (.st [.eff (some 19) none (.load (some 2) (.v 3)),
  .sets [(18,(.tup (.call 0 f_tmpl_Template_Slot) (.cons (.v 19) (.cons (.v 17) .nil))))],
  .sets [(7,(.un (.ext 0) (.v 18)))]])
 (.seq (.block 4 (.cond (.un .not (.un (.ext 1) (.v 18)))
  (.ret [.e (.c .nils),.e (.c (.int .i64 5))])
  (.cond (.tup (.call 0 f_slices_Contains_string_string) (.cons (.lsub 1 false true false (.v 1) (.c .undef) (.v 6) (.c .undef)) (.cons (.v 17) .nil)))
   (.ret [.e (.c .nils),.e (.c (.int .i64 6))])
   (.skip))))
 (.st [.eff (some 20) none (.load (some 3) (.bi (.idx 3) (.v 2) (.v 6))),
  .eff none none (.store 3 (.bi (.idx 3) (.v 4) (.v 7)) (.v 20))])))))
 (.st [.sets [(16,(.bi (.bin .add) (.v 16) (.c (.int .i64 1))))]])))
def e_tmpl_Template_Fill:EFunc:=⟨3,22,
 (.seq (.st [.eff (some 3) none (.box 2 T_tmpl_Template_Fill_2 (.v 0))])
 (.seq (.cond (.bi (.bin .neq) (.un .len (.v 1)) (.un .len (.v 2)))
 (.ret [.e (.c .nils),.e (.c (.int .i64 1))])
 (.skip))
 (.seq (.st [.sets [(4,(.c .nils))]])
 (.seq (.seq (.st [.eff (some 8) none (.load none (.un (.off 1) (.v 3))),
  .sets [(9,(.un .len (.v 8))),(10,(.c (.int .i64 0)))]])
 (.block 0 (.loop [false,true,true,true,true,false,false,false,true,true,true,false,false,false,false,false,false,false,false,false,false,false] b_tmpl_Template_Fill_0)))
 (.seq (.seq (.st [.sets [(14,(.v 1)),(15,(.un .len (.v 1))),(16,(.c (.int .i64 0)))]])
 (.block 2 (.loop [false,true,true,true,true,false,false,false,false,false,false,false,false,false,true,true,true,false,false,false,false,false] b_tmpl_Template_Fill_1)))
 (.seq (.st [.eff (some 21) none (.calls [true,true,true,true,true,true,true,true,true,true,true,true,true,true,true,true] f_slices_Clip_api_Value_api_Value (.cons (.v 4) .nil))])
 (.ret [.e (.v 21),.e (.c (.int .i64 0))])))))))⟩
noncomputable def r12:ERow:=⟨Tryz.f12,⟨[],[(0,[false,true,true,true,false,false,false,false,true,false,false,false,false,false,false,false,false,false,false,false,false,true,true,true]),(2,[false,true,true,true,false,false,false,false,true,false,false,false,false,false,false,false,false,false,false,false,false,false,false,false,false,false,false,false,false,false,false,false,false,true,true,true])],[41],[],[],[]⟩,⟨65,[0,1,2,3,8,10,11,13,21,22,23,26,29,31,33,34,35,39,40,41,60,64],[],[40]⟩,3,e_tmpl_Template_Fill⟩
def e_tmpl_Template_Slot:EFunc:=⟨2,6,
 (.seq (.st [.eff (some 2) none (.box 2 T_tmpl_Template_Slot_0 (.v 0)),
  .eff (some 3) none (.box 1 T_tmpl_Template_Slot_1 (.v 1))])
 (.seq (.st [.eff (some 4) none (.load none (.un (.off 1) (.v 2))),
  .eff (some 5) none (.calls [false,true,true,true,true,true,true,true,true,true,true,true,true,true,true,true] f_slices_IndexFunc_tmpl_Slot_tmpl_Slot (.cons (.v 4) (.cons (.tup (.mkfn f_tmpl_Template_Slot_1) (.cons (.v 3) .nil)) .nil)))])
 (.ret [.e (.bi (.mm true) (.v 5) (.c (.int .i64 0))),.e (.bi (.bin .geq) (.v 5) (.c (.int .i64 0)))])))⟩
noncomputable def r15:ERow:=⟨Tryz.f15,⟨[],[],[],[],[],[]⟩,⟨15,[0,1,2,3,8,10],[],[]⟩,2,e_tmpl_Template_Slot⟩
def b_tmpl_Template_Text_0:EC :=
 (.seq (.cond (.bi (.bin .lss) (.v 8) (.v 7))
 (.skip)
 (.exit 0))
 (.seq (.block 1 (.seq (.st [.eff (some 4) none (.zbox [(.str []),(.int .i64 0),(.int .i64 0),(.str [])] T_tmpl_Template_Text_0),
  .eff none none (.store 4 (.v 4) (.un (.ld (some 4)) (.bi (.idx 4) (.v 6) (.v 8))))])
 (.cond (.bi (.bin .lss) (.v 8) (.un .len (.v 1)))
  (.st [.eff (some 9) none (.load none (.un (.off 0) (.v 4))),
   .eff none none (.calls [true,true,true,true,true,true,true,true,true,true,true,true,true,true,true,true] f_strings_Builder_WriteString (.cons (.v 3) (.cons (.bi (.bin .add) (.bi (.bin .add) (.bi (.bin .add) (.bi (.bin .add) (.c (.str [32,40])) (.v 9)) (.c (.str [32]))) (.tup (.call 0 f_val_Text) (.cons (.un (.ld (some 3)) (.bi (.idx 3) (.v 1) (.v 8))) .nil))) (.c (.str [41]))) .nil)))])
  (.skip))))
 (.st [.sets [(8,(.bi (.bin .add) (.v 8) (.c (.int .i64 1))))]])))
def e_tmpl_Template_Text:EFunc:=⟨2,11,
 (.seq (.st [.eff (some 2) none (.box 2 T_tmpl_Template_Text_1 (.v 0))])
 (.seq (.st [.eff (some 3) none (.zbox [.nilp,.nils] T_bld)])
 (.seq (.st [.eff (some 5) none (.load none (.un (.off 0) (.v 2))),
  .eff none none (.calls [true,true,true,true,true,true,true,true,true,true,true,true,true,true,true,true] f_strings_Builder_WriteString (.cons (.v 3) (.cons (.bi (.bin .add) (.c (.str [40])) (.v 5)) .nil)))])
 (.seq (.seq (.st [.eff (some 6) none (.load none (.un (.off 1) (.v 2))),
  .sets [(7,(.un .len (.v 6))),(8,(.c (.int .i64 0)))]])
 (.block 0 (.loop [false,true,false,true,false,false,true,true,true,false,false] b_tmpl_Template_Text_0)))
 (.seq (.st [.eff none none (.calls [true,true,true,true,true,true,true,true,true,true,true,true,true,true,true,true] f_strings_Builder_WriteString (.cons (.v 3) (.cons (.c (.str [41])) .nil)))])
 (.seq (.st [.eff (some 10) none (.calls [true,true,true,true,true,true,true,true,true,true,true,true,true,true,true,true] f_strings_Builder_String (.cons (.v 3) .nil))])
 (.ret [.e (.v 10)])))))))⟩
noncomputable def r17:ERow:=⟨Tryz.f17,⟨[(7,(.cons 0 0 (.cons 0 4 (.cons 0 5 (.cons 0 6 (.cons 1 1 (.cons 0 2 (.cons 0 3 (.cons 1 7 (.cons 2 8 (.cons 0 9 (.cons 0 10 (.cons 3 11 .nil)))))))))))))],[(0,[false,true,false,false,false,true,false,false,false,false,false,false,false,true,true,true])],[],[],[],[]⟩,⟨39,[0,1,2,5,7,9,13,14,15,25,38],[19,31],[]⟩,2,e_tmpl_Template_Text⟩
def e_ref3_Int:EFunc:=⟨1,2,
 (.seq (.st [.eff (some 1) none (.zbox [(.int .i64 0),(.int .i64 0),(.str [])] T_ref3_Int_0)])
 (.seq (.st [.eff none none (.store 3 (.v 1) (.tup (.build [(.int .i64 0),(.int .i64 0),(.str [])] [(0,1),(1,1)]) (.cons (.c (.int .i64 1)) (.cons (.v 0) .nil))))])
 (.ret [.cell (.v 1) (some 3)])))⟩
noncomputable def r19:ERow:=⟨Tryz.f19,⟨[],[],[],[],[],[]⟩,⟨5,[0,2],[],[]⟩,1,e_ref3_Int⟩
def e_ref3_Same:EFunc:=⟨2,12,
 (.seq (.st [.eff (some 2) none (.box 3 T_ref3_Same_0 (.v 0)),
  .eff (some 3) none (.box 3 T_ref3_Same_0 (.v 1))])
 (.seq (.st [.eff (some 4) none (.load none (.un (.off 0) (.v 2))),
  .eff (some 5) none (.load none (.un (.off 0) (.v 3))),
  .eff (some 6) (some ((.bi (.bin .eql) (.v 4) (.v 5)),true)) (.load none (.un (.off 1) (.v 2))),
  .eff (some 7) (some ((.bi (.bin .eql) (.v 4) (.v 5)),true)) (.load none (.un (.off 1) (.v 3))),
  .sets [(8,(.pick (.bi (.bin .eql) (.v 4) (.v 5)) (.bi (.bin .eql) (.v 6) (.v 7)) (.c (.bool false)))),(9,(.gd true (.pick (.bi (.bin .eql) (.v 4) (.v 5)) (.bi (.bin .eql) (.v 6) (.v 7)) (.c (.bool false))) (.un (.off 2) (.v 2))))],
  .eff (some 10) (some ((.v 8),true)) (.load none (.v 9)),
  .eff (some 11) (some ((.v 8),true)) (.load none (.un (.off 2) (.v 3)))])
 (.ret [.e (.pick (.v 8) (.bi (.bin .eql) (.v 10) (.v 11)) (.c (.bool false)))])))⟩
noncomputable def r20:ERow:=⟨Tryz.f20,⟨[],[],[],[],[],[]⟩,⟨24,[0,1,2,3,6,8,12,14,17,18,19,21],[],[]⟩,2,e_ref3_Same⟩
def b_tmpl_Parse_0:EC :=
 (.seq (.cond (.bi (.bin .lss) (.v 16) (.v 15))
 (.skip)
 (.exit 0))
 (.seq (.block 1 (.seq (.st [.eff (some 4) none (.zbox [(.int .i64 0),(.int .i64 0),(.int .i64 0),(.str []),.nils] T_tmpl_Parse_1),
  .eff none none (.store 5 (.v 4) (.un (.ld (some 5)) (.bi (.idx 5) (.v 14) (.v 16))))])
 (.seq (.st [.eff (some 18) none (.load (some 5) (.v 4)),
  .sets [(17,(.tup (.call 0 f_tmpl_slot) (.cons (.v 18) .nil)))],
  .eff (some 5) none (.zbox [(.str []),(.int .i64 0),(.int .i64 0),(.str [])] T_tmpl_Parse_0),
  .eff none none (.store 4 (.v 5) (.un (.ext 0) (.v 17)))])
 (.seq (.seq (.st [.eff (some 19) none (.load (some 2) (.v 3)),
  .eff (some 20) none (.load (some 4) (.v 5)),
  .sets [(6,(.tup (.call 0 f_tmpl_Template_may) (.cons (.v 19) (.cons (.v 20) (.cons (.un (.ext 1) (.v 17)) .nil)))))]])
 (.cond (.bi (.bin .neq) (.v 6) (.c (.int .i64 0)))
  (.seq (.st [.eff (some 21) none (.load (some 5) (.v 4)),
   .eff none none (.store 2 (.v 2) (.tup (.build [(.str []),.nils] []) .nil))])
  (.ret [.cell (.v 2) (some 2),.e (.tup (.call 0 f_tmpl_fault) (.cons (.v 21) (.cons (.v 6) .nil)))]))
  (.skip)))
 (.st [.eff (some 22) none (.load none (.un (.off 1) (.v 3))),
  .eff (some 23) none (.load (some 4) (.v 5)),
  .eff (some 24) none (.append 4 48 T_tmpl_Parse_0 (.v 22) (.tup (.bslice 4 [(.str []),(.int .i64 0),(.int .i64 0),(.str [])] 1 [0]) (.cons (.v 23) .nil))),
  .eff none none (.store 1 (.un (.off 1) (.v 3)) (.v 24))])))))
 (.st [.sets [(16,(.bi (.bin .add) (.v 16) (.c (.int .i64 1))))]])))
def e_tmpl_Parse:EFunc:=⟨1,26,
 (.seq (.st [.eff (some 1) none (.box 5 T_tmpl_Parse_1 (.v 0)),
  .eff (some 2) none (.zbox [(.str []),.nils] T_tmpl_Parse_2)])
 (.seq (.seq (.st [.eff (some 7) none (.load (some 5) (.v 1)),
  .sets [(8,(.tup (.call 0 f_sexp_Head) (.cons (.v 7) .nil)))],
  .eff (some 9) (some ((.bi (.bin .neq) (.v 8) (.c (.str [100,101,102,116,101,109,112,108,97,116,101]))),false)) (.load none (.un (.off 4) (.v 1))),
  .eff (some 10) (some ((.pick (.bi (.bin .neq) (.v 8) (.c (.str [100,101,102,116,101,109,112,108,97,116,101]))) (.c (.bool true)) (.bi (.bin .lss) (.un .len (.v 9)) (.c (.int .i64 2)))),false)) (.load none (.un (.off 4) (.v 1)))])
 (.cond (.pick (.pick (.bi (.bin .neq) (.v 8) (.c (.str [100,101,102,116,101,109,112,108,97,116,101]))) (.c (.bool true)) (.bi (.bin .lss) (.un .len (.v 9)) (.c (.int .i64 2)))) (.c (.bool true)) (.un .not (.tup (.call 0 f_tmpl_good) (.cons (.un (.ld (some 5)) (.bi (.idx 5) (.v 10) (.c (.int .i64 1)))) .nil))))
 (.seq (.st [.eff (some 11) none (.load (some 5) (.v 1)),
  .eff none none (.store 2 (.v 2) (.tup (.build [(.str []),.nils] []) .nil))])
 (.ret [.cell (.v 2) (some 2),.e (.tup (.call 0 f_tmpl_fault) (.cons (.v 11) (.cons (.c (.int .i64 2)) .nil)))]))
 (.skip)))
 (.seq (.st [.eff (some 12) none (.load none (.un (.off 4) (.v 1))),
  .eff (some 3) none (.zbox [(.str []),.nils] T_tmpl_Parse_2),
  .eff none none (.store 2 (.v 3) (.tup (.build [(.str []),.nils] [(0,1)]) (.cons (.un (.ld none) (.un (.off 3) (.bi (.idx 5) (.v 12) (.c (.int .i64 1))))) .nil)))])
 (.seq (.seq (.st [.eff (some 13) none (.load none (.un (.off 4) (.v 1))),
  .sets [(14,(.lsub 5 true false false (.v 13) (.c (.int .i64 2)) (.c .undef) (.c .undef))),(15,(.un .len (.lsub 5 true false false (.v 13) (.c (.int .i64 2)) (.c .undef) (.c .undef)))),(16,(.c (.int .i64 0)))]])
 (.block 0 (.loop [false,false,true,true,false,false,false,false,false,false,false,false,false,false,true,true,true,false,false,false,false,false,false,false,false,false] b_tmpl_Parse_0)))
 (.seq (.st [.eff (some 25) none (.load (some 2) (.v 3)),
  .eff none none (.store 2 (.v 2) (.v 25))])
 (.ret [.cell (.v 2) (some 2),.e (.c .nili)]))))))⟩
noncomputable def r21:ERow:=⟨Tryz.f21,⟨[],[(0,[false,false,true,false,true,false,false,false,false,false,false,false,false,false,false,false,false,false,false,false,false,false,false,false,false,false,false,false,false,false,false,false,false,false,false,false,false,false,true,true,true])],[],[],[],[]⟩,⟨67,[0,1,2,4,6,7,9,10,11,15,21,28,31,37,38,39,40,44,45,49,50,56,60,61,63,66],[23,34,43],[11,44]⟩,1,e_tmpl_Parse⟩
def b_tmpl_Node_0:EC :=
 (.seq (.cond (.bi (.bin .lss) (.v 9) (.v 8))
 (.skip)
 (.exit 0))
 (.seq (.block 1 (.seq (.st [.eff (some 4) none (.zbox [(.str []),(.int .i64 0),(.int .i64 0),(.str [])] T_tmpl_Node_1),
  .eff none none (.store 4 (.v 4) (.un (.ld (some 4)) (.bi (.idx 4) (.v 7) (.v 9))))])
 (.seq (.st [.eff (some 10) none (.load none (.un (.off 0) (.v 4))),
  .eff (some 5) none (.zbox [(.int .i64 0),(.int .i64 0),(.int .i64 0),(.str []),.nils] T_tmpl_Node_0),
  .eff none none (.store 5 (.v 5) (.tup (.call 3 f_tmpl_list) (.cons (.tup (.bslice 5 [(.int .i64 0),(.int .i64 0),(.int .i64 0),(.str []),.nils] 2 [0,1]) (.cons (.tup (.call 0 f_tmpl_word) (.cons (.c (.str [115,108,111,116])) .nil)) (.cons (.tup (.call 0 f_tmpl_word) (.cons (.v 10) .nil)) .nil))) .nil)))])
 (.seq (.seq (.st [.eff (some 11) none (.load (some 3) (.un (.off 1) (.v 4)))])
 (.cond (.un .not (.tup (.call 0 f_val_Same) (.cons (.v 11) (.cons (.tup (.call 0 f_tmpl_none) .nil) .nil))))
  (.st [.eff (some 12) none (.load none (.un (.off 4) (.v 5))),
   .eff (some 13) none (.load (some 3) (.un (.off 1) (.v 4))),
   .eff (some 14) none (.append 5 64 T_tmpl_Node_0 (.v 12) (.tup (.bslice 5 [(.int .i64 0),(.int .i64 0),(.int .i64 0),(.str []),.nils] 1 [0]) (.cons (.tup (.call 3 f_tmpl_list) (.cons (.tup (.bslice 5 [(.int .i64 0),(.int .i64 0),(.int .i64 0),(.str []),.nils] 2 [0,1]) (.cons (.tup (.call 0 f_tmpl_word) (.cons (.c (.str [100,101,102,97,117,108,116])) .nil)) (.cons (.tup (.call 0 f_tmpl_leaf) (.cons (.v 13) .nil)) .nil))) .nil)) .nil))),
   .eff none none (.store 1 (.un (.off 4) (.v 5)) (.v 14))])
  (.skip)))
 (.st [.eff (some 15) none (.load none (.un (.off 4) (.v 3))),
  .eff (some 16) none (.load (some 5) (.v 5)),
  .eff (some 17) none (.append 5 64 T_tmpl_Node_0 (.v 15) (.tup (.bslice 5 [(.int .i64 0),(.int .i64 0),(.int .i64 0),(.str []),.nils] 1 [0]) (.cons (.v 16) .nil))),
  .eff none none (.store 1 (.un (.off 4) (.v 3)) (.v 17))])))))
 (.st [.sets [(9,(.bi (.bin .add) (.v 9) (.c (.int .i64 1))))]])))
def e_tmpl_Node:EFunc:=⟨1,19,
 (.seq (.st [.eff (some 1) none (.box 2 T_tmpl_Node_2 (.v 0)),
  .eff (some 2) none (.zbox [(.int .i64 0),(.int .i64 0),(.int .i64 0),(.str []),.nils] T_tmpl_Node_0)])
 (.seq (.st [.eff (some 6) none (.load none (.un (.off 0) (.v 1))),
  .eff (some 3) none (.zbox [(.int .i64 0),(.int .i64 0),(.int .i64 0),(.str []),.nils] T_tmpl_Node_0),
  .eff none none (.store 5 (.v 3) (.tup (.call 3 f_tmpl_list) (.cons (.tup (.bslice 5 [(.int .i64 0),(.int .i64 0),(.int .i64 0),(.str []),.nils] 2 [0,1]) (.cons (.tup (.call 0 f_tmpl_word) (.cons (.c (.str [100,101,102,116,101,109,112,108,97,116,101])) .nil)) (.cons (.tup (.call 0 f_tmpl_word) (.cons (.v 6) .nil)) .nil))) .nil)))])
 (.seq (.seq (.st [.eff (some 7) none (.load none (.un (.off 1) (.v 1))),
  .sets [(8,(.un .len (.v 7))),(9,(.c (.int .i64 0)))]])
 (.block 0 (.loop [false,false,true,true,false,false,false,true,true,true,false,false,false,false,false,false,false,false,false] b_tmpl_Node_0)))
 (.seq (.st [.eff (some 18) none (.load (some 5) (.v 3)),
  .eff none none (.store 5 (.v 2) (.v 18))])
 (.ret [.cell (.v 2) (some 5)])))))⟩
noncomputable def r26:ERow:=⟨Tryz.f26,⟨[(1,(.cons 0 1 (.cons 1 2 (.alt (.cons 2 0 (.alt (.cons 2 3 (.alt (.cons 2 4 (.alt (.cons 2 5 (.cons 2 6 (.cons 3 7 .nil))) (.cons 2 6 (.cons 2 5 (.cons 3 7 .nil))))) (.cons 2 6 (.cons 2 4 (.cons 2 5 (.cons 3 7 .nil)))))) (.cons 2 6 (.cons 2 3 (.cons 2 4 (.cons 2 5 (.cons 3 7 .nil))))))) (.cons 2 6 (.cons 2 0 (.cons 2 3 (.cons 2 4 (.cons 2 5 (.cons 3 7 .nil)))))))))),(5,(.cons 0 1 (.cons 1 2 (.alt (.cons 2 0 (.alt (.cons 2 3 (.alt (.cons 2 4 (.alt (.cons 2 5 (.cons 2 6 (.cons 3 7 .nil))) (.cons 2 6 (.cons 2 5 (.cons 3 7 .nil))))) (.cons 2 6 (.cons 2 4 (.cons 2 5 (.cons 3 7 .nil)))))) (.cons 2 6 (.cons 2 3 (.cons 2 4 (.cons 2 5 (.cons 3 7 .nil))))))) (.cons 2 6 (.cons 2 0 (.cons 2 3 (.cons 2 4 (.cons 2 5 (.cons 3 7 .nil)))))))))),(6,(.cons 0 0 (.cons 1 1 (.cons 2 2 (.cons 2 3 (.cons 0 4 .nil)))))),(7,(.cons 0 0 (.cons 0 3 (.cons 1 1 (.cons 1 4 (.cons 2 2 (.cons 2 5 (.cons 2 6 (.cons 2 7 (.cons 2 8 (.cons 2 9 (.cons 0 10 (.cons 3 11 .nil)))))))))))))],[(0,[false,false,true,true,false,false,false,false,false,false,false,false,false,false,true,true,true])],[],[],[],[]⟩,⟨50,[0,1,2,3,5,6,9,14,15,16,22,27,32,35,40,43,44,46,49],[19],[]⟩,1,e_tmpl_Node⟩
def e_tmpl_Same:EFunc:=⟨2,9,
 (.seq (.st [.eff (some 2) none (.box 2 T_tmpl_Same_0 (.v 0)),
  .eff (some 3) none (.box 2 T_tmpl_Same_0 (.v 1))])
 (.seq (.st [.eff (some 4) none (.load none (.un (.off 0) (.v 2))),
  .eff (some 5) none (.load none (.un (.off 0) (.v 3))),
  .eff (some 6) (some ((.bi (.bin .eql) (.v 4) (.v 5)),true)) (.load none (.un (.off 1) (.v 2))),
  .eff (some 7) (some ((.bi (.bin .eql) (.v 4) (.v 5)),true)) (.load none (.un (.off 1) (.v 3))),
  .eff (some 8) (some ((.bi (.bin .eql) (.v 4) (.v 5)),true)) (.calls [false,false,true,true,true,true,true,true,true,true,true,true,true,true,true,true] f_slices_EqualFunc_tmpl_Slot_tmpl_Slot_tmpl_Slot_tmpl_Slot (.cons (.v 6) (.cons (.v 7) (.cons (.c (.func f_tmpl_Same_1 [])) .nil))))])
 (.ret [.e (.pick (.bi (.bin .eql) (.v 4) (.v 5)) (.v 8) (.c (.bool false)))])))⟩
noncomputable def r27:ERow:=⟨Tryz.f27,⟨[],[],[],[],[],[]⟩,⟨17,[0,1,2,3,6,8,12,14,15],[],[]⟩,2,e_tmpl_Same⟩
def b_sexp_Read_0:EC :=
 (.seq (.cond (.bi (.bin .lss) (.v 3) (.un .len (.v 1)))
 (.skip)
 (.exit 0))
 (.block 1 (.seq (.st [.eff (some 7) none (.calls [true,true,true,true,true,true,true,true,true,true,true,true,true,true,true,true] f_sexp_reader_step (.cons (.v 2) (.cons (.v 3) .nil))),
  .sets [(4,(.un (.ext 0) (.v 7)))]])
 (.seq (.cond (.bi (.eqs 1 true) (.un (.ext 1) (.v 7)) (.c .nili))
  (.ret [.e (.c .nils),.e (.un (.ext 1) (.v 7))])
  (.skip))
 (.st [.sets [(3,(.bi (.bin .add) (.v 3) (.v 4)))]])))))
def e_sexp_Read:EFunc:=⟨1,12,
 (.seq (.st [.sets [(5,(.tup (.call 0 f_lex_Scan) (.cons (.v 0) .nil)))],
  .sets [(1,(.un (.ext 0) (.v 5)))]])
 (.seq (.cond (.bi (.eqs 1 true) (.un (.ext 1) (.v 5)) (.c .nili))
 (.ret [.e (.c .nils),.e (.un (.ext 1) (.v 5))])
 (.skip))
 (.seq (.st [.eff (some 6) none (.box 4 T_sexp_Read_0 (.tup (.build [.nils,(.int .i64 0),.nils,.nils] [(0,1)]) (.cons (.v 1) .nil))),
  .sets [(2,(.v 6))]])
 (.seq (.seq (.st [.sets [(3,(.c (.int .i64 0)))]])
 (.block 0 (.loop [false,true,true,true,false,false,false,false,false,false,false,false] b_sexp_Read_0)))
 (.seq (.seq (.st [.eff (some 8) none (.load none (.un (.off 2) (.un .nilchk (.v 2))))])
 (.cond (.bi (.bin .gtr) (.un .len (.v 8)) (.c (.int .i64 0)))
 (.seq (.st [.eff (some 9) none (.load none (.un (.off 2) (.un .nilchk (.v 2)))),
  .eff (some 10) none (.load none (.un (.off 1) (.bi (.idx 5) (.v 9) (.bi (.bin .sub) (.un .len (.v 8)) (.c (.int .i64 1))))))])
 (.ret [.e (.c .nils),.e (.tup (.call 0 f_sexp_fault) (.cons (.v 10) (.cons (.c (.int .i64 3)) .nil)))]))
 (.skip)))
 (.seq (.st [.eff (some 11) none (.load none (.un (.off 3) (.un .nilchk (.v 2))))])
 (.ret [.e (.v 11),.e (.c .nili)])))))))⟩
noncomputable def r31:ERow:=⟨Tryz.f31,⟨[],[(0,[false,false,false,false,true,false,true,true])],[],[],[],[]⟩,⟨59,[0,4,6,7,8,11,21,29,41,48,53,58],[],[11]⟩,1,e_sexp_Read⟩
def e_ref3_Sym:EFunc:=⟨1,2,
 (.seq (.st [.eff (some 1) none (.zbox [(.int .i64 0),(.int .i64 0),(.str [])] T_ref3_Sym_0)])
 (.seq (.st [.eff none none (.store 3 (.v 1) (.tup (.build [(.int .i64 0),(.int .i64 0),(.str [])] [(0,1),(2,1)]) (.cons (.c (.int .i64 2)) (.cons (.v 0) .nil))))])
 (.ret [.cell (.v 1) (some 3)])))⟩
noncomputable def r33:ERow:=⟨Tryz.f33,⟨[],[],[],[],[],[]⟩,⟨5,[0,2],[],[]⟩,1,e_ref3_Sym⟩
def b_sexp_Text_0:EC :=
 (.seq (.cond (.bi (.bin .lss) (.v 9) (.v 8))
 (.skip)
 (.exit 1))
 (.seq (.block 2 (.seq (.st [.eff (some 3) none (.zbox [(.int .i64 0),(.int .i64 0),(.int .i64 0),(.str []),.nils] T_sexp_Text_1),
  .eff none none (.store 5 (.v 3) (.un (.ld (some 5)) (.bi (.idx 5) (.v 7) (.v 9))))])
 (.st [.eff (some 10) none (.load (some 5) (.v 3)),
  .eff (some 11) none (.append 1 16 T_sexp_Text_0 (.v 2) (.tup (.bslice 1 [(.str [])] 1 [0]) (.cons (.tup (.call 0 f_sexp_Text) (.cons (.v 10) .nil)) .nil))),
  .sets [(2,(.v 11))]])))
 (.st [.sets [(9,(.bi (.bin .add) (.v 9) (.c (.int .i64 1))))]])))
def b_sexp_Text_1:EC :=
 (.seq (.cond (.bi (.bin .lss) (.v 14) (.v 13))
 (.skip)
 (.exit 3))
 (.seq (.block 4 (.seq (.st [.eff (some 5) none (.zbox [(.int .i64 0),(.int .i64 0),(.int .i64 0),(.str []),.nils] T_sexp_Text_1),
  .eff none none (.store 5 (.v 5) (.un (.ld (some 5)) (.bi (.idx 5) (.v 12) (.v 14))))])
 (.st [.eff (some 15) none (.load (some 5) (.v 5)),
  .sets [(4,(.bi (.bin .add) (.v 4) (.tup (.call 0 f_sexp_Text) (.cons (.v 15) .nil))))]])))
 (.st [.sets [(14,(.bi (.bin .add) (.v 14) (.c (.int .i64 1))))]])))
def e_sexp_Text:EFunc:=⟨1,19,
 (.seq (.st [.eff (some 1) none (.box 5 T_sexp_Text_1 (.v 0))])
 (.seq (.seq (.st [.eff (some 6) none (.load none (.un (.off 0) (.v 1)))])
 (.block 0 (.cond (.bi (.bin .eql) (.v 6) (.c (.int .i64 0)))
  (.seq (.st [.sets [(2,(.c .nils))]])
  (.seq (.seq (.st [.eff (some 7) none (.load none (.un (.off 4) (.v 1))),
   .sets [(8,(.un .len (.v 7))),(9,(.c (.int .i64 0)))]])
  (.block 1 (.loop [false,false,true,false,false,false,false,true,true,true,false,false,false,false,false,false,false,false,false] b_sexp_Text_0)))
  (.ret [.e (.bi (.bin .add) (.bi (.bin .add) (.c (.str [40])) (.tup (.call 0 f_strings_Join) (.cons (.v 2) (.cons (.c (.str [32])) .nil)))) (.c (.str [41])))])))
  (.cond (.bi (.bin .eql) (.v 6) (.c (.int .i64 8)))
  (.seq (.st [.sets [(4,(.c (.str [126])))]])
  (.seq (.seq (.st [.eff (some 12) none (.load none (.un (.off 4) (.v 1))),
   .sets [(13,(.un .len (.v 12))),(14,(.c (.int .i64 0)))]])
  (.block 3 (.loop [false,false,false,false,true,false,false,false,false,false,false,false,true,true,true,false,false,false,false] b_sexp_Text_1)))
  (.ret [.e (.v 4)])))
  (.skip)))))
 (.seq (.st [.eff (some 16) none (.load none (.un (.off 0) (.v 1))),
  .eff (some 17) none (.load none (.un (.off 2) (.v 1))),
  .eff (some 18) none (.load none (.un (.off 3) (.v 1)))])
 (.ret [.e (.tup (.call 0 f_lex_Text) (.cons (.tup (.build [(.int .i64 0),(.int .i64 0),(.int .i64 0),(.str [])] [(0,1),(2,1),(3,1)]) (.cons (.v 16) (.cons (.v 17) (.cons (.v 18) .nil)))) .nil))]))))⟩
noncomputable def r34:ERow:=⟨Tryz.f34,⟨[],[(1,[false,false,false,true,false,false,false,false,false,false,false,false,false,false,true,true,true]),(3,[false,false,false,false,false,false,true,false,false,false,false,false,false,false,false,false,false,false,false,false,false,false,false,false,false,false,false,false,false,false,false,false,false,true,true,true])],[],[],[],[]⟩,⟨53,[0,1,3,5,6,8,10,14,15,16,21,24,33,34,35,40,46,48,50],[19,38],[]⟩,1,e_sexp_Text⟩
def b_ref1_Shape_0:EC :=
 (.seq (.cond (.bi (.bin .lss) (.v 2) (.un .slen (.v 0)))
 (.skip)
 (.exit 0))
 (.seq (.block 1 (.cond (.pick (.bi (.bin .lss) (.bi .sidx (.v 0) (.v 2)) (.c (.int .u8 48))) (.c (.bool true)) (.bi (.bin .gtr) (.bi .sidx (.v 0) (.v 2)) (.c (.int .u8 57))))
  (.ret [.e (.c (.bool false))])
  (.skip)))
 (.st [.sets [(2,(.bi (.bin .add) (.v 2) (.c (.int .i64 1))))]])))
def e_ref1_Shape:EFunc:=⟨1,3,
 (.seq (.st [.sets [(1,(.c (.int .i64 0)))]])
 (.seq (.cond (.pick (.bi (.bin .gtr) (.un .slen (.v 0)) (.c (.int .i64 0))) (.pick (.bi (.bin .eql) (.bi .sidx (.v 0) (.c (.int .i64 0))) (.c (.int .u8 43))) (.c (.bool true)) (.bi (.bin .eql) (.bi .sidx (.v 0) (.c (.int .i64 0))) (.c (.int .u8 45)))) (.c (.bool false)))
 (.st [.sets [(1,(.c (.int .i64 1)))]])
 (.skip))
 (.seq (.seq (.st [.sets [(2,(.v 1))]])
 (.block 0 (.loop [true,true,true] b_ref1_Shape_0)))
 (.ret [.e (.bi (.bin .gtr) (.un .slen (.v 0)) (.v 1))]))))⟩
noncomputable def r40:ERow:=⟨Tryz.f40,⟨[],[(0,[true,false,false,true,true])],[],[],[],[]⟩,⟨39,[0,3,4],[],[]⟩,1,e_ref1_Shape⟩
def e_ref3_Sign:EFunc:=⟨1,1,
 (.ret [.e (.pick (.pick (.pick (.pick (.pick (.pick (.pick (.bi (.bin .geq) (.v 0) (.c (.int .u8 33))) (.bi (.bin .leq) (.v 0) (.c (.int .u8 126))) (.c (.bool false))) (.bi (.bin .neq) (.v 0) (.c (.int .u8 40))) (.c (.bool false))) (.bi (.bin .neq) (.v 0) (.c (.int .u8 41))) (.c (.bool false))) (.bi (.bin .neq) (.v 0) (.c (.int .u8 34))) (.c (.bool false))) (.bi (.bin .neq) (.v 0) (.c (.int .u8 59))) (.c (.bool false))) (.bi (.bin .neq) (.v 0) (.c (.int .u8 63))) (.c (.bool false))) (.bi (.bin .neq) (.v 0) (.c (.int .u8 126))) (.c (.bool false)))])⟩
noncomputable def r41:ERow:=⟨Tryz.f41,⟨[],[],[],[],[],[]⟩,⟨33,[0],[],[]⟩,1,e_ref3_Sign⟩
def e_slices_Contains_string_string:EFunc:=⟨2,2,
 (.ret [.e (.bi (.bin .geq) (.tup (.call 0 f_slices_Index_string_string) (.cons (.v 0) (.cons (.v 1) .nil))) (.c (.int .i64 0)))])⟩
noncomputable def r42:ERow:=⟨Tryz.f42,⟨[],[],[],[],[],[]⟩,⟨9,[0,1],[],[]⟩,2,e_slices_Contains_string_string⟩
def e_slices_Clip_api_Value_api_Value:EFunc:=⟨1,1,
 (.ret [.e (.lsub 3 false true true (.v 0) (.c .undef) (.un .len (.v 0)) (.un .len (.v 0)))])⟩
noncomputable def r43:ERow:=⟨Tryz.f43,⟨[],[],[],[],[],[]⟩,⟨9,[0],[],[]⟩,1,e_slices_Clip_api_Value_api_Value⟩
def b_slices_IndexFunc_tmpl_Slot_tmpl_Slot_0:EC :=
 (.seq (.cond (.bi (.bin .lss) (.v 3) (.v 2))
 (.skip)
 (.exit 0))
 (.seq (.block 1 (.seq (.st [.eff (some 4) none (.callv (.v 1) (.cons (.un (.ld (some 4)) (.bi (.idx 4) (.v 0) (.v 3))) .nil))])
 (.cond (.v 4)
  (.ret [.e (.v 3)])
  (.skip))))
 (.st [.sets [(3,(.bi (.bin .add) (.v 3) (.c (.int .i64 1))))]])))
def e_slices_IndexFunc_tmpl_Slot_tmpl_Slot:EFunc:=⟨2,5,
 (.seq (.seq (.st [.sets [(2,(.un .len (.v 0))),(3,(.c (.int .i64 0)))]])
 (.block 0 (.loop [true,true,true,true,false] b_slices_IndexFunc_tmpl_Slot_tmpl_Slot_0)))
 (.ret [.e (.c (.int .i64 (-1)))]))⟩
noncomputable def r44:ERow:=⟨Tryz.f44,⟨[],[(0,[true,true,false,false,false,false,false,true,true])],[],[],[],[]⟩,⟨19,[0,1,7,8,16],[15],[]⟩,2,e_slices_IndexFunc_tmpl_Slot_tmpl_Slot⟩
def e_tmpl_Template_Slot_1:EFunc:=⟨2,5,
 (.seq (.st [.eff (some 2) none (.box 4 T_tmpl_Template_Slot_1_0 (.v 0))])
 (.seq (.st [.eff (some 3) none (.load none (.un (.off 0) (.v 2))),
  .eff (some 4) none (.load none (.v 1))])
 (.ret [.e (.bi (.bin .eql) (.v 3) (.v 4))])))⟩
noncomputable def r45:ERow:=⟨Tryz.f45,⟨[],[],[],[],[],[]⟩,⟨8,[0,1,2,5,6],[],[]⟩,2,e_tmpl_Template_Slot_1⟩
def e_strings_Builder_WriteString:EFunc:=⟨2,4,
 (.seq (.st [.eff none none (.calls [true,true,true,true,true,true,true,true,true,true,true,true,true,true,true,true] f_strings_Builder_copyCheck (.cons (.v 0) .nil))])
 (.seq (.st [.eff (some 2) none (.load none (.un (.off 1) (.un .nilchk (.v 0)))),
  .eff (some 3) none (.append 1 1 T_byte (.v 2) (.v 1)),
  .eff none none (.store 1 (.un (.off 1) (.un .nilchk (.v 0))) (.v 3))])
 (.ret [.e (.un .slen (.v 1)),.e (.c .nili)])))⟩
noncomputable def r46:ERow:=⟨Tryz.f46,⟨[],[],[],[],[],[]⟩,⟨19,[0,1,12,14],[],[]⟩,2,e_strings_Builder_WriteString⟩
def e_val_Text:EFunc:=⟨1,6,
 (.seq (.st [.eff (some 1) none (.box 3 T_val_Text_0 (.v 0))])
 (.seq (.st [.eff (some 3) none (.load none (.un (.off 2) (.v 1))),
  .sets [(2,(.v 3))]])
 (.seq (.seq (.st [.eff (some 4) none (.load none (.un (.off 0) (.v 1)))])
 (.block 0 (.seq (.block 3 (.seq (.block 2 (.seq (.block 1 (.seq (.seq (.cond (.bi (.bin .eql) (.v 4) (.c (.int .i64 1)))
   (.exit 1)
   (.skip))
   (.seq (.cond (.bi (.bin .eql) (.v 4) (.c (.int .i64 3)))
   (.exit 2)
   (.skip))
   (.cond (.bi (.bin .eql) (.v 4) (.c (.int .i64 2)))
   (.exit 3)
   (.skip))))
   (.exit 0)))
  (.seq (.st [.eff (some 5) none (.load none (.un (.off 1) (.v 1))),
   .sets [(2,(.tup (.call 0 f_num_Text) (.cons (.v 5) .nil)))]])
  (.exit 0))))
  (.st [.sets [(2,(.tup (.call 0 f_val_Quote) (.cons (.v 2) .nil)))]])))
 (.seq (.st [.sets [(2,(.tup (.call 0 f_strings_Clone) (.cons (.v 2) .nil)))]])
 (.exit 0)))))
 (.ret [.e (.v 2)]))))⟩
noncomputable def r47:ERow:=⟨Tryz.f47,⟨[],[],[],[],[],[]⟩,⟨22,[0,1,3,5,7,15],[],[]⟩,1,e_val_Text⟩
def e_strings_Builder_String:EFunc:=⟨1,4,
 (.seq (.st [.eff (some 1) none (.load none (.un (.off 1) (.un .nilchk (.v 0)))),
  .eff (some 2) none (.load none (.un (.off 1) (.un .nilchk (.v 0)))),
  .eff (some 3) none (.ustr T_byte (.un .sdata (.v 1)) (.un .len (.v 2)))])
 (.ret [.e (.v 3)]))⟩
noncomputable def r48:ERow:=⟨Tryz.f48,⟨[(1,(.cons 0 0 (.cons 0 1 (.cons 0 2 (.cons 0 5 (.cons 0 6 (.cons 0 7 (.cons 1 3 (.cons 0 4 (.cons 1 8 (.cons 0 9 (.cons 2 10 (.cons 0 11 .nil)))))))))))))],[],[],[],[],[]⟩,⟨14,[0,6,11,13],[],[]⟩,1,e_strings_Builder_String⟩
def e_sexp_Head:EFunc:=⟨1,6,
 (.seq (.st [.eff (some 1) none (.box 5 T_sexp_Head_0 (.v 0))])
 (.seq (.seq (.st [.eff (some 2) none (.load none (.un (.off 0) (.v 1))),
  .eff (some 3) (some ((.bi (.bin .neq) (.v 2) (.c (.int .i64 0))),false)) (.load none (.un (.off 4) (.v 1))),
  .eff (some 4) (some ((.pick (.bi (.bin .neq) (.v 2) (.c (.int .i64 0))) (.c (.bool true)) (.bi (.bin .eql) (.un .len (.v 3)) (.c (.int .i64 0)))),false)) (.load none (.un (.off 4) (.v 1)))])
 (.cond (.pick (.pick (.bi (.bin .neq) (.v 2) (.c (.int .i64 0))) (.c (.bool true)) (.bi (.bin .eql) (.un .len (.v 3)) (.c (.int .i64 0)))) (.c (.bool true)) (.bi (.bin .neq) (.un (.ld none) (.un (.off 0) (.bi (.idx 5) (.v 4) (.c (.int .i64 0))))) (.c (.int .i64 2))))
 (.ret [.e (.c (.str []))])
 (.skip)))
 (.seq (.st [.eff (some 5) none (.load none (.un (.off 4) (.v 1)))])
 (.ret [.e (.un (.ld none) (.un (.off 3) (.bi (.idx 5) (.v 5) (.c (.int .i64 0)))))]))))⟩
noncomputable def r50:ERow:=⟨Tryz.f50,⟨[],[],[],[],[],[]⟩,⟨25,[0,1,4,8,14,21],[17,24],[]⟩,1,e_sexp_Head⟩
def e_tmpl_good:EFunc:=⟨1,4,
 (.seq (.st [.eff (some 1) none (.box 5 T_tmpl_good_0 (.v 0))])
 (.seq (.st [.eff (some 2) none (.load none (.un (.off 0) (.v 1))),
  .eff (some 3) (some ((.bi (.bin .eql) (.v 2) (.c (.int .i64 2))),true)) (.load none (.un (.off 3) (.v 1)))])
 (.ret [.e (.pick (.bi (.bin .eql) (.v 2) (.c (.int .i64 2))) (.tup (.call 0 f_sym_Good) (.cons (.v 3) .nil)) (.c (.bool false)))])))⟩
noncomputable def r51:ERow:=⟨Tryz.f51,⟨[],[],[],[],[],[]⟩,⟨11,[0,1,4,8],[],[]⟩,1,e_tmpl_good⟩
def e_tmpl_fault:EFunc:=⟨2,5,
 (.seq (.st [.eff (some 2) none (.box 5 T_tmpl_fault_0 (.v 0))])
 (.seq (.st [.eff (some 3) none (.load none (.un (.off 1) (.v 2))),
  .eff (some 4) none (.box 3 T_tmpl_fault_1 (.tup (.build [(.str []),(.int .i64 0),.nili] [(0,1),(1,1),(2,1)]) (.cons (.c (.str [99,104,97,114])) (.cons (.v 3) (.cons (.un (.iface T_tmpl_fault_2) (.v 1)) .nil)))))])
 (.ret [.e (.un (.iface T_tmpl_fault_3) (.v 4))])))⟩
noncomputable def r52:ERow:=⟨Tryz.f52,⟨[],[],[],[],[],[]⟩,⟨12,[0,1,2,6,10],[],[]⟩,2,e_tmpl_fault⟩
def e_tmpl_slot:EFunc:=⟨1,24,
 (.seq (.st [.eff (some 1) none (.box 5 T_tmpl_slot_0 (.v 0)),
  .eff (some 2) none (.zbox [(.str []),(.int .i64 0),(.int .i64 0),(.str [])] T_tmpl_slot_1)])
 (.seq (.seq (.st [.eff (some 6) none (.load (some 5) (.v 1)),
  .sets [(7,(.tup (.call 0 f_sexp_Head) (.cons (.v 6) .nil)))],
  .eff (some 8) (some ((.bi (.bin .neq) (.v 7) (.c (.str [115,108,111,116]))),false)) (.load none (.un (.off 4) (.v 1))),
  .sets [(9,(.pick (.bi (.bin .neq) (.v 7) (.c (.str [115,108,111,116]))) (.c (.bool true)) (.bi (.bin .lss) (.un .len (.v 8)) (.c (.int .i64 2))))),(10,(.gd false (.pick (.bi (.bin .neq) (.v 7) (.c (.str [115,108,111,116]))) (.c (.bool true)) (.bi (.bin .lss) (.un .len (.v 8)) (.c (.int .i64 2)))) (.un (.off 4) (.v 1))))],
  .eff (some 11) (some ((.v 9),false)) (.load none (.v 10)),
  .eff (some 12) (some ((.pick (.v 9) (.c (.bool true)) (.bi (.bin .gtr) (.un .len (.v 11)) (.c (.int .i64 3)))),false)) (.load none (.un (.off 4) (.v 1)))])
 (.cond (.pick (.pick (.v 9) (.c (.bool true)) (.bi (.bin .gtr) (.un .len (.v 11)) (.c (.int .i64 3)))) (.c (.bool true)) (.un .not (.tup (.call 0 f_tmpl_good) (.cons (.un (.ld (some 5)) (.bi (.idx 5) (.v 12) (.c (.int .i64 1)))) .nil))))
 (.seq (.st [.eff none none (.store 4 (.v 2) (.tup (.build [(.str []),(.int .i64 0),(.int .i64 0),(.str [])] []) .nil))])
 (.ret [.cell (.v 2) (some 4),.e (.c (.bool false))]))
 (.skip)))
 (.seq (.st [.eff (some 13) none (.load none (.un (.off 4) (.v 1))),
  .eff (some 3) none (.zbox [(.str []),(.int .i64 0),(.int .i64 0),(.str [])] T_tmpl_slot_1),
  .eff none none (.store 4 (.v 3) (.tup (.build [(.str []),(.int .i64 0),(.int .i64 0),(.str [])] [(0,1),(1,3)]) (.cons (.un (.ld none) (.un (.off 3) (.bi (.idx 5) (.v 13) (.c (.int .i64 1))))) (.cons (.tup (.call 0 f_tmpl_none) .nil) .nil))))])
 (.seq (.seq (.st [.eff (some 14) none (.load none (.un (.off 4) (.v 1)))])
 (.cond (.bi (.bin .eql) (.un .len (.v 14)) (.c (.int .i64 2)))
 (.seq (.st [.eff (some 15) none (.load (some 4) (.v 3)),
  .eff none none (.store 4 (.v 2) (.v 15))])
 (.ret [.cell (.v 2) (some 4),.e (.c (.bool true))]))
 (.skip)))
 (.seq (.st [.eff (some 16) none (.load none (.un (.off 4) (.v 1))),
  .eff (some 4) none (.zbox [(.int .i64 0),(.int .i64 0),(.int .i64 0),(.str []),.nils] T_tmpl_slot_0),
  .eff none none (.store 5 (.v 4) (.un (.ld (some 5)) (.bi (.idx 5) (.v 16) (.c (.int .i64 2)))))])
 (.seq (.seq (.st [.eff (some 17) none (.load (some 5) (.v 4)),
  .sets [(18,(.tup (.call 0 f_sexp_Head) (.cons (.v 17) .nil)))],
  .eff (some 19) (some ((.bi (.bin .neq) (.v 18) (.c (.str [100,101,102,97,117,108,116]))),false)) (.load none (.un (.off 4) (.v 4)))])
 (.cond (.pick (.bi (.bin .neq) (.v 18) (.c (.str [100,101,102,97,117,108,116]))) (.c (.bool true)) (.bi (.bin .neq) (.un .len (.v 19)) (.c (.int .i64 2))))
 (.seq (.st [.eff none none (.store 4 (.v 2) (.tup (.build [(.str []),(.int .i64 0),(.int .i64 0),(.str [])] []) .nil))])
 (.ret [.cell (.v 2) (some 4),.e (.c (.bool false))]))
 (.skip)))
 (.seq (.st [.eff (some 21) none (.load none (.un (.off 4) (.v 4))),
  .sets [(20,(.tup (.call 0 f_sexp_Value) (.cons (.un (.ld (some 5)) (.bi (.idx 5) (.v 21) (.c (.int .i64 1)))) .nil)))],
  .eff (some 5) none (.zbox [(.int .i64 0),(.int .i64 0),(.str [])] T_tmpl_slot_2),
  .eff none none (.store 3 (.v 5) (.un (.ext 0) (.v 20)))])
 (.seq (.st [.eff (some 22) none (.load (some 3) (.v 5)),
  .eff none none (.store 3 (.un (.off 1) (.v 3)) (.v 22))])
 (.seq (.st [.eff (some 23) none (.load (some 4) (.v 3)),
  .eff none none (.store 4 (.v 2) (.v 23))])
 (.ret [.cell (.v 2) (some 4),.e (.un (.ext 1) (.v 20))]))))))))))⟩
noncomputable def r53:ERow:=⟨Tryz.f53,⟨[(3,(.cons 0 0 (.cons 1 1 (.cons 0 2 (.cons 0 3 (.cons 1 4 (.alt (.cons 2 5 (.cons 0 6 (.cons 2 7 (.cons 3 8 .nil)))) (.cons 2 7 (.cons 2 5 (.cons 0 6 (.cons 3 8 .nil)))))))))))],[],[],[],[],[]⟩,⟨70,[0,1,2,4,5,6,8,9,13,17,18,19,25,33,40,43,45,48,49,53,58,60,66,68],[27,36,47,62],[9,49,58]⟩,1,e_tmpl_slot⟩
def e_tmpl_Template_may:EFunc:=⟨3,11,
 (.seq (.st [.eff (some 3) none (.box 2 T_tmpl_Template_may_0 (.v 0)),
  .eff (some 4) none (.box 4 T_tmpl_Template_may_1 (.v 1))])
 (.seq (.st [.eff (some 8) none (.load (some 2) (.v 3)),
  .eff (some 9) none (.load none (.un (.off 0) (.v 4))),
  .sets [(7,(.tup (.call 0 f_tmpl_Template_Slot) (.cons (.v 8) (.cons (.v 9) .nil))))],
  .sets [(5,(.un (.ext 0) (.v 7))),(6,(.un (.ext 1) (.v 7)))]])
 (.seq (.block 0 (.cond (.un .not (.v 2))
  (.ret [.e (.c (.int .i64 2))])
  (.cond (.v 6)
  (.ret [.e (.c (.int .i64 6))])
  (.seq (.st [.eff (some 10) none (.load none (.un (.off 1) (.v 3)))])
  (.cond (.bi (.bin .geq) (.un .len (.v 10)) (.c (.int .i64 16)))
   (.ret [.e (.c (.int .i64 4))])
   (.skip))))))
 (.ret [.e (.c (.int .i64 0))]))))⟩
noncomputable def r54:ERow:=⟨Tryz.f54,⟨[],[],[],[],[],[]⟩,⟨26,[0,1,2,3,4,7,8,9,10,12,23],[],[9]⟩,3,e_tmpl_Template_may⟩
def e_tmpl_list:EFunc:=⟨1,2,
 (.seq (.st [.eff (some 1) none (.zbox [(.int .i64 0),(.int .i64 0),(.int .i64 0),(.str []),.nils] T_tmpl_list_0)])
 (.seq (.st [.eff none none (.store 5 (.v 1) (.tup (.build [(.int .i64 0),(.int .i64 0),(.int .i64 0),(.str []),.nils] [(0,1),(4,1)]) (.cons (.c (.int .i64 0)) (.cons (.v 0) .nil))))])
 (.ret [.cell (.v 1) (some 5)])))⟩
noncomputable def r60:ERow:=⟨Tryz.f60,⟨[],[],[],[],[],[]⟩,⟨5,[0,2],[],[]⟩,1,e_tmpl_list⟩
def e_tmpl_word:EFunc:=⟨1,2,
 (.seq (.st [.eff (some 1) none (.zbox [(.int .i64 0),(.int .i64 0),(.int .i64 0),(.str []),.nils] T_tmpl_word_0)])
 (.seq (.st [.eff none none (.store 5 (.v 1) (.tup (.build [(.int .i64 0),(.int .i64 0),(.int .i64 0),(.str []),.nils] [(0,1),(3,1)]) (.cons (.c (.int .i64 2)) (.cons (.v 0) .nil))))])
 (.ret [.cell (.v 1) (some 5)])))⟩
noncomputable def r61:ERow:=⟨Tryz.f61,⟨[],[],[],[],[],[]⟩,⟨5,[0,2],[],[]⟩,1,e_tmpl_word⟩
def e_val_Same:EFunc:=⟨2,6,
 (.seq (.st [.eff (some 2) none (.box 3 T_val_Same_0 (.v 0)),
  .eff (some 3) none (.box 3 T_val_Same_0 (.v 1))])
 (.seq (.st [.eff (some 4) none (.load (some 3) (.v 2)),
  .eff (some 5) none (.load (some 3) (.v 3))])
 (.ret [.e (.bi (.bin .eql) (.tup (.call 0 f_val_Compare) (.cons (.v 4) (.cons (.v 5) .nil))) (.c (.int .i64 0)))])))⟩
noncomputable def r62:ERow:=⟨Tryz.f62,⟨[],[],[],[],[],[]⟩,⟨9,[0,1,2,3,5,6],[],[]⟩,2,e_val_Same⟩
def e_tmpl_none:EFunc:=⟨0,1,
 (.seq (.st [.eff (some 0) none (.zbox [(.int .i64 0),(.int .i64 0),(.str [])] T_tmpl_none_0)])
 (.seq (.st [.eff none none (.store 3 (.v 0) (.tup (.call 0 f_val_OfSym) (.cons (.c (.str [110,105,108])) .nil)))])
 (.ret [.cell (.v 0) (some 3)])))⟩
noncomputable def r63:ERow:=⟨Tryz.f63,⟨[],[],[],[],[],[]⟩,⟨2,[0],[],[]⟩,0,e_tmpl_none⟩
def e_tmpl_leaf:EFunc:=⟨1,6,
 (.seq (.st [.eff (some 1) none (.box 3 T_tmpl_leaf_0 (.v 0)),
  .eff (some 2) none (.zbox [(.int .i64 0),(.int .i64 0),(.int .i64 0),(.str []),.nils] T_tmpl_leaf_1)])
 (.seq (.st [.eff (some 3) none (.load none (.un (.off 0) (.v 1))),
  .eff (some 4) none (.load none (.un (.off 1) (.v 1))),
  .eff (some 5) none (.load none (.un (.off 2) (.v 1))),
  .eff none none (.store 5 (.v 2) (.tup (.build [(.int .i64 0),(.int .i64 0),(.int .i64 0),(.str []),.nils] [(0,1),(2,1),(3,1)]) (.cons (.v 3) (.cons (.v 4) (.cons (.v 5) .nil)))))])
 (.ret [.cell (.v 2) (some 5)])))⟩
noncomputable def r64:ERow:=⟨Tryz.f64,⟨[],[],[],[],[],[]⟩,⟨10,[0,1,2,4,6,8],[],[]⟩,1,e_tmpl_leaf⟩
def b_slices_EqualFunc_tmpl_Slot_tmpl_Slot_tmpl_Slot_tmpl_Slot_0:EC :=
 (.seq (.cond (.bi (.bin .lss) (.v 7) (.v 6))
 (.skip)
 (.exit 0))
 (.seq (.block 1 (.seq (.st [.eff (some 3) none (.zbox [(.str []),(.int .i64 0),(.int .i64 0),(.str [])] T_slices_EqualFunc_tmpl_Slot_tmpl_Slot_tmpl_Slot_tmpl_Slot_0),
  .eff none none (.store 4 (.v 3) (.un (.ld (some 4)) (.bi (.idx 4) (.v 5) (.v 7))))])
 (.seq (.st [.eff (some 4) none (.zbox [(.str []),(.int .i64 0),(.int .i64 0),(.str [])] T_slices_EqualFunc_tmpl_Slot_tmpl_Slot_tmpl_Slot_tmpl_Slot_0),
  .eff none none (.store 4 (.v 4) (.un (.ld (some 4)) (.bi (.idx 4) (.v 1) (.v 7))))])
 (.seq (.st [.eff (some 8) none (.load (some 4) (.v 3)),
  .eff (some 9) none (.load (some 4) (.v 4)),
  .eff (some 10) none (.callv (.v 2) (.cons (.v 8) (.cons (.v 9) .nil)))])
 (.cond (.un .not (.v 10))
  (.ret [.e (.c (.bool false))])
  (.skip))))))
 (.st [.sets [(7,(.bi (.bin .add) (.v 7) (.c (.int .i64 1))))]])))
def e_slices_EqualFunc_tmpl_Slot_tmpl_Slot_tmpl_Slot_tmpl_Slot:EFunc:=⟨3,11,
 (.seq (.cond (.bi (.bin .neq) (.un .len (.v 0)) (.un .len (.v 1)))
 (.ret [.e (.c (.bool false))])
 (.skip))
 (.seq (.seq (.st [.sets [(5,(.v 0)),(6,(.un .len (.v 0))),(7,(.c (.int .i64 0)))]])
 (.block 0 (.loop [false,true,true,false,false,true,true,true,false,false,false] b_slices_EqualFunc_tmpl_Slot_tmpl_Slot_tmpl_Slot_tmpl_Slot_0)))
 (.ret [.e (.c (.bool true))])))⟩
noncomputable def r65:ERow:=⟨Tryz.f65,⟨[],[(0,[false,true,true,false,false,false,false,false,false,false,false,false,false,false,false,true,true,true])],[],[],[],[]⟩,⟨32,[0,1,2,8,9,15,16,17,27,28,29],[21,25],[]⟩,3,e_slices_EqualFunc_tmpl_Slot_tmpl_Slot_tmpl_Slot_tmpl_Slot⟩
def e_tmpl_Same_1:EFunc:=⟨2,8,
 (.seq (.st [.eff (some 2) none (.box 4 T_tmpl_Same_1_0 (.v 0)),
  .eff (some 3) none (.box 4 T_tmpl_Same_1_0 (.v 1))])
 (.seq (.st [.eff (some 4) none (.load none (.un (.off 0) (.v 2))),
  .eff (some 5) none (.load none (.un (.off 0) (.v 3))),
  .eff (some 6) (some ((.bi (.bin .eql) (.v 4) (.v 5)),true)) (.load (some 3) (.un (.off 1) (.v 2))),
  .eff (some 7) (some ((.bi (.bin .eql) (.v 4) (.v 5)),true)) (.load (some 3) (.un (.off 1) (.v 3)))])
 (.ret [.e (.pick (.bi (.bin .eql) (.v 4) (.v 5)) (.tup (.call 0 f_val_Same) (.cons (.v 6) (.cons (.v 7) .nil))) (.c (.bool false)))])))⟩
noncomputable def r66:ERow:=⟨Tryz.f66,⟨[],[],[],[],[],[]⟩,⟨17,[0,1,2,3,6,8,12,14],[],[]⟩,2,e_tmpl_Same_1⟩
def b_lex_Scan_0:EC :=
 (.seq (.seq (.st [.eff (some 5) none (.load none (.un (.off 1) (.un .nilchk (.v 1))))])
 (.cond (.bi (.bin .lss) (.v 5) (.un .len (.v 0)))
 (.skip)
 (.exit 0)))
 (.seq (.block 1 (.seq (.st [.eff (some 6) none (.load none (.un (.off 1) (.un .nilchk (.v 1))))])
 (.seq (.st [.eff (some 7) none (.calls [true,true,true,true,true,true,true,true,true,true,true,true,true,true,true,true] f_lex_scanner_token (.cons (.v 1) .nil)),
  .eff (some 3) none (.zbox [(.int .i64 0),(.int .i64 0),(.int .i64 0),(.str [])] T_lex_Scan_0),
  .eff none none (.store 4 (.v 3) (.un (.ext 0) (.v 7)))])
 (.seq (.cond (.bi (.bin .neq) (.un (.ext 1) (.v 7)) (.c (.int .i64 0)))
  (.ret [.e (.c .nils),.e (.tup (.call 0 f_lex_fault) (.cons (.v 6) (.cons (.un (.ext 1) (.v 7)) .nil)))])
  (.skip))
 (.seq (.st [.eff none none (.store 1 (.un (.off 1) (.v 3)) (.v 6))])
 (.st [.eff (some 8) none (.load (some 4) (.v 3)),
  .eff (some 9) none (.append 4 40 T_lex_Scan_0 (.v 2) (.tup (.bslice 4 [(.int .i64 0),(.int .i64 0),(.int .i64 0),(.str [])] 1 [0]) (.cons (.v 8) .nil))),
  .sets [(2,(.v 9))]]))))))
 (.st [.eff none none (.calls [true,true,true,true,true,true,true,true,true,true,true,true,true,true,true,true] f_lex_scanner_skip (.cons (.v 1) .nil))])))
def e_lex_Scan:EFunc:=⟨1,10,
 (.seq (.cond (.bi (.bin .gtr) (.un .len (.v 0)) (.c (.int .i64 65536)))
 (.ret [.e (.c .nils),.e (.tup (.call 0 f_lex_fault) (.cons (.c (.int .i64 0)) (.cons (.c (.int .i64 4)) .nil)))])
 (.skip))
 (.seq (.st [.eff (some 4) none (.box 2 T_lex_Scan_1 (.tup (.build [.nils,(.int .i64 0)] [(0,1)]) (.cons (.v 0) .nil))),
  .sets [(1,(.v 4))]])
 (.seq (.st [.sets [(2,(.c .nils))]])
 (.seq (.seq (.st [.eff none none (.calls [true,true,true,true,true,true,true,true,true,true,true,true,true,true,true,true] f_lex_scanner_skip (.cons (.v 1) .nil))])
 (.block 0 (.loop [true,true,true,false,false,false,false,false,false,false] b_lex_Scan_0)))
 (.ret [.e (.v 2),.e (.c .nili)])))))⟩
noncomputable def r70:ERow:=⟨Tryz.f70,⟨[],[(0,[true,false,false,false,true,true])],[],[],[],[]⟩,⟨48,[0,4,5,7,15,21,30,33,44,46],[],[]⟩,1,e_lex_Scan⟩
def e_sexp_reader_step:EFunc:=⟨2,25,
 (.seq (.st [.eff (some 4) none (.load none (.un (.off 0) (.un .nilchk (.v 0)))),
  .eff (some 5) none (.load (some 4) (.bi (.idx 4) (.v 4) (.v 1))),
  .eff (some 2) none (.zbox [(.int .i64 0),(.int .i64 0),(.int .i64 0),(.str [])] T_sexp_reader_step_1),
  .eff none none (.store 4 (.v 2) (.v 5))])
 (.seq (.seq (.st [.eff (some 6) none (.load none (.un (.off 0) (.v 2)))])
 (.block 0 (.cond (.bi (.bin .eql) (.v 6) (.c (.int .i64 8)))
  (.seq (.st [.eff (some 10) none (.load (some 4) (.v 2)),
   .eff (some 11) none (.calls [true,true,true,true,true,true,true,true,true,true,true,true,true,true,true,true] f_sexp_reader_not (.cons (.v 0) (.cons (.v 10) (.cons (.v 1) .nil))))])
  (.ret [.e (.c (.int .i64 2)),.e (.v 11)]))
  (.cond (.bi (.bin .eql) (.v 6) (.c (.int .i64 4)))
  (.seq (.seq (.st [.eff (some 12) none (.load none (.un (.off 2) (.un .nilchk (.v 0))))])
  (.cond (.bi (.bin .geq) (.un .len (.v 12)) (.c (.int .i64 32)))
   (.seq (.st [.eff (some 13) none (.load none (.un (.off 1) (.v 2)))])
   (.ret [.e (.c (.int .i64 0)),.e (.tup (.call 0 f_sexp_fault) (.cons (.v 13) (.cons (.c (.int .i64 4)) .nil)))]))
   (.skip)))
  (.seq (.seq (.st [.eff (some 14) none (.load (some 4) (.v 2)),
   .eff (some 15) none (.calls [true,true,true,true,true,true,true,true,true,true,true,true,true,true,true,true] f_sexp_reader_count (.cons (.v 0) (.cons (.v 14) .nil)))])
  (.cond (.bi (.eqs 1 true) (.v 15) (.c .nili))
   (.ret [.e (.c (.int .i64 0)),.e (.v 15)])
   (.skip)))
  (.st [.eff (some 16) none (.load none (.un (.off 2) (.un .nilchk (.v 0)))),
   .eff (some 17) none (.load none (.un (.off 1) (.v 2))),
   .eff (some 18) none (.happend 5 64 T_sexp_reader_step_0 (.v 16) (.tup (.bslice 5 [(.int .i64 0),(.int .i64 0),(.int .i64 0),(.str []),.nils] 1 [0]) (.cons (.c (.agg [(.int .i64 0),(.int .i64 0),(.int .i64 0),(.str []),.nils])) .nil))),
   .swap (.store 5 (.bi (.idx 5) (.v 18) (.un .len (.v 16))) (.tup (.build [(.int .i64 0),(.int .i64 0),(.int .i64 0),(.str []),.nils] [(0,1),(1,1)]) (.cons (.c (.int .i64 0)) (.cons (.v 17) .nil)))) (.store 1 (.un (.off 2) (.un .nilchk (.v 0))) (.v 18))])))
  (.cond (.bi (.bin .eql) (.v 6) (.c (.int .i64 5)))
   (.seq (.st [.eff (some 19) none (.load none (.un (.off 2) (.un .nilchk (.v 0))))])
   (.seq (.cond (.bi (.bin .lss) (.bi (.bin .sub) (.un .len (.v 19)) (.c (.int .i64 1))) (.c (.int .i64 0)))
   (.seq (.st [.eff (some 20) none (.load none (.un (.off 1) (.v 2)))])
   (.ret [.e (.c (.int .i64 0)),.e (.tup (.call 0 f_sexp_fault) (.cons (.v 20) (.cons (.c (.int .i64 2)) .nil)))]))
   (.skip))
   (.seq (.st [.eff (some 21) none (.load none (.un (.off 2) (.un .nilchk (.v 0)))),
    .eff (some 22) none (.load (some 5) (.bi (.idx 5) (.v 21) (.bi (.bin .sub) (.un .len (.v 19)) (.c (.int .i64 1))))),
    .eff (some 3) none (.zbox [(.int .i64 0),(.int .i64 0),(.int .i64 0),(.str []),.nils] T_sexp_reader_step_0),
    .eff none none (.store 5 (.v 3) (.v 22))])
   (.seq (.st [.eff (some 23) none (.load none (.un (.off 2) (.un .nilchk (.v 0)))),
    .eff none none (.store 1 (.un (.off 2) (.un .nilchk (.v 0))) (.lsub 5 false true false (.v 23) (.c .undef) (.bi (.bin .sub) (.un .len (.v 19)) (.c (.int .i64 1))) (.c .undef)))])
   (.st [.eff (some 24) none (.load (some 5) (.v 3)),
    .eff none none (.calls [true,true,true,true,true,true,true,true,true,true,true,true,true,true,true,true] f_sexp_reader_put (.cons (.v 0) (.cons (.v 24) .nil)))])))))
   (.seq (.seq (.st [.eff (some 7) none (.load (some 4) (.v 2)),
    .eff (some 8) none (.calls [true,true,true,true,true,true,true,true,true,true,true,true,true,true,true,true] f_sexp_reader_count (.cons (.v 0) (.cons (.v 7) .nil)))])
   (.cond (.bi (.eqs 1 true) (.v 8) (.c .nili))
   (.ret [.e (.c (.int .i64 0)),.e (.v 8)])
   (.skip)))
   (.st [.eff (some 9) none (.load (some 4) (.v 2)),
    .eff none none (.calls [true,true,true,true,true,true,true,true,true,true,true,true,true,true,true,true] f_sexp_reader_put (.cons (.v 0) (.cons (.tup (.call 0 f_sexp_leaf) (.cons (.v 9) .nil)) .nil)))])))))))
 (.ret [.e (.c (.int .i64 1)),.e (.c .nili)])))⟩
noncomputable def r71:ERow:=⟨Tryz.f71,⟨[(15,(.cons 0 0 (.cons 0 1 (.cons 0 2 (.cons 0 4 (.cons 1 3 (.cons 0 7 (.cons 1 5 (.cons 0 6 (.cons 2 8 (.cons 3 9 (.cons 0 10 (.cons 0 12 (.cons 0 13 (.alt (.cons 3 11 (.cons 3 14 .nil)) (.cons 3 14 (.cons 3 11 .nil)))))))))))))))))],[],[68],[],[],[]⟩,⟨98,[0,1,6,9,14,17,19,21,22,27,33,35,41,45,48,49,56,58,62,71,77,82,85,90,96],[],[]⟩,2,e_sexp_reader_step⟩
def e_sexp_fault:EFunc:=⟨2,3,
 (.seq (.st [.eff (some 2) none (.box 3 T_sexp_fault_0 (.tup (.build [(.str []),(.int .i64 0),.nili] [(0,1),(1,1),(2,1)]) (.cons (.c (.str [99,104,97,114])) (.cons (.v 0) (.cons (.un (.iface T_sexp_fault_1) (.v 1)) .nil)))))])
 (.ret [.e (.un (.iface T_sexp_fault_2) (.v 2))]))⟩
noncomputable def r72:ERow:=⟨Tryz.f72,⟨[],[],[],[],[],[]⟩,⟨11,[0,1,9],[],[]⟩,2,e_sexp_fault⟩
def e_lex_Text:EFunc:=⟨1,8,
 (.seq (.st [.eff (some 1) none (.box 4 T_lex_Text_0 (.v 0))])
 (.seq (.seq (.st [.eff (some 2) none (.load none (.un (.off 0) (.v 1)))])
 (.block 0 (.cond (.bi (.bin .eql) (.v 2) (.c (.int .i64 4)))
  (.ret [.e (.c (.str [40]))])
  (.cond (.bi (.bin .eql) (.v 2) (.c (.int .i64 5)))
  (.ret [.e (.c (.str [41]))])
  (.cond (.bi (.bin .eql) (.v 2) (.c (.int .i64 8)))
   (.ret [.e (.c (.str [126]))])
   (.cond (.bi (.bin .eql) (.v 2) (.c (.int .i64 6)))
   (.seq (.st [.eff (some 3) none (.load none (.un (.off 3) (.v 1)))])
   (.ret [.e (.bi (.bin .add) (.c (.str [63])) (.v 3))]))
   (.cond (.bi (.bin .eql) (.v 2) (.c (.int .i64 7)))
    (.seq (.st [.eff (some 4) none (.load none (.un (.off 3) (.v 1)))])
    (.ret [.e (.bi (.bin .add) (.bi (.bin .add) (.c (.str [63,42])) (.v 4)) (.c (.str [42])))]))
    (.skip))))))))
 (.seq (.st [.eff (some 5) none (.load none (.un (.off 0) (.v 1))),
  .eff (some 6) none (.load none (.un (.off 2) (.v 1))),
  .eff (some 7) none (.load none (.un (.off 3) (.v 1)))])
 (.ret [.e (.tup (.call 0 f_val_Text) (.cons (.tup (.build [(.int .i64 0),(.int .i64 0),(.str [])] [(0,1),(1,1),(2,1)]) (.cons (.v 5) (.cons (.v 6) (.cons (.v 7) .nil)))) .nil))]))))⟩
noncomputable def r74:ERow:=⟨Tryz.f74,⟨[],[],[],[],[],[]⟩,⟨30,[0,1,4,14,19,23,25,27],[],[]⟩,1,e_lex_Text⟩
def b_slices_Index_string_string_0:EC :=
 (.seq (.cond (.bi (.bin .lss) (.v 3) (.v 2))
 (.skip)
 (.exit 0))
 (.seq (.block 1 (.cond (.bi (.bin .eql) (.v 1) (.un (.ld none) (.bi (.idx 1) (.v 0) (.v 3))))
  (.ret [.e (.v 3)])
  (.skip)))
 (.st [.sets [(3,(.bi (.bin .add) (.v 3) (.c (.int .i64 1))))]])))
def e_slices_Index_string_string:EFunc:=⟨2,4,
 (.seq (.seq (.st [.sets [(2,(.un .len (.v 0))),(3,(.c (.int .i64 0)))]])
 (.block 0 (.loop [true,true,true,true] b_slices_Index_string_string_0)))
 (.ret [.e (.c (.int .i64 (-1)))]))⟩
noncomputable def r79:ERow:=⟨Tryz.f79,⟨[],[(0,[true,true,false,false,false,false,false,true,true])],[],[],[],[]⟩,⟨19,[0,1,7,8],[15],[]⟩,2,e_slices_Index_string_string⟩
def e_strings_Builder_copyCheck:EFunc:=⟨1,5,
 (.seq (.seq (.st [.eff (some 1) none (.load none (.un (.off 0) (.un .nilchk (.v 0))))])
 (.cond (.bi (.eqs 2 false) (.v 1) (.c .nilp))
 (.st [.eff (some 2) none (.touns (.v 0)),
  .eff (some 3) none (.fromuns 2 T_bld (.v 2)),
  .eff none none (.store 1 (.un (.off 0) (.un .nilchk (.v 0))) (.v 3))])
 (.seq (.st [.eff (some 4) none (.load none (.un (.off 0) (.un .nilchk (.v 0))))])
 (.cond (.bi (.eqs 2 true) (.v 4) (.v 0))
  (.st [.eff none none .fail])
  (.skip)))))
 (.ret []))⟩
noncomputable def r80:ERow:=⟨Tryz.f80,⟨[],[],[],[],[],[]⟩,⟨20,[0,5,9,11,17],[],[]⟩,1,e_strings_Builder_copyCheck⟩
def e_num_Text:EFunc:=⟨1,1,
 (.ret [.e (.tup (.call 0 f_strconv_FormatInt) (.cons (.v 0) (.cons (.c (.int .i64 10)) .nil)))])⟩
noncomputable def r81:ERow:=⟨Tryz.f81,⟨[],[],[],[],[],[]⟩,⟨5,[0],[],[]⟩,1,e_num_Text⟩
def b_val_Quote_0:EC :=
 (.seq (.cond (.bi (.bin .lss) (.v 4) (.v 3))
 (.skip)
 (.exit 0))
 (.seq (.block 1 (.seq (.st [.sets [(2,(.v 4))]])
 (.seq (.block 2 (.seq (.seq (.st [.sets [(5,(.bi (.bin .eql) (.bi .sidx (.v 0) (.v 2)) (.c (.int .u8 34))))]])
  (.cond (.v 5)
  (.skip)
  (.st [.sets [(5,(.bi (.bin .eql) (.bi .sidx (.v 0) (.v 2)) (.c (.int .u8 92))))]])))
  (.cond (.v 5)
  (.st [.eff none none (.calls [true,true,true,true,true,true,true,true,true,true,true,true,true,true,true,true] f_strings_Builder_WriteByte (.cons (.v 1) (.cons (.c (.int .u8 92)) .nil)))])
  (.skip))))
 (.st [.eff none none (.calls [true,true,true,true,true,true,true,true,true,true,true,true,true,true,true,true] f_strings_Builder_WriteByte (.cons (.v 1) (.cons (.bi .sidx (.v 0) (.v 2)) .nil)))]))))
 (.st [.sets [(4,(.bi (.bin .add) (.v 4) (.c (.int .i64 1))))]])))
def e_val_Quote:EFunc:=⟨1,7,
 (.seq (.st [.eff (some 1) none (.zbox [.nilp,.nils] T_bld)])
 (.seq (.st [.eff none none (.calls [true,true,true,true,true,true,true,true,true,true,true,true,true,true,true,true] f_strings_Builder_WriteByte (.cons (.v 1) (.cons (.c (.int .u8 34)) .nil)))])
 (.seq (.seq (.st [.sets [(3,(.un .slen (.v 0))),(4,(.c (.int .i64 0)))]])
 (.block 0 (.loop [true,true,false,true,true,false,false] b_val_Quote_0)))
 (.seq (.st [.eff none none (.calls [true,true,true,true,true,true,true,true,true,true,true,true,true,true,true,true] f_strings_Builder_WriteByte (.cons (.v 1) (.cons (.c (.int .u8 34)) .nil)))])
 (.seq (.st [.eff (some 6) none (.calls [true,true,true,true,true,true,true,true,true,true,true,true,true,true,true,true] f_strings_Builder_String (.cons (.v 1) .nil))])
 (.ret [.e (.v 6)]))))))⟩
noncomputable def r82:ERow:=⟨Tryz.f82,⟨[],[(0,[true,false,false,true,false,false,false,true,true])],[],[],[],[]⟩,⟨25,[0,3,4,7,8,14,24],[],[]⟩,1,e_val_Quote⟩
def e_strings_Clone:EFunc:=⟨1,1,
 (.ret [.e (.tup (.call 0 f_internal_stringslite_Clone) (.cons (.v 0) .nil))])⟩
noncomputable def r83:ERow:=⟨Tryz.f83,⟨[],[],[],[],[],[]⟩,⟨5,[0],[],[]⟩,1,e_strings_Clone⟩
def b_sym_Good_0:EC :=
 (.seq (.cond (.bi (.bin .lss) (.v 2) (.v 1))
 (.skip)
 (.exit 0))
 (.seq (.block 1 (.cond (.bi (.bin .eql) (.tup (.call 0 f_sym_class) (.cons (.bi .sidx (.v 0) (.v 2)) .nil)) (.c (.int .i64 0)))
  (.ret [.e (.c (.bool false))])
  (.skip)))
 (.st [.sets [(2,(.bi (.bin .add) (.v 2) (.c (.int .i64 1))))]])))
def e_sym_Good:EFunc:=⟨1,3,
 (.seq (.cond (.pick (.pick (.bi (.bin .lss) (.un .slen (.v 0)) (.c (.int .i64 1))) (.c (.bool true)) (.bi (.bin .gtr) (.un .slen (.v 0)) (.c (.int .i64 40)))) (.c (.bool true)) (.bi (.bin .lss) (.tup (.call 0 f_sym_class) (.cons (.bi .sidx (.v 0) (.c (.int .i64 0))) .nil)) (.c (.int .i64 2))))
 (.ret [.e (.c (.bool false))])
 (.skip))
 (.seq (.seq (.st [.sets [(1,(.un .slen (.v 0))),(2,(.c (.int .i64 0)))]])
 (.block 0 (.loop [true,true,true] b_sym_Good_0)))
 (.ret [.e (.c (.bool true))])))⟩
noncomputable def r86:ERow:=⟨Tryz.f86,⟨[],[(0,[true,false,false,false,false,false,false,false,false,false,false,false,false,false,false,false,false,false,false,true,true])],[],[],[],[]⟩,⟨29,[0,19,20],[],[]⟩,1,e_sym_Good⟩
def e_sexp_Value:EFunc:=⟨1,8,
 (.seq (.st [.eff (some 1) none (.box 5 T_sexp_Value_0 (.v 0)),
  .eff (some 2) none (.zbox [(.int .i64 0),(.int .i64 0),(.str [])] T_sexp_Value_1)])
 (.seq (.seq (.st [.eff (some 3) none (.load none (.un (.off 0) (.v 1)))])
 (.block 0 (.seq (.seq (.st [.sets [(4,(.bi (.bin .eql) (.v 3) (.c (.int .i64 1))))]])
 (.cond (.v 4)
  (.skip)
  (.seq (.st [.sets [(4,(.bi (.bin .eql) (.v 3) (.c (.int .i64 2))))]])
  (.cond (.v 4)
  (.skip)
  (.st [.sets [(4,(.bi (.bin .eql) (.v 3) (.c (.int .i64 3))))]])))))
 (.cond (.v 4)
  (.seq (.st [.eff (some 5) none (.load none (.un (.off 0) (.v 1))),
   .eff (some 6) none (.load none (.un (.off 2) (.v 1))),
   .eff (some 7) none (.load none (.un (.off 3) (.v 1))),
   .eff none none (.store 3 (.v 2) (.tup (.build [(.int .i64 0),(.int .i64 0),(.str [])] [(0,1),(1,1),(2,1)]) (.cons (.v 5) (.cons (.v 6) (.cons (.v 7) .nil)))))])
  (.ret [.cell (.v 2) (some 3),.e (.c (.bool true))]))
  (.skip)))))
 (.seq (.st [.eff none none (.store 3 (.v 2) (.tup (.build [(.int .i64 0),(.int .i64 0),(.str [])] []) .nil))])
 (.ret [.cell (.v 2) (some 3),.e (.c (.bool false))]))))⟩
noncomputable def r87:ERow:=⟨Tryz.f87,⟨[],[],[],[],[],[]⟩,⟨18,[0,1,2,5,6,11,13,15],[],[]⟩,1,e_sexp_Value⟩
def e_val_Compare:EFunc:=⟨2,10,
 (.seq (.st [.eff (some 2) none (.box 3 T_val_Compare_0 (.v 0)),
  .eff (some 3) none (.box 3 T_val_Compare_0 (.v 1))])
 (.seq (.st [.eff (some 4) none (.load none (.un (.off 0) (.v 2))),
  .eff (some 5) none (.load none (.un (.off 0) (.v 3))),
  .eff (some 6) none (.load none (.un (.off 1) (.v 2))),
  .eff (some 7) none (.load none (.un (.off 1) (.v 3))),
  .eff (some 8) none (.load none (.un (.off 2) (.v 2))),
  .eff (some 9) none (.load none (.un (.off 2) (.v 3)))])
 (.ret [.e (.tup (.call 0 f_cmp_Or_int) (.cons (.tup (.bslice 1 [(.int .i64 0)] 3 [0,1,2]) (.cons (.tup (.call 0 f_cmp_Compare_int) (.cons (.v 4) (.cons (.v 5) .nil))) (.cons (.tup (.call 0 f_cmp_Compare_int64) (.cons (.v 6) (.cons (.v 7) .nil))) (.cons (.tup (.call 0 f_cmp_Compare_string) (.cons (.v 8) (.cons (.v 9) .nil))) .nil)))) .nil))])))⟩
noncomputable def r97:ERow:=⟨Tryz.f97,⟨[(1,(.cons 0 0 (.cons 0 2 (.cons 0 5 (.cons 0 7 (.cons 0 10 (.cons 0 12 (.cons 1 1 (.cons 1 3 (.cons 1 6 (.cons 1 8 (.cons 1 11 (.cons 1 13 (.cons 2 4 (.cons 2 9 (.cons 2 14 (.cons 2 15 (.cons 2 16 (.cons 0 17 .nil)))))))))))))))))))],[],[],[],[],[]⟩,⟨22,[0,1,2,3,6,8,11,13,16,18],[],[]⟩,2,e_val_Compare⟩
def e_val_OfSym:EFunc:=⟨1,2,
 (.seq (.st [.eff (some 1) none (.zbox [(.int .i64 0),(.int .i64 0),(.str [])] T_val_OfSym_0)])
 (.seq (.st [.eff none none (.store 3 (.v 1) (.tup (.build [(.int .i64 0),(.int .i64 0),(.str [])] [(0,1),(2,1)]) (.cons (.c (.int .i64 2)) (.cons (.v 0) .nil))))])
 (.ret [.cell (.v 1) (some 3)])))⟩
noncomputable def r98:ERow:=⟨Tryz.f98,⟨[],[],[],[],[],[]⟩,⟨5,[0,2],[],[]⟩,1,e_val_OfSym⟩
def e_lex_fault:EFunc:=⟨2,3,
 (.seq (.st [.eff (some 2) none (.box 3 T_lex_fault_0 (.tup (.build [(.str []),(.int .i64 0),.nili] [(0,1),(1,1),(2,1)]) (.cons (.c (.str [99,104,97,114])) (.cons (.v 0) (.cons (.un (.iface T_lex_fault_1) (.v 1)) .nil)))))])
 (.ret [.e (.un (.iface T_lex_fault_2) (.v 2))]))⟩
noncomputable def r99:ERow:=⟨Tryz.f99,⟨[],[],[],[],[],[]⟩,⟨11,[0,1,9],[],[]⟩,2,e_lex_fault⟩
def b_lex_scanner_skip_0:EC :=
 (.seq (.cond (.pick (.v 4) (.bi (.bin .neq) (.v 3) (.c (.int .u8 10))) (.c (.bool false)))
 (.skip)
 (.exit 3))
 (.seq (.block 4 (.st [.eff (some 9) none (.load none (.un (.off 1) (.un .nilchk (.v 0)))),
  .eff none none (.store 1 (.un (.off 1) (.un .nilchk (.v 0))) (.bi (.bin .add) (.v 9) (.c (.int .i64 1))))]))
 (.st [.eff (some 8) none (.calls [true,true,true,true,true,true,true,true,true,true,true,true,true,true,true,true] f_lex_scanner_more (.cons (.v 0) .nil)),
  .sets [(3,(.un (.ext 0) (.v 8))),(4,(.un (.ext 1) (.v 8)))]])))
def b_lex_scanner_skip_1:EC :=
 (.seq (.cond (.v 2)
 (.skip)
 (.exit 0))
 (.seq (.block 1 (.block 2 (.cond (.bi (.bin .eql) (.v 1) (.c (.int .u8 59)))
  (.seq (.st [.eff (some 7) none (.calls [true,true,true,true,true,true,true,true,true,true,true,true,true,true,true,true] f_lex_scanner_more (.cons (.v 0) .nil)),
   .sets [(3,(.un (.ext 0) (.v 7))),(4,(.un (.ext 1) (.v 7)))]])
  (.block 3 (.loop [true,false,false,true,true,false,false,false,false,false,false,false] b_lex_scanner_skip_0)))
  (.seq (.seq (.st [.sets [(10,(.bi (.bin .eql) (.v 1) (.c (.int .u8 32))))]])
  (.cond (.v 10)
   (.skip)
   (.seq (.st [.sets [(10,(.bi (.bin .eql) (.v 1) (.c (.int .u8 9))))]])
   (.cond (.v 10)
   (.skip)
   (.seq (.st [.sets [(10,(.bi (.bin .eql) (.v 1) (.c (.int .u8 10))))]])
   (.cond (.v 10)
    (.skip)
    (.st [.sets [(10,(.bi (.bin .eql) (.v 1) (.c (.int .u8 13))))]])))))))
  (.cond (.v 10)
   (.st [.eff (some 11) none (.load none (.un (.off 1) (.un .nilchk (.v 0)))),
    .eff none none (.store 1 (.un (.off 1) (.un .nilchk (.v 0))) (.bi (.bin .add) (.v 11) (.c (.int .i64 1))))])
   (.ret []))))))
 (.st [.eff (some 6) none (.calls [true,true,true,true,true,true,true,true,true,true,true,true,true,true,true,true] f_lex_scanner_more (.cons (.v 0) .nil)),
  .sets [(1,(.un (.ext 0) (.v 6))),(2,(.un (.ext 1) (.v 6)))]])))
def e_lex_scanner_skip:EFunc:=⟨1,12,
 (.seq (.seq (.st [.eff (some 5) none (.calls [true,true,true,true,true,true,true,true,true,true,true,true,true,true,true,true] f_lex_scanner_more (.cons (.v 0) .nil)),
  .sets [(1,(.un (.ext 0) (.v 5))),(2,(.un (.ext 1) (.v 5)))]])
 (.block 0 (.loop [true,true,true,false,false,false,false,false,false,false,false,false] b_lex_scanner_skip_1)))
 (.ret []))⟩
noncomputable def r100:ERow:=⟨Tryz.f100,⟨[],[(0,[true,false,true,true]),(3,[true,false,false,false,true,true])],[],[],[],[]⟩,⟨54,[0,2,3,4,5,8,14,22,32,38,42,50],[],[]⟩,1,e_lex_scanner_skip⟩
def e_lex_scanner_token:EFunc:=⟨1,12,
 (.seq (.st [.eff (some 1) none (.zbox [(.int .i64 0),(.int .i64 0),(.int .i64 0),(.str [])] T_lex_scanner_token_0)])
 (.seq (.st [.sets [(2,(.c (.int .i64 0)))]])
 (.seq (.seq (.st [.eff (some 4) none (.load none (.un (.off 0) (.un .nilchk (.v 0)))),
  .eff (some 5) none (.load none (.un (.off 1) (.un .nilchk (.v 0)))),
  .sets [(3,(.un (.ld none) (.bi (.idx 1) (.v 4) (.v 5))))]])
 (.block 0 (.cond (.bi (.bin .eql) (.v 3) (.c (.int .u8 40)))
  (.st [.sets [(2,(.c (.int .i64 4)))]])
  (.cond (.bi (.bin .eql) (.v 3) (.c (.int .u8 41)))
  (.st [.sets [(2,(.c (.int .i64 5)))]])
  (.cond (.bi (.bin .eql) (.v 3) (.c (.int .u8 126)))
   (.st [.sets [(2,(.c (.int .i64 8)))]])
   (.cond (.bi (.bin .eql) (.v 3) (.c (.int .u8 34)))
   (.seq (.st [.eff (some 7) none (.load none (.un (.off 1) (.un .nilchk (.v 0)))),
    .eff none none (.store 1 (.un (.off 1) (.un .nilchk (.v 0))) (.bi (.bin .add) (.v 7) (.c (.int .i64 1))))])
   (.seq (.st [.eff (some 8) none (.calls [true,true,true,true,true,true,true,true,true,true,true,true,true,true,true,true] f_lex_scanner_text (.cons (.v 0) .nil)),
    .eff none none (.store 4 (.v 1) (.un (.ext 0) (.v 8)))])
   (.ret [.cell (.v 1) (some 4),.e (.un (.ext 1) (.v 8))])))
   (.cond (.bi (.bin .eql) (.v 3) (.c (.int .u8 63)))
    (.seq (.st [.eff (some 9) none (.load none (.un (.off 1) (.un .nilchk (.v 0)))),
     .eff none none (.store 1 (.un (.off 1) (.un .nilchk (.v 0))) (.bi (.bin .add) (.v 9) (.c (.int .i64 1))))])
    (.seq (.st [.eff (some 10) none (.calls [true,true,true,true,true,true,true,true,true,true,true,true,true,true,true,true] f_lex_scanner_variable (.cons (.v 0) .nil)),
     .eff none none (.store 4 (.v 1) (.un (.ext 0) (.v 10)))])
    (.ret [.cell (.v 1) (some 4),.e (.un (.ext 1) (.v 10))])))
    (.seq (.st [.eff (some 6) none (.calls [true,true,true,true,true,true,true,true,true,true,true,true,true,true,true,true] f_lex_scanner_word (.cons (.v 0) .nil)),
     .eff none none (.store 4 (.v 1) (.un (.ext 0) (.v 6)))])
    (.ret [.cell (.v 1) (some 4),.e (.un (.ext 1) (.v 6))])))))))))
 (.seq (.st [.eff (some 11) none (.load none (.un (.off 1) (.un .nilchk (.v 0)))),
  .eff none none (.store 1 (.un (.off 1) (.un .nilchk (.v 0))) (.bi (.bin .add) (.v 11) (.c (.int .i64 1))))])
 (.seq (.st [.eff none none (.store 4 (.v 1) (.tup (.build [(.int .i64 0),(.int .i64 0),(.int .i64 0),(.str [])] [(0,1)]) (.cons (.v 2) .nil)))])
 (.ret [.cell (.v 1) (some 4),.e (.c (.int .i64 0))]))))))⟩
noncomputable def r101:ERow:=⟨Tryz.f101,⟨[(2,(.cons 0 0 (.cons 0 1 (.cons 0 2 (.cons 0 4 (.cons 0 5 (.cons 0 6 (.cons 1 3 (.cons 1 7 (.cons 0 8 (.cons 1 9 (.cons 0 10 .nil))))))))))))],[],[],[],[],[]⟩,⟨62,[0,2,4,5,9,13,18,32,37,45,50,56],[15],[]⟩,1,e_lex_scanner_token⟩
def e_sexp_reader_not:EFunc:=⟨3,17,
 (.seq (.st [.eff (some 3) none (.box 4 T_sexp_reader_not_0 (.v 1))])
 (.seq (.seq (.st [.eff (some 5) none (.load (some 4) (.v 3)),
  .eff (some 6) none (.calls [true,true,true,true,true,true,true,true,true,true,true,true,true,true,true,true] f_sexp_reader_count (.cons (.v 0) (.cons (.v 5) .nil)))])
 (.cond (.bi (.eqs 1 true) (.v 6) (.c .nili))
 (.ret [.e (.v 6)])
 (.skip)))
 (.seq (.seq (.st [.eff (some 7) none (.load none (.un (.off 0) (.un .nilchk (.v 0))))])
 (.cond (.bi (.bin .geq) (.bi (.bin .add) (.v 2) (.c (.int .i64 1))) (.un .len (.v 7)))
 (.seq (.st [.eff (some 8) none (.load none (.un (.off 1) (.v 3)))])
 (.ret [.e (.tup (.call 0 f_sexp_fault) (.cons (.v 8) (.cons (.c (.int .i64 3)) .nil)))]))
 (.skip)))
 (.seq (.st [.eff (some 9) none (.load none (.un (.off 0) (.un .nilchk (.v 0)))),
  .eff (some 4) none (.zbox [(.int .i64 0),(.int .i64 0),(.int .i64 0),(.str [])] T_sexp_reader_not_0),
  .eff none none (.store 4 (.v 4) (.un (.ld (some 4)) (.bi (.idx 4) (.v 9) (.bi (.bin .add) (.v 2) (.c (.int .i64 1))))))])
 (.seq (.seq (.st [.eff (some 10) none (.load none (.un (.off 0) (.v 4)))])
 (.block 0 (.seq (.seq (.st [.sets [(11,(.bi (.bin .eql) (.v 10) (.c (.int .i64 4))))]])
 (.cond (.v 11)
  (.skip)
  (.seq (.st [.sets [(11,(.bi (.bin .eql) (.v 10) (.c (.int .i64 5))))]])
  (.cond (.v 11)
  (.skip)
  (.st [.sets [(11,(.bi (.bin .eql) (.v 10) (.c (.int .i64 8))))]])))))
 (.cond (.v 11)
  (.seq (.st [.eff (some 12) none (.load none (.un (.off 1) (.v 3)))])
  (.ret [.e (.tup (.call 0 f_sexp_fault) (.cons (.v 12) (.cons (.c (.int .i64 2)) .nil)))]))
  (.skip)))))
 (.seq (.seq (.st [.eff (some 13) none (.load (some 4) (.v 4)),
  .eff (some 14) none (.calls [true,true,true,true,true,true,true,true,true,true,true,true,true,true,true,true] f_sexp_reader_count (.cons (.v 0) (.cons (.v 13) .nil)))])
 (.cond (.bi (.eqs 1 true) (.v 14) (.c .nili))
 (.ret [.e (.v 14)])
 (.skip)))
 (.seq (.st [.eff (some 15) none (.load none (.un (.off 1) (.v 3))),
  .eff (some 16) none (.load (some 4) (.v 4)),
  .eff none none (.calls [true,true,true,true,true,true,true,true,true,true,true,true,true,true,true,true] f_sexp_reader_put (.cons (.v 0) (.cons (.tup (.build [(.int .i64 0),(.int .i64 0),(.int .i64 0),(.str []),.nils] [(0,1),(1,1),(4,1)]) (.cons (.c (.int .i64 8)) (.cons (.v 15) (.cons (.tup (.bslice 5 [(.int .i64 0),(.int .i64 0),(.int .i64 0),(.str []),.nils] 1 [0]) (.cons (.tup (.call 0 f_sexp_leaf) (.cons (.v 16) .nil)) .nil)) .nil)))) .nil)))])
 (.ret [.e (.c .nili)]))))))))⟩
noncomputable def r102:ERow:=⟨Tryz.f102,⟨[(15,(.cons 0 0 (.cons 0 1 (.cons 1 2 (.cons 1 3 (.cons 2 4 (.cons 2 5 (.cons 0 6 (.cons 3 7 .nil)))))))))],[],[],[],[],[]⟩,⟨58,[0,1,2,4,8,11,12,21,25,30,36,37,42,45,46,52,53],[34],[]⟩,3,e_sexp_reader_not⟩
def e_sexp_reader_count:EFunc:=⟨2,6,
 (.seq (.st [.eff (some 2) none (.box 4 T_sexp_reader_count_0 (.v 1))])
 (.seq (.st [.eff (some 3) none (.load none (.un (.off 1) (.un .nilchk (.v 0)))),
  .eff none none (.store 1 (.un (.off 1) (.un .nilchk (.v 0))) (.bi (.bin .add) (.v 3) (.c (.int .i64 1))))])
 (.seq (.seq (.st [.eff (some 4) none (.load none (.un (.off 1) (.un .nilchk (.v 0))))])
 (.cond (.bi (.bin .gtr) (.v 4) (.c (.int .i64 4096)))
 (.seq (.st [.eff (some 5) none (.load none (.un (.off 1) (.v 2)))])
 (.ret [.e (.tup (.call 0 f_sexp_fault) (.cons (.v 5) (.cons (.c (.int .i64 4)) .nil)))]))
 (.skip)))
 (.ret [.e (.c .nili)]))))⟩
noncomputable def r103:ERow:=⟨Tryz.f103,⟨[],[],[],[],[],[]⟩,⟨20,[0,1,3,8,15,18],[],[]⟩,2,e_sexp_reader_count⟩
def e_sexp_reader_put:EFunc:=⟨2,17,
 (.seq (.seq (.st [.eff (some 2) none (.box 5 T_sexp_reader_put_0 (.v 1))])
 (.seq (.seq (.st [.eff (some 3) none (.load none (.un (.off 2) (.un .nilchk (.v 0))))])
 (.cond (.bi (.bin .gtr) (.un .len (.v 3)) (.c (.int .i64 0)))
 (.seq (.choose [false,false,false,false,false,false,false,false,false,false,false,false,false,false,false,false,false] T_sexp_reader_put_1
  (.seq (.st [.eff (some 4) none (.load none (.un (.off 2) (.un .nilchk (.v 0)))),
   .eff (some 5) none (.load none (.un (.off 2) (.un .nilchk (.v 0)))),
   .eff (some 6) none (.load none (.un (.off 4) (.bi (.idx 5) (.v 5) (.bi (.bin .sub) (.un .len (.v 3)) (.c (.int .i64 1)))))),
   .eff (some 7) none (.load (some 5) (.v 2)),
   .eff (some 8) none (.pappend 5 64 T_sexp_reader_put_0 (.v 6) (.tup (.bslice 5 [(.int .i64 0),(.int .i64 0),(.int .i64 0),(.str []),.nils] 1 [0]) (.cons (.c (.agg [(.int .i64 0),(.int .i64 0),(.int .i64 0),(.str []),.nils])) .nil)) (.v 7)),
   .eff none none (.store 1 (.un (.off 4) (.bi (.idx 5) (.v 4) (.bi (.bin .sub) (.un .len (.v 3)) (.c (.int .i64 1))))) (.v 8))])
  (.st [.eff none none (.fill 5 (.bi (.pidx 5) (.v 8) (.un .len (.v 6))) (.v 7))]))
  (.st [.eff (some 9) none (.load none (.un (.off 2) (.un .nilchk (.v 0)))),
   .eff (some 10) none (.load none (.un (.off 2) (.un .nilchk (.v 0)))),
   .eff (some 11) none (.load none (.un (.off 4) (.bi (.idx 5) (.v 10) (.bi (.bin .sub) (.un .len (.v 3)) (.c (.int .i64 1)))))),
   .eff (some 12) none (.load (some 5) (.v 2)),
   .eff (some 13) none (.append 5 64 T_sexp_reader_put_0 (.v 11) (.tup (.bslice 5 [(.int .i64 0),(.int .i64 0),(.int .i64 0),(.str []),.nils] 1 [0]) (.cons (.v 12) .nil))),
   .eff none none (.store 1 (.un (.off 4) (.bi (.idx 5) (.v 9) (.bi (.bin .sub) (.un .len (.v 3)) (.c (.int .i64 1))))) (.v 13))]))
 (.ret []))
 (.skip)))
 (.st [.eff (some 14) none (.load none (.un (.off 3) (.un .nilchk (.v 0)))),
  .eff (some 15) none (.load (some 5) (.v 2)),
  .eff (some 16) none (.pappend 5 64 T_sexp_reader_put_0 (.v 14) (.tup (.bslice 5 [(.int .i64 0),(.int .i64 0),(.int .i64 0),(.str []),.nils] 1 [0]) (.cons (.c (.agg [(.int .i64 0),(.int .i64 0),(.int .i64 0),(.str []),.nils])) .nil)) (.v 15)),
  .eff none none (.fill 5 (.bi (.pidx 5) (.v 16) (.un .len (.v 14))) (.v 15)),
  .eff none none (.store 1 (.un (.off 3) (.un .nilchk (.v 0))) (.v 16))])))
 (.ret []))⟩
noncomputable def r104:ERow:=⟨Tryz.f104,⟨[(3,(.cons 2 0 (.alt (.cons 2 1 (.cons 2 2 (.cons 2 3 .nil))) (.cons 2 2 (.cons 2 1 (.cons 2 3 .nil)))))),(4,(.cons 0 0 (.cons 0 1 (.cons 0 2 (.cons 0 4 (.cons 0 5 (.cons 0 6 (.cons 0 7 (.cons 0 8 (.cons 0 10 (.cons 0 11 (.cons 1 3 (.cons 1 9 (.cons 0 12 (.cons 0 13 (.cons 1 14 (.cons 0 16 (.cons 1 15 (.cons 2 17 (.cons 3 18 (.cons 0 19 (.cons 0 20 (.cons 3 21 .nil))))))))))))))))))))))),(6,(.cons 0 0 (.cons 0 1 (.cons 0 2 (.cons 0 4 (.cons 0 5 (.cons 0 6 (.cons 0 7 (.cons 0 8 (.cons 0 10 (.cons 0 11 (.cons 1 3 (.cons 1 9 (.cons 0 12 (.cons 0 13 (.cons 1 14 (.cons 1 15 (.cons 2 16 (.cons 2 17 (.cons 0 18 (.cons 0 19 (.cons 3 20 .nil)))))))))))))))))))))),(7,(.cons 0 0 (.cons 0 1 (.cons 0 2 (.cons 1 3 (.cons 0 5 (.cons 1 4 (.cons 2 6 (.cons 3 7 (.cons 0 8 (.cons 0 10 (.cons 0 11 (.alt (.cons 3 9 (.cons 3 12 .nil)) (.cons 3 12 (.cons 3 9 .nil)))))))))))))))],[],[],[(4,[(18,29)]),(7,[(7,60)])],[(4,⟨5,32,29,[]⟩)],[(3,[])]⟩,⟨67,[0,1,3,8,17,23,28,29,32,39,45,50,51,53,59,60,63],[],[]⟩,2,e_sexp_reader_put⟩
def e_sexp_leaf:EFunc:=⟨1,7,
 (.seq (.st [.eff (some 1) none (.box 4 T_sexp_leaf_0 (.v 0)),
  .eff (some 2) none (.zbox [(.int .i64 0),(.int .i64 0),(.int .i64 0),(.str []),.nils] T_sexp_leaf_1)])
 (.seq (.st [.eff (some 3) none (.load none (.un (.off 0) (.v 1))),
  .eff (some 4) none (.load none (.un (.off 1) (.v 1))),
  .eff (some 5) none (.load none (.un (.off 2) (.v 1))),
  .eff (some 6) none (.load none (.un (.off 3) (.v 1))),
  .eff none none (.store 5 (.v 2) (.tup (.build [(.int .i64 0),(.int .i64 0),(.int .i64 0),(.str []),.nils] [(0,1),(1,1),(2,1),(3,1)]) (.cons (.v 3) (.cons (.v 4) (.cons (.v 5) (.cons (.v 6) .nil))))))])
 (.ret [.cell (.v 2) (some 5)])))⟩
noncomputable def r105:ERow:=⟨Tryz.f105,⟨[],[],[],[],[],[]⟩,⟨12,[0,1,2,4,6,8,10],[],[]⟩,1,e_sexp_leaf⟩
def e_strconv_FormatInt:EFunc:=⟨2,2,
 (.ret [.e (.tup (.call 0 f_internal_strconv_FormatInt) (.cons (.v 0) (.cons (.v 1) .nil)))])⟩
noncomputable def r113:ERow:=⟨Tryz.f113,⟨[],[],[],[],[],[]⟩,⟨8,[0,1],[],[]⟩,2,e_strconv_FormatInt⟩
def e_strings_Builder_WriteByte:EFunc:=⟨2,4,
 (.seq (.st [.eff none none (.calls [true,true,true,true,true,true,true,true,true,true,true,true,true,true,true,true] f_strings_Builder_copyCheck (.cons (.v 0) .nil))])
 (.seq (.st [.eff (some 2) none (.load none (.un (.off 1) (.un .nilchk (.v 0)))),
  .eff (some 3) none (.append 1 1 T_byte (.v 2) (.tup (.bslice 1 [(.int .u8 0)] 1 [0]) (.cons (.v 1) .nil))),
  .eff none none (.store 1 (.un (.off 1) (.un .nilchk (.v 0))) (.v 3))])
 (.ret [.e (.c .nili)])))⟩
noncomputable def r114:ERow:=⟨Tryz.f114,⟨[],[],[],[],[],[]⟩,⟨17,[0,1,11,14],[],[]⟩,2,e_strings_Builder_WriteByte⟩
def e_sym_class:EFunc:=⟨1,4,
 (.seq (.st [.sets [(1,(.c (.int .i64 0)))]])
 (.seq (.block 0 (.seq (.block 2 (.seq (.block 1 (.seq (.seq (.seq (.seq (.st [.sets [(2,(.pick (.bi (.bin .geq) (.v 0) (.c (.int .u8 97))) (.bi (.bin .leq) (.v 0) (.c (.int .u8 122))) (.c (.bool false))))]])
  (.cond (.v 2)
   (.skip)
   (.st [.sets [(2,(.pick (.bi (.bin .geq) (.v 0) (.c (.int .u8 65))) (.bi (.bin .leq) (.v 0) (.c (.int .u8 90))) (.c (.bool false))))]])))
  (.cond (.v 2)
   (.exit 1)
   (.skip)))
  (.seq (.seq (.st [.sets [(3,(.pick (.bi (.bin .geq) (.v 0) (.c (.int .u8 48))) (.bi (.bin .leq) (.v 0) (.c (.int .u8 57))) (.c (.bool false))))]])
  (.cond (.v 3)
   (.skip)
   (.seq (.st [.sets [(3,(.bi (.bin .eql) (.v 0) (.c (.int .u8 45))))]])
   (.cond (.v 3)
   (.skip)
   (.st [.sets [(3,(.bi (.bin .eql) (.v 0) (.c (.int .u8 95))))]])))))
  (.cond (.v 3)
   (.exit 2)
   (.skip))))
  (.exit 0)))
  (.st [.sets [(1,(.bi (.bin .add) (.v 1) (.c (.int .i64 1))))]])))
 (.seq (.st [.sets [(1,(.bi (.bin .add) (.v 1) (.c (.int .i64 1))))]])
 (.exit 0))))
 (.ret [.e (.v 1)])))⟩
noncomputable def r117:ERow:=⟨Tryz.f117,⟨[],[],[],[],[],[]⟩,⟨33,[0,3,4,17],[],[]⟩,1,e_sym_class⟩
def b_cmp_Or_int_0:EC :=
 (.seq (.cond (.bi (.bin .lss) (.v 4) (.v 3))
 (.skip)
 (.exit 0))
 (.seq (.block 1 (.cond (.bi (.bin .neq) (.un (.ld none) (.bi (.idx 1) (.v 2) (.v 4))) (.v 1))
  (.ret [.e (.un (.ld none) (.bi (.idx 1) (.v 2) (.v 4)))])
  (.skip)))
 (.st [.sets [(4,(.bi (.bin .add) (.v 4) (.c (.int .i64 1))))]])))
def e_cmp_Or_int:EFunc:=⟨1,5,
 (.seq (.st [.sets [(1,(.c (.int .i64 0)))]])
 (.seq (.seq (.st [.sets [(2,(.v 0)),(3,(.un .len (.v 0))),(4,(.c (.int .i64 0)))]])
 (.block 0 (.loop [false,true,true,true,true] b_cmp_Or_int_0)))
 (.ret [.e (.v 1)])))⟩
noncomputable def r122:ERow:=⟨Tryz.f122,⟨[],[(0,[false,false,false,true,false,false,true,true,true])],[],[],[],[]⟩,⟨18,[0,3,6,7,8],[11],[]⟩,1,e_cmp_Or_int⟩
def e_cmp_Compare_int:EFunc:=⟨2,3,
 (.seq (.st [.sets [(2,(.tup (.call 0 f_cmp_isNaN_int) (.cons (.v 1) .nil)))]])
 (.seq (.cond (.tup (.call 0 f_cmp_isNaN_int) (.cons (.v 0) .nil))
 (.seq (.cond (.v 2)
  (.ret [.e (.c (.int .i64 0))])
  (.skip))
 (.ret [.e (.c (.int .i64 (-1)))]))
 (.skip))
 (.seq (.cond (.v 2)
 (.ret [.e (.c (.int .i64 1))])
 (.skip))
 (.seq (.cond (.bi (.bin .lss) (.v 0) (.v 1))
 (.ret [.e (.c (.int .i64 (-1)))])
 (.skip))
 (.seq (.cond (.bi (.bin .gtr) (.v 0) (.v 1))
 (.ret [.e (.c (.int .i64 1))])
 (.skip))
 (.ret [.e (.c (.int .i64 0))]))))))⟩
noncomputable def r123:ERow:=⟨Tryz.f123,⟨[],[],[],[],[],[]⟩,⟨20,[0,1,6],[],[]⟩,2,e_cmp_Compare_int⟩
def e_cmp_Compare_int64:EFunc:=⟨2,3,
 (.seq (.st [.sets [(2,(.tup (.call 0 f_cmp_isNaN_int64) (.cons (.v 1) .nil)))]])
 (.seq (.cond (.tup (.call 0 f_cmp_isNaN_int64) (.cons (.v 0) .nil))
 (.seq (.cond (.v 2)
  (.ret [.e (.c (.int .i64 0))])
  (.skip))
 (.ret [.e (.c (.int .i64 (-1)))]))
 (.skip))
 (.seq (.cond (.v 2)
 (.ret [.e (.c (.int .i64 1))])
 (.skip))
 (.seq (.cond (.bi (.bin .lss) (.v 0) (.v 1))
 (.ret [.e (.c (.int .i64 (-1)))])
 (.skip))
 (.seq (.cond (.bi (.bin .gtr) (.v 0) (.v 1))
 (.ret [.e (.c (.int .i64 1))])
 (.skip))
 (.ret [.e (.c (.int .i64 0))]))))))⟩
noncomputable def r124:ERow:=⟨Tryz.f124,⟨[],[],[],[],[],[]⟩,⟨20,[0,1,6],[],[]⟩,2,e_cmp_Compare_int64⟩
def e_cmp_Compare_string:EFunc:=⟨2,3,
 (.seq (.st [.sets [(2,(.tup (.call 0 f_cmp_isNaN_string) (.cons (.v 1) .nil)))]])
 (.seq (.cond (.tup (.call 0 f_cmp_isNaN_string) (.cons (.v 0) .nil))
 (.seq (.cond (.v 2)
  (.ret [.e (.c (.int .i64 0))])
  (.skip))
 (.ret [.e (.c (.int .i64 (-1)))]))
 (.skip))
 (.seq (.cond (.v 2)
 (.ret [.e (.c (.int .i64 1))])
 (.skip))
 (.seq (.cond (.bi (.bin .lss) (.v 0) (.v 1))
 (.ret [.e (.c (.int .i64 (-1)))])
 (.skip))
 (.seq (.cond (.bi (.bin .gtr) (.v 0) (.v 1))
 (.ret [.e (.c (.int .i64 1))])
 (.skip))
 (.ret [.e (.c (.int .i64 0))]))))))⟩
noncomputable def r125:ERow:=⟨Tryz.f125,⟨[],[],[],[],[],[]⟩,⟨20,[0,1,6],[],[]⟩,2,e_cmp_Compare_string⟩
def e_lex_scanner_more:EFunc:=⟨1,5,
 (.seq (.seq (.st [.eff (some 1) none (.load none (.un (.off 1) (.un .nilchk (.v 0)))),
  .eff (some 2) none (.load none (.un (.off 0) (.un .nilchk (.v 0))))])
 (.cond (.bi (.bin .geq) (.v 1) (.un .len (.v 2)))
 (.ret [.e (.c (.int .u8 0)),.e (.c (.bool false))])
 (.skip)))
 (.seq (.st [.eff (some 3) none (.load none (.un (.off 0) (.un .nilchk (.v 0)))),
  .eff (some 4) none (.load none (.un (.off 1) (.un .nilchk (.v 0))))])
 (.ret [.e (.un (.ld none) (.bi (.idx 1) (.v 3) (.v 4))),.e (.c (.bool true))])))⟩
noncomputable def r126:ERow:=⟨Tryz.f126,⟨[(1,(.cons 0 0 (.cons 0 1 (.cons 0 2 (.cons 0 4 (.cons 0 5 (.cons 0 6 (.cons 1 3 (.cons 1 7 (.cons 0 8 (.cons 0 9 .nil))))))))))),(3,(.cons 0 0 (.cons 0 1 (.cons 0 2 (.cons 0 4 (.cons 0 5 (.cons 0 6 (.cons 1 3 (.cons 1 7 (.cons 0 8 (.cons 1 9 (.cons 0 10 (.cons 0 11 .nil)))))))))))))],[],[],[],[],[]⟩,⟨24,[0,7,11,17,21],[23],[]⟩,1,e_lex_scanner_more⟩
def b_lex_scanner_text_0:EC :=
 (.seq (.cond (.v 4)
 (.skip)
 (.exit 0))
 (.seq (.block 1 (.seq (.st [.eff (some 7) none (.load none (.un (.off 1) (.un .nilchk (.v 0)))),
  .eff none none (.store 1 (.un (.off 1) (.un .nilchk (.v 0))) (.bi (.bin .add) (.v 7) (.c (.int .i64 1))))])
 (.block 2 (.seq (.block 5 (.seq (.block 4 (.seq (.block 3 (.seq (.seq (.cond (.bi (.bin .eql) (.v 3) (.c (.int .u8 34)))
    (.exit 3)
    (.skip))
   (.cond (.bi (.bin .eql) (.v 3) (.c (.int .u8 92)))
    (.exit 4)
    (.skip)))
   (.exit 5)))
   (.seq (.cond (.bi (.bin .gtr) (.un .len (.v 2)) (.c (.int .i64 1000)))
   (.seq (.st [.eff none none (.store 4 (.v 1) (.tup (.build [(.int .i64 0),(.int .i64 0),(.int .i64 0),(.str [])] []) .nil))])
   (.ret [.cell (.v 1) (some 4),.e (.c (.int .i64 4))]))
   (.skip))
   (.seq (.st [.eff none none (.store 4 (.v 1) (.tup (.build [(.int .i64 0),(.int .i64 0),(.int .i64 0),(.str [])] [(0,1),(3,1)]) (.cons (.c (.int .i64 3)) (.cons (.un .tostr (.v 2)) .nil))))])
   (.ret [.cell (.v 1) (some 4),.e (.c (.int .i64 0))])))))
  (.seq (.seq (.st [.eff (some 8) none (.calls [true,true,true,true,true,true,true,true,true,true,true,true,true,true,true,true] f_lex_scanner_more (.cons (.v 0) .nil)),
   .sets [(3,(.un (.ext 0) (.v 8))),(4,(.un (.ext 1) (.v 8)))]])
  (.cond (.un .not (.v 4))
   (.seq (.st [.eff none none (.store 4 (.v 1) (.tup (.build [(.int .i64 0),(.int .i64 0),(.int .i64 0),(.str [])] []) .nil))])
   (.ret [.cell (.v 1) (some 4),.e (.c (.int .i64 3))]))
   (.skip)))
  (.st [.eff (some 9) none (.load none (.un (.off 1) (.un .nilchk (.v 0)))),
   .eff none none (.store 1 (.un (.off 1) (.un .nilchk (.v 0))) (.bi (.bin .add) (.v 9) (.c (.int .i64 1))))]))))
  (.seq (.st [.eff (some 10) none (.append 1 1 T_byte (.v 2) (.tup (.bslice 1 [(.int .u8 0)] 1 [0]) (.cons (.v 3) .nil))),
   .sets [(2,(.v 10))]])
  (.exit 2))))))
 (.st [.eff (some 6) none (.calls [true,true,true,true,true,true,true,true,true,true,true,true,true,true,true,true] f_lex_scanner_more (.cons (.v 0) .nil)),
  .sets [(3,(.un (.ext 0) (.v 6))),(4,(.un (.ext 1) (.v 6)))]])))
def e_lex_scanner_text:EFunc:=⟨1,11,
 (.seq (.st [.eff (some 1) none (.zbox [(.int .i64 0),(.int .i64 0),(.int .i64 0),(.str [])] T_lex_scanner_text_0)])
 (.seq (.st [.sets [(2,(.c .nils))]])
 (.seq (.seq (.st [.eff (some 5) none (.calls [true,true,true,true,true,true,true,true,true,true,true,true,true,true,true,true] f_lex_scanner_more (.cons (.v 0) .nil)),
  .sets [(3,(.un (.ext 0) (.v 5))),(4,(.un (.ext 1) (.v 5)))]])
 (.block 0 (.loop [true,true,true,true,true,false,false,false,false,false,false] b_lex_scanner_text_0)))
 (.seq (.st [.eff none none (.store 4 (.v 1) (.tup (.build [(.int .i64 0),(.int .i64 0),(.int .i64 0),(.str [])] []) .nil))])
 (.ret [.cell (.v 1) (some 4),.e (.c (.int .i64 3))])))))⟩
noncomputable def r127:ERow:=⟨Tryz.f127,⟨[],[(0,[true,false,true,false,true,true,true])],[],[],[],[]⟩,⟨57,[0,2,4,5,6,9,15,21,39,48,55],[],[]⟩,1,e_lex_scanner_text⟩
def e_lex_scanner_variable:EFunc:=⟨1,11,
 (.seq (.st [.eff (some 1) none (.zbox [(.int .i64 0),(.int .i64 0),(.int .i64 0),(.str [])] T_lex_scanner_variable_0)])
 (.seq (.st [.sets [(2,(.c (.int .i64 6)))]])
 (.seq (.seq (.st [.eff (some 6) none (.calls [true,true,true,true,true,true,true,true,true,true,true,true,true,true,true,true] f_lex_scanner_more (.cons (.v 0) .nil)),
  .sets [(3,(.un (.ext 0) (.v 6)))]])
 (.cond (.pick (.un (.ext 1) (.v 6)) (.bi (.bin .eql) (.v 3) (.c (.int .u8 42))) (.c (.bool false)))
 (.seq (.st [.eff (some 7) none (.load none (.un (.off 1) (.un .nilchk (.v 0)))),
  .eff none none (.store 1 (.un (.off 1) (.un .nilchk (.v 0))) (.bi (.bin .add) (.v 7) (.c (.int .i64 1))))])
 (.st [.sets [(2,(.c (.int .i64 7)))]]))
 (.skip)))
 (.seq (.st [.eff (some 8) none (.calls [true,true,true,true,true,true,true,true,true,true,true,true,true,true,true,true] f_lex_scanner_name (.cons (.v 0) .nil)),
  .sets [(4,(.un (.ext 0) (.v 8)))]])
 (.seq (.cond (.bi (.bin .neq) (.un (.ext 1) (.v 8)) (.c (.int .i64 0)))
 (.seq (.st [.eff none none (.store 4 (.v 1) (.tup (.build [(.int .i64 0),(.int .i64 0),(.int .i64 0),(.str [])] []) .nil))])
 (.ret [.cell (.v 1) (some 4),.e (.un (.ext 1) (.v 8))]))
 (.skip))
 (.seq (.cond (.bi (.bin .eql) (.v 2) (.c (.int .i64 7)))
 (.seq (.seq (.st [.eff (some 9) none (.calls [true,true,true,true,true,true,true,true,true,true,true,true,true,true,true,true] f_lex_scanner_more (.cons (.v 0) .nil)),
  .sets [(5,(.un (.ext 0) (.v 9)))]])
 (.cond (.pick (.un .not (.un (.ext 1) (.v 9))) (.c (.bool true)) (.bi (.bin .neq) (.v 5) (.c (.int .u8 42))))
  (.seq (.st [.eff none none (.store 4 (.v 1) (.tup (.build [(.int .i64 0),(.int .i64 0),(.int .i64 0),(.str [])] []) .nil))])
  (.ret [.cell (.v 1) (some 4),.e (.c (.int .i64 2))]))
  (.skip)))
 (.st [.eff (some 10) none (.load none (.un (.off 1) (.un .nilchk (.v 0)))),
  .eff none none (.store 1 (.un (.off 1) (.un .nilchk (.v 0))) (.bi (.bin .add) (.v 10) (.c (.int .i64 1))))]))
 (.skip))
 (.seq (.st [.eff none none (.store 4 (.v 1) (.tup (.build [(.int .i64 0),(.int .i64 0),(.int .i64 0),(.str [])] [(0,1),(3,1)]) (.cons (.v 2) (.cons (.v 4) .nil))))])
 (.ret [.cell (.v 1) (some 4),.e (.c (.int .i64 0))]))))))))⟩
noncomputable def r128:ERow:=⟨Tryz.f128,⟨[],[],[],[],[],[]⟩,⟨61,[0,2,4,5,7,9,13,24,30,41,54],[],[]⟩,1,e_lex_scanner_variable⟩
def b_lex_scanner_word_0:EC :=
 (.seq (.cond (.pick (.v 4) (.tup (.call 0 f_lex_sign) (.cons (.v 3) .nil)) (.c (.bool false)))
 (.skip)
 (.exit 0))
 (.seq (.block 1 (.st [.eff (some 11) none (.load none (.un (.off 1) (.un .nilchk (.v 0)))),
  .eff none none (.store 1 (.un (.off 1) (.un .nilchk (.v 0))) (.bi (.bin .add) (.v 11) (.c (.int .i64 1))))]))
 (.st [.eff (some 10) none (.calls [true,true,true,true,true,true,true,true,true,true,true,true,true,true,true,true] f_lex_scanner_more (.cons (.v 0) .nil)),
  .sets [(3,(.un (.ext 0) (.v 10))),(4,(.un (.ext 1) (.v 10)))]])))
def e_lex_scanner_word:EFunc:=⟨1,15,
 (.seq (.st [.eff (some 1) none (.zbox [(.int .i64 0),(.int .i64 0),(.int .i64 0),(.str [])] T_lex_scanner_word_0)])
 (.seq (.st [.eff (some 8) none (.load none (.un (.off 1) (.un .nilchk (.v 0)))),
  .sets [(2,(.v 8))]])
 (.seq (.seq (.st [.eff (some 9) none (.calls [true,true,true,true,true,true,true,true,true,true,true,true,true,true,true,true] f_lex_scanner_more (.cons (.v 0) .nil)),
  .sets [(3,(.un (.ext 0) (.v 9))),(4,(.un (.ext 1) (.v 9)))]])
 (.block 0 (.loop [true,true,true,true,true,false,false,false,false,false,false,false,false,false,false] b_lex_scanner_word_0)))
 (.seq (.st [.eff (some 12) none (.load none (.un (.off 0) (.un .nilchk (.v 0)))),
  .eff (some 13) none (.load none (.un (.off 1) (.un .nilchk (.v 0)))),
  .sets [(5,(.un .tostr (.lsub 1 true true false (.v 12) (.v 2) (.v 13) (.c .undef))))]])
 (.seq (.st [.sets [(14,(.tup (.call 0 f_num_Parse) (.cons (.v 5) .nil)))],
  .sets [(6,(.un (.ext 0) (.v 14))),(7,(.un (.ext 1) (.v 14)))]])
 (.seq (.block 2 (.cond (.bi (.bin .eql) (.v 5) (.c (.str [])))
  (.seq (.st [.eff none none (.store 4 (.v 1) (.tup (.build [(.int .i64 0),(.int .i64 0),(.int .i64 0),(.str [])] []) .nil))])
  (.ret [.cell (.v 1) (some 4),.e (.c (.int .i64 2))]))
  (.cond (.bi (.bin .eql) (.v 7) (.c (.int .i64 0)))
  (.seq (.st [.eff none none (.store 4 (.v 1) (.tup (.build [(.int .i64 0),(.int .i64 0),(.int .i64 0),(.str [])] [(0,1),(2,1)]) (.cons (.c (.int .i64 1)) (.cons (.v 6) .nil))))])
  (.ret [.cell (.v 1) (some 4),.e (.c (.int .i64 0))]))
  (.cond (.bi (.bin .neq) (.v 7) (.c (.int .i64 2)))
   (.seq (.st [.eff none none (.store 4 (.v 1) (.tup (.build [(.int .i64 0),(.int .i64 0),(.int .i64 0),(.str [])] []) .nil))])
   (.ret [.cell (.v 1) (some 4),.e (.v 7)]))
   (.cond (.bi (.bin .gtr) (.un .slen (.v 5)) (.c (.int .i64 40)))
   (.seq (.st [.eff none none (.store 4 (.v 1) (.tup (.build [(.int .i64 0),(.int .i64 0),(.int .i64 0),(.str [])] []) .nil))])
   (.ret [.cell (.v 1) (some 4),.e (.c (.int .i64 4))]))
   (.skip))))))
 (.seq (.st [.eff none none (.store 4 (.v 1) (.tup (.build [(.int .i64 0),(.int .i64 0),(.int .i64 0),(.str [])] [(0,1),(3,1)]) (.cons (.c (.int .i64 2)) (.cons (.v 5) .nil))))])
 (.ret [.cell (.v 1) (some 4),.e (.c (.int .i64 0))]))))))))⟩
noncomputable def r129:ERow:=⟨Tryz.f129,⟨[(6,(.cons 0 0 (.cons 0 1 (.cons 0 2 (.cons 0 4 (.cons 0 5 (.cons 0 6 (.cons 0 7 (.cons 1 3 (.cons 1 8 (.cons 0 9 (.cons 2 10 (.cons 0 11 .nil)))))))))))))],[(0,[true,false,true,false,true,true,true])],[],[],[],[]⟩,⟨73,[0,2,4,5,6,7,8,9,13,16,26,32,39,44,47],[],[47]⟩,1,e_lex_scanner_word⟩
def e_cmp_isNaN_int:EFunc:=⟨1,1,
 (.ret [.e (.bi (.bin .neq) (.v 0) (.v 0))])⟩
noncomputable def r134:ERow:=⟨Tryz.f134,⟨[],[],[],[],[],[]⟩,⟨6,[0],[],[]⟩,1,e_cmp_isNaN_int⟩
def e_cmp_isNaN_int64:EFunc:=⟨1,1,
 (.ret [.e (.bi (.bin .neq) (.v 0) (.v 0))])⟩
noncomputable def r135:ERow:=⟨Tryz.f135,⟨[],[],[],[],[],[]⟩,⟨6,[0],[],[]⟩,1,e_cmp_isNaN_int64⟩
def e_cmp_isNaN_string:EFunc:=⟨1,1,
 (.ret [.e (.bi (.bin .neq) (.v 0) (.v 0))])⟩
noncomputable def r136:ERow:=⟨Tryz.f136,⟨[],[],[],[],[],[]⟩,⟨6,[0],[],[]⟩,1,e_cmp_isNaN_string⟩
def b_lex_scanner_name_0:EC :=
 (.seq (.cond (.pick (.v 3) (.tup (.call 0 f_lex_part) (.cons (.v 2) .nil)) (.c (.bool false)))
 (.skip)
 (.exit 0))
 (.seq (.block 1 (.st [.eff (some 8) none (.load none (.un (.off 1) (.un .nilchk (.v 0)))),
  .eff none none (.store 1 (.un (.off 1) (.un .nilchk (.v 0))) (.bi (.bin .add) (.v 8) (.c (.int .i64 1))))]))
 (.st [.eff (some 7) none (.calls [true,true,true,true,true,true,true,true,true,true,true,true,true,true,true,true] f_lex_scanner_more (.cons (.v 0) .nil)),
  .sets [(2,(.un (.ext 0) (.v 7))),(3,(.un (.ext 1) (.v 7)))]])))
def e_lex_scanner_name:EFunc:=⟨1,11,
 (.seq (.st [.eff (some 5) none (.load none (.un (.off 1) (.un .nilchk (.v 0)))),
  .sets [(1,(.v 5))]])
 (.seq (.seq (.st [.eff (some 6) none (.calls [true,true,true,true,true,true,true,true,true,true,true,true,true,true,true,true] f_lex_scanner_more (.cons (.v 0) .nil)),
  .sets [(2,(.un (.ext 0) (.v 6))),(3,(.un (.ext 1) (.v 6)))]])
 (.block 0 (.loop [true,true,true,true,false,false,false,false,false,false,false] b_lex_scanner_name_0)))
 (.seq (.st [.eff (some 9) none (.load none (.un (.off 0) (.un .nilchk (.v 0)))),
  .eff (some 10) none (.load none (.un (.off 1) (.un .nilchk (.v 0)))),
  .sets [(4,(.un .tostr (.lsub 1 true true false (.v 9) (.v 1) (.v 10) (.c .undef))))]])
 (.seq (.block 2 (.cond (.bi (.bin .gtr) (.un .slen (.v 4)) (.c (.int .i64 40)))
  (.ret [.e (.c (.str [])),.e (.c (.int .i64 4))])
  (.cond (.un .not (.tup (.call 0 f_sym_Good) (.cons (.v 4) .nil)))
  (.ret [.e (.c (.str [])),.e (.c (.int .i64 2))])
  (.skip))))
 (.ret [.e (.v 4),.e (.c (.int .i64 0))])))))⟩
noncomputable def r137:ERow:=⟨Tryz.f137,⟨[(6,(.cons 0 0 (.cons 0 1 (.cons 0 2 (.cons 0 4 (.cons 0 5 (.cons 0 6 (.cons 0 7 (.cons 1 3 (.cons 1 8 (.cons 0 9 (.cons 2 10 (.cons 0 11 .nil)))))))))))))],[(0,[true,false,false,false,true,true,true])],[],[],[],[]⟩,⟨54,[0,4,5,6,7,11,14,24,30,37,42],[],[]⟩,1,e_lex_scanner_name⟩
def e_lex_sign:EFunc:=⟨1,1,
 (.ret [.e (.tup (.call 0 f_val_Right) (.cons (.tup (.call 0 f_val_OfSym) (.cons (.bi (.bin .add) (.c (.str [97])) (.un .tostr (.tup (.bslice 1 [(.int .u8 0)] 1 [0]) (.cons (.v 0) .nil)))) .nil)) .nil))])⟩
noncomputable def r138:ERow:=⟨Tryz.f138,⟨[],[],[],[],[],[]⟩,⟨9,[0],[],[]⟩,1,e_lex_sign⟩
def b_num_Parse_0:EC :=
 (.seq (.cond (.bi (.bin .lss) (.v 7) (.v 6))
 (.skip)
 (.exit 3))
 (.seq (.block 4 (.cond (.pick (.bi (.bin .lss) (.bi .sidx (.v 1) (.v 7)) (.c (.int .u8 48))) (.c (.bool true)) (.bi (.bin .gtr) (.bi .sidx (.v 1) (.v 7)) (.c (.int .u8 57))))
  (.ret [.e (.c (.int .i64 0)),.e (.c (.int .i64 2))])
  (.skip)))
 (.st [.sets [(7,(.bi (.bin .add) (.v 7) (.c (.int .i64 1))))]])))
def b_num_Parse_1:EC :=
 (.seq (.cond (.bi (.bin .lss) (.v 9) (.v 8))
 (.skip)
 (.exit 5))
 (.seq (.block 6 (.seq (.st [.sets [(10,(.tup (.call 0 f_num_Mul) (.cons (.v 3) (.cons (.c (.int .i64 10)) .nil))))],
  .sets [(4,(.un (.ext 0) (.v 10))),(5,(.un (.ext 1) (.v 10)))]])
 (.seq (.cond (.bi (.bin .eql) (.v 5) (.c (.int .i64 0)))
  (.st [.sets [(11,(.tup (.call 0 f_num_Sub) (.cons (.v 4) (.cons (.un (.conv .i64) (.bi (.bin .sub) (.bi .sidx (.v 1) (.v 9)) (.c (.int .u8 48)))) .nil))))],
   .sets [(4,(.un (.ext 0) (.v 11))),(5,(.un (.ext 1) (.v 11)))]])
  (.skip))
 (.seq (.cond (.bi (.bin .neq) (.v 5) (.c (.int .i64 0)))
  (.ret [.e (.c (.int .i64 0)),.e (.v 5)])
  (.skip))
 (.st [.sets [(3,(.v 4))]])))))
 (.st [.sets [(9,(.bi (.bin .add) (.v 9) (.c (.int .i64 1))))]])))
def e_num_Parse:EFunc:=⟨1,13,
 (.seq (.st [.sets [(1,(.v 0)),(2,(.c (.bool false)))]])
 (.seq (.block 0 (.seq (.block 2 (.seq (.block 1 (.seq (.seq (.cond (.tup (.call 0 f_strings_HasPrefix) (.cons (.v 0) (.cons (.c (.str [45])) .nil)))
   (.exit 1)
   (.skip))
  (.cond (.tup (.call 0 f_strings_HasPrefix) (.cons (.v 0) (.cons (.c (.str [43])) .nil)))
   (.exit 2)
   (.skip)))
  (.exit 0)))
  (.st [.sets [(2,(.c (.bool true)))]])))
 (.seq (.st [.sets [(1,(.ssub true false (.v 0) (.c (.int .i64 1)) (.c .undef)))]])
 (.exit 0))))
 (.seq (.cond (.bi (.bin .eql) (.v 1) (.c (.str [])))
 (.ret [.e (.c (.int .i64 0)),.e (.c (.int .i64 2))])
 (.skip))
 (.seq (.seq (.st [.sets [(6,(.un .slen (.v 1))),(7,(.c (.int .i64 0)))]])
 (.block 3 (.loop [false,true,true,false,false,false,true,true,false,false,false,false,false] b_num_Parse_0)))
 (.seq (.st [.sets [(3,(.c (.int .i64 0)))]])
 (.seq (.seq (.st [.sets [(8,(.un .slen (.v 1))),(9,(.c (.int .i64 0)))]])
 (.block 5 (.loop [false,true,true,true,false,false,false,false,true,true,false,false,false] b_num_Parse_1)))
 (.seq (.cond (.v 2)
 (.ret [.e (.v 3),.e (.c (.int .i64 0))])
 (.skip))
 (.seq (.st [.sets [(12,(.tup (.call 0 f_num_Sub) (.cons (.c (.int .i64 0)) (.cons (.v 3) .nil))))]])
 (.ret [.e (.un (.ext 0) (.v 12)),.e (.un (.ext 1) (.v 12))])))))))))⟩
noncomputable def r139:ERow:=⟨Tryz.f139,⟨[],[(3,[false,false,false,false,true,true,false,false,false,false,false,false,false,false,false,false,false,false,false,false,false,false,false,true,true]),(5,[false,false,false,false,true,true,false,true,false,false,false,false,false,false,false,false,false,false,false,false,false,false,false,false,false,false,false,false,false,false,false,false,false,false,false,false,false,false,false,true,true])],[],[],[],[]⟩,⟨71,[0,4,5,7,9,10,23,24,39,40,43,50,68],[],[68,43,50]⟩,1,e_num_Parse⟩
def e_lex_part:EFunc:=⟨1,1,
 (.ret [.e (.tup (.call 0 f_sym_Good) (.cons (.bi (.bin .add) (.c (.str [97])) (.un .tostr (.tup (.bslice 1 [(.int .u8 0)] 1 [0]) (.cons (.v 0) .nil)))) .nil))])⟩
noncomputable def r145:ERow:=⟨Tryz.f145,⟨[],[],[],[],[],[]⟩,⟨8,[0],[],[]⟩,1,e_lex_part⟩
def e_val_Right:EFunc:=⟨1,8,
 (.seq (.st [.eff (some 1) none (.box 3 T_val_Right_0 (.v 0))])
 (.seq (.seq (.st [.eff (some 2) none (.load none (.un (.off 0) (.v 1)))])
 (.block 0 (.cond (.bi (.bin .eql) (.v 2) (.c (.int .i64 1)))
  (.seq (.st [.eff (some 3) none (.load none (.un (.off 2) (.v 1)))])
  (.ret [.e (.bi (.bin .eql) (.v 3) (.c (.str [])))]))
  (.cond (.bi (.bin .eql) (.v 2) (.c (.int .i64 2)))
  (.seq (.st [.eff (some 4) none (.load none (.un (.off 1) (.v 1))),
   .eff (some 5) (some ((.bi (.bin .eql) (.v 4) (.c (.int .i64 0))),true)) (.load none (.un (.off 2) (.v 1)))])
  (.ret [.e (.pick (.bi (.bin .eql) (.v 4) (.c (.int .i64 0))) (.tup (.call 0 f_val_symbol) (.cons (.v 5) .nil)) (.c (.bool false)))]))
  (.cond (.bi (.bin .eql) (.v 2) (.c (.int .i64 3)))
   (.seq (.st [.eff (some 6) none (.load none (.un (.off 1) (.v 1))),
    .eff (some 7) (some ((.bi (.bin .eql) (.v 6) (.c (.int .i64 0))),true)) (.load none (.un (.off 2) (.v 1)))])
   (.ret [.e (.pick (.bi (.bin .eql) (.v 6) (.c (.int .i64 0))) (.bi (.bin .leq) (.un .slen (.v 7)) (.c (.int .i64 1000))) (.c (.bool false)))]))
   (.skip))))))
 (.ret [.e (.c (.bool false))])))⟩
noncomputable def r146:ERow:=⟨Tryz.f146,⟨[],[],[],[],[],[]⟩,⟨31,[0,1,4,8,13,17,23,27],[],[]⟩,1,e_val_Right⟩
def e_strings_HasPrefix:EFunc:=⟨2,2,
 (.ret [.e (.tup (.call 0 f_internal_stringslite_HasPrefix) (.cons (.v 0) (.cons (.v 1) .nil)))])⟩
noncomputable def r147:ERow:=⟨Tryz.f147,⟨[],[],[],[],[],[]⟩,⟨8,[0,1],[],[]⟩,2,e_strings_HasPrefix⟩
def e_num_Mul:EFunc:=⟨2,6,
 (.seq (.st [.sets [(4,(.tup (.call 0 f_math_bits_Mul64) (.cons (.tup (.call 0 f_num_abs) (.cons (.v 0) .nil)) (.cons (.tup (.call 0 f_num_abs) (.cons (.v 1) .nil)) .nil))))],
  .sets [(2,(.un (.ext 1) (.v 4)))]])
 (.seq (.st [.sets [(3,(.bi (.eqs 0 true) (.bi (.bin .lss) (.v 0) (.c (.int .i64 0))) (.bi (.bin .lss) (.v 1) (.c (.int .i64 0)))))]])
 (.seq (.block 0 (.seq (.seq (.st [.sets [(5,(.bi (.bin .gtr) (.un (.ext 0) (.v 4)) (.c (.int .u64 0))))]])
 (.cond (.v 5)
  (.skip)
  (.seq (.st [.sets [(5,(.bi (.bin .gtr) (.v 2) (.c (.int .u64 9223372036854775808))))]])
  (.cond (.v 5)
  (.skip)
  (.st [.sets [(5,(.pick (.bi (.bin .eql) (.v 2) (.c (.int .u64 9223372036854775808))) (.un .not (.v 3)) (.c (.bool false))))]])))))
 (.cond (.v 5)
  (.ret [.e (.c (.int .i64 0)),.e (.c (.int .i64 11))])
  (.cond (.v 3)
  (.ret [.e (.un (.conv .i64) (.bi (.bin .sub) (.c (.int .u64 0)) (.v 2))),.e (.c (.int .i64 0))])
  (.skip)))))
 (.ret [.e (.un (.conv .i64) (.v 2)),.e (.c (.int .i64 0))]))))⟩
noncomputable def r148:ERow:=⟨Tryz.f148,⟨[],[],[],[],[],[]⟩,⟨40,[0,1,7,8,9,22],[],[9]⟩,2,e_num_Mul⟩
def e_num_Sub:EFunc:=⟨2,2,
 (.seq (.cond (.pick (.pick (.bi (.bin .lss) (.v 1) (.c (.int .i64 0))) (.bi (.bin .gtr) (.v 0) (.bi (.bin .add) (.c (.int .i64 9223372036854775807)) (.v 1))) (.c (.bool false))) (.c (.bool true)) (.pick (.bi (.bin .gtr) (.v 1) (.c (.int .i64 0))) (.bi (.bin .lss) (.v 0) (.bi (.bin .add) (.c (.int .i64 (-9223372036854775808))) (.v 1))) (.c (.bool false))))
 (.ret [.e (.c (.int .i64 0)),.e (.c (.int .i64 11))])
 (.skip))
 (.ret [.e (.bi (.bin .sub) (.v 0) (.v 1)),.e (.c (.int .i64 0))]))⟩
noncomputable def r149:ERow:=⟨Tryz.f149,⟨[],[],[],[],[],[]⟩,⟨27,[0,1],[],[]⟩,2,e_num_Sub⟩
def b_val_symbol_0:EC :=
 (.seq (.cond (.bi (.bin .lss) (.v 3) (.v 2))
 (.skip)
 (.exit 0))
 (.seq (.block 1 (.cond (.un .not (.tup (.call 0 f_val_sign) (.cons (.bi .sidx (.v 0) (.v 3)) .nil)))
  (.ret [.e (.c (.bool false))])
  (.skip)))
 (.st [.sets [(3,(.bi (.bin .add) (.v 3) (.c (.int .i64 1))))]])))
def e_val_symbol:EFunc:=⟨1,5,
 (.seq (.cond (.pick (.bi (.bin .lss) (.un .slen (.v 0)) (.c (.int .i64 1))) (.c (.bool true)) (.bi (.bin .gtr) (.un .slen (.v 0)) (.c (.int .i64 40))))
 (.ret [.e (.c (.bool false))])
 (.skip))
 (.seq (.seq (.st [.sets [(2,(.un .slen (.v 0))),(3,(.c (.int .i64 0)))]])
 (.block 0 (.loop [true,false,true,true,false] b_val_symbol_0)))
 (.seq (.st [.sets [(4,(.tup (.call 0 f_num_Parse) (.cons (.v 0) .nil)))],
  .sets [(1,(.un (.ext 0) (.v 4)))]])
 (.ret [.e (.bi (.bin .eql) (.un (.ext 1) (.v 4)) (.c (.int .i64 2)))]))))⟩
noncomputable def r155:ERow:=⟨Tryz.f155,⟨[],[(0,[true,false,false,false,false,false,false,false,false,false,false,false,false,false,false,true,true])],[],[],[],[]⟩,⟨32,[0,4,15,16,25],[],[25]⟩,1,e_val_symbol⟩
def e_internal_stringslite_HasPrefix:EFunc:=⟨2,2,
 (.ret [.e (.pick (.bi (.bin .geq) (.un .slen (.v 0)) (.un .slen (.v 1))) (.bi (.bin .eql) (.ssub false true (.v 0) (.c .undef) (.un .slen (.v 1))) (.v 1)) (.c (.bool false)))])⟩
noncomputable def r156:ERow:=⟨Tryz.f156,⟨[],[],[],[],[],[]⟩,⟨18,[0,1],[],[]⟩,2,e_internal_stringslite_HasPrefix⟩
def e_math_bits_Mul64:EFunc:=⟨2,2,
 (.ret [.e (.bi (.bin .add) (.bi (.bin .add) (.bi (.bin .mul) (.bi (.bin .shr) (.v 0) (.c (.int .u64 32))) (.bi (.bin .shr) (.v 1) (.c (.int .u64 32)))) (.bi (.bin .shr) (.bi (.bin .add) (.bi (.bin .mul) (.bi (.bin .shr) (.v 0) (.c (.int .u64 32))) (.bi (.bin .and) (.v 1) (.c (.int .u64 4294967295)))) (.bi (.bin .shr) (.bi (.bin .mul) (.bi (.bin .and) (.v 0) (.c (.int .u64 4294967295))) (.bi (.bin .and) (.v 1) (.c (.int .u64 4294967295)))) (.c (.int .u64 32)))) (.c (.int .u64 32)))) (.bi (.bin .shr) (.bi (.bin .add) (.bi (.bin .and) (.bi (.bin .add) (.bi (.bin .mul) (.bi (.bin .shr) (.v 0) (.c (.int .u64 32))) (.bi (.bin .and) (.v 1) (.c (.int .u64 4294967295)))) (.bi (.bin .shr) (.bi (.bin .mul) (.bi (.bin .and) (.v 0) (.c (.int .u64 4294967295))) (.bi (.bin .and) (.v 1) (.c (.int .u64 4294967295)))) (.c (.int .u64 32)))) (.c (.int .u64 4294967295))) (.bi (.bin .mul) (.bi (.bin .and) (.v 0) (.c (.int .u64 4294967295))) (.bi (.bin .shr) (.v 1) (.c (.int .u64 32))))) (.c (.int .u64 32)))),.e (.bi (.bin .mul) (.v 0) (.v 1))])⟩
noncomputable def r157:ERow:=⟨Tryz.f157,⟨[],[],[],[],[],[]⟩,⟨51,[0,1],[],[]⟩,2,e_math_bits_Mul64⟩
def e_num_abs:EFunc:=⟨1,1,
 (.seq (.cond (.bi (.bin .lss) (.v 0) (.c (.int .i64 0)))
 (.ret [.e (.bi (.bin .sub) (.c (.int .u64 0)) (.un (.conv .u64) (.v 0)))])
 (.skip))
 (.ret [.e (.un (.conv .u64) (.v 0))]))⟩
noncomputable def r158:ERow:=⟨Tryz.f158,⟨[],[],[],[],[],[]⟩,⟨10,[0],[],[]⟩,1,e_num_abs⟩
def e_val_sign:EFunc:=⟨1,2,
 (.seq (.block 0 (.seq (.seq (.st [.sets [(1,(.bi (.bin .eql) (.v 0) (.c (.int .u8 40))))]])
 (.cond (.v 1)
  (.skip)
  (.seq (.st [.sets [(1,(.bi (.bin .eql) (.v 0) (.c (.int .u8 41))))]])
  (.cond (.v 1)
  (.skip)
  (.seq (.st [.sets [(1,(.bi (.bin .eql) (.v 0) (.c (.int .u8 34))))]])
  (.cond (.v 1)
   (.skip)
   (.seq (.st [.sets [(1,(.bi (.bin .eql) (.v 0) (.c (.int .u8 59))))]])
   (.cond (.v 1)
   (.skip)
   (.seq (.st [.sets [(1,(.bi (.bin .eql) (.v 0) (.c (.int .u8 63))))]])
   (.cond (.v 1)
    (.skip)
    (.st [.sets [(1,(.bi (.bin .eql) (.v 0) (.c (.int .u8 126))))]])))))))))))
 (.cond (.v 1)
  (.ret [.e (.c (.bool false))])
  (.skip))))
 (.ret [.e (.pick (.bi (.bin .geq) (.v 0) (.c (.int .u8 33))) (.bi (.bin .leq) (.v 0) (.c (.int .u8 126))) (.c (.bool false)))]))⟩
noncomputable def r161:ERow:=⟨Tryz.f161,⟨[],[],[],[],[],[]⟩,⟨17,[0,4],[],[]⟩,1,e_val_sign⟩
def eT:BT EFunc:=(.node 81 e_num_Text (.node 46 e_strings_Builder_WriteString (.node 27 e_tmpl_Same (.node 17 e_tmpl_Template_Text (.node 10 e_ref3_Right (.node 7 e_law9_known (.node 4 e_law9_TmplDefaults .leaf .leaf) .leaf) (.node 15 e_tmpl_Template_Slot (.node 12 e_tmpl_Template_Fill .leaf .leaf) .leaf)) (.node 21 e_tmpl_Parse (.node 20 e_ref3_Same (.node 19 e_ref3_Int .leaf .leaf) .leaf) (.node 26 e_tmpl_Node .leaf .leaf))) (.node 41 e_ref3_Sign (.node 34 e_sexp_Text (.node 33 e_ref3_Sym (.node 31 e_sexp_Read .leaf .leaf) .leaf) (.node 40 e_ref1_Shape .leaf .leaf)) (.node 44 e_slices_IndexFunc_tmpl_Slot_tmpl_Slot (.node 43 e_slices_Clip_api_Value_api_Value (.node 42 e_slices_Contains_string_string .leaf .leaf) .leaf) (.node 45 e_tmpl_Template_Slot_1 .leaf .leaf)))) (.node 63 e_tmpl_none (.node 53 e_tmpl_slot (.node 50 e_sexp_Head (.node 48 e_strings_Builder_String (.node 47 e_val_Text .leaf .leaf) .leaf) (.node 52 e_tmpl_fault (.node 51 e_tmpl_good .leaf .leaf) .leaf)) (.node 61 e_tmpl_word (.node 60 e_tmpl_list (.node 54 e_tmpl_Template_may .leaf .leaf) .leaf) (.node 62 e_val_Same .leaf .leaf))) (.node 71 e_sexp_reader_step (.node 66 e_tmpl_Same_1 (.node 65 e_slices_EqualFunc_tmpl_Slot_tmpl_Slot_tmpl_Slot_tmpl_Slot (.node 64 e_tmpl_leaf .leaf .leaf) .leaf) (.node 70 e_lex_Scan .leaf .leaf)) (.node 79 e_slices_Index_string_string (.node 74 e_lex_Text (.node 72 e_sexp_fault .leaf .leaf) .leaf) (.node 80 e_strings_Builder_copyCheck .leaf .leaf))))) (.node 126 e_lex_scanner_more (.node 103 e_sexp_reader_count (.node 98 e_val_OfSym (.node 86 e_sym_Good (.node 83 e_strings_Clone (.node 82 e_val_Quote .leaf .leaf) .leaf) (.node 97 e_val_Compare (.node 87 e_sexp_Value .leaf .leaf) .leaf)) (.node 101 e_lex_scanner_token (.node 100 e_lex_scanner_skip (.node 99 e_lex_fault .leaf .leaf) .leaf) (.node 102 e_sexp_reader_not .leaf .leaf))) (.node 117 e_sym_class (.node 113 e_strconv_FormatInt (.node 105 e_sexp_leaf (.node 104 e_sexp_reader_put .leaf .leaf) .leaf) (.node 114 e_strings_Builder_WriteByte .leaf .leaf)) (.node 124 e_cmp_Compare_int64 (.node 123 e_cmp_Compare_int (.node 122 e_cmp_Or_int .leaf .leaf) .leaf) (.node 125 e_cmp_Compare_string .leaf .leaf)))) (.node 145 e_lex_part (.node 135 e_cmp_isNaN_int64 (.node 129 e_lex_scanner_word (.node 128 e_lex_scanner_variable (.node 127 e_lex_scanner_text .leaf .leaf) .leaf) (.node 134 e_cmp_isNaN_int .leaf .leaf)) (.node 138 e_lex_sign (.node 137 e_lex_scanner_name (.node 136 e_cmp_isNaN_string .leaf .leaf) .leaf) (.node 139 e_num_Parse .leaf .leaf))) (.node 155 e_val_symbol (.node 148 e_num_Mul (.node 147 e_strings_HasPrefix (.node 146 e_val_Right .leaf .leaf) .leaf) (.node 149 e_num_Sub .leaf .leaf)) (.node 158 e_num_abs (.node 157 e_math_bits_Mul64 (.node 156 e_internal_stringslite_HasPrefix .leaf .leaf) .leaf) (.node 161 e_val_sign .leaf .leaf))))))
noncomputable def rT:BT ERow:=(.node 81 r81 (.node 46 r46 (.node 27 r27 (.node 17 r17 (.node 10 r10 (.node 7 r7 (.node 4 r4 .leaf .leaf) .leaf) (.node 15 r15 (.node 12 r12 .leaf .leaf) .leaf)) (.node 21 r21 (.node 20 r20 (.node 19 r19 .leaf .leaf) .leaf) (.node 26 r26 .leaf .leaf))) (.node 41 r41 (.node 34 r34 (.node 33 r33 (.node 31 r31 .leaf .leaf) .leaf) (.node 40 r40 .leaf .leaf)) (.node 44 r44 (.node 43 r43 (.node 42 r42 .leaf .leaf) .leaf) (.node 45 r45 .leaf .leaf)))) (.node 63 r63 (.node 53 r53 (.node 50 r50 (.node 48 r48 (.node 47 r47 .leaf .leaf) .leaf) (.node 52 r52 (.node 51 r51 .leaf .leaf) .leaf)) (.node 61 r61 (.node 60 r60 (.node 54 r54 .leaf .leaf) .leaf) (.node 62 r62 .leaf .leaf))) (.node 71 r71 (.node 66 r66 (.node 65 r65 (.node 64 r64 .leaf .leaf) .leaf) (.node 70 r70 .leaf .leaf)) (.node 79 r79 (.node 74 r74 (.node 72 r72 .leaf .leaf) .leaf) (.node 80 r80 .leaf .leaf))))) (.node 126 r126 (.node 103 r103 (.node 98 r98 (.node 86 r86 (.node 83 r83 (.node 82 r82 .leaf .leaf) .leaf) (.node 97 r97 (.node 87 r87 .leaf .leaf) .leaf)) (.node 101 r101 (.node 100 r100 (.node 99 r99 .leaf .leaf) .leaf) (.node 102 r102 .leaf .leaf))) (.node 117 r117 (.node 113 r113 (.node 105 r105 (.node 104 r104 .leaf .leaf) .leaf) (.node 114 r114 .leaf .leaf)) (.node 124 r124 (.node 123 r123 (.node 122 r122 .leaf .leaf) .leaf) (.node 125 r125 .leaf .leaf)))) (.node 145 r145 (.node 135 r135 (.node 129 r129 (.node 128 r128 (.node 127 r127 .leaf .leaf) .leaf) (.node 134 r134 .leaf .leaf)) (.node 138 r138 (.node 137 r137 (.node 136 r136 .leaf .leaf) .leaf) (.node 139 r139 .leaf .leaf))) (.node 155 r155 (.node 148 r148 (.node 147 r147 (.node 146 r146 .leaf .leaf) .leaf) (.node 149 r149 .leaf .leaf)) (.node 158 r158 (.node 157 r157 (.node 156 r156 .leaf .leaf) .leaf) (.node 161 r161 .leaf .leaf))))))
def efns:FuncId->Option EFunc:=fun f=>eT.get f
noncomputable def rows:FuncId->Option ERow:=fun f=>rT.get f
theorem ok4:rowB Tryz.prog sh r4=some e_law9_TmplDefaults:=rowB_of (by kernel_rfl)
theorem g4:Tryz.prog.funcs[4]? = some Tryz.f4:=by kernel_rfl
theorem ok7:rowB Tryz.prog sh r7=some e_law9_known:=rowB_of (by kernel_rfl)
theorem g7:Tryz.prog.funcs[7]? = some Tryz.f7:=by kernel_rfl
theorem ok10:rowB Tryz.prog sh r10=some e_ref3_Right:=rowB_of (by kernel_rfl)
theorem g10:Tryz.prog.funcs[10]? = some Tryz.f10:=by kernel_rfl
theorem ok12:rowB Tryz.prog sh r12=some e_tmpl_Template_Fill:=rowB_of (by kernel_rfl)
theorem g12:Tryz.prog.funcs[12]? = some Tryz.f12:=by kernel_rfl
theorem ok15:rowB Tryz.prog sh r15=some e_tmpl_Template_Slot:=rowB_of (by kernel_rfl)
theorem g15:Tryz.prog.funcs[15]? = some Tryz.f15:=by kernel_rfl
theorem ok17:rowB Tryz.prog sh r17=some e_tmpl_Template_Text:=rowB_of (by kernel_rfl)
theorem g17:Tryz.prog.funcs[17]? = some Tryz.f17:=by kernel_rfl
theorem ok19:rowB Tryz.prog sh r19=some e_ref3_Int:=rowB_of (by kernel_rfl)
theorem g19:Tryz.prog.funcs[19]? = some Tryz.f19:=by kernel_rfl
theorem ok20:rowB Tryz.prog sh r20=some e_ref3_Same:=rowB_of (by kernel_rfl)
theorem g20:Tryz.prog.funcs[20]? = some Tryz.f20:=by kernel_rfl
theorem ok21:rowB Tryz.prog sh r21=some e_tmpl_Parse:=rowB_of (by kernel_rfl)
theorem g21:Tryz.prog.funcs[21]? = some Tryz.f21:=by kernel_rfl
theorem ok26:rowB Tryz.prog sh r26=some e_tmpl_Node:=rowB_of (by kernel_rfl)
theorem g26:Tryz.prog.funcs[26]? = some Tryz.f26:=by kernel_rfl
theorem ok27:rowB Tryz.prog sh r27=some e_tmpl_Same:=rowB_of (by kernel_rfl)
theorem g27:Tryz.prog.funcs[27]? = some Tryz.f27:=by kernel_rfl
theorem ok31:rowB Tryz.prog sh r31=some e_sexp_Read:=rowB_of (by kernel_rfl)
theorem g31:Tryz.prog.funcs[31]? = some Tryz.f31:=by kernel_rfl
theorem ok33:rowB Tryz.prog sh r33=some e_ref3_Sym:=rowB_of (by kernel_rfl)
theorem g33:Tryz.prog.funcs[33]? = some Tryz.f33:=by kernel_rfl
theorem ok34:rowB Tryz.prog sh r34=some e_sexp_Text:=rowB_of (by kernel_rfl)
theorem g34:Tryz.prog.funcs[34]? = some Tryz.f34:=by kernel_rfl
theorem ok40:rowB Tryz.prog sh r40=some e_ref1_Shape:=rowB_of (by kernel_rfl)
theorem g40:Tryz.prog.funcs[40]? = some Tryz.f40:=by kernel_rfl
theorem ok41:rowB Tryz.prog sh r41=some e_ref3_Sign:=rowB_of (by kernel_rfl)
theorem g41:Tryz.prog.funcs[41]? = some Tryz.f41:=by kernel_rfl
theorem ok42:rowB Tryz.prog sh r42=some e_slices_Contains_string_string:=rowB_of (by kernel_rfl)
theorem g42:Tryz.prog.funcs[42]? = some Tryz.f42:=by kernel_rfl
theorem ok43:rowB Tryz.prog sh r43=some e_slices_Clip_api_Value_api_Value:=rowB_of (by kernel_rfl)
theorem g43:Tryz.prog.funcs[43]? = some Tryz.f43:=by kernel_rfl
theorem ok44:rowB Tryz.prog sh r44=some e_slices_IndexFunc_tmpl_Slot_tmpl_Slot:=rowB_of (by kernel_rfl)
theorem g44:Tryz.prog.funcs[44]? = some Tryz.f44:=by kernel_rfl
theorem ok45:rowB Tryz.prog sh r45=some e_tmpl_Template_Slot_1:=rowB_of (by kernel_rfl)
theorem g45:Tryz.prog.funcs[45]? = some Tryz.f45:=by kernel_rfl
theorem ok46:rowB Tryz.prog sh r46=some e_strings_Builder_WriteString:=rowB_of (by kernel_rfl)
theorem g46:Tryz.prog.funcs[46]? = some Tryz.f46:=by kernel_rfl
theorem ok47:rowB Tryz.prog sh r47=some e_val_Text:=rowB_of (by kernel_rfl)
theorem g47:Tryz.prog.funcs[47]? = some Tryz.f47:=by kernel_rfl
theorem ok48:rowB Tryz.prog sh r48=some e_strings_Builder_String:=rowB_of (by kernel_rfl)
theorem g48:Tryz.prog.funcs[48]? = some Tryz.f48:=by kernel_rfl
theorem ok50:rowB Tryz.prog sh r50=some e_sexp_Head:=rowB_of (by kernel_rfl)
theorem g50:Tryz.prog.funcs[50]? = some Tryz.f50:=by kernel_rfl
theorem ok51:rowB Tryz.prog sh r51=some e_tmpl_good:=rowB_of (by kernel_rfl)
theorem g51:Tryz.prog.funcs[51]? = some Tryz.f51:=by kernel_rfl
theorem ok52:rowB Tryz.prog sh r52=some e_tmpl_fault:=rowB_of (by kernel_rfl)
theorem g52:Tryz.prog.funcs[52]? = some Tryz.f52:=by kernel_rfl
theorem ok53:rowB Tryz.prog sh r53=some e_tmpl_slot:=rowB_of (by kernel_rfl)
theorem g53:Tryz.prog.funcs[53]? = some Tryz.f53:=by kernel_rfl
theorem ok54:rowB Tryz.prog sh r54=some e_tmpl_Template_may:=rowB_of (by kernel_rfl)
theorem g54:Tryz.prog.funcs[54]? = some Tryz.f54:=by kernel_rfl
theorem ok60:rowB Tryz.prog sh r60=some e_tmpl_list:=rowB_of (by kernel_rfl)
theorem g60:Tryz.prog.funcs[60]? = some Tryz.f60:=by kernel_rfl
theorem ok61:rowB Tryz.prog sh r61=some e_tmpl_word:=rowB_of (by kernel_rfl)
theorem g61:Tryz.prog.funcs[61]? = some Tryz.f61:=by kernel_rfl
theorem ok62:rowB Tryz.prog sh r62=some e_val_Same:=rowB_of (by kernel_rfl)
theorem g62:Tryz.prog.funcs[62]? = some Tryz.f62:=by kernel_rfl
theorem ok63:rowB Tryz.prog sh r63=some e_tmpl_none:=rowB_of (by kernel_rfl)
theorem g63:Tryz.prog.funcs[63]? = some Tryz.f63:=by kernel_rfl
theorem ok64:rowB Tryz.prog sh r64=some e_tmpl_leaf:=rowB_of (by kernel_rfl)
theorem g64:Tryz.prog.funcs[64]? = some Tryz.f64:=by kernel_rfl
theorem ok65:rowB Tryz.prog sh r65=some e_slices_EqualFunc_tmpl_Slot_tmpl_Slot_tmpl_Slot_tmpl_Slot:=rowB_of (by kernel_rfl)
theorem g65:Tryz.prog.funcs[65]? = some Tryz.f65:=by kernel_rfl
theorem ok66:rowB Tryz.prog sh r66=some e_tmpl_Same_1:=rowB_of (by kernel_rfl)
theorem g66:Tryz.prog.funcs[66]? = some Tryz.f66:=by kernel_rfl
theorem ok70:rowB Tryz.prog sh r70=some e_lex_Scan:=rowB_of (by kernel_rfl)
theorem g70:Tryz.prog.funcs[70]? = some Tryz.f70:=by kernel_rfl
theorem ok71:rowB Tryz.prog sh r71=some e_sexp_reader_step:=rowB_of (by kernel_rfl)
theorem g71:Tryz.prog.funcs[71]? = some Tryz.f71:=by kernel_rfl
theorem ok72:rowB Tryz.prog sh r72=some e_sexp_fault:=rowB_of (by kernel_rfl)
theorem g72:Tryz.prog.funcs[72]? = some Tryz.f72:=by kernel_rfl
theorem ok74:rowB Tryz.prog sh r74=some e_lex_Text:=rowB_of (by kernel_rfl)
theorem g74:Tryz.prog.funcs[74]? = some Tryz.f74:=by kernel_rfl
theorem ok79:rowB Tryz.prog sh r79=some e_slices_Index_string_string:=rowB_of (by kernel_rfl)
theorem g79:Tryz.prog.funcs[79]? = some Tryz.f79:=by kernel_rfl
theorem ok80:rowB Tryz.prog sh r80=some e_strings_Builder_copyCheck:=rowB_of (by kernel_rfl)
theorem g80:Tryz.prog.funcs[80]? = some Tryz.f80:=by kernel_rfl
theorem ok81:rowB Tryz.prog sh r81=some e_num_Text:=rowB_of (by kernel_rfl)
theorem g81:Tryz.prog.funcs[81]? = some Tryz.f81:=by kernel_rfl
theorem ok82:rowB Tryz.prog sh r82=some e_val_Quote:=rowB_of (by kernel_rfl)
theorem g82:Tryz.prog.funcs[82]? = some Tryz.f82:=by kernel_rfl
theorem ok83:rowB Tryz.prog sh r83=some e_strings_Clone:=rowB_of (by kernel_rfl)
theorem g83:Tryz.prog.funcs[83]? = some Tryz.f83:=by kernel_rfl
theorem ok86:rowB Tryz.prog sh r86=some e_sym_Good:=rowB_of (by kernel_rfl)
theorem g86:Tryz.prog.funcs[86]? = some Tryz.f86:=by kernel_rfl
theorem ok87:rowB Tryz.prog sh r87=some e_sexp_Value:=rowB_of (by kernel_rfl)
theorem g87:Tryz.prog.funcs[87]? = some Tryz.f87:=by kernel_rfl
theorem ok97:rowB Tryz.prog sh r97=some e_val_Compare:=rowB_of (by kernel_rfl)
theorem g97:Tryz.prog.funcs[97]? = some Tryz.f97:=by kernel_rfl
theorem ok98:rowB Tryz.prog sh r98=some e_val_OfSym:=rowB_of (by kernel_rfl)
theorem g98:Tryz.prog.funcs[98]? = some Tryz.f98:=by kernel_rfl
theorem ok99:rowB Tryz.prog sh r99=some e_lex_fault:=rowB_of (by kernel_rfl)
theorem g99:Tryz.prog.funcs[99]? = some Tryz.f99:=by kernel_rfl
theorem ok100:rowB Tryz.prog sh r100=some e_lex_scanner_skip:=rowB_of (by kernel_rfl)
theorem g100:Tryz.prog.funcs[100]? = some Tryz.f100:=by kernel_rfl
theorem ok101:rowB Tryz.prog sh r101=some e_lex_scanner_token:=rowB_of (by kernel_rfl)
theorem g101:Tryz.prog.funcs[101]? = some Tryz.f101:=by kernel_rfl
theorem ok102:rowB Tryz.prog sh r102=some e_sexp_reader_not:=rowB_of (by kernel_rfl)
theorem g102:Tryz.prog.funcs[102]? = some Tryz.f102:=by kernel_rfl
theorem ok103:rowB Tryz.prog sh r103=some e_sexp_reader_count:=rowB_of (by kernel_rfl)
theorem g103:Tryz.prog.funcs[103]? = some Tryz.f103:=by kernel_rfl
theorem ok104:rowB Tryz.prog sh r104=some e_sexp_reader_put:=rowB_of (by kernel_rfl)
theorem g104:Tryz.prog.funcs[104]? = some Tryz.f104:=by kernel_rfl
theorem ok105:rowB Tryz.prog sh r105=some e_sexp_leaf:=rowB_of (by kernel_rfl)
theorem g105:Tryz.prog.funcs[105]? = some Tryz.f105:=by kernel_rfl
theorem ok113:rowB Tryz.prog sh r113=some e_strconv_FormatInt:=rowB_of (by kernel_rfl)
theorem g113:Tryz.prog.funcs[113]? = some Tryz.f113:=by kernel_rfl
theorem ok114:rowB Tryz.prog sh r114=some e_strings_Builder_WriteByte:=rowB_of (by kernel_rfl)
theorem g114:Tryz.prog.funcs[114]? = some Tryz.f114:=by kernel_rfl
theorem ok117:rowB Tryz.prog sh r117=some e_sym_class:=rowB_of (by kernel_rfl)
theorem g117:Tryz.prog.funcs[117]? = some Tryz.f117:=by kernel_rfl
theorem ok122:rowB Tryz.prog sh r122=some e_cmp_Or_int:=rowB_of (by kernel_rfl)
theorem g122:Tryz.prog.funcs[122]? = some Tryz.f122:=by kernel_rfl
theorem ok123:rowB Tryz.prog sh r123=some e_cmp_Compare_int:=rowB_of (by kernel_rfl)
theorem g123:Tryz.prog.funcs[123]? = some Tryz.f123:=by kernel_rfl
theorem ok124:rowB Tryz.prog sh r124=some e_cmp_Compare_int64:=rowB_of (by kernel_rfl)
theorem g124:Tryz.prog.funcs[124]? = some Tryz.f124:=by kernel_rfl
theorem ok125:rowB Tryz.prog sh r125=some e_cmp_Compare_string:=rowB_of (by kernel_rfl)
theorem g125:Tryz.prog.funcs[125]? = some Tryz.f125:=by kernel_rfl
theorem ok126:rowB Tryz.prog sh r126=some e_lex_scanner_more:=rowB_of (by kernel_rfl)
theorem g126:Tryz.prog.funcs[126]? = some Tryz.f126:=by kernel_rfl
theorem ok127:rowB Tryz.prog sh r127=some e_lex_scanner_text:=rowB_of (by kernel_rfl)
theorem g127:Tryz.prog.funcs[127]? = some Tryz.f127:=by kernel_rfl
theorem ok128:rowB Tryz.prog sh r128=some e_lex_scanner_variable:=rowB_of (by kernel_rfl)
theorem g128:Tryz.prog.funcs[128]? = some Tryz.f128:=by kernel_rfl
theorem ok129:rowB Tryz.prog sh r129=some e_lex_scanner_word:=rowB_of (by kernel_rfl)
theorem g129:Tryz.prog.funcs[129]? = some Tryz.f129:=by kernel_rfl
theorem ok134:rowB Tryz.prog sh r134=some e_cmp_isNaN_int:=rowB_of (by kernel_rfl)
theorem g134:Tryz.prog.funcs[134]? = some Tryz.f134:=by kernel_rfl
theorem ok135:rowB Tryz.prog sh r135=some e_cmp_isNaN_int64:=rowB_of (by kernel_rfl)
theorem g135:Tryz.prog.funcs[135]? = some Tryz.f135:=by kernel_rfl
theorem ok136:rowB Tryz.prog sh r136=some e_cmp_isNaN_string:=rowB_of (by kernel_rfl)
theorem g136:Tryz.prog.funcs[136]? = some Tryz.f136:=by kernel_rfl
theorem ok137:rowB Tryz.prog sh r137=some e_lex_scanner_name:=rowB_of (by kernel_rfl)
theorem g137:Tryz.prog.funcs[137]? = some Tryz.f137:=by kernel_rfl
theorem ok138:rowB Tryz.prog sh r138=some e_lex_sign:=rowB_of (by kernel_rfl)
theorem g138:Tryz.prog.funcs[138]? = some Tryz.f138:=by kernel_rfl
theorem ok139:rowB Tryz.prog sh r139=some e_num_Parse:=rowB_of (by kernel_rfl)
theorem g139:Tryz.prog.funcs[139]? = some Tryz.f139:=by kernel_rfl
theorem ok145:rowB Tryz.prog sh r145=some e_lex_part:=rowB_of (by kernel_rfl)
theorem g145:Tryz.prog.funcs[145]? = some Tryz.f145:=by kernel_rfl
theorem ok146:rowB Tryz.prog sh r146=some e_val_Right:=rowB_of (by kernel_rfl)
theorem g146:Tryz.prog.funcs[146]? = some Tryz.f146:=by kernel_rfl
theorem ok147:rowB Tryz.prog sh r147=some e_strings_HasPrefix:=rowB_of (by kernel_rfl)
theorem g147:Tryz.prog.funcs[147]? = some Tryz.f147:=by kernel_rfl
theorem ok148:rowB Tryz.prog sh r148=some e_num_Mul:=rowB_of (by kernel_rfl)
theorem g148:Tryz.prog.funcs[148]? = some Tryz.f148:=by kernel_rfl
theorem ok149:rowB Tryz.prog sh r149=some e_num_Sub:=rowB_of (by kernel_rfl)
theorem g149:Tryz.prog.funcs[149]? = some Tryz.f149:=by kernel_rfl
theorem ok155:rowB Tryz.prog sh r155=some e_val_symbol:=rowB_of (by kernel_rfl)
theorem g155:Tryz.prog.funcs[155]? = some Tryz.f155:=by kernel_rfl
theorem ok156:rowB Tryz.prog sh r156=some e_internal_stringslite_HasPrefix:=rowB_of (by kernel_rfl)
theorem g156:Tryz.prog.funcs[156]? = some Tryz.f156:=by kernel_rfl
theorem ok157:rowB Tryz.prog sh r157=some e_math_bits_Mul64:=rowB_of (by kernel_rfl)
theorem g157:Tryz.prog.funcs[157]? = some Tryz.f157:=by kernel_rfl
theorem ok158:rowB Tryz.prog sh r158=some e_num_abs:=rowB_of (by kernel_rfl)
theorem g158:Tryz.prog.funcs[158]? = some Tryz.f158:=by kernel_rfl
theorem ok161:rowB Tryz.prog sh r161=some e_val_sign:=rowB_of (by kernel_rfl)
theorem g161:Tryz.prog.funcs[161]? = some Tryz.f161:=by kernel_rfl
theorem efns_eq:efnsOf rows=efns:=efnsOf_tree rT eT rfl
theorem rows_ok:RowsOk Tryz.prog sh rows:=rowsOk_of (t:=rT) ⟨⟨g81,by rfl,ok81⟩,⟨⟨g46,by rfl,ok46⟩,⟨⟨g27,by rfl,ok27⟩,⟨⟨g17,by rfl,ok17⟩,⟨⟨g10,by rfl,ok10⟩,⟨⟨g7,by rfl,ok7⟩,⟨⟨g4,by rfl,ok4⟩,trivial,trivial⟩,trivial⟩,⟨⟨g15,by rfl,ok15⟩,⟨⟨g12,by rfl,ok12⟩,trivial,trivial⟩,trivial⟩⟩,⟨⟨g21,by rfl,ok21⟩,⟨⟨g20,by rfl,ok20⟩,⟨⟨g19,by rfl,ok19⟩,trivial,trivial⟩,trivial⟩,⟨⟨g26,by rfl,ok26⟩,trivial,trivial⟩⟩⟩,⟨⟨g41,by rfl,ok41⟩,⟨⟨g34,by rfl,ok34⟩,⟨⟨g33,by rfl,ok33⟩,⟨⟨g31,by rfl,ok31⟩,trivial,trivial⟩,trivial⟩,⟨⟨g40,by rfl,ok40⟩,trivial,trivial⟩⟩,⟨⟨g44,by rfl,ok44⟩,⟨⟨g43,by rfl,ok43⟩,⟨⟨g42,by rfl,ok42⟩,trivial,trivial⟩,trivial⟩,⟨⟨g45,by rfl,ok45⟩,trivial,trivial⟩⟩⟩⟩,⟨⟨g63,by rfl,ok63⟩,⟨⟨g53,by rfl,ok53⟩,⟨⟨g50,by rfl,ok50⟩,⟨⟨g48,by rfl,ok48⟩,⟨⟨g47,by rfl,ok47⟩,trivial,trivial⟩,trivial⟩,⟨⟨g52,by rfl,ok52⟩,⟨⟨g51,by rfl,ok51⟩,trivial,trivial⟩,trivial⟩⟩,⟨⟨g61,by rfl,ok61⟩,⟨⟨g60,by rfl,ok60⟩,⟨⟨g54,by rfl,ok54⟩,trivial,trivial⟩,trivial⟩,⟨⟨g62,by rfl,ok62⟩,trivial,trivial⟩⟩⟩,⟨⟨g71,by rfl,ok71⟩,⟨⟨g66,by rfl,ok66⟩,⟨⟨g65,by rfl,ok65⟩,⟨⟨g64,by rfl,ok64⟩,trivial,trivial⟩,trivial⟩,⟨⟨g70,by rfl,ok70⟩,trivial,trivial⟩⟩,⟨⟨g79,by rfl,ok79⟩,⟨⟨g74,by rfl,ok74⟩,⟨⟨g72,by rfl,ok72⟩,trivial,trivial⟩,trivial⟩,⟨⟨g80,by rfl,ok80⟩,trivial,trivial⟩⟩⟩⟩⟩,⟨⟨g126,by rfl,ok126⟩,⟨⟨g103,by rfl,ok103⟩,⟨⟨g98,by rfl,ok98⟩,⟨⟨g86,by rfl,ok86⟩,⟨⟨g83,by rfl,ok83⟩,⟨⟨g82,by rfl,ok82⟩,trivial,trivial⟩,trivial⟩,⟨⟨g97,by rfl,ok97⟩,⟨⟨g87,by rfl,ok87⟩,trivial,trivial⟩,trivial⟩⟩,⟨⟨g101,by rfl,ok101⟩,⟨⟨g100,by rfl,ok100⟩,⟨⟨g99,by rfl,ok99⟩,trivial,trivial⟩,trivial⟩,⟨⟨g102,by rfl,ok102⟩,trivial,trivial⟩⟩⟩,⟨⟨g117,by rfl,ok117⟩,⟨⟨g113,by rfl,ok113⟩,⟨⟨g105,by rfl,ok105⟩,⟨⟨g104,by rfl,ok104⟩,trivial,trivial⟩,trivial⟩,⟨⟨g114,by rfl,ok114⟩,trivial,trivial⟩⟩,⟨⟨g124,by rfl,ok124⟩,⟨⟨g123,by rfl,ok123⟩,⟨⟨g122,by rfl,ok122⟩,trivial,trivial⟩,trivial⟩,⟨⟨g125,by rfl,ok125⟩,trivial,trivial⟩⟩⟩⟩,⟨⟨g145,by rfl,ok145⟩,⟨⟨g135,by rfl,ok135⟩,⟨⟨g129,by rfl,ok129⟩,⟨⟨g128,by rfl,ok128⟩,⟨⟨g127,by rfl,ok127⟩,trivial,trivial⟩,trivial⟩,⟨⟨g134,by rfl,ok134⟩,trivial,trivial⟩⟩,⟨⟨g138,by rfl,ok138⟩,⟨⟨g137,by rfl,ok137⟩,⟨⟨g136,by rfl,ok136⟩,trivial,trivial⟩,trivial⟩,⟨⟨g139,by rfl,ok139⟩,trivial,trivial⟩⟩⟩,⟨⟨g155,by rfl,ok155⟩,⟨⟨g148,by rfl,ok148⟩,⟨⟨g147,by rfl,ok147⟩,⟨⟨g146,by rfl,ok146⟩,trivial,trivial⟩,trivial⟩,⟨⟨g149,by rfl,ok149⟩,trivial,trivial⟩⟩,⟨⟨g158,by rfl,ok158⟩,⟨⟨g157,by rfl,ok157⟩,⟨⟨g156,by rfl,ok156⟩,trivial,trivial⟩,trivial⟩,⟨⟨g161,by rfl,ok161⟩,trivial,trivial⟩⟩⟩⟩⟩⟩
theorem follows_ok:Tryz.prog.follows .mixedOrders=true:=by kernel_rfl
end Go.Proofs.YthjnlpfibakacaaGreatDoorPe.TmpfCode
