/- A part of the proof of this folder's statement; it has no condition of its own. -/
import Derived.Test.YtdhhaipppjgicaaGreatDoorEcFast
import Derived.Test.YtdhhaipppjgicaaGreatDoorProg
import Derived.KernelRfl
set_option maxRecDepth 100000
set_option linter.unusedVariables false
namespace Go.Proofs.YtdhhaipppjgicaaGreatDoorPe.PatxCode
open Go Go.Proofs.YtdhhaipppjgicaaGreatDoorPe
open Go.Proofs
abbrev f_law11_PatBytes:Nat:=6
abbrev f_law11_known:Nat:=7
abbrev f_ref5_Read:Nat:=10
abbrev f_ref11_Parse:Nat:=11
abbrev f_law11_Two:Nat:=12
abbrev f_pat_Pattern_Match:Nat:=15
abbrev f_pat_Pattern_Alone:Nat:=19
abbrev f_law11_two:Nat:=21
abbrev f_pat_Pattern_Vars:Nat:=22
abbrev f_law9_All:Nat:=23
abbrev f_pat_Parse:Nat:=24
abbrev f_law5_To:Nat:=25
abbrev f_law5_Tells:Nat:=26
abbrev f_ref11_Same:Nat:=27
abbrev f_law11_Of:Nat:=28
abbrev f_pat_Node:Nat:=29
abbrev f_pat_Same:Nat:=30
abbrev f_ref5_Same:Nat:=31
abbrev f_law5_Of:Nat:=32
abbrev f_ref11_Node:Nat:=33
abbrev f_law7_Names:Nat:=34
abbrev f_ref11_Pattern_Vars:Nat:=35
abbrev f_sexp_Read:Nat:=36
abbrev f_sexp_Text:Nat:=37
abbrev f_ref1_Shape:Nat:=38
abbrev f_ref3_Sign:Nat:=39
abbrev f_ref4_Scan:Nat:=40
abbrev f_ref5_At:Nat:=41
abbrev f_ref5_reader_node:Nat:=42
abbrev f_ref5_Head:Nat:=43
abbrev f_ref9_Find:Nat:=44
abbrev f_ref9_Template_Slot:Nat:=45
abbrev f_ref11_term:Nat:=46
abbrev f_ref3_Sym:Nat:=47
abbrev f_slices_Clone_eval_Bind_eval_Bind:Nat:=48
abbrev f_pat_at:Nat:=49
abbrev f_eval_Get:Nat:=50
abbrev f_val_Same:Nat:=51
abbrev f_slices_Clip_eval_Bind_eval_Bind:Nat:=52
abbrev f_ref3_Same:Nat:=54
abbrev f_ref3_Int:Nat:=55
abbrev f_slices_Contains_string_string:Nat:=56
abbrev f_slices_Clip_string_string:Nat:=57
abbrev f_law9_To:Nat:=58
abbrev f_sexp_Head:Nat:=59
abbrev f_pat_fault:Nat:=60
abbrev f_pat_find:Nat:=61
abbrev f_tmpl_Template_Slot:Nat:=62
abbrev f_slices_ContainsFunc_pat_Test_pat_Test:Nat:=63
abbrev f_pat_Parse_1:Nat:=64
abbrev f_pat_term:Nat:=65
abbrev f_sexp_Told:Nat:=66
abbrev f_ref5_Told:Nat:=67
abbrev f_sexp_Number:Nat:=68
abbrev f_errors_Is:Nat:=69
abbrev f_errors_As:Nat:=70
abbrev f_slices_EqualFunc_pat_Test_pat_Test_pat_Test_pat_Test:Nat:=71
abbrev f_pat_Same_1:Nat:=72
abbrev f_ref5_Sym:Nat:=73
abbrev f_ref5_Of:Nat:=74
abbrev f_ref5_L:Nat:=75
abbrev f_ref7_Put:Nat:=76
abbrev f_lex_Scan:Nat:=77
abbrev f_sexp_reader_step:Nat:=78
abbrev f_sexp_fault:Nat:=79
abbrev f_strings_Join:Nat:=80
abbrev f_lex_Text:Nat:=81
abbrev f_ref4_blank:Nat:=82
abbrev f_ref4_one:Nat:=83
abbrev f_ref5_Value:Nat:=84
abbrev f_val_Compare:Nat:=86
abbrev f_slices_Index_string_string:Nat:=87
abbrev f_slices_IndexFunc_tmpl_Template_tmpl_Template:Nat:=88
abbrev f_pat_find_1:Nat:=89
abbrev f_slices_IndexFunc_tmpl_Slot_tmpl_Slot:Nat:=90
abbrev f_tmpl_Template_Slot_1:Nat:=91
abbrev f_slices_IndexFunc_pat_Test_pat_Test:Nat:=92
abbrev f_sexp_Value:Nat:=93
abbrev f_sexp_last:Nat:=94
abbrev f_strconv_Itoa:Nat:=95
abbrev f_ref1_Text:Nat:=96
abbrev f_ref5_Word:Nat:=97
abbrev f_ref7_Has:Nat:=104
abbrev f_lex_fault:Nat:=105
abbrev f_lex_scanner_skip:Nat:=106
abbrev f_lex_scanner_token:Nat:=107
abbrev f_sexp_reader_not:Nat:=108
abbrev f_sexp_reader_count:Nat:=109
abbrev f_sexp_reader_put:Nat:=110
abbrev f_sexp_leaf:Nat:=111
abbrev f_strings_Builder_String:Nat:=114
abbrev f_val_Text:Nat:=115
abbrev f_ref4_text:Nat:=116
abbrev f_ref4_name:Nat:=117
abbrev f_ref1_Parse:Nat:=118
abbrev f_cmp_Or_int:Nat:=120
abbrev f_cmp_Compare_int:Nat:=121
abbrev f_cmp_Compare_int64:Nat:=122
abbrev f_cmp_Compare_string:Nat:=123
abbrev f_api_Errno_Error:Nat:=124
abbrev f_internal_strconv_Itoa:Nat:=125
abbrev f_ref1_size:Nat:=126
abbrev f_lex_scanner_more:Nat:=129
abbrev f_lex_scanner_text:Nat:=130
abbrev f_lex_scanner_variable:Nat:=131
abbrev f_lex_scanner_word:Nat:=132
abbrev f_strings_Builder_copyCheck:Nat:=133
abbrev f_num_Text:Nat:=135
abbrev f_val_Quote:Nat:=136
abbrev f_strings_Clone:Nat:=137
abbrev f_ref3_Part:Nat:=138
abbrev f_ref3_Good:Nat:=139
abbrev f_ref1_Mul:Nat:=140
abbrev f_ref1_Add:Nat:=141
abbrev f_cmp_isNaN_int:Nat:=142
abbrev f_cmp_isNaN_int64:Nat:=143
abbrev f_cmp_isNaN_string:Nat:=144
abbrev f_internal_strconv_FormatInt:Nat:=145
abbrev f_lex_scanner_name:Nat:=146
abbrev f_lex_sign:Nat:=147
abbrev f_num_Parse:Nat:=148
abbrev f_strconv_FormatInt:Nat:=151
abbrev f_strings_Builder_WriteByte:Nat:=152
abbrev f_internal_stringslite_Clone:Nat:=153
abbrev f_ref3_letter:Nat:=154
abbrev f_lex_part:Nat:=159
abbrev f_sym_Good:Nat:=160
abbrev f_val_Right:Nat:=161
abbrev f_val_OfSym:Nat:=162
abbrev f_strings_HasPrefix:Nat:=163
abbrev f_num_Mul:Nat:=164
abbrev f_num_Sub:Nat:=165
abbrev f_sym_class:Nat:=171
abbrev f_val_symbol:Nat:=172
abbrev f_internal_stringslite_HasPrefix:Nat:=173
abbrev f_math_bits_Mul64:Nat:=174
abbrev f_num_abs:Nat:=175
abbrev f_val_sign:Nat:=178
noncomputable abbrev G_eval_Get:Go.Func:=Tryz.f50
noncomputable abbrev G_strings_Join:Go.Func:=Tryz.f80
noncomputable abbrev G_internal_strconv_FormatInt:Go.Func:=Tryz.f145
noncomputable abbrev G_internal_stringslite_Clone:Go.Func:=Tryz.f153
abbrev T_byte:Nat:=5
abbrev T_bld:Nat:=218
abbrev T_law11_PatBytes_0:Nat:=35
abbrev T_law11_PatBytes_1:Nat:=49
abbrev T_law11_PatBytes_2:Nat:=40
abbrev T_law11_PatBytes_3:Nat:=82
abbrev T_law11_known_0:Nat:=49
abbrev T_ref5_Read_0:Nat:=44
abbrev T_ref5_Read_1:Nat:=35
abbrev T_ref5_Read_2:Nat:=105
abbrev T_ref11_Parse_0:Nat:=110
abbrev T_ref11_Parse_1:Nat:=44
abbrev T_ref11_Parse_2:Nat:=40
abbrev T_ref11_Parse_3:Nat:=35
abbrev T_law11_Two_0:Nat:=31
abbrev T_pat_Pattern_Match_0:Nat:=69
abbrev T_pat_Pattern_Match_1:Nat:=66
abbrev T_pat_Pattern_Match_2:Nat:=31
abbrev T_pat_Pattern_Match_3:Nat:=49
abbrev T_pat_Pattern_Match_4:Nat:=25
abbrev T_pat_Pattern_Alone_0:Nat:=66
abbrev T_pat_Pattern_Alone_1:Nat:=31
abbrev T_pat_Pattern_Alone_2:Nat:=49
abbrev T_pat_Pattern_Alone_3:Nat:=25
abbrev T_pat_Pattern_Vars_0:Nat:=9
abbrev T_pat_Pattern_Vars_1:Nat:=66
abbrev T_pat_Pattern_Vars_2:Nat:=49
abbrev T_law9_All_0:Nat:=132
abbrev T_pat_Parse_0:Nat:=66
abbrev T_pat_Parse_1:Nat:=82
abbrev T_pat_Parse_2:Nat:=3
abbrev T_pat_Parse_3:Nat:=49
abbrev T_pat_Parse_4:Nat:=132
abbrev T_law5_To_0:Nat:=82
abbrev T_law5_To_1:Nat:=44
abbrev T_law5_Tells_0:Nat:=35
abbrev T_law5_Tells_1:Nat:=148
abbrev T_law5_Tells_2:Nat:=135
abbrev T_law5_Tells_3:Nat:=150
abbrev T_ref11_Same_0:Nat:=110
abbrev T_ref11_Same_1:Nat:=40
abbrev T_law11_Of_0:Nat:=110
abbrev T_law11_Of_1:Nat:=66
abbrev T_law11_Of_2:Nat:=49
abbrev T_law11_Of_3:Nat:=40
abbrev T_pat_Node_0:Nat:=82
abbrev T_pat_Node_1:Nat:=66
abbrev T_pat_Node_2:Nat:=49
abbrev T_pat_Node_3:Nat:=132
abbrev T_pat_Same_0:Nat:=49
abbrev T_ref5_Same_0:Nat:=44
abbrev T_law5_Of_0:Nat:=44
abbrev T_law5_Of_1:Nat:=82
abbrev T_ref11_Node_0:Nat:=44
abbrev T_ref11_Node_1:Nat:=110
abbrev T_ref11_Node_2:Nat:=40
abbrev T_ref11_Pattern_Vars_0:Nat:=40
abbrev T_sexp_Read_0:Nat:=167
abbrev T_sexp_Text_0:Nat:=9
abbrev T_sexp_Text_1:Nat:=82
abbrev T_ref4_Scan_0:Nat:=175
abbrev T_ref5_At_0:Nat:=35
abbrev T_ref5_reader_node_0:Nat:=44
abbrev T_ref5_reader_node_1:Nat:=35
abbrev T_ref5_reader_node_2:Nat:=175
abbrev T_ref5_Head_0:Nat:=44
abbrev T_ref9_Template_Slot_0:Nat:=113
abbrev T_ref11_term_0:Nat:=44
abbrev T_ref11_term_1:Nat:=110
abbrev T_ref11_term_2:Nat:=31
abbrev T_ref3_Sym_0:Nat:=31
abbrev T_slices_Clone_eval_Bind_eval_Bind_0:Nat:=69
abbrev T_pat_at_0:Nat:=25
abbrev T_pat_at_1:Nat:=31
abbrev T_val_Same_0:Nat:=31
abbrev T_ref3_Same_0:Nat:=31
abbrev T_ref3_Int_0:Nat:=31
abbrev T_law9_To_0:Nat:=155
abbrev T_law9_To_1:Nat:=113
abbrev T_law9_To_2:Nat:=132
abbrev T_sexp_Head_0:Nat:=82
abbrev T_pat_fault_0:Nat:=82
abbrev T_pat_fault_1:Nat:=152
abbrev T_pat_fault_2:Nat:=135
abbrev T_pat_fault_3:Nat:=148
abbrev T_pat_find_0:Nat:=9
abbrev T_pat_find_1:Nat:=132
abbrev T_tmpl_Template_Slot_0:Nat:=132
abbrev T_tmpl_Template_Slot_1:Nat:=9
abbrev T_pat_Parse_1_0:Nat:=66
abbrev T_pat_term_0:Nat:=82
abbrev T_pat_term_1:Nat:=66
abbrev T_pat_term_2:Nat:=31
abbrev T_sexp_Told_0:Nat:=148
abbrev T_sexp_Told_1:Nat:=150
abbrev T_ref5_Told_0:Nat:=35
abbrev T_sexp_Number_0:Nat:=135
abbrev T_sexp_Number_1:Nat:=192
abbrev T_slices_EqualFunc_pat_Test_pat_Test_pat_Test_pat_Test_0:Nat:=66
abbrev T_pat_Same_1_0:Nat:=66
abbrev T_ref5_Sym_0:Nat:=44
abbrev T_ref5_Of_0:Nat:=31
abbrev T_ref5_Of_1:Nat:=44
abbrev T_ref5_L_0:Nat:=44
abbrev T_ref7_Put_0:Nat:=9
abbrev T_lex_Scan_0:Nat:=174
abbrev T_lex_Scan_1:Nat:=209
abbrev T_sexp_reader_step_0:Nat:=82
abbrev T_sexp_reader_step_1:Nat:=174
abbrev T_sexp_fault_0:Nat:=152
abbrev T_sexp_fault_1:Nat:=135
abbrev T_sexp_fault_2:Nat:=148
abbrev T_lex_Text_0:Nat:=174
abbrev T_ref4_one_0:Nat:=175
abbrev T_ref5_Value_0:Nat:=44
abbrev T_ref5_Value_1:Nat:=31
abbrev T_val_Compare_0:Nat:=31
abbrev T_pat_find_1_0:Nat:=132
abbrev T_tmpl_Template_Slot_1_0:Nat:=155
abbrev T_sexp_Value_0:Nat:=82
abbrev T_sexp_Value_1:Nat:=31
abbrev T_sexp_last_0:Nat:=135
abbrev T_sexp_last_1:Nat:=192
abbrev T_lex_fault_0:Nat:=152
abbrev T_lex_fault_1:Nat:=135
abbrev T_lex_fault_2:Nat:=148
abbrev T_lex_scanner_token_0:Nat:=174
abbrev T_sexp_reader_not_0:Nat:=174
abbrev T_sexp_reader_count_0:Nat:=174
abbrev T_sexp_reader_put_0:Nat:=82
abbrev T_sexp_reader_put_1:Nat:=4
abbrev T_sexp_leaf_0:Nat:=174
abbrev T_sexp_leaf_1:Nat:=82
abbrev T_val_Text_0:Nat:=31
abbrev T_lex_scanner_text_0:Nat:=174
abbrev T_lex_scanner_variable_0:Nat:=174
abbrev T_lex_scanner_word_0:Nat:=174
abbrev T_val_Right_0:Nat:=31
abbrev T_val_OfSym_0:Nat:=31
def sh:Nat->Nat
 |15=>65539
 |42=>3
 |48=>2
 |52=>1
 |57=>1
 |63=>4
 |64=>3
 |70=>3
 |71=>6
 |78=>3
 |88=>4
 |89=>3
 |90=>4
 |91=>3
 |92=>4
 |106=>3
 |107=>3
 |108=>3
 |109=>3
 |110=>3
 |114=>3
 |129=>3
 |130=>3
 |131=>3
 |132=>3
 |133=>3
 |146=>3
 |152=>3
 |_=>0
def e_law11_PatBytes:EFunc:=⟨1,29,
 (.seq (.cond (.un .not (.tup (.call 0 f_law11_known) .nil))
 (.ret [.e (.c (.bool false))])
 (.skip))
 (.seq (.cond (.bi (.bin .gtr) (.un .len (.v 0)) (.c (.int .i64 2000)))
 (.ret [.e (.c (.bool true))])
 (.skip))
 (.seq (.st [.sets [(9,(.tup (.call 0 f_ref5_Read) (.cons (.v 0) .nil)))],
  .eff (some 2) none (.zbox [.nils,(.int .i64 0)] T_law11_PatBytes_0),
  .sets [(1,(.un (.ext 0) (.v 9)))],
  .eff none none (.store 2 (.v 2) (.un (.ext 1) (.v 9)))])
 (.seq (.seq (.st [.eff (some 10) none (.load none (.un (.off 1) (.v 2)))])
 (.cond (.pick (.bi (.bin .neq) (.v 10) (.c (.int .i64 0))) (.c (.bool true)) (.bi (.bin .eql) (.un .len (.v 1)) (.c (.int .i64 0))))
 (.ret [.e (.c (.bool true))])
 (.skip)))
 (.seq (.st [.sets [(3,(.tup (.call 0 f_law9_All) (.cons (.tup (.call 0 f_law11_Two) .nil) .nil)))]])
 (.seq (.st [.sets [(11,(.tup (.call 0 f_pat_Parse) (.cons (.tup (.call 0 f_law5_To) (.cons (.un (.ld (some 5)) (.bi (.idx 5) (.v 1) (.c (.int .i64 0)))) .nil)) (.cons (.v 3) .nil))))],
  .eff (some 4) none (.zbox [(.str []),.nils] T_law11_PatBytes_1),
  .eff none none (.store 2 (.v 4) (.un (.ext 0) (.v 11)))])
 (.seq (.st [.sets [(12,(.tup (.call 0 f_ref11_Parse) (.cons (.un (.ld (some 5)) (.bi (.idx 5) (.v 1) (.c (.int .i64 0)))) (.cons (.tup (.call 0 f_law11_Two) .nil) .nil))))],
  .eff (some 5) none (.zbox [(.str []),.nils] T_law11_PatBytes_2),
  .eff (some 6) none (.zbox [.nils,(.int .i64 0)] T_law11_PatBytes_0),
  .eff none none (.store 2 (.v 5) (.un (.ext 0) (.v 12))),
  .eff none none (.store 2 (.v 6) (.un (.ext 1) (.v 12)))])
 (.seq (.seq (.st [.eff (some 13) none (.load (some 2) (.v 6)),
  .sets [(14,(.tup (.call 0 f_law5_Tells) (.cons (.un (.ext 1) (.v 11)) (.cons (.v 13) .nil))))],
  .eff (some 15) (some ((.un .not (.v 14)),false)) (.load (some 2) (.v 4)),
  .eff (some 16) (some ((.un .not (.v 14)),false)) (.load (some 2) (.v 5))])
 (.cond (.pick (.un .not (.v 14)) (.c (.bool true)) (.un .not (.tup (.call 0 f_ref11_Same) (.cons (.tup (.call 0 f_law11_Of) (.cons (.v 15) .nil)) (.cons (.v 16) .nil)))))
 (.ret [.e (.c (.bool false))])
 (.skip)))
 (.seq (.seq (.st [.eff (some 17) none (.load none (.un (.off 1) (.v 6)))])
 (.cond (.bi (.bin .neq) (.v 17) (.c (.int .i64 0)))
 (.ret [.e (.c (.bool true))])
 (.skip)))
 (.seq (.st [.eff (some 18) none (.load (some 2) (.v 4)),
  .eff (some 7) none (.zbox [(.int .i64 0),(.int .i64 0),(.int .i64 0),(.str []),.nils] T_law11_PatBytes_3),
  .eff none none (.store 5 (.v 7) (.tup (.call 0 f_pat_Node) (.cons (.v 18) (.cons (.v 3) .nil))))])
 (.seq (.st [.eff (some 20) none (.load (some 5) (.v 7)),
  .sets [(19,(.tup (.call 0 f_pat_Parse) (.cons (.v 20) (.cons (.v 3) .nil))))],
  .eff (some 8) none (.zbox [(.str []),.nils] T_law11_PatBytes_1),
  .eff none none (.store 2 (.v 8) (.un (.ext 0) (.v 19)))])
 (.seq (.st [.eff (some 21) (some ((.bi (.eqs 1 false) (.un (.ext 1) (.v 19)) (.c .nili)),true)) (.load (some 2) (.v 8)),
  .eff (some 22) (some ((.bi (.eqs 1 false) (.un (.ext 1) (.v 19)) (.c .nili)),true)) (.load (some 2) (.v 4)),
  .sets [(23,(.pick (.bi (.eqs 1 false) (.un (.ext 1) (.v 19)) (.c .nili)) (.tup (.call 0 f_pat_Same) (.cons (.v 21) (.cons (.v 22) .nil))) (.c (.bool false))))],
  .eff (some 24) (some ((.v 23),true)) (.load (some 5) (.v 7)),
  .eff (some 25) (some ((.v 23),true)) (.load (some 2) (.v 5)),
  .sets [(26,(.gd true (.v 23) (.tup (.call 0 f_ref5_Same) (.cons (.tup (.call 0 f_law5_Of) (.cons (.v 24) .nil)) (.cons (.tup (.call 0 f_ref11_Node) (.cons (.v 25) (.cons (.tup (.call 0 f_law11_Two) .nil) .nil))) .nil)))))],
  .eff (some 27) (some ((.pick (.v 23) (.v 26) (.c (.bool false))),true)) (.load (some 2) (.v 4)),
  .eff (some 28) (some ((.pick (.v 23) (.v 26) (.c (.bool false))),true)) (.load (some 2) (.v 5))])
 (.ret [.e (.pick (.pick (.v 23) (.v 26) (.c (.bool false))) (.tup (.call 0 f_law7_Names) (.cons (.tup (.call 0 f_pat_Pattern_Vars) (.cons (.v 27) .nil)) (.cons (.tup (.call 0 f_ref11_Pattern_Vars) (.cons (.v 28) .nil)) .nil))) (.c (.bool false)))])))))))))))))⟩
noncomputable def r6:ERow:=⟨Tryz.f6,⟨[(10,(.cons 0 0 (.cons 0 1 (.cons 1 2 (.alt (.cons 2 3 (.alt (.cons 2 4 (.cons 0 5 (.cons 0 6 (.cons 0 7 (.alt (.cons 2 8 (.cons 2 9 (.cons 3 10 (.cons 3 11 .nil)))) (.cons 2 9 (.cons 2 8 (.cons 3 10 (.cons 3 11 .nil))))))))) (.alt (.cons 2 8 (.alt (.cons 2 4 (.cons 0 5 (.cons 0 6 (.cons 0 7 (.cons 2 9 (.cons 3 10 (.cons 3 11 .nil))))))) (.cons 2 9 (.cons 2 4 (.cons 0 5 (.cons 0 6 (.cons 0 7 (.cons 3 10 (.cons 3 11 .nil))))))))) (.cons 2 9 (.alt (.cons 2 4 (.cons 0 5 (.cons 0 6 (.cons 0 7 (.cons 2 8 (.cons 3 10 (.cons 3 11 .nil))))))) (.cons 2 8 (.cons 2 4 (.cons 0 5 (.cons 0 6 (.cons 0 7 (.cons 3 10 (.cons 3 11 .nil)))))))))))) (.alt (.cons 2 8 (.alt (.cons 2 3 (.alt (.cons 2 4 (.cons 0 5 (.cons 0 6 (.cons 0 7 (.cons 2 9 (.cons 3 10 (.cons 3 11 .nil))))))) (.cons 2 9 (.cons 2 4 (.cons 0 5 (.cons 0 6 (.cons 0 7 (.cons 3 10 (.cons 3 11 .nil))))))))) (.cons 2 9 (.cons 2 3 (.cons 2 4 (.cons 0 5 (.cons 0 6 (.cons 0 7 (.cons 3 10 (.cons 3 11 .nil)))))))))) (.cons 2 9 (.alt (.cons 2 3 (.alt (.cons 2 4 (.cons 0 5 (.cons 0 6 (.cons 0 7 (.cons 2 8 (.cons 3 10 (.cons 3 11 .nil))))))) (.cons 2 8 (.cons 2 4 (.cons 0 5 (.cons 0 6 (.cons 0 7 (.cons 3 10 (.cons 3 11 .nil))))))))) (.cons 2 8 (.cons 2 3 (.cons 2 4 (.cons 0 5 (.cons 0 6 (.cons 0 7 (.cons 3 10 (.cons 3 11 .nil)))))))))))))))),(11,(.cons 0 0 (.cons 1 1 (.cons 2 2 (.cons 0 3 (.cons 0 4 (.cons 1 5 (.cons 1 7 (.cons 2 6 (.cons 2 8 (.cons 0 9 (.cons 0 10 .nil)))))))))))),(17,(.cons 0 0 (.cons 0 1 (.cons 0 2 (.cons 1 3 (.cons 1 4 (.cons 2 5 (.cons 0 6 (.cons 0 7 (.cons 1 8 (.cons 1 10 (.cons 2 9 (.cons 2 11 (.cons 2 12 (.cons 2 13 (.cons 0 14 (.cons 0 15 (.cons 1 16 (.cons 1 18 (.cons 2 17 (.cons 2 19 (.cons 2 20 (.cons 0 21 (.cons 0 22 .nil))))))))))))))))))))))))],[],[],[],[],[]⟩,⟨95,[0,3,4,5,6,8,9,10,11,18,24,33,42,51,52,55,57,62,64,67,68,76,77,80,81,83,86,89,91],[36,45],[52,86,18,33,42,67]⟩,1,e_law11_PatBytes⟩
def e_law11_known:EFunc:=⟨0,25,
 (.seq (.st [.eff (some 8) none (.bown 1 [(.int .u8 0)] 17 [0,1,2,3,4,5,6,7,8,9,10,11,12,13,14,15,16] (.cons (.c (.int .u8 40)) (.cons (.c (.int .u8 112)) (.cons (.c (.int .u8 32)) (.cons (.c (.int .u8 40)) (.cons (.c (.int .u8 97)) (.cons (.c (.int .u8 32)) (.cons (.c (.int .u8 63)) (.cons (.c (.int .u8 120)) (.cons (.c (.int .u8 41)) (.cons (.c (.int .u8 32)) (.cons (.c (.int .u8 40)) (.cons (.c (.int .u8 98)) (.cons (.c (.int .u8 32)) (.cons (.c (.int .u8 126)) (.cons (.c (.int .u8 53)) (.cons (.c (.int .u8 41)) (.cons (.c (.int .u8 41)) .nil)))))))))))))))))),
  .eff (some 9) none (.mark (.v 8)),
  .sets [(7,(.tup (.call 0 f_sexp_Read) (.cons (.v 9) .nil)))],
  .sets [(0,(.un (.ext 0) (.v 7)))]])
 (.seq (.cond (.pick (.bi (.eqs 1 true) (.un (.ext 1) (.v 7)) (.c .nili)) (.c (.bool true)) (.bi (.bin .neq) (.un .len (.v 0)) (.c (.int .i64 1))))
 (.ret [.e (.c (.bool false))])
 (.skip))
 (.seq (.st [.sets [(1,(.tup (.call 0 f_law9_All) (.cons (.tup (.call 0 f_law11_Two) .nil) .nil)))]])
 (.seq (.st [.sets [(10,(.tup (.call 0 f_pat_Parse) (.cons (.un (.ld (some 5)) (.bi (.idx 5) (.v 0) (.c (.int .i64 0)))) (.cons (.v 1) .nil))))],
  .eff (some 2) none (.zbox [(.str []),.nils] T_law11_known_0),
  .eff none none (.store 2 (.v 2) (.un (.ext 0) (.v 10)))])
 (.seq (.st [.eff (some 12) none (.load (some 2) (.v 2)),
  .sets [(11,(.tup (.call 3 f_pat_Pattern_Match) (.cons (.v 12) (.cons (.tup (.build [(.int .i64 0),(.str []),.nils] [(0,1),(1,1),(2,1)]) (.cons (.c (.int .i64 1)) (.cons (.c (.str [112])) (.cons (.tup (.call 0 f_law11_two) (.cons (.c (.int .i64 1)) (.cons (.c (.int .i64 2)) .nil))) .nil)))) (.cons (.c .nils) .nil)))))],
  .sets [(3,(.un (.ext 0) (.v 11))),(4,(.un (.ext 1) (.v 11)))]])
 (.seq (.st [.eff (some 14) none (.load (some 2) (.v 2)),
  .sets [(13,(.tup (.call 3 f_pat_Pattern_Match) (.cons (.v 14) (.cons (.tup (.build [(.int .i64 0),(.str []),.nils] [(0,1),(1,1),(2,1)]) (.cons (.c (.int .i64 1)) (.cons (.c (.str [112])) (.cons (.tup (.call 0 f_law11_two) (.cons (.c (.int .i64 1)) (.cons (.c (.int .i64 5)) .nil))) .nil)))) (.cons (.c .nils) .nil)))))],
  .sets [(5,(.un (.ext 0) (.v 13))),(6,(.un (.ext 1) (.v 13)))]])
 (.seq (.st [.sets [(15,(.pick (.pick (.pick (.pick (.pick (.bi (.eqs 1 false) (.un (.ext 1) (.v 10)) (.c .nili)) (.v 4) (.c (.bool false))) (.un .not (.v 6)) (.c (.bool false))) (.bi (.bin .eql) (.un .len (.v 3)) (.c (.int .i64 1))) (.c (.bool false))) (.bi (.bin .eql) (.un (.ld none) (.un (.off 0) (.bi (.idx 4) (.v 3) (.c (.int .i64 0))))) (.c (.str [120]))) (.c (.bool false))) (.bi (.bin .eql) (.un (.ld none) (.un (.off 1) (.un (.off 1) (.bi (.idx 4) (.v 3) (.c (.int .i64 0)))))) (.c (.int .i64 1))) (.c (.bool false)))),(17,(.gd true (.pick (.pick (.pick (.pick (.pick (.bi (.eqs 1 false) (.un (.ext 1) (.v 10)) (.c .nili)) (.v 4) (.c (.bool false))) (.un .not (.v 6)) (.c (.bool false))) (.bi (.bin .eql) (.un .len (.v 3)) (.c (.int .i64 1))) (.c (.bool false))) (.bi (.bin .eql) (.un (.ld none) (.un (.off 0) (.bi (.idx 4) (.v 3) (.c (.int .i64 0))))) (.c (.str [120]))) (.c (.bool false))) (.bi (.bin .eql) (.un (.ld none) (.un (.off 1) (.un (.off 1) (.bi (.idx 4) (.v 3) (.c (.int .i64 0)))))) (.c (.int .i64 1))) (.c (.bool false))) (.v 1)))],
  .eff (some 16) (some ((.v 15),true)) (.load (some 2) (.v 2)),
  .sets [(18,(.gd true (.v 15) (.tup (.call 0 f_sexp_Text) (.cons (.tup (.call 0 f_pat_Node) (.cons (.v 16) (.cons (.v 17) .nil))) .nil))))],
  .eff (some 19) (some ((.pick (.v 15) (.bi (.bin .eql) (.v 18) (.c (.str [40,112,32,40,97,32,63,120,41,32,40,98,32,126,53,41,41]))) (.c (.bool false))),true)) (.load (some 2) (.v 2)),
  .sets [(20,(.pick (.pick (.v 15) (.bi (.bin .eql) (.v 18) (.c (.str [40,112,32,40,97,32,63,120,41,32,40,98,32,126,53,41,41]))) (.c (.bool false))) (.bi (.bin .eql) (.un .len (.tup (.call 0 f_pat_Pattern_Vars) (.cons (.v 19) .nil))) (.c (.int .i64 1))) (.c (.bool false))))],
  .eff (some 21) (some ((.v 20),true)) (.load (some 2) (.v 2)),
  .sets [(22,(.gd true (.v 20) (.tup (.call 0 f_pat_Pattern_Alone) (.cons (.v 21) (.cons (.tup (.build [(.int .i64 0),(.str []),.nils] [(1,1),(2,1)]) (.cons (.c (.str [112])) (.cons (.tup (.call 0 f_law11_two) (.cons (.c (.int .i64 1)) (.cons (.c (.int .i64 2)) .nil))) .nil))) .nil)))))],
  .eff (some 23) (some ((.pick (.v 20) (.v 22) (.c (.bool false))),true)) (.load (some 2) (.v 2)),
  .eff (some 24) (some ((.pick (.v 20) (.v 22) (.c (.bool false))),true)) (.load (some 2) (.v 2))])
 (.ret [.e (.pick (.pick (.v 20) (.v 22) (.c (.bool false))) (.tup (.call 0 f_pat_Same) (.cons (.v 23) (.cons (.v 24) .nil))) (.c (.bool false)))]))))))))⟩
noncomputable def r7:ERow:=⟨Tryz.f7,⟨[(6,(.cons 1 0 (.cons 2 1 (.cons 0 2 (.cons 2 3 (.cons 0 4 (.cons 0 5 (.cons 0 6 (.cons 0 7 (.cons 0 8 .nil)))))))))),(7,(.cons 1 0 (.cons 2 1 (.cons 0 2 (.cons 2 3 (.cons 0 4 (.cons 0 5 (.cons 0 6 (.cons 0 7 (.cons 0 8 .nil)))))))))),(8,(.cons 0 0 (.cons 0 1 (.cons 0 2 (.cons 0 3 (.cons 0 4 (.cons 0 5 (.cons 0 6 (.cons 0 7 (.cons 0 8 (.cons 0 9 (.cons 0 10 (.cons 0 11 (.cons 0 12 (.cons 0 13 (.cons 0 14 (.cons 0 15 (.cons 0 16 (.cons 0 17 (.cons 1 18 (.cons 0 19 (.cons 0 20 (.cons 0 21 (.cons 0 22 (.cons 0 23 (.cons 0 24 (.cons 0 25 (.cons 1 26 (.cons 0 27 (.cons 0 28 (.cons 0 29 (.cons 0 31 (.cons 1 30 (.cons 2 32 (.cons 2 33 (.cons 0 34 (.cons 0 35 (.cons 0 36 (.cons 1 37 (.cons 2 38 (.cons 0 39 (.cons 0 40 (.cons 0 41 (.cons 0 42 (.cons 1 43 (.cons 2 44 (.cons 0 45 (.cons 2 46 (.cons 0 47 (.cons 0 48 (.cons 1 49 (.cons 1 50 (.cons 2 51 (.cons 0 52 (.cons 0 53 .nil)))))))))))))))))))))))))))))))))))))))))))))))))))))))],[],[],[],[],[]⟩,⟨100,[1,3,4,6,7,8,9,10,11,12,25,33,34,40,41,76,77,78,80,84,89,90,93,96,97],[28,65,73],[80,93,10,25,33,40]⟩,0,e_law11_known⟩
def b_ref5_Read_0:EC :=
 (.seq (.seq (.st [.eff (some 10) none (.load none (.un (.off 1) (.un .nilchk (.v 4))))])
 (.cond (.bi (.bin .lss) (.v 10) (.un .len (.v 2)))
 (.skip)
 (.exit 0)))
 (.block 1 (.seq (.st [.eff (some 11) none (.calls [true,true,true,true,true,true,true,true,true,true,true,true,true,true,true,true] f_ref5_reader_node (.cons (.v 4) (.cons (.c (.int .i64 0)) .nil))),
  .eff (some 6) none (.zbox [(.int .i64 0),(.int .i64 0),(.int .i64 0),(.str []),.nils] T_ref5_Read_0),
  .eff (some 7) none (.zbox [.nils,(.int .i64 0)] T_ref5_Read_1),
  .eff none none (.store 5 (.v 6) (.un (.ext 0) (.v 11))),
  .eff none none (.store 2 (.v 7) (.un (.ext 1) (.v 11)))])
 (.seq (.seq (.st [.eff (some 12) none (.load none (.un (.off 1) (.v 7)))])
 (.cond (.bi (.bin .neq) (.v 12) (.c (.int .i64 0)))
  (.seq (.st [.eff (some 13) none (.load (some 2) (.v 7)),
   .eff none none (.store 2 (.v 1) (.v 13))])
  (.ret [.e (.c .nils),.cell (.v 1) (some 2)]))
  (.skip)))
 (.st [.eff (some 14) none (.load (some 5) (.v 6)),
  .eff (some 15) none (.append 5 64 T_ref5_Read_0 (.v 5) (.tup (.bslice 5 [(.int .i64 0),(.int .i64 0),(.int .i64 0),(.str []),.nils] 1 [0]) (.cons (.v 14) .nil))),
  .sets [(5,(.v 15))]])))))
def e_ref5_Read:EFunc:=⟨1,16,
 (.seq (.st [.eff (some 1) none (.zbox [.nils,(.int .i64 0)] T_ref5_Read_1)])
 (.seq (.st [.sets [(8,(.tup (.call 0 f_ref4_Scan) (.cons (.v 0) .nil)))],
  .sets [(2,(.un (.ext 0) (.v 8))),(3,(.un (.ext 1) (.v 8)))]])
 (.seq (.cond (.bi (.bin .neq) (.un (.ext 2) (.v 8)) (.c (.int .i64 0)))
 (.seq (.st [.eff none none (.store 2 (.v 1) (.tup (.call 0 f_ref5_At) (.cons (.c (.str [99,104,97,114])) (.cons (.v 3) (.cons (.un (.ext 2) (.v 8)) .nil)))))])
 (.ret [.e (.c .nils),.cell (.v 1) (some 2)]))
 (.skip))
 (.seq (.st [.eff (some 9) none (.box 3 T_ref5_Read_2 (.tup (.build [.nils,(.int .i64 0),(.int .i64 0)] [(0,1)]) (.cons (.v 2) .nil))),
  .sets [(4,(.v 9))]])
 (.seq (.st [.sets [(5,(.c .nils))]])
 (.seq (.block 0 (.loop [false,true,true,false,true,true,false,false,false,false,false,false,false,false,false,false] b_ref5_Read_0))
 (.seq (.st [.eff none none (.store 2 (.v 1) (.tup (.build [.nils,(.int .i64 0)] []) .nil))])
 (.ret [.e (.v 5),.cell (.v 1) (some 2)]))))))))⟩
noncomputable def r10:ERow:=⟨Tryz.f10,⟨[(9,(.cons 0 1 (.cons 1 0 (.cons 3 2 .nil))))],[(0,[false,false,false,true,true,false,false,true,true])],[],[],[],[]⟩,⟨47,[0,3,4,5,7,8,9,10,11,24,28,34,38,40,42,44],[],[11]⟩,1,e_ref5_Read⟩
def b_ref11_Parse_0:EC :=
 (.seq (.seq (.st [.eff (some 23) none (.load none (.un (.off 1) (.v 7)))])
 (.cond (.bi (.bin .lss) (.v 13) (.un .len (.v 23)))
 (.skip)
 (.exit 3)))
 (.seq (.block 4 (.seq (.st [.eff (some 24) none (.load none (.un (.off 1) (.v 7))),
  .eff (some 25) none (.load none (.un (.off 0) (.v 11)))])
 (.cond (.bi (.bin .eql) (.un (.ld none) (.un (.off 0) (.bi (.idx 6) (.v 24) (.v 13)))) (.v 25))
  (.st [.sets [(10,(.c (.int .i64 6)))]])
  (.skip))))
 (.st [.sets [(13,(.bi (.bin .add) (.v 13) (.c (.int .i64 1))))]])))
def b_ref11_Parse_1:EC :=
 (.seq (.seq (.st [.eff (some 17) none (.load none (.un (.off 4) (.v 2)))])
 (.cond (.bi (.bin .lss) (.v 8) (.un .len (.v 17)))
 (.skip)
 (.exit 0)))
 (.seq (.block 1 (.seq (.st [.eff (some 18) none (.load none (.un (.off 4) (.v 2))),
  .eff (some 9) none (.zbox [(.int .i64 0),(.int .i64 0),(.int .i64 0),(.str []),.nils] T_ref11_Parse_1),
  .eff none none (.store 5 (.v 9) (.un (.ld (some 5)) (.bi (.idx 5) (.v 18) (.v 8))))])
 (.seq (.st [.sets [(10,(.c (.int .i64 0)))]])
 (.seq (.st [.eff (some 11) none (.zbox [(.int .i64 0),(.bool false),(.str []),(.int .i64 0),(.int .i64 0),(.str [])] T_ref11_Parse_0)])
 (.seq (.block 2 (.seq (.st [.eff (some 26) none (.load (some 5) (.v 9)),
   .sets [(27,(.tup (.call 0 f_ref5_Head) (.cons (.v 26) .nil)))],
   .eff (some 28) (some ((.bi (.bin .eql) (.v 27) (.c (.str []))),false)) (.load none (.un (.off 4) (.v 9)))])
  (.cond (.pick (.bi (.bin .eql) (.v 27) (.c (.str []))) (.c (.bool true)) (.bi (.bin .neq) (.un .len (.v 28)) (.c (.int .i64 2))))
  (.st [.sets [(10,(.c (.int .i64 2)))]])
  (.seq (.st [.eff (some 29) none (.load (some 5) (.v 9))])
  (.cond (.bi (.bin .lss) (.tup (.call 0 f_ref9_Template_Slot) (.cons (.un (.ld (some 2)) (.bi (.idx 2) (.v 1) (.v 6))) (.cons (.tup (.call 0 f_ref5_Head) (.cons (.v 29) .nil)) .nil))) (.c (.int .i64 0)))
   (.st [.sets [(10,(.c (.int .i64 5)))]])
   (.seq (.st [.eff (some 20) none (.load none (.un (.off 4) (.v 9))),
    .sets [(19,(.tup (.call 0 f_ref11_term) (.cons (.un (.ld (some 5)) (.bi (.idx 5) (.v 20) (.c (.int .i64 1)))) .nil)))],
    .eff (some 12) none (.zbox [(.int .i64 0),(.bool false),(.str []),(.int .i64 0),(.int .i64 0),(.str [])] T_ref11_Parse_0),
    .eff none none (.store 6 (.v 12) (.un (.ext 0) (.v 19)))])
   (.seq (.st [.eff (some 21) none (.load (some 6) (.v 12)),
    .eff none none (.store 6 (.v 11) (.v 21))])
   (.seq (.st [.eff (some 22) none (.load (some 5) (.v 9)),
    .eff none none (.store 1 (.un (.off 0) (.v 11)) (.tup (.call 0 f_ref9_Template_Slot) (.cons (.un (.ld (some 2)) (.bi (.idx 2) (.v 1) (.v 6))) (.cons (.tup (.call 0 f_ref5_Head) (.cons (.v 22) .nil)) .nil))))])
   (.seq (.cond (.un .not (.un (.ext 1) (.v 19)))
   (.st [.sets [(10,(.c (.int .i64 2)))]])
   (.skip))
   (.seq (.st [.sets [(13,(.c (.int .i64 0)))]])
   (.block 3 (.loop [false,true,true,true,true,false,true,true,true,true,true,true,false,true,false,false,false,false,false,false,false,false,false,false,false,false,false,false,false,false,false,false,false,false,false] b_ref11_Parse_0))))))))))))
 (.seq (.cond (.bi (.bin .neq) (.v 10) (.c (.int .i64 0)))
  (.seq (.st [.eff (some 30) none (.load none (.un (.off 1) (.v 9))),
   .eff none none (.store 2 (.v 3) (.tup (.build [(.str []),.nils] []) .nil)),
   .eff none none (.store 2 (.v 4) (.tup (.call 0 f_ref5_At) (.cons (.c (.str [99,104,97,114])) (.cons (.v 30) (.cons (.v 10) .nil)))))])
  (.ret [.cell (.v 3) (some 2),.cell (.v 4) (some 2)]))
  (.skip))
 (.st [.eff (some 31) none (.load none (.un (.off 1) (.v 7))),
  .eff (some 32) none (.load (some 6) (.v 11)),
  .eff (some 33) none (.append 6 64 T_ref11_Parse_0 (.v 31) (.tup (.bslice 6 [(.int .i64 0),(.bool false),(.str []),(.int .i64 0),(.int .i64 0),(.str [])] 1 [0]) (.cons (.v 32) .nil))),
  .eff none none (.store 1 (.un (.off 1) (.v 7)) (.v 33))])))))))
 (.st [.sets [(8,(.bi (.bin .add) (.v 8) (.c (.int .i64 1))))]])))
def e_ref11_Parse:EFunc:=⟨2,35,
 (.seq (.st [.eff (some 2) none (.box 5 T_ref11_Parse_1 (.v 0)),
  .eff (some 3) none (.zbox [(.str []),.nils] T_ref11_Parse_2),
  .eff (some 4) none (.zbox [.nils,(.int .i64 0)] T_ref11_Parse_3)])
 (.seq (.st [.eff (some 14) none (.load (some 5) (.v 2)),
  .sets [(5,(.tup (.call 0 f_ref5_Head) (.cons (.v 14) .nil)))]])
 (.seq (.cond (.bi (.bin .eql) (.v 5) (.c (.str [])))
 (.seq (.st [.eff (some 15) none (.load none (.un (.off 1) (.v 2))),
  .eff none none (.store 2 (.v 3) (.tup (.build [(.str []),.nils] []) .nil)),
  .eff none none (.store 2 (.v 4) (.tup (.call 0 f_ref5_At) (.cons (.c (.str [99,104,97,114])) (.cons (.v 15) (.cons (.c (.int .i64 2)) .nil)))))])
 (.ret [.cell (.v 3) (some 2),.cell (.v 4) (some 2)]))
 (.skip))
 (.seq (.st [.sets [(6,(.tup (.call 0 f_ref9_Find) (.cons (.v 1) (.cons (.v 5) .nil))))]])
 (.seq (.cond (.bi (.bin .lss) (.v 6) (.c (.int .i64 0)))
 (.seq (.st [.eff (some 16) none (.load none (.un (.off 1) (.v 2))),
  .eff none none (.store 2 (.v 3) (.tup (.build [(.str []),.nils] []) .nil)),
  .eff none none (.store 2 (.v 4) (.tup (.call 0 f_ref5_At) (.cons (.c (.str [99,104,97,114])) (.cons (.v 16) (.cons (.c (.int .i64 5)) .nil)))))])
 (.ret [.cell (.v 3) (some 2),.cell (.v 4) (some 2)]))
 (.skip))
 (.seq (.st [.eff (some 7) none (.zbox [(.str []),.nils] T_ref11_Parse_2),
  .eff none none (.store 2 (.v 7) (.tup (.build [(.str []),.nils] [(0,1)]) (.cons (.v 5) .nil)))])
 (.seq (.seq (.st [.sets [(8,(.c (.int .i64 1)))]])
 (.block 0 (.loop [false,true,true,true,true,false,true,true,true,false,false,false,false,false,false,false,false,false,false,false,false,false,false,false,false,false,false,false,false,false,false,false,false,false,false] b_ref11_Parse_1)))
 (.seq (.st [.eff (some 34) none (.load (some 2) (.v 7)),
  .eff none none (.store 2 (.v 3) (.v 34)),
  .eff none none (.store 2 (.v 4) (.tup (.build [.nils,(.int .i64 0)] []) .nil))])
 (.ret [.cell (.v 3) (some 2),.cell (.v 4) (some 2)])))))))))⟩
noncomputable def r11:ERow:=⟨Tryz.f11,⟨[(26,(.cons 0 0 (.cons 0 1 (.cons 0 2 (.cons 1 3 (.cons 1 4 (.cons 2 5 (.cons 2 6 (.cons 0 7 (.cons 0 8 .nil)))))))))),(16,(.cons 0 0 (.cons 0 1 (.cons 0 2 (.cons 1 3 (.cons 1 4 (.cons 2 5 (.cons 2 6 (.cons 0 7 (.cons 3 8 .nil)))))))))),(22,(.cons 0 0 (.cons 0 2 (.cons 0 6 (.cons 1 1 (.cons 0 3 (.cons 0 4 (.cons 1 5 (.cons 1 7 (.cons 0 8 .nil))))))))))],[(0,[false,true,true,false,true,true,false,true,true,true]),(3,[false,true,true,false,true,true,false,true,true,true,true,true,true,false,false,true])],[],[],[],[]⟩,⟨116,[0,1,2,4,5,6,7,8,9,10,11,12,13,15,16,22,31,37,43,47,49,55,60,68,74,80,83,84,88,97,105,109,110,112,114],[46,96,51,59,78],[84,47]⟩,2,e_ref11_Parse⟩
def e_law11_Two:EFunc:=⟨0,4,
 (.seq (.st [.eff (some 0) none (.zbox [(.int .i64 0),(.int .i64 0),(.str [])] T_law11_Two_0),
  .eff none none (.store 3 (.v 0) (.tup (.call 0 f_ref3_Sym) (.cons (.c (.str [110,105,108])) .nil)))])
 (.seq (.st [.eff (some 1) none (.load (some 3) (.v 0)),
  .eff (some 2) none (.load (some 3) (.v 0)),
  .eff (some 3) none (.load (some 3) (.v 0))])
 (.ret [.e (.tup (.bslice 2 [(.str []),.nils] 2 [0,1]) (.cons (.tup (.build [(.str []),.nils] [(0,1),(1,1)]) (.cons (.c (.str [112])) (.cons (.tup (.bslice 4 [(.str []),(.int .i64 0),(.int .i64 0),(.str [])] 2 [0,1]) (.cons (.tup (.build [(.str []),(.int .i64 0),(.int .i64 0),(.str [])] [(0,1),(1,3)]) (.cons (.c (.str [97])) (.cons (.v 1) .nil))) (.cons (.tup (.build [(.str []),(.int .i64 0),(.int .i64 0),(.str [])] [(0,1),(1,3)]) (.cons (.c (.str [98])) (.cons (.v 2) .nil))) .nil))) .nil))) (.cons (.tup (.build [(.str []),.nils] [(0,1),(1,1)]) (.cons (.c (.str [113])) (.cons (.tup (.bslice 4 [(.str []),(.int .i64 0),(.int .i64 0),(.str [])] 1 [0]) (.cons (.tup (.build [(.str []),(.int .i64 0),(.int .i64 0),(.str [])] [(0,1),(1,3)]) (.cons (.c (.str [97])) (.cons (.v 3) .nil))) .nil)) .nil))) .nil)))])))⟩
noncomputable def r12:ERow:=⟨Tryz.f12,⟨[],[],[],[],[],[]⟩,⟨14,[1,3,5,9],[],[]⟩,0,e_law11_Two⟩
def b_pat_Pattern_Match_0:EC :=
 (.seq (.cond (.bi (.bin .lss) (.v 15) (.v 14))
 (.skip)
 (.exit 0))
 (.seq (.block 1 (.seq (.st [.eff (some 6) none (.zbox [(.int .i64 0),(.bool false),(.str []),(.int .i64 0),(.int .i64 0),(.str [])] T_pat_Pattern_Match_1),
  .eff none none (.store 6 (.v 6) (.un (.ld (some 6)) (.bi (.idx 6) (.v 13) (.v 15))))])
 (.seq (.st [.eff (some 17) none (.load (some 3) (.v 4)),
  .eff (some 18) none (.load none (.un (.off 0) (.v 6))),
  .sets [(16,(.tup (.call 0 f_pat_at) (.cons (.v 17) (.cons (.v 18) .nil))))],
  .eff (some 7) none (.zbox [(.int .i64 0),(.int .i64 0),(.str [])] T_pat_Pattern_Match_2),
  .eff none none (.store 3 (.v 7) (.un (.ext 0) (.v 16)))])
 (.seq (.cond (.un .not (.un (.ext 1) (.v 16)))
  (.ret [.e (.c .nils),.e (.c (.bool false))])
  (.skip))
 (.seq (.st [.eff (some 19) none (.load (some 3) (.un (.off 3) (.v 6))),
  .eff (some 8) none (.zbox [(.int .i64 0),(.int .i64 0),(.str [])] T_pat_Pattern_Match_2),
  .eff none none (.store 3 (.v 8) (.v 19)),
  .sets [(9,(.c (.bool true)))]])
 (.seq (.seq (.st [.eff (some 20) none (.load none (.un (.off 2) (.v 6)))])
 (.cond (.bi (.bin .neq) (.v 20) (.c (.str [])))
  (.st [.eff (some 22) none (.load none (.un (.off 2) (.v 6))),
   .sets [(21,(.tup (.call 0 f_eval_Get) (.cons (.v 5) (.cons (.v 22) .nil))))],
   .eff none none (.store 3 (.v 8) (.un (.ext 0) (.v 21))),
   .sets [(9,(.un (.ext 1) (.v 21)))]])
  (.skip)))
 (.block 2 (.cond (.v 9)
  (.seq (.st [.eff (some 26) none (.load (some 3) (.v 7)),
   .eff (some 27) none (.load (some 3) (.v 8)),
   .eff (some 28) none (.load none (.un (.off 1) (.v 6)))])
  (.cond (.bi (.eqs 0 false) (.tup (.call 0 f_val_Same) (.cons (.v 26) (.cons (.v 27) .nil))) (.v 28))
   (.ret [.e (.c .nils),.e (.c (.bool false))])
   (.skip)))
  (.seq (.st [.eff (some 29) none (.load none (.un (.off 1) (.v 6)))])
  (.cond (.v 29)
   (.ret [.e (.c .nils),.e (.c (.bool false))])
   (.st [.eff (some 23) none (.load none (.un (.off 2) (.v 6))),
    .eff (some 24) none (.load (some 3) (.v 7)),
    .eff (some 25) none (.append 4 48 T_pat_Pattern_Match_0 (.v 5) (.tup (.bslice 4 [(.str []),(.int .i64 0),(.int .i64 0),(.str [])] 1 [0]) (.cons (.tup (.build [(.str []),(.int .i64 0),(.int .i64 0),(.str [])] [(0,1),(1,3)]) (.cons (.v 23) (.cons (.v 24) .nil))) .nil))),
    .sets [(5,(.v 25))]])))))))))))
 (.st [.sets [(15,(.bi (.bin .add) (.v 15) (.c (.int .i64 1))))]])))
def e_pat_Pattern_Match:EFunc:=⟨3,30,
 (.seq (.st [.eff (some 3) none (.box 2 T_pat_Pattern_Match_3 (.v 0)),
  .eff (some 4) none (.box 3 T_pat_Pattern_Match_4 (.v 1))])
 (.seq (.seq (.st [.eff (some 10) none (.load none (.un (.off 1) (.v 4))),
  .eff (some 11) none (.load none (.un (.off 0) (.v 3)))])
 (.cond (.bi (.bin .neq) (.v 10) (.v 11))
 (.ret [.e (.c .nils),.e (.c (.bool false))])
 (.skip)))
 (.seq (.st [.eff (some 12) none (.callo f_slices_Clone_eval_Bind_eval_Bind (.cons (.v 2) .nil)),
  .sets [(5,(.v 12))]])
 (.seq (.seq (.st [.eff (some 13) none (.load none (.un (.off 1) (.v 3))),
  .sets [(14,(.un .len (.v 13))),(15,(.c (.int .i64 0)))]])
 (.block 0 (.loop [false,false,false,false,true,true,false,false,false,false,false,false,false,true,true,true,false,false,false,false,false,false,false,false,false,false,false,false,false,false] b_pat_Pattern_Match_0)))
 (.ret [.e (.tup (.call 1 f_slices_Clip_eval_Bind_eval_Bind) (.cons (.v 5) .nil)),.e (.c (.bool true))])))))⟩
noncomputable def r15:ERow:=⟨Tryz.f15,⟨[(15,(.cons 0 3 (.cons 1 0 (.cons 1 1 (.cons 1 4 (.cons 2 2 (.cons 0 5 .nil)))))))],[(0,[false,false,false,false,true,false,false,false,true,false,false,false,false,false,false,false,false,false,false,false,false,false,false,true,true,true])],[],[],[],[]⟩,⟨71,[0,1,2,3,4,8,10,11,13,14,16,18,21,23,24,25,29,30,32,39,41,43,46,52,53,56,59,60,63,67],[28],[29,43]⟩,3,e_pat_Pattern_Match⟩
def b_pat_Pattern_Alone_0:EC :=
 (.seq (.cond (.bi (.bin .lss) (.v 10) (.v 9))
 (.skip)
 (.exit 0))
 (.seq (.block 1 (.seq (.st [.eff (some 4) none (.zbox [(.int .i64 0),(.bool false),(.str []),(.int .i64 0),(.int .i64 0),(.str [])] T_pat_Pattern_Alone_0),
  .eff none none (.store 6 (.v 4) (.un (.ld (some 6)) (.bi (.idx 6) (.v 8) (.v 10))))])
 (.seq (.st [.eff (some 12) none (.load (some 3) (.v 3)),
  .eff (some 13) none (.load none (.un (.off 0) (.v 4))),
  .sets [(11,(.tup (.call 0 f_pat_at) (.cons (.v 12) (.cons (.v 13) .nil))))],
  .eff (some 5) none (.zbox [(.int .i64 0),(.int .i64 0),(.str [])] T_pat_Pattern_Alone_1),
  .eff none none (.store 3 (.v 5) (.un (.ext 0) (.v 11)))])
 (.seq (.st [.eff (some 14) (some ((.un .not (.un (.ext 1) (.v 11))),false)) (.load none (.un (.off 2) (.v 4))),
  .sets [(15,(.gd false (.un .not (.un (.ext 1) (.v 11))) (.bi (.bin .eql) (.v 14) (.c (.str []))))),(17,(.gd false (.un .not (.un (.ext 1) (.v 11))) (.gd true (.bi (.bin .eql) (.v 14) (.c (.str []))) (.un (.off 3) (.v 4))))),(20,(.gd false (.un .not (.un (.ext 1) (.v 11))) (.gd true (.bi (.bin .eql) (.v 14) (.c (.str []))) (.un (.off 1) (.v 4)))))],
  .eff (some 16) (some ((.v 15),true)) (.load (some 3) (.v 5)),
  .eff (some 18) (some ((.v 15),true)) (.load (some 3) (.v 17)),
  .eff (some 21) (some ((.v 15),true)) (.load none (.v 20)),
  .sets [(19,(.gd true (.v 15) (.tup (.call 0 f_val_Same) (.cons (.v 16) (.cons (.v 18) .nil)))))],
  .sets [(22,(.gd true (.v 15) (.bi (.eqs 0 false) (.v 19) (.v 21))))]])
 (.cond (.pick (.un .not (.un (.ext 1) (.v 11))) (.c (.bool true)) (.pick (.v 15) (.bi (.eqs 0 false) (.v 19) (.v 21)) (.c (.bool false))))
  (.ret [.e (.c (.bool false))])
  (.skip))))))
 (.st [.sets [(10,(.bi (.bin .add) (.v 10) (.c (.int .i64 1))))]])))
def e_pat_Pattern_Alone:EFunc:=⟨2,23,
 (.seq (.st [.eff (some 2) none (.box 2 T_pat_Pattern_Alone_2 (.v 0)),
  .eff (some 3) none (.box 3 T_pat_Pattern_Alone_3 (.v 1))])
 (.seq (.seq (.st [.eff (some 6) none (.load none (.un (.off 1) (.v 3))),
  .eff (some 7) none (.load none (.un (.off 0) (.v 2)))])
 (.cond (.bi (.bin .neq) (.v 6) (.v 7))
 (.ret [.e (.c (.bool false))])
 (.skip)))
 (.seq (.seq (.st [.eff (some 8) none (.load none (.un (.off 1) (.v 2))),
  .sets [(9,(.un .len (.v 8))),(10,(.c (.int .i64 0)))]])
 (.block 0 (.loop [false,false,false,true,false,false,false,false,true,true,true,false,false,false,false,false,false,false,false,false,false,false,false] b_pat_Pattern_Alone_0)))
 (.ret [.e (.c (.bool true))]))))⟩
noncomputable def r19:ERow:=⟨Tryz.f19,⟨[(7,(.cons 0 0 (.cons 0 1 (.cons 0 2 (.cons 0 3 (.cons 1 4 (.cons 0 5 (.cons 0 6 (.cons 0 8 (.cons 0 11 (.cons 1 7 (.cons 1 9 (.cons 1 12 (.cons 2 10 (.cons 0 13 (.cons 0 14 (.cons 0 15 .nil)))))))))))))))))],[(0,[false,false,false,true,false,false,false,false,false,false,false,false,false,false,false,true,true,true])],[],[],[],[]⟩,⟨45,[0,1,2,3,6,7,10,12,15,16,17,21,22,24,32,34,35,36,37,38,39,40,41],[20],[38,21]⟩,2,e_pat_Pattern_Alone⟩
def e_law11_two:EFunc:=⟨2,2,
 (.ret [.e (.tup (.bslice 3 [(.int .i64 0),(.int .i64 0),(.str [])] 2 [0,1]) (.cons (.tup (.call 0 f_ref3_Int) (.cons (.v 0) .nil)) (.cons (.tup (.call 0 f_ref3_Int) (.cons (.v 1) .nil)) .nil)))])⟩
noncomputable def r21:ERow:=⟨Tryz.f21,⟨[],[],[],[],[],[]⟩,⟨10,[0,1],[],[]⟩,2,e_law11_two⟩
def b_pat_Pattern_Vars_0:EC :=
 (.seq (.cond (.bi (.bin .lss) (.v 6) (.v 5))
 (.skip)
 (.exit 0))
 (.seq (.block 1 (.seq (.st [.eff (some 3) none (.zbox [(.int .i64 0),(.bool false),(.str []),(.int .i64 0),(.int .i64 0),(.str [])] T_pat_Pattern_Vars_1),
  .eff none none (.store 6 (.v 3) (.un (.ld (some 6)) (.bi (.idx 6) (.v 4) (.v 6))))])
 (.seq (.st [.eff (some 7) none (.load none (.un (.off 2) (.v 3))),
  .eff (some 8) (some ((.bi (.bin .neq) (.v 7) (.c (.str []))),true)) (.load none (.un (.off 1) (.v 3))),
  .eff (some 9) (some ((.pick (.bi (.bin .neq) (.v 7) (.c (.str []))) (.un .not (.v 8)) (.c (.bool false))),true)) (.load none (.un (.off 2) (.v 3)))])
 (.cond (.pick (.pick (.bi (.bin .neq) (.v 7) (.c (.str []))) (.un .not (.v 8)) (.c (.bool false))) (.un .not (.tup (.call 0 f_slices_Contains_string_string) (.cons (.v 2) (.cons (.v 9) .nil)))) (.c (.bool false)))
  (.st [.eff (some 10) none (.load none (.un (.off 2) (.v 3))),
   .eff (some 11) none (.append 1 16 T_pat_Pattern_Vars_0 (.v 2) (.tup (.bslice 1 [(.str [])] 1 [0]) (.cons (.v 10) .nil))),
   .sets [(2,(.v 11))]])
  (.skip)))))
 (.st [.sets [(6,(.bi (.bin .add) (.v 6) (.c (.int .i64 1))))]])))
def e_pat_Pattern_Vars:EFunc:=⟨1,12,
 (.seq (.st [.eff (some 1) none (.box 2 T_pat_Pattern_Vars_2 (.v 0))])
 (.seq (.st [.sets [(2,(.c .nils))]])
 (.seq (.seq (.st [.eff (some 4) none (.load none (.un (.off 1) (.v 1))),
  .sets [(5,(.un .len (.v 4))),(6,(.c (.int .i64 0)))]])
 (.block 0 (.loop [false,false,true,false,true,true,true,false,false,false,false,false] b_pat_Pattern_Vars_0)))
 (.ret [.e (.tup (.call 1 f_slices_Clip_string_string) (.cons (.v 2) .nil))]))))⟩
noncomputable def r22:ERow:=⟨Tryz.f22,⟨[],[(0,[false,false,false,true,false,false,false,true,true,true])],[],[],[],[]⟩,⟨36,[0,1,3,5,7,8,9,14,18,24,30,32],[12],[]⟩,1,e_pat_Pattern_Vars⟩
def b_law9_All_0:EC :=
 (.seq (.cond (.bi (.bin .lss) (.v 2) (.un .len (.v 0)))
 (.skip)
 (.exit 0))
 (.seq (.block 1 (.st [.eff (some 3) none (.append 2 40 T_law9_All_0 (.v 1) (.tup (.bslice 2 [(.str []),.nils] 1 [0]) (.cons (.tup (.call 0 f_law9_To) (.cons (.un (.ld (some 2)) (.bi (.idx 2) (.v 0) (.v 2))) .nil)) .nil))),
  .sets [(1,(.v 3))]]))
 (.st [.sets [(2,(.bi (.bin .add) (.v 2) (.c (.int .i64 1))))]])))
def e_law9_All:EFunc:=⟨1,4,
 (.seq (.st [.sets [(1,(.c .nils))]])
 (.seq (.seq (.st [.sets [(2,(.c (.int .i64 0)))]])
 (.block 0 (.loop [true,true,true,false] b_law9_All_0)))
 (.ret [.e (.v 1)])))⟩
noncomputable def r23:ERow:=⟨Tryz.f23,⟨[],[(0,[true,false,false,true,true])],[],[],[],[]⟩,⟨20,[0,3,4,18],[15],[]⟩,1,e_law9_All⟩
def b_pat_Parse_0:EC :=
 (.seq (.cond (.bi (.bin .lss) (.v 17) (.v 16))
 (.skip)
 (.exit 0))
 (.seq (.block 1 (.seq (.st [.eff (some 7) none (.zbox [(.int .i64 0),(.int .i64 0),(.int .i64 0),(.str []),.nils] T_pat_Parse_1),
  .eff none none (.store 5 (.v 7) (.un (.ld (some 5)) (.bi (.idx 5) (.v 15) (.v 17))))])
 (.seq (.seq (.st [.eff (some 18) none (.load (some 5) (.v 7)),
  .sets [(19,(.tup (.call 0 f_sexp_Head) (.cons (.v 18) .nil)))],
  .eff (some 20) (some ((.bi (.bin .eql) (.v 19) (.c (.str []))),false)) (.load none (.un (.off 4) (.v 7)))])
 (.cond (.pick (.bi (.bin .eql) (.v 19) (.c (.str []))) (.c (.bool true)) (.bi (.bin .neq) (.un .len (.v 20)) (.c (.int .i64 2))))
  (.seq (.st [.eff (some 21) none (.load (some 5) (.v 7)),
   .eff none none (.store 2 (.v 3) (.tup (.build [(.str []),.nils] []) .nil))])
  (.ret [.cell (.v 3) (some 2),.e (.tup (.call 0 f_pat_fault) (.cons (.v 21) (.cons (.c (.int .i64 2)) .nil)))]))
  (.skip)))
 (.seq (.st [.eff (some 23) none (.load (some 2) (.v 5)),
  .eff (some 24) none (.load none (.un (.off 4) (.v 7))),
  .sets [(22,(.tup (.call 0 f_tmpl_Template_Slot) (.cons (.v 23) (.cons (.un (.ld none) (.un (.off 3) (.bi (.idx 5) (.v 24) (.c (.int .i64 0))))) .nil))))],
  .eff (some 8) none (.zbox [(.int .i64 0)] T_pat_Parse_2),
  .eff none none (.store 1 (.v 8) (.un (.ext 0) (.v 22)))])
 (.seq (.block 2 (.cond (.un .not (.un (.ext 1) (.v 22)))
  (.seq (.st [.eff (some 25) none (.load (some 5) (.v 7)),
   .eff none none (.store 2 (.v 3) (.tup (.build [(.str []),.nils] []) .nil))])
  (.ret [.cell (.v 3) (some 2),.e (.tup (.call 0 f_pat_fault) (.cons (.v 25) (.cons (.c (.int .i64 5)) .nil)))]))
  (.seq (.st [.eff (some 26) none (.load none (.un (.off 1) (.v 6))),
   .eff (some 27) none (.calls [false,true,true,true,true,true,true,true,true,true,true,true,true,true,true,true] f_slices_ContainsFunc_pat_Test_pat_Test (.cons (.v 26) (.cons (.tup (.mkfn f_pat_Parse_1) (.cons (.v 8) .nil)) .nil)))])
  (.cond (.v 27)
   (.seq (.st [.eff (some 28) none (.load (some 5) (.v 7)),
    .eff none none (.store 2 (.v 3) (.tup (.build [(.str []),.nils] []) .nil))])
   (.ret [.cell (.v 3) (some 2),.e (.tup (.call 0 f_pat_fault) (.cons (.v 28) (.cons (.c (.int .i64 6)) .nil)))]))
   (.skip)))))
 (.seq (.st [.eff (some 30) none (.load none (.un (.off 4) (.v 7))),
  .sets [(29,(.tup (.call 0 f_pat_term) (.cons (.un (.ld (some 5)) (.bi (.idx 5) (.v 30) (.c (.int .i64 1)))) .nil)))],
  .eff (some 9) none (.zbox [(.int .i64 0),(.bool false),(.str []),(.int .i64 0),(.int .i64 0),(.str [])] T_pat_Parse_0),
  .eff none none (.store 6 (.v 9) (.un (.ext 0) (.v 29)))])
 (.seq (.cond (.un .not (.un (.ext 1) (.v 29)))
  (.seq (.st [.eff (some 31) none (.load (some 5) (.v 7)),
   .eff none none (.store 2 (.v 3) (.tup (.build [(.str []),.nils] []) .nil))])
  (.ret [.cell (.v 3) (some 2),.e (.tup (.call 0 f_pat_fault) (.cons (.v 31) (.cons (.c (.int .i64 2)) .nil)))]))
  (.skip))
 (.seq (.st [.eff (some 32) none (.load none (.v 8)),
  .eff none none (.store 1 (.un (.off 0) (.v 9)) (.v 32))])
 (.st [.eff (some 33) none (.load none (.un (.off 1) (.v 6))),
  .eff (some 34) none (.load (some 6) (.v 9)),
  .eff (some 35) none (.append 6 64 T_pat_Parse_0 (.v 33) (.tup (.bslice 6 [(.int .i64 0),(.bool false),(.str []),(.int .i64 0),(.int .i64 0),(.str [])] 1 [0]) (.cons (.v 34) .nil))),
  .eff none none (.store 1 (.un (.off 1) (.v 6)) (.v 35))])))))))))
 (.st [.sets [(17,(.bi (.bin .add) (.v 17) (.c (.int .i64 1))))]])))
def e_pat_Parse:EFunc:=⟨2,37,
 (.seq (.st [.eff (some 2) none (.box 5 T_pat_Parse_1 (.v 0)),
  .eff (some 3) none (.zbox [(.str []),.nils] T_pat_Parse_3)])
 (.seq (.st [.eff (some 10) none (.load (some 5) (.v 2)),
  .sets [(4,(.tup (.call 0 f_sexp_Head) (.cons (.v 10) .nil)))]])
 (.seq (.cond (.bi (.bin .eql) (.v 4) (.c (.str [])))
 (.seq (.st [.eff (some 11) none (.load (some 5) (.v 2)),
  .eff none none (.store 2 (.v 3) (.tup (.build [(.str []),.nils] []) .nil))])
 (.ret [.cell (.v 3) (some 2),.e (.tup (.call 0 f_pat_fault) (.cons (.v 11) (.cons (.c (.int .i64 2)) .nil)))]))
 (.skip))
 (.seq (.st [.sets [(12,(.tup (.call 0 f_pat_find) (.cons (.v 4) (.cons (.v 1) .nil))))],
  .eff (some 5) none (.zbox [(.str []),.nils] T_pat_Parse_4),
  .eff none none (.store 2 (.v 5) (.un (.ext 0) (.v 12)))])
 (.seq (.cond (.un .not (.un (.ext 1) (.v 12)))
 (.seq (.st [.eff (some 13) none (.load (some 5) (.v 2)),
  .eff none none (.store 2 (.v 3) (.tup (.build [(.str []),.nils] []) .nil))])
 (.ret [.cell (.v 3) (some 2),.e (.tup (.call 0 f_pat_fault) (.cons (.v 13) (.cons (.c (.int .i64 5)) .nil)))]))
 (.skip))
 (.seq (.st [.eff (some 6) none (.zbox [(.str []),.nils] T_pat_Parse_3),
  .eff none none (.store 2 (.v 6) (.tup (.build [(.str []),.nils] [(0,1)]) (.cons (.v 4) .nil)))])
 (.seq (.seq (.st [.eff (some 14) none (.load none (.un (.off 4) (.v 2))),
  .sets [(15,(.lsub 5 true false false (.v 14) (.c (.int .i64 1)) (.c .undef) (.c .undef))),(16,(.un .len (.lsub 5 true false false (.v 14) (.c (.int .i64 1)) (.c .undef) (.c .undef)))),(17,(.c (.int .i64 0)))]])
 (.block 0 (.loop [false,false,false,true,false,true,true,false,false,false,false,false,false,false,false,true,true,true,false,false,false,false,false,false,false,false,false,false,false,false,false,false,false,false,false,false,false] b_pat_Parse_0)))
 (.seq (.st [.eff (some 36) none (.load (some 2) (.v 6)),
  .eff none none (.store 2 (.v 3) (.v 36))])
 (.ret [.cell (.v 3) (some 2),.e (.c .nili)])))))))))⟩
noncomputable def r24:ERow:=⟨Tryz.f24,⟨[(13,(.cons 0 1 (.cons 1 0 (.cons 1 2 (.cons 0 3 (.cons 0 4 (.cons 1 5 (.alt (.cons 2 6 (.cons 0 7 (.cons 0 8 (.cons 0 9 (.cons 2 10 (.cons 3 11 (.cons 0 12 .nil))))))) (.cons 2 10 (.cons 2 6 (.cons 0 7 (.cons 0 8 (.cons 0 9 (.cons 3 11 (.cons 0 12 .nil)))))))))))))))],[(0,[false,false,false,false,true,false,false,true,false,true,false,false,false,false,false,false,false,false,false,false,false,false,false,false,false,false,false,false,false,false,false,false,false,false,false,false,false,true,true,true])],[],[],[],[]⟩,⟨102,[0,1,2,4,6,7,9,11,12,14,15,20,22,31,36,37,38,39,43,44,48,53,55,56,58,69,73,75,77,79,81,90,92,95,96,98,101],[42,61,83],[44,22,55,79]⟩,2,e_pat_Parse⟩
def b_law5_To_0:EC :=
 (.seq (.seq (.st [.eff (some 9) none (.load none (.un (.off 4) (.v 1)))])
 (.cond (.bi (.bin .lss) (.v 4) (.un .len (.v 9)))
 (.skip)
 (.exit 0)))
 (.seq (.block 1 (.st [.eff (some 10) none (.load none (.un (.off 4) (.v 3))),
  .eff (some 11) none (.load none (.un (.off 4) (.v 1))),
  .eff (some 12) none (.append 5 64 T_law5_To_0 (.v 10) (.tup (.bslice 5 [(.int .i64 0),(.int .i64 0),(.int .i64 0),(.str []),.nils] 1 [0]) (.cons (.tup (.call 0 f_law5_To) (.cons (.un (.ld (some 5)) (.bi (.idx 5) (.v 11) (.v 4))) .nil)) .nil))),
  .eff none none (.store 1 (.un (.off 4) (.v 3)) (.v 12))]))
 (.st [.sets [(4,(.bi (.bin .add) (.v 4) (.c (.int .i64 1))))]])))
def e_law5_To:EFunc:=⟨1,14,
 (.seq (.st [.eff (some 1) none (.box 5 T_law5_To_1 (.v 0)),
  .eff (some 2) none (.zbox [(.int .i64 0),(.int .i64 0),(.int .i64 0),(.str []),.nils] T_law5_To_0)])
 (.seq (.st [.eff (some 5) none (.load none (.un (.off 0) (.v 1))),
  .eff (some 6) none (.load none (.un (.off 1) (.v 1))),
  .eff (some 7) none (.load none (.un (.off 2) (.v 1))),
  .eff (some 8) none (.load none (.un (.off 3) (.v 1))),
  .eff (some 3) none (.zbox [(.int .i64 0),(.int .i64 0),(.int .i64 0),(.str []),.nils] T_law5_To_0),
  .eff none none (.store 5 (.v 3) (.tup (.build [(.int .i64 0),(.int .i64 0),(.int .i64 0),(.str []),.nils] [(0,1),(1,1),(2,1),(3,1)]) (.cons (.v 5) (.cons (.v 6) (.cons (.v 7) (.cons (.v 8) .nil))))))])
 (.seq (.seq (.st [.sets [(4,(.c (.int .i64 0)))]])
 (.block 0 (.loop [false,true,true,true,true,false,false,false,false,false,false,false,false,false] b_law5_To_0)))
 (.seq (.st [.eff (some 13) none (.load (some 5) (.v 3)),
  .eff none none (.store 5 (.v 2) (.v 13))])
 (.ret [.cell (.v 2) (some 5)])))))⟩
noncomputable def r25:ERow:=⟨Tryz.f25,⟨[(5,(.cons 0 0 (.cons 0 2 (.cons 0 4 (.cons 1 1 (.cons 1 3 (.cons 0 5 (.cons 1 6 (.cons 2 7 (.cons 2 8 (.cons 2 9 (.cons 0 10 (.cons 3 11 .nil)))))))))))))],[(0,[false,true,true,true,true])],[],[],[],[]⟩,⟨33,[0,1,2,3,4,6,8,10,12,16,22,24,30,32],[27],[]⟩,1,e_law5_To⟩
def e_law5_Tells:EFunc:=⟨2,26,
 (.seq (.st [.eff (some 2) none (.box 2 T_law5_Tells_0 (.v 1))])
 (.seq (.seq (.st [.eff (some 4) none (.load none (.un (.off 1) (.v 2)))])
 (.cond (.bi (.bin .eql) (.v 4) (.c (.int .i64 0)))
 (.ret [.e (.bi (.eqs 1 false) (.v 0) (.c .nili))])
 (.skip)))
 (.seq (.seq (.st [.sets [(5,(.bi (.eqs 1 false) (.v 0) (.c .nili))),(6,(.gd false (.bi (.eqs 1 false) (.v 0) (.c .nili)) (.v 0)))],
  .eff (some 8) (some ((.v 5),false)) (.load (some 2) (.v 2)),
  .sets [(7,(.gd false (.v 5) (.tup (.call 0 f_sexp_Told) (.cons (.v 6) .nil)))),(9,(.gd false (.v 5) (.tup (.call 0 f_ref5_Told) (.cons (.v 8) .nil))))],
  .sets [(10,(.pick (.v 5) (.c (.bool true)) (.bi (.bin .neq) (.v 7) (.v 9)))),(12,(.gd false (.pick (.v 5) (.c (.bool true)) (.bi (.bin .neq) (.v 7) (.v 9))) (.un (.off 1) (.v 2))))],
  .eff (some 13) (some ((.v 10),false)) (.load none (.v 12)),
  .sets [(11,(.gd false (.v 10) (.tup (.call 0 f_sexp_Number) (.cons (.gd false (.pick (.v 5) (.c (.bool true)) (.bi (.bin .neq) (.v 7) (.v 9))) (.v 0)) .nil))))],
  .eff (some 14) (some ((.pick (.v 10) (.c (.bool true)) (.bi (.bin .neq) (.v 11) (.v 13))),false)) (.load none (.un (.off 1) (.v 2)))])
 (.cond (.pick (.pick (.v 10) (.c (.bool true)) (.bi (.bin .neq) (.v 11) (.v 13))) (.c (.bool true)) (.un .not (.tup (.call 0 f_errors_Is) (.cons (.v 0) (.cons (.un (.iface T_law5_Tells_2) (.v 14)) .nil)))))
 (.ret [.e (.c (.bool false))])
 (.skip)))
 (.seq (.st [.eff (some 3) none (.zbox [.nilp] T_law5_Tells_1)])
 (.seq (.seq (.st [.eff (some 15) none (.load none (.un (.off 0) (.v 2)))])
 (.cond (.bi (.bin .eql) (.un .len (.v 15)) (.c (.int .i64 0)))
 (.seq (.st [.eff (some 16) none (.calls [true,true,true,true,true,true,true,true,true,true,true,true,true,true,true,true] f_errors_As (.cons (.v 0) (.cons (.un (.iface T_law5_Tells_3) (.v 3)) .nil)))])
 (.ret [.e (.un .not (.v 16))]))
 (.skip)))
 (.seq (.st [.eff (some 17) none (.calls [true,true,true,true,true,true,true,true,true,true,true,true,true,true,true,true] f_errors_As (.cons (.v 0) (.cons (.un (.iface T_law5_Tells_3) (.v 3)) .nil))),
  .eff (some 18) (some ((.v 17),true)) (.load none (.v 3)),
  .eff (some 19) (some ((.v 17),true)) (.load none (.un (.off 0) (.un .nilchk (.v 18)))),
  .eff (some 20) (some ((.v 17),true)) (.load none (.un (.off 0) (.v 2))),
  .sets [(21,(.pick (.v 17) (.bi (.bin .eql) (.v 19) (.un (.ld none) (.un (.off 0) (.bi (.idx 2) (.v 20) (.c (.int .i64 0)))))) (.c (.bool false)))),(24,(.gd true (.pick (.v 17) (.bi (.bin .eql) (.v 19) (.un (.ld none) (.un (.off 0) (.bi (.idx 2) (.v 20) (.c (.int .i64 0)))))) (.c (.bool false))) (.un (.off 0) (.v 2))))],
  .eff (some 22) (some ((.v 21),true)) (.load none (.v 3)),
  .eff (some 23) (some ((.v 21),true)) (.load none (.un (.off 1) (.un .nilchk (.v 22)))),
  .eff (some 25) (some ((.v 21),true)) (.load none (.v 24))])
 (.ret [.e (.pick (.v 21) (.bi (.bin .eql) (.v 23) (.un (.ld none) (.un (.off 1) (.bi (.idx 2) (.v 25) (.c (.int .i64 0)))))) (.c (.bool false)))])))))))⟩
noncomputable def r26:ERow:=⟨Tryz.f26,⟨[(3,(.cons 0 0 (.cons 0 1 (.cons 0 2 (.cons 0 3 (.cons 1 5 (.cons 2 4 (.cons 2 6 (.cons 0 7 (.cons 0 8 (.cons 0 9 (.cons 0 10 (.cons 0 12 (.cons 1 13 (.cons 2 11 (.cons 0 14 (.cons 0 15 (.cons 0 16 (.cons 0 17 (.cons 0 18 (.cons 1 19 (.cons 0 20 (.cons 2 21 (.cons 0 22 (.cons 0 23 .nil))))))))))))))))))))))))),(8,(.cons 0 0 (.cons 0 1 (.cons 3 2 (.cons 0 3 (.cons 0 8 (.alt (.cons 3 4 (.cons 0 5 (.cons 0 6 (.alt (.cons 3 7 (.cons 3 9 (.cons 0 10 (.cons 0 11 (.cons 3 12 (.cons 0 13 (.cons 0 14 (.cons 0 15 (.cons 0 20 (.alt (.cons 3 16 (.cons 0 17 (.cons 0 18 (.alt (.cons 3 19 (.cons 3 21 (.cons 0 22 (.cons 0 23 (.cons 3 24 (.cons 0 25 (.cons 0 26 (.cons 0 27 .nil)))))))) (.cons 3 21 (.cons 0 22 (.cons 0 23 (.alt (.cons 3 19 (.cons 3 24 (.cons 0 25 (.cons 0 26 (.cons 0 27 .nil))))) (.cons 3 24 (.cons 3 19 (.cons 0 25 (.cons 0 26 (.cons 0 27 .nil))))))))))))) (.cons 3 21 (.cons 0 22 (.cons 0 23 (.alt (.cons 3 16 (.cons 0 17 (.cons 0 18 (.alt (.cons 3 19 (.cons 3 24 (.cons 0 25 (.cons 0 26 (.cons 0 27 .nil))))) (.cons 3 24 (.cons 3 19 (.cons 0 25 (.cons 0 26 (.cons 0 27 .nil))))))))) (.cons 3 24 (.cons 3 16 (.cons 0 17 (.cons 0 18 (.cons 3 19 (.cons 0 25 (.cons 0 26 (.cons 0 27 .nil)))))))))))))))))))))) (.cons 3 9 (.cons 0 10 (.cons 0 11 (.alt (.cons 3 7 (.cons 3 12 (.cons 0 13 (.cons 0 14 (.cons 0 15 (.cons 0 20 (.alt (.cons 3 16 (.cons 0 17 (.cons 0 18 (.alt (.cons 3 19 (.cons 3 21 (.cons 0 22 (.cons 0 23 (.cons 3 24 (.cons 0 25 (.cons 0 26 (.cons 0 27 .nil)))))))) (.cons 3 21 (.cons 0 22 (.cons 0 23 (.alt (.cons 3 19 (.cons 3 24 (.cons 0 25 (.cons 0 26 (.cons 0 27 .nil))))) (.cons 3 24 (.cons 3 19 (.cons 0 25 (.cons 0 26 (.cons 0 27 .nil))))))))))))) (.cons 3 21 (.cons 0 22 (.cons 0 23 (.alt (.cons 3 16 (.cons 0 17 (.cons 0 18 (.alt (.cons 3 19 (.cons 3 24 (.cons 0 25 (.cons 0 26 (.cons 0 27 .nil))))) (.cons 3 24 (.cons 3 19 (.cons 0 25 (.cons 0 26 (.cons 0 27 .nil))))))))) (.cons 3 24 (.cons 3 16 (.cons 0 17 (.cons 0 18 (.cons 3 19 (.cons 0 25 (.cons 0 26 (.cons 0 27 .nil))))))))))))))))))) (.cons 3 12 (.cons 3 7 (.cons 0 13 (.cons 0 14 (.cons 0 15 (.cons 0 20 (.alt (.cons 3 16 (.cons 0 17 (.cons 0 18 (.alt (.cons 3 19 (.cons 3 21 (.cons 0 22 (.cons 0 23 (.cons 3 24 (.cons 0 25 (.cons 0 26 (.cons 0 27 .nil)))))))) (.cons 3 21 (.cons 0 22 (.cons 0 23 (.alt (.cons 3 19 (.cons 3 24 (.cons 0 25 (.cons 0 26 (.cons 0 27 .nil))))) (.cons 3 24 (.cons 3 19 (.cons 0 25 (.cons 0 26 (.cons 0 27 .nil))))))))))))) (.cons 3 21 (.cons 0 22 (.cons 0 23 (.alt (.cons 3 16 (.cons 0 17 (.cons 0 18 (.alt (.cons 3 19 (.cons 3 24 (.cons 0 25 (.cons 0 26 (.cons 0 27 .nil))))) (.cons 3 24 (.cons 3 19 (.cons 0 25 (.cons 0 26 (.cons 0 27 .nil))))))))) (.cons 3 24 (.cons 3 16 (.cons 0 17 (.cons 0 18 (.cons 3 19 (.cons 0 25 (.cons 0 26 (.cons 0 27 .nil))))))))))))))))))))))))))) (.cons 3 9 (.cons 0 10 (.cons 0 11 (.alt (.cons 3 4 (.cons 0 5 (.cons 0 6 (.alt (.cons 3 7 (.cons 3 12 (.cons 0 13 (.cons 0 14 (.cons 0 15 (.cons 0 20 (.alt (.cons 3 16 (.cons 0 17 (.cons 0 18 (.alt (.cons 3 19 (.cons 3 21 (.cons 0 22 (.cons 0 23 (.cons 3 24 (.cons 0 25 (.cons 0 26 (.cons 0 27 .nil)))))))) (.cons 3 21 (.cons 0 22 (.cons 0 23 (.alt (.cons 3 19 (.cons 3 24 (.cons 0 25 (.cons 0 26 (.cons 0 27 .nil))))) (.cons 3 24 (.cons 3 19 (.cons 0 25 (.cons 0 26 (.cons 0 27 .nil))))))))))))) (.cons 3 21 (.cons 0 22 (.cons 0 23 (.alt (.cons 3 16 (.cons 0 17 (.cons 0 18 (.alt (.cons 3 19 (.cons 3 24 (.cons 0 25 (.cons 0 26 (.cons 0 27 .nil))))) (.cons 3 24 (.cons 3 19 (.cons 0 25 (.cons 0 26 (.cons 0 27 .nil))))))))) (.cons 3 24 (.cons 3 16 (.cons 0 17 (.cons 0 18 (.cons 3 19 (.cons 0 25 (.cons 0 26 (.cons 0 27 .nil))))))))))))))))))) (.cons 3 12 (.cons 3 7 (.cons 0 13 (.cons 0 14 (.cons 0 15 (.cons 0 20 (.alt (.cons 3 16 (.cons 0 17 (.cons 0 18 (.alt (.cons 3 19 (.cons 3 21 (.cons 0 22 (.cons 0 23 (.cons 3 24 (.cons 0 25 (.cons 0 26 (.cons 0 27 .nil)))))))) (.cons 3 21 (.cons 0 22 (.cons 0 23 (.alt (.cons 3 19 (.cons 3 24 (.cons 0 25 (.cons 0 26 (.cons 0 27 .nil))))) (.cons 3 24 (.cons 3 19 (.cons 0 25 (.cons 0 26 (.cons 0 27 .nil))))))))))))) (.cons 3 21 (.cons 0 22 (.cons 0 23 (.alt (.cons 3 16 (.cons 0 17 (.cons 0 18 (.alt (.cons 3 19 (.cons 3 24 (.cons 0 25 (.cons 0 26 (.cons 0 27 .nil))))) (.cons 3 24 (.cons 3 19 (.cons 0 25 (.cons 0 26 (.cons 0 27 .nil))))))))) (.cons 3 24 (.cons 3 16 (.cons 0 17 (.cons 0 18 (.cons 3 19 (.cons 0 25 (.cons 0 26 (.cons 0 27 .nil))))))))))))))))))))))) (.cons 3 12 (.cons 3 4 (.cons 0 5 (.cons 0 6 (.cons 3 7 (.cons 0 13 (.cons 0 14 (.cons 0 15 (.cons 0 20 (.alt (.cons 3 16 (.cons 0 17 (.cons 0 18 (.alt (.cons 3 19 (.cons 3 21 (.cons 0 22 (.cons 0 23 (.cons 3 24 (.cons 0 25 (.cons 0 26 (.cons 0 27 .nil)))))))) (.cons 3 21 (.cons 0 22 (.cons 0 23 (.alt (.cons 3 19 (.cons 3 24 (.cons 0 25 (.cons 0 26 (.cons 0 27 .nil))))) (.cons 3 24 (.cons 3 19 (.cons 0 25 (.cons 0 26 (.cons 0 27 .nil))))))))))))) (.cons 3 21 (.cons 0 22 (.cons 0 23 (.alt (.cons 3 16 (.cons 0 17 (.cons 0 18 (.alt (.cons 3 19 (.cons 3 24 (.cons 0 25 (.cons 0 26 (.cons 0 27 .nil))))) (.cons 3 24 (.cons 3 19 (.cons 0 25 (.cons 0 26 (.cons 0 27 .nil))))))))) (.cons 3 24 (.cons 3 16 (.cons 0 17 (.cons 0 18 (.cons 3 19 (.cons 0 25 (.cons 0 26 (.cons 0 27 .nil)))))))))))))))))))))))))))))))))],[],[],[],[],[]⟩,⟨70,[0,1,3,5,7,13,14,15,16,17,20,22,23,24,30,36,41,45,47,50,52,58,59,62,63,64],[55,67],[17,22]⟩,2,e_law5_Tells⟩
def b_ref11_Same_0:EC :=
 (.seq (.seq (.st [.eff (some 11) none (.load none (.un (.off 1) (.v 2)))])
 (.cond (.bi (.bin .lss) (.v 4) (.un .len (.v 11)))
 (.skip)
 (.exit 0)))
 (.seq (.block 1 (.seq (.st [.eff (some 12) none (.load none (.un (.off 1) (.v 2))),
  .eff (some 5) none (.zbox [(.int .i64 0),(.bool false),(.str []),(.int .i64 0),(.int .i64 0),(.str [])] T_ref11_Same_0),
  .eff none none (.store 6 (.v 5) (.un (.ld (some 6)) (.bi (.idx 6) (.v 12) (.v 4))))])
 (.seq (.st [.eff (some 13) none (.load none (.un (.off 1) (.v 3))),
  .eff (some 6) none (.zbox [(.int .i64 0),(.bool false),(.str []),(.int .i64 0),(.int .i64 0),(.str [])] T_ref11_Same_0),
  .eff none none (.store 6 (.v 6) (.un (.ld (some 6)) (.bi (.idx 6) (.v 13) (.v 4))))])
 (.seq (.st [.eff (some 14) none (.load none (.un (.off 0) (.v 5))),
  .eff (some 15) none (.load none (.un (.off 0) (.v 6))),
  .eff (some 16) (some ((.bi (.bin .neq) (.v 14) (.v 15)),false)) (.load none (.un (.off 1) (.v 5))),
  .eff (some 17) (some ((.bi (.bin .neq) (.v 14) (.v 15)),false)) (.load none (.un (.off 1) (.v 6))),
  .sets [(18,(.pick (.bi (.bin .neq) (.v 14) (.v 15)) (.c (.bool true)) (.bi (.eqs 0 true) (.v 16) (.v 17)))),(19,(.gd false (.pick (.bi (.bin .neq) (.v 14) (.v 15)) (.c (.bool true)) (.bi (.eqs 0 true) (.v 16) (.v 17))) (.un (.off 2) (.v 5))))],
  .eff (some 20) (some ((.v 18),false)) (.load none (.v 19)),
  .eff (some 21) (some ((.v 18),false)) (.load none (.un (.off 2) (.v 6))),
  .sets [(22,(.pick (.v 18) (.c (.bool true)) (.bi (.bin .neq) (.v 20) (.v 21)))),(23,(.gd false (.pick (.v 18) (.c (.bool true)) (.bi (.bin .neq) (.v 20) (.v 21))) (.un (.off 3) (.v 5))))],
  .eff (some 24) (some ((.v 22),false)) (.load (some 3) (.v 23)),
  .eff (some 25) (some ((.v 22),false)) (.load (some 3) (.un (.off 3) (.v 6)))])
 (.cond (.pick (.v 22) (.c (.bool true)) (.un .not (.tup (.call 0 f_ref3_Same) (.cons (.v 24) (.cons (.v 25) .nil)))))
  (.ret [.e (.c (.bool false))])
  (.skip))))))
 (.st [.sets [(4,(.bi (.bin .add) (.v 4) (.c (.int .i64 1))))]])))
def e_ref11_Same:EFunc:=⟨2,26,
 (.seq (.st [.eff (some 2) none (.box 2 T_ref11_Same_1 (.v 0)),
  .eff (some 3) none (.box 2 T_ref11_Same_1 (.v 1))])
 (.seq (.seq (.st [.eff (some 7) none (.load none (.un (.off 0) (.v 2))),
  .eff (some 8) none (.load none (.un (.off 0) (.v 3))),
  .eff (some 9) (some ((.bi (.bin .neq) (.v 7) (.v 8)),false)) (.load none (.un (.off 1) (.v 2))),
  .eff (some 10) (some ((.bi (.bin .neq) (.v 7) (.v 8)),false)) (.load none (.un (.off 1) (.v 3)))])
 (.cond (.pick (.bi (.bin .neq) (.v 7) (.v 8)) (.c (.bool true)) (.bi (.bin .neq) (.un .len (.v 9)) (.un .len (.v 10))))
 (.ret [.e (.c (.bool false))])
 (.skip)))
 (.seq (.seq (.st [.sets [(4,(.c (.int .i64 0)))]])
 (.block 0 (.loop [false,false,true,true,true,false,false,false,false,false,false,false,false,false,false,false,false,false,false,false,false,false,false,false,false,false] b_ref11_Same_0)))
 (.ret [.e (.c (.bool true))]))))⟩
noncomputable def r27:ERow:=⟨Tryz.f27,⟨[],[(0,[false,false,true,true,false,true])],[],[],[],[]⟩,⟨66,[0,1,2,3,5,6,7,9,11,15,18,24,30,35,40,42,46,48,51,52,53,55,58,59,60,62],[33,38],[]⟩,2,e_ref11_Same⟩
def b_law11_Of_0:EC :=
 (.seq (.seq (.st [.eff (some 7) none (.load none (.un (.off 1) (.v 1)))])
 (.cond (.bi (.bin .lss) (.v 4) (.un .len (.v 7)))
 (.skip)
 (.exit 0)))
 (.seq (.block 1 (.seq (.st [.eff (some 8) none (.load none (.un (.off 1) (.v 1))),
  .eff (some 5) none (.zbox [(.int .i64 0),(.bool false),(.str []),(.int .i64 0),(.int .i64 0),(.str [])] T_law11_Of_1),
  .eff none none (.store 6 (.v 5) (.un (.ld (some 6)) (.bi (.idx 6) (.v 8) (.v 4))))])
 (.st [.eff (some 9) none (.load none (.un (.off 1) (.v 3))),
  .eff (some 10) none (.load none (.un (.off 0) (.v 5))),
  .eff (some 11) none (.load none (.un (.off 1) (.v 5))),
  .eff (some 12) none (.load none (.un (.off 2) (.v 5))),
  .eff (some 13) none (.load (some 3) (.un (.off 3) (.v 5))),
  .eff (some 14) none (.append 6 64 T_law11_Of_0 (.v 9) (.tup (.bslice 6 [(.int .i64 0),(.bool false),(.str []),(.int .i64 0),(.int .i64 0),(.str [])] 1 [0]) (.cons (.tup (.build [(.int .i64 0),(.bool false),(.str []),(.int .i64 0),(.int .i64 0),(.str [])] [(0,1),(1,1),(2,1),(3,3)]) (.cons (.v 10) (.cons (.v 11) (.cons (.v 12) (.cons (.v 13) .nil))))) .nil))),
  .eff none none (.store 1 (.un (.off 1) (.v 3)) (.v 14))])))
 (.st [.sets [(4,(.bi (.bin .add) (.v 4) (.c (.int .i64 1))))]])))
def e_law11_Of:EFunc:=⟨1,16,
 (.seq (.st [.eff (some 1) none (.box 2 T_law11_Of_2 (.v 0)),
  .eff (some 2) none (.zbox [(.str []),.nils] T_law11_Of_3)])
 (.seq (.st [.eff (some 6) none (.load none (.un (.off 0) (.v 1))),
  .eff (some 3) none (.zbox [(.str []),.nils] T_law11_Of_3),
  .eff none none (.store 2 (.v 3) (.tup (.build [(.str []),.nils] [(0,1)]) (.cons (.v 6) .nil)))])
 (.seq (.seq (.st [.sets [(4,(.c (.int .i64 0)))]])
 (.block 0 (.loop [false,true,true,true,true,false,false,false,false,false,false,false,false,false,false,false] b_law11_Of_0)))
 (.seq (.st [.eff (some 15) none (.load (some 2) (.v 3)),
  .eff none none (.store 2 (.v 2) (.v 15))])
 (.ret [.cell (.v 2) (some 2)])))))⟩
noncomputable def r28:ERow:=⟨Tryz.f28,⟨[],[(0,[false,true,true,true,true])],[],[],[],[]⟩,⟨36,[0,1,2,3,4,5,7,11,17,22,24,26,28,30,33,35],[20],[]⟩,1,e_law11_Of⟩
def b_pat_Node_0:EC :=
 (.seq (.cond (.bi (.bin .lss) (.v 14) (.v 13))
 (.skip)
 (.exit 0))
 (.seq (.block 1 (.seq (.st [.eff (some 7) none (.zbox [(.int .i64 0),(.bool false),(.str []),(.int .i64 0),(.int .i64 0),(.str [])] T_pat_Node_1),
  .eff none none (.store 6 (.v 7) (.un (.ld (some 6)) (.bi (.idx 6) (.v 12) (.v 14))))])
 (.seq (.seq (.st [.eff (some 15) none (.load none (.un (.off 0) (.v 7))),
  .eff (some 16) (some ((.bi (.bin .lss) (.v 15) (.c (.int .i64 0))),false)) (.load none (.un (.off 0) (.v 7))),
  .eff (some 17) (some ((.bi (.bin .lss) (.v 15) (.c (.int .i64 0))),false)) (.load none (.un (.off 1) (.v 4)))])
 (.cond (.pick (.bi (.bin .lss) (.v 15) (.c (.int .i64 0))) (.c (.bool true)) (.bi (.bin .geq) (.v 16) (.un .len (.v 17))))
  (.exit 1)
  (.skip)))
 (.seq (.st [.eff (some 18) none (.load none (.un (.off 0) (.un (.off 3) (.v 7)))),
  .eff (some 19) none (.load none (.un (.off 1) (.un (.off 3) (.v 7)))),
  .eff (some 20) none (.load none (.un (.off 2) (.un (.off 3) (.v 7)))),
  .eff (some 8) none (.zbox [(.int .i64 0),(.int .i64 0),(.int .i64 0),(.str []),.nils] T_pat_Node_0),
  .eff none none (.store 5 (.v 8) (.tup (.build [(.int .i64 0),(.int .i64 0),(.int .i64 0),(.str []),.nils] [(0,1),(2,1),(3,1)]) (.cons (.v 18) (.cons (.v 19) (.cons (.v 20) .nil)))))])
 (.seq (.seq (.st [.eff (some 21) none (.load none (.un (.off 2) (.v 7)))])
 (.cond (.bi (.bin .neq) (.v 21) (.c (.str [])))
  (.st [.eff (some 22) none (.load none (.un (.off 2) (.v 7))),
   .eff none none (.store 5 (.v 8) (.tup (.build [(.int .i64 0),(.int .i64 0),(.int .i64 0),(.str []),.nils] [(0,1),(3,1)]) (.cons (.c (.int .i64 6)) (.cons (.v 22) .nil))))])
  (.skip)))
 (.seq (.seq (.st [.eff (some 23) none (.load none (.un (.off 1) (.v 7)))])
 (.cond (.v 23)
  (.st [.eff (some 24) none (.load (some 5) (.v 8)),
   .eff none none (.store 5 (.v 8) (.tup (.build [(.int .i64 0),(.int .i64 0),(.int .i64 0),(.str []),.nils] [(0,1),(4,1)]) (.cons (.c (.int .i64 8)) (.cons (.tup (.bslice 5 [(.int .i64 0),(.int .i64 0),(.int .i64 0),(.str []),.nils] 1 [0]) (.cons (.v 24) .nil)) .nil))))])
  (.skip)))
 (.st [.eff (some 25) none (.load none (.un (.off 4) (.v 6))),
  .eff (some 26) none (.load none (.un (.off 1) (.v 4))),
  .eff (some 27) none (.load none (.un (.off 0) (.v 7))),
  .eff (some 28) none (.load (some 5) (.v 8)),
  .eff (some 29) none (.append 5 64 T_pat_Node_0 (.v 25) (.tup (.bslice 5 [(.int .i64 0),(.int .i64 0),(.int .i64 0),(.str []),.nils] 1 [0]) (.cons (.tup (.build [(.int .i64 0),(.int .i64 0),(.int .i64 0),(.str []),.nils] [(0,1),(4,1)]) (.cons (.c (.int .i64 0)) (.cons (.tup (.bslice 5 [(.int .i64 0),(.int .i64 0),(.int .i64 0),(.str []),.nils] 2 [0,1]) (.cons (.tup (.build [(.int .i64 0),(.int .i64 0),(.int .i64 0),(.str []),.nils] [(0,1),(3,1)]) (.cons (.c (.int .i64 2)) (.cons (.un (.ld none) (.un (.off 0) (.bi (.idx 4) (.v 26) (.v 27)))) .nil))) (.cons (.v 28) .nil))) .nil))) .nil))),
  .eff none none (.store 1 (.un (.off 4) (.v 6)) (.v 29))])))))))
 (.st [.sets [(14,(.bi (.bin .add) (.v 14) (.c (.int .i64 1))))]])))
def e_pat_Node:EFunc:=⟨2,31,
 (.seq (.st [.eff (some 2) none (.box 2 T_pat_Node_2 (.v 0)),
  .eff (some 3) none (.zbox [(.int .i64 0),(.int .i64 0),(.int .i64 0),(.str []),.nils] T_pat_Node_0)])
 (.seq (.st [.eff (some 10) none (.load none (.un (.off 0) (.v 2))),
  .sets [(9,(.tup (.call 0 f_pat_find) (.cons (.v 10) (.cons (.v 1) .nil))))],
  .eff (some 4) none (.zbox [(.str []),.nils] T_pat_Node_3),
  .eff none none (.store 2 (.v 4) (.un (.ext 0) (.v 9))),
  .sets [(5,(.un (.ext 1) (.v 9)))]])
 (.seq (.st [.eff (some 11) none (.load none (.un (.off 0) (.v 2))),
  .eff (some 6) none (.zbox [(.int .i64 0),(.int .i64 0),(.int .i64 0),(.str []),.nils] T_pat_Node_0),
  .eff none none (.store 5 (.v 6) (.tup (.build [(.int .i64 0),(.int .i64 0),(.int .i64 0),(.str []),.nils] [(0,1),(4,1)]) (.cons (.c (.int .i64 0)) (.cons (.tup (.bslice 5 [(.int .i64 0),(.int .i64 0),(.int .i64 0),(.str []),.nils] 1 [0]) (.cons (.tup (.build [(.int .i64 0),(.int .i64 0),(.int .i64 0),(.str []),.nils] [(0,1),(3,1)]) (.cons (.c (.int .i64 2)) (.cons (.v 11) .nil))) .nil)) .nil))))])
 (.seq (.seq (.st [.eff (some 12) none (.load none (.un (.off 1) (.v 2))),
  .sets [(13,(.un .len (.v 12))),(14,(.c (.int .i64 0)))]])
 (.block 0 (.loop [false,false,false,true,true,false,true,false,false,false,false,false,true,true,true,false,false,false,false,false,false,false,false,false,false,false,false,false,false,false,false] b_pat_Node_0)))
 (.seq (.st [.eff (some 30) none (.load (some 5) (.v 6)),
  .eff none none (.store 5 (.v 3) (.v 30))])
 (.ret [.cell (.v 3) (some 5)]))))))⟩
noncomputable def r29:ERow:=⟨Tryz.f29,⟨[(12,(.cons 0 0 (.cons 0 2 (.cons 0 4 (.cons 1 1 (.cons 1 3 (.cons 1 5 (.cons 0 6 (.cons 0 7 (.cons 1 8 (.cons 0 9 (.cons 1 10 (.cons 2 11 (.cons 0 12 (.cons 2 13 (.cons 2 14 (.cons 0 15 (.cons 3 16 .nil))))))))))))))))))],[(0,[false,false,false,false,true,true,false,true,false,false,false,false,false,false,false,false,false,false,false,false,false,false,false,false,true,true,true])],[],[],[],[]⟩,⟨80,[0,1,2,4,5,6,7,9,10,11,13,19,24,25,26,31,35,37,43,46,49,52,55,58,59,63,65,67,72,76,79],[29,70],[11]⟩,2,e_pat_Node⟩
def e_pat_Same:EFunc:=⟨2,9,
 (.seq (.st [.eff (some 2) none (.box 2 T_pat_Same_0 (.v 0)),
  .eff (some 3) none (.box 2 T_pat_Same_0 (.v 1))])
 (.seq (.st [.eff (some 4) none (.load none (.un (.off 0) (.v 2))),
  .eff (some 5) none (.load none (.un (.off 0) (.v 3))),
  .eff (some 6) (some ((.bi (.bin .eql) (.v 4) (.v 5)),true)) (.load none (.un (.off 1) (.v 2))),
  .eff (some 7) (some ((.bi (.bin .eql) (.v 4) (.v 5)),true)) (.load none (.un (.off 1) (.v 3))),
  .eff (some 8) (some ((.bi (.bin .eql) (.v 4) (.v 5)),true)) (.calls [false,false,true,true,true,true,true,true,true,true,true,true,true,true,true,true] f_slices_EqualFunc_pat_Test_pat_Test_pat_Test_pat_Test (.cons (.v 6) (.cons (.v 7) (.cons (.c (.func f_pat_Same_1 [])) .nil))))])
 (.ret [.e (.pick (.bi (.bin .eql) (.v 4) (.v 5)) (.v 8) (.c (.bool false)))])))⟩
noncomputable def r30:ERow:=⟨Tryz.f30,⟨[],[],[],[],[],[]⟩,⟨17,[0,1,2,3,6,8,12,14,15],[],[]⟩,2,e_pat_Same⟩
def b_ref5_Same_0:EC :=
 (.seq (.seq (.st [.eff (some 17) none (.load none (.un (.off 4) (.v 2)))])
 (.cond (.bi (.bin .lss) (.v 4) (.un .len (.v 17)))
 (.skip)
 (.exit 0)))
 (.seq (.block 1 (.seq (.st [.eff (some 18) none (.load none (.un (.off 4) (.v 2))),
  .eff (some 19) none (.load none (.un (.off 4) (.v 3)))])
 (.cond (.un .not (.tup (.call 0 f_ref5_Same) (.cons (.un (.ld (some 5)) (.bi (.idx 5) (.v 18) (.v 4))) (.cons (.un (.ld (some 5)) (.bi (.idx 5) (.v 19) (.v 4))) .nil))))
  (.ret [.e (.c (.bool false))])
  (.skip))))
 (.st [.sets [(4,(.bi (.bin .add) (.v 4) (.c (.int .i64 1))))]])))
def e_ref5_Same:EFunc:=⟨2,20,
 (.seq (.st [.eff (some 2) none (.box 5 T_ref5_Same_0 (.v 0)),
  .eff (some 3) none (.box 5 T_ref5_Same_0 (.v 1))])
 (.seq (.seq (.st [.eff (some 5) none (.load none (.un (.off 0) (.v 2))),
  .eff (some 6) none (.load none (.un (.off 0) (.v 3))),
  .eff (some 7) (some ((.bi (.bin .neq) (.v 5) (.v 6)),false)) (.load none (.un (.off 2) (.v 2))),
  .eff (some 8) (some ((.bi (.bin .neq) (.v 5) (.v 6)),false)) (.load none (.un (.off 2) (.v 3))),
  .sets [(9,(.pick (.bi (.bin .neq) (.v 5) (.v 6)) (.c (.bool true)) (.bi (.bin .neq) (.v 7) (.v 8)))),(10,(.gd false (.pick (.bi (.bin .neq) (.v 5) (.v 6)) (.c (.bool true)) (.bi (.bin .neq) (.v 7) (.v 8))) (.un (.off 3) (.v 2))))],
  .eff (some 11) (some ((.v 9),false)) (.load none (.v 10)),
  .eff (some 12) (some ((.v 9),false)) (.load none (.un (.off 3) (.v 3))),
  .sets [(13,(.pick (.v 9) (.c (.bool true)) (.bi (.bin .neq) (.v 11) (.v 12)))),(14,(.gd false (.pick (.v 9) (.c (.bool true)) (.bi (.bin .neq) (.v 11) (.v 12))) (.un (.off 4) (.v 2))))],
  .eff (some 15) (some ((.v 13),false)) (.load none (.v 14)),
  .eff (some 16) (some ((.v 13),false)) (.load none (.un (.off 4) (.v 3)))])
 (.cond (.pick (.v 13) (.c (.bool true)) (.bi (.bin .neq) (.un .len (.v 15)) (.un .len (.v 16))))
 (.ret [.e (.c (.bool false))])
 (.skip)))
 (.seq (.seq (.st [.sets [(4,(.c (.int .i64 0)))]])
 (.block 0 (.loop [false,false,true,true,true,false,false,false,false,false,false,false,false,false,false,false,false,false,false,false] b_ref5_Same_0)))
 (.ret [.e (.c (.bool true))]))))⟩
noncomputable def r31:ERow:=⟨Tryz.f31,⟨[(6,(.cons 0 0 (.cons 0 2 (.cons 0 5 (.cons 0 7 (.cons 1 1 (.cons 0 3 (.cons 1 4 (.cons 1 6 (.cons 0 8 (.cons 1 9 (.cons 2 10 (.cons 0 11 .nil)))))))))))))],[(0,[false,false,true,true,false,true])],[],[],[],[]⟩,⟨53,[0,1,2,3,5,7,9,13,15,18,19,20,22,25,26,27,30,36,42,47],[45,50],[]⟩,2,e_ref5_Same⟩
def b_law5_Of_0:EC :=
 (.seq (.seq (.st [.eff (some 9) none (.load none (.un (.off 4) (.v 1)))])
 (.cond (.bi (.bin .lss) (.v 4) (.un .len (.v 9)))
 (.skip)
 (.exit 0)))
 (.seq (.block 1 (.st [.eff (some 10) none (.load none (.un (.off 4) (.v 3))),
  .eff (some 11) none (.load none (.un (.off 4) (.v 1))),
  .eff (some 12) none (.append 5 64 T_law5_Of_0 (.v 10) (.tup (.bslice 5 [(.int .i64 0),(.int .i64 0),(.int .i64 0),(.str []),.nils] 1 [0]) (.cons (.tup (.call 0 f_law5_Of) (.cons (.un (.ld (some 5)) (.bi (.idx 5) (.v 11) (.v 4))) .nil)) .nil))),
  .eff none none (.store 1 (.un (.off 4) (.v 3)) (.v 12))]))
 (.st [.sets [(4,(.bi (.bin .add) (.v 4) (.c (.int .i64 1))))]])))
def e_law5_Of:EFunc:=⟨1,14,
 (.seq (.st [.eff (some 1) none (.box 5 T_law5_Of_1 (.v 0)),
  .eff (some 2) none (.zbox [(.int .i64 0),(.int .i64 0),(.int .i64 0),(.str []),.nils] T_law5_Of_0)])
 (.seq (.st [.eff (some 5) none (.load none (.un (.off 0) (.v 1))),
  .eff (some 6) none (.load none (.un (.off 1) (.v 1))),
  .eff (some 7) none (.load none (.un (.off 2) (.v 1))),
  .eff (some 8) none (.load none (.un (.off 3) (.v 1))),
  .eff (some 3) none (.zbox [(.int .i64 0),(.int .i64 0),(.int .i64 0),(.str []),.nils] T_law5_Of_0),
  .eff none none (.store 5 (.v 3) (.tup (.build [(.int .i64 0),(.int .i64 0),(.int .i64 0),(.str []),.nils] [(0,1),(1,1),(2,1),(3,1)]) (.cons (.v 5) (.cons (.v 6) (.cons (.v 7) (.cons (.v 8) .nil))))))])
 (.seq (.seq (.st [.sets [(4,(.c (.int .i64 0)))]])
 (.block 0 (.loop [false,true,true,true,true,false,false,false,false,false,false,false,false,false] b_law5_Of_0)))
 (.seq (.st [.eff (some 13) none (.load (some 5) (.v 3)),
  .eff none none (.store 5 (.v 2) (.v 13))])
 (.ret [.cell (.v 2) (some 5)])))))⟩
noncomputable def r32:ERow:=⟨Tryz.f32,⟨[(5,(.cons 0 0 (.cons 0 2 (.cons 0 4 (.cons 1 1 (.cons 1 3 (.cons 0 5 (.cons 1 6 (.cons 2 7 (.cons 2 8 (.cons 2 9 (.cons 0 10 (.cons 3 11 .nil)))))))))))))],[(0,[false,true,true,true,true])],[],[],[],[]⟩,⟨33,[0,1,2,3,4,6,8,10,12,16,22,24,30,32],[27],[]⟩,1,e_law5_Of⟩
def b_ref11_Node_0:EC :=
 (.seq (.seq (.st [.eff (some 11) none (.load none (.un (.off 1) (.v 2)))])
 (.cond (.bi (.bin .lss) (.v 6) (.un .len (.v 11)))
 (.skip)
 (.exit 0)))
 (.seq (.block 1 (.seq (.st [.eff (some 12) none (.load none (.un (.off 1) (.v 2))),
  .eff (some 7) none (.zbox [(.int .i64 0),(.bool false),(.str []),(.int .i64 0),(.int .i64 0),(.str [])] T_ref11_Node_1),
  .eff none none (.store 6 (.v 7) (.un (.ld (some 6)) (.bi (.idx 6) (.v 12) (.v 6))))])
 (.seq (.st [.eff (some 13) none (.load (some 3) (.un (.off 3) (.v 7))),
  .eff (some 8) none (.zbox [(.int .i64 0),(.int .i64 0),(.int .i64 0),(.str []),.nils] T_ref11_Node_0),
  .eff none none (.store 5 (.v 8) (.tup (.call 0 f_ref5_Of) (.cons (.v 13) .nil)))])
 (.seq (.seq (.st [.eff (some 14) none (.load none (.un (.off 2) (.v 7)))])
 (.cond (.bi (.bin .neq) (.v 14) (.c (.str [])))
  (.st [.eff (some 15) none (.load none (.un (.off 2) (.v 7))),
   .eff none none (.store 5 (.v 8) (.tup (.build [(.int .i64 0),(.int .i64 0),(.int .i64 0),(.str []),.nils] [(0,1),(3,1)]) (.cons (.c (.int .i64 6)) (.cons (.v 15) .nil))))])
  (.skip)))
 (.seq (.seq (.st [.eff (some 16) none (.load none (.un (.off 1) (.v 7)))])
 (.cond (.v 16)
  (.st [.eff (some 17) none (.load (some 5) (.v 8)),
   .eff none none (.store 5 (.v 8) (.tup (.build [(.int .i64 0),(.int .i64 0),(.int .i64 0),(.str []),.nils] [(0,1),(4,1)]) (.cons (.c (.int .i64 8)) (.cons (.tup (.bslice 5 [(.int .i64 0),(.int .i64 0),(.int .i64 0),(.str []),.nils] 1 [0]) (.cons (.v 17) .nil)) .nil))))])
  (.skip)))
 (.seq (.st [.eff (some 18) (some ((.bi (.bin .geq) (.v 5) (.c (.int .i64 0))),true)) (.load none (.un (.off 0) (.v 7)))])
 (.cond (.pick (.bi (.bin .geq) (.v 5) (.c (.int .i64 0))) (.bi (.bin .lss) (.v 18) (.un .len (.un (.ld none) (.un (.off 1) (.bi (.idx 2) (.v 1) (.v 5)))))) (.c (.bool false)))
  (.st [.eff (some 19) none (.load none (.un (.off 0) (.v 7))),
   .eff (some 20) none (.load (some 5) (.v 8)),
   .eff (some 21) none (.append 5 64 T_ref11_Node_0 (.v 4) (.tup (.bslice 5 [(.int .i64 0),(.int .i64 0),(.int .i64 0),(.str []),.nils] 1 [0]) (.cons (.tup (.call 0 f_ref5_L) (.cons (.tup (.bslice 5 [(.int .i64 0),(.int .i64 0),(.int .i64 0),(.str []),.nils] 2 [0,1]) (.cons (.tup (.call 0 f_ref5_Sym) (.cons (.un (.ld none) (.un (.off 0) (.bi (.idx 4) (.un (.ld none) (.un (.off 1) (.bi (.idx 2) (.v 1) (.v 5)))) (.v 19)))) .nil)) (.cons (.v 20) .nil))) .nil)) .nil))),
   .sets [(4,(.v 21))]])
  (.skip))))))))
 (.st [.sets [(6,(.bi (.bin .add) (.v 6) (.c (.int .i64 1))))]])))
def e_ref11_Node:EFunc:=⟨2,22,
 (.seq (.st [.eff (some 2) none (.box 2 T_ref11_Node_2 (.v 0)),
  .eff (some 3) none (.zbox [(.int .i64 0),(.int .i64 0),(.int .i64 0),(.str []),.nils] T_ref11_Node_0)])
 (.seq (.st [.eff (some 9) none (.load none (.un (.off 0) (.v 2))),
  .sets [(4,(.tup (.bslice 5 [(.int .i64 0),(.int .i64 0),(.int .i64 0),(.str []),.nils] 1 [0]) (.cons (.tup (.call 0 f_ref5_Sym) (.cons (.v 9) .nil)) .nil)))]])
 (.seq (.st [.eff (some 10) none (.load none (.un (.off 0) (.v 2))),
  .sets [(5,(.tup (.call 0 f_ref9_Find) (.cons (.v 1) (.cons (.v 10) .nil))))]])
 (.seq (.seq (.st [.sets [(6,(.c (.int .i64 0)))]])
 (.block 0 (.loop [false,true,true,true,true,true,true,false,false,false,false,false,false,false,false,false,false,false,false,false,false,false] b_ref11_Node_0)))
 (.seq (.st [.eff none none (.store 5 (.v 3) (.tup (.call 0 f_ref5_L) (.cons (.v 4) .nil)))])
 (.ret [.cell (.v 3) (some 5)]))))))⟩
noncomputable def r33:ERow:=⟨Tryz.f33,⟨[(12,(.cons 0 0 (.cons 0 1 (.cons 0 2 (.cons 0 3 (.cons 0 5 (.cons 0 6 (.cons 0 7 (.cons 0 8 (.cons 1 4 (.cons 1 9 (.cons 0 10 (.cons 0 11 (.cons 0 12 .nil)))))))))))))),(13,(.cons 0 0 (.cons 0 1 (.cons 0 2 (.cons 0 3 (.cons 0 4 (.cons 0 6 (.cons 1 5 (.cons 1 7 (.cons 0 8 (.cons 0 9 (.cons 1 10 (.cons 1 12 (.cons 2 11 (.cons 2 13 (.cons 2 14 (.cons 2 15 (.cons 2 16 (.cons 0 17 .nil)))))))))))))))))))],[(0,[false,true,true,false,true,true,true,true])],[],[],[],[]⟩,⟨76,[0,1,2,4,5,6,7,8,9,11,16,20,26,31,34,37,40,41,48,64,69,73],[29,53,62,67],[]⟩,2,e_ref11_Node⟩
def b_law7_Names_0:EC :=
 (.seq (.cond (.bi (.bin .lss) (.v 2) (.un .len (.v 0)))
 (.skip)
 (.exit 0))
 (.seq (.block 1 (.cond (.bi (.bin .neq) (.un (.ld none) (.bi (.idx 1) (.v 0) (.v 2))) (.un (.ld none) (.bi (.idx 1) (.v 1) (.v 2))))
  (.ret [.e (.c (.bool false))])
  (.skip)))
 (.st [.sets [(2,(.bi (.bin .add) (.v 2) (.c (.int .i64 1))))]])))
def e_law7_Names:EFunc:=⟨2,3,
 (.seq (.cond (.bi (.bin .neq) (.un .len (.v 0)) (.un .len (.v 1)))
 (.ret [.e (.c (.bool false))])
 (.skip))
 (.seq (.seq (.st [.sets [(2,(.c (.int .i64 0)))]])
 (.block 0 (.loop [true,true,true] b_law7_Names_0)))
 (.ret [.e (.c (.bool true))])))⟩
noncomputable def r34:ERow:=⟨Tryz.f34,⟨[(6,(.cons 0 0 (.cons 0 1 (.cons 0 2 (.cons 0 4 (.cons 0 5 (.cons 0 6 (.cons 1 3 (.cons 1 7 (.cons 0 8 .nil))))))))))],[(0,[true,true,false,false,false,true])],[],[],[],[]⟩,⟨26,[0,1,5],[20,24],[]⟩,2,e_law7_Names⟩
def b_ref11_Pattern_Vars_0:EC :=
 (.seq (.seq (.st [.eff (some 4) none (.load none (.un (.off 1) (.v 1)))])
 (.cond (.bi (.bin .lss) (.v 3) (.un .len (.v 4)))
 (.skip)
 (.exit 0)))
 (.seq (.block 1 (.seq (.st [.eff (some 5) none (.load none (.un (.off 1) (.v 1))),
  .eff (some 6) (some ((.bi (.bin .neq) (.un (.ld none) (.un (.off 2) (.bi (.idx 6) (.v 5) (.v 3)))) (.c (.str []))),true)) (.load none (.un (.off 1) (.v 1)))])
 (.cond (.pick (.bi (.bin .neq) (.un (.ld none) (.un (.off 2) (.bi (.idx 6) (.v 5) (.v 3)))) (.c (.str []))) (.un .not (.un (.ld none) (.un (.off 1) (.bi (.idx 6) (.v 6) (.v 3))))) (.c (.bool false)))
  (.st [.eff (some 7) none (.load none (.un (.off 1) (.v 1))),
   .sets [(2,(.tup (.call 0 f_ref7_Put) (.cons (.v 2) (.cons (.un (.ld none) (.un (.off 2) (.bi (.idx 6) (.v 7) (.v 3)))) .nil))))]])
  (.skip))))
 (.st [.sets [(3,(.bi (.bin .add) (.v 3) (.c (.int .i64 1))))]])))
def e_ref11_Pattern_Vars:EFunc:=⟨1,8,
 (.seq (.st [.eff (some 1) none (.box 2 T_ref11_Pattern_Vars_0 (.v 0))])
 (.seq (.st [.sets [(2,(.c .nils))]])
 (.seq (.seq (.st [.sets [(3,(.c (.int .i64 0)))]])
 (.block 0 (.loop [false,true,true,true,false,false,false,false] b_ref11_Pattern_Vars_0)))
 (.ret [.e (.v 2)]))))⟩
noncomputable def r35:ERow:=⟨Tryz.f35,⟨[],[(0,[false,true,false,true,true])],[],[],[],[]⟩,⟨37,[0,1,3,4,7,13,21,30],[17,25,34],[]⟩,1,e_ref11_Pattern_Vars⟩
def b_sexp_Read_0:EC :=
 (.seq (.cond (.bi (.bin .lss) (.v 3) (.un .len (.v 1)))
 (.skip)
 (.exit 0))
 (.block 1 (.seq (.st [.eff (some 7) none (.calls [true,true,true,true,true,true,true,true,true,true,true,true,true,true,true,true] f_sexp_reader_step (.cons (.v 2) (.cons (.v 3) .nil))),
  .sets [(4,(.un (.ext 0) (.v 7)))]])
 (.seq (.cond (.bi (.eqs 1 true) (.un (.ext 1) (.v 7)) (.c .nili))
  (.ret [.e (.c .nils),.e (.un (.ext 1) (.v 7))])
  (.skip))
 (.st [.sets [(3,(.bi (.bin .add) (.v 3) (.v 4)))]])))))
def e_sexp_Read:EFunc:=⟨1,12,
 (.seq (.st [.sets [(5,(.tup (.call 0 f_lex_Scan) (.cons (.v 0) .nil)))],
  .sets [(1,(.un (.ext 0) (.v 5)))]])
 (.seq (.cond (.bi (.eqs 1 true) (.un (.ext 1) (.v 5)) (.c .nili))
 (.ret [.e (.c .nils),.e (.un (.ext 1) (.v 5))])
 (.skip))
 (.seq (.st [.eff (some 6) none (.box 4 T_sexp_Read_0 (.tup (.build [.nils,(.int .i64 0),.nils,.nils] [(0,1)]) (.cons (.v 1) .nil))),
  .sets [(2,(.v 6))]])
 (.seq (.seq (.st [.sets [(3,(.c (.int .i64 0)))]])
 (.block 0 (.loop [false,true,true,true,false,false,false,false,false,false,false,false] b_sexp_Read_0)))
 (.seq (.seq (.st [.eff (some 8) none (.load none (.un (.off 2) (.un .nilchk (.v 2))))])
 (.cond (.bi (.bin .gtr) (.un .len (.v 8)) (.c (.int .i64 0)))
 (.seq (.st [.eff (some 9) none (.load none (.un (.off 2) (.un .nilchk (.v 2)))),
  .eff (some 10) none (.load none (.un (.off 1) (.bi (.idx 5) (.v 9) (.bi (.bin .sub) (.un .len (.v 8)) (.c (.int .i64 1))))))])
 (.ret [.e (.c .nils),.e (.tup (.call 0 f_sexp_fault) (.cons (.v 10) (.cons (.c (.int .i64 3)) .nil)))]))
 (.skip)))
 (.seq (.st [.eff (some 11) none (.load none (.un (.off 3) (.un .nilchk (.v 2))))])
 (.ret [.e (.v 11),.e (.c .nili)])))))))⟩
noncomputable def r36:ERow:=⟨Tryz.f36,⟨[],[(0,[false,false,false,false,true,false,true,true])],[],[],[],[]⟩,⟨59,[0,4,6,7,8,11,21,29,41,48,53,58],[],[11]⟩,1,e_sexp_Read⟩
def b_sexp_Text_0:EC :=
 (.seq (.cond (.bi (.bin .lss) (.v 9) (.v 8))
 (.skip)
 (.exit 1))
 (.seq (.block 2 (.seq (.st [.eff (some 3) none (.zbox [(.int .i64 0),(.int .i64 0),(.int .i64 0),(.str []),.nils] T_sexp_Text_1),
  .eff none none (.store 5 (.v 3) (.un (.ld (some 5)) (.bi (.idx 5) (.v 7) (.v 9))))])
 (.st [.eff (some 10) none (.load (some 5) (.v 3)),
  .eff (some 11) none (.append 1 16 T_sexp_Text_0 (.v 2) (.tup (.bslice 1 [(.str [])] 1 [0]) (.cons (.tup (.call 0 f_sexp_Text) (.cons (.v 10) .nil)) .nil))),
  .sets [(2,(.v 11))]])))
 (.st [.sets [(9,(.bi (.bin .add) (.v 9) (.c (.int .i64 1))))]])))
def b_sexp_Text_1:EC :=
 (.seq (.cond (.bi (.bin .lss) (.v 14) (.v 13))
 (.skip)
 (.exit 3))
 (.seq (.block 4 (.seq (.st [.eff (some 5) none (.zbox [(.int .i64 0),(.int .i64 0),(.int .i64 0),(.str []),.nils] T_sexp_Text_1),
  .eff none none (.store 5 (.v 5) (.un (.ld (some 5)) (.bi (.idx 5) (.v 12) (.v 14))))])
 (.st [.eff (some 15) none (.load (some 5) (.v 5)),
  .sets [(4,(.bi (.bin .add) (.v 4) (.tup (.call 0 f_sexp_Text) (.cons (.v 15) .nil))))]])))
 (.st [.sets [(14,(.bi (.bin .add) (.v 14) (.c (.int .i64 1))))]])))
def e_sexp_Text:EFunc:=⟨1,19,
 (.seq (.st [.eff (some 1) none (.box 5 T_sexp_Text_1 (.v 0))])
 (.seq (.seq (.st [.eff (some 6) none (.load none (.un (.off 0) (.v 1)))])
 (.block 0 (.cond (.bi (.bin .eql) (.v 6) (.c (.int .i64 0)))
  (.seq (.st [.sets [(2,(.c .nils))]])
  (.seq (.seq (.st [.eff (some 7) none (.load none (.un (.off 4) (.v 1))),
   .sets [(8,(.un .len (.v 7))),(9,(.c (.int .i64 0)))]])
  (.block 1 (.loop [false,false,true,false,false,false,false,true,true,true,false,false,false,false,false,false,false,false,false] b_sexp_Text_0)))
  (.ret [.e (.bi (.bin .add) (.bi (.bin .add) (.c (.str [40])) (.tup (.call 0 f_strings_Join) (.cons (.v 2) (.cons (.c (.str [32])) .nil)))) (.c (.str [41])))])))
  (.cond (.bi (.bin .eql) (.v 6) (.c (.int .i64 8)))
  (.seq (.st [.sets [(4,(.c (.str [126])))]])
  (.seq (.seq (.st [.eff (some 12) none (.load none (.un (.off 4) (.v 1))),
   .sets [(13,(.un .len (.v 12))),(14,(.c (.int .i64 0)))]])
  (.block 3 (.loop [false,false,false,false,true,false,false,false,false,false,false,false,true,true,true,false,false,false,false] b_sexp_Text_1)))
  (.ret [.e (.v 4)])))
  (.skip)))))
 (.seq (.st [.eff (some 16) none (.load none (.un (.off 0) (.v 1))),
  .eff (some 17) none (.load none (.un (.off 2) (.v 1))),
  .eff (some 18) none (.load none (.un (.off 3) (.v 1)))])
 (.ret [.e (.tup (.call 0 f_lex_Text) (.cons (.tup (.build [(.int .i64 0),(.int .i64 0),(.int .i64 0),(.str [])] [(0,1),(2,1),(3,1)]) (.cons (.v 16) (.cons (.v 17) (.cons (.v 18) .nil)))) .nil))]))))⟩
noncomputable def r37:ERow:=⟨Tryz.f37,⟨[],[(1,[false,false,false,true,false,false,false,false,false,false,false,false,false,false,true,true,true]),(3,[false,false,false,false,false,false,true,false,false,false,false,false,false,false,false,false,false,false,false,false,false,false,false,false,false,false,false,false,false,false,false,false,false,true,true,true])],[],[],[],[]⟩,⟨53,[0,1,3,5,6,8,10,14,15,16,21,24,33,34,35,40,46,48,50],[19,38],[]⟩,1,e_sexp_Text⟩
def b_ref1_Shape_0:EC :=
 (.seq (.cond (.bi (.bin .lss) (.v 2) (.un .slen (.v 0)))
 (.skip)
 (.exit 0))
 (.seq (.block 1 (.cond (.pick (.bi (.bin .lss) (.bi .sidx (.v 0) (.v 2)) (.c (.int .u8 48))) (.c (.bool true)) (.bi (.bin .gtr) (.bi .sidx (.v 0) (.v 2)) (.c (.int .u8 57))))
  (.ret [.e (.c (.bool false))])
  (.skip)))
 (.st [.sets [(2,(.bi (.bin .add) (.v 2) (.c (.int .i64 1))))]])))
def e_ref1_Shape:EFunc:=⟨1,3,
 (.seq (.st [.sets [(1,(.c (.int .i64 0)))]])
 (.seq (.cond (.pick (.bi (.bin .gtr) (.un .slen (.v 0)) (.c (.int .i64 0))) (.pick (.bi (.bin .eql) (.bi .sidx (.v 0) (.c (.int .i64 0))) (.c (.int .u8 43))) (.c (.bool true)) (.bi (.bin .eql) (.bi .sidx (.v 0) (.c (.int .i64 0))) (.c (.int .u8 45)))) (.c (.bool false)))
 (.st [.sets [(1,(.c (.int .i64 1)))]])
 (.skip))
 (.seq (.seq (.st [.sets [(2,(.v 1))]])
 (.block 0 (.loop [true,true,true] b_ref1_Shape_0)))
 (.ret [.e (.bi (.bin .gtr) (.un .slen (.v 0)) (.v 1))]))))⟩
noncomputable def r38:ERow:=⟨Tryz.f38,⟨[],[(0,[true,false,false,true,true])],[],[],[],[]⟩,⟨39,[0,3,4],[],[]⟩,1,e_ref1_Shape⟩
def e_ref3_Sign:EFunc:=⟨1,1,
 (.ret [.e (.pick (.pick (.pick (.pick (.pick (.pick (.pick (.bi (.bin .geq) (.v 0) (.c (.int .u8 33))) (.bi (.bin .leq) (.v 0) (.c (.int .u8 126))) (.c (.bool false))) (.bi (.bin .neq) (.v 0) (.c (.int .u8 40))) (.c (.bool false))) (.bi (.bin .neq) (.v 0) (.c (.int .u8 41))) (.c (.bool false))) (.bi (.bin .neq) (.v 0) (.c (.int .u8 34))) (.c (.bool false))) (.bi (.bin .neq) (.v 0) (.c (.int .u8 59))) (.c (.bool false))) (.bi (.bin .neq) (.v 0) (.c (.int .u8 63))) (.c (.bool false))) (.bi (.bin .neq) (.v 0) (.c (.int .u8 126))) (.c (.bool false)))])⟩
noncomputable def r39:ERow:=⟨Tryz.f39,⟨[],[],[],[],[],[]⟩,⟨33,[0],[],[]⟩,1,e_ref3_Sign⟩
def b_ref4_Scan_0:EC :=
 (.seq (.cond (.pick (.bi (.bin .lss) (.v 2) (.un .len (.v 0))) (.bi (.bin .neq) (.un (.ld none) (.bi (.idx 1) (.v 0) (.v 2))) (.c (.int .u8 10))) (.c (.bool false)))
 (.skip)
 (.exit 2))
 (.block 3 (.st [.sets [(2,(.bi (.bin .add) (.v 2) (.c (.int .i64 1))))]])))
def b_ref4_Scan_1:EC :=
 (.seq (.cond (.bi (.bin .lss) (.v 2) (.un .len (.v 0)))
 (.skip)
 (.exit 0))
 (.block 1 (.seq (.cond (.tup (.call 0 f_ref4_blank) (.cons (.un (.ld none) (.bi (.idx 1) (.v 0) (.v 2))) .nil))
  (.seq (.st [.sets [(2,(.bi (.bin .add) (.v 2) (.c (.int .i64 1))))]])
  (.exit 1))
  (.skip))
 (.seq (.cond (.bi (.bin .eql) (.un (.ld none) (.bi (.idx 1) (.v 0) (.v 2))) (.c (.int .u8 59)))
  (.seq (.block 2 (.loop [true,true,true,false,false,false,false,false] b_ref4_Scan_0))
  (.exit 1))
  (.skip))
 (.seq (.st [.sets [(5,(.tup (.call 0 f_ref4_one) (.cons (.v 0) (.cons (.v 2) .nil))))],
  .eff (some 3) none (.zbox [(.int .i64 0),(.int .i64 0),(.int .i64 0),(.str [])] T_ref4_Scan_0),
  .eff none none (.store 4 (.v 3) (.un (.ext 0) (.v 5))),
  .sets [(4,(.un (.ext 1) (.v 5)))]])
 (.seq (.cond (.bi (.bin .neq) (.un (.ext 2) (.v 5)) (.c (.int .i64 0)))
  (.ret [.e (.c .nils),.e (.v 2),.e (.un (.ext 2) (.v 5))])
  (.skip))
 (.seq (.st [.eff (some 6) none (.load (some 4) (.v 3)),
  .eff (some 7) none (.append 4 40 T_ref4_Scan_0 (.v 1) (.tup (.bslice 4 [(.int .i64 0),(.int .i64 0),(.int .i64 0),(.str [])] 1 [0]) (.cons (.v 6) .nil))),
  .sets [(1,(.v 7))]])
 (.st [.sets [(2,(.v 4))]]))))))))
def e_ref4_Scan:EFunc:=⟨1,8,
 (.seq (.cond (.bi (.bin .gtr) (.un .len (.v 0)) (.c (.int .i64 65536)))
 (.ret [.e (.c .nils),.e (.c (.int .i64 0)),.e (.c (.int .i64 4))])
 (.skip))
 (.seq (.st [.sets [(1,(.c .nils))]])
 (.seq (.st [.sets [(2,(.c (.int .i64 0)))]])
 (.seq (.block 0 (.loop [true,true,true,false,false,false,false,false] b_ref4_Scan_1))
 (.ret [.e (.v 1),.e (.c (.int .i64 0)),.e (.c (.int .i64 0))])))))⟩
noncomputable def r40:ERow:=⟨Tryz.f40,⟨[],[(0,[true,false,false,false,false,true,true]),(2,[true,false,false,false,false,true,true])],[],[],[],[]⟩,⟨59,[0,5,6,7,8,42,54,56],[20,27,37],[42]⟩,1,e_ref4_Scan⟩
def e_ref5_At:EFunc:=⟨3,4,
 (.seq (.st [.eff (some 3) none (.zbox [.nils,(.int .i64 0)] T_ref5_At_0)])
 (.seq (.st [.eff none none (.store 2 (.v 3) (.tup (.build [.nils,(.int .i64 0)] [(0,1),(1,1)]) (.cons (.tup (.bslice 2 [(.str []),(.int .i64 0)] 1 [0]) (.cons (.tup (.build [(.str []),(.int .i64 0)] [(0,1),(1,1)]) (.cons (.v 0) (.cons (.v 1) .nil))) .nil)) (.cons (.v 2) .nil))))])
 (.ret [.cell (.v 3) (some 2)])))⟩
noncomputable def r41:ERow:=⟨Tryz.f41,⟨[],[],[],[],[],[]⟩,⟨13,[0,1,2,6],[],[]⟩,3,e_ref5_At⟩
def b_ref5_reader_node_0:EC :=
 (.block 1 (.seq (.seq (.st [.eff (some 37) none (.load none (.un (.off 1) (.un .nilchk (.v 0)))),
  .eff (some 38) none (.load none (.un (.off 0) (.un .nilchk (.v 0))))])
 (.cond (.bi (.bin .eql) (.v 37) (.un .len (.v 38)))
  (.seq (.st [.eff (some 39) none (.load none (.un (.off 1) (.v 4))),
   .eff none none (.store 5 (.v 2) (.tup (.build [(.int .i64 0),(.int .i64 0),(.int .i64 0),(.str []),.nils] []) .nil)),
   .eff none none (.store 2 (.v 3) (.tup (.call 0 f_ref5_At) (.cons (.c (.str [99,104,97,114])) (.cons (.v 39) (.cons (.c (.int .i64 3)) .nil)))))])
  (.ret [.cell (.v 2) (some 5),.cell (.v 3) (some 2)]))
  (.skip)))
 (.seq (.seq (.st [.eff (some 40) none (.load none (.un (.off 0) (.un .nilchk (.v 0)))),
  .eff (some 41) none (.load none (.un (.off 1) (.un .nilchk (.v 0))))])
 (.cond (.bi (.bin .eql) (.un (.ld none) (.un (.off 0) (.bi (.idx 4) (.v 40) (.v 41)))) (.c (.int .i64 5)))
  (.seq (.st [.eff (some 42) none (.load none (.un (.off 1) (.un .nilchk (.v 0)))),
   .eff none none (.store 1 (.un (.off 1) (.un .nilchk (.v 0))) (.bi (.bin .add) (.v 42) (.c (.int .i64 1))))])
  (.seq (.st [.eff (some 43) none (.load (some 5) (.v 5)),
   .eff none none (.store 5 (.v 2) (.v 43)),
   .eff none none (.store 2 (.v 3) (.tup (.build [.nils,(.int .i64 0)] []) .nil))])
  (.ret [.cell (.v 2) (some 5),.cell (.v 3) (some 2)])))
  (.skip)))
 (.seq (.st [.eff (some 44) none (.calls [true,true,true,true,true,true,true,true,true,true,true,true,true,true,true,true] f_ref5_reader_node (.cons (.v 0) (.cons (.bi (.bin .add) (.v 1) (.c (.int .i64 1))) .nil))),
  .eff (some 9) none (.zbox [(.int .i64 0),(.int .i64 0),(.int .i64 0),(.str []),.nils] T_ref5_reader_node_0),
  .eff (some 10) none (.zbox [.nils,(.int .i64 0)] T_ref5_reader_node_1),
  .eff none none (.store 5 (.v 9) (.un (.ext 0) (.v 44))),
  .eff none none (.store 2 (.v 10) (.un (.ext 1) (.v 44)))])
 (.seq (.seq (.st [.eff (some 45) none (.load none (.un (.off 1) (.v 10)))])
 (.cond (.bi (.bin .neq) (.v 45) (.c (.int .i64 0)))
  (.seq (.st [.eff (some 46) none (.load (some 2) (.v 10)),
   .chk (.tup .apart (.cons (.v 2) (.cons (.v 10) .nil))),
   .eff none none (.store 5 (.v 2) (.tup (.build [(.int .i64 0),(.int .i64 0),(.int .i64 0),(.str []),.nils] []) .nil)),
   .chk (.tup .apart (.cons (.v 3) (.cons (.v 10) .nil))),
   .eff none none (.store 2 (.v 3) (.v 46))])
  (.ret [.cell (.v 2) (some 5),.cell (.v 3) (some 2)]))
  (.skip)))
 (.st [.eff (some 47) none (.load none (.un (.off 4) (.v 5))),
  .eff (some 48) none (.load (some 5) (.v 9)),
  .eff (some 49) none (.append 5 64 T_ref5_reader_node_0 (.v 47) (.tup (.bslice 5 [(.int .i64 0),(.int .i64 0),(.int .i64 0),(.str []),.nils] 1 [0]) (.cons (.v 48) .nil))),
  .eff none none (.store 1 (.un (.off 4) (.v 5)) (.v 49))]))))))
def e_ref5_reader_node:EFunc:=⟨2,50,
 (.seq (.seq (.st [.eff (some 2) none (.zbox [(.int .i64 0),(.int .i64 0),(.int .i64 0),(.str []),.nils] T_ref5_reader_node_0),
  .eff (some 3) none (.zbox [.nils,(.int .i64 0)] T_ref5_reader_node_1)])
 (.seq (.st [.eff (some 11) none (.load none (.un (.off 0) (.un .nilchk (.v 0)))),
  .eff (some 12) none (.load none (.un (.off 1) (.un .nilchk (.v 0)))),
  .eff (some 4) none (.zbox [(.int .i64 0),(.int .i64 0),(.int .i64 0),(.str [])] T_ref5_reader_node_2),
  .eff none none (.store 4 (.v 4) (.un (.ld (some 4)) (.bi (.idx 4) (.v 11) (.v 12))))])
 (.seq (.st [.eff (some 13) none (.load none (.un (.off 1) (.un .nilchk (.v 0)))),
  .eff none none (.store 1 (.un (.off 1) (.un .nilchk (.v 0))) (.bi (.bin .add) (.v 13) (.c (.int .i64 1))))])
 (.seq (.st [.eff (some 14) none (.load none (.un (.off 2) (.un .nilchk (.v 0)))),
  .eff none none (.store 1 (.un (.off 2) (.un .nilchk (.v 0))) (.bi (.bin .add) (.v 14) (.c (.int .i64 1))))])
 (.seq (.seq (.st [.eff (some 15) none (.load none (.un (.off 0) (.v 4)))])
 (.cond (.bi (.bin .eql) (.v 15) (.c (.int .i64 5)))
 (.seq (.st [.eff (some 16) none (.load none (.un (.off 1) (.v 4))),
  .eff none none (.store 5 (.v 2) (.tup (.build [(.int .i64 0),(.int .i64 0),(.int .i64 0),(.str []),.nils] []) .nil)),
  .eff none none (.store 2 (.v 3) (.tup (.call 0 f_ref5_At) (.cons (.c (.str [99,104,97,114])) (.cons (.v 16) (.cons (.c (.int .i64 2)) .nil)))))])
 (.ret [.cell (.v 2) (some 5),.cell (.v 3) (some 2)]))
 (.skip)))
 (.seq (.seq (.st [.eff (some 17) none (.load none (.un (.off 2) (.un .nilchk (.v 0))))])
 (.cond (.bi (.bin .gtr) (.v 17) (.c (.int .i64 4096)))
 (.seq (.st [.eff (some 18) none (.load none (.un (.off 1) (.v 4))),
  .eff none none (.store 5 (.v 2) (.tup (.build [(.int .i64 0),(.int .i64 0),(.int .i64 0),(.str []),.nils] []) .nil)),
  .eff none none (.store 2 (.v 3) (.tup (.call 0 f_ref5_At) (.cons (.c (.str [99,104,97,114])) (.cons (.v 18) (.cons (.c (.int .i64 4)) .nil)))))])
 (.ret [.cell (.v 2) (some 5),.cell (.v 3) (some 2)]))
 (.skip)))
 (.seq (.st [.eff (some 19) none (.load none (.un (.off 0) (.v 4))),
  .eff (some 20) none (.load none (.un (.off 1) (.v 4))),
  .eff (some 21) none (.load none (.un (.off 2) (.v 4))),
  .eff (some 22) none (.load none (.un (.off 3) (.v 4))),
  .eff (some 5) none (.zbox [(.int .i64 0),(.int .i64 0),(.int .i64 0),(.str []),.nils] T_ref5_reader_node_0),
  .eff none none (.store 5 (.v 5) (.tup (.build [(.int .i64 0),(.int .i64 0),(.int .i64 0),(.str []),.nils] [(0,1),(1,1),(2,1),(3,1)]) (.cons (.v 19) (.cons (.v 20) (.cons (.v 21) (.cons (.v 22) .nil))))))])
 (.seq (.seq (.st [.eff (some 23) none (.load none (.un (.off 0) (.v 4)))])
 (.cond (.bi (.bin .eql) (.v 23) (.c (.int .i64 8)))
 (.seq (.seq (.st [.eff (some 24) none (.load none (.un (.off 1) (.un .nilchk (.v 0)))),
  .eff (some 25) none (.load none (.un (.off 0) (.un .nilchk (.v 0))))])
 (.cond (.bi (.bin .eql) (.v 24) (.un .len (.v 25)))
  (.seq (.st [.eff (some 26) none (.load none (.un (.off 1) (.v 4))),
   .eff none none (.store 5 (.v 2) (.tup (.build [(.int .i64 0),(.int .i64 0),(.int .i64 0),(.str []),.nils] []) .nil)),
   .eff none none (.store 2 (.v 3) (.tup (.call 0 f_ref5_At) (.cons (.c (.str [99,104,97,114])) (.cons (.v 26) (.cons (.c (.int .i64 3)) .nil)))))])
  (.ret [.cell (.v 2) (some 5),.cell (.v 3) (some 2)]))
  (.skip)))
 (.seq (.st [.eff (some 27) none (.load none (.un (.off 0) (.un .nilchk (.v 0)))),
  .eff (some 28) none (.load none (.un (.off 1) (.un .nilchk (.v 0)))),
  .sets [(6,(.un (.ld none) (.un (.off 0) (.bi (.idx 4) (.v 27) (.v 28)))))]])
 (.seq (.cond (.pick (.pick (.bi (.bin .eql) (.v 6) (.c (.int .i64 4))) (.c (.bool true)) (.bi (.bin .eql) (.v 6) (.c (.int .i64 5)))) (.c (.bool true)) (.bi (.bin .eql) (.v 6) (.c (.int .i64 8))))
  (.seq (.st [.eff (some 29) none (.load none (.un (.off 1) (.v 4))),
   .eff none none (.store 5 (.v 2) (.tup (.build [(.int .i64 0),(.int .i64 0),(.int .i64 0),(.str []),.nils] []) .nil)),
   .eff none none (.store 2 (.v 3) (.tup (.call 0 f_ref5_At) (.cons (.c (.str [99,104,97,114])) (.cons (.v 29) (.cons (.c (.int .i64 2)) .nil)))))])
  (.ret [.cell (.v 2) (some 5),.cell (.v 3) (some 2)]))
  (.skip))
 (.seq (.st [.eff (some 30) none (.calls [true,true,true,true,true,true,true,true,true,true,true,true,true,true,true,true] f_ref5_reader_node (.cons (.v 0) (.cons (.v 1) .nil))),
  .eff (some 7) none (.zbox [(.int .i64 0),(.int .i64 0),(.int .i64 0),(.str []),.nils] T_ref5_reader_node_0),
  .eff (some 8) none (.zbox [.nils,(.int .i64 0)] T_ref5_reader_node_1),
  .eff none none (.store 5 (.v 7) (.un (.ext 0) (.v 30))),
  .eff none none (.store 2 (.v 8) (.un (.ext 1) (.v 30)))])
 (.seq (.st [.eff (some 31) none (.load (some 5) (.v 7)),
  .eff none none (.store 1 (.un (.off 4) (.v 5)) (.tup (.bslice 5 [(.int .i64 0),(.int .i64 0),(.int .i64 0),(.str []),.nils] 1 [0]) (.cons (.v 31) .nil)))])
 (.seq (.st [.eff (some 32) none (.load (some 5) (.v 5)),
  .eff (some 33) none (.load (some 2) (.v 8)),
  .chk (.tup .apart (.cons (.v 2) (.cons (.v 8) (.cons (.v 5) .nil)))),
  .eff none none (.store 5 (.v 2) (.v 32)),
  .chk (.tup .apart (.cons (.v 3) (.cons (.v 8) (.cons (.v 5) .nil)))),
  .eff none none (.store 2 (.v 3) (.v 33))])
 (.ret [.cell (.v 2) (some 5),.cell (.v 3) (some 2)])))))))
 (.skip)))
 (.seq (.seq (.st [.eff (some 34) none (.load none (.un (.off 0) (.v 4)))])
 (.cond (.bi (.bin .neq) (.v 34) (.c (.int .i64 4)))
 (.seq (.st [.eff (some 35) none (.load (some 5) (.v 5)),
  .eff none none (.store 5 (.v 2) (.v 35)),
  .eff none none (.store 2 (.v 3) (.tup (.build [.nils,(.int .i64 0)] []) .nil))])
 (.ret [.cell (.v 2) (some 5),.cell (.v 3) (some 2)]))
 (.skip)))
 (.seq (.st [.eff none none (.store 1 (.un (.off 0) (.v 5)) (.c (.int .i64 0)))])
 (.seq (.cond (.bi (.bin .geq) (.v 1) (.c (.int .i64 32)))
 (.seq (.st [.eff (some 36) none (.load none (.un (.off 1) (.v 4))),
  .eff none none (.store 5 (.v 2) (.tup (.build [(.int .i64 0),(.int .i64 0),(.int .i64 0),(.str []),.nils] []) .nil)),
  .eff none none (.store 2 (.v 3) (.tup (.call 0 f_ref5_At) (.cons (.c (.str [99,104,97,114])) (.cons (.v 36) (.cons (.c (.int .i64 4)) .nil)))))])
 (.ret [.cell (.v 2) (some 5),.cell (.v 3) (some 2)]))
 (.skip))
 (.block 0 (.loop [true,true,true,true,true,true,false,false,false,false,false,false,false,false,false,false,false,false,false,false,false,false,false,false,false,false,false,false,false,false,false,false,false,false,false,false,false,false,false,false,false,false,false,false,false,false,false,false,false,false] b_ref5_reader_node_0)))))))))))))
 (.ret [.cell (.v 2) (some 5),.cell (.v 3) (some 2)]))⟩
noncomputable def r42:ERow:=⟨Tryz.f42,⟨[(1,(.cons 0 0 (.cons 0 1 (.cons 0 2 (.cons 0 4 (.cons 0 5 (.cons 0 6 (.cons 1 3 (.cons 1 7 (.cons 0 8 (.cons 1 9 (.cons 2 10 (.cons 3 11 .nil))))))))))))),(10,(.cons 0 0 (.cons 0 1 (.cons 0 2 (.cons 0 4 (.cons 0 5 (.cons 0 6 (.cons 1 3 (.cons 1 7 (.cons 0 8 (.cons 0 9 .nil))))))))))),(12,(.cons 0 0 (.cons 0 1 (.cons 0 2 (.cons 0 4 (.cons 0 5 (.cons 0 6 (.cons 1 3 (.cons 1 7 (.cons 0 8 (.cons 0 9 (.cons 1 10 (.cons 0 11 .nil))))))))))))),(17,(.cons 1 0 (.cons 1 1 (.cons 2 2 (.cons 2 3 .nil))))),(23,(.cons 0 0 (.cons 0 1 (.cons 0 2 (.cons 0 4 (.cons 0 5 (.cons 0 6 (.cons 1 3 (.cons 1 7 (.cons 0 8 (.cons 0 9 .nil))))))))))),(25,(.cons 0 0 (.cons 0 1 (.cons 0 2 (.cons 0 4 (.cons 0 5 (.cons 0 6 (.cons 1 3 (.cons 1 7 (.cons 0 8 (.cons 0 9 (.cons 1 10 (.cons 0 11 .nil))))))))))))),(30,(.cons 0 0 (.cons 1 1 (.cons 2 2 (.cons 2 3 .nil)))))],[(0,[true,true,false,false,true,true,true,true])],[],[],[],[]⟩,⟨180,[0,1,4,5,6,7,8,9,10,11,12,16,20,26,33,38,42,47,51,54,56,58,60,63,68,72,77,82,86,102,107,110,113,114,116,118,125,130,134,139,144,148,156,160,166,170,173,175,176,178],[22,89,151],[]⟩,2,e_ref5_reader_node⟩
def e_ref5_Head:EFunc:=⟨1,6,
 (.seq (.st [.eff (some 1) none (.box 5 T_ref5_Head_0 (.v 0))])
 (.seq (.seq (.st [.eff (some 2) none (.load none (.un (.off 0) (.v 1))),
  .eff (some 3) (some ((.bi (.bin .eql) (.v 2) (.c (.int .i64 0))),true)) (.load none (.un (.off 4) (.v 1))),
  .eff (some 4) (some ((.pick (.bi (.bin .eql) (.v 2) (.c (.int .i64 0))) (.bi (.bin .gtr) (.un .len (.v 3)) (.c (.int .i64 0))) (.c (.bool false))),true)) (.load none (.un (.off 4) (.v 1)))])
 (.cond (.pick (.pick (.bi (.bin .eql) (.v 2) (.c (.int .i64 0))) (.bi (.bin .gtr) (.un .len (.v 3)) (.c (.int .i64 0))) (.c (.bool false))) (.bi (.bin .eql) (.un (.ld none) (.un (.off 0) (.bi (.idx 5) (.v 4) (.c (.int .i64 0))))) (.c (.int .i64 2))) (.c (.bool false)))
 (.seq (.st [.eff (some 5) none (.load none (.un (.off 4) (.v 1)))])
 (.ret [.e (.un (.ld none) (.un (.off 3) (.bi (.idx 5) (.v 5) (.c (.int .i64 0)))))]))
 (.skip)))
 (.ret [.e (.c (.str []))])))⟩
noncomputable def r43:ERow:=⟨Tryz.f43,⟨[],[],[],[],[],[]⟩,⟨25,[0,1,4,8,14,21],[17,24],[]⟩,1,e_ref5_Head⟩
def b_ref9_Find_0:EC :=
 (.seq (.cond (.bi (.bin .lss) (.v 2) (.un .len (.v 0)))
 (.skip)
 (.exit 0))
 (.seq (.block 1 (.cond (.bi (.bin .eql) (.un (.ld none) (.un (.off 0) (.bi (.idx 2) (.v 0) (.v 2)))) (.v 1))
  (.ret [.e (.v 2)])
  (.skip)))
 (.st [.sets [(2,(.bi (.bin .add) (.v 2) (.c (.int .i64 1))))]])))
def e_ref9_Find:EFunc:=⟨2,3,
 (.seq (.seq (.st [.sets [(2,(.c (.int .i64 0)))]])
 (.block 0 (.loop [true,true,true] b_ref9_Find_0)))
 (.ret [.e (.c (.int .i64 (-1)))]))⟩
noncomputable def r44:ERow:=⟨Tryz.f44,⟨[],[(0,[true,true,false,false,false,true])],[],[],[],[]⟩,⟨20,[0,1,5],[16],[]⟩,2,e_ref9_Find⟩
def b_ref9_Template_Slot_0:EC :=
 (.seq (.seq (.st [.eff (some 4) none (.load none (.un (.off 1) (.v 2)))])
 (.cond (.bi (.bin .lss) (.v 3) (.un .len (.v 4)))
 (.skip)
 (.exit 0)))
 (.seq (.block 1 (.seq (.st [.eff (some 5) none (.load none (.un (.off 1) (.v 2)))])
 (.cond (.bi (.bin .eql) (.un (.ld none) (.un (.off 0) (.bi (.idx 4) (.v 5) (.v 3)))) (.v 1))
  (.ret [.e (.v 3)])
  (.skip))))
 (.st [.sets [(3,(.bi (.bin .add) (.v 3) (.c (.int .i64 1))))]])))
def e_ref9_Template_Slot:EFunc:=⟨2,6,
 (.seq (.st [.eff (some 2) none (.box 2 T_ref9_Template_Slot_0 (.v 0))])
 (.seq (.seq (.st [.sets [(3,(.c (.int .i64 0)))]])
 (.block 0 (.loop [false,true,true,true,false,false] b_ref9_Template_Slot_0)))
 (.ret [.e (.c (.int .i64 (-1)))])))⟩
noncomputable def r45:ERow:=⟨Tryz.f45,⟨[],[(0,[false,true,true,false,false,true])],[],[],[],[]⟩,⟨22,[0,1,2,5,8,14],[18],[]⟩,2,e_ref9_Template_Slot⟩
def e_ref11_term:EFunc:=⟨1,15,
 (.seq (.st [.eff (some 1) none (.box 5 T_ref11_term_0 (.v 0)),
  .eff (some 2) none (.zbox [(.int .i64 0),(.bool false),(.str []),(.int .i64 0),(.int .i64 0),(.str [])] T_ref11_term_1)])
 (.seq (.seq (.st [.eff (some 5) none (.load none (.un (.off 0) (.v 1))),
  .eff (some 6) (some ((.bi (.bin .eql) (.v 5) (.c (.int .i64 8))),true)) (.load none (.un (.off 4) (.v 1)))])
 (.cond (.pick (.bi (.bin .eql) (.v 5) (.c (.int .i64 8))) (.bi (.bin .eql) (.un .len (.v 6)) (.c (.int .i64 1))) (.c (.bool false)))
 (.seq (.st [.eff (some 8) none (.load none (.un (.off 4) (.v 1))),
  .sets [(7,(.tup (.call 0 f_ref11_term) (.cons (.un (.ld (some 5)) (.bi (.idx 5) (.v 8) (.c (.int .i64 0)))) .nil)))],
  .eff (some 3) none (.zbox [(.int .i64 0),(.bool false),(.str []),(.int .i64 0),(.int .i64 0),(.str [])] T_ref11_term_1),
  .eff none none (.store 6 (.v 3) (.un (.ext 0) (.v 7)))])
 (.seq (.st [.eff none none (.store 1 (.un (.off 1) (.v 3)) (.c (.bool true)))])
 (.seq (.st [.eff (some 9) none (.load (some 6) (.v 3)),
  .eff none none (.store 6 (.v 2) (.v 9))])
 (.ret [.cell (.v 2) (some 6),.e (.un (.ext 1) (.v 7))]))))
 (.skip)))
 (.seq (.seq (.st [.eff (some 10) none (.load none (.un (.off 0) (.v 1)))])
 (.cond (.bi (.bin .eql) (.v 10) (.c (.int .i64 6)))
 (.seq (.st [.eff (some 11) none (.load none (.un (.off 3) (.v 1))),
  .eff none none (.store 6 (.v 2) (.tup (.build [(.int .i64 0),(.bool false),(.str []),(.int .i64 0),(.int .i64 0),(.str [])] [(2,1)]) (.cons (.v 11) .nil)))])
 (.ret [.cell (.v 2) (some 6),.e (.c (.bool true))]))
 (.skip)))
 (.seq (.st [.eff (some 13) none (.load (some 5) (.v 1)),
  .sets [(12,(.tup (.call 0 f_ref5_Value) (.cons (.v 13) .nil)))],
  .eff (some 4) none (.zbox [(.int .i64 0),(.int .i64 0),(.str [])] T_ref11_term_2),
  .eff none none (.store 3 (.v 4) (.un (.ext 0) (.v 12)))])
 (.seq (.st [.eff (some 14) none (.load (some 3) (.v 4)),
  .eff none none (.store 6 (.v 2) (.tup (.build [(.int .i64 0),(.bool false),(.str []),(.int .i64 0),(.int .i64 0),(.str [])] [(3,3)]) (.cons (.v 14) .nil)))])
 (.ret [.cell (.v 2) (some 6),.e (.un (.ext 1) (.v 12))]))))))⟩
noncomputable def r46:ERow:=⟨Tryz.f46,⟨[],[],[],[],[],[]⟩,⟨42,[0,1,2,4,6,9,13,17,19,26,29,32,34,35,39],[21],[17,34]⟩,1,e_ref11_term⟩
def e_ref3_Sym:EFunc:=⟨1,2,
 (.seq (.st [.eff (some 1) none (.zbox [(.int .i64 0),(.int .i64 0),(.str [])] T_ref3_Sym_0)])
 (.seq (.st [.eff none none (.store 3 (.v 1) (.tup (.build [(.int .i64 0),(.int .i64 0),(.str [])] [(0,1),(2,1)]) (.cons (.c (.int .i64 2)) (.cons (.v 0) .nil))))])
 (.ret [.cell (.v 1) (some 3)])))⟩
noncomputable def r47:ERow:=⟨Tryz.f47,⟨[],[],[],[],[],[]⟩,⟨5,[0,2],[],[]⟩,1,e_ref3_Sym⟩
def e_slices_Clone_eval_Bind_eval_Bind:EFunc:=⟨1,2,
 (.seq (.cond (.bi (.eqs 3 false) (.v 0) (.c .nils))
 (.ret [.e (.c .nils)])
 (.skip))
 (.seq (.st [.eff (some 1) none (.append 4 48 T_slices_Clone_eval_Bind_eval_Bind_0 (.tup (.bslice 4 [(.str []),(.int .i64 0),(.int .i64 0),(.str [])] 0 []) .nil) (.v 0))])
 (.ret [.e (.v 1)])))⟩
noncomputable def r48:ERow:=⟨Tryz.f48,⟨[],[],[],[],[],[]⟩,⟨8,[0,7],[],[]⟩,1,e_slices_Clone_eval_Bind_eval_Bind⟩
def e_pat_at:EFunc:=⟨2,6,
 (.seq (.st [.eff (some 2) none (.box 3 T_pat_at_0 (.v 0)),
  .eff (some 3) none (.zbox [(.int .i64 0),(.int .i64 0),(.str [])] T_pat_at_1)])
 (.seq (.seq (.st [.eff (some 4) (some ((.bi (.bin .lss) (.v 1) (.c (.int .i64 0))),false)) (.load none (.un (.off 2) (.v 2)))])
 (.cond (.pick (.bi (.bin .lss) (.v 1) (.c (.int .i64 0))) (.c (.bool true)) (.bi (.bin .geq) (.v 1) (.un .len (.v 4))))
 (.seq (.st [.eff none none (.store 3 (.v 3) (.tup (.build [(.int .i64 0),(.int .i64 0),(.str [])] []) .nil))])
 (.ret [.cell (.v 3) (some 3),.e (.c (.bool false))]))
 (.skip)))
 (.seq (.st [.eff (some 5) none (.load none (.un (.off 2) (.v 2))),
  .eff none none (.store 3 (.v 3) (.un (.ld (some 3)) (.bi (.idx 3) (.v 5) (.v 1))))])
 (.ret [.cell (.v 3) (some 3),.e (.c (.bool true))]))))⟩
noncomputable def r49:ERow:=⟨Tryz.f49,⟨[],[],[],[],[],[]⟩,⟨21,[0,1,2,4,11,17],[20],[]⟩,2,e_pat_at⟩
def e_val_Same:EFunc:=⟨2,6,
 (.seq (.st [.eff (some 2) none (.box 3 T_val_Same_0 (.v 0)),
  .eff (some 3) none (.box 3 T_val_Same_0 (.v 1))])
 (.seq (.st [.eff (some 4) none (.load (some 3) (.v 2)),
  .eff (some 5) none (.load (some 3) (.v 3))])
 (.ret [.e (.bi (.bin .eql) (.tup (.call 0 f_val_Compare) (.cons (.v 4) (.cons (.v 5) .nil))) (.c (.int .i64 0)))])))⟩
noncomputable def r51:ERow:=⟨Tryz.f51,⟨[],[],[],[],[],[]⟩,⟨9,[0,1,2,3,5,6],[],[]⟩,2,e_val_Same⟩
def e_slices_Clip_eval_Bind_eval_Bind:EFunc:=⟨1,1,
 (.ret [.e (.lsub 4 false true true (.v 0) (.c .undef) (.un .len (.v 0)) (.un .len (.v 0)))])⟩
noncomputable def r52:ERow:=⟨Tryz.f52,⟨[],[],[],[],[],[]⟩,⟨9,[0],[],[]⟩,1,e_slices_Clip_eval_Bind_eval_Bind⟩
def e_ref3_Same:EFunc:=⟨2,12,
 (.seq (.st [.eff (some 2) none (.box 3 T_ref3_Same_0 (.v 0)),
  .eff (some 3) none (.box 3 T_ref3_Same_0 (.v 1))])
 (.seq (.st [.eff (some 4) none (.load none (.un (.off 0) (.v 2))),
  .eff (some 5) none (.load none (.un (.off 0) (.v 3))),
  .eff (some 6) (some ((.bi (.bin .eql) (.v 4) (.v 5)),true)) (.load none (.un (.off 1) (.v 2))),
  .eff (some 7) (some ((.bi (.bin .eql) (.v 4) (.v 5)),true)) (.load none (.un (.off 1) (.v 3))),
  .sets [(8,(.pick (.bi (.bin .eql) (.v 4) (.v 5)) (.bi (.bin .eql) (.v 6) (.v 7)) (.c (.bool false)))),(9,(.gd true (.pick (.bi (.bin .eql) (.v 4) (.v 5)) (.bi (.bin .eql) (.v 6) (.v 7)) (.c (.bool false))) (.un (.off 2) (.v 2))))],
  .eff (some 10) (some ((.v 8),true)) (.load none (.v 9)),
  .eff (some 11) (some ((.v 8),true)) (.load none (.un (.off 2) (.v 3)))])
 (.ret [.e (.pick (.v 8) (.bi (.bin .eql) (.v 10) (.v 11)) (.c (.bool false)))])))⟩
noncomputable def r54:ERow:=⟨Tryz.f54,⟨[],[],[],[],[],[]⟩,⟨24,[0,1,2,3,6,8,12,14,17,18,19,21],[],[]⟩,2,e_ref3_Same⟩
def e_ref3_Int:EFunc:=⟨1,2,
 (.seq (.st [.eff (some 1) none (.zbox [(.int .i64 0),(.int .i64 0),(.str [])] T_ref3_Int_0)])
 (.seq (.st [.eff none none (.store 3 (.v 1) (.tup (.build [(.int .i64 0),(.int .i64 0),(.str [])] [(0,1),(1,1)]) (.cons (.c (.int .i64 1)) (.cons (.v 0) .nil))))])
 (.ret [.cell (.v 1) (some 3)])))⟩
noncomputable def r55:ERow:=⟨Tryz.f55,⟨[],[],[],[],[],[]⟩,⟨5,[0,2],[],[]⟩,1,e_ref3_Int⟩
def e_slices_Contains_string_string:EFunc:=⟨2,2,
 (.ret [.e (.bi (.bin .geq) (.tup (.call 0 f_slices_Index_string_string) (.cons (.v 0) (.cons (.v 1) .nil))) (.c (.int .i64 0)))])⟩
noncomputable def r56:ERow:=⟨Tryz.f56,⟨[],[],[],[],[],[]⟩,⟨9,[0,1],[],[]⟩,2,e_slices_Contains_string_string⟩
def e_slices_Clip_string_string:EFunc:=⟨1,1,
 (.ret [.e (.lsub 1 false true true (.v 0) (.c .undef) (.un .len (.v 0)) (.un .len (.v 0)))])⟩
noncomputable def r57:ERow:=⟨Tryz.f57,⟨[],[],[],[],[],[]⟩,⟨9,[0],[],[]⟩,1,e_slices_Clip_string_string⟩
def b_law9_To_0:EC :=
 (.seq (.seq (.st [.eff (some 6) none (.load none (.un (.off 1) (.v 1)))])
 (.cond (.bi (.bin .lss) (.v 4) (.un .len (.v 6)))
 (.skip)
 (.exit 0)))
 (.seq (.block 1 (.st [.eff (some 7) none (.load none (.un (.off 1) (.v 3))),
  .eff (some 8) none (.load none (.un (.off 1) (.v 1))),
  .eff (some 9) none (.load none (.un (.off 1) (.v 1))),
  .eff (some 10) none (.append 4 48 T_law9_To_0 (.v 7) (.tup (.bslice 4 [(.str []),(.int .i64 0),(.int .i64 0),(.str [])] 1 [0]) (.cons (.tup (.build [(.str []),(.int .i64 0),(.int .i64 0),(.str [])] [(0,1),(1,3)]) (.cons (.un (.ld none) (.un (.off 0) (.bi (.idx 4) (.v 8) (.v 4)))) (.cons (.un (.ld (some 3)) (.un (.off 1) (.bi (.idx 4) (.v 9) (.v 4)))) .nil))) .nil))),
  .eff none none (.store 1 (.un (.off 1) (.v 3)) (.v 10))]))
 (.st [.sets [(4,(.bi (.bin .add) (.v 4) (.c (.int .i64 1))))]])))
def e_law9_To:EFunc:=⟨1,12,
 (.seq (.st [.eff (some 1) none (.box 2 T_law9_To_1 (.v 0)),
  .eff (some 2) none (.zbox [(.str []),.nils] T_law9_To_2)])
 (.seq (.st [.eff (some 5) none (.load none (.un (.off 0) (.v 1))),
  .eff (some 3) none (.zbox [(.str []),.nils] T_law9_To_2),
  .eff none none (.store 2 (.v 3) (.tup (.build [(.str []),.nils] [(0,1)]) (.cons (.v 5) .nil)))])
 (.seq (.seq (.st [.sets [(4,(.c (.int .i64 0)))]])
 (.block 0 (.loop [false,true,true,true,true,false,false,false,false,false,false,false] b_law9_To_0)))
 (.seq (.st [.eff (some 11) none (.load (some 2) (.v 3)),
  .eff none none (.store 2 (.v 2) (.v 11))])
 (.ret [.cell (.v 2) (some 2)])))))⟩
noncomputable def r58:ERow:=⟨Tryz.f58,⟨[(5,(.cons 0 0 (.cons 0 2 (.cons 0 4 (.cons 0 8 (.cons 0 10 (.cons 1 1 (.cons 1 3 (.cons 0 5 (.cons 0 6 (.cons 1 7 (.cons 1 9 (.cons 0 11 (.cons 0 12 (.cons 1 13 (.cons 0 14 (.cons 2 15 (.cons 2 16 (.cons 0 17 (.cons 3 18 .nil))))))))))))))))))))],[(0,[false,true,true,true,true])],[],[],[],[]⟩,⟨34,[0,1,2,3,4,6,10,16,18,24,31,33],[22,28],[]⟩,1,e_law9_To⟩
def e_sexp_Head:EFunc:=⟨1,6,
 (.seq (.st [.eff (some 1) none (.box 5 T_sexp_Head_0 (.v 0))])
 (.seq (.seq (.st [.eff (some 2) none (.load none (.un (.off 0) (.v 1))),
  .eff (some 3) (some ((.bi (.bin .neq) (.v 2) (.c (.int .i64 0))),false)) (.load none (.un (.off 4) (.v 1))),
  .eff (some 4) (some ((.pick (.bi (.bin .neq) (.v 2) (.c (.int .i64 0))) (.c (.bool true)) (.bi (.bin .eql) (.un .len (.v 3)) (.c (.int .i64 0)))),false)) (.load none (.un (.off 4) (.v 1)))])
 (.cond (.pick (.pick (.bi (.bin .neq) (.v 2) (.c (.int .i64 0))) (.c (.bool true)) (.bi (.bin .eql) (.un .len (.v 3)) (.c (.int .i64 0)))) (.c (.bool true)) (.bi (.bin .neq) (.un (.ld none) (.un (.off 0) (.bi (.idx 5) (.v 4) (.c (.int .i64 0))))) (.c (.int .i64 2))))
 (.ret [.e (.c (.str []))])
 (.skip)))
 (.seq (.st [.eff (some 5) none (.load none (.un (.off 4) (.v 1)))])
 (.ret [.e (.un (.ld none) (.un (.off 3) (.bi (.idx 5) (.v 5) (.c (.int .i64 0)))))]))))⟩
noncomputable def r59:ERow:=⟨Tryz.f59,⟨[],[],[],[],[],[]⟩,⟨25,[0,1,4,8,14,21],[17,24],[]⟩,1,e_sexp_Head⟩
def e_pat_fault:EFunc:=⟨2,5,
 (.seq (.st [.eff (some 2) none (.box 5 T_pat_fault_0 (.v 0))])
 (.seq (.st [.eff (some 3) none (.load none (.un (.off 1) (.v 2))),
  .eff (some 4) none (.box 3 T_pat_fault_1 (.tup (.build [(.str []),(.int .i64 0),.nili] [(0,1),(1,1),(2,1)]) (.cons (.c (.str [99,104,97,114])) (.cons (.v 3) (.cons (.un (.iface T_pat_fault_2) (.v 1)) .nil)))))])
 (.ret [.e (.un (.iface T_pat_fault_3) (.v 4))])))⟩
noncomputable def r60:ERow:=⟨Tryz.f60,⟨[],[],[],[],[],[]⟩,⟨12,[0,1,2,6,10],[],[]⟩,2,e_pat_fault⟩
def e_pat_find:EFunc:=⟨2,5,
 (.seq (.st [.eff (some 2) none (.box 1 T_pat_find_0 (.v 0)),
  .eff (some 3) none (.zbox [(.str []),.nils] T_pat_find_1)])
 (.seq (.st [.eff (some 4) none (.calls [false,true,true,true,true,true,true,true,true,true,true,true,true,true,true,true] f_slices_IndexFunc_tmpl_Template_tmpl_Template (.cons (.v 1) (.cons (.tup (.mkfn f_pat_find_1) (.cons (.v 2) .nil)) .nil)))])
 (.seq (.cond (.bi (.bin .lss) (.v 4) (.c (.int .i64 0)))
 (.seq (.st [.eff none none (.store 2 (.v 3) (.tup (.build [(.str []),.nils] []) .nil))])
 (.ret [.cell (.v 3) (some 2),.e (.c (.bool false))]))
 (.skip))
 (.seq (.st [.eff none none (.store 2 (.v 3) (.un (.ld (some 2)) (.bi (.idx 2) (.v 1) (.v 4))))])
 (.ret [.cell (.v 3) (some 2),.e (.c (.bool true))])))))⟩
noncomputable def r61:ERow:=⟨Tryz.f61,⟨[],[],[],[],[],[]⟩,⟨17,[0,1,2,4,9],[16],[]⟩,2,e_pat_find⟩
def e_tmpl_Template_Slot:EFunc:=⟨2,6,
 (.seq (.st [.eff (some 2) none (.box 2 T_tmpl_Template_Slot_0 (.v 0)),
  .eff (some 3) none (.box 1 T_tmpl_Template_Slot_1 (.v 1))])
 (.seq (.st [.eff (some 4) none (.load none (.un (.off 1) (.v 2))),
  .eff (some 5) none (.calls [false,true,true,true,true,true,true,true,true,true,true,true,true,true,true,true] f_slices_IndexFunc_tmpl_Slot_tmpl_Slot (.cons (.v 4) (.cons (.tup (.mkfn f_tmpl_Template_Slot_1) (.cons (.v 3) .nil)) .nil)))])
 (.ret [.e (.bi (.mm true) (.v 5) (.c (.int .i64 0))),.e (.bi (.bin .geq) (.v 5) (.c (.int .i64 0)))])))⟩
noncomputable def r62:ERow:=⟨Tryz.f62,⟨[],[],[],[],[],[]⟩,⟨15,[0,1,2,3,8,10],[],[]⟩,2,e_tmpl_Template_Slot⟩
def e_slices_ContainsFunc_pat_Test_pat_Test:EFunc:=⟨2,3,
 (.seq (.st [.eff (some 2) none (.calls [false,true,true,true,true,true,true,true,true,true,true,true,true,true,true,true] f_slices_IndexFunc_pat_Test_pat_Test (.cons (.v 0) (.cons (.v 1) .nil)))])
 (.ret [.e (.bi (.bin .geq) (.v 2) (.c (.int .i64 0)))]))⟩
noncomputable def r63:ERow:=⟨Tryz.f63,⟨[],[],[],[],[],[]⟩,⟨9,[0,1,7],[],[]⟩,2,e_slices_ContainsFunc_pat_Test_pat_Test⟩
def e_pat_Parse_1:EFunc:=⟨2,5,
 (.seq (.st [.eff (some 2) none (.box 6 T_pat_Parse_1_0 (.v 0))])
 (.seq (.st [.eff (some 3) none (.load none (.un (.off 0) (.v 2))),
  .eff (some 4) none (.load none (.v 1))])
 (.ret [.e (.bi (.bin .eql) (.v 3) (.v 4))])))⟩
noncomputable def r64:ERow:=⟨Tryz.f64,⟨[],[],[],[],[],[]⟩,⟨8,[0,1,2,5,6],[],[]⟩,2,e_pat_Parse_1⟩
def b_pat_term_0:EC :=
 (.seq (.seq (.st [.eff (some 5) none (.load none (.un (.off 0) (.v 1))),
  .eff (some 6) (some ((.bi (.bin .eql) (.v 5) (.c (.int .i64 8))),true)) (.load none (.un (.off 4) (.v 1)))])
 (.cond (.pick (.bi (.bin .eql) (.v 5) (.c (.int .i64 8))) (.bi (.bin .eql) (.un .len (.v 6)) (.c (.int .i64 1))) (.c (.bool false)))
 (.skip)
 (.exit 0)))
 (.block 1 (.seq (.st [.eff none none (.store 1 (.un (.off 1) (.v 3)) (.c (.bool true)))])
 (.st [.eff (some 7) none (.load none (.un (.off 4) (.v 1))),
  .eff none none (.store 5 (.v 1) (.un (.ld (some 5)) (.bi (.idx 5) (.v 7) (.c (.int .i64 0)))))]))))
def e_pat_term:EFunc:=⟨1,15,
 (.seq (.st [.eff (some 1) none (.box 5 T_pat_term_0 (.v 0)),
  .eff (some 2) none (.zbox [(.int .i64 0),(.bool false),(.str []),(.int .i64 0),(.int .i64 0),(.str [])] T_pat_term_1)])
 (.seq (.st [.eff (some 3) none (.zbox [(.int .i64 0),(.bool false),(.str []),(.int .i64 0),(.int .i64 0),(.str [])] T_pat_term_1)])
 (.seq (.block 0 (.loop [false,true,true,true,false,false,false,false,false,false,false,false,false,false,false] b_pat_term_0))
 (.seq (.seq (.st [.eff (some 8) none (.load none (.un (.off 0) (.v 1)))])
 (.cond (.bi (.bin .eql) (.v 8) (.c (.int .i64 6)))
 (.seq (.st [.eff (some 9) none (.load none (.un (.off 3) (.v 1))),
  .eff none none (.store 1 (.un (.off 2) (.v 3)) (.v 9))])
 (.seq (.st [.eff (some 10) none (.load (some 6) (.v 3)),
  .eff none none (.store 6 (.v 2) (.v 10))])
 (.ret [.cell (.v 2) (some 6),.e (.c (.bool true))])))
 (.skip)))
 (.seq (.st [.eff (some 12) none (.load (some 5) (.v 1)),
  .sets [(11,(.tup (.call 0 f_sexp_Value) (.cons (.v 12) .nil)))],
  .eff (some 4) none (.zbox [(.int .i64 0),(.int .i64 0),(.str [])] T_pat_term_2),
  .eff none none (.store 3 (.v 4) (.un (.ext 0) (.v 11)))])
 (.seq (.st [.eff (some 13) none (.load (some 3) (.v 4)),
  .eff none none (.store 3 (.un (.off 3) (.v 3)) (.v 13))])
 (.seq (.st [.eff (some 14) none (.load (some 6) (.v 3)),
  .eff none none (.store 6 (.v 2) (.v 14))])
 (.ret [.cell (.v 2) (some 6),.e (.un (.ext 1) (.v 11))]))))))))⟩
noncomputable def r65:ERow:=⟨Tryz.f65,⟨[],[(0,[false,true,true,false,true])],[],[],[],[]⟩,⟨37,[0,1,2,4,5,8,12,18,22,25,27,28,29,33,35],[20],[28]⟩,1,e_pat_term⟩
def b_sexp_Told_0:EC :=
 (.seq (.cond (.bi (.eqs 1 true) (.v 0) (.c .nili))
 (.skip)
 (.exit 0))
 (.block 1 (.seq (.st [.eff (some 2) none (.zbox [.nilp] T_sexp_Told_0)])
 (.seq (.seq (.st [.eff (some 3) none (.calls [true,true,true,true,true,true,true,true,true,true,true,true,true,true,true,true] f_errors_As (.cons (.v 0) (.cons (.un (.iface T_sexp_Told_1) (.v 2)) .nil)))])
 (.cond (.un .not (.v 3))
  (.ret [.e (.bi (.bin .add) (.v 1) (.tup (.call 0 f_sexp_last) (.cons (.v 0) .nil)))])
  (.skip)))
 (.seq (.st [.eff (some 4) none (.load none (.v 2)),
  .eff (some 5) none (.load none (.un (.off 0) (.un .nilchk (.v 4)))),
  .eff (some 6) none (.load none (.v 2)),
  .eff (some 7) none (.load none (.un (.off 1) (.un .nilchk (.v 6)))),
  .sets [(1,(.bi (.bin .add) (.v 1) (.bi (.bin .add) (.bi (.bin .add) (.v 5) (.c (.str [32]))) (.tup (.call 0 f_strconv_Itoa) (.cons (.v 7) .nil)))))]])
 (.seq (.st [.eff (some 8) none (.load none (.v 2)),
  .eff (some 9) none (.load none (.un (.off 2) (.un .nilchk (.v 8)))),
  .sets [(0,(.v 9))]])
 (.cond (.bi (.eqs 1 true) (.v 0) (.c .nili))
  (.st [.sets [(1,(.bi (.bin .add) (.v 1) (.c (.str [58,32]))))]])
  (.skip))))))))
def e_sexp_Told:EFunc:=⟨1,10,
 (.seq (.st [.sets [(1,(.c (.str [])))]])
 (.seq (.block 0 (.loop [true,true,false,false,false,false,false,false,false,false] b_sexp_Told_0))
 (.ret [.e (.v 1)])))⟩
noncomputable def r66:ERow:=⟨Tryz.f66,⟨[(6,(.cons 0 0 (.cons 1 1 (.cons 0 2 (.cons 0 3 (.cons 1 4 (.cons 0 5 (.cons 1 6 (.cons 0 7 (.cons 0 8 (.cons 1 9 (.cons 2 10 (.cons 0 11 (.cons 0 12 (.cons 0 13 .nil)))))))))))))))],[(0,[true,false,false,true])],[],[],[],[]⟩,⟨37,[0,3,4,9,16,19,21,24,28,31],[],[]⟩,1,e_sexp_Told⟩
def b_ref5_Told_0:EC :=
 (.seq (.seq (.st [.eff (some 5) none (.load none (.un (.off 0) (.v 1)))])
 (.cond (.bi (.bin .lss) (.v 3) (.un .len (.v 5)))
 (.skip)
 (.exit 0)))
 (.seq (.block 1 (.st [.eff (some 6) none (.load none (.un (.off 0) (.v 1))),
  .eff (some 7) none (.load none (.un (.off 0) (.v 1))),
  .sets [(2,(.bi (.bin .add) (.bi (.bin .add) (.bi (.bin .add) (.bi (.bin .add) (.v 2) (.un (.ld none) (.un (.off 0) (.bi (.idx 2) (.v 6) (.v 3))))) (.c (.str [32]))) (.tup (.call 0 f_ref1_Text) (.cons (.un (.ld none) (.un (.off 1) (.bi (.idx 2) (.v 7) (.v 3)))) .nil))) (.c (.str [58,32]))))]]))
 (.st [.sets [(3,(.bi (.bin .add) (.v 3) (.c (.int .i64 1))))]])))
def e_ref5_Told:EFunc:=⟨1,9,
 (.seq (.st [.eff (some 1) none (.box 2 T_ref5_Told_0 (.v 0))])
 (.seq (.seq (.st [.eff (some 4) none (.load none (.un (.off 1) (.v 1)))])
 (.cond (.bi (.bin .eql) (.v 4) (.c (.int .i64 0)))
 (.ret [.e (.c (.str []))])
 (.skip)))
 (.seq (.st [.sets [(2,(.c (.str [])))]])
 (.seq (.seq (.st [.sets [(3,(.c (.int .i64 0)))]])
 (.block 0 (.loop [false,true,true,true,false,false,false,false,false] b_ref5_Told_0)))
 (.seq (.st [.eff (some 8) none (.load none (.un (.off 1) (.v 1)))])
 (.ret [.e (.bi (.bin .add) (.v 2) (.tup (.call 0 f_ref5_Word) (.cons (.v 8) .nil)))]))))))⟩
noncomputable def r67:ERow:=⟨Tryz.f67,⟨[(7,(.cons 0 0 (.cons 0 1 (.cons 0 3 (.cons 0 9 (.cons 0 11 (.cons 1 2 (.cons 0 4 (.cons 0 5 (.cons 1 6 (.cons 0 7 (.cons 0 8 (.cons 1 10 (.cons 0 12 (.cons 0 13 (.cons 1 14 (.cons 2 15 (.cons 0 16 (.cons 0 17 (.cons 0 18 .nil))))))))))))))))))))],[(0,[false,true,false,true,true])],[],[],[],[]⟩,⟨38,[0,1,3,4,6,10,17,25,35],[21,29],[]⟩,1,e_ref5_Told⟩
def b_sexp_Number_0:EC :=
 (.seq (.cond (.bi (.bin .leq) (.v 1) (.c (.int .i64 11)))
 (.skip)
 (.exit 0))
 (.seq (.block 1 (.cond (.tup (.call 0 f_errors_Is) (.cons (.v 0) (.cons (.un (.iface T_sexp_Number_0) (.v 1)) .nil)))
  (.ret [.e (.v 1)])
  (.skip)))
 (.st [.sets [(1,(.bi (.bin .add) (.v 1) (.c (.int .i64 1))))]])))
def e_sexp_Number:EFunc:=⟨1,4,
 (.seq (.cond (.bi (.eqs 1 false) (.v 0) (.c .nili))
 (.ret [.e (.c (.int .i64 0))])
 (.skip))
 (.seq (.seq (.st [.sets [(1,(.c (.int .i64 1)))]])
 (.block 0 (.loop [true,true,false,false] b_sexp_Number_0)))
 (.seq (.st [.eff (some 2) none (.zbox [(.int .i64 0)] T_sexp_Number_0),
  .eff none none (.store 1 (.v 2) (.c (.int .i64 2)))])
 (.seq (.st [.eff none none (.calls [true,true,true,true,true,true,true,true,true,true,true,true,true,true,true,true] f_errors_As (.cons (.v 0) (.cons (.un (.iface T_sexp_Number_1) (.v 2)) .nil)))])
 (.seq (.st [.eff (some 3) none (.load none (.v 2))])
 (.ret [.e (.v 3)]))))))⟩
noncomputable def r68:ERow:=⟨Tryz.f68,⟨[],[(0,[true,false,false,true])],[],[],[],[]⟩,⟨20,[0,3,4,19],[],[]⟩,1,e_sexp_Number⟩
def b_slices_EqualFunc_pat_Test_pat_Test_pat_Test_pat_Test_0:EC :=
 (.seq (.cond (.bi (.bin .lss) (.v 7) (.v 6))
 (.skip)
 (.exit 0))
 (.seq (.block 1 (.seq (.st [.eff (some 3) none (.zbox [(.int .i64 0),(.bool false),(.str []),(.int .i64 0),(.int .i64 0),(.str [])] T_slices_EqualFunc_pat_Test_pat_Test_pat_Test_pat_Test_0),
  .eff none none (.store 6 (.v 3) (.un (.ld (some 6)) (.bi (.idx 6) (.v 5) (.v 7))))])
 (.seq (.st [.eff (some 4) none (.zbox [(.int .i64 0),(.bool false),(.str []),(.int .i64 0),(.int .i64 0),(.str [])] T_slices_EqualFunc_pat_Test_pat_Test_pat_Test_pat_Test_0),
  .eff none none (.store 6 (.v 4) (.un (.ld (some 6)) (.bi (.idx 6) (.v 1) (.v 7))))])
 (.seq (.st [.eff (some 8) none (.load (some 6) (.v 3)),
  .eff (some 9) none (.load (some 6) (.v 4)),
  .eff (some 10) none (.callv (.v 2) (.cons (.v 8) (.cons (.v 9) .nil)))])
 (.cond (.un .not (.v 10))
  (.ret [.e (.c (.bool false))])
  (.skip))))))
 (.st [.sets [(7,(.bi (.bin .add) (.v 7) (.c (.int .i64 1))))]])))
def e_slices_EqualFunc_pat_Test_pat_Test_pat_Test_pat_Test:EFunc:=⟨3,11,
 (.seq (.cond (.bi (.bin .neq) (.un .len (.v 0)) (.un .len (.v 1)))
 (.ret [.e (.c (.bool false))])
 (.skip))
 (.seq (.seq (.st [.sets [(5,(.v 0)),(6,(.un .len (.v 0))),(7,(.c (.int .i64 0)))]])
 (.block 0 (.loop [false,true,true,false,false,true,true,true,false,false,false] b_slices_EqualFunc_pat_Test_pat_Test_pat_Test_pat_Test_0)))
 (.ret [.e (.c (.bool true))])))⟩
noncomputable def r71:ERow:=⟨Tryz.f71,⟨[],[(0,[false,true,true,false,false,false,false,false,false,false,false,false,false,false,false,true,true,true])],[],[],[],[]⟩,⟨32,[0,1,2,8,9,15,16,17,27,28,29],[21,25],[]⟩,3,e_slices_EqualFunc_pat_Test_pat_Test_pat_Test_pat_Test⟩
def e_pat_Same_1:EFunc:=⟨2,16,
 (.seq (.st [.eff (some 2) none (.box 6 T_pat_Same_1_0 (.v 0)),
  .eff (some 3) none (.box 6 T_pat_Same_1_0 (.v 1))])
 (.seq (.st [.eff (some 4) none (.load none (.un (.off 0) (.v 2))),
  .eff (some 5) none (.load none (.un (.off 0) (.v 3))),
  .eff (some 6) (some ((.bi (.bin .eql) (.v 4) (.v 5)),true)) (.load none (.un (.off 1) (.v 2))),
  .eff (some 7) (some ((.bi (.bin .eql) (.v 4) (.v 5)),true)) (.load none (.un (.off 1) (.v 3))),
  .sets [(8,(.pick (.bi (.bin .eql) (.v 4) (.v 5)) (.bi (.eqs 0 false) (.v 6) (.v 7)) (.c (.bool false)))),(9,(.gd true (.pick (.bi (.bin .eql) (.v 4) (.v 5)) (.bi (.eqs 0 false) (.v 6) (.v 7)) (.c (.bool false))) (.un (.off 2) (.v 2))))],
  .eff (some 10) (some ((.v 8),true)) (.load none (.v 9)),
  .eff (some 11) (some ((.v 8),true)) (.load none (.un (.off 2) (.v 3))),
  .sets [(12,(.pick (.v 8) (.bi (.bin .eql) (.v 10) (.v 11)) (.c (.bool false)))),(13,(.gd true (.pick (.v 8) (.bi (.bin .eql) (.v 10) (.v 11)) (.c (.bool false))) (.un (.off 3) (.v 2))))],
  .eff (some 14) (some ((.v 12),true)) (.load (some 3) (.v 13)),
  .eff (some 15) (some ((.v 12),true)) (.load (some 3) (.un (.off 3) (.v 3)))])
 (.ret [.e (.pick (.v 12) (.tup (.call 0 f_val_Same) (.cons (.v 14) (.cons (.v 15) .nil))) (.c (.bool false)))])))⟩
noncomputable def r72:ERow:=⟨Tryz.f72,⟨[],[],[],[],[],[]⟩,⟨31,[0,1,2,3,6,8,12,14,17,18,19,21,24,25,26,28],[],[]⟩,2,e_pat_Same_1⟩
def e_ref5_Sym:EFunc:=⟨1,2,
 (.seq (.st [.eff (some 1) none (.zbox [(.int .i64 0),(.int .i64 0),(.int .i64 0),(.str []),.nils] T_ref5_Sym_0)])
 (.seq (.st [.eff none none (.store 5 (.v 1) (.tup (.build [(.int .i64 0),(.int .i64 0),(.int .i64 0),(.str []),.nils] [(0,1),(3,1)]) (.cons (.c (.int .i64 2)) (.cons (.v 0) .nil))))])
 (.ret [.cell (.v 1) (some 5)])))⟩
noncomputable def r73:ERow:=⟨Tryz.f73,⟨[],[],[],[],[],[]⟩,⟨5,[0,2],[],[]⟩,1,e_ref5_Sym⟩
def e_ref5_Of:EFunc:=⟨1,6,
 (.seq (.st [.eff (some 1) none (.box 3 T_ref5_Of_0 (.v 0)),
  .eff (some 2) none (.zbox [(.int .i64 0),(.int .i64 0),(.int .i64 0),(.str []),.nils] T_ref5_Of_1)])
 (.seq (.st [.eff (some 3) none (.load none (.un (.off 0) (.v 1))),
  .eff (some 4) none (.load none (.un (.off 1) (.v 1))),
  .eff (some 5) none (.load none (.un (.off 2) (.v 1))),
  .eff none none (.store 5 (.v 2) (.tup (.build [(.int .i64 0),(.int .i64 0),(.int .i64 0),(.str []),.nils] [(0,1),(2,1),(3,1)]) (.cons (.v 3) (.cons (.v 4) (.cons (.v 5) .nil)))))])
 (.ret [.cell (.v 2) (some 5)])))⟩
noncomputable def r74:ERow:=⟨Tryz.f74,⟨[],[],[],[],[],[]⟩,⟨10,[0,1,2,4,6,8],[],[]⟩,1,e_ref5_Of⟩
def e_ref5_L:EFunc:=⟨1,2,
 (.seq (.st [.eff (some 1) none (.zbox [(.int .i64 0),(.int .i64 0),(.int .i64 0),(.str []),.nils] T_ref5_L_0)])
 (.seq (.st [.eff none none (.store 5 (.v 1) (.tup (.build [(.int .i64 0),(.int .i64 0),(.int .i64 0),(.str []),.nils] [(0,1),(4,1)]) (.cons (.c (.int .i64 0)) (.cons (.v 0) .nil))))])
 (.ret [.cell (.v 1) (some 5)])))⟩
noncomputable def r75:ERow:=⟨Tryz.f75,⟨[],[],[],[],[],[]⟩,⟨5,[0,2],[],[]⟩,1,e_ref5_L⟩
def e_ref7_Put:EFunc:=⟨2,4,
 (.seq (.cond (.tup (.call 0 f_ref7_Has) (.cons (.v 0) (.cons (.v 1) .nil)))
 (.ret [.e (.v 0)])
 (.skip))
 (.seq (.st [.eff (some 2) none (.append 1 16 T_ref7_Put_0 (.tup (.bslice 1 [(.str [])] 0 []) .nil) (.v 0)),
  .eff (some 3) none (.append 1 16 T_ref7_Put_0 (.v 2) (.tup (.bslice 1 [(.str [])] 1 [0]) (.cons (.v 1) .nil)))])
 (.ret [.e (.v 3)])))⟩
noncomputable def r76:ERow:=⟨Tryz.f76,⟨[],[],[],[],[],[]⟩,⟨15,[0,1,11,14],[],[]⟩,2,e_ref7_Put⟩
def b_lex_Scan_0:EC :=
 (.seq (.seq (.st [.eff (some 5) none (.load none (.un (.off 1) (.un .nilchk (.v 1))))])
 (.cond (.bi (.bin .lss) (.v 5) (.un .len (.v 0)))
 (.skip)
 (.exit 0)))
 (.seq (.block 1 (.seq (.st [.eff (some 6) none (.load none (.un (.off 1) (.un .nilchk (.v 1))))])
 (.seq (.st [.eff (some 7) none (.calls [true,true,true,true,true,true,true,true,true,true,true,true,true,true,true,true] f_lex_scanner_token (.cons (.v 1) .nil)),
  .eff (some 3) none (.zbox [(.int .i64 0),(.int .i64 0),(.int .i64 0),(.str [])] T_lex_Scan_0),
  .eff none none (.store 4 (.v 3) (.un (.ext 0) (.v 7)))])
 (.seq (.cond (.bi (.bin .neq) (.un (.ext 1) (.v 7)) (.c (.int .i64 0)))
  (.ret [.e (.c .nils),.e (.tup (.call 0 f_lex_fault) (.cons (.v 6) (.cons (.un (.ext 1) (.v 7)) .nil)))])
  (.skip))
 (.seq (.st [.eff none none (.store 1 (.un (.off 1) (.v 3)) (.v 6))])
 (.st [.eff (some 8) none (.load (some 4) (.v 3)),
  .eff (some 9) none (.append 4 40 T_lex_Scan_0 (.v 2) (.tup (.bslice 4 [(.int .i64 0),(.int .i64 0),(.int .i64 0),(.str [])] 1 [0]) (.cons (.v 8) .nil))),
  .sets [(2,(.v 9))]]))))))
 (.st [.eff none none (.calls [true,true,true,true,true,true,true,true,true,true,true,true,true,true,true,true] f_lex_scanner_skip (.cons (.v 1) .nil))])))
def e_lex_Scan:EFunc:=⟨1,10,
 (.seq (.cond (.bi (.bin .gtr) (.un .len (.v 0)) (.c (.int .i64 65536)))
 (.ret [.e (.c .nils),.e (.tup (.call 0 f_lex_fault) (.cons (.c (.int .i64 0)) (.cons (.c (.int .i64 4)) .nil)))])
 (.skip))
 (.seq (.st [.eff (some 4) none (.box 2 T_lex_Scan_1 (.tup (.build [.nils,(.int .i64 0)] [(0,1)]) (.cons (.v 0) .nil))),
  .sets [(1,(.v 4))]])
 (.seq (.st [.sets [(2,(.c .nils))]])
 (.seq (.seq (.st [.eff none none (.calls [true,true,true,true,true,true,true,true,true,true,true,true,true,true,true,true] f_lex_scanner_skip (.cons (.v 1) .nil))])
 (.block 0 (.loop [true,true,true,false,false,false,false,false,false,false] b_lex_Scan_0)))
 (.ret [.e (.v 2),.e (.c .nili)])))))⟩
noncomputable def r77:ERow:=⟨Tryz.f77,⟨[],[(0,[true,false,false,false,true,true])],[],[],[],[]⟩,⟨48,[0,4,5,7,15,21,30,33,44,46],[],[]⟩,1,e_lex_Scan⟩
def e_sexp_reader_step:EFunc:=⟨2,25,
 (.seq (.st [.eff (some 4) none (.load none (.un (.off 0) (.un .nilchk (.v 0)))),
  .eff (some 5) none (.load (some 4) (.bi (.idx 4) (.v 4) (.v 1))),
  .eff (some 2) none (.zbox [(.int .i64 0),(.int .i64 0),(.int .i64 0),(.str [])] T_sexp_reader_step_1),
  .eff none none (.store 4 (.v 2) (.v 5))])
 (.seq (.seq (.st [.eff (some 6) none (.load none (.un (.off 0) (.v 2)))])
 (.block 0 (.cond (.bi (.bin .eql) (.v 6) (.c (.int .i64 8)))
  (.seq (.st [.eff (some 10) none (.load (some 4) (.v 2)),
   .eff (some 11) none (.calls [true,true,true,true,true,true,true,true,true,true,true,true,true,true,true,true] f_sexp_reader_not (.cons (.v 0) (.cons (.v 10) (.cons (.v 1) .nil))))])
  (.ret [.e (.c (.int .i64 2)),.e (.v 11)]))
  (.cond (.bi (.bin .eql) (.v 6) (.c (.int .i64 4)))
  (.seq (.seq (.st [.eff (some 12) none (.load none (.un (.off 2) (.un .nilchk (.v 0))))])
  (.cond (.bi (.bin .geq) (.un .len (.v 12)) (.c (.int .i64 32)))
   (.seq (.st [.eff (some 13) none (.load none (.un (.off 1) (.v 2)))])
   (.ret [.e (.c (.int .i64 0)),.e (.tup (.call 0 f_sexp_fault) (.cons (.v 13) (.cons (.c (.int .i64 4)) .nil)))]))
   (.skip)))
  (.seq (.seq (.st [.eff (some 14) none (.load (some 4) (.v 2)),
   .eff (some 15) none (.calls [true,true,true,true,true,true,true,true,true,true,true,true,true,true,true,true] f_sexp_reader_count (.cons (.v 0) (.cons (.v 14) .nil)))])
  (.cond (.bi (.eqs 1 true) (.v 15) (.c .nili))
   (.ret [.e (.c (.int .i64 0)),.e (.v 15)])
   (.skip)))
  (.st [.eff (some 16) none (.load none (.un (.off 2) (.un .nilchk (.v 0)))),
   .eff (some 17) none (.load none (.un (.off 1) (.v 2))),
   .eff (some 18) none (.happend 5 64 T_sexp_reader_step_0 (.v 16) (.tup (.bslice 5 [(.int .i64 0),(.int .i64 0),(.int .i64 0),(.str []),.nils] 1 [0]) (.cons (.c (.agg [(.int .i64 0),(.int .i64 0),(.int .i64 0),(.str []),.nils])) .nil))),
   .swap (.store 5 (.bi (.idx 5) (.v 18) (.un .len (.v 16))) (.tup (.build [(.int .i64 0),(.int .i64 0),(.int .i64 0),(.str []),.nils] [(0,1),(1,1)]) (.cons (.c (.int .i64 0)) (.cons (.v 17) .nil)))) (.store 1 (.un (.off 2) (.un .nilchk (.v 0))) (.v 18))])))
  (.cond (.bi (.bin .eql) (.v 6) (.c (.int .i64 5)))
   (.seq (.st [.eff (some 19) none (.load none (.un (.off 2) (.un .nilchk (.v 0))))])
   (.seq (.cond (.bi (.bin .lss) (.bi (.bin .sub) (.un .len (.v 19)) (.c (.int .i64 1))) (.c (.int .i64 0)))
   (.seq (.st [.eff (some 20) none (.load none (.un (.off 1) (.v 2)))])
   (.ret [.e (.c (.int .i64 0)),.e (.tup (.call 0 f_sexp_fault) (.cons (.v 20) (.cons (.c (.int .i64 2)) .nil)))]))
   (.skip))
   (.seq (.st [.eff (some 21) none (.load none (.un (.off 2) (.un .nilchk (.v 0)))),
    .eff (some 22) none (.load (some 5) (.bi (.idx 5) (.v 21) (.bi (.bin .sub) (.un .len (.v 19)) (.c (.int .i64 1))))),
    .eff (some 3) none (.zbox [(.int .i64 0),(.int .i64 0),(.int .i64 0),(.str []),.nils] T_sexp_reader_step_0),
    .eff none none (.store 5 (.v 3) (.v 22))])
   (.seq (.st [.eff (some 23) none (.load none (.un (.off 2) (.un .nilchk (.v 0)))),
    .eff none none (.store 1 (.un (.off 2) (.un .nilchk (.v 0))) (.lsub 5 false true false (.v 23) (.c .undef) (.bi (.bin .sub) (.un .len (.v 19)) (.c (.int .i64 1))) (.c .undef)))])
   (.st [.eff (some 24) none (.load (some 5) (.v 3)),
    .eff none none (.calls [true,true,true,true,true,true,true,true,true,true,true,true,true,true,true,true] f_sexp_reader_put (.cons (.v 0) (.cons (.v 24) .nil)))])))))
   (.seq (.seq (.st [.eff (some 7) none (.load (some 4) (.v 2)),
    .eff (some 8) none (.calls [true,true,true,true,true,true,true,true,true,true,true,true,true,true,true,true] f_sexp_reader_count (.cons (.v 0) (.cons (.v 7) .nil)))])
   (.cond (.bi (.eqs 1 true) (.v 8) (.c .nili))
   (.ret [.e (.c (.int .i64 0)),.e (.v 8)])
   (.skip)))
   (.st [.eff (some 9) none (.load (some 4) (.v 2)),
    .eff none none (.calls [true,true,true,true,true,true,true,true,true,true,true,true,true,true,true,true] f_sexp_reader_put (.cons (.v 0) (.cons (.tup (.call 0 f_sexp_leaf) (.cons (.v 9) .nil)) .nil)))])))))))
 (.ret [.e (.c (.int .i64 1)),.e (.c .nili)])))⟩
noncomputable def r78:ERow:=⟨Tryz.f78,⟨[(15,(.cons 0 0 (.cons 0 1 (.cons 0 2 (.cons 0 4 (.cons 1 3 (.cons 0 7 (.cons 1 5 (.cons 0 6 (.cons 2 8 (.cons 3 9 (.cons 0 10 (.cons 0 12 (.cons 0 13 (.alt (.cons 3 11 (.cons 3 14 .nil)) (.cons 3 14 (.cons 3 11 .nil)))))))))))))))))],[],[82],[],[],[]⟩,⟨98,[0,1,6,9,14,17,19,21,22,27,33,35,41,45,48,49,56,58,62,71,77,82,85,90,96],[],[]⟩,2,e_sexp_reader_step⟩
def e_sexp_fault:EFunc:=⟨2,3,
 (.seq (.st [.eff (some 2) none (.box 3 T_sexp_fault_0 (.tup (.build [(.str []),(.int .i64 0),.nili] [(0,1),(1,1),(2,1)]) (.cons (.c (.str [99,104,97,114])) (.cons (.v 0) (.cons (.un (.iface T_sexp_fault_1) (.v 1)) .nil)))))])
 (.ret [.e (.un (.iface T_sexp_fault_2) (.v 2))]))⟩
noncomputable def r79:ERow:=⟨Tryz.f79,⟨[],[],[],[],[],[]⟩,⟨11,[0,1,9],[],[]⟩,2,e_sexp_fault⟩
def e_lex_Text:EFunc:=⟨1,8,
 (.seq (.st [.eff (some 1) none (.box 4 T_lex_Text_0 (.v 0))])
 (.seq (.seq (.st [.eff (some 2) none (.load none (.un (.off 0) (.v 1)))])
 (.block 0 (.cond (.bi (.bin .eql) (.v 2) (.c (.int .i64 4)))
  (.ret [.e (.c (.str [40]))])
  (.cond (.bi (.bin .eql) (.v 2) (.c (.int .i64 5)))
  (.ret [.e (.c (.str [41]))])
  (.cond (.bi (.bin .eql) (.v 2) (.c (.int .i64 8)))
   (.ret [.e (.c (.str [126]))])
   (.cond (.bi (.bin .eql) (.v 2) (.c (.int .i64 6)))
   (.seq (.st [.eff (some 3) none (.load none (.un (.off 3) (.v 1)))])
   (.ret [.e (.bi (.bin .add) (.c (.str [63])) (.v 3))]))
   (.cond (.bi (.bin .eql) (.v 2) (.c (.int .i64 7)))
    (.seq (.st [.eff (some 4) none (.load none (.un (.off 3) (.v 1)))])
    (.ret [.e (.bi (.bin .add) (.bi (.bin .add) (.c (.str [63,42])) (.v 4)) (.c (.str [42])))]))
    (.skip))))))))
 (.seq (.st [.eff (some 5) none (.load none (.un (.off 0) (.v 1))),
  .eff (some 6) none (.load none (.un (.off 2) (.v 1))),
  .eff (some 7) none (.load none (.un (.off 3) (.v 1)))])
 (.ret [.e (.tup (.call 0 f_val_Text) (.cons (.tup (.build [(.int .i64 0),(.int .i64 0),(.str [])] [(0,1),(1,1),(2,1)]) (.cons (.v 5) (.cons (.v 6) (.cons (.v 7) .nil)))) .nil))]))))⟩
noncomputable def r81:ERow:=⟨Tryz.f81,⟨[],[],[],[],[],[]⟩,⟨30,[0,1,4,14,19,23,25,27],[],[]⟩,1,e_lex_Text⟩
def e_ref4_blank:EFunc:=⟨1,1,
 (.ret [.e (.pick (.pick (.pick (.bi (.bin .eql) (.v 0) (.c (.int .u8 32))) (.c (.bool true)) (.bi (.bin .eql) (.v 0) (.c (.int .u8 9)))) (.c (.bool true)) (.bi (.bin .eql) (.v 0) (.c (.int .u8 10)))) (.c (.bool true)) (.bi (.bin .eql) (.v 0) (.c (.int .u8 13))))])⟩
noncomputable def r82:ERow:=⟨Tryz.f82,⟨[],[],[],[],[],[]⟩,⟨17,[0],[],[]⟩,1,e_ref4_blank⟩
def b_ref4_one_0:EC :=
 (.seq (.cond (.pick (.bi (.bin .lss) (.v 7) (.un .len (.v 0))) (.tup (.call 0 f_ref3_Sign) (.cons (.un (.ld none) (.bi (.idx 1) (.v 0) (.v 7))) .nil)) (.c (.bool false)))
 (.skip)
 (.exit 1))
 (.block 2 (.st [.sets [(7,(.bi (.bin .add) (.v 7) (.c (.int .i64 1))))]])))
def e_ref4_one:EFunc:=⟨2,24,
 (.seq (.st [.eff (some 2) none (.zbox [(.int .i64 0),(.int .i64 0),(.int .i64 0),(.str [])] T_ref4_one_0)])
 (.seq (.st [.eff (some 3) none (.zbox [(.int .i64 0),(.int .i64 0),(.int .i64 0),(.str [])] T_ref4_one_0),
  .eff none none (.store 4 (.v 3) (.tup (.build [(.int .i64 0),(.int .i64 0),(.int .i64 0),(.str [])] [(1,1)]) (.cons (.v 1) .nil)))])
 (.seq (.seq (.st [.sets [(9,(.un (.ld none) (.bi (.idx 1) (.v 0) (.v 1))))]])
 (.block 0 (.cond (.bi (.bin .eql) (.v 9) (.c (.int .u8 40)))
  (.seq (.st [.eff none none (.store 1 (.un (.off 0) (.v 3)) (.c (.int .i64 4)))])
  (.seq (.st [.eff (some 10) none (.load (some 4) (.v 3)),
   .eff none none (.store 4 (.v 2) (.v 10))])
  (.ret [.cell (.v 2) (some 4),.e (.bi (.bin .add) (.v 1) (.c (.int .i64 1))),.e (.c (.int .i64 0))])))
  (.cond (.bi (.bin .eql) (.v 9) (.c (.int .u8 41)))
  (.seq (.st [.eff none none (.store 1 (.un (.off 0) (.v 3)) (.c (.int .i64 5)))])
  (.seq (.st [.eff (some 11) none (.load (some 4) (.v 3)),
   .eff none none (.store 4 (.v 2) (.v 11))])
  (.ret [.cell (.v 2) (some 4),.e (.bi (.bin .add) (.v 1) (.c (.int .i64 1))),.e (.c (.int .i64 0))])))
  (.cond (.bi (.bin .eql) (.v 9) (.c (.int .u8 126)))
   (.seq (.st [.eff none none (.store 1 (.un (.off 0) (.v 3)) (.c (.int .i64 8)))])
   (.seq (.st [.eff (some 12) none (.load (some 4) (.v 3)),
    .eff none none (.store 4 (.v 2) (.v 12))])
   (.ret [.cell (.v 2) (some 4),.e (.bi (.bin .add) (.v 1) (.c (.int .i64 1))),.e (.c (.int .i64 0))])))
   (.cond (.bi (.bin .eql) (.v 9) (.c (.int .u8 34)))
   (.seq (.st [.sets [(13,(.tup (.call 0 f_ref4_text) (.cons (.v 0) (.cons (.bi (.bin .add) (.v 1) (.c (.int .i64 1))) .nil))))]])
   (.seq (.st [.eff none none (.store 1 (.un (.off 0) (.v 3)) (.c (.int .i64 3)))])
   (.seq (.st [.eff none none (.store 1 (.un (.off 3) (.v 3)) (.un (.ext 0) (.v 13)))])
   (.seq (.st [.eff (some 14) none (.load (some 4) (.v 3)),
    .eff none none (.store 4 (.v 2) (.v 14))])
   (.ret [.cell (.v 2) (some 4),.e (.un (.ext 1) (.v 13)),.e (.un (.ext 2) (.v 13))])))))
   (.cond (.bi (.bin .eql) (.v 9) (.c (.int .u8 63)))
    (.seq (.cond (.pick (.bi (.bin .lss) (.bi (.bin .add) (.v 1) (.c (.int .i64 1))) (.un .len (.v 0))) (.bi (.bin .eql) (.un (.ld none) (.bi (.idx 1) (.v 0) (.bi (.bin .add) (.v 1) (.c (.int .i64 1))))) (.c (.int .u8 42))) (.c (.bool false)))
    (.seq (.st [.sets [(15,(.tup (.call 0 f_ref4_name) (.cons (.v 0) (.cons (.bi (.bin .add) (.v 1) (.c (.int .i64 2))) .nil))))],
     .sets [(4,(.un (.ext 0) (.v 15))),(5,(.un (.ext 1) (.v 15))),(6,(.un (.ext 2) (.v 15)))]])
    (.seq (.cond (.pick (.bi (.bin .eql) (.v 6) (.c (.int .i64 0))) (.pick (.bi (.bin .eql) (.v 5) (.un .len (.v 0))) (.c (.bool true)) (.bi (.bin .neq) (.un (.ld none) (.bi (.idx 1) (.v 0) (.v 5))) (.c (.int .u8 42)))) (.c (.bool false)))
     (.st [.sets [(6,(.c (.int .i64 2)))]])
     (.skip))
    (.seq (.st [.eff none none (.store 1 (.un (.off 0) (.v 3)) (.c (.int .i64 7)))])
    (.seq (.st [.eff none none (.store 1 (.un (.off 3) (.v 3)) (.v 4))])
    (.seq (.st [.eff (some 16) none (.load (some 4) (.v 3)),
     .eff none none (.store 4 (.v 2) (.v 16))])
    (.ret [.cell (.v 2) (some 4),.e (.bi (.bin .add) (.v 5) (.c (.int .i64 1))),.e (.v 6)]))))))
    (.skip))
    (.seq (.st [.sets [(17,(.tup (.call 0 f_ref4_name) (.cons (.v 0) (.cons (.bi (.bin .add) (.v 1) (.c (.int .i64 1))) .nil))))]])
    (.seq (.st [.eff none none (.store 1 (.un (.off 0) (.v 3)) (.c (.int .i64 6)))])
    (.seq (.st [.eff none none (.store 1 (.un (.off 3) (.v 3)) (.un (.ext 0) (.v 17)))])
    (.seq (.st [.eff (some 18) none (.load (some 4) (.v 3)),
     .eff none none (.store 4 (.v 2) (.v 18))])
    (.ret [.cell (.v 2) (some 4),.e (.un (.ext 1) (.v 17)),.e (.un (.ext 2) (.v 17))]))))))
    (.skip))))))))
 (.seq (.st [.sets [(7,(.v 1))]])
 (.seq (.block 1 (.loop [true,true,true,true,false,false,false,true,false,false,false,false,false,false,false,false,false,false,false,false,false,false,false,false] b_ref4_one_0))
 (.seq (.st [.sets [(8,(.un .tostr (.lsub 1 true true false (.v 0) (.v 1) (.v 7) (.c .undef))))]])
 (.seq (.cond (.bi (.bin .eql) (.un .slen (.v 8)) (.c (.int .i64 0)))
 (.seq (.st [.eff (some 19) none (.load (some 4) (.v 3)),
  .eff none none (.store 4 (.v 2) (.v 19))])
 (.ret [.cell (.v 2) (some 4),.e (.c (.int .i64 0)),.e (.c (.int .i64 2))]))
 (.skip))
 (.seq (.cond (.tup (.call 0 f_ref1_Shape) (.cons (.v 8) .nil))
 (.seq (.st [.sets [(20,(.tup (.call 0 f_ref1_Parse) (.cons (.v 8) .nil)))]])
 (.seq (.st [.eff none none (.store 1 (.un (.off 0) (.v 3)) (.c (.int .i64 1)))])
 (.seq (.st [.eff none none (.store 1 (.un (.off 2) (.v 3)) (.un (.ext 0) (.v 20)))])
 (.seq (.st [.eff (some 21) none (.load (some 4) (.v 3)),
  .eff none none (.store 4 (.v 2) (.v 21))])
 (.ret [.cell (.v 2) (some 4),.e (.v 7),.e (.un (.ext 1) (.v 20))])))))
 (.skip))
 (.seq (.cond (.bi (.bin .gtr) (.un .slen (.v 8)) (.c (.int .i64 40)))
 (.seq (.st [.eff (some 22) none (.load (some 4) (.v 3)),
  .eff none none (.store 4 (.v 2) (.v 22))])
 (.ret [.cell (.v 2) (some 4),.e (.c (.int .i64 0)),.e (.c (.int .i64 4))]))
 (.skip))
 (.seq (.st [.eff none none (.store 1 (.un (.off 0) (.v 3)) (.c (.int .i64 2)))])
 (.seq (.st [.eff none none (.store 1 (.un (.off 3) (.v 3)) (.v 8))])
 (.seq (.st [.eff (some 23) none (.load (some 4) (.v 3)),
  .eff none none (.store 4 (.v 2) (.v 23))])
 (.ret [.cell (.v 2) (some 4),.e (.v 7),.e (.c (.int .i64 0))])))))))))))))⟩
noncomputable def r83:ERow:=⟨Tryz.f83,⟨[],[(1,[true,true,false,false,true,false,false,true,false,false,false,false,false,false,false,false,false,true])],[],[],[],[]⟩,⟨165,[0,1,4,7,11,12,13,17,18,26,30,36,42,47,58,76,102,106,117,142,145,153,159,163],[26,73,95,129],[47,76,106,145]⟩,2,e_ref4_one⟩
def e_ref5_Value:EFunc:=⟨1,9,
 (.seq (.st [.eff (some 1) none (.box 5 T_ref5_Value_0 (.v 0)),
  .eff (some 2) none (.zbox [(.int .i64 0),(.int .i64 0),(.str [])] T_ref5_Value_1)])
 (.seq (.seq (.st [.eff (some 3) none (.load none (.un (.off 0) (.v 1))),
  .eff (some 4) (some ((.bi (.bin .eql) (.v 3) (.c (.int .i64 1))),false)) (.load none (.un (.off 0) (.v 1))),
  .eff (some 5) (some ((.pick (.bi (.bin .eql) (.v 3) (.c (.int .i64 1))) (.c (.bool true)) (.bi (.bin .eql) (.v 4) (.c (.int .i64 2)))),false)) (.load none (.un (.off 0) (.v 1)))])
 (.cond (.pick (.pick (.bi (.bin .eql) (.v 3) (.c (.int .i64 1))) (.c (.bool true)) (.bi (.bin .eql) (.v 4) (.c (.int .i64 2)))) (.c (.bool true)) (.bi (.bin .eql) (.v 5) (.c (.int .i64 3))))
 (.seq (.st [.eff (some 6) none (.load none (.un (.off 0) (.v 1))),
  .eff (some 7) none (.load none (.un (.off 2) (.v 1))),
  .eff (some 8) none (.load none (.un (.off 3) (.v 1))),
  .eff none none (.store 3 (.v 2) (.tup (.build [(.int .i64 0),(.int .i64 0),(.str [])] [(0,1),(1,1),(2,1)]) (.cons (.v 6) (.cons (.v 7) (.cons (.v 8) .nil)))))])
 (.ret [.cell (.v 2) (some 3),.e (.c (.bool true))]))
 (.skip)))
 (.seq (.st [.eff none none (.store 3 (.v 2) (.tup (.build [(.int .i64 0),(.int .i64 0),(.str [])] []) .nil))])
 (.ret [.cell (.v 2) (some 3),.e (.c (.bool false))]))))⟩
noncomputable def r84:ERow:=⟨Tryz.f84,⟨[],[],[],[],[],[]⟩,⟨25,[0,1,2,5,9,14,18,20,22],[],[]⟩,1,e_ref5_Value⟩
def e_val_Compare:EFunc:=⟨2,10,
 (.seq (.st [.eff (some 2) none (.box 3 T_val_Compare_0 (.v 0)),
  .eff (some 3) none (.box 3 T_val_Compare_0 (.v 1))])
 (.seq (.st [.eff (some 4) none (.load none (.un (.off 0) (.v 2))),
  .eff (some 5) none (.load none (.un (.off 0) (.v 3))),
  .eff (some 6) none (.load none (.un (.off 1) (.v 2))),
  .eff (some 7) none (.load none (.un (.off 1) (.v 3))),
  .eff (some 8) none (.load none (.un (.off 2) (.v 2))),
  .eff (some 9) none (.load none (.un (.off 2) (.v 3)))])
 (.ret [.e (.tup (.call 0 f_cmp_Or_int) (.cons (.tup (.bslice 1 [(.int .i64 0)] 3 [0,1,2]) (.cons (.tup (.call 0 f_cmp_Compare_int) (.cons (.v 4) (.cons (.v 5) .nil))) (.cons (.tup (.call 0 f_cmp_Compare_int64) (.cons (.v 6) (.cons (.v 7) .nil))) (.cons (.tup (.call 0 f_cmp_Compare_string) (.cons (.v 8) (.cons (.v 9) .nil))) .nil)))) .nil))])))⟩
noncomputable def r86:ERow:=⟨Tryz.f86,⟨[(1,(.cons 0 0 (.cons 0 2 (.cons 0 5 (.cons 0 7 (.cons 0 10 (.cons 0 12 (.cons 1 1 (.cons 1 3 (.cons 1 6 (.cons 1 8 (.cons 1 11 (.cons 1 13 (.cons 2 4 (.cons 2 9 (.cons 2 14 (.cons 2 15 (.cons 2 16 (.cons 0 17 .nil)))))))))))))))))))],[],[],[],[],[]⟩,⟨22,[0,1,2,3,6,8,11,13,16,18],[],[]⟩,2,e_val_Compare⟩
def b_slices_Index_string_string_0:EC :=
 (.seq (.cond (.bi (.bin .lss) (.v 3) (.v 2))
 (.skip)
 (.exit 0))
 (.seq (.block 1 (.cond (.bi (.bin .eql) (.v 1) (.un (.ld none) (.bi (.idx 1) (.v 0) (.v 3))))
  (.ret [.e (.v 3)])
  (.skip)))
 (.st [.sets [(3,(.bi (.bin .add) (.v 3) (.c (.int .i64 1))))]])))
def e_slices_Index_string_string:EFunc:=⟨2,4,
 (.seq (.seq (.st [.sets [(2,(.un .len (.v 0))),(3,(.c (.int .i64 0)))]])
 (.block 0 (.loop [true,true,true,true] b_slices_Index_string_string_0)))
 (.ret [.e (.c (.int .i64 (-1)))]))⟩
noncomputable def r87:ERow:=⟨Tryz.f87,⟨[],[(0,[true,true,false,false,false,false,false,true,true])],[],[],[],[]⟩,⟨19,[0,1,7,8],[15],[]⟩,2,e_slices_Index_string_string⟩
def b_slices_IndexFunc_tmpl_Template_tmpl_Template_0:EC :=
 (.seq (.cond (.bi (.bin .lss) (.v 3) (.v 2))
 (.skip)
 (.exit 0))
 (.seq (.block 1 (.seq (.st [.eff (some 4) none (.callv (.v 1) (.cons (.un (.ld (some 2)) (.bi (.idx 2) (.v 0) (.v 3))) .nil))])
 (.cond (.v 4)
  (.ret [.e (.v 3)])
  (.skip))))
 (.st [.sets [(3,(.bi (.bin .add) (.v 3) (.c (.int .i64 1))))]])))
def e_slices_IndexFunc_tmpl_Template_tmpl_Template:EFunc:=⟨2,5,
 (.seq (.seq (.st [.sets [(2,(.un .len (.v 0))),(3,(.c (.int .i64 0)))]])
 (.block 0 (.loop [true,true,true,true,false] b_slices_IndexFunc_tmpl_Template_tmpl_Template_0)))
 (.ret [.e (.c (.int .i64 (-1)))]))⟩
noncomputable def r88:ERow:=⟨Tryz.f88,⟨[],[(0,[true,true,false,false,false,false,false,true,true])],[],[],[],[]⟩,⟨19,[0,1,7,8,16],[15],[]⟩,2,e_slices_IndexFunc_tmpl_Template_tmpl_Template⟩
def e_pat_find_1:EFunc:=⟨2,5,
 (.seq (.st [.eff (some 2) none (.box 2 T_pat_find_1_0 (.v 0))])
 (.seq (.st [.eff (some 3) none (.load none (.un (.off 0) (.v 2))),
  .eff (some 4) none (.load none (.v 1))])
 (.ret [.e (.bi (.bin .eql) (.v 3) (.v 4))])))⟩
noncomputable def r89:ERow:=⟨Tryz.f89,⟨[],[],[],[],[],[]⟩,⟨8,[0,1,2,5,6],[],[]⟩,2,e_pat_find_1⟩
def b_slices_IndexFunc_tmpl_Slot_tmpl_Slot_0:EC :=
 (.seq (.cond (.bi (.bin .lss) (.v 3) (.v 2))
 (.skip)
 (.exit 0))
 (.seq (.block 1 (.seq (.st [.eff (some 4) none (.callv (.v 1) (.cons (.un (.ld (some 4)) (.bi (.idx 4) (.v 0) (.v 3))) .nil))])
 (.cond (.v 4)
  (.ret [.e (.v 3)])
  (.skip))))
 (.st [.sets [(3,(.bi (.bin .add) (.v 3) (.c (.int .i64 1))))]])))
def e_slices_IndexFunc_tmpl_Slot_tmpl_Slot:EFunc:=⟨2,5,
 (.seq (.seq (.st [.sets [(2,(.un .len (.v 0))),(3,(.c (.int .i64 0)))]])
 (.block 0 (.loop [true,true,true,true,false] b_slices_IndexFunc_tmpl_Slot_tmpl_Slot_0)))
 (.ret [.e (.c (.int .i64 (-1)))]))⟩
noncomputable def r90:ERow:=⟨Tryz.f90,⟨[],[(0,[true,true,false,false,false,false,false,true,true])],[],[],[],[]⟩,⟨19,[0,1,7,8,16],[15],[]⟩,2,e_slices_IndexFunc_tmpl_Slot_tmpl_Slot⟩
def e_tmpl_Template_Slot_1:EFunc:=⟨2,5,
 (.seq (.st [.eff (some 2) none (.box 4 T_tmpl_Template_Slot_1_0 (.v 0))])
 (.seq (.st [.eff (some 3) none (.load none (.un (.off 0) (.v 2))),
  .eff (some 4) none (.load none (.v 1))])
 (.ret [.e (.bi (.bin .eql) (.v 3) (.v 4))])))⟩
noncomputable def r91:ERow:=⟨Tryz.f91,⟨[],[],[],[],[],[]⟩,⟨8,[0,1,2,5,6],[],[]⟩,2,e_tmpl_Template_Slot_1⟩
def b_slices_IndexFunc_pat_Test_pat_Test_0:EC :=
 (.seq (.cond (.bi (.bin .lss) (.v 3) (.v 2))
 (.skip)
 (.exit 0))
 (.seq (.block 1 (.seq (.st [.eff (some 4) none (.callv (.v 1) (.cons (.un (.ld (some 6)) (.bi (.idx 6) (.v 0) (.v 3))) .nil))])
 (.cond (.v 4)
  (.ret [.e (.v 3)])
  (.skip))))
 (.st [.sets [(3,(.bi (.bin .add) (.v 3) (.c (.int .i64 1))))]])))
def e_slices_IndexFunc_pat_Test_pat_Test:EFunc:=⟨2,5,
 (.seq (.seq (.st [.sets [(2,(.un .len (.v 0))),(3,(.c (.int .i64 0)))]])
 (.block 0 (.loop [true,true,true,true,false] b_slices_IndexFunc_pat_Test_pat_Test_0)))
 (.ret [.e (.c (.int .i64 (-1)))]))⟩
noncomputable def r92:ERow:=⟨Tryz.f92,⟨[],[(0,[true,true,false,false,false,false,false,true,true])],[],[],[],[]⟩,⟨19,[0,1,7,8,16],[15],[]⟩,2,e_slices_IndexFunc_pat_Test_pat_Test⟩
def e_sexp_Value:EFunc:=⟨1,8,
 (.seq (.st [.eff (some 1) none (.box 5 T_sexp_Value_0 (.v 0)),
  .eff (some 2) none (.zbox [(.int .i64 0),(.int .i64 0),(.str [])] T_sexp_Value_1)])
 (.seq (.seq (.st [.eff (some 3) none (.load none (.un (.off 0) (.v 1)))])
 (.block 0 (.seq (.seq (.st [.sets [(4,(.bi (.bin .eql) (.v 3) (.c (.int .i64 1))))]])
 (.cond (.v 4)
  (.skip)
  (.seq (.st [.sets [(4,(.bi (.bin .eql) (.v 3) (.c (.int .i64 2))))]])
  (.cond (.v 4)
  (.skip)
  (.st [.sets [(4,(.bi (.bin .eql) (.v 3) (.c (.int .i64 3))))]])))))
 (.cond (.v 4)
  (.seq (.st [.eff (some 5) none (.load none (.un (.off 0) (.v 1))),
   .eff (some 6) none (.load none (.un (.off 2) (.v 1))),
   .eff (some 7) none (.load none (.un (.off 3) (.v 1))),
   .eff none none (.store 3 (.v 2) (.tup (.build [(.int .i64 0),(.int .i64 0),(.str [])] [(0,1),(1,1),(2,1)]) (.cons (.v 5) (.cons (.v 6) (.cons (.v 7) .nil)))))])
  (.ret [.cell (.v 2) (some 3),.e (.c (.bool true))]))
  (.skip)))))
 (.seq (.st [.eff none none (.store 3 (.v 2) (.tup (.build [(.int .i64 0),(.int .i64 0),(.str [])] []) .nil))])
 (.ret [.cell (.v 2) (some 3),.e (.c (.bool false))]))))⟩
noncomputable def r93:ERow:=⟨Tryz.f93,⟨[],[],[],[],[],[]⟩,⟨18,[0,1,2,5,6,11,13,15],[],[]⟩,1,e_sexp_Value⟩
def e_sexp_last:EFunc:=⟨1,4,
 (.seq (.st [.eff (some 1) none (.zbox [(.int .i64 0)] T_sexp_last_0)])
 (.seq (.seq (.st [.eff (some 2) none (.calls [true,true,true,true,true,true,true,true,true,true,true,true,true,true,true,true] f_errors_As (.cons (.v 0) (.cons (.un (.iface T_sexp_last_1) (.v 1)) .nil)))])
 (.cond (.v 2)
 (.seq (.st [.eff (some 3) none (.load none (.v 1))])
 (.ret [.e (.tup (.call 0 f_api_Errno_Error) (.cons (.v 3) .nil))]))
 (.skip)))
 (.ret [.e (.c (.str [63]))])))⟩
noncomputable def r94:ERow:=⟨Tryz.f94,⟨[],[],[],[],[],[]⟩,⟨9,[0,3,6,7],[],[]⟩,1,e_sexp_last⟩
def e_strconv_Itoa:EFunc:=⟨1,1,
 (.ret [.e (.tup (.call 0 f_internal_strconv_Itoa) (.cons (.v 0) .nil))])⟩
noncomputable def r95:ERow:=⟨Tryz.f95,⟨[],[],[],[],[],[]⟩,⟨5,[0],[],[]⟩,1,e_strconv_Itoa⟩
def b_ref1_Text_0:EC :=
 (.seq (.cond (.bi (.bin .geq) (.v 1) (.c (.int .u64 10)))
 (.skip)
 (.exit 0))
 (.block 1 (.seq (.st [.sets [(1,(.bi (.bin .quo) (.v 1) (.c (.int .u64 10))))]])
 (.st [.sets [(2,(.bi (.bin .add) (.un .tostr (.tup (.bslice 1 [(.int .u8 0)] 1 [0]) (.cons (.un (.conv .u8) (.bi (.bin .add) (.c (.int .u64 48)) (.bi (.bin .rem) (.v 1) (.c (.int .u64 10))))) .nil))) (.v 2)))]]))))
def e_ref1_Text:EFunc:=⟨1,3,
 (.seq (.st [.sets [(1,(.tup (.call 0 f_ref1_size) (.cons (.v 0) .nil)))]])
 (.seq (.st [.sets [(2,(.un .tostr (.tup (.bslice 1 [(.int .u8 0)] 1 [0]) (.cons (.un (.conv .u8) (.bi (.bin .add) (.c (.int .u64 48)) (.bi (.bin .rem) (.v 1) (.c (.int .u64 10))))) .nil))))]])
 (.seq (.block 0 (.loop [true,true,true] b_ref1_Text_0))
 (.seq (.cond (.bi (.bin .lss) (.v 0) (.c (.int .i64 0)))
 (.ret [.e (.bi (.bin .add) (.c (.str [45])) (.v 2))])
 (.skip))
 (.ret [.e (.v 2)])))))⟩
noncomputable def r96:ERow:=⟨Tryz.f96,⟨[],[(0,[true,false,false,true,true])],[],[],[],[]⟩,⟨30,[0,3,4],[],[]⟩,1,e_ref1_Text⟩
def e_ref5_Word:EFunc:=⟨1,2,
 (.seq (.st [.sets [(1,(.tup (.bslice 1 [(.str [])] 12 [0,1,2,3,4,5,6,7,8,9,10,11]) (.cons (.c (.str [111,107])) (.cons (.c (.str [97,114,103])) (.cons (.c (.str [102,111,114,109])) (.cons (.c (.str [115,104,111,114,116])) (.cons (.c (.str [108,111,110,103])) (.cons (.c (.str [110,97,109,101])) (.cons (.c (.str [116,119,105,99,101])) (.cons (.c (.str [98,111,117,110,100])) (.cons (.c (.str [116,121,112,101])) (.cons (.c (.str [102,117,101,108])) (.cons (.c (.str [102,117,108,108])) (.cons (.c (.str [114,97,110,103,101])) .nil))))))))))))))]])
 (.seq (.cond (.pick (.bi (.bin .lss) (.v 0) (.c (.int .i64 0))) (.c (.bool true)) (.bi (.bin .geq) (.v 0) (.un .len (.v 1))))
 (.ret [.e (.c (.str [101,114,114,111,114]))])
 (.skip))
 (.ret [.e (.un (.ld none) (.bi (.idx 1) (.v 1) (.v 0)))])))⟩
noncomputable def r97:ERow:=⟨Tryz.f97,⟨[],[],[],[],[],[]⟩,⟨17,[0,3],[16],[]⟩,1,e_ref5_Word⟩
def b_ref7_Has_0:EC :=
 (.seq (.cond (.bi (.bin .lss) (.v 2) (.un .len (.v 0)))
 (.skip)
 (.exit 0))
 (.seq (.block 1 (.cond (.bi (.bin .eql) (.un (.ld none) (.bi (.idx 1) (.v 0) (.v 2))) (.v 1))
  (.ret [.e (.c (.bool true))])
  (.skip)))
 (.st [.sets [(2,(.bi (.bin .add) (.v 2) (.c (.int .i64 1))))]])))
def e_ref7_Has:EFunc:=⟨2,3,
 (.seq (.seq (.st [.sets [(2,(.c (.int .i64 0)))]])
 (.block 0 (.loop [true,true,true] b_ref7_Has_0)))
 (.ret [.e (.c (.bool false))]))⟩
noncomputable def r104:ERow:=⟨Tryz.f104,⟨[],[(0,[true,true,false,false,false,true])],[],[],[],[]⟩,⟨18,[0,1,5],[15],[]⟩,2,e_ref7_Has⟩
def e_lex_fault:EFunc:=⟨2,3,
 (.seq (.st [.eff (some 2) none (.box 3 T_lex_fault_0 (.tup (.build [(.str []),(.int .i64 0),.nili] [(0,1),(1,1),(2,1)]) (.cons (.c (.str [99,104,97,114])) (.cons (.v 0) (.cons (.un (.iface T_lex_fault_1) (.v 1)) .nil)))))])
 (.ret [.e (.un (.iface T_lex_fault_2) (.v 2))]))⟩
noncomputable def r105:ERow:=⟨Tryz.f105,⟨[],[],[],[],[],[]⟩,⟨11,[0,1,9],[],[]⟩,2,e_lex_fault⟩
def b_lex_scanner_skip_0:EC :=
 (.seq (.cond (.pick (.v 4) (.bi (.bin .neq) (.v 3) (.c (.int .u8 10))) (.c (.bool false)))
 (.skip)
 (.exit 3))
 (.seq (.block 4 (.st [.eff (some 9) none (.load none (.un (.off 1) (.un .nilchk (.v 0)))),
  .eff none none (.store 1 (.un (.off 1) (.un .nilchk (.v 0))) (.bi (.bin .add) (.v 9) (.c (.int .i64 1))))]))
 (.st [.eff (some 8) none (.calls [true,true,true,true,true,true,true,true,true,true,true,true,true,true,true,true] f_lex_scanner_more (.cons (.v 0) .nil)),
  .sets [(3,(.un (.ext 0) (.v 8))),(4,(.un (.ext 1) (.v 8)))]])))
def b_lex_scanner_skip_1:EC :=
 (.seq (.cond (.v 2)
 (.skip)
 (.exit 0))
 (.seq (.block 1 (.block 2 (.cond (.bi (.bin .eql) (.v 1) (.c (.int .u8 59)))
  (.seq (.st [.eff (some 7) none (.calls [true,true,true,true,true,true,true,true,true,true,true,true,true,true,true,true] f_lex_scanner_more (.cons (.v 0) .nil)),
   .sets [(3,(.un (.ext 0) (.v 7))),(4,(.un (.ext 1) (.v 7)))]])
  (.block 3 (.loop [true,false,false,true,true,false,false,false,false,false,false,false] b_lex_scanner_skip_0)))
  (.seq (.seq (.st [.sets [(10,(.bi (.bin .eql) (.v 1) (.c (.int .u8 32))))]])
  (.cond (.v 10)
   (.skip)
   (.seq (.st [.sets [(10,(.bi (.bin .eql) (.v 1) (.c (.int .u8 9))))]])
   (.cond (.v 10)
   (.skip)
   (.seq (.st [.sets [(10,(.bi (.bin .eql) (.v 1) (.c (.int .u8 10))))]])
   (.cond (.v 10)
    (.skip)
    (.st [.sets [(10,(.bi (.bin .eql) (.v 1) (.c (.int .u8 13))))]])))))))
  (.cond (.v 10)
   (.st [.eff (some 11) none (.load none (.un (.off 1) (.un .nilchk (.v 0)))),
    .eff none none (.store 1 (.un (.off 1) (.un .nilchk (.v 0))) (.bi (.bin .add) (.v 11) (.c (.int .i64 1))))])
   (.ret []))))))
 (.st [.eff (some 6) none (.calls [true,true,true,true,true,true,true,true,true,true,true,true,true,true,true,true] f_lex_scanner_more (.cons (.v 0) .nil)),
  .sets [(1,(.un (.ext 0) (.v 6))),(2,(.un (.ext 1) (.v 6)))]])))
def e_lex_scanner_skip:EFunc:=⟨1,12,
 (.seq (.seq (.st [.eff (some 5) none (.calls [true,true,true,true,true,true,true,true,true,true,true,true,true,true,true,true] f_lex_scanner_more (.cons (.v 0) .nil)),
  .sets [(1,(.un (.ext 0) (.v 5))),(2,(.un (.ext 1) (.v 5)))]])
 (.block 0 (.loop [true,true,true,false,false,false,false,false,false,false,false,false] b_lex_scanner_skip_1)))
 (.ret []))⟩
noncomputable def r106:ERow:=⟨Tryz.f106,⟨[],[(0,[true,false,true,true]),(3,[true,false,false,false,true,true])],[],[],[],[]⟩,⟨54,[0,2,3,4,5,8,14,22,32,38,42,50],[],[]⟩,1,e_lex_scanner_skip⟩
def e_lex_scanner_token:EFunc:=⟨1,12,
 (.seq (.st [.eff (some 1) none (.zbox [(.int .i64 0),(.int .i64 0),(.int .i64 0),(.str [])] T_lex_scanner_token_0)])
 (.seq (.st [.sets [(2,(.c (.int .i64 0)))]])
 (.seq (.seq (.st [.eff (some 4) none (.load none (.un (.off 0) (.un .nilchk (.v 0)))),
  .eff (some 5) none (.load none (.un (.off 1) (.un .nilchk (.v 0)))),
  .sets [(3,(.un (.ld none) (.bi (.idx 1) (.v 4) (.v 5))))]])
 (.block 0 (.cond (.bi (.bin .eql) (.v 3) (.c (.int .u8 40)))
  (.st [.sets [(2,(.c (.int .i64 4)))]])
  (.cond (.bi (.bin .eql) (.v 3) (.c (.int .u8 41)))
  (.st [.sets [(2,(.c (.int .i64 5)))]])
  (.cond (.bi (.bin .eql) (.v 3) (.c (.int .u8 126)))
   (.st [.sets [(2,(.c (.int .i64 8)))]])
   (.cond (.bi (.bin .eql) (.v 3) (.c (.int .u8 34)))
   (.seq (.st [.eff (some 7) none (.load none (.un (.off 1) (.un .nilchk (.v 0)))),
    .eff none none (.store 1 (.un (.off 1) (.un .nilchk (.v 0))) (.bi (.bin .add) (.v 7) (.c (.int .i64 1))))])
   (.seq (.st [.eff (some 8) none (.calls [true,true,true,true,true,true,true,true,true,true,true,true,true,true,true,true] f_lex_scanner_text (.cons (.v 0) .nil)),
    .eff none none (.store 4 (.v 1) (.un (.ext 0) (.v 8)))])
   (.ret [.cell (.v 1) (some 4),.e (.un (.ext 1) (.v 8))])))
   (.cond (.bi (.bin .eql) (.v 3) (.c (.int .u8 63)))
    (.seq (.st [.eff (some 9) none (.load none (.un (.off 1) (.un .nilchk (.v 0)))),
     .eff none none (.store 1 (.un (.off 1) (.un .nilchk (.v 0))) (.bi (.bin .add) (.v 9) (.c (.int .i64 1))))])
    (.seq (.st [.eff (some 10) none (.calls [true,true,true,true,true,true,true,true,true,true,true,true,true,true,true,true] f_lex_scanner_variable (.cons (.v 0) .nil)),
     .eff none none (.store 4 (.v 1) (.un (.ext 0) (.v 10)))])
    (.ret [.cell (.v 1) (some 4),.e (.un (.ext 1) (.v 10))])))
    (.seq (.st [.eff (some 6) none (.calls [true,true,true,true,true,true,true,true,true,true,true,true,true,true,true,true] f_lex_scanner_word (.cons (.v 0) .nil)),
     .eff none none (.store 4 (.v 1) (.un (.ext 0) (.v 6)))])
    (.ret [.cell (.v 1) (some 4),.e (.un (.ext 1) (.v 6))])))))))))
 (.seq (.st [.eff (some 11) none (.load none (.un (.off 1) (.un .nilchk (.v 0)))),
  .eff none none (.store 1 (.un (.off 1) (.un .nilchk (.v 0))) (.bi (.bin .add) (.v 11) (.c (.int .i64 1))))])
 (.seq (.st [.eff none none (.store 4 (.v 1) (.tup (.build [(.int .i64 0),(.int .i64 0),(.int .i64 0),(.str [])] [(0,1)]) (.cons (.v 2) .nil)))])
 (.ret [.cell (.v 1) (some 4),.e (.c (.int .i64 0))]))))))⟩
noncomputable def r107:ERow:=⟨Tryz.f107,⟨[(2,(.cons 0 0 (.cons 0 1 (.cons 0 2 (.cons 0 4 (.cons 0 5 (.cons 0 6 (.cons 1 3 (.cons 1 7 (.cons 0 8 (.cons 1 9 (.cons 0 10 .nil))))))))))))],[],[],[],[],[]⟩,⟨62,[0,2,4,5,9,13,18,32,37,45,50,56],[15],[]⟩,1,e_lex_scanner_token⟩
def e_sexp_reader_not:EFunc:=⟨3,17,
 (.seq (.st [.eff (some 3) none (.box 4 T_sexp_reader_not_0 (.v 1))])
 (.seq (.seq (.st [.eff (some 5) none (.load (some 4) (.v 3)),
  .eff (some 6) none (.calls [true,true,true,true,true,true,true,true,true,true,true,true,true,true,true,true] f_sexp_reader_count (.cons (.v 0) (.cons (.v 5) .nil)))])
 (.cond (.bi (.eqs 1 true) (.v 6) (.c .nili))
 (.ret [.e (.v 6)])
 (.skip)))
 (.seq (.seq (.st [.eff (some 7) none (.load none (.un (.off 0) (.un .nilchk (.v 0))))])
 (.cond (.bi (.bin .geq) (.bi (.bin .add) (.v 2) (.c (.int .i64 1))) (.un .len (.v 7)))
 (.seq (.st [.eff (some 8) none (.load none (.un (.off 1) (.v 3)))])
 (.ret [.e (.tup (.call 0 f_sexp_fault) (.cons (.v 8) (.cons (.c (.int .i64 3)) .nil)))]))
 (.skip)))
 (.seq (.st [.eff (some 9) none (.load none (.un (.off 0) (.un .nilchk (.v 0)))),
  .eff (some 4) none (.zbox [(.int .i64 0),(.int .i64 0),(.int .i64 0),(.str [])] T_sexp_reader_not_0),
  .eff none none (.store 4 (.v 4) (.un (.ld (some 4)) (.bi (.idx 4) (.v 9) (.bi (.bin .add) (.v 2) (.c (.int .i64 1))))))])
 (.seq (.seq (.st [.eff (some 10) none (.load none (.un (.off 0) (.v 4)))])
 (.block 0 (.seq (.seq (.st [.sets [(11,(.bi (.bin .eql) (.v 10) (.c (.int .i64 4))))]])
 (.cond (.v 11)
  (.skip)
  (.seq (.st [.sets [(11,(.bi (.bin .eql) (.v 10) (.c (.int .i64 5))))]])
  (.cond (.v 11)
  (.skip)
  (.st [.sets [(11,(.bi (.bin .eql) (.v 10) (.c (.int .i64 8))))]])))))
 (.cond (.v 11)
  (.seq (.st [.eff (some 12) none (.load none (.un (.off 1) (.v 3)))])
  (.ret [.e (.tup (.call 0 f_sexp_fault) (.cons (.v 12) (.cons (.c (.int .i64 2)) .nil)))]))
  (.skip)))))
 (.seq (.seq (.st [.eff (some 13) none (.load (some 4) (.v 4)),
  .eff (some 14) none (.calls [true,true,true,true,true,true,true,true,true,true,true,true,true,true,true,true] f_sexp_reader_count (.cons (.v 0) (.cons (.v 13) .nil)))])
 (.cond (.bi (.eqs 1 true) (.v 14) (.c .nili))
 (.ret [.e (.v 14)])
 (.skip)))
 (.seq (.st [.eff (some 15) none (.load none (.un (.off 1) (.v 3))),
  .eff (some 16) none (.load (some 4) (.v 4)),
  .eff none none (.calls [true,true,true,true,true,true,true,true,true,true,true,true,true,true,true,true] f_sexp_reader_put (.cons (.v 0) (.cons (.tup (.build [(.int .i64 0),(.int .i64 0),(.int .i64 0),(.str []),.nils] [(0,1),(1,1),(4,1)]) (.cons (.c (.int .i64 8)) (.cons (.v 15) (.cons (.tup (.bslice 5 [(.int .i64 0),(.int .i64 0),(.int .i64 0),(.str []),.nils] 1 [0]) (.cons (.tup (.call 0 f_sexp_leaf) (.cons (.v 16) .nil)) .nil)) .nil)))) .nil)))])
 (.ret [.e (.c .nili)]))))))))⟩
noncomputable def r108:ERow:=⟨Tryz.f108,⟨[(15,(.cons 0 0 (.cons 0 1 (.cons 1 2 (.cons 1 3 (.cons 2 4 (.cons 2 5 (.cons 0 6 (.cons 3 7 .nil)))))))))],[],[],[],[],[]⟩,⟨58,[0,1,2,4,8,11,12,21,25,30,36,37,42,45,46,52,53],[34],[]⟩,3,e_sexp_reader_not⟩
def e_sexp_reader_count:EFunc:=⟨2,6,
 (.seq (.st [.eff (some 2) none (.box 4 T_sexp_reader_count_0 (.v 1))])
 (.seq (.st [.eff (some 3) none (.load none (.un (.off 1) (.un .nilchk (.v 0)))),
  .eff none none (.store 1 (.un (.off 1) (.un .nilchk (.v 0))) (.bi (.bin .add) (.v 3) (.c (.int .i64 1))))])
 (.seq (.seq (.st [.eff (some 4) none (.load none (.un (.off 1) (.un .nilchk (.v 0))))])
 (.cond (.bi (.bin .gtr) (.v 4) (.c (.int .i64 4096)))
 (.seq (.st [.eff (some 5) none (.load none (.un (.off 1) (.v 2)))])
 (.ret [.e (.tup (.call 0 f_sexp_fault) (.cons (.v 5) (.cons (.c (.int .i64 4)) .nil)))]))
 (.skip)))
 (.ret [.e (.c .nili)]))))⟩
noncomputable def r109:ERow:=⟨Tryz.f109,⟨[],[],[],[],[],[]⟩,⟨20,[0,1,3,8,15,18],[],[]⟩,2,e_sexp_reader_count⟩
def e_sexp_reader_put:EFunc:=⟨2,17,
 (.seq (.seq (.st [.eff (some 2) none (.box 5 T_sexp_reader_put_0 (.v 1))])
 (.seq (.seq (.st [.eff (some 3) none (.load none (.un (.off 2) (.un .nilchk (.v 0))))])
 (.cond (.bi (.bin .gtr) (.un .len (.v 3)) (.c (.int .i64 0)))
 (.seq (.choose [false,false,false,false,false,false,false,false,false,false,false,false,false,false,false,false,false] T_sexp_reader_put_1
  (.seq (.st [.eff (some 4) none (.load none (.un (.off 2) (.un .nilchk (.v 0)))),
   .eff (some 5) none (.load none (.un (.off 2) (.un .nilchk (.v 0)))),
   .eff (some 6) none (.load none (.un (.off 4) (.bi (.idx 5) (.v 5) (.bi (.bin .sub) (.un .len (.v 3)) (.c (.int .i64 1)))))),
   .eff (some 7) none (.load (some 5) (.v 2)),
   .eff (some 8) none (.pappend 5 64 T_sexp_reader_put_0 (.v 6) (.tup (.bslice 5 [(.int .i64 0),(.int .i64 0),(.int .i64 0),(.str []),.nils] 1 [0]) (.cons (.c (.agg [(.int .i64 0),(.int .i64 0),(.int .i64 0),(.str []),.nils])) .nil)) (.v 7)),
   .eff none none (.store 1 (.un (.off 4) (.bi (.idx 5) (.v 4) (.bi (.bin .sub) (.un .len (.v 3)) (.c (.int .i64 1))))) (.v 8))])
  (.st [.eff none none (.fill 5 (.bi (.pidx 5) (.v 8) (.un .len (.v 6))) (.v 7))]))
  (.st [.eff (some 9) none (.load none (.un (.off 2) (.un .nilchk (.v 0)))),
   .eff (some 10) none (.load none (.un (.off 2) (.un .nilchk (.v 0)))),
   .eff (some 11) none (.load none (.un (.off 4) (.bi (.idx 5) (.v 10) (.bi (.bin .sub) (.un .len (.v 3)) (.c (.int .i64 1)))))),
   .eff (some 12) none (.load (some 5) (.v 2)),
   .eff (some 13) none (.append 5 64 T_sexp_reader_put_0 (.v 11) (.tup (.bslice 5 [(.int .i64 0),(.int .i64 0),(.int .i64 0),(.str []),.nils] 1 [0]) (.cons (.v 12) .nil))),
   .eff none none (.store 1 (.un (.off 4) (.bi (.idx 5) (.v 9) (.bi (.bin .sub) (.un .len (.v 3)) (.c (.int .i64 1))))) (.v 13))]))
 (.ret []))
 (.skip)))
 (.st [.eff (some 14) none (.load none (.un (.off 3) (.un .nilchk (.v 0)))),
  .eff (some 15) none (.load (some 5) (.v 2)),
  .eff (some 16) none (.pappend 5 64 T_sexp_reader_put_0 (.v 14) (.tup (.bslice 5 [(.int .i64 0),(.int .i64 0),(.int .i64 0),(.str []),.nils] 1 [0]) (.cons (.c (.agg [(.int .i64 0),(.int .i64 0),(.int .i64 0),(.str []),.nils])) .nil)) (.v 15)),
  .eff none none (.fill 5 (.bi (.pidx 5) (.v 16) (.un .len (.v 14))) (.v 15)),
  .eff none none (.store 1 (.un (.off 3) (.un .nilchk (.v 0))) (.v 16))])))
 (.ret []))⟩
noncomputable def r110:ERow:=⟨Tryz.f110,⟨[(3,(.cons 2 0 (.alt (.cons 2 1 (.cons 2 2 (.cons 2 3 .nil))) (.cons 2 2 (.cons 2 1 (.cons 2 3 .nil)))))),(4,(.cons 0 0 (.cons 0 1 (.cons 0 2 (.cons 0 4 (.cons 0 5 (.cons 0 6 (.cons 0 7 (.cons 0 8 (.cons 0 10 (.cons 0 11 (.cons 1 3 (.cons 1 9 (.cons 0 12 (.cons 0 13 (.cons 1 14 (.cons 0 16 (.cons 1 15 (.cons 2 17 (.cons 3 18 (.cons 0 19 (.cons 0 20 (.cons 3 21 .nil))))))))))))))))))))))),(6,(.cons 0 0 (.cons 0 1 (.cons 0 2 (.cons 0 4 (.cons 0 5 (.cons 0 6 (.cons 0 7 (.cons 0 8 (.cons 0 10 (.cons 0 11 (.cons 1 3 (.cons 1 9 (.cons 0 12 (.cons 0 13 (.cons 1 14 (.cons 1 15 (.cons 2 16 (.cons 2 17 (.cons 0 18 (.cons 0 19 (.cons 3 20 .nil)))))))))))))))))))))),(7,(.cons 0 0 (.cons 0 1 (.cons 0 2 (.cons 1 3 (.cons 0 5 (.cons 1 4 (.cons 2 6 (.cons 3 7 (.cons 0 8 (.cons 0 10 (.cons 0 11 (.alt (.cons 3 9 (.cons 3 12 .nil)) (.cons 3 12 (.cons 3 9 .nil)))))))))))))))],[],[],[(4,[(18,29)]),(7,[(7,60)])],[(4,⟨5,32,29,[]⟩)],[(3,[])]⟩,⟨67,[0,1,3,8,17,23,28,29,32,39,45,50,51,53,59,60,63],[],[]⟩,2,e_sexp_reader_put⟩
def e_sexp_leaf:EFunc:=⟨1,7,
 (.seq (.st [.eff (some 1) none (.box 4 T_sexp_leaf_0 (.v 0)),
  .eff (some 2) none (.zbox [(.int .i64 0),(.int .i64 0),(.int .i64 0),(.str []),.nils] T_sexp_leaf_1)])
 (.seq (.st [.eff (some 3) none (.load none (.un (.off 0) (.v 1))),
  .eff (some 4) none (.load none (.un (.off 1) (.v 1))),
  .eff (some 5) none (.load none (.un (.off 2) (.v 1))),
  .eff (some 6) none (.load none (.un (.off 3) (.v 1))),
  .eff none none (.store 5 (.v 2) (.tup (.build [(.int .i64 0),(.int .i64 0),(.int .i64 0),(.str []),.nils] [(0,1),(1,1),(2,1),(3,1)]) (.cons (.v 3) (.cons (.v 4) (.cons (.v 5) (.cons (.v 6) .nil))))))])
 (.ret [.cell (.v 2) (some 5)])))⟩
noncomputable def r111:ERow:=⟨Tryz.f111,⟨[],[],[],[],[],[]⟩,⟨12,[0,1,2,4,6,8,10],[],[]⟩,1,e_sexp_leaf⟩
def e_strings_Builder_String:EFunc:=⟨1,4,
 (.seq (.st [.eff (some 1) none (.load none (.un (.off 1) (.un .nilchk (.v 0)))),
  .eff (some 2) none (.load none (.un (.off 1) (.un .nilchk (.v 0)))),
  .eff (some 3) none (.ustr T_byte (.un .sdata (.v 1)) (.un .len (.v 2)))])
 (.ret [.e (.v 3)]))⟩
noncomputable def r114:ERow:=⟨Tryz.f114,⟨[(1,(.cons 0 0 (.cons 0 1 (.cons 0 2 (.cons 0 5 (.cons 0 6 (.cons 0 7 (.cons 1 3 (.cons 0 4 (.cons 1 8 (.cons 0 9 (.cons 2 10 (.cons 0 11 .nil)))))))))))))],[],[],[],[],[]⟩,⟨14,[0,6,11,13],[],[]⟩,1,e_strings_Builder_String⟩
def e_val_Text:EFunc:=⟨1,6,
 (.seq (.st [.eff (some 1) none (.box 3 T_val_Text_0 (.v 0))])
 (.seq (.st [.eff (some 3) none (.load none (.un (.off 2) (.v 1))),
  .sets [(2,(.v 3))]])
 (.seq (.seq (.st [.eff (some 4) none (.load none (.un (.off 0) (.v 1)))])
 (.block 0 (.seq (.block 3 (.seq (.block 2 (.seq (.block 1 (.seq (.seq (.cond (.bi (.bin .eql) (.v 4) (.c (.int .i64 1)))
   (.exit 1)
   (.skip))
   (.seq (.cond (.bi (.bin .eql) (.v 4) (.c (.int .i64 3)))
   (.exit 2)
   (.skip))
   (.cond (.bi (.bin .eql) (.v 4) (.c (.int .i64 2)))
   (.exit 3)
   (.skip))))
   (.exit 0)))
  (.seq (.st [.eff (some 5) none (.load none (.un (.off 1) (.v 1))),
   .sets [(2,(.tup (.call 0 f_num_Text) (.cons (.v 5) .nil)))]])
  (.exit 0))))
  (.st [.sets [(2,(.tup (.call 0 f_val_Quote) (.cons (.v 2) .nil)))]])))
 (.seq (.st [.sets [(2,(.tup (.call 0 f_strings_Clone) (.cons (.v 2) .nil)))]])
 (.exit 0)))))
 (.ret [.e (.v 2)]))))⟩
noncomputable def r115:ERow:=⟨Tryz.f115,⟨[],[],[],[],[],[]⟩,⟨22,[0,1,3,5,7,15],[],[]⟩,1,e_val_Text⟩
def b_ref4_text_0:EC :=
 (.seq (.cond (.bi (.bin .lss) (.v 1) (.un .len (.v 0)))
 (.skip)
 (.exit 0))
 (.block 1 (.seq (.st [.sets [(3,(.un (.ld none) (.bi (.idx 1) (.v 0) (.v 1))))]])
 (.seq (.cond (.bi (.bin .eql) (.v 3) (.c (.int .u8 34)))
  (.seq (.cond (.bi (.bin .gtr) (.un .slen (.v 2)) (.c (.int .i64 1000)))
  (.ret [.e (.c (.str [])),.e (.c (.int .i64 0)),.e (.c (.int .i64 4))])
  (.skip))
  (.ret [.e (.v 2),.e (.bi (.bin .add) (.v 1) (.c (.int .i64 1))),.e (.c (.int .i64 0))]))
  (.skip))
 (.seq (.cond (.bi (.bin .eql) (.v 3) (.c (.int .u8 92)))
  (.seq (.st [.sets [(1,(.bi (.bin .add) (.v 1) (.c (.int .i64 1))))]])
  (.seq (.cond (.bi (.bin .eql) (.v 1) (.un .len (.v 0)))
  (.ret [.e (.c (.str [])),.e (.c (.int .i64 0)),.e (.c (.int .i64 3))])
  (.skip))
  (.st [.sets [(3,(.un (.ld none) (.bi (.idx 1) (.v 0) (.v 1))))]])))
  (.skip))
 (.seq (.st [.sets [(2,(.bi (.bin .add) (.v 2) (.un .tostr (.tup (.bslice 1 [(.int .u8 0)] 1 [0]) (.cons (.v 3) .nil)))))]])
 (.st [.sets [(1,(.bi (.bin .add) (.v 1) (.c (.int .i64 1))))]])))))))
def e_ref4_text:EFunc:=⟨2,4,
 (.seq (.st [.sets [(2,(.c (.str [])))]])
 (.seq (.block 0 (.loop [true,true,true,false] b_ref4_text_0))
 (.ret [.e (.c (.str [])),.e (.c (.int .i64 0)),.e (.c (.int .i64 3))])))⟩
noncomputable def r116:ERow:=⟨Tryz.f116,⟨[],[(0,[true,true,false,false,false,false,false,true])],[],[],[],[]⟩,⟨44,[0,1,7,8],[16,36],[]⟩,2,e_ref4_text⟩
def b_ref4_name_0:EC :=
 (.seq (.cond (.pick (.bi (.bin .lss) (.v 2) (.un .len (.v 0))) (.tup (.call 0 f_ref3_Part) (.cons (.un (.ld none) (.bi (.idx 1) (.v 0) (.v 2))) .nil)) (.c (.bool false)))
 (.skip)
 (.exit 0))
 (.block 1 (.st [.sets [(2,(.bi (.bin .add) (.v 2) (.c (.int .i64 1))))]])))
def e_ref4_name:EFunc:=⟨2,4,
 (.seq (.st [.sets [(2,(.v 1))]])
 (.seq (.block 0 (.loop [true,true,true,false] b_ref4_name_0))
 (.seq (.st [.sets [(3,(.un .tostr (.lsub 1 true true false (.v 0) (.v 1) (.v 2) (.c .undef))))]])
 (.seq (.cond (.bi (.bin .gtr) (.un .slen (.v 3)) (.c (.int .i64 40)))
 (.ret [.e (.c (.str [])),.e (.c (.int .i64 0)),.e (.c (.int .i64 4))])
 (.skip))
 (.seq (.cond (.un .not (.tup (.call 0 f_ref3_Good) (.cons (.v 3) .nil)))
 (.ret [.e (.c (.str [])),.e (.c (.int .i64 0)),.e (.c (.int .i64 2))])
 (.skip))
 (.ret [.e (.v 3),.e (.v 2),.e (.c (.int .i64 0))]))))))⟩
noncomputable def r117:ERow:=⟨Tryz.f117,⟨[],[(0,[true,true,false,false,false,false,false,true])],[],[],[],[]⟩,⟨36,[0,1,7,8],[18],[]⟩,2,e_ref4_name⟩
def b_ref1_Parse_0:EC :=
 (.seq (.cond (.bi (.bin .lss) (.v 3) (.un .slen (.v 0)))
 (.skip)
 (.exit 0))
 (.seq (.block 1 (.seq (.cond (.pick (.bi (.bin .eql) (.bi .sidx (.v 0) (.v 3)) (.c (.int .u8 43))) (.c (.bool true)) (.bi (.bin .eql) (.bi .sidx (.v 0) (.v 3)) (.c (.int .u8 45))))
  (.exit 1)
  (.skip))
 (.seq (.st [.sets [(4,(.un (.conv .i64) (.bi (.bin .sub) (.bi .sidx (.v 0) (.v 3)) (.c (.int .u8 48)))))]])
 (.seq (.cond (.v 1)
  (.st [.sets [(4,(.bi (.bin .sub) (.c (.int .i64 0)) (.v 4)))]])
  (.skip))
 (.seq (.st [.sets [(7,(.tup (.call 0 f_ref1_Mul) (.cons (.v 2) (.cons (.c (.int .i64 10)) .nil))))],
  .sets [(5,(.un (.ext 0) (.v 7)))]])
 (.seq (.cond (.bi (.bin .neq) (.un (.ext 1) (.v 7)) (.c (.int .i64 0)))
  (.ret [.e (.c (.int .i64 0)),.e (.un (.ext 1) (.v 7))])
  (.skip))
 (.seq (.st [.sets [(8,(.tup (.call 0 f_ref1_Add) (.cons (.v 5) (.cons (.v 4) .nil))))],
  .sets [(6,(.un (.ext 0) (.v 8)))]])
 (.seq (.cond (.bi (.bin .neq) (.un (.ext 1) (.v 8)) (.c (.int .i64 0)))
  (.ret [.e (.c (.int .i64 0)),.e (.un (.ext 1) (.v 8))])
  (.skip))
 (.st [.sets [(2,(.v 6))]])))))))))
 (.st [.sets [(3,(.bi (.bin .add) (.v 3) (.c (.int .i64 1))))]])))
def e_ref1_Parse:EFunc:=⟨1,9,
 (.seq (.cond (.un .not (.tup (.call 0 f_ref1_Shape) (.cons (.v 0) .nil)))
 (.ret [.e (.c (.int .i64 0)),.e (.c (.int .i64 2))])
 (.skip))
 (.seq (.st [.sets [(1,(.bi (.bin .eql) (.bi .sidx (.v 0) (.c (.int .i64 0))) (.c (.int .u8 45))))]])
 (.seq (.st [.sets [(2,(.c (.int .i64 0)))]])
 (.seq (.seq (.st [.sets [(3,(.c (.int .i64 0)))]])
 (.block 0 (.loop [true,true,true,true,false,false,false,false,false] b_ref1_Parse_0)))
 (.ret [.e (.v 2),.e (.c (.int .i64 0))])))))⟩
noncomputable def r118:ERow:=⟨Tryz.f118,⟨[],[(0,[true,false,false,false,true,true,true])],[],[],[],[]⟩,⟨61,[0,4,5,6,7,8,10,42,50],[],[42,50]⟩,1,e_ref1_Parse⟩
def b_cmp_Or_int_0:EC :=
 (.seq (.cond (.bi (.bin .lss) (.v 4) (.v 3))
 (.skip)
 (.exit 0))
 (.seq (.block 1 (.cond (.bi (.bin .neq) (.un (.ld none) (.bi (.idx 1) (.v 2) (.v 4))) (.v 1))
  (.ret [.e (.un (.ld none) (.bi (.idx 1) (.v 2) (.v 4)))])
  (.skip)))
 (.st [.sets [(4,(.bi (.bin .add) (.v 4) (.c (.int .i64 1))))]])))
def e_cmp_Or_int:EFunc:=⟨1,5,
 (.seq (.st [.sets [(1,(.c (.int .i64 0)))]])
 (.seq (.seq (.st [.sets [(2,(.v 0)),(3,(.un .len (.v 0))),(4,(.c (.int .i64 0)))]])
 (.block 0 (.loop [false,true,true,true,true] b_cmp_Or_int_0)))
 (.ret [.e (.v 1)])))⟩
noncomputable def r120:ERow:=⟨Tryz.f120,⟨[],[(0,[false,false,false,true,false,false,true,true,true])],[],[],[],[]⟩,⟨18,[0,3,6,7,8],[11],[]⟩,1,e_cmp_Or_int⟩
def e_cmp_Compare_int:EFunc:=⟨2,3,
 (.seq (.st [.sets [(2,(.tup (.call 0 f_cmp_isNaN_int) (.cons (.v 1) .nil)))]])
 (.seq (.cond (.tup (.call 0 f_cmp_isNaN_int) (.cons (.v 0) .nil))
 (.seq (.cond (.v 2)
  (.ret [.e (.c (.int .i64 0))])
  (.skip))
 (.ret [.e (.c (.int .i64 (-1)))]))
 (.skip))
 (.seq (.cond (.v 2)
 (.ret [.e (.c (.int .i64 1))])
 (.skip))
 (.seq (.cond (.bi (.bin .lss) (.v 0) (.v 1))
 (.ret [.e (.c (.int .i64 (-1)))])
 (.skip))
 (.seq (.cond (.bi (.bin .gtr) (.v 0) (.v 1))
 (.ret [.e (.c (.int .i64 1))])
 (.skip))
 (.ret [.e (.c (.int .i64 0))]))))))⟩
noncomputable def r121:ERow:=⟨Tryz.f121,⟨[],[],[],[],[],[]⟩,⟨20,[0,1,6],[],[]⟩,2,e_cmp_Compare_int⟩
def e_cmp_Compare_int64:EFunc:=⟨2,3,
 (.seq (.st [.sets [(2,(.tup (.call 0 f_cmp_isNaN_int64) (.cons (.v 1) .nil)))]])
 (.seq (.cond (.tup (.call 0 f_cmp_isNaN_int64) (.cons (.v 0) .nil))
 (.seq (.cond (.v 2)
  (.ret [.e (.c (.int .i64 0))])
  (.skip))
 (.ret [.e (.c (.int .i64 (-1)))]))
 (.skip))
 (.seq (.cond (.v 2)
 (.ret [.e (.c (.int .i64 1))])
 (.skip))
 (.seq (.cond (.bi (.bin .lss) (.v 0) (.v 1))
 (.ret [.e (.c (.int .i64 (-1)))])
 (.skip))
 (.seq (.cond (.bi (.bin .gtr) (.v 0) (.v 1))
 (.ret [.e (.c (.int .i64 1))])
 (.skip))
 (.ret [.e (.c (.int .i64 0))]))))))⟩
noncomputable def r122:ERow:=⟨Tryz.f122,⟨[],[],[],[],[],[]⟩,⟨20,[0,1,6],[],[]⟩,2,e_cmp_Compare_int64⟩
def e_cmp_Compare_string:EFunc:=⟨2,3,
 (.seq (.st [.sets [(2,(.tup (.call 0 f_cmp_isNaN_string) (.cons (.v 1) .nil)))]])
 (.seq (.cond (.tup (.call 0 f_cmp_isNaN_string) (.cons (.v 0) .nil))
 (.seq (.cond (.v 2)
  (.ret [.e (.c (.int .i64 0))])
  (.skip))
 (.ret [.e (.c (.int .i64 (-1)))]))
 (.skip))
 (.seq (.cond (.v 2)
 (.ret [.e (.c (.int .i64 1))])
 (.skip))
 (.seq (.cond (.bi (.bin .lss) (.v 0) (.v 1))
 (.ret [.e (.c (.int .i64 (-1)))])
 (.skip))
 (.seq (.cond (.bi (.bin .gtr) (.v 0) (.v 1))
 (.ret [.e (.c (.int .i64 1))])
 (.skip))
 (.ret [.e (.c (.int .i64 0))]))))))⟩
noncomputable def r123:ERow:=⟨Tryz.f123,⟨[],[],[],[],[],[]⟩,⟨20,[0,1,6],[],[]⟩,2,e_cmp_Compare_string⟩
def e_api_Errno_Error:EFunc:=⟨1,1,
 (.seq (.block 0 (.cond (.bi (.bin .eql) (.v 0) (.c (.int .i64 0)))
  (.ret [.e (.c (.str [111,107]))])
  (.cond (.bi (.bin .eql) (.v 0) (.c (.int .i64 1)))
  (.ret [.e (.c (.str [97,114,103]))])
  (.cond (.bi (.bin .eql) (.v 0) (.c (.int .i64 2)))
   (.ret [.e (.c (.str [102,111,114,109]))])
   (.cond (.bi (.bin .eql) (.v 0) (.c (.int .i64 3)))
   (.ret [.e (.c (.str [115,104,111,114,116]))])
   (.cond (.bi (.bin .eql) (.v 0) (.c (.int .i64 4)))
    (.ret [.e (.c (.str [108,111,110,103]))])
    (.cond (.bi (.bin .eql) (.v 0) (.c (.int .i64 5)))
    (.ret [.e (.c (.str [110,97,109,101]))])
    (.cond (.bi (.bin .eql) (.v 0) (.c (.int .i64 6)))
     (.ret [.e (.c (.str [116,119,105,99,101]))])
     (.cond (.bi (.bin .eql) (.v 0) (.c (.int .i64 7)))
     (.ret [.e (.c (.str [98,111,117,110,100]))])
     (.cond (.bi (.bin .eql) (.v 0) (.c (.int .i64 8)))
      (.ret [.e (.c (.str [116,121,112,101]))])
      (.cond (.bi (.bin .eql) (.v 0) (.c (.int .i64 9)))
      (.ret [.e (.c (.str [102,117,101,108]))])
      (.cond (.bi (.bin .eql) (.v 0) (.c (.int .i64 10)))
       (.ret [.e (.c (.str [102,117,108,108]))])
       (.cond (.bi (.bin .eql) (.v 0) (.c (.int .i64 11)))
       (.ret [.e (.c (.str [114,97,110,103,101]))])
       (.skip))))))))))))))
 (.ret [.e (.c (.str [101,114,114,111,114]))]))⟩
noncomputable def r124:ERow:=⟨Tryz.f124,⟨[],[],[],[],[],[]⟩,⟨28,[0],[],[]⟩,1,e_api_Errno_Error⟩
def e_internal_strconv_Itoa:EFunc:=⟨1,1,
 (.ret [.e (.tup (.call 0 f_internal_strconv_FormatInt) (.cons (.v 0) (.cons (.c (.int .i64 10)) .nil)))])⟩
noncomputable def r125:ERow:=⟨Tryz.f125,⟨[],[],[],[],[],[]⟩,⟨5,[0],[],[]⟩,1,e_internal_strconv_Itoa⟩
def e_ref1_size:EFunc:=⟨1,1,
 (.seq (.cond (.bi (.bin .lss) (.v 0) (.c (.int .i64 0)))
 (.ret [.e (.bi (.bin .add) (.un (.conv .u64) (.bi (.bin .sub) (.c (.int .i64 0)) (.bi (.bin .add) (.v 0) (.c (.int .i64 1))))) (.c (.int .u64 1)))])
 (.skip))
 (.ret [.e (.un (.conv .u64) (.v 0))]))⟩
noncomputable def r126:ERow:=⟨Tryz.f126,⟨[],[],[],[],[],[]⟩,⟨12,[0],[],[]⟩,1,e_ref1_size⟩
def e_lex_scanner_more:EFunc:=⟨1,5,
 (.seq (.seq (.st [.eff (some 1) none (.load none (.un (.off 1) (.un .nilchk (.v 0)))),
  .eff (some 2) none (.load none (.un (.off 0) (.un .nilchk (.v 0))))])
 (.cond (.bi (.bin .geq) (.v 1) (.un .len (.v 2)))
 (.ret [.e (.c (.int .u8 0)),.e (.c (.bool false))])
 (.skip)))
 (.seq (.st [.eff (some 3) none (.load none (.un (.off 0) (.un .nilchk (.v 0)))),
  .eff (some 4) none (.load none (.un (.off 1) (.un .nilchk (.v 0))))])
 (.ret [.e (.un (.ld none) (.bi (.idx 1) (.v 3) (.v 4))),.e (.c (.bool true))])))⟩
noncomputable def r129:ERow:=⟨Tryz.f129,⟨[(1,(.cons 0 0 (.cons 0 1 (.cons 0 2 (.cons 0 4 (.cons 0 5 (.cons 0 6 (.cons 1 3 (.cons 1 7 (.cons 0 8 (.cons 0 9 .nil))))))))))),(3,(.cons 0 0 (.cons 0 1 (.cons 0 2 (.cons 0 4 (.cons 0 5 (.cons 0 6 (.cons 1 3 (.cons 1 7 (.cons 0 8 (.cons 1 9 (.cons 0 10 (.cons 0 11 .nil)))))))))))))],[],[],[],[],[]⟩,⟨24,[0,7,11,17,21],[23],[]⟩,1,e_lex_scanner_more⟩
def b_lex_scanner_text_0:EC :=
 (.seq (.cond (.v 4)
 (.skip)
 (.exit 0))
 (.seq (.block 1 (.seq (.st [.eff (some 7) none (.load none (.un (.off 1) (.un .nilchk (.v 0)))),
  .eff none none (.store 1 (.un (.off 1) (.un .nilchk (.v 0))) (.bi (.bin .add) (.v 7) (.c (.int .i64 1))))])
 (.block 2 (.seq (.block 5 (.seq (.block 4 (.seq (.block 3 (.seq (.seq (.cond (.bi (.bin .eql) (.v 3) (.c (.int .u8 34)))
    (.exit 3)
    (.skip))
   (.cond (.bi (.bin .eql) (.v 3) (.c (.int .u8 92)))
    (.exit 4)
    (.skip)))
   (.exit 5)))
   (.seq (.cond (.bi (.bin .gtr) (.un .len (.v 2)) (.c (.int .i64 1000)))
   (.seq (.st [.eff none none (.store 4 (.v 1) (.tup (.build [(.int .i64 0),(.int .i64 0),(.int .i64 0),(.str [])] []) .nil))])
   (.ret [.cell (.v 1) (some 4),.e (.c (.int .i64 4))]))
   (.skip))
   (.seq (.st [.eff none none (.store 4 (.v 1) (.tup (.build [(.int .i64 0),(.int .i64 0),(.int .i64 0),(.str [])] [(0,1),(3,1)]) (.cons (.c (.int .i64 3)) (.cons (.un .tostr (.v 2)) .nil))))])
   (.ret [.cell (.v 1) (some 4),.e (.c (.int .i64 0))])))))
  (.seq (.seq (.st [.eff (some 8) none (.calls [true,true,true,true,true,true,true,true,true,true,true,true,true,true,true,true] f_lex_scanner_more (.cons (.v 0) .nil)),
   .sets [(3,(.un (.ext 0) (.v 8))),(4,(.un (.ext 1) (.v 8)))]])
  (.cond (.un .not (.v 4))
   (.seq (.st [.eff none none (.store 4 (.v 1) (.tup (.build [(.int .i64 0),(.int .i64 0),(.int .i64 0),(.str [])] []) .nil))])
   (.ret [.cell (.v 1) (some 4),.e (.c (.int .i64 3))]))
   (.skip)))
  (.st [.eff (some 9) none (.load none (.un (.off 1) (.un .nilchk (.v 0)))),
   .eff none none (.store 1 (.un (.off 1) (.un .nilchk (.v 0))) (.bi (.bin .add) (.v 9) (.c (.int .i64 1))))]))))
  (.seq (.st [.eff (some 10) none (.append 1 1 T_byte (.v 2) (.tup (.bslice 1 [(.int .u8 0)] 1 [0]) (.cons (.v 3) .nil))),
   .sets [(2,(.v 10))]])
  (.exit 2))))))
 (.st [.eff (some 6) none (.calls [true,true,true,true,true,true,true,true,true,true,true,true,true,true,true,true] f_lex_scanner_more (.cons (.v 0) .nil)),
  .sets [(3,(.un (.ext 0) (.v 6))),(4,(.un (.ext 1) (.v 6)))]])))
def e_lex_scanner_text:EFunc:=⟨1,11,
 (.seq (.st [.eff (some 1) none (.zbox [(.int .i64 0),(.int .i64 0),(.int .i64 0),(.str [])] T_lex_scanner_text_0)])
 (.seq (.st [.sets [(2,(.c .nils))]])
 (.seq (.seq (.st [.eff (some 5) none (.calls [true,true,true,true,true,true,true,true,true,true,true,true,true,true,true,true] f_lex_scanner_more (.cons (.v 0) .nil)),
  .sets [(3,(.un (.ext 0) (.v 5))),(4,(.un (.ext 1) (.v 5)))]])
 (.block 0 (.loop [true,true,true,true,true,false,false,false,false,false,false] b_lex_scanner_text_0)))
 (.seq (.st [.eff none none (.store 4 (.v 1) (.tup (.build [(.int .i64 0),(.int .i64 0),(.int .i64 0),(.str [])] []) .nil))])
 (.ret [.cell (.v 1) (some 4),.e (.c (.int .i64 3))])))))⟩
noncomputable def r130:ERow:=⟨Tryz.f130,⟨[],[(0,[true,false,true,false,true,true,true])],[],[],[],[]⟩,⟨57,[0,2,4,5,6,9,15,21,39,48,55],[],[]⟩,1,e_lex_scanner_text⟩
def e_lex_scanner_variable:EFunc:=⟨1,11,
 (.seq (.st [.eff (some 1) none (.zbox [(.int .i64 0),(.int .i64 0),(.int .i64 0),(.str [])] T_lex_scanner_variable_0)])
 (.seq (.st [.sets [(2,(.c (.int .i64 6)))]])
 (.seq (.seq (.st [.eff (some 6) none (.calls [true,true,true,true,true,true,true,true,true,true,true,true,true,true,true,true] f_lex_scanner_more (.cons (.v 0) .nil)),
  .sets [(3,(.un (.ext 0) (.v 6)))]])
 (.cond (.pick (.un (.ext 1) (.v 6)) (.bi (.bin .eql) (.v 3) (.c (.int .u8 42))) (.c (.bool false)))
 (.seq (.st [.eff (some 7) none (.load none (.un (.off 1) (.un .nilchk (.v 0)))),
  .eff none none (.store 1 (.un (.off 1) (.un .nilchk (.v 0))) (.bi (.bin .add) (.v 7) (.c (.int .i64 1))))])
 (.st [.sets [(2,(.c (.int .i64 7)))]]))
 (.skip)))
 (.seq (.st [.eff (some 8) none (.calls [true,true,true,true,true,true,true,true,true,true,true,true,true,true,true,true] f_lex_scanner_name (.cons (.v 0) .nil)),
  .sets [(4,(.un (.ext 0) (.v 8)))]])
 (.seq (.cond (.bi (.bin .neq) (.un (.ext 1) (.v 8)) (.c (.int .i64 0)))
 (.seq (.st [.eff none none (.store 4 (.v 1) (.tup (.build [(.int .i64 0),(.int .i64 0),(.int .i64 0),(.str [])] []) .nil))])
 (.ret [.cell (.v 1) (some 4),.e (.un (.ext 1) (.v 8))]))
 (.skip))
 (.seq (.cond (.bi (.bin .eql) (.v 2) (.c (.int .i64 7)))
 (.seq (.seq (.st [.eff (some 9) none (.calls [true,true,true,true,true,true,true,true,true,true,true,true,true,true,true,true] f_lex_scanner_more (.cons (.v 0) .nil)),
  .sets [(5,(.un (.ext 0) (.v 9)))]])
 (.cond (.pick (.un .not (.un (.ext 1) (.v 9))) (.c (.bool true)) (.bi (.bin .neq) (.v 5) (.c (.int .u8 42))))
  (.seq (.st [.eff none none (.store 4 (.v 1) (.tup (.build [(.int .i64 0),(.int .i64 0),(.int .i64 0),(.str [])] []) .nil))])
  (.ret [.cell (.v 1) (some 4),.e (.c (.int .i64 2))]))
  (.skip)))
 (.st [.eff (some 10) none (.load none (.un (.off 1) (.un .nilchk (.v 0)))),
  .eff none none (.store 1 (.un (.off 1) (.un .nilchk (.v 0))) (.bi (.bin .add) (.v 10) (.c (.int .i64 1))))]))
 (.skip))
 (.seq (.st [.eff none none (.store 4 (.v 1) (.tup (.build [(.int .i64 0),(.int .i64 0),(.int .i64 0),(.str [])] [(0,1),(3,1)]) (.cons (.v 2) (.cons (.v 4) .nil))))])
 (.ret [.cell (.v 1) (some 4),.e (.c (.int .i64 0))]))))))))⟩
noncomputable def r131:ERow:=⟨Tryz.f131,⟨[],[],[],[],[],[]⟩,⟨61,[0,2,4,5,7,9,13,24,30,41,54],[],[]⟩,1,e_lex_scanner_variable⟩
def b_lex_scanner_word_0:EC :=
 (.seq (.cond (.pick (.v 4) (.tup (.call 0 f_lex_sign) (.cons (.v 3) .nil)) (.c (.bool false)))
 (.skip)
 (.exit 0))
 (.seq (.block 1 (.st [.eff (some 11) none (.load none (.un (.off 1) (.un .nilchk (.v 0)))),
  .eff none none (.store 1 (.un (.off 1) (.un .nilchk (.v 0))) (.bi (.bin .add) (.v 11) (.c (.int .i64 1))))]))
 (.st [.eff (some 10) none (.calls [true,true,true,true,true,true,true,true,true,true,true,true,true,true,true,true] f_lex_scanner_more (.cons (.v 0) .nil)),
  .sets [(3,(.un (.ext 0) (.v 10))),(4,(.un (.ext 1) (.v 10)))]])))
def e_lex_scanner_word:EFunc:=⟨1,15,
 (.seq (.st [.eff (some 1) none (.zbox [(.int .i64 0),(.int .i64 0),(.int .i64 0),(.str [])] T_lex_scanner_word_0)])
 (.seq (.st [.eff (some 8) none (.load none (.un (.off 1) (.un .nilchk (.v 0)))),
  .sets [(2,(.v 8))]])
 (.seq (.seq (.st [.eff (some 9) none (.calls [true,true,true,true,true,true,true,true,true,true,true,true,true,true,true,true] f_lex_scanner_more (.cons (.v 0) .nil)),
  .sets [(3,(.un (.ext 0) (.v 9))),(4,(.un (.ext 1) (.v 9)))]])
 (.block 0 (.loop [true,true,true,true,true,false,false,false,false,false,false,false,false,false,false] b_lex_scanner_word_0)))
 (.seq (.st [.eff (some 12) none (.load none (.un (.off 0) (.un .nilchk (.v 0)))),
  .eff (some 13) none (.load none (.un (.off 1) (.un .nilchk (.v 0)))),
  .sets [(5,(.un .tostr (.lsub 1 true true false (.v 12) (.v 2) (.v 13) (.c .undef))))]])
 (.seq (.st [.sets [(14,(.tup (.call 0 f_num_Parse) (.cons (.v 5) .nil)))],
  .sets [(6,(.un (.ext 0) (.v 14))),(7,(.un (.ext 1) (.v 14)))]])
 (.seq (.block 2 (.cond (.bi (.bin .eql) (.v 5) (.c (.str [])))
  (.seq (.st [.eff none none (.store 4 (.v 1) (.tup (.build [(.int .i64 0),(.int .i64 0),(.int .i64 0),(.str [])] []) .nil))])
  (.ret [.cell (.v 1) (some 4),.e (.c (.int .i64 2))]))
  (.cond (.bi (.bin .eql) (.v 7) (.c (.int .i64 0)))
  (.seq (.st [.eff none none (.store 4 (.v 1) (.tup (.build [(.int .i64 0),(.int .i64 0),(.int .i64 0),(.str [])] [(0,1),(2,1)]) (.cons (.c (.int .i64 1)) (.cons (.v 6) .nil))))])
  (.ret [.cell (.v 1) (some 4),.e (.c (.int .i64 0))]))
  (.cond (.bi (.bin .neq) (.v 7) (.c (.int .i64 2)))
   (.seq (.st [.eff none none (.store 4 (.v 1) (.tup (.build [(.int .i64 0),(.int .i64 0),(.int .i64 0),(.str [])] []) .nil))])
   (.ret [.cell (.v 1) (some 4),.e (.v 7)]))
   (.cond (.bi (.bin .gtr) (.un .slen (.v 5)) (.c (.int .i64 40)))
   (.seq (.st [.eff none none (.store 4 (.v 1) (.tup (.build [(.int .i64 0),(.int .i64 0),(.int .i64 0),(.str [])] []) .nil))])
   (.ret [.cell (.v 1) (some 4),.e (.c (.int .i64 4))]))
   (.skip))))))
 (.seq (.st [.eff none none (.store 4 (.v 1) (.tup (.build [(.int .i64 0),(.int .i64 0),(.int .i64 0),(.str [])] [(0,1),(3,1)]) (.cons (.c (.int .i64 2)) (.cons (.v 5) .nil))))])
 (.ret [.cell (.v 1) (some 4),.e (.c (.int .i64 0))]))))))))⟩
noncomputable def r132:ERow:=⟨Tryz.f132,⟨[(6,(.cons 0 0 (.cons 0 1 (.cons 0 2 (.cons 0 4 (.cons 0 5 (.cons 0 6 (.cons 0 7 (.cons 1 3 (.cons 1 8 (.cons 0 9 (.cons 2 10 (.cons 0 11 .nil)))))))))))))],[(0,[true,false,true,false,true,true,true])],[],[],[],[]⟩,⟨73,[0,2,4,5,6,7,8,9,13,16,26,32,39,44,47],[],[47]⟩,1,e_lex_scanner_word⟩
def e_strings_Builder_copyCheck:EFunc:=⟨1,5,
 (.seq (.seq (.st [.eff (some 1) none (.load none (.un (.off 0) (.un .nilchk (.v 0))))])
 (.cond (.bi (.eqs 2 false) (.v 1) (.c .nilp))
 (.st [.eff (some 2) none (.touns (.v 0)),
  .eff (some 3) none (.fromuns 2 T_bld (.v 2)),
  .eff none none (.store 1 (.un (.off 0) (.un .nilchk (.v 0))) (.v 3))])
 (.seq (.st [.eff (some 4) none (.load none (.un (.off 0) (.un .nilchk (.v 0))))])
 (.cond (.bi (.eqs 2 true) (.v 4) (.v 0))
  (.st [.eff none none .fail])
  (.skip)))))
 (.ret []))⟩
noncomputable def r133:ERow:=⟨Tryz.f133,⟨[],[],[],[],[],[]⟩,⟨20,[0,5,9,11,17],[],[]⟩,1,e_strings_Builder_copyCheck⟩
def e_num_Text:EFunc:=⟨1,1,
 (.ret [.e (.tup (.call 0 f_strconv_FormatInt) (.cons (.v 0) (.cons (.c (.int .i64 10)) .nil)))])⟩
noncomputable def r135:ERow:=⟨Tryz.f135,⟨[],[],[],[],[],[]⟩,⟨5,[0],[],[]⟩,1,e_num_Text⟩
def b_val_Quote_0:EC :=
 (.seq (.cond (.bi (.bin .lss) (.v 4) (.v 3))
 (.skip)
 (.exit 0))
 (.seq (.block 1 (.seq (.st [.sets [(2,(.v 4))]])
 (.seq (.block 2 (.seq (.seq (.st [.sets [(5,(.bi (.bin .eql) (.bi .sidx (.v 0) (.v 2)) (.c (.int .u8 34))))]])
  (.cond (.v 5)
  (.skip)
  (.st [.sets [(5,(.bi (.bin .eql) (.bi .sidx (.v 0) (.v 2)) (.c (.int .u8 92))))]])))
  (.cond (.v 5)
  (.st [.eff none none (.calls [true,true,true,true,true,true,true,true,true,true,true,true,true,true,true,true] f_strings_Builder_WriteByte (.cons (.v 1) (.cons (.c (.int .u8 92)) .nil)))])
  (.skip))))
 (.st [.eff none none (.calls [true,true,true,true,true,true,true,true,true,true,true,true,true,true,true,true] f_strings_Builder_WriteByte (.cons (.v 1) (.cons (.bi .sidx (.v 0) (.v 2)) .nil)))]))))
 (.st [.sets [(4,(.bi (.bin .add) (.v 4) (.c (.int .i64 1))))]])))
def e_val_Quote:EFunc:=⟨1,7,
 (.seq (.st [.eff (some 1) none (.zbox [.nilp,.nils] T_bld)])
 (.seq (.st [.eff none none (.calls [true,true,true,true,true,true,true,true,true,true,true,true,true,true,true,true] f_strings_Builder_WriteByte (.cons (.v 1) (.cons (.c (.int .u8 34)) .nil)))])
 (.seq (.seq (.st [.sets [(3,(.un .slen (.v 0))),(4,(.c (.int .i64 0)))]])
 (.block 0 (.loop [true,true,false,true,true,false,false] b_val_Quote_0)))
 (.seq (.st [.eff none none (.calls [true,true,true,true,true,true,true,true,true,true,true,true,true,true,true,true] f_strings_Builder_WriteByte (.cons (.v 1) (.cons (.c (.int .u8 34)) .nil)))])
 (.seq (.st [.eff (some 6) none (.calls [true,true,true,true,true,true,true,true,true,true,true,true,true,true,true,true] f_strings_Builder_String (.cons (.v 1) .nil))])
 (.ret [.e (.v 6)]))))))⟩
noncomputable def r136:ERow:=⟨Tryz.f136,⟨[],[(0,[true,false,false,true,false,false,false,true,true])],[],[],[],[]⟩,⟨25,[0,3,4,7,8,14,24],[],[]⟩,1,e_val_Quote⟩
def e_strings_Clone:EFunc:=⟨1,1,
 (.ret [.e (.tup (.call 0 f_internal_stringslite_Clone) (.cons (.v 0) .nil))])⟩
noncomputable def r137:ERow:=⟨Tryz.f137,⟨[],[],[],[],[],[]⟩,⟨5,[0],[],[]⟩,1,e_strings_Clone⟩
def e_ref3_Part:EFunc:=⟨1,1,
 (.ret [.e (.pick (.pick (.pick (.tup (.call 0 f_ref3_letter) (.cons (.v 0) .nil)) (.c (.bool true)) (.pick (.bi (.bin .geq) (.v 0) (.c (.int .u8 48))) (.bi (.bin .leq) (.v 0) (.c (.int .u8 57))) (.c (.bool false)))) (.c (.bool true)) (.bi (.bin .eql) (.v 0) (.c (.int .u8 45)))) (.c (.bool true)) (.bi (.bin .eql) (.v 0) (.c (.int .u8 95))))])⟩
noncomputable def r138:ERow:=⟨Tryz.f138,⟨[],[],[],[],[],[]⟩,⟨21,[0],[],[]⟩,1,e_ref3_Part⟩
def b_ref3_Good_0:EC :=
 (.seq (.cond (.bi (.bin .lss) (.v 1) (.un .slen (.v 0)))
 (.skip)
 (.exit 0))
 (.seq (.block 1 (.cond (.un .not (.tup (.call 0 f_ref3_Part) (.cons (.bi .sidx (.v 0) (.v 1)) .nil)))
  (.ret [.e (.c (.bool false))])
  (.skip)))
 (.st [.sets [(1,(.bi (.bin .add) (.v 1) (.c (.int .i64 1))))]])))
def e_ref3_Good:EFunc:=⟨1,2,
 (.seq (.cond (.pick (.pick (.bi (.bin .eql) (.un .slen (.v 0)) (.c (.int .i64 0))) (.c (.bool true)) (.bi (.bin .gtr) (.un .slen (.v 0)) (.c (.int .i64 40)))) (.c (.bool true)) (.un .not (.tup (.call 0 f_ref3_letter) (.cons (.bi .sidx (.v 0) (.c (.int .i64 0))) .nil))))
 (.ret [.e (.c (.bool false))])
 (.skip))
 (.seq (.seq (.st [.sets [(1,(.c (.int .i64 0)))]])
 (.block 0 (.loop [true,true] b_ref3_Good_0)))
 (.ret [.e (.c (.bool true))])))⟩
noncomputable def r139:ERow:=⟨Tryz.f139,⟨[],[(0,[true,false,false,true])],[],[],[],[]⟩,⟨29,[0,3],[],[]⟩,1,e_ref3_Good⟩
def e_ref1_Mul:EFunc:=⟨2,5,
 (.seq (.st [.sets [(2,(.tup (.call 0 f_ref1_size) (.cons (.v 0) .nil)))]])
 (.seq (.st [.sets [(3,(.tup (.call 0 f_ref1_size) (.cons (.v 1) .nil)))]])
 (.seq (.st [.sets [(4,(.c (.int .u64 9223372036854775807)))]])
 (.seq (.cond (.bi (.eqs 0 true) (.bi (.bin .lss) (.v 0) (.c (.int .i64 0))) (.bi (.bin .lss) (.v 1) (.c (.int .i64 0))))
 (.st [.sets [(4,(.bi (.bin .add) (.v 4) (.c (.int .u64 1))))]])
 (.skip))
 (.seq (.cond (.pick (.bi (.bin .neq) (.v 2) (.c (.int .u64 0))) (.bi (.bin .gtr) (.v 3) (.bi (.bin .quo) (.v 4) (.v 2))) (.c (.bool false)))
 (.ret [.e (.c (.int .i64 0)),.e (.c (.int .i64 11))])
 (.skip))
 (.ret [.e (.bi (.bin .mul) (.v 0) (.v 1)),.e (.c (.int .i64 0))]))))))⟩
noncomputable def r140:ERow:=⟨Tryz.f140,⟨[],[],[],[],[],[]⟩,⟨32,[0,1,6,7,8],[],[]⟩,2,e_ref1_Mul⟩
def e_ref1_Add:EFunc:=⟨2,2,
 (.seq (.cond (.pick (.pick (.bi (.bin .gtr) (.v 1) (.c (.int .i64 0))) (.bi (.bin .gtr) (.v 0) (.bi (.bin .sub) (.c (.int .i64 9223372036854775807)) (.v 1))) (.c (.bool false))) (.c (.bool true)) (.pick (.bi (.bin .lss) (.v 1) (.c (.int .i64 0))) (.bi (.bin .lss) (.v 0) (.bi (.bin .sub) (.c (.int .i64 (-9223372036854775808))) (.v 1))) (.c (.bool false))))
 (.ret [.e (.c (.int .i64 0)),.e (.c (.int .i64 11))])
 (.skip))
 (.ret [.e (.bi (.bin .add) (.v 0) (.v 1)),.e (.c (.int .i64 0))]))⟩
noncomputable def r141:ERow:=⟨Tryz.f141,⟨[],[],[],[],[],[]⟩,⟨27,[0,1],[],[]⟩,2,e_ref1_Add⟩
def e_cmp_isNaN_int:EFunc:=⟨1,1,
 (.ret [.e (.bi (.bin .neq) (.v 0) (.v 0))])⟩
noncomputable def r142:ERow:=⟨Tryz.f142,⟨[],[],[],[],[],[]⟩,⟨6,[0],[],[]⟩,1,e_cmp_isNaN_int⟩
def e_cmp_isNaN_int64:EFunc:=⟨1,1,
 (.ret [.e (.bi (.bin .neq) (.v 0) (.v 0))])⟩
noncomputable def r143:ERow:=⟨Tryz.f143,⟨[],[],[],[],[],[]⟩,⟨6,[0],[],[]⟩,1,e_cmp_isNaN_int64⟩
def e_cmp_isNaN_string:EFunc:=⟨1,1,
 (.ret [.e (.bi (.bin .neq) (.v 0) (.v 0))])⟩
noncomputable def r144:ERow:=⟨Tryz.f144,⟨[],[],[],[],[],[]⟩,⟨6,[0],[],[]⟩,1,e_cmp_isNaN_string⟩
def b_lex_scanner_name_0:EC :=
 (.seq (.cond (.pick (.v 3) (.tup (.call 0 f_lex_part) (.cons (.v 2) .nil)) (.c (.bool false)))
 (.skip)
 (.exit 0))
 (.seq (.block 1 (.st [.eff (some 8) none (.load none (.un (.off 1) (.un .nilchk (.v 0)))),
  .eff none none (.store 1 (.un (.off 1) (.un .nilchk (.v 0))) (.bi (.bin .add) (.v 8) (.c (.int .i64 1))))]))
 (.st [.eff (some 7) none (.calls [true,true,true,true,true,true,true,true,true,true,true,true,true,true,true,true] f_lex_scanner_more (.cons (.v 0) .nil)),
  .sets [(2,(.un (.ext 0) (.v 7))),(3,(.un (.ext 1) (.v 7)))]])))
def e_lex_scanner_name:EFunc:=⟨1,11,
 (.seq (.st [.eff (some 5) none (.load none (.un (.off 1) (.un .nilchk (.v 0)))),
  .sets [(1,(.v 5))]])
 (.seq (.seq (.st [.eff (some 6) none (.calls [true,true,true,true,true,true,true,true,true,true,true,true,true,true,true,true] f_lex_scanner_more (.cons (.v 0) .nil)),
  .sets [(2,(.un (.ext 0) (.v 6))),(3,(.un (.ext 1) (.v 6)))]])
 (.block 0 (.loop [true,true,true,true,false,false,false,false,false,false,false] b_lex_scanner_name_0)))
 (.seq (.st [.eff (some 9) none (.load none (.un (.off 0) (.un .nilchk (.v 0)))),
  .eff (some 10) none (.load none (.un (.off 1) (.un .nilchk (.v 0)))),
  .sets [(4,(.un .tostr (.lsub 1 true true false (.v 9) (.v 1) (.v 10) (.c .undef))))]])
 (.seq (.block 2 (.cond (.bi (.bin .gtr) (.un .slen (.v 4)) (.c (.int .i64 40)))
  (.ret [.e (.c (.str [])),.e (.c (.int .i64 4))])
  (.cond (.un .not (.tup (.call 0 f_sym_Good) (.cons (.v 4) .nil)))
  (.ret [.e (.c (.str [])),.e (.c (.int .i64 2))])
  (.skip))))
 (.ret [.e (.v 4),.e (.c (.int .i64 0))])))))⟩
noncomputable def r146:ERow:=⟨Tryz.f146,⟨[(6,(.cons 0 0 (.cons 0 1 (.cons 0 2 (.cons 0 4 (.cons 0 5 (.cons 0 6 (.cons 0 7 (.cons 1 3 (.cons 1 8 (.cons 0 9 (.cons 2 10 (.cons 0 11 .nil)))))))))))))],[(0,[true,false,false,false,true,true,true])],[],[],[],[]⟩,⟨54,[0,4,5,6,7,11,14,24,30,37,42],[],[]⟩,1,e_lex_scanner_name⟩
def e_lex_sign:EFunc:=⟨1,1,
 (.ret [.e (.tup (.call 0 f_val_Right) (.cons (.tup (.call 0 f_val_OfSym) (.cons (.bi (.bin .add) (.c (.str [97])) (.un .tostr (.tup (.bslice 1 [(.int .u8 0)] 1 [0]) (.cons (.v 0) .nil)))) .nil)) .nil))])⟩
noncomputable def r147:ERow:=⟨Tryz.f147,⟨[],[],[],[],[],[]⟩,⟨9,[0],[],[]⟩,1,e_lex_sign⟩
def b_num_Parse_0:EC :=
 (.seq (.cond (.bi (.bin .lss) (.v 7) (.v 6))
 (.skip)
 (.exit 3))
 (.seq (.block 4 (.cond (.pick (.bi (.bin .lss) (.bi .sidx (.v 1) (.v 7)) (.c (.int .u8 48))) (.c (.bool true)) (.bi (.bin .gtr) (.bi .sidx (.v 1) (.v 7)) (.c (.int .u8 57))))
  (.ret [.e (.c (.int .i64 0)),.e (.c (.int .i64 2))])
  (.skip)))
 (.st [.sets [(7,(.bi (.bin .add) (.v 7) (.c (.int .i64 1))))]])))
def b_num_Parse_1:EC :=
 (.seq (.cond (.bi (.bin .lss) (.v 9) (.v 8))
 (.skip)
 (.exit 5))
 (.seq (.block 6 (.seq (.st [.sets [(10,(.tup (.call 0 f_num_Mul) (.cons (.v 3) (.cons (.c (.int .i64 10)) .nil))))],
  .sets [(4,(.un (.ext 0) (.v 10))),(5,(.un (.ext 1) (.v 10)))]])
 (.seq (.cond (.bi (.bin .eql) (.v 5) (.c (.int .i64 0)))
  (.st [.sets [(11,(.tup (.call 0 f_num_Sub) (.cons (.v 4) (.cons (.un (.conv .i64) (.bi (.bin .sub) (.bi .sidx (.v 1) (.v 9)) (.c (.int .u8 48)))) .nil))))],
   .sets [(4,(.un (.ext 0) (.v 11))),(5,(.un (.ext 1) (.v 11)))]])
  (.skip))
 (.seq (.cond (.bi (.bin .neq) (.v 5) (.c (.int .i64 0)))
  (.ret [.e (.c (.int .i64 0)),.e (.v 5)])
  (.skip))
 (.st [.sets [(3,(.v 4))]])))))
 (.st [.sets [(9,(.bi (.bin .add) (.v 9) (.c (.int .i64 1))))]])))
def e_num_Parse:EFunc:=⟨1,13,
 (.seq (.st [.sets [(1,(.v 0)),(2,(.c (.bool false)))]])
 (.seq (.block 0 (.seq (.block 2 (.seq (.block 1 (.seq (.seq (.cond (.tup (.call 0 f_strings_HasPrefix) (.cons (.v 0) (.cons (.c (.str [45])) .nil)))
   (.exit 1)
   (.skip))
  (.cond (.tup (.call 0 f_strings_HasPrefix) (.cons (.v 0) (.cons (.c (.str [43])) .nil)))
   (.exit 2)
   (.skip)))
  (.exit 0)))
  (.st [.sets [(2,(.c (.bool true)))]])))
 (.seq (.st [.sets [(1,(.ssub true false (.v 0) (.c (.int .i64 1)) (.c .undef)))]])
 (.exit 0))))
 (.seq (.cond (.bi (.bin .eql) (.v 1) (.c (.str [])))
 (.ret [.e (.c (.int .i64 0)),.e (.c (.int .i64 2))])
 (.skip))
 (.seq (.seq (.st [.sets [(6,(.un .slen (.v 1))),(7,(.c (.int .i64 0)))]])
 (.block 3 (.loop [false,true,true,false,false,false,true,true,false,false,false,false,false] b_num_Parse_0)))
 (.seq (.st [.sets [(3,(.c (.int .i64 0)))]])
 (.seq (.seq (.st [.sets [(8,(.un .slen (.v 1))),(9,(.c (.int .i64 0)))]])
 (.block 5 (.loop [false,true,true,true,false,false,false,false,true,true,false,false,false] b_num_Parse_1)))
 (.seq (.cond (.v 2)
 (.ret [.e (.v 3),.e (.c (.int .i64 0))])
 (.skip))
 (.seq (.st [.sets [(12,(.tup (.call 0 f_num_Sub) (.cons (.c (.int .i64 0)) (.cons (.v 3) .nil))))]])
 (.ret [.e (.un (.ext 0) (.v 12)),.e (.un (.ext 1) (.v 12))])))))))))⟩
noncomputable def r148:ERow:=⟨Tryz.f148,⟨[],[(3,[false,false,false,false,true,true,false,false,false,false,false,false,false,false,false,false,false,false,false,false,false,false,false,true,true]),(5,[false,false,false,false,true,true,false,true,false,false,false,false,false,false,false,false,false,false,false,false,false,false,false,false,false,false,false,false,false,false,false,false,false,false,false,false,false,false,false,true,true])],[],[],[],[]⟩,⟨71,[0,4,5,7,9,10,23,24,39,40,43,50,68],[],[68,43,50]⟩,1,e_num_Parse⟩
def e_strconv_FormatInt:EFunc:=⟨2,2,
 (.ret [.e (.tup (.call 0 f_internal_strconv_FormatInt) (.cons (.v 0) (.cons (.v 1) .nil)))])⟩
noncomputable def r151:ERow:=⟨Tryz.f151,⟨[],[],[],[],[],[]⟩,⟨8,[0,1],[],[]⟩,2,e_strconv_FormatInt⟩
def e_strings_Builder_WriteByte:EFunc:=⟨2,4,
 (.seq (.st [.eff none none (.calls [true,true,true,true,true,true,true,true,true,true,true,true,true,true,true,true] f_strings_Builder_copyCheck (.cons (.v 0) .nil))])
 (.seq (.st [.eff (some 2) none (.load none (.un (.off 1) (.un .nilchk (.v 0)))),
  .eff (some 3) none (.append 1 1 T_byte (.v 2) (.tup (.bslice 1 [(.int .u8 0)] 1 [0]) (.cons (.v 1) .nil))),
  .eff none none (.store 1 (.un (.off 1) (.un .nilchk (.v 0))) (.v 3))])
 (.ret [.e (.c .nili)])))⟩
noncomputable def r152:ERow:=⟨Tryz.f152,⟨[],[],[],[],[],[]⟩,⟨17,[0,1,11,14],[],[]⟩,2,e_strings_Builder_WriteByte⟩
def e_ref3_letter:EFunc:=⟨1,1,
 (.ret [.e (.pick (.pick (.bi (.bin .geq) (.v 0) (.c (.int .u8 97))) (.bi (.bin .leq) (.v 0) (.c (.int .u8 122))) (.c (.bool false))) (.c (.bool true)) (.pick (.bi (.bin .geq) (.v 0) (.c (.int .u8 65))) (.bi (.bin .leq) (.v 0) (.c (.int .u8 90))) (.c (.bool false))))])⟩
noncomputable def r154:ERow:=⟨Tryz.f154,⟨[],[],[],[],[],[]⟩,⟨17,[0],[],[]⟩,1,e_ref3_letter⟩
def e_lex_part:EFunc:=⟨1,1,
 (.ret [.e (.tup (.call 0 f_sym_Good) (.cons (.bi (.bin .add) (.c (.str [97])) (.un .tostr (.tup (.bslice 1 [(.int .u8 0)] 1 [0]) (.cons (.v 0) .nil)))) .nil))])⟩
noncomputable def r159:ERow:=⟨Tryz.f159,⟨[],[],[],[],[],[]⟩,⟨8,[0],[],[]⟩,1,e_lex_part⟩
def b_sym_Good_0:EC :=
 (.seq (.cond (.bi (.bin .lss) (.v 2) (.v 1))
 (.skip)
 (.exit 0))
 (.seq (.block 1 (.cond (.bi (.bin .eql) (.tup (.call 0 f_sym_class) (.cons (.bi .sidx (.v 0) (.v 2)) .nil)) (.c (.int .i64 0)))
  (.ret [.e (.c (.bool false))])
  (.skip)))
 (.st [.sets [(2,(.bi (.bin .add) (.v 2) (.c (.int .i64 1))))]])))
def e_sym_Good:EFunc:=⟨1,3,
 (.seq (.cond (.pick (.pick (.bi (.bin .lss) (.un .slen (.v 0)) (.c (.int .i64 1))) (.c (.bool true)) (.bi (.bin .gtr) (.un .slen (.v 0)) (.c (.int .i64 40)))) (.c (.bool true)) (.bi (.bin .lss) (.tup (.call 0 f_sym_class) (.cons (.bi .sidx (.v 0) (.c (.int .i64 0))) .nil)) (.c (.int .i64 2))))
 (.ret [.e (.c (.bool false))])
 (.skip))
 (.seq (.seq (.st [.sets [(1,(.un .slen (.v 0))),(2,(.c (.int .i64 0)))]])
 (.block 0 (.loop [true,true,true] b_sym_Good_0)))
 (.ret [.e (.c (.bool true))])))⟩
noncomputable def r160:ERow:=⟨Tryz.f160,⟨[],[(0,[true,false,false,false,false,false,false,false,false,false,false,false,false,false,false,false,false,false,false,true,true])],[],[],[],[]⟩,⟨29,[0,19,20],[],[]⟩,1,e_sym_Good⟩
def e_val_Right:EFunc:=⟨1,8,
 (.seq (.st [.eff (some 1) none (.box 3 T_val_Right_0 (.v 0))])
 (.seq (.seq (.st [.eff (some 2) none (.load none (.un (.off 0) (.v 1)))])
 (.block 0 (.cond (.bi (.bin .eql) (.v 2) (.c (.int .i64 1)))
  (.seq (.st [.eff (some 3) none (.load none (.un (.off 2) (.v 1)))])
  (.ret [.e (.bi (.bin .eql) (.v 3) (.c (.str [])))]))
  (.cond (.bi (.bin .eql) (.v 2) (.c (.int .i64 2)))
  (.seq (.st [.eff (some 4) none (.load none (.un (.off 1) (.v 1))),
   .eff (some 5) (some ((.bi (.bin .eql) (.v 4) (.c (.int .i64 0))),true)) (.load none (.un (.off 2) (.v 1)))])
  (.ret [.e (.pick (.bi (.bin .eql) (.v 4) (.c (.int .i64 0))) (.tup (.call 0 f_val_symbol) (.cons (.v 5) .nil)) (.c (.bool false)))]))
  (.cond (.bi (.bin .eql) (.v 2) (.c (.int .i64 3)))
   (.seq (.st [.eff (some 6) none (.load none (.un (.off 1) (.v 1))),
    .eff (some 7) (some ((.bi (.bin .eql) (.v 6) (.c (.int .i64 0))),true)) (.load none (.un (.off 2) (.v 1)))])
   (.ret [.e (.pick (.bi (.bin .eql) (.v 6) (.c (.int .i64 0))) (.bi (.bin .leq) (.un .slen (.v 7)) (.c (.int .i64 1000))) (.c (.bool false)))]))
   (.skip))))))
 (.ret [.e (.c (.bool false))])))⟩
noncomputable def r161:ERow:=⟨Tryz.f161,⟨[],[],[],[],[],[]⟩,⟨31,[0,1,4,8,13,17,23,27],[],[]⟩,1,e_val_Right⟩
def e_val_OfSym:EFunc:=⟨1,2,
 (.seq (.st [.eff (some 1) none (.zbox [(.int .i64 0),(.int .i64 0),(.str [])] T_val_OfSym_0)])
 (.seq (.st [.eff none none (.store 3 (.v 1) (.tup (.build [(.int .i64 0),(.int .i64 0),(.str [])] [(0,1),(2,1)]) (.cons (.c (.int .i64 2)) (.cons (.v 0) .nil))))])
 (.ret [.cell (.v 1) (some 3)])))⟩
noncomputable def r162:ERow:=⟨Tryz.f162,⟨[],[],[],[],[],[]⟩,⟨5,[0,2],[],[]⟩,1,e_val_OfSym⟩
def e_strings_HasPrefix:EFunc:=⟨2,2,
 (.ret [.e (.tup (.call 0 f_internal_stringslite_HasPrefix) (.cons (.v 0) (.cons (.v 1) .nil)))])⟩
noncomputable def r163:ERow:=⟨Tryz.f163,⟨[],[],[],[],[],[]⟩,⟨8,[0,1],[],[]⟩,2,e_strings_HasPrefix⟩
def e_num_Mul:EFunc:=⟨2,6,
 (.seq (.st [.sets [(4,(.tup (.call 0 f_math_bits_Mul64) (.cons (.tup (.call 0 f_num_abs) (.cons (.v 0) .nil)) (.cons (.tup (.call 0 f_num_abs) (.cons (.v 1) .nil)) .nil))))],
  .sets [(2,(.un (.ext 1) (.v 4)))]])
 (.seq (.st [.sets [(3,(.bi (.eqs 0 true) (.bi (.bin .lss) (.v 0) (.c (.int .i64 0))) (.bi (.bin .lss) (.v 1) (.c (.int .i64 0)))))]])
 (.seq (.block 0 (.seq (.seq (.st [.sets [(5,(.bi (.bin .gtr) (.un (.ext 0) (.v 4)) (.c (.int .u64 0))))]])
 (.cond (.v 5)
  (.skip)
  (.seq (.st [.sets [(5,(.bi (.bin .gtr) (.v 2) (.c (.int .u64 9223372036854775808))))]])
  (.cond (.v 5)
  (.skip)
  (.st [.sets [(5,(.pick (.bi (.bin .eql) (.v 2) (.c (.int .u64 9223372036854775808))) (.un .not (.v 3)) (.c (.bool false))))]])))))
 (.cond (.v 5)
  (.ret [.e (.c (.int .i64 0)),.e (.c (.int .i64 11))])
  (.cond (.v 3)
  (.ret [.e (.un (.conv .i64) (.bi (.bin .sub) (.c (.int .u64 0)) (.v 2))),.e (.c (.int .i64 0))])
  (.skip)))))
 (.ret [.e (.un (.conv .i64) (.v 2)),.e (.c (.int .i64 0))]))))⟩
noncomputable def r164:ERow:=⟨Tryz.f164,⟨[],[],[],[],[],[]⟩,⟨40,[0,1,7,8,9,22],[],[9]⟩,2,e_num_Mul⟩
def e_num_Sub:EFunc:=⟨2,2,
 (.seq (.cond (.pick (.pick (.bi (.bin .lss) (.v 1) (.c (.int .i64 0))) (.bi (.bin .gtr) (.v 0) (.bi (.bin .add) (.c (.int .i64 9223372036854775807)) (.v 1))) (.c (.bool false))) (.c (.bool true)) (.pick (.bi (.bin .gtr) (.v 1) (.c (.int .i64 0))) (.bi (.bin .lss) (.v 0) (.bi (.bin .add) (.c (.int .i64 (-9223372036854775808))) (.v 1))) (.c (.bool false))))
 (.ret [.e (.c (.int .i64 0)),.e (.c (.int .i64 11))])
 (.skip))
 (.ret [.e (.bi (.bin .sub) (.v 0) (.v 1)),.e (.c (.int .i64 0))]))⟩
noncomputable def r165:ERow:=⟨Tryz.f165,⟨[],[],[],[],[],[]⟩,⟨27,[0,1],[],[]⟩,2,e_num_Sub⟩
def e_sym_class:EFunc:=⟨1,4,
 (.seq (.st [.sets [(1,(.c (.int .i64 0)))]])
 (.seq (.block 0 (.seq (.block 2 (.seq (.block 1 (.seq (.seq (.seq (.seq (.st [.sets [(2,(.pick (.bi (.bin .geq) (.v 0) (.c (.int .u8 97))) (.bi (.bin .leq) (.v 0) (.c (.int .u8 122))) (.c (.bool false))))]])
  (.cond (.v 2)
   (.skip)
   (.st [.sets [(2,(.pick (.bi (.bin .geq) (.v 0) (.c (.int .u8 65))) (.bi (.bin .leq) (.v 0) (.c (.int .u8 90))) (.c (.bool false))))]])))
  (.cond (.v 2)
   (.exit 1)
   (.skip)))
  (.seq (.seq (.st [.sets [(3,(.pick (.bi (.bin .geq) (.v 0) (.c (.int .u8 48))) (.bi (.bin .leq) (.v 0) (.c (.int .u8 57))) (.c (.bool false))))]])
  (.cond (.v 3)
   (.skip)
   (.seq (.st [.sets [(3,(.bi (.bin .eql) (.v 0) (.c (.int .u8 45))))]])
   (.cond (.v 3)
   (.skip)
   (.st [.sets [(3,(.bi (.bin .eql) (.v 0) (.c (.int .u8 95))))]])))))
  (.cond (.v 3)
   (.exit 2)
   (.skip))))
  (.exit 0)))
  (.st [.sets [(1,(.bi (.bin .add) (.v 1) (.c (.int .i64 1))))]])))
 (.seq (.st [.sets [(1,(.bi (.bin .add) (.v 1) (.c (.int .i64 1))))]])
 (.exit 0))))
 (.ret [.e (.v 1)])))⟩
noncomputable def r171:ERow:=⟨Tryz.f171,⟨[],[],[],[],[],[]⟩,⟨33,[0,3,4,17],[],[]⟩,1,e_sym_class⟩
def b_val_symbol_0:EC :=
 (.seq (.cond (.bi (.bin .lss) (.v 3) (.v 2))
 (.skip)
 (.exit 0))
 (.seq (.block 1 (.cond (.un .not (.tup (.call 0 f_val_sign) (.cons (.bi .sidx (.v 0) (.v 3)) .nil)))
  (.ret [.e (.c (.bool false))])
  (.skip)))
 (.st [.sets [(3,(.bi (.bin .add) (.v 3) (.c (.int .i64 1))))]])))
def e_val_symbol:EFunc:=⟨1,5,
 (.seq (.cond (.pick (.bi (.bin .lss) (.un .slen (.v 0)) (.c (.int .i64 1))) (.c (.bool true)) (.bi (.bin .gtr) (.un .slen (.v 0)) (.c (.int .i64 40))))
 (.ret [.e (.c (.bool false))])
 (.skip))
 (.seq (.seq (.st [.sets [(2,(.un .slen (.v 0))),(3,(.c (.int .i64 0)))]])
 (.block 0 (.loop [true,false,true,true,false] b_val_symbol_0)))
 (.seq (.st [.sets [(4,(.tup (.call 0 f_num_Parse) (.cons (.v 0) .nil)))],
  .sets [(1,(.un (.ext 0) (.v 4)))]])
 (.ret [.e (.bi (.bin .eql) (.un (.ext 1) (.v 4)) (.c (.int .i64 2)))]))))⟩
noncomputable def r172:ERow:=⟨Tryz.f172,⟨[],[(0,[true,false,false,false,false,false,false,false,false,false,false,false,false,false,false,true,true])],[],[],[],[]⟩,⟨32,[0,4,15,16,25],[],[25]⟩,1,e_val_symbol⟩
def e_internal_stringslite_HasPrefix:EFunc:=⟨2,2,
 (.ret [.e (.pick (.bi (.bin .geq) (.un .slen (.v 0)) (.un .slen (.v 1))) (.bi (.bin .eql) (.ssub false true (.v 0) (.c .undef) (.un .slen (.v 1))) (.v 1)) (.c (.bool false)))])⟩
noncomputable def r173:ERow:=⟨Tryz.f173,⟨[],[],[],[],[],[]⟩,⟨18,[0,1],[],[]⟩,2,e_internal_stringslite_HasPrefix⟩
def e_math_bits_Mul64:EFunc:=⟨2,2,
 (.ret [.e (.bi (.bin .add) (.bi (.bin .add) (.bi (.bin .mul) (.bi (.bin .shr) (.v 0) (.c (.int .u64 32))) (.bi (.bin .shr) (.v 1) (.c (.int .u64 32)))) (.bi (.bin .shr) (.bi (.bin .add) (.bi (.bin .mul) (.bi (.bin .shr) (.v 0) (.c (.int .u64 32))) (.bi (.bin .and) (.v 1) (.c (.int .u64 4294967295)))) (.bi (.bin .shr) (.bi (.bin .mul) (.bi (.bin .and) (.v 0) (.c (.int .u64 4294967295))) (.bi (.bin .and) (.v 1) (.c (.int .u64 4294967295)))) (.c (.int .u64 32)))) (.c (.int .u64 32)))) (.bi (.bin .shr) (.bi (.bin .add) (.bi (.bin .and) (.bi (.bin .add) (.bi (.bin .mul) (.bi (.bin .shr) (.v 0) (.c (.int .u64 32))) (.bi (.bin .and) (.v 1) (.c (.int .u64 4294967295)))) (.bi (.bin .shr) (.bi (.bin .mul) (.bi (.bin .and) (.v 0) (.c (.int .u64 4294967295))) (.bi (.bin .and) (.v 1) (.c (.int .u64 4294967295)))) (.c (.int .u64 32)))) (.c (.int .u64 4294967295))) (.bi (.bin .mul) (.bi (.bin .and) (.v 0) (.c (.int .u64 4294967295))) (.bi (.bin .shr) (.v 1) (.c (.int .u64 32))))) (.c (.int .u64 32)))),.e (.bi (.bin .mul) (.v 0) (.v 1))])⟩
noncomputable def r174:ERow:=⟨Tryz.f174,⟨[],[],[],[],[],[]⟩,⟨51,[0,1],[],[]⟩,2,e_math_bits_Mul64⟩
def e_num_abs:EFunc:=⟨1,1,
 (.seq (.cond (.bi (.bin .lss) (.v 0) (.c (.int .i64 0)))
 (.ret [.e (.bi (.bin .sub) (.c (.int .u64 0)) (.un (.conv .u64) (.v 0)))])
 (.skip))
 (.ret [.e (.un (.conv .u64) (.v 0))]))⟩
noncomputable def r175:ERow:=⟨Tryz.f175,⟨[],[],[],[],[],[]⟩,⟨10,[0],[],[]⟩,1,e_num_abs⟩
def e_val_sign:EFunc:=⟨1,2,
 (.seq (.block 0 (.seq (.seq (.st [.sets [(1,(.bi (.bin .eql) (.v 0) (.c (.int .u8 40))))]])
 (.cond (.v 1)
  (.skip)
  (.seq (.st [.sets [(1,(.bi (.bin .eql) (.v 0) (.c (.int .u8 41))))]])
  (.cond (.v 1)
  (.skip)
  (.seq (.st [.sets [(1,(.bi (.bin .eql) (.v 0) (.c (.int .u8 34))))]])
  (.cond (.v 1)
   (.skip)
   (.seq (.st [.sets [(1,(.bi (.bin .eql) (.v 0) (.c (.int .u8 59))))]])
   (.cond (.v 1)
   (.skip)
   (.seq (.st [.sets [(1,(.bi (.bin .eql) (.v 0) (.c (.int .u8 63))))]])
   (.cond (.v 1)
    (.skip)
    (.st [.sets [(1,(.bi (.bin .eql) (.v 0) (.c (.int .u8 126))))]])))))))))))
 (.cond (.v 1)
  (.ret [.e (.c (.bool false))])
  (.skip))))
 (.ret [.e (.pick (.bi (.bin .geq) (.v 0) (.c (.int .u8 33))) (.bi (.bin .leq) (.v 0) (.c (.int .u8 126))) (.c (.bool false)))]))⟩
noncomputable def r178:ERow:=⟨Tryz.f178,⟨[],[],[],[],[],[]⟩,⟨17,[0,4],[],[]⟩,1,e_val_sign⟩
def eT:BT EFunc:=(.node 86 e_val_Compare (.node 47 e_ref3_Sym (.node 30 e_pat_Same (.node 22 e_pat_Pattern_Vars (.node 12 e_law11_Two (.node 10 e_ref5_Read (.node 7 e_law11_known (.node 6 e_law11_PatBytes .leaf .leaf) .leaf) (.node 11 e_ref11_Parse .leaf .leaf)) (.node 19 e_pat_Pattern_Alone (.node 15 e_pat_Pattern_Match .leaf .leaf) (.node 21 e_law11_two .leaf .leaf))) (.node 26 e_law5_Tells (.node 24 e_pat_Parse (.node 23 e_law9_All .leaf .leaf) (.node 25 e_law5_To .leaf .leaf)) (.node 28 e_law11_Of (.node 27 e_ref11_Same .leaf .leaf) (.node 29 e_pat_Node .leaf .leaf)))) (.node 39 e_ref3_Sign (.node 35 e_ref11_Pattern_Vars (.node 33 e_ref11_Node (.node 32 e_law5_Of (.node 31 e_ref5_Same .leaf .leaf) .leaf) (.node 34 e_law7_Names .leaf .leaf)) (.node 37 e_sexp_Text (.node 36 e_sexp_Read .leaf .leaf) (.node 38 e_ref1_Shape .leaf .leaf))) (.node 43 e_ref5_Head (.node 41 e_ref5_At (.node 40 e_ref4_Scan .leaf .leaf) (.node 42 e_ref5_reader_node .leaf .leaf)) (.node 45 e_ref9_Template_Slot (.node 44 e_ref9_Find .leaf .leaf) (.node 46 e_ref11_term .leaf .leaf))))) (.node 66 e_sexp_Told (.node 58 e_law9_To (.node 54 e_ref3_Same (.node 51 e_val_Same (.node 49 e_pat_at (.node 48 e_slices_Clone_eval_Bind_eval_Bind .leaf .leaf) .leaf) (.node 52 e_slices_Clip_eval_Bind_eval_Bind .leaf .leaf)) (.node 56 e_slices_Contains_string_string (.node 55 e_ref3_Int .leaf .leaf) (.node 57 e_slices_Clip_string_string .leaf .leaf))) (.node 62 e_tmpl_Template_Slot (.node 60 e_pat_fault (.node 59 e_sexp_Head .leaf .leaf) (.node 61 e_pat_find .leaf .leaf)) (.node 64 e_pat_Parse_1 (.node 63 e_slices_ContainsFunc_pat_Test_pat_Test .leaf .leaf) (.node 65 e_pat_term .leaf .leaf)))) (.node 76 e_ref7_Put (.node 72 e_pat_Same_1 (.node 68 e_sexp_Number (.node 67 e_ref5_Told .leaf .leaf) (.node 71 e_slices_EqualFunc_pat_Test_pat_Test_pat_Test_pat_Test .leaf .leaf)) (.node 74 e_ref5_Of (.node 73 e_ref5_Sym .leaf .leaf) (.node 75 e_ref5_L .leaf .leaf))) (.node 81 e_lex_Text (.node 78 e_sexp_reader_step (.node 77 e_lex_Scan .leaf .leaf) (.node 79 e_sexp_fault .leaf .leaf)) (.node 83 e_ref4_one (.node 82 e_ref4_blank .leaf .leaf) (.node 84 e_ref5_Value .leaf .leaf)))))) (.node 130 e_lex_scanner_text (.node 109 e_sexp_reader_count (.node 95 e_strconv_Itoa (.node 91 e_tmpl_Template_Slot_1 (.node 89 e_pat_find_1 (.node 88 e_slices_IndexFunc_tmpl_Template_tmpl_Template (.node 87 e_slices_Index_string_string .leaf .leaf) .leaf) (.node 90 e_slices_IndexFunc_tmpl_Slot_tmpl_Slot .leaf .leaf)) (.node 93 e_sexp_Value (.node 92 e_slices_IndexFunc_pat_Test_pat_Test .leaf .leaf) (.node 94 e_sexp_last .leaf .leaf))) (.node 105 e_lex_fault (.node 97 e_ref5_Word (.node 96 e_ref1_Text .leaf .leaf) (.node 104 e_ref7_Has .leaf .leaf)) (.node 107 e_lex_scanner_token (.node 106 e_lex_scanner_skip .leaf .leaf) (.node 108 e_sexp_reader_not .leaf .leaf)))) (.node 120 e_cmp_Or_int (.node 115 e_val_Text (.node 111 e_sexp_leaf (.node 110 e_sexp_reader_put .leaf .leaf) (.node 114 e_strings_Builder_String .leaf .leaf)) (.node 117 e_ref4_name (.node 116 e_ref4_text .leaf .leaf) (.node 118 e_ref1_Parse .leaf .leaf))) (.node 124 e_api_Errno_Error (.node 122 e_cmp_Compare_int64 (.node 121 e_cmp_Compare_int .leaf .leaf) (.node 123 e_cmp_Compare_string .leaf .leaf)) (.node 126 e_ref1_size (.node 125 e_internal_strconv_Itoa .leaf .leaf) (.node 129 e_lex_scanner_more .leaf .leaf))))) (.node 151 e_strconv_FormatInt (.node 140 e_ref1_Mul (.node 136 e_val_Quote (.node 133 e_strings_Builder_copyCheck (.node 132 e_lex_scanner_word (.node 131 e_lex_scanner_variable .leaf .leaf) .leaf) (.node 135 e_num_Text .leaf .leaf)) (.node 138 e_ref3_Part (.node 137 e_strings_Clone .leaf .leaf) (.node 139 e_ref3_Good .leaf .leaf))) (.node 144 e_cmp_isNaN_string (.node 142 e_cmp_isNaN_int (.node 141 e_ref1_Add .leaf .leaf) (.node 143 e_cmp_isNaN_int64 .leaf .leaf)) (.node 147 e_lex_sign (.node 146 e_lex_scanner_name .leaf .leaf) (.node 148 e_num_Parse .leaf .leaf)))) (.node 164 e_num_Mul (.node 160 e_sym_Good (.node 154 e_ref3_letter (.node 152 e_strings_Builder_WriteByte .leaf .leaf) (.node 159 e_lex_part .leaf .leaf)) (.node 162 e_val_OfSym (.node 161 e_val_Right .leaf .leaf) (.node 163 e_strings_HasPrefix .leaf .leaf))) (.node 173 e_internal_stringslite_HasPrefix (.node 171 e_sym_class (.node 165 e_num_Sub .leaf .leaf) (.node 172 e_val_symbol .leaf .leaf)) (.node 175 e_num_abs (.node 174 e_math_bits_Mul64 .leaf .leaf) (.node 178 e_val_sign .leaf .leaf)))))))
noncomputable def rT:BT ERow:=(.node 86 r86 (.node 47 r47 (.node 30 r30 (.node 22 r22 (.node 12 r12 (.node 10 r10 (.node 7 r7 (.node 6 r6 .leaf .leaf) .leaf) (.node 11 r11 .leaf .leaf)) (.node 19 r19 (.node 15 r15 .leaf .leaf) (.node 21 r21 .leaf .leaf))) (.node 26 r26 (.node 24 r24 (.node 23 r23 .leaf .leaf) (.node 25 r25 .leaf .leaf)) (.node 28 r28 (.node 27 r27 .leaf .leaf) (.node 29 r29 .leaf .leaf)))) (.node 39 r39 (.node 35 r35 (.node 33 r33 (.node 32 r32 (.node 31 r31 .leaf .leaf) .leaf) (.node 34 r34 .leaf .leaf)) (.node 37 r37 (.node 36 r36 .leaf .leaf) (.node 38 r38 .leaf .leaf))) (.node 43 r43 (.node 41 r41 (.node 40 r40 .leaf .leaf) (.node 42 r42 .leaf .leaf)) (.node 45 r45 (.node 44 r44 .leaf .leaf) (.node 46 r46 .leaf .leaf))))) (.node 66 r66 (.node 58 r58 (.node 54 r54 (.node 51 r51 (.node 49 r49 (.node 48 r48 .leaf .leaf) .leaf) (.node 52 r52 .leaf .leaf)) (.node 56 r56 (.node 55 r55 .leaf .leaf) (.node 57 r57 .leaf .leaf))) (.node 62 r62 (.node 60 r60 (.node 59 r59 .leaf .leaf) (.node 61 r61 .leaf .leaf)) (.node 64 r64 (.node 63 r63 .leaf .leaf) (.node 65 r65 .leaf .leaf)))) (.node 76 r76 (.node 72 r72 (.node 68 r68 (.node 67 r67 .leaf .leaf) (.node 71 r71 .leaf .leaf)) (.node 74 r74 (.node 73 r73 .leaf .leaf) (.node 75 r75 .leaf .leaf))) (.node 81 r81 (.node 78 r78 (.node 77 r77 .leaf .leaf) (.node 79 r79 .leaf .leaf)) (.node 83 r83 (.node 82 r82 .leaf .leaf) (.node 84 r84 .leaf .leaf)))))) (.node 130 r130 (.node 109 r109 (.node 95 r95 (.node 91 r91 (.node 89 r89 (.node 88 r88 (.node 87 r87 .leaf .leaf) .leaf) (.node 90 r90 .leaf .leaf)) (.node 93 r93 (.node 92 r92 .leaf .leaf) (.node 94 r94 .leaf .leaf))) (.node 105 r105 (.node 97 r97 (.node 96 r96 .leaf .leaf) (.node 104 r104 .leaf .leaf)) (.node 107 r107 (.node 106 r106 .leaf .leaf) (.node 108 r108 .leaf .leaf)))) (.node 120 r120 (.node 115 r115 (.node 111 r111 (.node 110 r110 .leaf .leaf) (.node 114 r114 .leaf .leaf)) (.node 117 r117 (.node 116 r116 .leaf .leaf) (.node 118 r118 .leaf .leaf))) (.node 124 r124 (.node 122 r122 (.node 121 r121 .leaf .leaf) (.node 123 r123 .leaf .leaf)) (.node 126 r126 (.node 125 r125 .leaf .leaf) (.node 129 r129 .leaf .leaf))))) (.node 151 r151 (.node 140 r140 (.node 136 r136 (.node 133 r133 (.node 132 r132 (.node 131 r131 .leaf .leaf) .leaf) (.node 135 r135 .leaf .leaf)) (.node 138 r138 (.node 137 r137 .leaf .leaf) (.node 139 r139 .leaf .leaf))) (.node 144 r144 (.node 142 r142 (.node 141 r141 .leaf .leaf) (.node 143 r143 .leaf .leaf)) (.node 147 r147 (.node 146 r146 .leaf .leaf) (.node 148 r148 .leaf .leaf)))) (.node 164 r164 (.node 160 r160 (.node 154 r154 (.node 152 r152 .leaf .leaf) (.node 159 r159 .leaf .leaf)) (.node 162 r162 (.node 161 r161 .leaf .leaf) (.node 163 r163 .leaf .leaf))) (.node 173 r173 (.node 171 r171 (.node 165 r165 .leaf .leaf) (.node 172 r172 .leaf .leaf)) (.node 175 r175 (.node 174 r174 .leaf .leaf) (.node 178 r178 .leaf .leaf)))))))
def efns:FuncId->Option EFunc:=fun f=>eT.get f
noncomputable def rows:FuncId->Option ERow:=fun f=>rT.get f
theorem ok6:rowB Tryz.prog sh r6=some e_law11_PatBytes:=rowB_of (by kernel_rfl)
theorem g6:Tryz.prog.funcs[6]? = some Tryz.f6:=by kernel_rfl
theorem ok7:rowB Tryz.prog sh r7=some e_law11_known:=rowB_of (by kernel_rfl)
theorem g7:Tryz.prog.funcs[7]? = some Tryz.f7:=by kernel_rfl
theorem ok10:rowB Tryz.prog sh r10=some e_ref5_Read:=rowB_of (by kernel_rfl)
theorem g10:Tryz.prog.funcs[10]? = some Tryz.f10:=by kernel_rfl
theorem ok11:rowB Tryz.prog sh r11=some e_ref11_Parse:=rowB_of (by kernel_rfl)
theorem g11:Tryz.prog.funcs[11]? = some Tryz.f11:=by kernel_rfl
theorem ok12:rowB Tryz.prog sh r12=some e_law11_Two:=rowB_of (by kernel_rfl)
theorem g12:Tryz.prog.funcs[12]? = some Tryz.f12:=by kernel_rfl
theorem ok15:rowB Tryz.prog sh r15=some e_pat_Pattern_Match:=rowB_of (by kernel_rfl)
theorem g15:Tryz.prog.funcs[15]? = some Tryz.f15:=by kernel_rfl
theorem ok19:rowB Tryz.prog sh r19=some e_pat_Pattern_Alone:=rowB_of (by kernel_rfl)
theorem g19:Tryz.prog.funcs[19]? = some Tryz.f19:=by kernel_rfl
theorem ok21:rowB Tryz.prog sh r21=some e_law11_two:=rowB_of (by kernel_rfl)
theorem g21:Tryz.prog.funcs[21]? = some Tryz.f21:=by kernel_rfl
theorem ok22:rowB Tryz.prog sh r22=some e_pat_Pattern_Vars:=rowB_of (by kernel_rfl)
theorem g22:Tryz.prog.funcs[22]? = some Tryz.f22:=by kernel_rfl
theorem ok23:rowB Tryz.prog sh r23=some e_law9_All:=rowB_of (by kernel_rfl)
theorem g23:Tryz.prog.funcs[23]? = some Tryz.f23:=by kernel_rfl
theorem ok24:rowB Tryz.prog sh r24=some e_pat_Parse:=rowB_of (by kernel_rfl)
theorem g24:Tryz.prog.funcs[24]? = some Tryz.f24:=by kernel_rfl
theorem ok25:rowB Tryz.prog sh r25=some e_law5_To:=rowB_of (by kernel_rfl)
theorem g25:Tryz.prog.funcs[25]? = some Tryz.f25:=by kernel_rfl
theorem ok26:rowB Tryz.prog sh r26=some e_law5_Tells:=rowB_of (by kernel_rfl)
theorem g26:Tryz.prog.funcs[26]? = some Tryz.f26:=by kernel_rfl
theorem ok27:rowB Tryz.prog sh r27=some e_ref11_Same:=rowB_of (by kernel_rfl)
theorem g27:Tryz.prog.funcs[27]? = some Tryz.f27:=by kernel_rfl
theorem ok28:rowB Tryz.prog sh r28=some e_law11_Of:=rowB_of (by kernel_rfl)
theorem g28:Tryz.prog.funcs[28]? = some Tryz.f28:=by kernel_rfl
theorem ok29:rowB Tryz.prog sh r29=some e_pat_Node:=rowB_of (by kernel_rfl)
theorem g29:Tryz.prog.funcs[29]? = some Tryz.f29:=by kernel_rfl
theorem ok30:rowB Tryz.prog sh r30=some e_pat_Same:=rowB_of (by kernel_rfl)
theorem g30:Tryz.prog.funcs[30]? = some Tryz.f30:=by kernel_rfl
theorem ok31:rowB Tryz.prog sh r31=some e_ref5_Same:=rowB_of (by kernel_rfl)
theorem g31:Tryz.prog.funcs[31]? = some Tryz.f31:=by kernel_rfl
theorem ok32:rowB Tryz.prog sh r32=some e_law5_Of:=rowB_of (by kernel_rfl)
theorem g32:Tryz.prog.funcs[32]? = some Tryz.f32:=by kernel_rfl
theorem ok33:rowB Tryz.prog sh r33=some e_ref11_Node:=rowB_of (by kernel_rfl)
theorem g33:Tryz.prog.funcs[33]? = some Tryz.f33:=by kernel_rfl
theorem ok34:rowB Tryz.prog sh r34=some e_law7_Names:=rowB_of (by kernel_rfl)
theorem g34:Tryz.prog.funcs[34]? = some Tryz.f34:=by kernel_rfl
theorem ok35:rowB Tryz.prog sh r35=some e_ref11_Pattern_Vars:=rowB_of (by kernel_rfl)
theorem g35:Tryz.prog.funcs[35]? = some Tryz.f35:=by kernel_rfl
theorem ok36:rowB Tryz.prog sh r36=some e_sexp_Read:=rowB_of (by kernel_rfl)
theorem g36:Tryz.prog.funcs[36]? = some Tryz.f36:=by kernel_rfl
theorem ok37:rowB Tryz.prog sh r37=some e_sexp_Text:=rowB_of (by kernel_rfl)
theorem g37:Tryz.prog.funcs[37]? = some Tryz.f37:=by kernel_rfl
theorem ok38:rowB Tryz.prog sh r38=some e_ref1_Shape:=rowB_of (by kernel_rfl)
theorem g38:Tryz.prog.funcs[38]? = some Tryz.f38:=by kernel_rfl
theorem ok39:rowB Tryz.prog sh r39=some e_ref3_Sign:=rowB_of (by kernel_rfl)
theorem g39:Tryz.prog.funcs[39]? = some Tryz.f39:=by kernel_rfl
theorem ok40:rowB Tryz.prog sh r40=some e_ref4_Scan:=rowB_of (by kernel_rfl)
theorem g40:Tryz.prog.funcs[40]? = some Tryz.f40:=by kernel_rfl
theorem ok41:rowB Tryz.prog sh r41=some e_ref5_At:=rowB_of (by kernel_rfl)
theorem g41:Tryz.prog.funcs[41]? = some Tryz.f41:=by kernel_rfl
theorem ok42:rowB Tryz.prog sh r42=some e_ref5_reader_node:=rowB_of (by kernel_rfl)
theorem g42:Tryz.prog.funcs[42]? = some Tryz.f42:=by kernel_rfl
theorem ok43:rowB Tryz.prog sh r43=some e_ref5_Head:=rowB_of (by kernel_rfl)
theorem g43:Tryz.prog.funcs[43]? = some Tryz.f43:=by kernel_rfl
theorem ok44:rowB Tryz.prog sh r44=some e_ref9_Find:=rowB_of (by kernel_rfl)
theorem g44:Tryz.prog.funcs[44]? = some Tryz.f44:=by kernel_rfl
theorem ok45:rowB Tryz.prog sh r45=some e_ref9_Template_Slot:=rowB_of (by kernel_rfl)
theorem g45:Tryz.prog.funcs[45]? = some Tryz.f45:=by kernel_rfl
theorem ok46:rowB Tryz.prog sh r46=some e_ref11_term:=rowB_of (by kernel_rfl)
theorem g46:Tryz.prog.funcs[46]? = some Tryz.f46:=by kernel_rfl
theorem ok47:rowB Tryz.prog sh r47=some e_ref3_Sym:=rowB_of (by kernel_rfl)
theorem g47:Tryz.prog.funcs[47]? = some Tryz.f47:=by kernel_rfl
theorem ok48:rowB Tryz.prog sh r48=some e_slices_Clone_eval_Bind_eval_Bind:=rowB_of (by kernel_rfl)
theorem g48:Tryz.prog.funcs[48]? = some Tryz.f48:=by kernel_rfl
theorem ok49:rowB Tryz.prog sh r49=some e_pat_at:=rowB_of (by kernel_rfl)
theorem g49:Tryz.prog.funcs[49]? = some Tryz.f49:=by kernel_rfl
theorem ok51:rowB Tryz.prog sh r51=some e_val_Same:=rowB_of (by kernel_rfl)
theorem g51:Tryz.prog.funcs[51]? = some Tryz.f51:=by kernel_rfl
theorem ok52:rowB Tryz.prog sh r52=some e_slices_Clip_eval_Bind_eval_Bind:=rowB_of (by kernel_rfl)
theorem g52:Tryz.prog.funcs[52]? = some Tryz.f52:=by kernel_rfl
theorem ok54:rowB Tryz.prog sh r54=some e_ref3_Same:=rowB_of (by kernel_rfl)
theorem g54:Tryz.prog.funcs[54]? = some Tryz.f54:=by kernel_rfl
theorem ok55:rowB Tryz.prog sh r55=some e_ref3_Int:=rowB_of (by kernel_rfl)
theorem g55:Tryz.prog.funcs[55]? = some Tryz.f55:=by kernel_rfl
theorem ok56:rowB Tryz.prog sh r56=some e_slices_Contains_string_string:=rowB_of (by kernel_rfl)
theorem g56:Tryz.prog.funcs[56]? = some Tryz.f56:=by kernel_rfl
theorem ok57:rowB Tryz.prog sh r57=some e_slices_Clip_string_string:=rowB_of (by kernel_rfl)
theorem g57:Tryz.prog.funcs[57]? = some Tryz.f57:=by kernel_rfl
theorem ok58:rowB Tryz.prog sh r58=some e_law9_To:=rowB_of (by kernel_rfl)
theorem g58:Tryz.prog.funcs[58]? = some Tryz.f58:=by kernel_rfl
theorem ok59:rowB Tryz.prog sh r59=some e_sexp_Head:=rowB_of (by kernel_rfl)
theorem g59:Tryz.prog.funcs[59]? = some Tryz.f59:=by kernel_rfl
theorem ok60:rowB Tryz.prog sh r60=some e_pat_fault:=rowB_of (by kernel_rfl)
theorem g60:Tryz.prog.funcs[60]? = some Tryz.f60:=by kernel_rfl
theorem ok61:rowB Tryz.prog sh r61=some e_pat_find:=rowB_of (by kernel_rfl)
theorem g61:Tryz.prog.funcs[61]? = some Tryz.f61:=by kernel_rfl
theorem ok62:rowB Tryz.prog sh r62=some e_tmpl_Template_Slot:=rowB_of (by kernel_rfl)
theorem g62:Tryz.prog.funcs[62]? = some Tryz.f62:=by kernel_rfl
theorem ok63:rowB Tryz.prog sh r63=some e_slices_ContainsFunc_pat_Test_pat_Test:=rowB_of (by kernel_rfl)
theorem g63:Tryz.prog.funcs[63]? = some Tryz.f63:=by kernel_rfl
theorem ok64:rowB Tryz.prog sh r64=some e_pat_Parse_1:=rowB_of (by kernel_rfl)
theorem g64:Tryz.prog.funcs[64]? = some Tryz.f64:=by kernel_rfl
theorem ok65:rowB Tryz.prog sh r65=some e_pat_term:=rowB_of (by kernel_rfl)
theorem g65:Tryz.prog.funcs[65]? = some Tryz.f65:=by kernel_rfl
theorem ok66:rowB Tryz.prog sh r66=some e_sexp_Told:=rowB_of (by kernel_rfl)
theorem g66:Tryz.prog.funcs[66]? = some Tryz.f66:=by kernel_rfl
theorem ok67:rowB Tryz.prog sh r67=some e_ref5_Told:=rowB_of (by kernel_rfl)
theorem g67:Tryz.prog.funcs[67]? = some Tryz.f67:=by kernel_rfl
theorem ok68:rowB Tryz.prog sh r68=some e_sexp_Number:=rowB_of (by kernel_rfl)
theorem g68:Tryz.prog.funcs[68]? = some Tryz.f68:=by kernel_rfl
theorem ok71:rowB Tryz.prog sh r71=some e_slices_EqualFunc_pat_Test_pat_Test_pat_Test_pat_Test:=rowB_of (by kernel_rfl)
theorem g71:Tryz.prog.funcs[71]? = some Tryz.f71:=by kernel_rfl
theorem ok72:rowB Tryz.prog sh r72=some e_pat_Same_1:=rowB_of (by kernel_rfl)
theorem g72:Tryz.prog.funcs[72]? = some Tryz.f72:=by kernel_rfl
theorem ok73:rowB Tryz.prog sh r73=some e_ref5_Sym:=rowB_of (by kernel_rfl)
theorem g73:Tryz.prog.funcs[73]? = some Tryz.f73:=by kernel_rfl
theorem ok74:rowB Tryz.prog sh r74=some e_ref5_Of:=rowB_of (by kernel_rfl)
theorem g74:Tryz.prog.funcs[74]? = some Tryz.f74:=by kernel_rfl
theorem ok75:rowB Tryz.prog sh r75=some e_ref5_L:=rowB_of (by kernel_rfl)
theorem g75:Tryz.prog.funcs[75]? = some Tryz.f75:=by kernel_rfl
theorem ok76:rowB Tryz.prog sh r76=some e_ref7_Put:=rowB_of (by kernel_rfl)
theorem g76:Tryz.prog.funcs[76]? = some Tryz.f76:=by kernel_rfl
theorem ok77:rowB Tryz.prog sh r77=some e_lex_Scan:=rowB_of (by kernel_rfl)
theorem g77:Tryz.prog.funcs[77]? = some Tryz.f77:=by kernel_rfl
theorem ok78:rowB Tryz.prog sh r78=some e_sexp_reader_step:=rowB_of (by kernel_rfl)
theorem g78:Tryz.prog.funcs[78]? = some Tryz.f78:=by kernel_rfl
theorem ok79:rowB Tryz.prog sh r79=some e_sexp_fault:=rowB_of (by kernel_rfl)
theorem g79:Tryz.prog.funcs[79]? = some Tryz.f79:=by kernel_rfl
theorem ok81:rowB Tryz.prog sh r81=some e_lex_Text:=rowB_of (by kernel_rfl)
theorem g81:Tryz.prog.funcs[81]? = some Tryz.f81:=by kernel_rfl
theorem ok82:rowB Tryz.prog sh r82=some e_ref4_blank:=rowB_of (by kernel_rfl)
theorem g82:Tryz.prog.funcs[82]? = some Tryz.f82:=by kernel_rfl
theorem ok83:rowB Tryz.prog sh r83=some e_ref4_one:=rowB_of (by kernel_rfl)
theorem g83:Tryz.prog.funcs[83]? = some Tryz.f83:=by kernel_rfl
theorem ok84:rowB Tryz.prog sh r84=some e_ref5_Value:=rowB_of (by kernel_rfl)
theorem g84:Tryz.prog.funcs[84]? = some Tryz.f84:=by kernel_rfl
theorem ok86:rowB Tryz.prog sh r86=some e_val_Compare:=rowB_of (by kernel_rfl)
theorem g86:Tryz.prog.funcs[86]? = some Tryz.f86:=by kernel_rfl
theorem ok87:rowB Tryz.prog sh r87=some e_slices_Index_string_string:=rowB_of (by kernel_rfl)
theorem g87:Tryz.prog.funcs[87]? = some Tryz.f87:=by kernel_rfl
theorem ok88:rowB Tryz.prog sh r88=some e_slices_IndexFunc_tmpl_Template_tmpl_Template:=rowB_of (by kernel_rfl)
theorem g88:Tryz.prog.funcs[88]? = some Tryz.f88:=by kernel_rfl
theorem ok89:rowB Tryz.prog sh r89=some e_pat_find_1:=rowB_of (by kernel_rfl)
theorem g89:Tryz.prog.funcs[89]? = some Tryz.f89:=by kernel_rfl
theorem ok90:rowB Tryz.prog sh r90=some e_slices_IndexFunc_tmpl_Slot_tmpl_Slot:=rowB_of (by kernel_rfl)
theorem g90:Tryz.prog.funcs[90]? = some Tryz.f90:=by kernel_rfl
theorem ok91:rowB Tryz.prog sh r91=some e_tmpl_Template_Slot_1:=rowB_of (by kernel_rfl)
theorem g91:Tryz.prog.funcs[91]? = some Tryz.f91:=by kernel_rfl
theorem ok92:rowB Tryz.prog sh r92=some e_slices_IndexFunc_pat_Test_pat_Test:=rowB_of (by kernel_rfl)
theorem g92:Tryz.prog.funcs[92]? = some Tryz.f92:=by kernel_rfl
theorem ok93:rowB Tryz.prog sh r93=some e_sexp_Value:=rowB_of (by kernel_rfl)
theorem g93:Tryz.prog.funcs[93]? = some Tryz.f93:=by kernel_rfl
theorem ok94:rowB Tryz.prog sh r94=some e_sexp_last:=rowB_of (by kernel_rfl)
theorem g94:Tryz.prog.funcs[94]? = some Tryz.f94:=by kernel_rfl
theorem ok95:rowB Tryz.prog sh r95=some e_strconv_Itoa:=rowB_of (by kernel_rfl)
theorem g95:Tryz.prog.funcs[95]? = some Tryz.f95:=by kernel_rfl
theorem ok96:rowB Tryz.prog sh r96=some e_ref1_Text:=rowB_of (by kernel_rfl)
theorem g96:Tryz.prog.funcs[96]? = some Tryz.f96:=by kernel_rfl
theorem ok97:rowB Tryz.prog sh r97=some e_ref5_Word:=rowB_of (by kernel_rfl)
theorem g97:Tryz.prog.funcs[97]? = some Tryz.f97:=by kernel_rfl
theorem ok104:rowB Tryz.prog sh r104=some e_ref7_Has:=rowB_of (by kernel_rfl)
theorem g104:Tryz.prog.funcs[104]? = some Tryz.f104:=by kernel_rfl
theorem ok105:rowB Tryz.prog sh r105=some e_lex_fault:=rowB_of (by kernel_rfl)
theorem g105:Tryz.prog.funcs[105]? = some Tryz.f105:=by kernel_rfl
theorem ok106:rowB Tryz.prog sh r106=some e_lex_scanner_skip:=rowB_of (by kernel_rfl)
theorem g106:Tryz.prog.funcs[106]? = some Tryz.f106:=by kernel_rfl
theorem ok107:rowB Tryz.prog sh r107=some e_lex_scanner_token:=rowB_of (by kernel_rfl)
theorem g107:Tryz.prog.funcs[107]? = some Tryz.f107:=by kernel_rfl
theorem ok108:rowB Tryz.prog sh r108=some e_sexp_reader_not:=rowB_of (by kernel_rfl)
theorem g108:Tryz.prog.funcs[108]? = some Tryz.f108:=by kernel_rfl
theorem ok109:rowB Tryz.prog sh r109=some e_sexp_reader_count:=rowB_of (by kernel_rfl)
theorem g109:Tryz.prog.funcs[109]? = some Tryz.f109:=by kernel_rfl
theorem ok110:rowB Tryz.prog sh r110=some e_sexp_reader_put:=rowB_of (by kernel_rfl)
theorem g110:Tryz.prog.funcs[110]? = some Tryz.f110:=by kernel_rfl
theorem ok111:rowB Tryz.prog sh r111=some e_sexp_leaf:=rowB_of (by kernel_rfl)
theorem g111:Tryz.prog.funcs[111]? = some Tryz.f111:=by kernel_rfl
theorem ok114:rowB Tryz.prog sh r114=some e_strings_Builder_String:=rowB_of (by kernel_rfl)
theorem g114:Tryz.prog.funcs[114]? = some Tryz.f114:=by kernel_rfl
theorem ok115:rowB Tryz.prog sh r115=some e_val_Text:=rowB_of (by kernel_rfl)
theorem g115:Tryz.prog.funcs[115]? = some Tryz.f115:=by kernel_rfl
theorem ok116:rowB Tryz.prog sh r116=some e_ref4_text:=rowB_of (by kernel_rfl)
theorem g116:Tryz.prog.funcs[116]? = some Tryz.f116:=by kernel_rfl
theorem ok117:rowB Tryz.prog sh r117=some e_ref4_name:=rowB_of (by kernel_rfl)
theorem g117:Tryz.prog.funcs[117]? = some Tryz.f117:=by kernel_rfl
theorem ok118:rowB Tryz.prog sh r118=some e_ref1_Parse:=rowB_of (by kernel_rfl)
theorem g118:Tryz.prog.funcs[118]? = some Tryz.f118:=by kernel_rfl
theorem ok120:rowB Tryz.prog sh r120=some e_cmp_Or_int:=rowB_of (by kernel_rfl)
theorem g120:Tryz.prog.funcs[120]? = some Tryz.f120:=by kernel_rfl
theorem ok121:rowB Tryz.prog sh r121=some e_cmp_Compare_int:=rowB_of (by kernel_rfl)
theorem g121:Tryz.prog.funcs[121]? = some Tryz.f121:=by kernel_rfl
theorem ok122:rowB Tryz.prog sh r122=some e_cmp_Compare_int64:=rowB_of (by kernel_rfl)
theorem g122:Tryz.prog.funcs[122]? = some Tryz.f122:=by kernel_rfl
theorem ok123:rowB Tryz.prog sh r123=some e_cmp_Compare_string:=rowB_of (by kernel_rfl)
theorem g123:Tryz.prog.funcs[123]? = some Tryz.f123:=by kernel_rfl
theorem ok124:rowB Tryz.prog sh r124=some e_api_Errno_Error:=rowB_of (by kernel_rfl)
theorem g124:Tryz.prog.funcs[124]? = some Tryz.f124:=by kernel_rfl
theorem ok125:rowB Tryz.prog sh r125=some e_internal_strconv_Itoa:=rowB_of (by kernel_rfl)
theorem g125:Tryz.prog.funcs[125]? = some Tryz.f125:=by kernel_rfl
theorem ok126:rowB Tryz.prog sh r126=some e_ref1_size:=rowB_of (by kernel_rfl)
theorem g126:Tryz.prog.funcs[126]? = some Tryz.f126:=by kernel_rfl
theorem ok129:rowB Tryz.prog sh r129=some e_lex_scanner_more:=rowB_of (by kernel_rfl)
theorem g129:Tryz.prog.funcs[129]? = some Tryz.f129:=by kernel_rfl
theorem ok130:rowB Tryz.prog sh r130=some e_lex_scanner_text:=rowB_of (by kernel_rfl)
theorem g130:Tryz.prog.funcs[130]? = some Tryz.f130:=by kernel_rfl
theorem ok131:rowB Tryz.prog sh r131=some e_lex_scanner_variable:=rowB_of (by kernel_rfl)
theorem g131:Tryz.prog.funcs[131]? = some Tryz.f131:=by kernel_rfl
theorem ok132:rowB Tryz.prog sh r132=some e_lex_scanner_word:=rowB_of (by kernel_rfl)
theorem g132:Tryz.prog.funcs[132]? = some Tryz.f132:=by kernel_rfl
theorem ok133:rowB Tryz.prog sh r133=some e_strings_Builder_copyCheck:=rowB_of (by kernel_rfl)
theorem g133:Tryz.prog.funcs[133]? = some Tryz.f133:=by kernel_rfl
theorem ok135:rowB Tryz.prog sh r135=some e_num_Text:=rowB_of (by kernel_rfl)
theorem g135:Tryz.prog.funcs[135]? = some Tryz.f135:=by kernel_rfl
theorem ok136:rowB Tryz.prog sh r136=some e_val_Quote:=rowB_of (by kernel_rfl)
theorem g136:Tryz.prog.funcs[136]? = some Tryz.f136:=by kernel_rfl
theorem ok137:rowB Tryz.prog sh r137=some e_strings_Clone:=rowB_of (by kernel_rfl)
theorem g137:Tryz.prog.funcs[137]? = some Tryz.f137:=by kernel_rfl
theorem ok138:rowB Tryz.prog sh r138=some e_ref3_Part:=rowB_of (by kernel_rfl)
theorem g138:Tryz.prog.funcs[138]? = some Tryz.f138:=by kernel_rfl
theorem ok139:rowB Tryz.prog sh r139=some e_ref3_Good:=rowB_of (by kernel_rfl)
theorem g139:Tryz.prog.funcs[139]? = some Tryz.f139:=by kernel_rfl
theorem ok140:rowB Tryz.prog sh r140=some e_ref1_Mul:=rowB_of (by kernel_rfl)
theorem g140:Tryz.prog.funcs[140]? = some Tryz.f140:=by kernel_rfl
theorem ok141:rowB Tryz.prog sh r141=some e_ref1_Add:=rowB_of (by kernel_rfl)
theorem g141:Tryz.prog.funcs[141]? = some Tryz.f141:=by kernel_rfl
theorem ok142:rowB Tryz.prog sh r142=some e_cmp_isNaN_int:=rowB_of (by kernel_rfl)
theorem g142:Tryz.prog.funcs[142]? = some Tryz.f142:=by kernel_rfl
theorem ok143:rowB Tryz.prog sh r143=some e_cmp_isNaN_int64:=rowB_of (by kernel_rfl)
theorem g143:Tryz.prog.funcs[143]? = some Tryz.f143:=by kernel_rfl
theorem ok144:rowB Tryz.prog sh r144=some e_cmp_isNaN_string:=rowB_of (by kernel_rfl)
theorem g144:Tryz.prog.funcs[144]? = some Tryz.f144:=by kernel_rfl
theorem ok146:rowB Tryz.prog sh r146=some e_lex_scanner_name:=rowB_of (by kernel_rfl)
theorem g146:Tryz.prog.funcs[146]? = some Tryz.f146:=by kernel_rfl
theorem ok147:rowB Tryz.prog sh r147=some e_lex_sign:=rowB_of (by kernel_rfl)
theorem g147:Tryz.prog.funcs[147]? = some Tryz.f147:=by kernel_rfl
theorem ok148:rowB Tryz.prog sh r148=some e_num_Parse:=rowB_of (by kernel_rfl)
theorem g148:Tryz.prog.funcs[148]? = some Tryz.f148:=by kernel_rfl
theorem ok151:rowB Tryz.prog sh r151=some e_strconv_FormatInt:=rowB_of (by kernel_rfl)
theorem g151:Tryz.prog.funcs[151]? = some Tryz.f151:=by kernel_rfl
theorem ok152:rowB Tryz.prog sh r152=some e_strings_Builder_WriteByte:=rowB_of (by kernel_rfl)
theorem g152:Tryz.prog.funcs[152]? = some Tryz.f152:=by kernel_rfl
theorem ok154:rowB Tryz.prog sh r154=some e_ref3_letter:=rowB_of (by kernel_rfl)
theorem g154:Tryz.prog.funcs[154]? = some Tryz.f154:=by kernel_rfl
theorem ok159:rowB Tryz.prog sh r159=some e_lex_part:=rowB_of (by kernel_rfl)
theorem g159:Tryz.prog.funcs[159]? = some Tryz.f159:=by kernel_rfl
theorem ok160:rowB Tryz.prog sh r160=some e_sym_Good:=rowB_of (by kernel_rfl)
theorem g160:Tryz.prog.funcs[160]? = some Tryz.f160:=by kernel_rfl
theorem ok161:rowB Tryz.prog sh r161=some e_val_Right:=rowB_of (by kernel_rfl)
theorem g161:Tryz.prog.funcs[161]? = some Tryz.f161:=by kernel_rfl
theorem ok162:rowB Tryz.prog sh r162=some e_val_OfSym:=rowB_of (by kernel_rfl)
theorem g162:Tryz.prog.funcs[162]? = some Tryz.f162:=by kernel_rfl
theorem ok163:rowB Tryz.prog sh r163=some e_strings_HasPrefix:=rowB_of (by kernel_rfl)
theorem g163:Tryz.prog.funcs[163]? = some Tryz.f163:=by kernel_rfl
theorem ok164:rowB Tryz.prog sh r164=some e_num_Mul:=rowB_of (by kernel_rfl)
theorem g164:Tryz.prog.funcs[164]? = some Tryz.f164:=by kernel_rfl
theorem ok165:rowB Tryz.prog sh r165=some e_num_Sub:=rowB_of (by kernel_rfl)
theorem g165:Tryz.prog.funcs[165]? = some Tryz.f165:=by kernel_rfl
theorem ok171:rowB Tryz.prog sh r171=some e_sym_class:=rowB_of (by kernel_rfl)
theorem g171:Tryz.prog.funcs[171]? = some Tryz.f171:=by kernel_rfl
theorem ok172:rowB Tryz.prog sh r172=some e_val_symbol:=rowB_of (by kernel_rfl)
theorem g172:Tryz.prog.funcs[172]? = some Tryz.f172:=by kernel_rfl
theorem ok173:rowB Tryz.prog sh r173=some e_internal_stringslite_HasPrefix:=rowB_of (by kernel_rfl)
theorem g173:Tryz.prog.funcs[173]? = some Tryz.f173:=by kernel_rfl
theorem ok174:rowB Tryz.prog sh r174=some e_math_bits_Mul64:=rowB_of (by kernel_rfl)
theorem g174:Tryz.prog.funcs[174]? = some Tryz.f174:=by kernel_rfl
theorem ok175:rowB Tryz.prog sh r175=some e_num_abs:=rowB_of (by kernel_rfl)
theorem g175:Tryz.prog.funcs[175]? = some Tryz.f175:=by kernel_rfl
theorem ok178:rowB Tryz.prog sh r178=some e_val_sign:=rowB_of (by kernel_rfl)
theorem g178:Tryz.prog.funcs[178]? = some Tryz.f178:=by kernel_rfl
theorem efns_eq:efnsOf rows=efns:=efnsOf_tree rT eT rfl
theorem rows_ok:RowsOk Tryz.prog sh rows:=rowsOk_of (t:=rT) ⟨⟨g86,by rfl,ok86⟩,⟨⟨g47,by rfl,ok47⟩,⟨⟨g30,by rfl,ok30⟩,⟨⟨g22,by rfl,ok22⟩,⟨⟨g12,by rfl,ok12⟩,⟨⟨g10,by rfl,ok10⟩,⟨⟨g7,by rfl,ok7⟩,⟨⟨g6,by rfl,ok6⟩,trivial,trivial⟩,trivial⟩,⟨⟨g11,by rfl,ok11⟩,trivial,trivial⟩⟩,⟨⟨g19,by rfl,ok19⟩,⟨⟨g15,by rfl,ok15⟩,trivial,trivial⟩,⟨⟨g21,by rfl,ok21⟩,trivial,trivial⟩⟩⟩,⟨⟨g26,by rfl,ok26⟩,⟨⟨g24,by rfl,ok24⟩,⟨⟨g23,by rfl,ok23⟩,trivial,trivial⟩,⟨⟨g25,by rfl,ok25⟩,trivial,trivial⟩⟩,⟨⟨g28,by rfl,ok28⟩,⟨⟨g27,by rfl,ok27⟩,trivial,trivial⟩,⟨⟨g29,by rfl,ok29⟩,trivial,trivial⟩⟩⟩⟩,⟨⟨g39,by rfl,ok39⟩,⟨⟨g35,by rfl,ok35⟩,⟨⟨g33,by rfl,ok33⟩,⟨⟨g32,by rfl,ok32⟩,⟨⟨g31,by rfl,ok31⟩,trivial,trivial⟩,trivial⟩,⟨⟨g34,by rfl,ok34⟩,trivial,trivial⟩⟩,⟨⟨g37,by rfl,ok37⟩,⟨⟨g36,by rfl,ok36⟩,trivial,trivial⟩,⟨⟨g38,by rfl,ok38⟩,trivial,trivial⟩⟩⟩,⟨⟨g43,by rfl,ok43⟩,⟨⟨g41,by rfl,ok41⟩,⟨⟨g40,by rfl,ok40⟩,trivial,trivial⟩,⟨⟨g42,by rfl,ok42⟩,trivial,trivial⟩⟩,⟨⟨g45,by rfl,ok45⟩,⟨⟨g44,by rfl,ok44⟩,trivial,trivial⟩,⟨⟨g46,by rfl,ok46⟩,trivial,trivial⟩⟩⟩⟩⟩,⟨⟨g66,by rfl,ok66⟩,⟨⟨g58,by rfl,ok58⟩,⟨⟨g54,by rfl,ok54⟩,⟨⟨g51,by rfl,ok51⟩,⟨⟨g49,by rfl,ok49⟩,⟨⟨g48,by rfl,ok48⟩,trivial,trivial⟩,trivial⟩,⟨⟨g52,by rfl,ok52⟩,trivial,trivial⟩⟩,⟨⟨g56,by rfl,ok56⟩,⟨⟨g55,by rfl,ok55⟩,trivial,trivial⟩,⟨⟨g57,by rfl,ok57⟩,trivial,trivial⟩⟩⟩,⟨⟨g62,by rfl,ok62⟩,⟨⟨g60,by rfl,ok60⟩,⟨⟨g59,by rfl,ok59⟩,trivial,trivial⟩,⟨⟨g61,by rfl,ok61⟩,trivial,trivial⟩⟩,⟨⟨g64,by rfl,ok64⟩,⟨⟨g63,by rfl,ok63⟩,trivial,trivial⟩,⟨⟨g65,by rfl,ok65⟩,trivial,trivial⟩⟩⟩⟩,⟨⟨g76,by rfl,ok76⟩,⟨⟨g72,by rfl,ok72⟩,⟨⟨g68,by rfl,ok68⟩,⟨⟨g67,by rfl,ok67⟩,trivial,trivial⟩,⟨⟨g71,by rfl,ok71⟩,trivial,trivial⟩⟩,⟨⟨g74,by rfl,ok74⟩,⟨⟨g73,by rfl,ok73⟩,trivial,trivial⟩,⟨⟨g75,by rfl,ok75⟩,trivial,trivial⟩⟩⟩,⟨⟨g81,by rfl,ok81⟩,⟨⟨g78,by rfl,ok78⟩,⟨⟨g77,by rfl,ok77⟩,trivial,trivial⟩,⟨⟨g79,by rfl,ok79⟩,trivial,trivial⟩⟩,⟨⟨g83,by rfl,ok83⟩,⟨⟨g82,by rfl,ok82⟩,trivial,trivial⟩,⟨⟨g84,by rfl,ok84⟩,trivial,trivial⟩⟩⟩⟩⟩⟩,⟨⟨g130,by rfl,ok130⟩,⟨⟨g109,by rfl,ok109⟩,⟨⟨g95,by rfl,ok95⟩,⟨⟨g91,by rfl,ok91⟩,⟨⟨g89,by rfl,ok89⟩,⟨⟨g88,by rfl,ok88⟩,⟨⟨g87,by rfl,ok87⟩,trivial,trivial⟩,trivial⟩,⟨⟨g90,by rfl,ok90⟩,trivial,trivial⟩⟩,⟨⟨g93,by rfl,ok93⟩,⟨⟨g92,by rfl,ok92⟩,trivial,trivial⟩,⟨⟨g94,by rfl,ok94⟩,trivial,trivial⟩⟩⟩,⟨⟨g105,by rfl,ok105⟩,⟨⟨g97,by rfl,ok97⟩,⟨⟨g96,by rfl,ok96⟩,trivial,trivial⟩,⟨⟨g104,by rfl,ok104⟩,trivial,trivial⟩⟩,⟨⟨g107,by rfl,ok107⟩,⟨⟨g106,by rfl,ok106⟩,trivial,trivial⟩,⟨⟨g108,by rfl,ok108⟩,trivial,trivial⟩⟩⟩⟩,⟨⟨g120,by rfl,ok120⟩,⟨⟨g115,by rfl,ok115⟩,⟨⟨g111,by rfl,ok111⟩,⟨⟨g110,by rfl,ok110⟩,trivial,trivial⟩,⟨⟨g114,by rfl,ok114⟩,trivial,trivial⟩⟩,⟨⟨g117,by rfl,ok117⟩,⟨⟨g116,by rfl,ok116⟩,trivial,trivial⟩,⟨⟨g118,by rfl,ok118⟩,trivial,trivial⟩⟩⟩,⟨⟨g124,by rfl,ok124⟩,⟨⟨g122,by rfl,ok122⟩,⟨⟨g121,by rfl,ok121⟩,trivial,trivial⟩,⟨⟨g123,by rfl,ok123⟩,trivial,trivial⟩⟩,⟨⟨g126,by rfl,ok126⟩,⟨⟨g125,by rfl,ok125⟩,trivial,trivial⟩,⟨⟨g129,by rfl,ok129⟩,trivial,trivial⟩⟩⟩⟩⟩,⟨⟨g151,by rfl,ok151⟩,⟨⟨g140,by rfl,ok140⟩,⟨⟨g136,by rfl,ok136⟩,⟨⟨g133,by rfl,ok133⟩,⟨⟨g132,by rfl,ok132⟩,⟨⟨g131,by rfl,ok131⟩,trivial,trivial⟩,trivial⟩,⟨⟨g135,by rfl,ok135⟩,trivial,trivial⟩⟩,⟨⟨g138,by rfl,ok138⟩,⟨⟨g137,by rfl,ok137⟩,trivial,trivial⟩,⟨⟨g139,by rfl,ok139⟩,trivial,trivial⟩⟩⟩,⟨⟨g144,by rfl,ok144⟩,⟨⟨g142,by rfl,ok142⟩,⟨⟨g141,by rfl,ok141⟩,trivial,trivial⟩,⟨⟨g143,by rfl,ok143⟩,trivial,trivial⟩⟩,⟨⟨g147,by rfl,ok147⟩,⟨⟨g146,by rfl,ok146⟩,trivial,trivial⟩,⟨⟨g148,by rfl,ok148⟩,trivial,trivial⟩⟩⟩⟩,⟨⟨g164,by rfl,ok164⟩,⟨⟨g160,by rfl,ok160⟩,⟨⟨g154,by rfl,ok154⟩,⟨⟨g152,by rfl,ok152⟩,trivial,trivial⟩,⟨⟨g159,by rfl,ok159⟩,trivial,trivial⟩⟩,⟨⟨g162,by rfl,ok162⟩,⟨⟨g161,by rfl,ok161⟩,trivial,trivial⟩,⟨⟨g163,by rfl,ok163⟩,trivial,trivial⟩⟩⟩,⟨⟨g173,by rfl,ok173⟩,⟨⟨g171,by rfl,ok171⟩,⟨⟨g165,by rfl,ok165⟩,trivial,trivial⟩,⟨⟨g172,by rfl,ok172⟩,trivial,trivial⟩⟩,⟨⟨g175,by rfl,ok175⟩,⟨⟨g174,by rfl,ok174⟩,trivial,trivial⟩,⟨⟨g178,by rfl,ok178⟩,trivial,trivial⟩⟩⟩⟩⟩⟩⟩
theorem follows_ok:Tryz.prog.follows .mixedOrders=true:=by kernel_rfl
end Go.Proofs.YtdhhaipppjgicaaGreatDoorPe.PatxCode
