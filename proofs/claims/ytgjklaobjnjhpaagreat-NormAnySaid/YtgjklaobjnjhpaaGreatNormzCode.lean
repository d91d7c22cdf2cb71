/- THE CODES of the functions that the laws reach, told by expressions, and that they are the program's own (made by program: tool/gen.py, tool/code.py). -/
import Derived.Test.YtgjklaobjnjhpaaGreatEcFast
import Derived.Test.YtgjklaobjnjhpaaGreatProg
import Derived.KernelRfl
set_option maxRecDepth 100000
set_option linter.unusedVariables false
namespace Go.Proofs.YtgjklaobjnjhpaaGreatPe.NormzCode
open Go Go.Proofs.YtgjklaobjnjhpaaGreatPe

abbrev f_law13_NormAny : Nat := 3
abbrev f_law13_known : Nat := 4
abbrev f_law13_Conds : Nat := 5
abbrev f_norm_Norm : Nat := 6
abbrev f_law12_To : Nat := 7
abbrev f_ref12_Norm : Nat := 8
abbrev f_ref12_SameLits : Nat := 9
abbrev f_law13_Lits : Nat := 10
abbrev f_norm_Count : Nat := 11
abbrev f_ref12_Count : Nat := 12
abbrev f_norm_Spec : Nat := 13
abbrev f_ref12_Spec : Nat := 14
abbrev f_law13_patterns : Nat := 15
abbrev f_norm_Patterns : Nat := 16
abbrev f_ref12_Patterns : Nat := 17
abbrev f_norm_Same : Nat := 18
abbrev f_law13_ToAlt : Nat := 19
abbrev f_ref5_Read : Nat := 20
abbrev f_ref12_Parse : Nat := 21
abbrev f_law11_Two : Nat := 22
abbrev f_norm_logical : Nat := 23
abbrev f_norm_and : Nat := 24
abbrev f_norm_join : Nat := 25
abbrev f_norm_apart : Nat := 26
abbrev f_law11_To : Nat := 27
abbrev f_law7_To : Nat := 28
abbrev f_ref12_logicals : Nat := 29
abbrev f_ref12_rows : Nat := 30
abbrev f_ref11_Same : Nat := 31
abbrev f_ref7_Same : Nat := 32
abbrev f_law11_Of : Nat := 33
abbrev f_law7_Of : Nat := 34
abbrev f_slices_Clip_pat_Test_pat_Test : Nat := 35
abbrev f_slices_Clone_pat_Test_pat_Test : Nat := 36
abbrev f_slices_Clip_pat_Pattern_pat_Pattern : Nat := 37
abbrev f_slices_EqualFunc_norm_Lit_norm_Lit_norm_Lit_norm_Lit : Nat := 38
abbrev f_norm_same : Nat := 39
abbrev f_law13_ToLits : Nat := 40
abbrev f_ref4_Scan : Nat := 41
abbrev f_ref5_At : Nat := 42
abbrev f_ref5_reader_node : Nat := 43
abbrev f_ref5_Same : Nat := 44
abbrev f_ref5_Sym : Nat := 45
abbrev f_ref11_Parse : Nat := 46
abbrev f_ref12_one : Nat := 47
abbrev f_ref3_Sym : Nat := 48
abbrev f_slices_ContainsFunc_cond_CE_cond_CE : Nat := 49
abbrev f_norm_logical_1 : Nat := 50
abbrev f_norm_one : Nat := 51
abbrev f_norm_put : Nat := 52
abbrev f_slices_Concat_norm_row_norm_Lit : Nat := 53
abbrev f_norm_clone : Nat := 54
abbrev f_slices_Clip_norm_Lit_norm_Lit : Nat := 55
abbrev f_ref12_alts : Nat := 56
abbrev f_ref12_few : Nat := 57
abbrev f_ref3_Same : Nat := 58
abbrev f_pat_Same : Nat := 59
abbrev f_expr_Same : Nat := 60
abbrev f_ref4_blank : Nat := 61
abbrev f_ref4_one : Nat := 62
abbrev f_ref5_Head : Nat := 63
abbrev f_ref9_Find : Nat := 64
abbrev f_ref9_Template_Slot : Nat := 65
abbrev f_ref11_term : Nat := 66
abbrev f_ref12_kind : Nat := 67
abbrev f_ref7_Parse : Nat := 68
abbrev f_slices_IndexFunc_cond_CE_cond_CE : Nat := 69
abbrev f_norm_or : Nat := 70
abbrev f_norm_single : Nat := 71
abbrev f_norm_negs : Nat := 72
abbrev f_norm_forall : Nat := 73
abbrev f_slices_Clip_norm_row_norm_Lit : Nat := 74
abbrev f_slices_Grow_norm_row_norm_Lit : Nat := 75
abbrev f_slices_Clip_expr_Expr_expr_Expr : Nat := 76
abbrev f_ref12_fit : Nat := 77
abbrev f_ref12_negs : Nat := 78
abbrev f_slices_EqualFunc_pat_Test_pat_Test_pat_Test_pat_Test : Nat := 79
abbrev f_pat_Same_1 : Nat := 80
abbrev f_val_Same : Nat := 81
abbrev f_slices_EqualFunc_expr_Expr_expr_Expr_expr_Expr_expr_Expr : Nat := 82
abbrev f_ref4_text : Nat := 83
abbrev f_ref4_name : Nat := 84
abbrev f_ref3_Sign : Nat := 85
abbrev f_ref1_Shape : Nat := 86
abbrev f_ref1_Parse : Nat := 87
abbrev f_ref5_Value : Nat := 88
abbrev f_ref12_word : Nat := 89
abbrev f_ref7_wrong : Nat := 90
abbrev f_ref7_args : Nat := 91
abbrev f_val_Compare : Nat := 92
abbrev f_ref3_Part : Nat := 93
abbrev f_ref3_Good : Nat := 94
abbrev f_ref1_Mul : Nat := 95
abbrev f_ref1_Add : Nat := 96
abbrev f_ref6_Known : Nat := 97
abbrev f_ref6_Fits : Nat := 98
abbrev f_cmp_Or_int : Nat := 99
abbrev f_cmp_Compare_int : Nat := 100
abbrev f_cmp_Compare_int64 : Nat := 101
abbrev f_cmp_Compare_string : Nat := 102
abbrev f_ref3_letter : Nat := 103
abbrev f_ref1_size : Nat := 104
abbrev f_ref6_Names : Nat := 105
abbrev f_ref6_Arity : Nat := 106
abbrev f_cmp_isNaN_int : Nat := 107
abbrev f_cmp_isNaN_int64 : Nat := 108
abbrev f_cmp_isNaN_string : Nat := 109
abbrev T_law13_Conds_0 : Nat := 67
abbrev T_norm_Norm_0 : Nat := 41
abbrev T_norm_Norm_1 : Nat := 78
abbrev T_law12_To_0 : Nat := 78
abbrev T_law12_To_1 : Nat := 93
abbrev T_ref12_Norm_0 : Nat := 101
abbrev T_ref12_Norm_1 : Nat := 43
abbrev T_law13_Lits_0 : Nat := 101
abbrev T_norm_Count_0 : Nat := 63
abbrev T_norm_Spec_0 : Nat := 63
abbrev T_norm_Patterns_0 : Nat := 56
abbrev T_norm_Patterns_1 : Nat := 63
abbrev T_ref12_Patterns_0 : Nat := 88
abbrev T_norm_Same_0 : Nat := 41
abbrev T_law13_ToAlt_0 : Nat := 43
abbrev T_law13_ToAlt_1 : Nat := 41
abbrev T_ref5_Read_0 : Nat := 121
abbrev T_ref5_Read_1 : Nat := 67
abbrev T_ref5_Read_2 : Nat := 119
abbrev T_ref12_Parse_0 : Nat := 93
abbrev T_ref12_Parse_1 : Nat := 121
abbrev T_ref12_Parse_2 : Nat := 88
abbrev T_ref12_Parse_3 : Nat := 67
abbrev T_law11_Two_0 : Nat := 58
abbrev T_norm_and_0 : Nat := 78
abbrev T_norm_apart_0 : Nat := 63
abbrev T_law11_To_0 : Nat := 108
abbrev T_law11_To_1 : Nat := 142
abbrev T_law11_To_2 : Nat := 88
abbrev T_law11_To_3 : Nat := 56
abbrev T_law7_To_0 : Nat := 61
abbrev T_law7_To_1 : Nat := 91
abbrev T_ref12_rows_0 : Nat := 101
abbrev T_ref12_rows_1 : Nat := 37
abbrev T_ref11_Same_0 : Nat := 142
abbrev T_ref11_Same_1 : Nat := 88
abbrev T_ref7_Same_0 : Nat := 91
abbrev T_law11_Of_0 : Nat := 142
abbrev T_law11_Of_1 : Nat := 108
abbrev T_law11_Of_2 : Nat := 56
abbrev T_law11_Of_3 : Nat := 88
abbrev T_law7_Of_0 : Nat := 91
abbrev T_law7_Of_1 : Nat := 61
abbrev T_slices_EqualFunc_norm_Lit_norm_Lit_norm_Lit_norm_Lit_0 : Nat := 63
abbrev T_norm_same_0 : Nat := 63
abbrev T_law13_ToLits_0 : Nat := 63
abbrev T_ref4_Scan_0 : Nat := 150
abbrev T_ref5_At_0 : Nat := 67
abbrev T_ref5_reader_node_0 : Nat := 121
abbrev T_ref5_reader_node_1 : Nat := 67
abbrev T_ref5_reader_node_2 : Nat := 150
abbrev T_ref5_Same_0 : Nat := 121
abbrev T_ref5_Sym_0 : Nat := 121
abbrev T_ref11_Parse_0 : Nat := 142
abbrev T_ref11_Parse_1 : Nat := 121
abbrev T_ref11_Parse_2 : Nat := 88
abbrev T_ref11_Parse_3 : Nat := 67
abbrev T_ref12_one_0 : Nat := 121
abbrev T_ref12_one_1 : Nat := 93
abbrev T_ref12_one_2 : Nat := 67
abbrev T_ref12_one_3 : Nat := 88
abbrev T_ref12_one_4 : Nat := 91
abbrev T_ref3_Sym_0 : Nat := 58
abbrev T_norm_logical_1_0 : Nat := 78
abbrev T_norm_one_0 : Nat := 78
abbrev T_norm_put_0 : Nat := 83
abbrev T_slices_Concat_norm_row_norm_Lit_0 : Nat := 63
abbrev T_slices_Concat_norm_row_norm_Lit_1 : Nat := 9
abbrev T_norm_clone_0 : Nat := 61
abbrev T_ref12_alts_0 : Nat := 37
abbrev T_ref12_alts_1 : Nat := 101
abbrev T_ref12_alts_2 : Nat := 93
abbrev T_ref3_Same_0 : Nat := 58
abbrev T_pat_Same_0 : Nat := 56
abbrev T_expr_Same_0 : Nat := 61
abbrev T_ref4_one_0 : Nat := 150
abbrev T_ref5_Head_0 : Nat := 121
abbrev T_ref9_Template_Slot_0 : Nat := 135
abbrev T_ref11_term_0 : Nat := 121
abbrev T_ref11_term_1 : Nat := 142
abbrev T_ref11_term_2 : Nat := 58
abbrev T_ref7_Parse_0 : Nat := 91
abbrev T_ref7_Parse_1 : Nat := 67
abbrev T_ref7_Parse_2 : Nat := 121
abbrev T_ref7_Parse_3 : Nat := 58
abbrev T_norm_or_0 : Nat := 78
abbrev T_norm_negs_0 : Nat := 63
abbrev T_ref12_negs_0 : Nat := 101
abbrev T_slices_EqualFunc_pat_Test_pat_Test_pat_Test_pat_Test_0 : Nat := 108
abbrev T_pat_Same_1_0 : Nat := 108
abbrev T_val_Same_0 : Nat := 58
abbrev T_slices_EqualFunc_expr_Expr_expr_Expr_expr_Expr_expr_Expr_0 : Nat := 61
abbrev T_ref5_Value_0 : Nat := 121
abbrev T_ref5_Value_1 : Nat := 58
abbrev T_ref7_wrong_0 : Nat := 121
abbrev T_ref7_wrong_1 : Nat := 91
abbrev T_ref7_wrong_2 : Nat := 67
abbrev T_val_Compare_0 : Nat := 58

def sh : Nat → Nat
  | 35 => 1
  | 36 => 2
  | 37 => 1
  | 38 => 6
  | 43 => 3
  | 49 => 4
  | 52 => 3
  | 53 => 2
  | 55 => 1
  | 69 => 4
  | 74 => 1
  | 75 => 3
  | 76 => 1
  | 79 => 6
  | 82 => 6
  | _ => 0

/-- whelk/whelklaw13.NormAny [0=b, 1=c, 2=l, 3=m, 4=i] -/
def b_law13_NormAny_0 : EC :=
 (.seq (.cond (.bi (.bin .lss) (.v 4) (.un .len (.v 2)))
  (.skip)
  (.exit 0))
 (.seq (.block 1 (.seq (.st [.sets [(8, (.tup (.call 0 f_ref12_SameLits) (.cons (.tup (.call 0 f_law13_Lits) (.cons (.un (.ld none) (.un (.off 0) (.bi (.idx 2) (.v 2) (.v 4)))) .nil)) (.cons (.un (.ld none) (.un (.off 0) (.bi (.idx 2) (.v 3) (.v 4)))) .nil))))],
    .sets [(9, (.pick (.un .not (.v 8)) (.c (.bool true)) (.bi (.bin .neq) (.un (.ld none) (.un (.off 1) (.bi (.idx 2) (.v 2) (.v 4)))) (.un (.ld none) (.un (.off 1) (.bi (.idx 2) (.v 3) (.v 4))))))), (10, (.gd false (.pick (.un .not (.v 8)) (.c (.bool true)) (.bi (.bin .neq) (.un (.ld none) (.un (.off 1) (.bi (.idx 2) (.v 2) (.v 4)))) (.un (.ld none) (.un (.off 1) (.bi (.idx 2) (.v 3) (.v 4)))))) (.tup (.call 0 f_norm_Count) (.cons (.un (.ld none) (.un (.off 0) (.bi (.idx 2) (.v 2) (.v 4)))) .nil)))), (11, (.gd false (.pick (.un .not (.v 8)) (.c (.bool true)) (.bi (.bin .neq) (.un (.ld none) (.un (.off 1) (.bi (.idx 2) (.v 2) (.v 4)))) (.un (.ld none) (.un (.off 1) (.bi (.idx 2) (.v 3) (.v 4)))))) (.un (.ld none) (.un (.off 0) (.bi (.idx 2) (.v 3) (.v 4))))))],
    .sets [(12, (.gd false (.v 9) (.tup (.call 0 f_ref12_Count) (.cons (.v 11) .nil))))],
    .sets [(13, (.gd false (.pick (.v 9) (.c (.bool true)) (.bi (.bin .neq) (.v 10) (.v 12))) (.un (.ld none) (.un (.off 0) (.bi (.idx 2) (.v 3) (.v 4))))))]])
  (.cond (.pick (.pick (.pick (.pick (.v 9) (.c (.bool true)) (.bi (.bin .neq) (.v 10) (.v 12))) (.c (.bool true)) (.bi (.bin .neq) (.tup (.call 0 f_norm_Spec) (.cons (.un (.ld none) (.un (.off 0) (.bi (.idx 2) (.v 2) (.v 4)))) .nil)) (.tup (.call 0 f_ref12_Spec) (.cons (.un (.ld none) (.un (.off 0) (.bi (.idx 2) (.v 3) (.v 4)))) .nil)))) (.c (.bool true)) (.un .not (.tup (.call 0 f_law13_patterns) (.cons (.tup (.call 0 f_norm_Patterns) (.cons (.un (.ld none) (.un (.off 0) (.bi (.idx 2) (.v 2) (.v 4)))) .nil)) (.cons (.tup (.call 0 f_ref12_Patterns) (.cons (.un (.ld none) (.un (.off 0) (.bi (.idx 2) (.v 3) (.v 4)))) .nil)) .nil))))) (.c (.bool true)) (.un .not (.tup (.call 0 f_norm_Same) (.cons (.un (.ld (some 2)) (.bi (.idx 2) (.v 2) (.v 4))) (.cons (.tup (.call 0 f_law13_ToAlt) (.cons (.un (.ld (some 2)) (.bi (.idx 2) (.v 3) (.v 4))) .nil)) .nil)))))
   (.ret [.e (.c (.bool false))])
   (.skip))))
 (.st [.sets [(4, (.bi (.bin .add) (.v 4) (.c (.int .i64 1))))]])))
def e_law13_NormAny : EFunc := ⟨1, 14,
 (.seq (.cond (.un .not (.tup (.call 0 f_law13_known) .nil))
  (.ret [.e (.c (.bool false))])
  (.skip))
 (.seq (.st [.sets [(5, (.tup (.call 0 f_law13_Conds) (.cons (.v 0) .nil)))],
   .sets [(1, (.un (.ext 0) (.v 5)))]])
 (.seq (.cond (.un .not (.un (.ext 1) (.v 5)))
  (.ret [.e (.c (.bool true))])
  (.skip))
 (.seq (.st [.sets [(6, (.tup (.call 0 f_norm_Norm) (.cons (.tup (.call 0 f_law12_To) (.cons (.v 1) .nil)) .nil)))],
   .sets [(2, (.un (.ext 0) (.v 6)))]])
 (.seq (.st [.sets [(7, (.tup (.call 0 f_ref12_Norm) (.cons (.v 1) .nil)))],
   .sets [(3, (.un (.ext 0) (.v 7)))]])
 (.seq (.cond (.pick (.bi (.bin .neq) (.un (.ext 1) (.v 6)) (.un (.ext 1) (.v 7))) (.c (.bool true)) (.bi (.bin .neq) (.un .len (.v 2)) (.un .len (.v 3))))
  (.ret [.e (.c (.bool false))])
  (.skip))
 (.seq (.seq (.st [.sets [(4, (.c (.int .i64 0)))]])
 (.block 0 (.loop [false, false, true, true, true, false, false, false, false, false, false, false, false, false] b_law13_NormAny_0)))
 (.ret [.e (.c (.bool true))]))))))))⟩
noncomputable def r3 : ERow := ⟨Go.Proofs.Tryz.f3, ⟨[(13, (.cons 0 0 (.cons 0 1 (.cons 0 2 (.cons 0 3 (.cons 0 6 (.cons 0 7 (.cons 0 8 (.cons 0 9 (.cons 1 4 (.cons 1 10 (.cons 2 5 (.cons 2 11 (.cons 0 12 (.cons 0 13 (.cons 0 14 (.cons 0 15 (.cons 0 16 (.cons 0 17 (.cons 0 19 (.cons 0 20 (.cons 0 21 (.cons 0 22 (.cons 1 18 (.cons 1 23 (.cons 0 24 (.cons 0 25 (.cons 0 26 (.cons 0 27 (.cons 0 28 (.cons 0 29 (.cons 0 30 (.cons 0 33 (.cons 0 34 (.cons 0 35 (.cons 0 36 (.cons 1 31 (.cons 1 37 (.cons 2 32 (.cons 2 38 (.cons 0 39 (.cons 0 40 (.cons 0 41 (.cons 0 42 (.cons 0 43 (.cons 0 44 (.cons 0 45 (.cons 0 48 (.cons 0 49 (.cons 0 50 (.cons 0 51 (.cons 1 46 (.cons 1 52 (.cons 2 47 (.cons 2 53 (.cons 0 54 (.cons 0 55 (.cons 0 56 (.cons 0 57 (.cons 0 58 (.cons 0 59 (.cons 0 60 (.cons 0 63 (.cons 0 64 (.cons 0 65 (.cons 0 66 (.cons 1 61 (.cons 1 67 (.cons 2 62 (.cons 2 68 (.cons 2 69 (.cons 0 70 (.cons 0 71 (.cons 0 72 (.cons 0 73 (.cons 0 74 (.cons 0 75 (.cons 0 77 (.cons 0 78 (.cons 0 79 (.cons 1 76 (.cons 1 80 (.cons 2 81 (.cons 2 82 (.cons 0 83 (.cons 0 84 .nil))))))))))))))))))))))))))))))))))))))))))))))))))))))))))))))))))))))))))))))))))))))], [(0, [false, false, false, false, false, true, false, true, false, true])]⟩, ⟨131, [0, 3, 5, 7, 9, 12, 19, 25, 57, 72, 78, 83, 84, 98], [50, 56, 64, 69, 77, 83, 92, 98, 107, 113, 122, 126], [57, 78, 84, 12, 19, 25]⟩, 1, e_law13_NormAny⟩

/-- whelk/whelklaw13.known [0=c, 1=l] -/
def e_law13_known : EFunc := ⟨0, 6,
 (.seq (.st [.eff (some 3) none (.bown 1 [(.int .u8 0)] 38 [0, 1, 2, 3, 4, 5, 6, 7, 8, 9, 10, 11, 12, 13, 14, 15, 16, 17, 18, 19, 20, 21, 22, 23, 24, 25, 26, 27, 28, 29, 30, 31, 32, 33, 34, 35, 36, 37] (.cons (.c (.int .u8 40)) (.cons (.c (.int .u8 111)) (.cons (.c (.int .u8 114)) (.cons (.c (.int .u8 32)) (.cons (.c (.int .u8 40)) (.cons (.c (.int .u8 112)) (.cons (.c (.int .u8 41)) (.cons (.c (.int .u8 32)) (.cons (.c (.int .u8 40)) (.cons (.c (.int .u8 113)) (.cons (.c (.int .u8 32)) (.cons (.c (.int .u8 40)) (.cons (.c (.int .u8 97)) (.cons (.c (.int .u8 32)) (.cons (.c (.int .u8 49)) (.cons (.c (.int .u8 41)) (.cons (.c (.int .u8 41)) (.cons (.c (.int .u8 41)) (.cons (.c (.int .u8 32)) (.cons (.c (.int .u8 40)) (.cons (.c (.int .u8 110)) (.cons (.c (.int .u8 111)) (.cons (.c (.int .u8 116)) (.cons (.c (.int .u8 32)) (.cons (.c (.int .u8 40)) (.cons (.c (.int .u8 97)) (.cons (.c (.int .u8 110)) (.cons (.c (.int .u8 100)) (.cons (.c (.int .u8 32)) (.cons (.c (.int .u8 40)) (.cons (.c (.int .u8 112)) (.cons (.c (.int .u8 41)) (.cons (.c (.int .u8 32)) (.cons (.c (.int .u8 40)) (.cons (.c (.int .u8 113)) (.cons (.c (.int .u8 41)) (.cons (.c (.int .u8 41)) (.cons (.c (.int .u8 41)) .nil))))))))))))))))))))))))))))))))))))))),
   .eff (some 4) none (.mark (.v 3)),
   .sets [(2, (.tup (.call 0 f_law13_Conds) (.cons (.v 4) .nil)))],
   .sets [(0, (.un (.ext 0) (.v 2)))]])
 (.seq (.cond (.un .not (.un (.ext 1) (.v 2)))
  (.ret [.e (.c (.bool false))])
  (.skip))
 (.seq (.st [.sets [(5, (.tup (.call 0 f_norm_Norm) (.cons (.tup (.call 0 f_law12_To) (.cons (.v 0) .nil)) .nil)))],
   .sets [(1, (.un (.ext 0) (.v 5)))]])
 (.seq (.cond (.pick (.bi (.bin .neq) (.un (.ext 1) (.v 5)) (.c (.int .i64 0))) (.c (.bool true)) (.bi (.bin .neq) (.un .len (.v 1)) (.c (.int .i64 2))))
  (.ret [.e (.c (.bool false))])
  (.skip))
 (.ret [.e (.pick (.pick (.pick (.pick (.pick (.pick (.pick (.pick (.bi (.bin .eql) (.un .len (.un (.ld none) (.un (.off 0) (.bi (.idx 2) (.v 1) (.c (.int .i64 0)))))) (.c (.int .i64 2))) (.bi (.bin .eql) (.un (.ld none) (.un (.off 1) (.bi (.idx 2) (.v 1) (.c (.int .i64 0))))) (.c (.int .i64 0))) (.c (.bool false))) (.bi (.bin .eql) (.un (.ld none) (.un (.off 0) (.bi (.idx 11) (.un (.ld none) (.un (.off 0) (.bi (.idx 2) (.v 1) (.c (.int .i64 1))))) (.c (.int .i64 1))))) (.c (.int .i64 3))) (.c (.bool false))) (.bi (.bin .eql) (.un .len (.un (.ld none) (.un (.off 10) (.bi (.idx 11) (.un (.ld none) (.un (.off 0) (.bi (.idx 2) (.v 1) (.c (.int .i64 1))))) (.c (.int .i64 1)))))) (.c (.int .i64 2))) (.c (.bool false))) (.bi (.bin .eql) (.tup (.call 0 f_norm_Count) (.cons (.un (.ld none) (.un (.off 0) (.bi (.idx 2) (.v 1) (.c (.int .i64 1))))) .nil)) (.c (.int .i64 4))) (.c (.bool false))) (.bi (.bin .eql) (.tup (.call 0 f_norm_Spec) (.cons (.un (.ld none) (.un (.off 0) (.bi (.idx 2) (.v 1) (.c (.int .i64 1))))) .nil)) (.c (.int .i64 5))) (.c (.bool false))) (.bi (.bin .eql) (.un .len (.tup (.call 0 f_norm_Patterns) (.cons (.un (.ld none) (.un (.off 0) (.bi (.idx 2) (.v 1) (.c (.int .i64 0))))) .nil))) (.c (.int .i64 3))) (.c (.bool false))) (.tup (.call 0 f_norm_Same) (.cons (.un (.ld (some 2)) (.bi (.idx 2) (.v 1) (.c (.int .i64 0)))) (.cons (.un (.ld (some 2)) (.bi (.idx 2) (.v 1) (.c (.int .i64 0)))) .nil))) (.c (.bool false))) (.un .not (.tup (.call 0 f_norm_Same) (.cons (.un (.ld (some 2)) (.bi (.idx 2) (.v 1) (.c (.int .i64 0)))) (.cons (.un (.ld (some 2)) (.bi (.idx 2) (.v 1) (.c (.int .i64 1)))) .nil)))) (.c (.bool false)))])))))⟩
noncomputable def r4 : ERow := ⟨Go.Proofs.Tryz.f4, ⟨[(7, (.cons 0 0 (.cons 0 1 (.cons 0 2 (.cons 1 3 (.cons 0 4 (.cons 0 5 (.cons 0 6 (.cons 0 7 (.cons 0 8 (.cons 0 9 (.cons 1 10 (.cons 0 11 (.cons 0 12 (.cons 0 13 (.cons 0 14 (.cons 0 15 (.cons 0 16 (.cons 1 17 (.cons 0 18 (.cons 0 19 (.cons 1 20 (.cons 0 21 (.cons 0 22 (.cons 0 23 (.cons 0 24 (.cons 0 25 (.cons 0 26 (.cons 1 27 (.cons 0 28 (.cons 0 29 (.cons 1 30 (.cons 0 31 (.cons 0 32 (.cons 0 33 (.cons 0 34 (.cons 0 35 (.cons 0 36 (.cons 0 37 (.cons 1 38 (.cons 2 39 (.cons 0 40 (.cons 0 41 (.cons 0 42 (.cons 0 43 (.cons 0 44 (.cons 0 45 (.cons 1 46 (.cons 2 47 (.cons 0 48 (.cons 0 49 (.cons 0 50 (.cons 0 51 (.cons 0 52 (.cons 0 53 (.cons 1 54 (.cons 2 55 (.cons 0 56 (.cons 0 57 (.cons 0 58 (.cons 0 59 (.cons 0 60 (.cons 0 61 (.cons 0 63 (.cons 0 64 (.cons 1 62 (.cons 1 65 (.cons 2 66 (.cons 0 67 (.cons 0 68 (.cons 0 69 (.cons 0 70 (.cons 0 72 (.cons 0 73 (.cons 1 71 (.cons 1 74 (.cons 2 75 (.cons 0 76 (.cons 0 77 (.cons 0 78 .nil))))))))))))))))))))))))))))))))))))))))))))))))))))))))))))))))))))))))))))))))], []⟩, ⟨104, [1, 3, 5, 6, 7, 13], [29, 36, 43, 46, 53, 56, 64, 72, 80, 88, 91, 97, 100], [5, 13]⟩, 0, e_law13_known⟩

/-- whelk/whelklaw13.Conds [0=b, 1=l, 2=w, 3=f] -/
def e_law13_Conds : EFunc := ⟨1, 8,
 (.seq (.cond (.bi (.bin .gtr) (.un .len (.v 0)) (.c (.int .i64 1000)))
  (.ret [.e (.c .nils), .e (.c (.bool false))])
  (.skip))
 (.seq (.st [.sets [(4, (.tup (.call 0 f_ref5_Read) (.cons (.v 0) .nil)))],
   .eff (some 2) none (.zbox [.nils, (.int .i64 0)] T_law13_Conds_0),
   .sets [(1, (.un (.ext 0) (.v 4)))],
   .eff none none (.store 2 (.v 2) (.un (.ext 1) (.v 4)))])
 (.seq (.seq (.st [.eff (some 5) none (.load none (.un (.off 1) (.v 2)))])
 (.cond (.bi (.bin .neq) (.v 5) (.c (.int .i64 0)))
  (.ret [.e (.c .nils), .e (.c (.bool false))])
  (.skip)))
 (.seq (.st [.sets [(6, (.tup (.call 0 f_ref12_Parse) (.cons (.v 1) (.cons (.tup (.call 0 f_law11_Two) .nil) (.cons (.tup (.bslice 2 [(.str []), (.int .i64 0)] 1 [0]) (.cons (.tup (.build [(.str []), (.int .i64 0)] [(0, 1), (1, 1)]) (.cons (.c (.str [102])) (.cons (.c (.int .i64 2)) .nil))) .nil)) .nil)))))],
   .eff (some 3) none (.zbox [.nils, (.int .i64 0)] T_law13_Conds_0),
   .eff none none (.store 2 (.v 3) (.un (.ext 1) (.v 6)))])
 (.seq (.st [.eff (some 7) none (.load none (.un (.off 1) (.v 3)))])
 (.ret [.e (.un (.ext 0) (.v 6)), .e (.bi (.bin .eql) (.v 7) (.c (.int .i64 0)))]))))))⟩
noncomputable def r5 : ERow := ⟨Go.Proofs.Tryz.f5, ⟨[(7, (.cons 0 0 (.cons 0 1 (.cons 0 4 (.cons 1 2 (.cons 0 3 (.cons 0 5 .nil)))))))], []⟩, ⟨31, [0, 4, 5, 7, 11, 17, 19, 29], [], [11, 19]⟩, 1, e_law13_Conds⟩

/-- whelk/norm.Norm [0=l, 1=c, 2=head, 3=front, 4=behind, 5=out, 6=x, 7=all, 8=r] -/
def b_norm_Norm_0 : EC :=
 (.seq (.cond (.bi (.bin .lss) (.v 11) (.v 10))
  (.skip)
  (.exit 0))
 (.seq (.block 1 (.seq (.st [.eff (some 1) none (.zbox [(.int .i64 0), (.str []), (.str []), .nils, (.int .i64 0), (.int .i64 0), (.int .i64 0), (.str []), (.str []), .nils, .nils] T_norm_Norm_1),
    .eff none none (.store 11 (.v 1) (.un (.ld (some 11)) (.bi (.idx 11) (.v 9) (.v 11))))])
  (.seq (.st [.eff (some 12) (some ((.bi (.bin .gtr) (.v 11) (.c (.int .i64 0))), true)) (.load none (.un (.off 0) (.v 1))),
    .eff (some 13) (some ((.pick (.bi (.bin .gtr) (.v 11) (.c (.int .i64 0))) (.bi (.bin .eql) (.v 12) (.c (.int .i64 8))) (.c (.bool false))), false)) (.load none (.un (.off 10) (.v 1)))])
  (.cond (.pick (.pick (.bi (.bin .gtr) (.v 11) (.c (.int .i64 0))) (.bi (.bin .eql) (.v 12) (.c (.int .i64 8))) (.c (.bool false))) (.c (.bool true)) (.tup (.call 0 f_norm_logical) (.cons (.v 13) .nil)))
   (.ret [.e (.c .nils), .e (.c (.int .i64 2))])
   (.skip)))))
 (.st [.sets [(11, (.bi (.bin .add) (.v 11) (.c (.int .i64 1))))]])))
def b_norm_Norm_1 : EC :=
 (.seq (.cond (.bi (.bin .lss) (.v 22) (.v 21))
  (.skip)
  (.exit 4))
 (.seq (.block 5 (.seq (.st [.sets [(8, (.un (.ld none) (.bi (.idx 1) (.v 20) (.v 22))))]])
  (.seq (.cond (.bi (.bin .geq) (.un .len (.v 5)) (.c (.int .i64 16)))
   (.ret [.e (.c .nils), .e (.c (.int .i64 4))])
   (.skip))
  (.st [.eff (some 23) none (.append 2 32 T_norm_Norm_0 (.v 5) (.tup (.bslice 2 [.nils, (.int .i64 0)] 1 [0]) (.cons (.tup (.build [.nils, (.int .i64 0)] [(0, 1), (1, 1)]) (.cons (.tup (.call 0 f_norm_apart) (.cons (.v 8) .nil)) (.cons (.un .len (.v 6)) .nil))) .nil))),
    .sets [(5, (.v 23))]]))))
 (.st [.sets [(22, (.bi (.bin .add) (.v 22) (.c (.int .i64 1))))]])))
def b_norm_Norm_2 : EC :=
 (.seq (.cond (.bi (.bin .lss) (.v 18) (.v 17))
  (.skip)
  (.exit 2))
 (.seq (.block 3 (.seq (.st [.sets [(6, (.un (.ld none) (.bi (.idx 1) (.v 16) (.v 18))))]])
  (.seq (.st [.sets [(19, (.tup (.call 0 f_norm_join) (.cons (.tup (.bslice 1 [.nils] 1 [0]) (.cons (.v 6) .nil)) (.cons (.v 4) .nil))))],
    .sets [(7, (.un (.ext 0) (.v 19)))]])
  (.seq (.cond (.bi (.bin .neq) (.un (.ext 1) (.v 19)) (.c (.int .i64 0)))
   (.ret [.e (.c .nils), .e (.un (.ext 1) (.v 19))])
   (.skip))
  (.seq (.st [.sets [(20, (.v 7)), (21, (.un .len (.v 7))), (22, (.c (.int .i64 0)))]])
  (.block 4 (.loop [false, false, false, false, true, true, true, false, false, false, false, false, false, false, false, false, true, true, true, false, true, true, true, false] b_norm_Norm_1)))))))
 (.st [.sets [(18, (.bi (.bin .add) (.v 18) (.c (.int .i64 1))))]])))
def e_norm_Norm : EFunc := ⟨1, 24,
 (.seq (.seq (.st [.sets [(9, (.v 0)), (10, (.un .len (.v 0))), (11, (.c (.int .i64 0)))]])
 (.block 0 (.loop [true, false, false, false, false, false, false, false, false, true, true, true, false, false, false, false, false, false, false, false, false, false, false, false] b_norm_Norm_0)))
 (.seq (.st [.sets [(2, (.c (.int .i64 0)))]])
 (.seq (.cond (.pick (.bi (.bin .gtr) (.un .len (.v 0)) (.c (.int .i64 0))) (.bi (.bin .eql) (.un (.ld none) (.un (.off 0) (.bi (.idx 11) (.v 0) (.c (.int .i64 0))))) (.c (.int .i64 8))) (.c (.bool false)))
  (.st [.sets [(2, (.c (.int .i64 1)))]])
  (.skip))
 (.seq (.st [.sets [(14, (.tup (.call 0 f_norm_and) (.cons (.lsub 11 false true false (.v 0) (.c .undef) (.v 2) (.c .undef)) .nil)))],
   .sets [(3, (.un (.ext 0) (.v 14)))]])
 (.seq (.cond (.bi (.bin .neq) (.un (.ext 1) (.v 14)) (.c (.int .i64 0)))
  (.ret [.e (.c .nils), .e (.un (.ext 1) (.v 14))])
  (.skip))
 (.seq (.st [.sets [(15, (.tup (.call 0 f_norm_and) (.cons (.lsub 11 true false false (.v 0) (.v 2) (.c .undef) (.c .undef)) .nil)))],
   .sets [(4, (.un (.ext 0) (.v 15)))]])
 (.seq (.cond (.bi (.bin .neq) (.un (.ext 1) (.v 15)) (.c (.int .i64 0)))
  (.ret [.e (.c .nils), .e (.un (.ext 1) (.v 15))])
  (.skip))
 (.seq (.st [.sets [(5, (.c .nils))]])
 (.seq (.seq (.st [.sets [(16, (.v 3)), (17, (.un .len (.v 3))), (18, (.c (.int .i64 0)))]])
 (.block 2 (.loop [false, false, false, false, true, true, false, false, false, false, false, false, false, false, false, false, true, true, true, false, false, false, false, false] b_norm_Norm_2)))
 (.ret [.e (.v 5), .e (.c (.int .i64 0))]))))))))))⟩
noncomputable def r6 : ERow := ⟨Go.Proofs.Tryz.f6, ⟨[], [(0, [true, false, false, false, false, false, false, false, false, false, false, false, false, false, false, false, false, true, true, true]), (2, [false, false, false, false, false, false, false, false, false, true, true, false, false, false, false, false, false, false, false, false, false, false, false, false, false, false, false, false, false, false, false, false, false, false, false, false, false, false, false, false, false, false, false, false, false, false, false, false, false, false, false, false, false, false, false, false, false, false, false, false, false, false, false, false, false, false, false, true, true, true]), (4, [false, false, false, false, false, false, false, false, false, true, true, false, true, false, false, false, false, false, false, false, false, false, false, false, false, false, false, false, false, false, false, false, false, false, false, false, false, false, false, false, false, false, false, false, false, false, false, false, false, false, false, false, false, false, false, false, false, false, false, false, false, false, false, false, false, false, false, true, true, true, false, false, false, false, false, false, false, false, false, false, false, false, false, true, true, true])]⟩, ⟨103, [0, 5, 6, 7, 9, 10, 12, 13, 16, 17, 18, 19, 28, 33, 47, 57, 67, 68, 69, 73, 83, 84, 85, 99], [23, 44, 72, 88], [47, 57, 73]⟩, 1, e_norm_Norm⟩

/-- whelk/whelklaw12.To [0=l, 1=out, 2=i, 3=c] -/
def b_law12_To_0 : EC :=
 (.seq (.cond (.bi (.bin .lss) (.v 2) (.un .len (.v 0)))
  (.skip)
  (.exit 0))
 (.seq (.block 1 (.seq (.st [.eff (some 3) none (.zbox [(.int .i64 0), (.str []), (.str []), .nils, (.int .i64 0), (.int .i64 0), (.int .i64 0), (.str []), (.str []), .nils, .nils] T_law12_To_1),
    .eff none none (.store 11 (.v 3) (.un (.ld (some 11)) (.bi (.idx 11) (.v 0) (.v 2))))])
  (.st [.eff (some 4) none (.load none (.un (.off 0) (.v 3))),
    .eff (some 5) none (.load none (.un (.off 1) (.v 3))),
    .eff (some 6) none (.load (some 2) (.un (.off 2) (.v 3))),
    .eff (some 7) none (.load (some 6) (.un (.off 4) (.v 3))),
    .eff (some 8) none (.load none (.un (.off 10) (.v 3))),
    .eff (some 9) none (.append 11 168 T_law12_To_0 (.v 1) (.tup (.bslice 11 [(.int .i64 0), (.str []), (.str []), .nils, (.int .i64 0), (.int .i64 0), (.int .i64 0), (.str []), (.str []), .nils, .nils] 1 [0]) (.cons (.tup (.build [(.int .i64 0), (.str []), (.str []), .nils, (.int .i64 0), (.int .i64 0), (.int .i64 0), (.str []), (.str []), .nils, .nils] [(0, 1), (1, 1), (2, 2), (4, 6), (10, 1)]) (.cons (.v 4) (.cons (.v 5) (.cons (.tup (.call 0 f_law11_To) (.cons (.v 6) .nil)) (.cons (.tup (.call 0 f_law7_To) (.cons (.v 7) .nil)) (.cons (.tup (.call 0 f_law12_To) (.cons (.v 8) .nil)) .nil)))))) .nil))),
    .sets [(1, (.v 9))]])))
 (.st [.sets [(2, (.bi (.bin .add) (.v 2) (.c (.int .i64 1))))]])))
def e_law12_To : EFunc := ⟨1, 10,
 (.seq (.st [.sets [(1, (.c .nils))]])
 (.seq (.seq (.st [.sets [(2, (.c (.int .i64 0)))]])
 (.block 0 (.loop [true, true, true, false, false, false, false, false, false, false] b_law12_To_0)))
 (.ret [.e (.v 1)])))⟩
noncomputable def r7 : ERow := ⟨Go.Proofs.Tryz.f7, ⟨[(6, (.cons 0 0 (.cons 0 1 (.cons 0 3 (.cons 0 5 (.cons 0 8 (.cons 0 11 (.cons 1 2 (.cons 1 4 (.cons 1 6 (.cons 1 9 (.cons 1 12 (.cons 2 7 (.cons 2 10 (.cons 2 13 (.cons 0 14 (.cons 2 15 (.cons 2 16 (.cons 0 17 .nil)))))))))))))))))))], [(0, [true, false, false, true, true])]⟩, ⟨34, [0, 3, 4, 5, 18, 20, 22, 25, 28, 32], [15], []⟩, 1, e_law12_To⟩

/-- whelk/whelkref12.Norm [0=l, 1=logic, 2=first, 3=rest, 4=x, 5=y, 6=out, 7=i, 8=k, 9=a] -/
def b_ref12_Norm_0 : EC :=
 (.seq (.cond (.bi (.bin .lss) (.v 8) (.un .len (.v 5)))
  (.skip)
  (.exit 2))
 (.seq (.block 3 (.seq (.st [.eff (some 12) none (.append 11 168 T_ref12_Norm_0 (.tup (.bslice 11 [(.int .i64 0), (.str []), (.str []), .nils, (.int .i64 0), (.int .i64 0), (.int .i64 0), (.str []), (.str []), .nils, .nils] 0 []) .nil) (.un (.ld none) (.bi (.idx 1) (.v 2) (.v 7)))),
    .eff (some 13) none (.append 11 168 T_ref12_Norm_0 (.v 12) (.un (.ld none) (.bi (.idx 1) (.v 5) (.v 8)))),
    .eff (some 9) none (.zbox [.nils, (.int .i64 0)] T_ref12_Norm_1),
    .eff none none (.store 2 (.v 9) (.tup (.build [.nils, (.int .i64 0)] [(0, 1), (1, 1)]) (.cons (.v 13) (.cons (.bi (.bin .mul) (.v 1) (.un .len (.un (.ld none) (.bi (.idx 1) (.v 2) (.v 7))))) .nil))))])
  (.seq (.seq (.st [.eff (some 14) none (.load none (.un (.off 0) (.v 9)))])
  (.cond (.bi (.bin .gtr) (.tup (.call 0 f_ref12_Count) (.cons (.v 14) .nil)) (.c (.int .i64 40)))
   (.ret [.e (.c .nils), .e (.c (.int .i64 4))])
   (.skip)))
  (.st [.eff (some 15) none (.load (some 2) (.v 9)),
    .eff (some 16) none (.append 2 32 T_ref12_Norm_1 (.v 6) (.tup (.bslice 2 [.nils, (.int .i64 0)] 1 [0]) (.cons (.v 15) .nil))),
    .sets [(6, (.v 16))]]))))
 (.st [.sets [(8, (.bi (.bin .add) (.v 8) (.c (.int .i64 1))))]])))
def b_ref12_Norm_1 : EC :=
 (.seq (.cond (.bi (.bin .lss) (.v 7) (.un .len (.v 2)))
  (.skip)
  (.exit 0))
 (.seq (.block 1 (.seq (.st [.sets [(8, (.c (.int .i64 0)))]])
  (.block 2 (.loop [false, true, true, false, false, true, true, true, true, false, false, false, false, false, false, false, false] b_ref12_Norm_0))))
 (.st [.sets [(7, (.bi (.bin .add) (.v 7) (.c (.int .i64 1))))]])))
def e_ref12_Norm : EFunc := ⟨1, 17,
 (.seq (.st [.sets [(1, (.c (.int .i64 0)))]])
 (.seq (.st [.sets [(2, (.tup (.bslice 1 [.nils] 1 [0]) (.cons (.c .nils) .nil)))]])
 (.seq (.st [.sets [(3, (.v 0))]])
 (.seq (.cond (.pick (.bi (.bin .gtr) (.un .len (.v 0)) (.c (.int .i64 0))) (.bi (.bin .eql) (.un (.ld none) (.un (.off 0) (.bi (.idx 11) (.v 0) (.c (.int .i64 0))))) (.c (.int .i64 8))) (.c (.bool false)))
  (.seq (.cond (.pick (.tup (.call 0 f_ref12_logicals) (.cons (.un (.ld none) (.un (.off 10) (.bi (.idx 11) (.v 0) (.c (.int .i64 0))))) .nil)) (.c (.bool true)) (.tup (.call 0 f_ref12_logicals) (.cons (.lsub 11 true false false (.v 0) (.c (.int .i64 1)) (.c .undef) (.c .undef)) .nil)))
   (.ret [.e (.c .nils), .e (.c (.int .i64 2))])
   (.skip))
  (.seq (.st [.sets [(10, (.tup (.call 0 f_ref12_rows) (.cons (.un (.ld none) (.un (.off 10) (.bi (.idx 11) (.v 0) (.c (.int .i64 0))))) .nil)))],
    .sets [(4, (.un (.ext 0) (.v 10)))]])
  (.seq (.cond (.bi (.bin .neq) (.un (.ext 1) (.v 10)) (.c (.int .i64 0)))
   (.ret [.e (.c .nils), .e (.un (.ext 1) (.v 10))])
   (.skip))
  (.seq (.st [.sets [(2, (.v 4))]])
  (.seq (.st [.sets [(3, (.lsub 11 true false false (.v 0) (.c (.int .i64 1)) (.c .undef) (.c .undef)))]])
  (.st [.sets [(1, (.c (.int .i64 1)))]]))))))
  (.cond (.tup (.call 0 f_ref12_logicals) (.cons (.v 0) .nil))
   (.ret [.e (.c .nils), .e (.c (.int .i64 2))])
   (.skip)))
 (.seq (.st [.sets [(11, (.tup (.call 0 f_ref12_rows) (.cons (.v 3) .nil)))],
   .sets [(5, (.un (.ext 0) (.v 11)))]])
 (.seq (.cond (.bi (.bin .neq) (.un (.ext 1) (.v 11)) (.c (.int .i64 0)))
  (.ret [.e (.c .nils), .e (.un (.ext 1) (.v 11))])
  (.skip))
 (.seq (.cond (.bi (.bin .gtr) (.bi (.bin .mul) (.un .len (.v 2)) (.un .len (.v 5))) (.c (.int .i64 16)))
  (.ret [.e (.c .nils), .e (.c (.int .i64 4))])
  (.skip))
 (.seq (.st [.sets [(6, (.c .nils))]])
 (.seq (.seq (.st [.sets [(7, (.c (.int .i64 0)))]])
 (.block 0 (.loop [false, true, true, false, false, true, true, true, false, false, false, false, false, false, false, false, false] b_ref12_Norm_1)))
 (.ret [.e (.v 6), .e (.c (.int .i64 0))]))))))))))⟩
noncomputable def r8 : ERow := ⟨Go.Proofs.Tryz.f8, ⟨[(27, (.cons 0 1 (.cons 0 2 (.cons 0 3 (.cons 0 6 (.cons 0 7 (.cons 0 8 (.cons 0 11 (.cons 0 12 (.cons 0 13 (.cons 0 14 (.cons 1 4 (.cons 1 9 (.cons 1 15 (.cons 0 16 (.cons 0 17 (.alt (.cons 2 0 (.alt (.cons 2 5 (.alt (.cons 2 10 (.cons 0 18 (.cons 2 19 (.cons 3 20 .nil)))) (.cons 2 19 (.cons 2 10 (.cons 0 18 (.cons 3 20 .nil)))))) (.cons 2 19 (.cons 2 5 (.cons 2 10 (.cons 0 18 (.cons 3 20 .nil))))))) (.cons 2 19 (.cons 2 0 (.cons 2 5 (.cons 2 10 (.cons 0 18 (.cons 3 20 .nil)))))))))))))))))))))))], [(0, [false, false, false, false, true, true, false, false, false, true, false, true, true]), (2, [false, false, false, false, true, true, false, false, false, true, false, true, true, true])]⟩, ⟨107, [0, 4, 5, 6, 7, 9, 11, 12, 13, 14, 37, 53, 84, 89, 99, 103, 105], [24, 30, 41, 83, 88, 94], [37, 53]⟩, 1, e_ref12_Norm⟩

/-- whelk/whelkref12.SameLits [0=a, 1=b, 2=i] -/
def b_ref12_SameLits_0 : EC :=
 (.seq (.cond (.bi (.bin .lss) (.v 2) (.un .len (.v 0)))
  (.skip)
  (.exit 0))
 (.seq (.block 1 (.cond (.pick (.pick (.pick (.pick (.bi (.bin .neq) (.un (.ld none) (.un (.off 0) (.bi (.idx 11) (.v 0) (.v 2)))) (.un (.ld none) (.un (.off 0) (.bi (.idx 11) (.v 1) (.v 2))))) (.c (.bool true)) (.bi (.bin .neq) (.un (.ld none) (.un (.off 1) (.bi (.idx 11) (.v 0) (.v 2)))) (.un (.ld none) (.un (.off 1) (.bi (.idx 11) (.v 1) (.v 2)))))) (.c (.bool true)) (.un .not (.tup (.call 0 f_ref11_Same) (.cons (.un (.ld (some 2)) (.un (.off 2) (.bi (.idx 11) (.v 0) (.v 2)))) (.cons (.un (.ld (some 2)) (.un (.off 2) (.bi (.idx 11) (.v 1) (.v 2)))) .nil))))) (.c (.bool true)) (.un .not (.tup (.call 0 f_ref7_Same) (.cons (.un (.ld (some 6)) (.un (.off 4) (.bi (.idx 11) (.v 0) (.v 2)))) (.cons (.un (.ld (some 6)) (.un (.off 4) (.bi (.idx 11) (.v 1) (.v 2)))) .nil))))) (.c (.bool true)) (.un .not (.tup (.call 0 f_ref12_SameLits) (.cons (.un (.ld none) (.un (.off 10) (.bi (.idx 11) (.v 0) (.v 2)))) (.cons (.un (.ld none) (.un (.off 10) (.bi (.idx 11) (.v 1) (.v 2)))) .nil)))))
   (.ret [.e (.c (.bool false))])
   (.skip)))
 (.st [.sets [(2, (.bi (.bin .add) (.v 2) (.c (.int .i64 1))))]])))
def e_ref12_SameLits : EFunc := ⟨2, 3,
 (.seq (.cond (.bi (.bin .neq) (.un .len (.v 0)) (.un .len (.v 1)))
  (.ret [.e (.c (.bool false))])
  (.skip))
 (.seq (.seq (.st [.sets [(2, (.c (.int .i64 0)))]])
 (.block 0 (.loop [true, true, true] b_ref12_SameLits_0)))
 (.ret [.e (.c (.bool true))])))⟩
noncomputable def r9 : ERow := ⟨Go.Proofs.Tryz.f9, ⟨[(6, (.cons 0 0 (.cons 0 1 (.cons 0 2 (.cons 0 3 (.cons 0 5 (.cons 0 6 (.cons 0 7 (.cons 0 8 (.cons 1 4 (.cons 1 9 (.cons 0 10 (.cons 0 11 (.cons 0 12 (.cons 0 13 (.cons 0 14 (.cons 0 15 (.cons 0 17 (.cons 0 18 (.cons 0 19 (.cons 0 20 (.cons 1 16 (.cons 1 21 (.cons 0 22 (.cons 0 23 (.cons 0 24 (.cons 0 25 (.cons 0 26 (.cons 0 27 (.cons 0 28 (.cons 0 30 (.cons 0 31 (.cons 0 32 (.cons 0 33 (.cons 1 29 (.cons 1 34 (.cons 2 35 (.cons 0 36 (.cons 0 37 (.cons 0 38 (.cons 0 39 (.cons 0 40 (.cons 0 41 (.cons 0 42 (.cons 0 44 (.cons 0 45 (.cons 0 46 (.cons 0 47 (.cons 1 43 (.cons 1 48 (.cons 2 49 (.cons 0 50 (.cons 0 51 (.cons 0 52 (.cons 0 53 (.cons 0 54 (.cons 0 55 (.cons 0 56 (.cons 0 58 (.cons 0 59 (.cons 0 60 (.cons 0 61 (.cons 1 57 (.cons 1 62 (.cons 2 63 (.cons 0 64 (.cons 0 65 .nil)))))))))))))))))))))))))))))))))))))))))))))))))))))))))))))))))))], [(0, [true, true, false, false, false, true])]⟩, ⟨83, [0, 1, 5], [21, 26, 33, 38, 46, 51, 60, 65, 74, 79], []⟩, 2, e_ref12_SameLits⟩

/-- whelk/whelklaw13.Lits [0=l, 1=out, 2=i] -/
def b_law13_Lits_0 : EC :=
 (.seq (.cond (.bi (.bin .lss) (.v 2) (.un .len (.v 0)))
  (.skip)
  (.exit 0))
 (.seq (.block 1 (.st [.eff (some 3) none (.append 11 168 T_law13_Lits_0 (.v 1) (.tup (.bslice 11 [(.int .i64 0), (.str []), (.str []), .nils, (.int .i64 0), (.int .i64 0), (.int .i64 0), (.str []), (.str []), .nils, .nils] 1 [0]) (.cons (.tup (.build [(.int .i64 0), (.str []), (.str []), .nils, (.int .i64 0), (.int .i64 0), (.int .i64 0), (.str []), (.str []), .nils, .nils] [(0, 1), (1, 1), (2, 2), (4, 6), (10, 1)]) (.cons (.un (.ld none) (.un (.off 0) (.bi (.idx 11) (.v 0) (.v 2)))) (.cons (.un (.ld none) (.un (.off 1) (.bi (.idx 11) (.v 0) (.v 2)))) (.cons (.tup (.call 0 f_law11_Of) (.cons (.un (.ld (some 2)) (.un (.off 2) (.bi (.idx 11) (.v 0) (.v 2)))) .nil)) (.cons (.tup (.call 0 f_law7_Of) (.cons (.un (.ld (some 6)) (.un (.off 4) (.bi (.idx 11) (.v 0) (.v 2)))) .nil)) (.cons (.tup (.call 0 f_law13_Lits) (.cons (.un (.ld none) (.un (.off 10) (.bi (.idx 11) (.v 0) (.v 2)))) .nil)) .nil)))))) .nil))),
    .sets [(1, (.v 3))]]))
 (.st [.sets [(2, (.bi (.bin .add) (.v 2) (.c (.int .i64 1))))]])))
def e_law13_Lits : EFunc := ⟨1, 4,
 (.seq (.st [.sets [(1, (.c .nils))]])
 (.seq (.seq (.st [.sets [(2, (.c (.int .i64 0)))]])
 (.block 0 (.loop [true, true, true, false] b_law13_Lits_0)))
 (.ret [.e (.v 1)])))⟩
noncomputable def r10 : ERow := ⟨Go.Proofs.Tryz.f10, ⟨[(5, (.cons 0 0 (.cons 0 1 (.cons 0 2 (.cons 0 3 (.cons 0 4 (.cons 0 6 (.cons 0 7 (.cons 0 8 (.cons 0 9 (.cons 0 11 (.cons 0 12 (.cons 0 13 (.cons 0 14 (.cons 0 17 (.cons 0 18 (.cons 0 19 (.cons 0 20 (.cons 0 23 (.cons 0 24 (.cons 0 25 (.cons 0 26 (.cons 1 5 (.cons 1 10 (.cons 1 15 (.cons 1 21 (.cons 1 27 (.cons 2 16 (.cons 2 22 (.cons 2 28 (.cons 0 29 (.cons 2 30 (.cons 2 31 (.cons 0 32 .nil))))))))))))))))))))))))))))))))))], [(0, [true, false, false, true, true])]⟩, ⟨44, [0, 3, 4, 42], [16, 21, 26, 32, 38], []⟩, 1, e_law13_Lits⟩

/-- whelk/norm.Count [0=l, 1=out, 2=x] -/
def b_norm_Count_0 : EC :=
 (.seq (.cond (.bi (.bin .lss) (.v 5) (.v 4))
  (.skip)
  (.exit 0))
 (.seq (.block 1 (.seq (.st [.eff (some 2) none (.zbox [(.int .i64 0), (.str []), (.str []), .nils, (.int .i64 0), (.int .i64 0), (.int .i64 0), (.str []), (.str []), .nils, .nils] T_norm_Count_0),
    .eff none none (.store 11 (.v 2) (.un (.ld (some 11)) (.bi (.idx 11) (.v 3) (.v 5))))])
  (.st [.eff (some 6) none (.load none (.un (.off 10) (.v 2))),
    .sets [(1, (.bi (.bin .add) (.v 1) (.tup (.call 0 f_norm_Count) (.cons (.v 6) .nil))))]])))
 (.st [.sets [(5, (.bi (.bin .add) (.v 5) (.c (.int .i64 1))))]])))
def e_norm_Count : EFunc := ⟨1, 7,
 (.seq (.st [.sets [(1, (.un .len (.v 0)))]])
 (.seq (.seq (.st [.sets [(3, (.v 0)), (4, (.un .len (.v 0))), (5, (.c (.int .i64 0)))]])
 (.block 0 (.loop [false, true, false, true, true, true, false] b_norm_Count_0)))
 (.ret [.e (.v 1)])))⟩
noncomputable def r11 : ERow := ⟨Go.Proofs.Tryz.f11, ⟨[], [(0, [false, false, false, true, false, false, false, false, true, true, true])]⟩, ⟨21, [0, 3, 5, 8, 9, 10, 16], [13], []⟩, 1, e_norm_Count⟩

/-- whelk/whelkref12.Count [0=l, 1=n, 2=i] -/
def b_ref12_Count_0 : EC :=
 (.seq (.cond (.bi (.bin .lss) (.v 2) (.un .len (.v 0)))
  (.skip)
  (.exit 0))
 (.seq (.block 1 (.st [.sets [(1, (.bi (.bin .add) (.bi (.bin .add) (.v 1) (.c (.int .i64 1))) (.tup (.call 0 f_ref12_Count) (.cons (.un (.ld none) (.un (.off 10) (.bi (.idx 11) (.v 0) (.v 2)))) .nil))))]]))
 (.st [.sets [(2, (.bi (.bin .add) (.v 2) (.c (.int .i64 1))))]])))
def e_ref12_Count : EFunc := ⟨1, 3,
 (.seq (.st [.sets [(1, (.c (.int .i64 0)))]])
 (.seq (.seq (.st [.sets [(2, (.c (.int .i64 0)))]])
 (.block 0 (.loop [true, true, true] b_ref12_Count_0)))
 (.ret [.e (.v 1)])))⟩
noncomputable def r12 : ERow := ⟨Go.Proofs.Tryz.f12, ⟨[], [(0, [true, false, false, true, true])]⟩, ⟨21, [0, 3, 4], [17], []⟩, 1, e_ref12_Count⟩

/-- whelk/norm.Spec [0=l, 1=out, 2=x] -/
def b_norm_Spec_0 : EC :=
 (.seq (.cond (.bi (.bin .lss) (.v 5) (.v 4))
  (.skip)
  (.exit 0))
 (.seq (.block 1 (.seq (.st [.eff (some 2) none (.zbox [(.int .i64 0), (.str []), (.str []), .nils, (.int .i64 0), (.int .i64 0), (.int .i64 0), (.str []), (.str []), .nils, .nils] T_norm_Spec_0),
    .eff none none (.store 11 (.v 2) (.un (.ld (some 11)) (.bi (.idx 11) (.v 3) (.v 5))))])
  (.seq (.st [.eff (some 6) none (.load none (.un (.off 0) (.v 2)))])
  (.block 2 (.cond (.bi (.bin .eql) (.v 6) (.c (.int .i64 1)))
    (.st [.eff (some 7) none (.load none (.un (.off 1) (.un (.off 2) (.v 2)))),
      .sets [(1, (.bi (.bin .add) (.v 1) (.un .len (.v 7))))]])
    (.cond (.bi (.bin .eql) (.v 6) (.c (.int .i64 3)))
     (.st [.eff (some 8) none (.load none (.un (.off 10) (.v 2))),
       .sets [(1, (.bi (.bin .add) (.v 1) (.tup (.call 0 f_norm_Spec) (.cons (.v 8) .nil))))]])
     (.skip)))))))
 (.st [.sets [(5, (.bi (.bin .add) (.v 5) (.c (.int .i64 1))))]])))
def e_norm_Spec : EFunc := ⟨1, 9,
 (.seq (.st [.sets [(1, (.un .len (.v 0)))]])
 (.seq (.seq (.st [.sets [(3, (.v 0)), (4, (.un .len (.v 0))), (5, (.c (.int .i64 0)))]])
 (.block 0 (.loop [false, true, false, true, true, true, false, false, false] b_norm_Spec_0)))
 (.ret [.e (.v 1)])))⟩
noncomputable def r13 : ERow := ⟨Go.Proofs.Tryz.f13, ⟨[], [(0, [false, false, false, true, false, false, false, false, true, true, true])]⟩, ⟨33, [0, 3, 5, 8, 9, 10, 15, 21, 28], [13], []⟩, 1, e_norm_Spec⟩

/-- whelk/whelkref12.Spec [0=l, 1=n, 2=i] -/
def b_ref12_Spec_0 : EC :=
 (.seq (.cond (.bi (.bin .lss) (.v 2) (.un .len (.v 0)))
  (.skip)
  (.exit 0))
 (.seq (.block 1 (.st [.sets [(1, (.bi (.bin .add) (.bi (.bin .add) (.bi (.bin .add) (.v 1) (.c (.int .i64 1))) (.un .len (.un (.ld none) (.un (.off 1) (.un (.off 2) (.bi (.idx 11) (.v 0) (.v 2))))))) (.tup (.call 0 f_ref12_Spec) (.cons (.un (.ld none) (.un (.off 10) (.bi (.idx 11) (.v 0) (.v 2)))) .nil))))]]))
 (.st [.sets [(2, (.bi (.bin .add) (.v 2) (.c (.int .i64 1))))]])))
def e_ref12_Spec : EFunc := ⟨1, 3,
 (.seq (.st [.sets [(1, (.c (.int .i64 0)))]])
 (.seq (.seq (.st [.sets [(2, (.c (.int .i64 0)))]])
 (.block 0 (.loop [true, true, true] b_ref12_Spec_0)))
 (.ret [.e (.v 1)])))⟩
noncomputable def r14 : ERow := ⟨Go.Proofs.Tryz.f14, ⟨[(5, (.cons 0 0 (.cons 0 1 (.cons 0 2 (.cons 0 3 (.cons 0 4 (.cons 0 5 (.cons 0 6 (.cons 0 10 (.cons 0 11 (.cons 0 12 (.cons 0 13 (.cons 1 7 (.cons 0 8 (.cons 0 9 (.cons 1 14 (.cons 2 15 (.cons 0 16 (.cons 0 17 .nil)))))))))))))))))))], [(0, [true, false, false, true, true])]⟩, ⟨29, [0, 3, 4], [18, 25], []⟩, 1, e_ref12_Spec⟩

/-- whelk/whelklaw13.patterns [0=a, 1=b, 2=i] -/
def b_law13_patterns_0 : EC :=
 (.seq (.cond (.bi (.bin .lss) (.v 2) (.un .len (.v 0)))
  (.skip)
  (.exit 0))
 (.seq (.block 1 (.cond (.un .not (.tup (.call 0 f_ref11_Same) (.cons (.tup (.call 0 f_law11_Of) (.cons (.un (.ld (some 2)) (.bi (.idx 2) (.v 0) (.v 2))) .nil)) (.cons (.un (.ld (some 2)) (.bi (.idx 2) (.v 1) (.v 2))) .nil))))
   (.ret [.e (.c (.bool false))])
   (.skip)))
 (.st [.sets [(2, (.bi (.bin .add) (.v 2) (.c (.int .i64 1))))]])))
def e_law13_patterns : EFunc := ⟨2, 3,
 (.seq (.cond (.bi (.bin .neq) (.un .len (.v 0)) (.un .len (.v 1)))
  (.ret [.e (.c (.bool false))])
  (.skip))
 (.seq (.seq (.st [.sets [(2, (.c (.int .i64 0)))]])
 (.block 0 (.loop [true, true, true] b_law13_patterns_0)))
 (.ret [.e (.c (.bool true))])))⟩
noncomputable def r15 : ERow := ⟨Go.Proofs.Tryz.f15, ⟨[(6, (.cons 0 0 (.cons 0 1 (.cons 0 2 (.cons 0 5 (.cons 0 6 (.cons 0 7 (.cons 1 3 (.cons 1 8 (.cons 2 4 (.cons 2 9 (.cons 0 10 .nil))))))))))))], [(0, [true, true, false, false, false, true])]⟩, ⟨28, [0, 1, 5], [20, 25], []⟩, 2, e_law13_patterns⟩

/-- whelk/norm.Patterns [0=l, 1=out, 2=x] -/
def b_norm_Patterns_0 : EC :=
 (.seq (.cond (.bi (.bin .lss) (.v 5) (.v 4))
  (.skip)
  (.exit 0))
 (.seq (.block 1 (.seq (.st [.eff (some 2) none (.zbox [(.int .i64 0), (.str []), (.str []), .nils, (.int .i64 0), (.int .i64 0), (.int .i64 0), (.str []), (.str []), .nils, .nils] T_norm_Patterns_1),
    .eff none none (.store 11 (.v 2) (.un (.ld (some 11)) (.bi (.idx 11) (.v 3) (.v 5))))])
  (.seq (.st [.eff (some 6) none (.load none (.un (.off 0) (.v 2)))])
  (.block 2 (.cond (.bi (.bin .eql) (.v 6) (.c (.int .i64 1)))
    (.seq (.st [.eff (some 7) none (.load none (.un (.off 1) (.un (.off 2) (.v 2)))),
      .eff (some 8) none (.callo f_slices_Clone_pat_Test_pat_Test (.cons (.v 7) .nil)),
      .eff none none (.store 1 (.un (.off 1) (.un (.off 2) (.v 2))) (.tup (.call 1 f_slices_Clip_pat_Test_pat_Test) (.cons (.v 8) .nil)))])
    (.st [.eff (some 9) none (.load (some 2) (.un (.off 2) (.v 2))),
      .eff (some 10) none (.append 2 40 T_norm_Patterns_0 (.v 1) (.tup (.bslice 2 [(.str []), .nils] 1 [0]) (.cons (.v 9) .nil))),
      .sets [(1, (.v 10))]]))
    (.cond (.bi (.bin .eql) (.v 6) (.c (.int .i64 3)))
     (.st [.eff (some 11) none (.load none (.un (.off 10) (.v 2))),
       .eff (some 12) none (.append 2 40 T_norm_Patterns_0 (.v 1) (.tup (.call 0 f_norm_Patterns) (.cons (.v 11) .nil))),
       .sets [(1, (.v 12))]])
     (.skip)))))))
 (.st [.sets [(5, (.bi (.bin .add) (.v 5) (.c (.int .i64 1))))]])))
def e_norm_Patterns : EFunc := ⟨1, 13,
 (.seq (.st [.sets [(1, (.c .nils))]])
 (.seq (.seq (.st [.sets [(3, (.v 0)), (4, (.un .len (.v 0))), (5, (.c (.int .i64 0)))]])
 (.block 0 (.loop [false, true, false, true, true, true, false, false, false, false, false, false, false] b_norm_Patterns_0)))
 (.ret [.e (.tup (.call 1 f_slices_Clip_pat_Pattern_pat_Pattern) (.cons (.v 1) .nil))])))⟩
noncomputable def r16 : ERow := ⟨Go.Proofs.Tryz.f16, ⟨[], [(0, [false, false, false, true, false, false, true, true, true])]⟩, ⟨38, [0, 3, 5, 6, 7, 8, 13, 18, 19, 25, 27, 32, 34], [11], []⟩, 1, e_norm_Patterns⟩

/-- whelk/whelkref12.Patterns [0=l, 1=out, 2=i] -/
def b_ref12_Patterns_0 : EC :=
 (.seq (.cond (.bi (.bin .lss) (.v 2) (.un .len (.v 0)))
  (.skip)
  (.exit 0))
 (.seq (.block 1 (.seq (.cond (.bi (.bin .eql) (.un (.ld none) (.un (.off 0) (.bi (.idx 11) (.v 0) (.v 2)))) (.c (.int .i64 1)))
   (.st [.eff (some 3) none (.append 2 40 T_ref12_Patterns_0 (.v 1) (.tup (.bslice 2 [(.str []), .nils] 1 [0]) (.cons (.un (.ld (some 2)) (.un (.off 2) (.bi (.idx 11) (.v 0) (.v 2)))) .nil))),
     .sets [(1, (.v 3))]])
   (.skip))
  (.st [.eff (some 4) none (.append 2 40 T_ref12_Patterns_0 (.v 1) (.tup (.call 0 f_ref12_Patterns) (.cons (.un (.ld none) (.un (.off 10) (.bi (.idx 11) (.v 0) (.v 2)))) .nil))),
    .sets [(1, (.v 4))]])))
 (.st [.sets [(2, (.bi (.bin .add) (.v 2) (.c (.int .i64 1))))]])))
def e_ref12_Patterns : EFunc := ⟨1, 5,
 (.seq (.st [.sets [(1, (.c .nils))]])
 (.seq (.seq (.st [.sets [(2, (.c (.int .i64 0)))]])
 (.block 0 (.loop [true, true, true, false, false] b_ref12_Patterns_0)))
 (.ret [.e (.v 1)])))⟩
noncomputable def r17 : ERow := ⟨Go.Proofs.Tryz.f17, ⟨[], [(0, [true, false, false, true, true])]⟩, ⟨34, [0, 3, 4, 24, 32], [15, 22, 30], []⟩, 1, e_ref12_Patterns⟩

/-- whelk/norm.Same [0=a, 1=b, 2=a, 3=b] -/
def e_norm_Same : EFunc := ⟨2, 9,
 (.seq (.st [.eff (some 2) none (.box 2 T_norm_Same_0 (.v 0)),
   .eff (some 3) none (.box 2 T_norm_Same_0 (.v 1))])
 (.seq (.st [.eff (some 4) none (.load none (.un (.off 1) (.v 2))),
   .eff (some 5) none (.load none (.un (.off 1) (.v 3))),
   .eff (some 6) (some ((.bi (.bin .eql) (.v 4) (.v 5)), true)) (.load none (.un (.off 0) (.v 2))),
   .eff (some 7) (some ((.bi (.bin .eql) (.v 4) (.v 5)), true)) (.load none (.un (.off 0) (.v 3))),
   .eff (some 8) (some ((.bi (.bin .eql) (.v 4) (.v 5)), true)) (.calls [false, false, true, true, true, true, true, true, true, true, true, true, true, true, true, true] f_slices_EqualFunc_norm_Lit_norm_Lit_norm_Lit_norm_Lit (.cons (.v 6) (.cons (.v 7) (.cons (.c (.func f_norm_same [])) .nil))))])
 (.ret [.e (.pick (.bi (.bin .eql) (.v 4) (.v 5)) (.v 8) (.c (.bool false)))])))⟩
noncomputable def r18 : ERow := ⟨Go.Proofs.Tryz.f18, ⟨[], []⟩, ⟨17, [0, 1, 2, 3, 6, 8, 12, 14, 15], [], []⟩, 2, e_norm_Same⟩

/-- whelk/whelklaw13.ToAlt [0=a, 1=a] -/
def e_law13_ToAlt : EFunc := ⟨1, 5,
 (.seq (.st [.eff (some 1) none (.box 2 T_law13_ToAlt_0 (.v 0)),
   .eff (some 2) none (.zbox [.nils, (.int .i64 0)] T_law13_ToAlt_1)])
 (.seq (.st [.eff (some 3) none (.load none (.un (.off 0) (.v 1))),
   .eff (some 4) none (.load none (.un (.off 1) (.v 1))),
   .eff none none (.store 2 (.v 2) (.tup (.build [.nils, (.int .i64 0)] [(0, 1), (1, 1)]) (.cons (.tup (.call 0 f_law13_ToLits) (.cons (.v 3) .nil)) (.cons (.v 4) .nil))))])
 (.ret [.cell (.v 2) (some 2)])))⟩
noncomputable def r19 : ERow := ⟨Go.Proofs.Tryz.f19, ⟨[(1, (.cons 0 0 (.cons 0 3 (.cons 1 1 (.cons 1 4 (.cons 2 2 (.cons 0 5 (.cons 3 6 .nil))))))))], []⟩, ⟨9, [0, 1, 2, 4, 7], [], []⟩, 1, e_law13_ToAlt⟩

/-- whelk/whelkref5.Read [0=b, 2=l, 3=at, 4=r, 5=out, 6=x, 7=w] -/
def b_ref5_Read_0 : EC :=
 (.seq (.seq (.st [.eff (some 10) none (.load none (.un (.off 1) (.un .nilchk (.v 4))))])
 (.cond (.bi (.bin .lss) (.v 10) (.un .len (.v 2)))
  (.skip)
  (.exit 0)))
 (.block 1 (.seq (.st [.eff (some 11) none (.calls [true, true, true, true, true, true, true, true, true, true, true, true, true, true, true, true] f_ref5_reader_node (.cons (.v 4) (.cons (.c (.int .i64 0)) .nil))),
    .eff (some 6) none (.zbox [(.int .i64 0), (.int .i64 0), (.int .i64 0), (.str []), .nils] T_ref5_Read_0),
    .eff (some 7) none (.zbox [.nils, (.int .i64 0)] T_ref5_Read_1),
    .eff none none (.store 5 (.v 6) (.un (.ext 0) (.v 11))),
    .eff none none (.store 2 (.v 7) (.un (.ext 1) (.v 11)))])
  (.seq (.seq (.st [.eff (some 12) none (.load none (.un (.off 1) (.v 7)))])
  (.cond (.bi (.bin .neq) (.v 12) (.c (.int .i64 0)))
   (.seq (.st [.eff (some 13) none (.load (some 2) (.v 7)),
     .eff none none (.store 2 (.v 1) (.v 13))])
   (.ret [.e (.c .nils), .cell (.v 1) (some 2)]))
   (.skip)))
  (.st [.eff (some 14) none (.load (some 5) (.v 6)),
    .eff (some 15) none (.append 5 64 T_ref5_Read_0 (.v 5) (.tup (.bslice 5 [(.int .i64 0), (.int .i64 0), (.int .i64 0), (.str []), .nils] 1 [0]) (.cons (.v 14) .nil))),
    .sets [(5, (.v 15))]])))))
def e_ref5_Read : EFunc := ⟨1, 16,
 (.seq (.st [.eff (some 1) none (.zbox [.nils, (.int .i64 0)] T_ref5_Read_1)])
 (.seq (.st [.sets [(8, (.tup (.call 0 f_ref4_Scan) (.cons (.v 0) .nil)))],
   .sets [(2, (.un (.ext 0) (.v 8))), (3, (.un (.ext 1) (.v 8)))]])
 (.seq (.cond (.bi (.bin .neq) (.un (.ext 2) (.v 8)) (.c (.int .i64 0)))
  (.seq (.st [.eff none none (.store 2 (.v 1) (.tup (.call 0 f_ref5_At) (.cons (.c (.str [99, 104, 97, 114])) (.cons (.v 3) (.cons (.un (.ext 2) (.v 8)) .nil)))))])
  (.ret [.e (.c .nils), .cell (.v 1) (some 2)]))
  (.skip))
 (.seq (.st [.eff (some 9) none (.box 3 T_ref5_Read_2 (.tup (.build [.nils, (.int .i64 0), (.int .i64 0)] [(0, 1)]) (.cons (.v 2) .nil))),
   .sets [(4, (.v 9))]])
 (.seq (.st [.sets [(5, (.c .nils))]])
 (.seq (.block 0 (.loop [false, true, true, false, true, true, false, false, false, false, false, false, false, false, false, false] b_ref5_Read_0))
 (.seq (.st [.eff none none (.store 2 (.v 1) (.tup (.build [.nils, (.int .i64 0)] []) .nil))])
 (.ret [.e (.v 5), .cell (.v 1) (some 2)]))))))))⟩
noncomputable def r20 : ERow := ⟨Go.Proofs.Tryz.f20, ⟨[(9, (.cons 0 1 (.cons 1 0 (.cons 3 2 .nil))))], [(0, [false, false, false, true, true, false, false, true, true])]⟩, ⟨47, [0, 3, 4, 5, 7, 8, 9, 10, 11, 24, 28, 34, 38, 40, 42, 44], [], [11]⟩, 1, e_ref5_Read⟩

/-- whelk/whelkref12.Parse [0=l, 1=t, 2=f, 4=out, 5=i, 6=n, 7=p, 8=w, 9=c, 10=w] -/
def b_ref12_Parse_0 : EC :=
 (.seq (.cond (.bi (.bin .lss) (.v 5) (.un .len (.v 0)))
  (.skip)
  (.exit 0))
 (.seq (.block 1 (.seq (.st [.eff (some 6) none (.zbox [(.int .i64 0), (.int .i64 0), (.int .i64 0), (.str []), .nils] T_ref12_Parse_1),
    .eff none none (.store 5 (.v 6) (.un (.ld (some 5)) (.bi (.idx 5) (.v 0) (.v 5))))])
  (.seq (.seq (.st [.eff (some 11) none (.load none (.un (.off 0) (.v 6)))])
  (.cond (.bi (.bin .eql) (.v 11) (.c (.int .i64 6)))
   (.seq (.cond (.pick (.pick (.bi (.bin .geq) (.bi (.bin .add) (.v 5) (.c (.int .i64 2))) (.un .len (.v 0))) (.c (.bool true)) (.un .not (.tup (.call 0 f_ref5_Same) (.cons (.un (.ld (some 5)) (.bi (.idx 5) (.v 0) (.bi (.bin .add) (.v 5) (.c (.int .i64 1))))) (.cons (.tup (.call 0 f_ref5_Sym) (.cons (.c (.str [60, 45])) .nil)) .nil))))) (.c (.bool true)) (.bi (.bin .neq) (.un (.ld none) (.un (.off 0) (.bi (.idx 5) (.v 0) (.bi (.bin .add) (.v 5) (.c (.int .i64 2)))))) (.c (.int .i64 0))))
    (.seq (.st [.eff (some 12) none (.load none (.un (.off 1) (.v 6))),
      .eff none none (.store 2 (.v 3) (.tup (.call 0 f_ref5_At) (.cons (.c (.str [99, 104, 97, 114])) (.cons (.v 12) (.cons (.c (.int .i64 2)) .nil)))))])
    (.ret [.e (.c .nils), .cell (.v 3) (some 2)]))
    (.skip))
   (.seq (.st [.sets [(13, (.tup (.call 0 f_ref11_Parse) (.cons (.un (.ld (some 5)) (.bi (.idx 5) (.v 0) (.bi (.bin .add) (.v 5) (.c (.int .i64 2))))) (.cons (.v 1) .nil))))],
     .eff (some 7) none (.zbox [(.str []), .nils] T_ref12_Parse_2),
     .eff (some 8) none (.zbox [.nils, (.int .i64 0)] T_ref12_Parse_3),
     .eff none none (.store 2 (.v 7) (.un (.ext 0) (.v 13))),
     .eff none none (.store 2 (.v 8) (.un (.ext 1) (.v 13)))])
   (.seq (.seq (.st [.eff (some 14) none (.load none (.un (.off 1) (.v 8)))])
   (.cond (.bi (.bin .neq) (.v 14) (.c (.int .i64 0)))
    (.seq (.st [.eff (some 15) none (.load (some 2) (.v 8)),
      .eff none none (.store 2 (.v 3) (.v 15))])
    (.ret [.e (.c .nils), .cell (.v 3) (some 2)]))
    (.skip)))
   (.seq (.st [.eff (some 16) none (.load none (.un (.off 3) (.v 6))),
     .eff (some 17) none (.load (some 2) (.v 7)),
     .eff (some 18) none (.append 11 168 T_ref12_Parse_0 (.v 4) (.tup (.bslice 11 [(.int .i64 0), (.str []), (.str []), .nils, (.int .i64 0), (.int .i64 0), (.int .i64 0), (.str []), (.str []), .nils, .nils] 1 [0]) (.cons (.tup (.build [(.int .i64 0), (.str []), (.str []), .nils, (.int .i64 0), (.int .i64 0), (.int .i64 0), (.str []), (.str []), .nils, .nils] [(0, 1), (1, 1), (2, 2)]) (.cons (.c (.int .i64 1)) (.cons (.v 16) (.cons (.v 17) .nil)))) .nil))),
     .sets [(4, (.v 18))]])
   (.seq (.st [.sets [(5, (.bi (.bin .add) (.v 5) (.c (.int .i64 2))))]])
   (.exit 1))))))
   (.skip)))
  (.seq (.st [.eff (some 20) none (.load (some 5) (.v 6)),
    .sets [(19, (.tup (.call 0 f_ref12_one) (.cons (.v 20) (.cons (.v 1) (.cons (.v 2) .nil)))))],
    .eff (some 9) none (.zbox [(.int .i64 0), (.str []), (.str []), .nils, (.int .i64 0), (.int .i64 0), (.int .i64 0), (.str []), (.str []), .nils, .nils] T_ref12_Parse_0),
    .eff (some 10) none (.zbox [.nils, (.int .i64 0)] T_ref12_Parse_3),
    .eff none none (.store 11 (.v 9) (.un (.ext 0) (.v 19))),
    .eff none none (.store 2 (.v 10) (.un (.ext 1) (.v 19)))])
  (.seq (.seq (.st [.eff (some 21) none (.load none (.un (.off 1) (.v 10)))])
  (.cond (.bi (.bin .neq) (.v 21) (.c (.int .i64 0)))
   (.seq (.st [.eff (some 22) none (.load (some 2) (.v 10)),
     .eff none none (.store 2 (.v 3) (.v 22))])
   (.ret [.e (.c .nils), .cell (.v 3) (some 2)]))
   (.skip)))
  (.st [.eff (some 23) none (.load (some 11) (.v 9)),
    .eff (some 24) none (.append 11 168 T_ref12_Parse_0 (.v 4) (.tup (.bslice 11 [(.int .i64 0), (.str []), (.str []), .nils, (.int .i64 0), (.int .i64 0), (.int .i64 0), (.str []), (.str []), .nils, .nils] 1 [0]) (.cons (.v 23) .nil))),
    .sets [(4, (.v 24))]]))))))
 (.st [.sets [(5, (.bi (.bin .add) (.v 5) (.c (.int .i64 1))))]])))
def e_ref12_Parse : EFunc := ⟨3, 25,
 (.seq (.st [.eff (some 3) none (.zbox [.nils, (.int .i64 0)] T_ref12_Parse_3)])
 (.seq (.st [.sets [(4, (.c .nils))]])
 (.seq (.seq (.st [.sets [(5, (.c (.int .i64 0)))]])
 (.block 0 (.loop [true, true, true, true, true, true, false, false, false, false, false, false, false, false, false, false, false, false, false, false, false, false, false, false, false] b_ref12_Parse_0)))
 (.seq (.st [.eff none none (.store 2 (.v 3) (.tup (.build [.nils, (.int .i64 0)] []) .nil))])
 (.ret [.e (.v 4), .cell (.v 3) (some 2)])))))⟩
noncomputable def r21 : ERow := ⟨Go.Proofs.Tryz.f21, ⟨[(7, (.cons 0 0 (.cons 0 1 (.cons 0 2 (.cons 0 3 (.cons 0 4 (.cons 0 5 (.cons 0 6 (.cons 0 7 (.cons 0 8 (.cons 0 9 (.cons 1 10 (.cons 2 11 (.cons 2 12 (.cons 0 13 (.cons 0 14 (.cons 0 15 (.cons 0 16 (.cons 0 17 (.cons 0 18 (.cons 0 19 (.cons 0 20 (.cons 1 21 (.cons 0 22 (.cons 0 23 .nil))))))))))))))))))))))))), (11, (.cons 0 1 (.cons 1 0 (.cons 3 2 .nil)))), (16, (.cons 0 1 (.cons 1 0 (.cons 3 2 .nil))))], [(0, [true, true, true, false, false, false, false, true, true, true])]⟩, ⟨95, [0, 1, 2, 7, 8, 9, 10, 11, 12, 13, 14, 26, 53, 55, 66, 68, 71, 72, 75, 78, 79, 86, 88, 90, 92], [24, 38, 49, 60], [55, 78]⟩, 3, e_ref12_Parse⟩

/-- whelk/whelklaw11.Two [0=nil1] -/
def e_law11_Two : EFunc := ⟨0, 4,
 (.seq (.st [.eff (some 0) none (.zbox [(.int .i64 0), (.int .i64 0), (.str [])] T_law11_Two_0),
   .eff none none (.store 3 (.v 0) (.tup (.call 0 f_ref3_Sym) (.cons (.c (.str [110, 105, 108])) .nil)))])
 (.seq (.st [.eff (some 1) none (.load (some 3) (.v 0)),
   .eff (some 2) none (.load (some 3) (.v 0)),
   .eff (some 3) none (.load (some 3) (.v 0))])
 (.ret [.e (.tup (.bslice 2 [(.str []), .nils] 2 [0, 1]) (.cons (.tup (.build [(.str []), .nils] [(0, 1), (1, 1)]) (.cons (.c (.str [112])) (.cons (.tup (.bslice 4 [(.str []), (.int .i64 0), (.int .i64 0), (.str [])] 2 [0, 1]) (.cons (.tup (.build [(.str []), (.int .i64 0), (.int .i64 0), (.str [])] [(0, 1), (1, 3)]) (.cons (.c (.str [97])) (.cons (.v 1) .nil))) (.cons (.tup (.build [(.str []), (.int .i64 0), (.int .i64 0), (.str [])] [(0, 1), (1, 3)]) (.cons (.c (.str [98])) (.cons (.v 2) .nil))) .nil))) .nil))) (.cons (.tup (.build [(.str []), .nils] [(0, 1), (1, 1)]) (.cons (.c (.str [113])) (.cons (.tup (.bslice 4 [(.str []), (.int .i64 0), (.int .i64 0), (.str [])] 1 [0]) (.cons (.tup (.build [(.str []), (.int .i64 0), (.int .i64 0), (.str [])] [(0, 1), (1, 3)]) (.cons (.c (.str [97])) (.cons (.v 3) .nil))) .nil)) .nil))) .nil)))])))⟩
noncomputable def r22 : ERow := ⟨Go.Proofs.Tryz.f22, ⟨[], []⟩, ⟨14, [1, 3, 5, 9], [], []⟩, 0, e_law11_Two⟩

/-- whelk/norm.logical [0=l] -/
def e_norm_logical : EFunc := ⟨1, 2,
 (.seq (.st [.eff (some 1) none (.calls [false, true, true, true, true, true, true, true, true, true, true, true, true, true, true, true] f_slices_ContainsFunc_cond_CE_cond_CE (.cons (.v 0) (.cons (.c (.func f_norm_logical_1 [])) .nil)))])
 (.ret [.e (.v 1)]))⟩
noncomputable def r23 : ERow := ⟨Go.Proofs.Tryz.f23, ⟨[], []⟩, ⟨5, [0, 4], [], []⟩, 1, e_norm_logical⟩

/-- whelk/norm.and [0=l, 1=out, 2=c, 3=x] -/
def b_norm_and_0 : EC :=
 (.seq (.cond (.bi (.bin .lss) (.v 6) (.v 5))
  (.skip)
  (.exit 0))
 (.seq (.block 1 (.seq (.st [.eff (some 2) none (.zbox [(.int .i64 0), (.str []), (.str []), .nils, (.int .i64 0), (.int .i64 0), (.int .i64 0), (.str []), (.str []), .nils, .nils] T_norm_and_0),
    .eff none none (.store 11 (.v 2) (.un (.ld (some 11)) (.bi (.idx 11) (.v 4) (.v 6))))])
  (.seq (.st [.eff (some 8) none (.load (some 11) (.v 2)),
    .sets [(7, (.tup (.call 0 f_norm_one) (.cons (.v 8) .nil)))],
    .sets [(3, (.un (.ext 0) (.v 7)))]])
  (.seq (.cond (.bi (.bin .neq) (.un (.ext 1) (.v 7)) (.c (.int .i64 0)))
   (.ret [.e (.c .nils), .e (.un (.ext 1) (.v 7))])
   (.skip))
  (.seq (.st [.sets [(9, (.tup (.call 0 f_norm_join) (.cons (.v 1) (.cons (.v 3) .nil))))],
    .sets [(1, (.un (.ext 0) (.v 9)))]])
  (.cond (.bi (.bin .neq) (.un (.ext 1) (.v 9)) (.c (.int .i64 0)))
   (.ret [.e (.c .nils), .e (.un (.ext 1) (.v 9))])
   (.skip)))))))
 (.st [.sets [(6, (.bi (.bin .add) (.v 6) (.c (.int .i64 1))))]])))
def e_norm_and : EFunc := ⟨1, 10,
 (.seq (.st [.sets [(1, (.tup (.bslice 1 [.nils] 1 [0]) (.cons (.c .nils) .nil)))]])
 (.seq (.seq (.st [.sets [(4, (.v 0)), (5, (.un .len (.v 0))), (6, (.c (.int .i64 0)))]])
 (.block 0 (.loop [false, true, false, false, true, true, true, false, false, false] b_norm_and_0)))
 (.ret [.e (.v 1), .e (.c (.int .i64 0))])))⟩
noncomputable def r24 : ERow := ⟨Go.Proofs.Tryz.f24, ⟨[], [(0, [false, false, false, false, true, false, false, false, false, false, true, true, true])]⟩, ⟨35, [0, 4, 6, 7, 10, 11, 12, 16, 17, 24], [15], [16, 24]⟩, 1, e_norm_and⟩

/-- whelk/norm.join [0=a, 1=b, 2=out, 3=x] -/
def b_norm_join_0 : EC :=
 (.seq (.cond (.bi (.bin .lss) (.v 9) (.v 8))
  (.skip)
  (.exit 2))
 (.seq (.block 3 (.seq (.st [.eff (some 10) none (.callo f_slices_Concat_norm_row_norm_Lit (.cons (.tup (.bslice 1 [.nils] 2 [0, 1]) (.cons (.v 3) (.cons (.un (.ld none) (.bi (.idx 1) (.v 7) (.v 9))) .nil))) .nil)),
    .eff (some 11) none (.calls [true, true, true, true, true, true, true, true, true, true, true, true, true, true, true, true] f_norm_put (.cons (.v 2) (.cons (.v 10) .nil))),
    .sets [(2, (.un (.ext 0) (.v 11)))]])
  (.cond (.bi (.bin .neq) (.un (.ext 1) (.v 11)) (.c (.int .i64 0)))
   (.ret [.e (.c .nils), .e (.un (.ext 1) (.v 11))])
   (.skip))))
 (.st [.sets [(9, (.bi (.bin .add) (.v 9) (.c (.int .i64 1))))]])))
def b_norm_join_1 : EC :=
 (.seq (.cond (.bi (.bin .lss) (.v 6) (.v 5))
  (.skip)
  (.exit 0))
 (.seq (.block 1 (.seq (.st [.sets [(3, (.un (.ld none) (.bi (.idx 1) (.v 4) (.v 6))))]])
  (.seq (.st [.sets [(7, (.v 1)), (8, (.un .len (.v 1))), (9, (.c (.int .i64 0)))]])
  (.block 2 (.loop [false, true, true, true, true, true, true, true, true, true, false, false] b_norm_join_0)))))
 (.st [.sets [(6, (.bi (.bin .add) (.v 6) (.c (.int .i64 1))))]])))
def e_norm_join : EFunc := ⟨2, 12,
 (.seq (.st [.sets [(2, (.c .nils))]])
 (.seq (.seq (.st [.sets [(4, (.v 0)), (5, (.un .len (.v 0))), (6, (.c (.int .i64 0)))]])
 (.block 0 (.loop [false, true, true, false, true, true, true, false, false, false, false, false] b_norm_join_1)))
 (.ret [.e (.v 2), .e (.c (.int .i64 0))])))⟩
noncomputable def r25 : ERow := ⟨Go.Proofs.Tryz.f25, ⟨[], [(0, [false, true, false, false, false, false, true, false, false, false, false, false, true, true, true]), (2, [false, true, false, false, false, false, true, false, false, true, false, false, true, true, true, false, false, false, true, true, true])]⟩, ⟨39, [0, 1, 6, 9, 12, 13, 14, 18, 19, 20, 29, 30], [17, 23], []⟩, 2, e_norm_join⟩

/-- whelk/norm.apart [0=l, 1=out, 2=x] -/
def b_norm_apart_0 : EC :=
 (.seq (.cond (.bi (.bin .lss) (.v 5) (.v 4))
  (.skip)
  (.exit 0))
 (.seq (.block 1 (.seq (.st [.eff (some 2) none (.zbox [(.int .i64 0), (.str []), (.str []), .nils, (.int .i64 0), (.int .i64 0), (.int .i64 0), (.str []), (.str []), .nils, .nils] T_norm_apart_0),
    .eff none none (.store 11 (.v 2) (.un (.ld (some 11)) (.bi (.idx 11) (.v 3) (.v 5))))])
  (.seq (.st [.eff (some 6) none (.load none (.un (.off 1) (.un (.off 2) (.v 2)))),
    .eff (some 7) none (.callo f_slices_Clone_pat_Test_pat_Test (.cons (.v 6) .nil)),
    .eff none none (.store 1 (.un (.off 1) (.un (.off 2) (.v 2))) (.tup (.call 1 f_slices_Clip_pat_Test_pat_Test) (.cons (.v 7) .nil)))])
  (.seq (.st [.eff (some 8) none (.load (some 6) (.un (.off 4) (.v 2))),
    .eff none none (.store 6 (.un (.off 4) (.v 2)) (.tup (.call 0 f_norm_clone) (.cons (.v 8) .nil)))])
  (.seq (.st [.eff (some 9) none (.load none (.un (.off 10) (.v 2))),
    .eff none none (.store 1 (.un (.off 10) (.v 2)) (.tup (.call 0 f_norm_apart) (.cons (.v 9) .nil)))])
  (.st [.eff (some 10) none (.load (some 11) (.v 2)),
    .eff (some 11) none (.append 11 168 T_norm_apart_0 (.v 1) (.tup (.bslice 11 [(.int .i64 0), (.str []), (.str []), .nils, (.int .i64 0), (.int .i64 0), (.int .i64 0), (.str []), (.str []), .nils, .nils] 1 [0]) (.cons (.v 10) .nil))),
    .sets [(1, (.v 11))]]))))))
 (.st [.sets [(5, (.bi (.bin .add) (.v 5) (.c (.int .i64 1))))]])))
def e_norm_apart : EFunc := ⟨1, 12,
 (.seq (.st [.sets [(1, (.c .nils))]])
 (.seq (.seq (.st [.sets [(3, (.v 0)), (4, (.un .len (.v 0))), (5, (.c (.int .i64 0)))]])
 (.block 0 (.loop [false, true, false, true, true, true, false, false, false, false, false, false] b_norm_apart_0)))
 (.ret [.e (.tup (.call 1 f_slices_Clip_norm_Lit_norm_Lit) (.cons (.v 1) .nil))])))⟩
noncomputable def r26 : ERow := ⟨Go.Proofs.Tryz.f26, ⟨[], [(0, [false, false, false, true, false, false, true, true, true])]⟩, ⟨34, [0, 3, 5, 6, 7, 8, 14, 15, 20, 24, 28, 30], [11], []⟩, 1, e_norm_apart⟩

/-- whelk/whelklaw11.To [0=p, 1=p, 3=x, 4=i, 5=t] -/
def b_law11_To_0 : EC :=
 (.seq (.seq (.st [.eff (some 7) none (.load none (.un (.off 1) (.v 1)))])
 (.cond (.bi (.bin .lss) (.v 4) (.un .len (.v 7)))
  (.skip)
  (.exit 0)))
 (.seq (.block 1 (.seq (.st [.eff (some 8) none (.load none (.un (.off 1) (.v 1))),
    .eff (some 5) none (.zbox [(.int .i64 0), (.bool false), (.str []), (.int .i64 0), (.int .i64 0), (.str [])] T_law11_To_1),
    .eff none none (.store 6 (.v 5) (.un (.ld (some 6)) (.bi (.idx 6) (.v 8) (.v 4))))])
  (.st [.eff (some 9) none (.load none (.un (.off 1) (.v 3))),
    .eff (some 10) none (.load none (.un (.off 0) (.v 5))),
    .eff (some 11) none (.load none (.un (.off 1) (.v 5))),
    .eff (some 12) none (.load none (.un (.off 2) (.v 5))),
    .eff (some 13) none (.load (some 3) (.un (.off 3) (.v 5))),
    .eff (some 14) none (.append 6 64 T_law11_To_0 (.v 9) (.tup (.bslice 6 [(.int .i64 0), (.bool false), (.str []), (.int .i64 0), (.int .i64 0), (.str [])] 1 [0]) (.cons (.tup (.build [(.int .i64 0), (.bool false), (.str []), (.int .i64 0), (.int .i64 0), (.str [])] [(0, 1), (1, 1), (2, 1), (3, 3)]) (.cons (.v 10) (.cons (.v 11) (.cons (.v 12) (.cons (.v 13) .nil))))) .nil))),
    .eff none none (.store 1 (.un (.off 1) (.v 3)) (.v 14))])))
 (.st [.sets [(4, (.bi (.bin .add) (.v 4) (.c (.int .i64 1))))]])))
def e_law11_To : EFunc := ⟨1, 16,
 (.seq (.st [.eff (some 1) none (.box 2 T_law11_To_2 (.v 0)),
   .eff (some 2) none (.zbox [(.str []), .nils] T_law11_To_3)])
 (.seq (.st [.eff (some 6) none (.load none (.un (.off 0) (.v 1))),
   .eff (some 3) none (.zbox [(.str []), .nils] T_law11_To_3),
   .eff none none (.store 2 (.v 3) (.tup (.build [(.str []), .nils] [(0, 1)]) (.cons (.v 6) .nil)))])
 (.seq (.seq (.st [.sets [(4, (.c (.int .i64 0)))]])
 (.block 0 (.loop [false, true, true, true, true, false, false, false, false, false, false, false, false, false, false, false] b_law11_To_0)))
 (.seq (.st [.eff (some 15) none (.load (some 2) (.v 3)),
   .eff none none (.store 2 (.v 2) (.v 15))])
 (.ret [.cell (.v 2) (some 2)])))))⟩
noncomputable def r27 : ERow := ⟨Go.Proofs.Tryz.f27, ⟨[], [(0, [false, true, true, true, true])]⟩, ⟨36, [0, 1, 2, 3, 4, 5, 7, 11, 17, 22, 24, 26, 28, 30, 33, 35], [20], []⟩, 1, e_law11_To⟩

/-- whelk/whelklaw7.To [0=e, 1=e, 3=x, 4=i] -/
def b_law7_To_0 : EC :=
 (.seq (.seq (.st [.eff (some 8) none (.load none (.un (.off 5) (.v 1)))])
 (.cond (.bi (.bin .lss) (.v 4) (.un .len (.v 8)))
  (.skip)
  (.exit 0)))
 (.seq (.block 1 (.st [.eff (some 9) none (.load none (.un (.off 5) (.v 3))),
    .eff (some 10) none (.load none (.un (.off 5) (.v 1))),
    .eff (some 11) none (.append 6 80 T_law7_To_0 (.v 9) (.tup (.bslice 6 [(.int .i64 0), (.int .i64 0), (.int .i64 0), (.str []), (.str []), .nils] 1 [0]) (.cons (.tup (.call 0 f_law7_To) (.cons (.un (.ld (some 6)) (.bi (.idx 6) (.v 10) (.v 4))) .nil)) .nil))),
    .eff none none (.store 1 (.un (.off 5) (.v 3)) (.v 11))]))
 (.st [.sets [(4, (.bi (.bin .add) (.v 4) (.c (.int .i64 1))))]])))
def e_law7_To : EFunc := ⟨1, 13,
 (.seq (.st [.eff (some 1) none (.box 6 T_law7_To_1 (.v 0)),
   .eff (some 2) none (.zbox [(.int .i64 0), (.int .i64 0), (.int .i64 0), (.str []), (.str []), .nils] T_law7_To_0)])
 (.seq (.st [.eff (some 5) none (.load none (.un (.off 0) (.v 1))),
   .eff (some 6) none (.load (some 3) (.un (.off 1) (.v 1))),
   .eff (some 7) none (.load none (.un (.off 4) (.v 1))),
   .eff (some 3) none (.zbox [(.int .i64 0), (.int .i64 0), (.int .i64 0), (.str []), (.str []), .nils] T_law7_To_0),
   .eff none none (.store 6 (.v 3) (.tup (.build [(.int .i64 0), (.int .i64 0), (.int .i64 0), (.str []), (.str []), .nils] [(0, 1), (1, 3), (4, 1)]) (.cons (.v 5) (.cons (.v 6) (.cons (.v 7) .nil)))))])
 (.seq (.seq (.st [.sets [(4, (.c (.int .i64 0)))]])
 (.block 0 (.loop [false, true, true, true, true, false, false, false, false, false, false, false, false] b_law7_To_0)))
 (.seq (.st [.eff (some 12) none (.load (some 6) (.v 3)),
   .eff none none (.store 6 (.v 2) (.v 12))])
 (.ret [.cell (.v 2) (some 6)])))))⟩
noncomputable def r28 : ERow := ⟨Go.Proofs.Tryz.f28, ⟨[(5, (.cons 0 0 (.cons 0 2 (.cons 0 4 (.cons 1 1 (.cons 1 3 (.cons 0 5 (.cons 1 6 (.cons 2 7 (.cons 2 8 (.cons 2 9 (.cons 0 10 (.cons 3 11 .nil)))))))))))))], [(0, [false, true, true, true, true])]⟩, ⟨31, [0, 1, 2, 3, 4, 6, 8, 10, 14, 20, 22, 28, 30], [25], []⟩, 1, e_law7_To⟩

/-- whelk/whelkref12.logicals [0=l, 1=i] -/
def b_ref12_logicals_0 : EC :=
 (.seq (.cond (.bi (.bin .lss) (.v 1) (.un .len (.v 0)))
  (.skip)
  (.exit 0))
 (.seq (.block 1 (.cond (.pick (.bi (.bin .eql) (.un (.ld none) (.un (.off 0) (.bi (.idx 11) (.v 0) (.v 1)))) (.c (.int .i64 8))) (.c (.bool true)) (.tup (.call 0 f_ref12_logicals) (.cons (.un (.ld none) (.un (.off 10) (.bi (.idx 11) (.v 0) (.v 1)))) .nil)))
   (.ret [.e (.c (.bool true))])
   (.skip)))
 (.st [.sets [(1, (.bi (.bin .add) (.v 1) (.c (.int .i64 1))))]])))
def e_ref12_logicals : EFunc := ⟨1, 2,
 (.seq (.seq (.st [.sets [(1, (.c (.int .i64 0)))]])
 (.block 0 (.loop [true, true] b_ref12_logicals_0)))
 (.ret [.e (.c (.bool false))]))⟩
noncomputable def r29 : ERow := ⟨Go.Proofs.Tryz.f29, ⟨[], [(0, [true, false, false, true])]⟩, ⟨24, [0, 3], [14, 21], []⟩, 1, e_ref12_logicals⟩

/-- whelk/whelkref12.rows [0=l, 1=out, 2=i, 3=x, 4=next, 5=j, 6=k] -/
def b_ref12_rows_0 : EC :=
 (.seq (.cond (.bi (.bin .lss) (.v 6) (.un .len (.v 3)))
  (.skip)
  (.exit 4))
 (.seq (.block 5 (.st [.eff (some 8) none (.append 11 168 T_ref12_rows_0 (.tup (.bslice 11 [(.int .i64 0), (.str []), (.str []), .nils, (.int .i64 0), (.int .i64 0), (.int .i64 0), (.str []), (.str []), .nils, .nils] 0 []) .nil) (.un (.ld none) (.bi (.idx 1) (.v 1) (.v 5)))),
    .eff (some 9) none (.append 11 168 T_ref12_rows_0 (.v 8) (.un (.ld none) (.bi (.idx 1) (.v 3) (.v 6)))),
    .eff (some 10) none (.append 1 24 T_ref12_rows_1 (.v 4) (.tup (.bslice 1 [.nils] 1 [0]) (.cons (.v 9) .nil))),
    .sets [(4, (.v 10))]]))
 (.st [.sets [(6, (.bi (.bin .add) (.v 6) (.c (.int .i64 1))))]])))
def b_ref12_rows_1 : EC :=
 (.seq (.cond (.bi (.bin .lss) (.v 5) (.un .len (.v 1)))
  (.skip)
  (.exit 2))
 (.seq (.block 3 (.seq (.st [.sets [(6, (.c (.int .i64 0)))]])
  (.block 4 (.loop [true, true, true, true, true, true, true, false, false, false, false] b_ref12_rows_0))))
 (.st [.sets [(5, (.bi (.bin .add) (.v 5) (.c (.int .i64 1))))]])))
def b_ref12_rows_2 : EC :=
 (.seq (.cond (.bi (.bin .lss) (.v 2) (.un .len (.v 0)))
  (.skip)
  (.exit 0))
 (.seq (.block 1 (.seq (.st [.sets [(7, (.tup (.call 0 f_ref12_alts) (.cons (.un (.ld (some 11)) (.bi (.idx 11) (.v 0) (.v 2))) .nil)))],
    .sets [(3, (.un (.ext 0) (.v 7)))]])
  (.seq (.cond (.bi (.bin .neq) (.un (.ext 1) (.v 7)) (.c (.int .i64 0)))
   (.ret [.e (.c .nils), .e (.un (.ext 1) (.v 7))])
   (.skip))
  (.seq (.cond (.bi (.bin .gtr) (.bi (.bin .mul) (.un .len (.v 1)) (.un .len (.v 3))) (.c (.int .i64 16)))
   (.ret [.e (.c .nils), .e (.c (.int .i64 4))])
   (.skip))
  (.seq (.st [.sets [(4, (.c .nils))]])
  (.seq (.seq (.st [.sets [(5, (.c (.int .i64 0)))]])
  (.block 2 (.loop [true, true, true, true, true, true, false, false, false, false, false] b_ref12_rows_1)))
  (.seq (.cond (.un .not (.tup (.call 0 f_ref12_few) (.cons (.v 4) .nil)))
   (.ret [.e (.c .nils), .e (.c (.int .i64 4))])
   (.skip))
  (.st [.sets [(1, (.v 4))]]))))))))
 (.st [.sets [(2, (.bi (.bin .add) (.v 2) (.c (.int .i64 1))))]])))
def e_ref12_rows : EFunc := ⟨1, 11,
 (.seq (.st [.sets [(1, (.tup (.bslice 1 [.nils] 1 [0]) (.cons (.c .nils) .nil)))]])
 (.seq (.seq (.st [.sets [(2, (.c (.int .i64 0)))]])
 (.block 0 (.loop [true, true, true, false, false, false, false, false, false, false, false] b_ref12_rows_2)))
 (.ret [.e (.v 1), .e (.c (.int .i64 0))])))⟩
noncomputable def r30 : ERow := ⟨Go.Proofs.Tryz.f30, ⟨[(17, (.cons 0 0 (.cons 0 2 (.cons 0 3 (.cons 0 4 (.cons 0 7 (.cons 0 8 (.cons 0 9 (.cons 1 5 (.cons 1 10 (.cons 2 1 (.cons 2 6 (.cons 2 11 (.cons 2 12 (.cons 2 13 (.cons 0 14 .nil))))))))))))))))], [(0, [true, false, false, false, true, true]), (2, [true, false, false, false, true, true, true, false, true, true]), (4, [true, false, false, false, true, true, true, false, true, true, true])]⟩, ⟨66, [0, 4, 5, 6, 8, 9, 10, 18, 53, 58, 60], [22, 52, 57], [18]⟩, 1, e_ref12_rows⟩

/-- whelk/whelkref11.Same [0=a, 1=b, 2=a, 3=b, 4=i, 5=x, 6=y] -/
def b_ref11_Same_0 : EC :=
 (.seq (.seq (.st [.eff (some 11) none (.load none (.un (.off 1) (.v 2)))])
 (.cond (.bi (.bin .lss) (.v 4) (.un .len (.v 11)))
  (.skip)
  (.exit 0)))
 (.seq (.block 1 (.seq (.st [.eff (some 12) none (.load none (.un (.off 1) (.v 2))),
    .eff (some 5) none (.zbox [(.int .i64 0), (.bool false), (.str []), (.int .i64 0), (.int .i64 0), (.str [])] T_ref11_Same_0),
    .eff none none (.store 6 (.v 5) (.un (.ld (some 6)) (.bi (.idx 6) (.v 12) (.v 4))))])
  (.seq (.st [.eff (some 13) none (.load none (.un (.off 1) (.v 3))),
    .eff (some 6) none (.zbox [(.int .i64 0), (.bool false), (.str []), (.int .i64 0), (.int .i64 0), (.str [])] T_ref11_Same_0),
    .eff none none (.store 6 (.v 6) (.un (.ld (some 6)) (.bi (.idx 6) (.v 13) (.v 4))))])
  (.seq (.st [.eff (some 14) none (.load none (.un (.off 0) (.v 5))),
    .eff (some 15) none (.load none (.un (.off 0) (.v 6))),
    .eff (some 16) (some ((.bi (.bin .neq) (.v 14) (.v 15)), false)) (.load none (.un (.off 1) (.v 5))),
    .eff (some 17) (some ((.bi (.bin .neq) (.v 14) (.v 15)), false)) (.load none (.un (.off 1) (.v 6))),
    .sets [(18, (.pick (.bi (.bin .neq) (.v 14) (.v 15)) (.c (.bool true)) (.bi (.eqs 0 true) (.v 16) (.v 17)))), (19, (.gd false (.pick (.bi (.bin .neq) (.v 14) (.v 15)) (.c (.bool true)) (.bi (.eqs 0 true) (.v 16) (.v 17))) (.un (.off 2) (.v 5))))],
    .eff (some 20) (some ((.v 18), false)) (.load none (.v 19)),
    .eff (some 21) (some ((.v 18), false)) (.load none (.un (.off 2) (.v 6))),
    .sets [(22, (.pick (.v 18) (.c (.bool true)) (.bi (.bin .neq) (.v 20) (.v 21)))), (23, (.gd false (.pick (.v 18) (.c (.bool true)) (.bi (.bin .neq) (.v 20) (.v 21))) (.un (.off 3) (.v 5))))],
    .eff (some 24) (some ((.v 22), false)) (.load (some 3) (.v 23)),
    .eff (some 25) (some ((.v 22), false)) (.load (some 3) (.un (.off 3) (.v 6)))])
  (.cond (.pick (.v 22) (.c (.bool true)) (.un .not (.tup (.call 0 f_ref3_Same) (.cons (.v 24) (.cons (.v 25) .nil)))))
   (.ret [.e (.c (.bool false))])
   (.skip))))))
 (.st [.sets [(4, (.bi (.bin .add) (.v 4) (.c (.int .i64 1))))]])))
def e_ref11_Same : EFunc := ⟨2, 26,
 (.seq (.st [.eff (some 2) none (.box 2 T_ref11_Same_1 (.v 0)),
   .eff (some 3) none (.box 2 T_ref11_Same_1 (.v 1))])
 (.seq (.seq (.st [.eff (some 7) none (.load none (.un (.off 0) (.v 2))),
   .eff (some 8) none (.load none (.un (.off 0) (.v 3))),
   .eff (some 9) (some ((.bi (.bin .neq) (.v 7) (.v 8)), false)) (.load none (.un (.off 1) (.v 2))),
   .eff (some 10) (some ((.bi (.bin .neq) (.v 7) (.v 8)), false)) (.load none (.un (.off 1) (.v 3)))])
 (.cond (.pick (.bi (.bin .neq) (.v 7) (.v 8)) (.c (.bool true)) (.bi (.bin .neq) (.un .len (.v 9)) (.un .len (.v 10))))
  (.ret [.e (.c (.bool false))])
  (.skip)))
 (.seq (.seq (.st [.sets [(4, (.c (.int .i64 0)))]])
 (.block 0 (.loop [false, false, true, true, true, false, false, false, false, false, false, false, false, false, false, false, false, false, false, false, false, false, false, false, false, false] b_ref11_Same_0)))
 (.ret [.e (.c (.bool true))]))))⟩
noncomputable def r31 : ERow := ⟨Go.Proofs.Tryz.f31, ⟨[], [(0, [false, false, true, true, false, true])]⟩, ⟨66, [0, 1, 2, 3, 5, 6, 7, 9, 11, 15, 18, 24, 30, 35, 40, 42, 46, 48, 51, 52, 53, 55, 58, 59, 60, 62], [33, 38], []⟩, 2, e_ref11_Same⟩

/-- whelk/whelkref7.Same [0=a, 1=b, 2=a, 3=b, 4=i] -/
def b_ref7_Same_0 : EC :=
 (.seq (.seq (.st [.eff (some 20) none (.load none (.un (.off 5) (.v 2)))])
 (.cond (.bi (.bin .lss) (.v 4) (.un .len (.v 20)))
  (.skip)
  (.exit 0)))
 (.seq (.block 1 (.seq (.st [.eff (some 21) none (.load none (.un (.off 5) (.v 2))),
    .eff (some 22) none (.load none (.un (.off 5) (.v 3)))])
  (.cond (.un .not (.tup (.call 0 f_ref7_Same) (.cons (.un (.ld (some 6)) (.bi (.idx 6) (.v 21) (.v 4))) (.cons (.un (.ld (some 6)) (.bi (.idx 6) (.v 22) (.v 4))) .nil))))
   (.ret [.e (.c (.bool false))])
   (.skip))))
 (.st [.sets [(4, (.bi (.bin .add) (.v 4) (.c (.int .i64 1))))]])))
def e_ref7_Same : EFunc := ⟨2, 23,
 (.seq (.st [.eff (some 2) none (.box 6 T_ref7_Same_0 (.v 0)),
   .eff (some 3) none (.box 6 T_ref7_Same_0 (.v 1))])
 (.seq (.seq (.st [.eff (some 5) none (.load none (.un (.off 0) (.v 2))),
   .eff (some 6) none (.load none (.un (.off 0) (.v 3))),
   .sets [(7, (.bi (.bin .neq) (.v 5) (.v 6))), (8, (.gd false (.bi (.bin .neq) (.v 5) (.v 6)) (.un (.off 1) (.v 2))))],
   .eff (some 9) (some ((.v 7), false)) (.load (some 3) (.v 8)),
   .eff (some 10) (some ((.v 7), false)) (.load (some 3) (.un (.off 1) (.v 3))),
   .sets [(11, (.gd false (.v 7) (.tup (.call 0 f_ref3_Same) (.cons (.v 9) (.cons (.v 10) .nil)))))],
   .sets [(12, (.pick (.v 7) (.c (.bool true)) (.un .not (.v 11)))), (13, (.gd false (.pick (.v 7) (.c (.bool true)) (.un .not (.v 11))) (.un (.off 4) (.v 2))))],
   .eff (some 14) (some ((.v 12), false)) (.load none (.v 13)),
   .eff (some 15) (some ((.v 12), false)) (.load none (.un (.off 4) (.v 3))),
   .sets [(16, (.pick (.v 12) (.c (.bool true)) (.bi (.bin .neq) (.v 14) (.v 15)))), (17, (.gd false (.pick (.v 12) (.c (.bool true)) (.bi (.bin .neq) (.v 14) (.v 15))) (.un (.off 5) (.v 2))))],
   .eff (some 18) (some ((.v 16), false)) (.load none (.v 17)),
   .eff (some 19) (some ((.v 16), false)) (.load none (.un (.off 5) (.v 3)))])
 (.cond (.pick (.v 16) (.c (.bool true)) (.bi (.bin .neq) (.un .len (.v 18)) (.un .len (.v 19))))
  (.ret [.e (.c (.bool false))])
  (.skip)))
 (.seq (.seq (.st [.sets [(4, (.c (.int .i64 0)))]])
 (.block 0 (.loop [false, false, true, true, true, false, false, false, false, false, false, false, false, false, false, false, false, false, false, false, false, false, false] b_ref7_Same_0)))
 (.ret [.e (.c (.bool true))]))))⟩
noncomputable def r32 : ERow := ⟨Go.Proofs.Tryz.f32, ⟨[(6, (.cons 0 0 (.cons 0 2 (.cons 0 5 (.cons 0 7 (.cons 1 1 (.cons 0 3 (.cons 1 4 (.cons 1 6 (.cons 0 8 (.cons 1 9 (.cons 2 10 (.cons 0 11 .nil)))))))))))))], [(0, [false, false, true, true, false, true])]⟩, ⟨54, [0, 1, 2, 3, 5, 7, 9, 11, 12, 13, 15, 16, 19, 20, 21, 23, 26, 27, 28, 31, 37, 43, 48], [46, 51], [16]⟩, 2, e_ref7_Same⟩

/-- whelk/whelklaw11.Of [0=p, 1=p, 3=x, 4=i, 5=t] -/
def b_law11_Of_0 : EC :=
 (.seq (.seq (.st [.eff (some 7) none (.load none (.un (.off 1) (.v 1)))])
 (.cond (.bi (.bin .lss) (.v 4) (.un .len (.v 7)))
  (.skip)
  (.exit 0)))
 (.seq (.block 1 (.seq (.st [.eff (some 8) none (.load none (.un (.off 1) (.v 1))),
    .eff (some 5) none (.zbox [(.int .i64 0), (.bool false), (.str []), (.int .i64 0), (.int .i64 0), (.str [])] T_law11_Of_1),
    .eff none none (.store 6 (.v 5) (.un (.ld (some 6)) (.bi (.idx 6) (.v 8) (.v 4))))])
  (.st [.eff (some 9) none (.load none (.un (.off 1) (.v 3))),
    .eff (some 10) none (.load none (.un (.off 0) (.v 5))),
    .eff (some 11) none (.load none (.un (.off 1) (.v 5))),
    .eff (some 12) none (.load none (.un (.off 2) (.v 5))),
    .eff (some 13) none (.load (some 3) (.un (.off 3) (.v 5))),
    .eff (some 14) none (.append 6 64 T_law11_Of_0 (.v 9) (.tup (.bslice 6 [(.int .i64 0), (.bool false), (.str []), (.int .i64 0), (.int .i64 0), (.str [])] 1 [0]) (.cons (.tup (.build [(.int .i64 0), (.bool false), (.str []), (.int .i64 0), (.int .i64 0), (.str [])] [(0, 1), (1, 1), (2, 1), (3, 3)]) (.cons (.v 10) (.cons (.v 11) (.cons (.v 12) (.cons (.v 13) .nil))))) .nil))),
    .eff none none (.store 1 (.un (.off 1) (.v 3)) (.v 14))])))
 (.st [.sets [(4, (.bi (.bin .add) (.v 4) (.c (.int .i64 1))))]])))
def e_law11_Of : EFunc := ⟨1, 16,
 (.seq (.st [.eff (some 1) none (.box 2 T_law11_Of_2 (.v 0)),
   .eff (some 2) none (.zbox [(.str []), .nils] T_law11_Of_3)])
 (.seq (.st [.eff (some 6) none (.load none (.un (.off 0) (.v 1))),
   .eff (some 3) none (.zbox [(.str []), .nils] T_law11_Of_3),
   .eff none none (.store 2 (.v 3) (.tup (.build [(.str []), .nils] [(0, 1)]) (.cons (.v 6) .nil)))])
 (.seq (.seq (.st [.sets [(4, (.c (.int .i64 0)))]])
 (.block 0 (.loop [false, true, true, true, true, false, false, false, false, false, false, false, false, false, false, false] b_law11_Of_0)))
 (.seq (.st [.eff (some 15) none (.load (some 2) (.v 3)),
   .eff none none (.store 2 (.v 2) (.v 15))])
 (.ret [.cell (.v 2) (some 2)])))))⟩
noncomputable def r33 : ERow := ⟨Go.Proofs.Tryz.f33, ⟨[], [(0, [false, true, true, true, true])]⟩, ⟨36, [0, 1, 2, 3, 4, 5, 7, 11, 17, 22, 24, 26, 28, 30, 33, 35], [20], []⟩, 1, e_law11_Of⟩

/-- whelk/whelklaw7.Of [0=e, 1=e, 3=x, 4=i] -/
def b_law7_Of_0 : EC :=
 (.seq (.seq (.st [.eff (some 8) none (.load none (.un (.off 5) (.v 1)))])
 (.cond (.bi (.bin .lss) (.v 4) (.un .len (.v 8)))
  (.skip)
  (.exit 0)))
 (.seq (.block 1 (.st [.eff (some 9) none (.load none (.un (.off 5) (.v 3))),
    .eff (some 10) none (.load none (.un (.off 5) (.v 1))),
    .eff (some 11) none (.append 6 80 T_law7_Of_0 (.v 9) (.tup (.bslice 6 [(.int .i64 0), (.int .i64 0), (.int .i64 0), (.str []), (.str []), .nils] 1 [0]) (.cons (.tup (.call 0 f_law7_Of) (.cons (.un (.ld (some 6)) (.bi (.idx 6) (.v 10) (.v 4))) .nil)) .nil))),
    .eff none none (.store 1 (.un (.off 5) (.v 3)) (.v 11))]))
 (.st [.sets [(4, (.bi (.bin .add) (.v 4) (.c (.int .i64 1))))]])))
def e_law7_Of : EFunc := ⟨1, 13,
 (.seq (.st [.eff (some 1) none (.box 6 T_law7_Of_1 (.v 0)),
   .eff (some 2) none (.zbox [(.int .i64 0), (.int .i64 0), (.int .i64 0), (.str []), (.str []), .nils] T_law7_Of_0)])
 (.seq (.st [.eff (some 5) none (.load none (.un (.off 0) (.v 1))),
   .eff (some 6) none (.load (some 3) (.un (.off 1) (.v 1))),
   .eff (some 7) none (.load none (.un (.off 4) (.v 1))),
   .eff (some 3) none (.zbox [(.int .i64 0), (.int .i64 0), (.int .i64 0), (.str []), (.str []), .nils] T_law7_Of_0),
   .eff none none (.store 6 (.v 3) (.tup (.build [(.int .i64 0), (.int .i64 0), (.int .i64 0), (.str []), (.str []), .nils] [(0, 1), (1, 3), (4, 1)]) (.cons (.v 5) (.cons (.v 6) (.cons (.v 7) .nil)))))])
 (.seq (.seq (.st [.sets [(4, (.c (.int .i64 0)))]])
 (.block 0 (.loop [false, true, true, true, true, false, false, false, false, false, false, false, false] b_law7_Of_0)))
 (.seq (.st [.eff (some 12) none (.load (some 6) (.v 3)),
   .eff none none (.store 6 (.v 2) (.v 12))])
 (.ret [.cell (.v 2) (some 6)])))))⟩
noncomputable def r34 : ERow := ⟨Go.Proofs.Tryz.f34, ⟨[(5, (.cons 0 0 (.cons 0 2 (.cons 0 4 (.cons 1 1 (.cons 1 3 (.cons 0 5 (.cons 1 6 (.cons 2 7 (.cons 2 8 (.cons 2 9 (.cons 0 10 (.cons 3 11 .nil)))))))))))))], [(0, [false, true, true, true, true])]⟩, ⟨31, [0, 1, 2, 3, 4, 6, 8, 10, 14, 20, 22, 28, 30], [25], []⟩, 1, e_law7_Of⟩

/-- slices.Clip[[]whelk/pat.Test,whelk/pat.Test] [0=s] -/
def e_slices_Clip_pat_Test_pat_Test : EFunc := ⟨1, 1,
 (.ret [.e (.lsub 6 false true true (.v 0) (.c .undef) (.un .len (.v 0)) (.un .len (.v 0)))])⟩
noncomputable def r35 : ERow := ⟨Go.Proofs.Tryz.f35, ⟨[], []⟩, ⟨9, [0], [], []⟩, 1, e_slices_Clip_pat_Test_pat_Test⟩

/-- slices.Clip[[]whelk/pat.Pattern,whelk/pat.Pattern] [0=s] -/
def e_slices_Clip_pat_Pattern_pat_Pattern : EFunc := ⟨1, 1,
 (.ret [.e (.lsub 2 false true true (.v 0) (.c .undef) (.un .len (.v 0)) (.un .len (.v 0)))])⟩
noncomputable def r37 : ERow := ⟨Go.Proofs.Tryz.f37, ⟨[], []⟩, ⟨9, [0], [], []⟩, 1, e_slices_Clip_pat_Pattern_pat_Pattern⟩

/-- slices.EqualFunc[[]whelk/norm.Lit,[]whelk/norm.Lit,whelk/norm.Lit,whelk/norm.Lit] [0=s1, 1=s2, 2=eq, 3=v1, 4=v2] -/
def b_slices_EqualFunc_norm_Lit_norm_Lit_norm_Lit_norm_Lit_0 : EC :=
 (.seq (.cond (.bi (.bin .lss) (.v 7) (.v 6))
  (.skip)
  (.exit 0))
 (.seq (.block 1 (.seq (.st [.eff (some 3) none (.zbox [(.int .i64 0), (.str []), (.str []), .nils, (.int .i64 0), (.int .i64 0), (.int .i64 0), (.str []), (.str []), .nils, .nils] T_slices_EqualFunc_norm_Lit_norm_Lit_norm_Lit_norm_Lit_0),
    .eff none none (.store 11 (.v 3) (.un (.ld (some 11)) (.bi (.idx 11) (.v 5) (.v 7))))])
  (.seq (.st [.eff (some 4) none (.zbox [(.int .i64 0), (.str []), (.str []), .nils, (.int .i64 0), (.int .i64 0), (.int .i64 0), (.str []), (.str []), .nils, .nils] T_slices_EqualFunc_norm_Lit_norm_Lit_norm_Lit_norm_Lit_0),
    .eff none none (.store 11 (.v 4) (.un (.ld (some 11)) (.bi (.idx 11) (.v 1) (.v 7))))])
  (.seq (.st [.eff (some 8) none (.load (some 11) (.v 3)),
    .eff (some 9) none (.load (some 11) (.v 4)),
    .eff (some 10) none (.callv (.v 2) (.cons (.v 8) (.cons (.v 9) .nil)))])
  (.cond (.un .not (.v 10))
   (.ret [.e (.c (.bool false))])
   (.skip))))))
 (.st [.sets [(7, (.bi (.bin .add) (.v 7) (.c (.int .i64 1))))]])))
def e_slices_EqualFunc_norm_Lit_norm_Lit_norm_Lit_norm_Lit : EFunc := ⟨3, 11,
 (.seq (.cond (.bi (.bin .neq) (.un .len (.v 0)) (.un .len (.v 1)))
  (.ret [.e (.c (.bool false))])
  (.skip))
 (.seq (.seq (.st [.sets [(5, (.v 0)), (6, (.un .len (.v 0))), (7, (.c (.int .i64 0)))]])
 (.block 0 (.loop [false, true, true, false, false, true, true, true, false, false, false] b_slices_EqualFunc_norm_Lit_norm_Lit_norm_Lit_norm_Lit_0)))
 (.ret [.e (.c (.bool true))])))⟩
noncomputable def r38 : ERow := ⟨Go.Proofs.Tryz.f38, ⟨[], [(0, [false, true, true, false, false, false, false, false, false, false, false, false, false, false, false, true, true, true])]⟩, ⟨32, [0, 1, 2, 8, 9, 15, 16, 17, 27, 28, 29], [21, 25], []⟩, 3, e_slices_EqualFunc_norm_Lit_norm_Lit_norm_Lit_norm_Lit⟩

/-- whelk/norm.same [0=a, 1=b, 2=a, 3=b] -/
def e_norm_same : EFunc := ⟨2, 23,
 (.seq (.st [.eff (some 2) none (.box 11 T_norm_same_0 (.v 0)),
   .eff (some 3) none (.box 11 T_norm_same_0 (.v 1))])
 (.seq (.st [.eff (some 4) none (.load none (.un (.off 0) (.v 2))),
   .eff (some 5) none (.load none (.un (.off 0) (.v 3))),
   .eff (some 6) (some ((.bi (.bin .eql) (.v 4) (.v 5)), true)) (.load none (.un (.off 1) (.v 2))),
   .eff (some 7) (some ((.bi (.bin .eql) (.v 4) (.v 5)), true)) (.load none (.un (.off 1) (.v 3))),
   .sets [(8, (.pick (.bi (.bin .eql) (.v 4) (.v 5)) (.bi (.bin .eql) (.v 6) (.v 7)) (.c (.bool false)))), (9, (.gd true (.pick (.bi (.bin .eql) (.v 4) (.v 5)) (.bi (.bin .eql) (.v 6) (.v 7)) (.c (.bool false))) (.un (.off 2) (.v 2))))],
   .eff (some 10) (some ((.v 8), true)) (.load (some 2) (.v 9)),
   .eff (some 11) (some ((.v 8), true)) (.load (some 2) (.un (.off 2) (.v 3))),
   .sets [(12, (.gd true (.v 8) (.tup (.call 0 f_pat_Same) (.cons (.v 10) (.cons (.v 11) .nil)))))],
   .sets [(13, (.pick (.v 8) (.v 12) (.c (.bool false)))), (14, (.gd true (.pick (.v 8) (.v 12) (.c (.bool false))) (.un (.off 4) (.v 2))))],
   .eff (some 15) (some ((.v 13), true)) (.load (some 6) (.v 14)),
   .eff (some 16) (some ((.v 13), true)) (.load (some 6) (.un (.off 4) (.v 3))),
   .sets [(17, (.gd true (.v 13) (.tup (.call 0 f_expr_Same) (.cons (.v 15) (.cons (.v 16) .nil)))))],
   .sets [(18, (.pick (.v 13) (.v 17) (.c (.bool false)))), (19, (.gd true (.pick (.v 13) (.v 17) (.c (.bool false))) (.un (.off 10) (.v 2))))],
   .eff (some 20) (some ((.v 18), true)) (.load none (.v 19)),
   .eff (some 21) (some ((.v 18), true)) (.load none (.un (.off 10) (.v 3))),
   .eff (some 22) (some ((.v 18), true)) (.calls [false, false, true, true, true, true, true, true, true, true, true, true, true, true, true, true] f_slices_EqualFunc_norm_Lit_norm_Lit_norm_Lit_norm_Lit (.cons (.v 20) (.cons (.v 21) (.cons (.c (.func f_norm_same [])) .nil))))])
 (.ret [.e (.pick (.v 18) (.v 22) (.c (.bool false)))])))⟩
noncomputable def r39 : ERow := ⟨Go.Proofs.Tryz.f39, ⟨[], []⟩, ⟨38, [0, 1, 2, 3, 6, 8, 12, 14, 17, 18, 19, 21, 22, 24, 25, 26, 28, 29, 31, 32, 33, 35, 36], [], [22, 29]⟩, 2, e_norm_same⟩

/-- whelk/whelklaw13.ToLits [0=l, 1=out, 2=i] -/
def b_law13_ToLits_0 : EC :=
 (.seq (.cond (.bi (.bin .lss) (.v 2) (.un .len (.v 0)))
  (.skip)
  (.exit 0))
 (.seq (.block 1 (.st [.eff (some 3) none (.append 11 168 T_law13_ToLits_0 (.v 1) (.tup (.bslice 11 [(.int .i64 0), (.str []), (.str []), .nils, (.int .i64 0), (.int .i64 0), (.int .i64 0), (.str []), (.str []), .nils, .nils] 1 [0]) (.cons (.tup (.build [(.int .i64 0), (.str []), (.str []), .nils, (.int .i64 0), (.int .i64 0), (.int .i64 0), (.str []), (.str []), .nils, .nils] [(0, 1), (1, 1), (2, 2), (4, 6), (10, 1)]) (.cons (.un (.ld none) (.un (.off 0) (.bi (.idx 11) (.v 0) (.v 2)))) (.cons (.un (.ld none) (.un (.off 1) (.bi (.idx 11) (.v 0) (.v 2)))) (.cons (.tup (.call 0 f_law11_To) (.cons (.un (.ld (some 2)) (.un (.off 2) (.bi (.idx 11) (.v 0) (.v 2)))) .nil)) (.cons (.tup (.call 0 f_law7_To) (.cons (.un (.ld (some 6)) (.un (.off 4) (.bi (.idx 11) (.v 0) (.v 2)))) .nil)) (.cons (.tup (.call 0 f_law13_ToLits) (.cons (.un (.ld none) (.un (.off 10) (.bi (.idx 11) (.v 0) (.v 2)))) .nil)) .nil)))))) .nil))),
    .sets [(1, (.v 3))]]))
 (.st [.sets [(2, (.bi (.bin .add) (.v 2) (.c (.int .i64 1))))]])))
def e_law13_ToLits : EFunc := ⟨1, 4,
 (.seq (.st [.sets [(1, (.c .nils))]])
 (.seq (.seq (.st [.sets [(2, (.c (.int .i64 0)))]])
 (.block 0 (.loop [true, true, true, false] b_law13_ToLits_0)))
 (.ret [.e (.v 1)])))⟩
noncomputable def r40 : ERow := ⟨Go.Proofs.Tryz.f40, ⟨[(5, (.cons 0 0 (.cons 0 1 (.cons 0 2 (.cons 0 3 (.cons 0 4 (.cons 0 6 (.cons 0 7 (.cons 0 8 (.cons 0 9 (.cons 0 11 (.cons 0 12 (.cons 0 13 (.cons 0 14 (.cons 0 17 (.cons 0 18 (.cons 0 19 (.cons 0 20 (.cons 0 23 (.cons 0 24 (.cons 0 25 (.cons 0 26 (.cons 1 5 (.cons 1 10 (.cons 1 15 (.cons 1 21 (.cons 1 27 (.cons 2 16 (.cons 2 22 (.cons 2 28 (.cons 0 29 (.cons 2 30 (.cons 2 31 (.cons 0 32 .nil))))))))))))))))))))))))))))))))))], [(0, [true, false, false, true, true])]⟩, ⟨44, [0, 3, 4, 42], [16, 21, 26, 32, 38], []⟩, 1, e_law13_ToLits⟩

/-- whelk/whelkref4.Scan [0=b, 1=l, 2=at, 3=t, 4=n] -/
def b_ref4_Scan_0 : EC :=
 (.seq (.cond (.pick (.bi (.bin .lss) (.v 2) (.un .len (.v 0))) (.bi (.bin .neq) (.un (.ld none) (.bi (.idx 1) (.v 0) (.v 2))) (.c (.int .u8 10))) (.c (.bool false)))
  (.skip)
  (.exit 2))
 (.block 3 (.st [.sets [(2, (.bi (.bin .add) (.v 2) (.c (.int .i64 1))))]])))
def b_ref4_Scan_1 : EC :=
 (.seq (.cond (.bi (.bin .lss) (.v 2) (.un .len (.v 0)))
  (.skip)
  (.exit 0))
 (.block 1 (.seq (.cond (.tup (.call 0 f_ref4_blank) (.cons (.un (.ld none) (.bi (.idx 1) (.v 0) (.v 2))) .nil))
   (.seq (.st [.sets [(2, (.bi (.bin .add) (.v 2) (.c (.int .i64 1))))]])
   (.exit 1))
   (.skip))
  (.seq (.cond (.bi (.bin .eql) (.un (.ld none) (.bi (.idx 1) (.v 0) (.v 2))) (.c (.int .u8 59)))
   (.seq (.block 2 (.loop [true, true, true, false, false, false, false, false] b_ref4_Scan_0))
   (.exit 1))
   (.skip))
  (.seq (.st [.sets [(5, (.tup (.call 0 f_ref4_one) (.cons (.v 0) (.cons (.v 2) .nil))))],
    .eff (some 3) none (.zbox [(.int .i64 0), (.int .i64 0), (.int .i64 0), (.str [])] T_ref4_Scan_0),
    .eff none none (.store 4 (.v 3) (.un (.ext 0) (.v 5))),
    .sets [(4, (.un (.ext 1) (.v 5)))]])
  (.seq (.cond (.bi (.bin .neq) (.un (.ext 2) (.v 5)) (.c (.int .i64 0)))
   (.ret [.e (.c .nils), .e (.v 2), .e (.un (.ext 2) (.v 5))])
   (.skip))
  (.seq (.st [.eff (some 6) none (.load (some 4) (.v 3)),
    .eff (some 7) none (.append 4 40 T_ref4_Scan_0 (.v 1) (.tup (.bslice 4 [(.int .i64 0), (.int .i64 0), (.int .i64 0), (.str [])] 1 [0]) (.cons (.v 6) .nil))),
    .sets [(1, (.v 7))]])
  (.st [.sets [(2, (.v 4))]]))))))))
def e_ref4_Scan : EFunc := ⟨1, 8,
 (.seq (.cond (.bi (.bin .gtr) (.un .len (.v 0)) (.c (.int .i64 65536)))
  (.ret [.e (.c .nils), .e (.c (.int .i64 0)), .e (.c (.int .i64 4))])
  (.skip))
 (.seq (.st [.sets [(1, (.c .nils))]])
 (.seq (.st [.sets [(2, (.c (.int .i64 0)))]])
 (.seq (.block 0 (.loop [true, true, true, false, false, false, false, false] b_ref4_Scan_1))
 (.ret [.e (.v 1), .e (.c (.int .i64 0)), .e (.c (.int .i64 0))])))))⟩
noncomputable def r41 : ERow := ⟨Go.Proofs.Tryz.f41, ⟨[], [(0, [true, false, false, false, false, true, true]), (2, [true, false, false, false, false, true, true])]⟩, ⟨59, [0, 5, 6, 7, 8, 42, 54, 56], [20, 27, 37], [42]⟩, 1, e_ref4_Scan⟩

/-- whelk/whelkref5.At [0=word, 1=at, 2=e] -/
def e_ref5_At : EFunc := ⟨3, 4,
 (.seq (.st [.eff (some 3) none (.zbox [.nils, (.int .i64 0)] T_ref5_At_0)])
 (.seq (.st [.eff none none (.store 2 (.v 3) (.tup (.build [.nils, (.int .i64 0)] [(0, 1), (1, 1)]) (.cons (.tup (.bslice 2 [(.str []), (.int .i64 0)] 1 [0]) (.cons (.tup (.build [(.str []), (.int .i64 0)] [(0, 1), (1, 1)]) (.cons (.v 0) (.cons (.v 1) .nil))) .nil)) (.cons (.v 2) .nil))))])
 (.ret [.cell (.v 3) (some 2)])))⟩
noncomputable def r42 : ERow := ⟨Go.Proofs.Tryz.f42, ⟨[], []⟩, ⟨13, [0, 1, 2, 6], [], []⟩, 3, e_ref5_At⟩

/-- (*whelk/whelkref5.reader).node [0=r, 1=deep, 4=t, 5=x, 6=k, 7=y, 8=w, 9=y, 10=w] -/
def b_ref5_reader_node_0 : EC :=
 (.block 1 (.seq (.seq (.st [.eff (some 37) none (.load none (.un (.off 1) (.un .nilchk (.v 0)))),
    .eff (some 38) none (.load none (.un (.off 0) (.un .nilchk (.v 0))))])
  (.cond (.bi (.bin .eql) (.v 37) (.un .len (.v 38)))
   (.seq (.st [.eff (some 39) none (.load none (.un (.off 1) (.v 4))),
     .eff none none (.store 5 (.v 2) (.tup (.build [(.int .i64 0), (.int .i64 0), (.int .i64 0), (.str []), .nils] []) .nil)),
     .eff none none (.store 2 (.v 3) (.tup (.call 0 f_ref5_At) (.cons (.c (.str [99, 104, 97, 114])) (.cons (.v 39) (.cons (.c (.int .i64 3)) .nil)))))])
   (.ret [.cell (.v 2) (some 5), .cell (.v 3) (some 2)]))
   (.skip)))
  (.seq (.seq (.st [.eff (some 40) none (.load none (.un (.off 0) (.un .nilchk (.v 0)))),
    .eff (some 41) none (.load none (.un (.off 1) (.un .nilchk (.v 0))))])
  (.cond (.bi (.bin .eql) (.un (.ld none) (.un (.off 0) (.bi (.idx 4) (.v 40) (.v 41)))) (.c (.int .i64 5)))
   (.seq (.st [.eff (some 42) none (.load none (.un (.off 1) (.un .nilchk (.v 0)))),
     .eff none none (.store 1 (.un (.off 1) (.un .nilchk (.v 0))) (.bi (.bin .add) (.v 42) (.c (.int .i64 1))))])
   (.seq (.st [.eff (some 43) none (.load (some 5) (.v 5)),
     .eff none none (.store 5 (.v 2) (.v 43)),
     .eff none none (.store 2 (.v 3) (.tup (.build [.nils, (.int .i64 0)] []) .nil))])
   (.ret [.cell (.v 2) (some 5), .cell (.v 3) (some 2)])))
   (.skip)))
  (.seq (.st [.eff (some 44) none (.calls [true, true, true, true, true, true, true, true, true, true, true, true, true, true, true, true] f_ref5_reader_node (.cons (.v 0) (.cons (.bi (.bin .add) (.v 1) (.c (.int .i64 1))) .nil))),
    .eff (some 9) none (.zbox [(.int .i64 0), (.int .i64 0), (.int .i64 0), (.str []), .nils] T_ref5_reader_node_0),
    .eff (some 10) none (.zbox [.nils, (.int .i64 0)] T_ref5_reader_node_1),
    .eff none none (.store 5 (.v 9) (.un (.ext 0) (.v 44))),
    .eff none none (.store 2 (.v 10) (.un (.ext 1) (.v 44)))])
  (.seq (.seq (.st [.eff (some 45) none (.load none (.un (.off 1) (.v 10)))])
  (.cond (.bi (.bin .neq) (.v 45) (.c (.int .i64 0)))
   (.seq (.st [.eff (some 46) none (.load (some 2) (.v 10)),
     .chk (.tup .apart (.cons (.v 2) (.cons (.v 10) .nil))),
     .eff none none (.store 5 (.v 2) (.tup (.build [(.int .i64 0), (.int .i64 0), (.int .i64 0), (.str []), .nils] []) .nil)),
     .chk (.tup .apart (.cons (.v 3) (.cons (.v 10) .nil))),
     .eff none none (.store 2 (.v 3) (.v 46))])
   (.ret [.cell (.v 2) (some 5), .cell (.v 3) (some 2)]))
   (.skip)))
  (.st [.eff (some 47) none (.load none (.un (.off 4) (.v 5))),
    .eff (some 48) none (.load (some 5) (.v 9)),
    .eff (some 49) none (.append 5 64 T_ref5_reader_node_0 (.v 47) (.tup (.bslice 5 [(.int .i64 0), (.int .i64 0), (.int .i64 0), (.str []), .nils] 1 [0]) (.cons (.v 48) .nil))),
    .eff none none (.store 1 (.un (.off 4) (.v 5)) (.v 49))]))))))
def e_ref5_reader_node : EFunc := ⟨2, 50,
 (.seq (.seq (.st [.eff (some 2) none (.zbox [(.int .i64 0), (.int .i64 0), (.int .i64 0), (.str []), .nils] T_ref5_reader_node_0),
   .eff (some 3) none (.zbox [.nils, (.int .i64 0)] T_ref5_reader_node_1)])
 (.seq (.st [.eff (some 11) none (.load none (.un (.off 0) (.un .nilchk (.v 0)))),
   .eff (some 12) none (.load none (.un (.off 1) (.un .nilchk (.v 0)))),
   .eff (some 4) none (.zbox [(.int .i64 0), (.int .i64 0), (.int .i64 0), (.str [])] T_ref5_reader_node_2),
   .eff none none (.store 4 (.v 4) (.un (.ld (some 4)) (.bi (.idx 4) (.v 11) (.v 12))))])
 (.seq (.st [.eff (some 13) none (.load none (.un (.off 1) (.un .nilchk (.v 0)))),
   .eff none none (.store 1 (.un (.off 1) (.un .nilchk (.v 0))) (.bi (.bin .add) (.v 13) (.c (.int .i64 1))))])
 (.seq (.st [.eff (some 14) none (.load none (.un (.off 2) (.un .nilchk (.v 0)))),
   .eff none none (.store 1 (.un (.off 2) (.un .nilchk (.v 0))) (.bi (.bin .add) (.v 14) (.c (.int .i64 1))))])
 (.seq (.seq (.st [.eff (some 15) none (.load none (.un (.off 0) (.v 4)))])
 (.cond (.bi (.bin .eql) (.v 15) (.c (.int .i64 5)))
  (.seq (.st [.eff (some 16) none (.load none (.un (.off 1) (.v 4))),
    .eff none none (.store 5 (.v 2) (.tup (.build [(.int .i64 0), (.int .i64 0), (.int .i64 0), (.str []), .nils] []) .nil)),
    .eff none none (.store 2 (.v 3) (.tup (.call 0 f_ref5_At) (.cons (.c (.str [99, 104, 97, 114])) (.cons (.v 16) (.cons (.c (.int .i64 2)) .nil)))))])
  (.ret [.cell (.v 2) (some 5), .cell (.v 3) (some 2)]))
  (.skip)))
 (.seq (.seq (.st [.eff (some 17) none (.load none (.un (.off 2) (.un .nilchk (.v 0))))])
 (.cond (.bi (.bin .gtr) (.v 17) (.c (.int .i64 4096)))
  (.seq (.st [.eff (some 18) none (.load none (.un (.off 1) (.v 4))),
    .eff none none (.store 5 (.v 2) (.tup (.build [(.int .i64 0), (.int .i64 0), (.int .i64 0), (.str []), .nils] []) .nil)),
    .eff none none (.store 2 (.v 3) (.tup (.call 0 f_ref5_At) (.cons (.c (.str [99, 104, 97, 114])) (.cons (.v 18) (.cons (.c (.int .i64 4)) .nil)))))])
  (.ret [.cell (.v 2) (some 5), .cell (.v 3) (some 2)]))
  (.skip)))
 (.seq (.st [.eff (some 19) none (.load none (.un (.off 0) (.v 4))),
   .eff (some 20) none (.load none (.un (.off 1) (.v 4))),
   .eff (some 21) none (.load none (.un (.off 2) (.v 4))),
   .eff (some 22) none (.load none (.un (.off 3) (.v 4))),
   .eff (some 5) none (.zbox [(.int .i64 0), (.int .i64 0), (.int .i64 0), (.str []), .nils] T_ref5_reader_node_0),
   .eff none none (.store 5 (.v 5) (.tup (.build [(.int .i64 0), (.int .i64 0), (.int .i64 0), (.str []), .nils] [(0, 1), (1, 1), (2, 1), (3, 1)]) (.cons (.v 19) (.cons (.v 20) (.cons (.v 21) (.cons (.v 22) .nil))))))])
 (.seq (.seq (.st [.eff (some 23) none (.load none (.un (.off 0) (.v 4)))])
 (.cond (.bi (.bin .eql) (.v 23) (.c (.int .i64 8)))
  (.seq (.seq (.st [.eff (some 24) none (.load none (.un (.off 1) (.un .nilchk (.v 0)))),
    .eff (some 25) none (.load none (.un (.off 0) (.un .nilchk (.v 0))))])
  (.cond (.bi (.bin .eql) (.v 24) (.un .len (.v 25)))
   (.seq (.st [.eff (some 26) none (.load none (.un (.off 1) (.v 4))),
     .eff none none (.store 5 (.v 2) (.tup (.build [(.int .i64 0), (.int .i64 0), (.int .i64 0), (.str []), .nils] []) .nil)),
     .eff none none (.store 2 (.v 3) (.tup (.call 0 f_ref5_At) (.cons (.c (.str [99, 104, 97, 114])) (.cons (.v 26) (.cons (.c (.int .i64 3)) .nil)))))])
   (.ret [.cell (.v 2) (some 5), .cell (.v 3) (some 2)]))
   (.skip)))
  (.seq (.st [.eff (some 27) none (.load none (.un (.off 0) (.un .nilchk (.v 0)))),
    .eff (some 28) none (.load none (.un (.off 1) (.un .nilchk (.v 0)))),
    .sets [(6, (.un (.ld none) (.un (.off 0) (.bi (.idx 4) (.v 27) (.v 28)))))]])
  (.seq (.cond (.pick (.pick (.bi (.bin .eql) (.v 6) (.c (.int .i64 4))) (.c (.bool true)) (.bi (.bin .eql) (.v 6) (.c (.int .i64 5)))) (.c (.bool true)) (.bi (.bin .eql) (.v 6) (.c (.int .i64 8))))
   (.seq (.st [.eff (some 29) none (.load none (.un (.off 1) (.v 4))),
     .eff none none (.store 5 (.v 2) (.tup (.build [(.int .i64 0), (.int .i64 0), (.int .i64 0), (.str []), .nils] []) .nil)),
     .eff none none (.store 2 (.v 3) (.tup (.call 0 f_ref5_At) (.cons (.c (.str [99, 104, 97, 114])) (.cons (.v 29) (.cons (.c (.int .i64 2)) .nil)))))])
   (.ret [.cell (.v 2) (some 5), .cell (.v 3) (some 2)]))
   (.skip))
  (.seq (.st [.eff (some 30) none (.calls [true, true, true, true, true, true, true, true, true, true, true, true, true, true, true, true] f_ref5_reader_node (.cons (.v 0) (.cons (.v 1) .nil))),
    .eff (some 7) none (.zbox [(.int .i64 0), (.int .i64 0), (.int .i64 0), (.str []), .nils] T_ref5_reader_node_0),
    .eff (some 8) none (.zbox [.nils, (.int .i64 0)] T_ref5_reader_node_1),
    .eff none none (.store 5 (.v 7) (.un (.ext 0) (.v 30))),
    .eff none none (.store 2 (.v 8) (.un (.ext 1) (.v 30)))])
  (.seq (.st [.eff (some 31) none (.load (some 5) (.v 7)),
    .eff none none (.store 1 (.un (.off 4) (.v 5)) (.tup (.bslice 5 [(.int .i64 0), (.int .i64 0), (.int .i64 0), (.str []), .nils] 1 [0]) (.cons (.v 31) .nil)))])
  (.seq (.st [.eff (some 32) none (.load (some 5) (.v 5)),
    .eff (some 33) none (.load (some 2) (.v 8)),
    .chk (.tup .apart (.cons (.v 2) (.cons (.v 8) (.cons (.v 5) .nil)))),
    .eff none none (.store 5 (.v 2) (.v 32)),
    .chk (.tup .apart (.cons (.v 3) (.cons (.v 8) (.cons (.v 5) .nil)))),
    .eff none none (.store 2 (.v 3) (.v 33))])
  (.ret [.cell (.v 2) (some 5), .cell (.v 3) (some 2)])))))))
  (.skip)))
 (.seq (.seq (.st [.eff (some 34) none (.load none (.un (.off 0) (.v 4)))])
 (.cond (.bi (.bin .neq) (.v 34) (.c (.int .i64 4)))
  (.seq (.st [.eff (some 35) none (.load (some 5) (.v 5)),
    .eff none none (.store 5 (.v 2) (.v 35)),
    .eff none none (.store 2 (.v 3) (.tup (.build [.nils, (.int .i64 0)] []) .nil))])
  (.ret [.cell (.v 2) (some 5), .cell (.v 3) (some 2)]))
  (.skip)))
 (.seq (.st [.eff none none (.store 1 (.un (.off 0) (.v 5)) (.c (.int .i64 0)))])
 (.seq (.cond (.bi (.bin .geq) (.v 1) (.c (.int .i64 32)))
  (.seq (.st [.eff (some 36) none (.load none (.un (.off 1) (.v 4))),
    .eff none none (.store 5 (.v 2) (.tup (.build [(.int .i64 0), (.int .i64 0), (.int .i64 0), (.str []), .nils] []) .nil)),
    .eff none none (.store 2 (.v 3) (.tup (.call 0 f_ref5_At) (.cons (.c (.str [99, 104, 97, 114])) (.cons (.v 36) (.cons (.c (.int .i64 4)) .nil)))))])
  (.ret [.cell (.v 2) (some 5), .cell (.v 3) (some 2)]))
  (.skip))
 (.block 0 (.loop [true, true, true, true, true, true, false, false, false, false, false, false, false, false, false, false, false, false, false, false, false, false, false, false, false, false, false, false, false, false, false, false, false, false, false, false, false, false, false, false, false, false, false, false, false, false, false, false, false, false] b_ref5_reader_node_0)))))))))))))
 (.ret [.cell (.v 2) (some 5), .cell (.v 3) (some 2)]))⟩
noncomputable def r43 : ERow := ⟨Go.Proofs.Tryz.f43, ⟨[(1, (.cons 0 0 (.cons 0 1 (.cons 0 2 (.cons 0 4 (.cons 0 5 (.cons 0 6 (.cons 1 3 (.cons 1 7 (.cons 0 8 (.cons 1 9 (.cons 2 10 (.cons 3 11 .nil))))))))))))), (10, (.cons 0 0 (.cons 0 1 (.cons 0 2 (.cons 0 4 (.cons 0 5 (.cons 0 6 (.cons 1 3 (.cons 1 7 (.cons 0 8 (.cons 0 9 .nil))))))))))), (12, (.cons 0 0 (.cons 0 1 (.cons 0 2 (.cons 0 4 (.cons 0 5 (.cons 0 6 (.cons 1 3 (.cons 1 7 (.cons 0 8 (.cons 0 9 (.cons 1 10 (.cons 0 11 .nil))))))))))))), (17, (.cons 1 0 (.cons 1 1 (.cons 2 2 (.cons 2 3 .nil))))), (23, (.cons 0 0 (.cons 0 1 (.cons 0 2 (.cons 0 4 (.cons 0 5 (.cons 0 6 (.cons 1 3 (.cons 1 7 (.cons 0 8 (.cons 0 9 .nil))))))))))), (25, (.cons 0 0 (.cons 0 1 (.cons 0 2 (.cons 0 4 (.cons 0 5 (.cons 0 6 (.cons 1 3 (.cons 1 7 (.cons 0 8 (.cons 0 9 (.cons 1 10 (.cons 0 11 .nil))))))))))))), (30, (.cons 0 0 (.cons 1 1 (.cons 2 2 (.cons 2 3 .nil)))))], [(0, [true, true, false, false, true, true, true, true])]⟩, ⟨180, [0, 1, 4, 5, 6, 7, 8, 9, 10, 11, 12, 16, 20, 26, 33, 38, 42, 47, 51, 54, 56, 58, 60, 63, 68, 72, 77, 82, 86, 102, 107, 110, 113, 114, 116, 118, 125, 130, 134, 139, 144, 148, 156, 160, 166, 170, 173, 175, 176, 178], [22, 89, 151], []⟩, 2, e_ref5_reader_node⟩

/-- whelk/whelkref5.Same [0=a, 1=b, 2=a, 3=b, 4=i] -/
def b_ref5_Same_0 : EC :=
 (.seq (.seq (.st [.eff (some 17) none (.load none (.un (.off 4) (.v 2)))])
 (.cond (.bi (.bin .lss) (.v 4) (.un .len (.v 17)))
  (.skip)
  (.exit 0)))
 (.seq (.block 1 (.seq (.st [.eff (some 18) none (.load none (.un (.off 4) (.v 2))),
    .eff (some 19) none (.load none (.un (.off 4) (.v 3)))])
  (.cond (.un .not (.tup (.call 0 f_ref5_Same) (.cons (.un (.ld (some 5)) (.bi (.idx 5) (.v 18) (.v 4))) (.cons (.un (.ld (some 5)) (.bi (.idx 5) (.v 19) (.v 4))) .nil))))
   (.ret [.e (.c (.bool false))])
   (.skip))))
 (.st [.sets [(4, (.bi (.bin .add) (.v 4) (.c (.int .i64 1))))]])))
def e_ref5_Same : EFunc := ⟨2, 20,
 (.seq (.st [.eff (some 2) none (.box 5 T_ref5_Same_0 (.v 0)),
   .eff (some 3) none (.box 5 T_ref5_Same_0 (.v 1))])
 (.seq (.seq (.st [.eff (some 5) none (.load none (.un (.off 0) (.v 2))),
   .eff (some 6) none (.load none (.un (.off 0) (.v 3))),
   .eff (some 7) (some ((.bi (.bin .neq) (.v 5) (.v 6)), false)) (.load none (.un (.off 2) (.v 2))),
   .eff (some 8) (some ((.bi (.bin .neq) (.v 5) (.v 6)), false)) (.load none (.un (.off 2) (.v 3))),
   .sets [(9, (.pick (.bi (.bin .neq) (.v 5) (.v 6)) (.c (.bool true)) (.bi (.bin .neq) (.v 7) (.v 8)))), (10, (.gd false (.pick (.bi (.bin .neq) (.v 5) (.v 6)) (.c (.bool true)) (.bi (.bin .neq) (.v 7) (.v 8))) (.un (.off 3) (.v 2))))],
   .eff (some 11) (some ((.v 9), false)) (.load none (.v 10)),
   .eff (some 12) (some ((.v 9), false)) (.load none (.un (.off 3) (.v 3))),
   .sets [(13, (.pick (.v 9) (.c (.bool true)) (.bi (.bin .neq) (.v 11) (.v 12)))), (14, (.gd false (.pick (.v 9) (.c (.bool true)) (.bi (.bin .neq) (.v 11) (.v 12))) (.un (.off 4) (.v 2))))],
   .eff (some 15) (some ((.v 13), false)) (.load none (.v 14)),
   .eff (some 16) (some ((.v 13), false)) (.load none (.un (.off 4) (.v 3)))])
 (.cond (.pick (.v 13) (.c (.bool true)) (.bi (.bin .neq) (.un .len (.v 15)) (.un .len (.v 16))))
  (.ret [.e (.c (.bool false))])
  (.skip)))
 (.seq (.seq (.st [.sets [(4, (.c (.int .i64 0)))]])
 (.block 0 (.loop [false, false, true, true, true, false, false, false, false, false, false, false, false, false, false, false, false, false, false, false] b_ref5_Same_0)))
 (.ret [.e (.c (.bool true))]))))⟩
noncomputable def r44 : ERow := ⟨Go.Proofs.Tryz.f44, ⟨[(6, (.cons 0 0 (.cons 0 2 (.cons 0 5 (.cons 0 7 (.cons 1 1 (.cons 0 3 (.cons 1 4 (.cons 1 6 (.cons 0 8 (.cons 1 9 (.cons 2 10 (.cons 0 11 .nil)))))))))))))], [(0, [false, false, true, true, false, true])]⟩, ⟨53, [0, 1, 2, 3, 5, 7, 9, 13, 15, 18, 19, 20, 22, 25, 26, 27, 30, 36, 42, 47], [45, 50], []⟩, 2, e_ref5_Same⟩

/-- whelk/whelkref5.Sym [0=s] -/
def e_ref5_Sym : EFunc := ⟨1, 2,
 (.seq (.st [.eff (some 1) none (.zbox [(.int .i64 0), (.int .i64 0), (.int .i64 0), (.str []), .nils] T_ref5_Sym_0)])
 (.seq (.st [.eff none none (.store 5 (.v 1) (.tup (.build [(.int .i64 0), (.int .i64 0), (.int .i64 0), (.str []), .nils] [(0, 1), (3, 1)]) (.cons (.c (.int .i64 2)) (.cons (.v 0) .nil))))])
 (.ret [.cell (.v 1) (some 5)])))⟩
noncomputable def r45 : ERow := ⟨Go.Proofs.Tryz.f45, ⟨[], []⟩, ⟨5, [0, 2], [], []⟩, 1, e_ref5_Sym⟩

/-- whelk/whelkref11.Parse [0=n, 1=l, 2=n, 5=h, 6=k, 7=p, 8=i, 9=x, 10=e, 11=t, 12=y, 13=j] -/
def b_ref11_Parse_0 : EC :=
 (.seq (.seq (.st [.eff (some 23) none (.load none (.un (.off 1) (.v 7)))])
 (.cond (.bi (.bin .lss) (.v 13) (.un .len (.v 23)))
  (.skip)
  (.exit 3)))
 (.seq (.block 4 (.seq (.st [.eff (some 24) none (.load none (.un (.off 1) (.v 7))),
    .eff (some 25) none (.load none (.un (.off 0) (.v 11)))])
  (.cond (.bi (.bin .eql) (.un (.ld none) (.un (.off 0) (.bi (.idx 6) (.v 24) (.v 13)))) (.v 25))
   (.st [.sets [(10, (.c (.int .i64 6)))]])
   (.skip))))
 (.st [.sets [(13, (.bi (.bin .add) (.v 13) (.c (.int .i64 1))))]])))
def b_ref11_Parse_1 : EC :=
 (.seq (.seq (.st [.eff (some 17) none (.load none (.un (.off 4) (.v 2)))])
 (.cond (.bi (.bin .lss) (.v 8) (.un .len (.v 17)))
  (.skip)
  (.exit 0)))
 (.seq (.block 1 (.seq (.st [.eff (some 18) none (.load none (.un (.off 4) (.v 2))),
    .eff (some 9) none (.zbox [(.int .i64 0), (.int .i64 0), (.int .i64 0), (.str []), .nils] T_ref11_Parse_1),
    .eff none none (.store 5 (.v 9) (.un (.ld (some 5)) (.bi (.idx 5) (.v 18) (.v 8))))])
  (.seq (.st [.sets [(10, (.c (.int .i64 0)))]])
  (.seq (.st [.eff (some 11) none (.zbox [(.int .i64 0), (.bool false), (.str []), (.int .i64 0), (.int .i64 0), (.str [])] T_ref11_Parse_0)])
  (.seq (.block 2 (.seq (.st [.eff (some 26) none (.load (some 5) (.v 9)),
     .sets [(27, (.tup (.call 0 f_ref5_Head) (.cons (.v 26) .nil)))],
     .eff (some 28) (some ((.bi (.bin .eql) (.v 27) (.c (.str []))), false)) (.load none (.un (.off 4) (.v 9)))])
   (.cond (.pick (.bi (.bin .eql) (.v 27) (.c (.str []))) (.c (.bool true)) (.bi (.bin .neq) (.un .len (.v 28)) (.c (.int .i64 2))))
    (.st [.sets [(10, (.c (.int .i64 2)))]])
    (.seq (.st [.eff (some 29) none (.load (some 5) (.v 9))])
    (.cond (.bi (.bin .lss) (.tup (.call 0 f_ref9_Template_Slot) (.cons (.un (.ld (some 2)) (.bi (.idx 2) (.v 1) (.v 6))) (.cons (.tup (.call 0 f_ref5_Head) (.cons (.v 29) .nil)) .nil))) (.c (.int .i64 0)))
     (.st [.sets [(10, (.c (.int .i64 5)))]])
     (.seq (.st [.eff (some 20) none (.load none (.un (.off 4) (.v 9))),
       .sets [(19, (.tup (.call 0 f_ref11_term) (.cons (.un (.ld (some 5)) (.bi (.idx 5) (.v 20) (.c (.int .i64 1)))) .nil)))],
       .eff (some 12) none (.zbox [(.int .i64 0), (.bool false), (.str []), (.int .i64 0), (.int .i64 0), (.str [])] T_ref11_Parse_0),
       .eff none none (.store 6 (.v 12) (.un (.ext 0) (.v 19)))])
     (.seq (.st [.eff (some 21) none (.load (some 6) (.v 12)),
       .eff none none (.store 6 (.v 11) (.v 21))])
     (.seq (.st [.eff (some 22) none (.load (some 5) (.v 9)),
       .eff none none (.store 1 (.un (.off 0) (.v 11)) (.tup (.call 0 f_ref9_Template_Slot) (.cons (.un (.ld (some 2)) (.bi (.idx 2) (.v 1) (.v 6))) (.cons (.tup (.call 0 f_ref5_Head) (.cons (.v 22) .nil)) .nil))))])
     (.seq (.cond (.un .not (.un (.ext 1) (.v 19)))
      (.st [.sets [(10, (.c (.int .i64 2)))]])
      (.skip))
     (.seq (.st [.sets [(13, (.c (.int .i64 0)))]])
     (.block 3 (.loop [false, true, true, true, true, false, true, true, true, true, true, true, false, true, false, false, false, false, false, false, false, false, false, false, false, false, false, false, false, false, false, false, false, false, false] b_ref11_Parse_0))))))))))))
  (.seq (.cond (.bi (.bin .neq) (.v 10) (.c (.int .i64 0)))
   (.seq (.st [.eff (some 30) none (.load none (.un (.off 1) (.v 9))),
     .eff none none (.store 2 (.v 3) (.tup (.build [(.str []), .nils] []) .nil)),
     .eff none none (.store 2 (.v 4) (.tup (.call 0 f_ref5_At) (.cons (.c (.str [99, 104, 97, 114])) (.cons (.v 30) (.cons (.v 10) .nil)))))])
   (.ret [.cell (.v 3) (some 2), .cell (.v 4) (some 2)]))
   (.skip))
  (.st [.eff (some 31) none (.load none (.un (.off 1) (.v 7))),
    .eff (some 32) none (.load (some 6) (.v 11)),
    .eff (some 33) none (.append 6 64 T_ref11_Parse_0 (.v 31) (.tup (.bslice 6 [(.int .i64 0), (.bool false), (.str []), (.int .i64 0), (.int .i64 0), (.str [])] 1 [0]) (.cons (.v 32) .nil))),
    .eff none none (.store 1 (.un (.off 1) (.v 7)) (.v 33))])))))))
 (.st [.sets [(8, (.bi (.bin .add) (.v 8) (.c (.int .i64 1))))]])))
def e_ref11_Parse : EFunc := ⟨2, 35,
 (.seq (.st [.eff (some 2) none (.box 5 T_ref11_Parse_1 (.v 0)),
   .eff (some 3) none (.zbox [(.str []), .nils] T_ref11_Parse_2),
   .eff (some 4) none (.zbox [.nils, (.int .i64 0)] T_ref11_Parse_3)])
 (.seq (.st [.eff (some 14) none (.load (some 5) (.v 2)),
   .sets [(5, (.tup (.call 0 f_ref5_Head) (.cons (.v 14) .nil)))]])
 (.seq (.cond (.bi (.bin .eql) (.v 5) (.c (.str [])))
  (.seq (.st [.eff (some 15) none (.load none (.un (.off 1) (.v 2))),
    .eff none none (.store 2 (.v 3) (.tup (.build [(.str []), .nils] []) .nil)),
    .eff none none (.store 2 (.v 4) (.tup (.call 0 f_ref5_At) (.cons (.c (.str [99, 104, 97, 114])) (.cons (.v 15) (.cons (.c (.int .i64 2)) .nil)))))])
  (.ret [.cell (.v 3) (some 2), .cell (.v 4) (some 2)]))
  (.skip))
 (.seq (.st [.sets [(6, (.tup (.call 0 f_ref9_Find) (.cons (.v 1) (.cons (.v 5) .nil))))]])
 (.seq (.cond (.bi (.bin .lss) (.v 6) (.c (.int .i64 0)))
  (.seq (.st [.eff (some 16) none (.load none (.un (.off 1) (.v 2))),
    .eff none none (.store 2 (.v 3) (.tup (.build [(.str []), .nils] []) .nil)),
    .eff none none (.store 2 (.v 4) (.tup (.call 0 f_ref5_At) (.cons (.c (.str [99, 104, 97, 114])) (.cons (.v 16) (.cons (.c (.int .i64 5)) .nil)))))])
  (.ret [.cell (.v 3) (some 2), .cell (.v 4) (some 2)]))
  (.skip))
 (.seq (.st [.eff (some 7) none (.zbox [(.str []), .nils] T_ref11_Parse_2),
   .eff none none (.store 2 (.v 7) (.tup (.build [(.str []), .nils] [(0, 1)]) (.cons (.v 5) .nil)))])
 (.seq (.seq (.st [.sets [(8, (.c (.int .i64 1)))]])
 (.block 0 (.loop [false, true, true, true, true, false, true, true, true, false, false, false, false, false, false, false, false, false, false, false, false, false, false, false, false, false, false, false, false, false, false, false, false, false, false] b_ref11_Parse_1)))
 (.seq (.st [.eff (some 34) none (.load (some 2) (.v 7)),
   .eff none none (.store 2 (.v 3) (.v 34)),
   .eff none none (.store 2 (.v 4) (.tup (.build [.nils, (.int .i64 0)] []) .nil))])
 (.ret [.cell (.v 3) (some 2), .cell (.v 4) (some 2)])))))))))⟩
noncomputable def r46 : ERow := ⟨Go.Proofs.Tryz.f46, ⟨[(26, (.cons 0 0 (.cons 0 1 (.cons 0 2 (.cons 1 3 (.cons 1 4 (.cons 2 5 (.cons 2 6 (.cons 0 7 (.cons 0 8 .nil)))))))))), (16, (.cons 0 0 (.cons 0 1 (.cons 0 2 (.cons 1 3 (.cons 1 4 (.cons 2 5 (.cons 2 6 (.cons 0 7 (.cons 3 8 .nil)))))))))), (22, (.cons 0 0 (.cons 0 2 (.cons 0 6 (.cons 1 1 (.cons 0 3 (.cons 0 4 (.cons 1 5 (.cons 1 7 (.cons 0 8 .nil))))))))))], [(0, [false, true, true, false, true, true, false, true, true, true]), (3, [false, true, true, false, true, true, false, true, true, true, true, true, true, false, false, true])]⟩, ⟨116, [0, 1, 2, 4, 5, 6, 7, 8, 9, 10, 11, 12, 13, 15, 16, 22, 31, 37, 43, 47, 49, 55, 60, 68, 74, 80, 83, 84, 88, 97, 105, 109, 110, 112, 114], [46, 96, 51, 59, 78], [84, 47]⟩, 2, e_ref11_Parse⟩

/-- whelk/whelkref12.one [0=n, 1=t, 2=f, 3=n, 6=k, 7=p, 8=w, 9=e, 10=w, 11=kids, 12=w] -/
def e_ref12_one : EFunc := ⟨3, 29,
 (.seq (.st [.eff (some 3) none (.box 5 T_ref12_one_0 (.v 0)),
   .eff (some 4) none (.zbox [(.int .i64 0), (.str []), (.str []), .nils, (.int .i64 0), (.int .i64 0), (.int .i64 0), (.str []), (.str []), .nils, .nils] T_ref12_one_1),
   .eff (some 5) none (.zbox [.nils, (.int .i64 0)] T_ref12_one_2)])
 (.seq (.st [.eff (some 13) none (.load (some 5) (.v 3)),
   .sets [(6, (.tup (.call 0 f_ref12_kind) (.cons (.tup (.call 0 f_ref5_Head) (.cons (.v 13) .nil)) .nil)))]])
 (.seq (.cond (.bi (.bin .eql) (.v 6) (.c (.int .i64 0)))
  (.seq (.st [.eff (some 15) none (.load (some 5) (.v 3)),
    .sets [(14, (.tup (.call 0 f_ref11_Parse) (.cons (.v 15) (.cons (.v 1) .nil))))],
    .eff (some 7) none (.zbox [(.str []), .nils] T_ref12_one_3),
    .eff (some 8) none (.zbox [.nils, (.int .i64 0)] T_ref12_one_2),
    .eff none none (.store 2 (.v 7) (.un (.ext 0) (.v 14))),
    .eff none none (.store 2 (.v 8) (.un (.ext 1) (.v 14)))])
  (.seq (.st [.eff (some 16) none (.load (some 2) (.v 7)),
    .eff (some 17) none (.load (some 2) (.v 8)),
    .chk (.tup .apart (.cons (.v 4) (.cons (.v 8) (.cons (.v 7) .nil)))),
    .eff none none (.store 11 (.v 4) (.tup (.build [(.int .i64 0), (.str []), (.str []), .nils, (.int .i64 0), (.int .i64 0), (.int .i64 0), (.str []), (.str []), .nils, .nils] [(0, 1), (2, 2)]) (.cons (.c (.int .i64 1)) (.cons (.v 16) .nil)))),
    .chk (.tup .apart (.cons (.v 5) (.cons (.v 8) (.cons (.v 7) .nil)))),
    .eff none none (.store 2 (.v 5) (.v 17))])
  (.ret [.cell (.v 4) (some 11), .cell (.v 5) (some 2)])))
  (.skip))
 (.seq (.cond (.bi (.bin .eql) (.v 6) (.c (.int .i64 2)))
  (.seq (.seq (.st [.eff (some 18) none (.load none (.un (.off 4) (.v 3)))])
  (.cond (.bi (.bin .neq) (.un .len (.v 18)) (.c (.int .i64 2)))
   (.seq (.st [.eff (some 19) none (.load none (.un (.off 1) (.v 3))),
     .eff none none (.store 11 (.v 4) (.tup (.build [(.int .i64 0), (.str []), (.str []), .nils, (.int .i64 0), (.int .i64 0), (.int .i64 0), (.str []), (.str []), .nils, .nils] []) .nil)),
     .eff none none (.store 2 (.v 5) (.tup (.call 0 f_ref5_At) (.cons (.c (.str [99, 104, 97, 114])) (.cons (.v 19) (.cons (.c (.int .i64 2)) .nil)))))])
   (.ret [.cell (.v 4) (some 11), .cell (.v 5) (some 2)]))
   (.skip)))
  (.seq (.st [.eff (some 21) none (.load none (.un (.off 4) (.v 3))),
    .sets [(20, (.tup (.call 0 f_ref7_Parse) (.cons (.un (.ld (some 5)) (.bi (.idx 5) (.v 21) (.c (.int .i64 1)))) (.cons (.v 2) .nil))))],
    .eff (some 9) none (.zbox [(.int .i64 0), (.int .i64 0), (.int .i64 0), (.str []), (.str []), .nils] T_ref12_one_4),
    .eff (some 10) none (.zbox [.nils, (.int .i64 0)] T_ref12_one_2),
    .eff none none (.store 6 (.v 9) (.un (.ext 0) (.v 20))),
    .eff none none (.store 2 (.v 10) (.un (.ext 1) (.v 20)))])
  (.seq (.st [.eff (some 22) none (.load (some 6) (.v 9)),
    .eff (some 23) none (.load (some 2) (.v 10)),
    .chk (.tup .apart (.cons (.v 4) (.cons (.v 10) (.cons (.v 9) .nil)))),
    .eff none none (.store 11 (.v 4) (.tup (.build [(.int .i64 0), (.str []), (.str []), .nils, (.int .i64 0), (.int .i64 0), (.int .i64 0), (.str []), (.str []), .nils, .nils] [(0, 1), (4, 6)]) (.cons (.c (.int .i64 2)) (.cons (.v 22) .nil)))),
    .chk (.tup .apart (.cons (.v 5) (.cons (.v 10) (.cons (.v 9) .nil)))),
    .eff none none (.store 2 (.v 5) (.v 23))])
  (.ret [.cell (.v 4) (some 11), .cell (.v 5) (some 2)]))))
  (.skip))
 (.seq (.st [.eff (some 25) none (.load none (.un (.off 4) (.v 3))),
   .sets [(24, (.tup (.call 0 f_ref12_Parse) (.cons (.lsub 5 true false false (.v 25) (.c (.int .i64 1)) (.c .undef) (.c .undef)) (.cons (.v 1) (.cons (.v 2) .nil)))))],
   .eff (some 12) none (.zbox [.nils, (.int .i64 0)] T_ref12_one_2),
   .sets [(11, (.un (.ext 0) (.v 24)))],
   .eff none none (.store 2 (.v 12) (.un (.ext 1) (.v 24)))])
 (.seq (.seq (.st [.eff (some 26) none (.load none (.un (.off 1) (.v 12)))])
 (.cond (.bi (.bin .neq) (.v 26) (.c (.int .i64 0)))
  (.seq (.st [.eff (some 27) none (.load (some 2) (.v 12)),
    .chk (.tup .apart (.cons (.v 4) (.cons (.v 12) .nil))),
    .eff none none (.store 11 (.v 4) (.tup (.build [(.int .i64 0), (.str []), (.str []), .nils, (.int .i64 0), (.int .i64 0), (.int .i64 0), (.str []), (.str []), .nils, .nils] []) .nil)),
    .chk (.tup .apart (.cons (.v 5) (.cons (.v 12) .nil))),
    .eff none none (.store 2 (.v 5) (.v 27))])
  (.ret [.cell (.v 4) (some 11), .cell (.v 5) (some 2)]))
  (.skip)))
 (.seq (.cond (.pick (.pick (.bi (.bin .eql) (.un .len (.v 11)) (.c (.int .i64 0))) (.c (.bool true)) (.pick (.bi (.bin .eql) (.v 6) (.c (.int .i64 3))) (.bi (.bin .neq) (.un .len (.v 11)) (.c (.int .i64 1))) (.c (.bool false)))) (.c (.bool true)) (.pick (.bi (.bin .eql) (.v 6) (.c (.int .i64 7))) (.bi (.bin .lss) (.un .len (.v 11)) (.c (.int .i64 2))) (.c (.bool false))))
  (.seq (.st [.eff (some 28) none (.load none (.un (.off 1) (.v 3))),
    .eff none none (.store 11 (.v 4) (.tup (.build [(.int .i64 0), (.str []), (.str []), .nils, (.int .i64 0), (.int .i64 0), (.int .i64 0), (.str []), (.str []), .nils, .nils] []) .nil)),
    .eff none none (.store 2 (.v 5) (.tup (.call 0 f_ref5_At) (.cons (.c (.str [99, 104, 97, 114])) (.cons (.v 28) (.cons (.c (.int .i64 2)) .nil)))))])
  (.ret [.cell (.v 4) (some 11), .cell (.v 5) (some 2)]))
  (.skip))
 (.seq (.st [.eff none none (.store 11 (.v 4) (.tup (.build [(.int .i64 0), (.str []), (.str []), .nils, (.int .i64 0), (.int .i64 0), (.int .i64 0), (.str []), (.str []), .nils, .nils] [(0, 1), (10, 1)]) (.cons (.v 6) (.cons (.v 11) .nil)))),
   .eff none none (.store 2 (.v 5) (.tup (.build [.nils, (.int .i64 0)] []) .nil))])
 (.ret [.cell (.v 4) (some 11), .cell (.v 5) (some 2)])))))))))⟩
noncomputable def r47 : ERow := ⟨Go.Proofs.Tryz.f47, ⟨[(4, (.cons 1 0 (.cons 0 1 (.cons 1 2 (.cons 2 3 (.cons 2 4 .nil)))))), (9, (.cons 1 0 (.cons 0 1 (.cons 1 2 (.cons 2 3 (.cons 2 4 .nil)))))), (12, (.cons 0 0 (.cons 1 1 (.cons 2 2 (.cons 2 3 .nil)))))], []⟩, ⟨94, [0, 1, 2, 3, 6, 7, 8, 9, 10, 11, 12, 13, 14, 15, 20, 21, 26, 28, 32, 37, 39, 41, 48, 50, 51, 53, 61, 64, 88], [43], [20, 39, 51]⟩, 3, e_ref12_one⟩

/-- whelk/whelkref3.Sym [0=s] -/
def e_ref3_Sym : EFunc := ⟨1, 2,
 (.seq (.st [.eff (some 1) none (.zbox [(.int .i64 0), (.int .i64 0), (.str [])] T_ref3_Sym_0)])
 (.seq (.st [.eff none none (.store 3 (.v 1) (.tup (.build [(.int .i64 0), (.int .i64 0), (.str [])] [(0, 1), (2, 1)]) (.cons (.c (.int .i64 2)) (.cons (.v 0) .nil))))])
 (.ret [.cell (.v 1) (some 3)])))⟩
noncomputable def r48 : ERow := ⟨Go.Proofs.Tryz.f48, ⟨[], []⟩, ⟨5, [0, 2], [], []⟩, 1, e_ref3_Sym⟩

/-- slices.ContainsFunc[[]whelk/cond.CE,whelk/cond.CE] [0=s, 1=f] -/
def e_slices_ContainsFunc_cond_CE_cond_CE : EFunc := ⟨2, 3,
 (.seq (.st [.eff (some 2) none (.calls [false, true, true, true, true, true, true, true, true, true, true, true, true, true, true, true] f_slices_IndexFunc_cond_CE_cond_CE (.cons (.v 0) (.cons (.v 1) .nil)))])
 (.ret [.e (.bi (.bin .geq) (.v 2) (.c (.int .i64 0)))]))⟩
noncomputable def r49 : ERow := ⟨Go.Proofs.Tryz.f49, ⟨[], []⟩, ⟨9, [0, 1, 7], [], []⟩, 2, e_slices_ContainsFunc_cond_CE_cond_CE⟩

/-- whelk/norm.logical$1 [0=c, 1=c] -/
def e_norm_logical_1 : EFunc := ⟨1, 4,
 (.seq (.st [.eff (some 1) none (.box 11 T_norm_logical_1_0 (.v 0))])
 (.seq (.st [.eff (some 2) none (.load none (.un (.off 0) (.v 1))),
   .eff (some 3) (some ((.bi (.bin .eql) (.v 2) (.c (.int .i64 8))), false)) (.load none (.un (.off 10) (.v 1)))])
 (.ret [.e (.pick (.bi (.bin .eql) (.v 2) (.c (.int .i64 8))) (.c (.bool true)) (.tup (.call 0 f_norm_logical) (.cons (.v 3) .nil)))])))⟩
noncomputable def r50 : ERow := ⟨Go.Proofs.Tryz.f50, ⟨[], []⟩, ⟨11, [0, 1, 4, 8], [], []⟩, 1, e_norm_logical_1⟩

/-- whelk/norm.one [0=c, 1=c, 2=x] -/
def e_norm_one : EFunc := ⟨1, 21,
 (.seq (.st [.eff (some 1) none (.box 11 T_norm_one_0 (.v 0))])
 (.seq (.seq (.st [.eff (some 3) none (.load none (.un (.off 0) (.v 1)))])
 (.block 0 (.seq (.block 8 (.block 7 (.seq (.block 6 (.seq (.block 5 (.seq (.block 4 (.seq (.block 3 (.seq (.block 2 (.seq (.block 1 (.seq (.seq (.cond (.bi (.bin .eql) (.v 3) (.c (.int .i64 1)))
           (.exit 1)
           (.skip))
          (.seq (.cond (.bi (.bin .eql) (.v 3) (.c (.int .i64 2)))
           (.exit 2)
           (.skip))
          (.seq (.cond (.bi (.bin .eql) (.v 3) (.c (.int .i64 5)))
           (.exit 3)
           (.skip))
          (.seq (.cond (.bi (.bin .eql) (.v 3) (.c (.int .i64 3)))
           (.exit 4)
           (.skip))
          (.seq (.cond (.bi (.bin .eql) (.v 3) (.c (.int .i64 6)))
           (.exit 5)
           (.skip))
          (.seq (.cond (.bi (.bin .eql) (.v 3) (.c (.int .i64 7)))
           (.exit 6)
           (.skip))
          (.seq (.cond (.bi (.bin .eql) (.v 3) (.c (.int .i64 8)))
           (.exit 7)
           (.skip))
          (.cond (.bi (.bin .eql) (.v 3) (.c (.int .i64 4)))
           (.exit 8)
           (.skip)))))))))
          (.exit 0)))
         (.seq (.st [.eff (some 4) none (.load none (.un (.off 1) (.v 1))),
           .eff (some 5) none (.load (some 2) (.un (.off 2) (.v 1)))])
         (.ret [.e (.tup (.bslice 1 [.nils] 1 [0]) (.cons (.tup (.bslice 11 [(.int .i64 0), (.str []), (.str []), .nils, (.int .i64 0), (.int .i64 0), (.int .i64 0), (.str []), (.str []), .nils, .nils] 1 [0]) (.cons (.tup (.build [(.int .i64 0), (.str []), (.str []), .nils, (.int .i64 0), (.int .i64 0), (.int .i64 0), (.str []), (.str []), .nils, .nils] [(0, 1), (1, 1), (2, 2)]) (.cons (.c (.int .i64 1)) (.cons (.v 4) (.cons (.v 5) .nil)))) .nil)) .nil)), .e (.c (.int .i64 0))]))))
        (.seq (.st [.eff (some 6) none (.load (some 6) (.un (.off 4) (.v 1)))])
        (.ret [.e (.tup (.bslice 1 [.nils] 1 [0]) (.cons (.tup (.bslice 11 [(.int .i64 0), (.str []), (.str []), .nils, (.int .i64 0), (.int .i64 0), (.int .i64 0), (.str []), (.str []), .nils, .nils] 1 [0]) (.cons (.tup (.build [(.int .i64 0), (.str []), (.str []), .nils, (.int .i64 0), (.int .i64 0), (.int .i64 0), (.str []), (.str []), .nils, .nils] [(0, 1), (4, 6)]) (.cons (.c (.int .i64 2)) (.cons (.v 6) .nil))) .nil)) .nil)), .e (.c (.int .i64 0))]))))
       (.seq (.st [.eff (some 7) none (.load none (.un (.off 10) (.v 1))),
         .sets [(8, (.tup (.call 0 f_norm_or) (.cons (.v 7) .nil)))]])
       (.ret [.e (.un (.ext 0) (.v 8)), .e (.un (.ext 1) (.v 8))]))))
      (.seq (.st [.eff (some 10) none (.load none (.un (.off 10) (.v 1))),
        .sets [(9, (.tup (.call 0 f_norm_and) (.cons (.v 10) .nil)))]])
      (.seq (.st [.sets [(11, (.tup (.call 0 f_norm_single) (.cons (.tup (.call 0 f_norm_negs) (.cons (.un (.ext 0) (.v 9)) .nil)) (.cons (.un (.ext 1) (.v 9)) .nil))))]])
      (.ret [.e (.un (.ext 0) (.v 11)), .e (.un (.ext 1) (.v 11))])))))
     (.seq (.st [.eff (some 13) none (.load none (.un (.off 10) (.v 1))),
       .sets [(12, (.tup (.call 0 f_norm_and) (.cons (.v 13) .nil)))],
       .sets [(2, (.un (.ext 0) (.v 12)))]])
     (.seq (.cond (.bi (.bin .neq) (.un (.ext 1) (.v 12)) (.c (.int .i64 0)))
      (.ret [.e (.c .nils), .e (.un (.ext 1) (.v 12))])
      (.skip))
     (.seq (.st [.sets [(14, (.tup (.call 0 f_norm_single) (.cons (.tup (.bslice 11 [(.int .i64 0), (.str []), (.str []), .nils, (.int .i64 0), (.int .i64 0), (.int .i64 0), (.str []), (.str []), .nils, .nils] 1 [0]) (.cons (.tup (.build [(.int .i64 0), (.str []), (.str []), .nils, (.int .i64 0), (.int .i64 0), (.int .i64 0), (.str []), (.str []), .nils, .nils] [(0, 1), (10, 1)]) (.cons (.c (.int .i64 3)) (.cons (.tup (.call 0 f_norm_negs) (.cons (.v 2) .nil)) .nil))) .nil)) (.cons (.c (.int .i64 0)) .nil))))]])
     (.ret [.e (.un (.ext 0) (.v 14)), .e (.un (.ext 1) (.v 14))]))))))
    (.seq (.seq (.st [.eff (some 15) none (.load none (.un (.off 10) (.v 1)))])
    (.cond (.bi (.bin .eql) (.un .len (.v 15)) (.c (.int .i64 0)))
     (.ret [.e (.c .nils), .e (.c (.int .i64 2))])
     (.skip)))
    (.seq (.st [.eff (some 16) none (.load none (.un (.off 10) (.v 1))),
      .sets [(17, (.tup (.call 0 f_norm_forall) (.cons (.v 16) .nil)))],
      .sets [(18, (.tup (.call 0 f_norm_single) (.cons (.un (.ext 0) (.v 17)) (.cons (.un (.ext 1) (.v 17)) .nil))))]])
    (.ret [.e (.un (.ext 0) (.v 18)), .e (.un (.ext 1) (.v 18))]))))))
  (.seq (.st [.eff (some 19) none (.load none (.un (.off 10) (.v 1))),
    .sets [(20, (.tup (.call 0 f_norm_and) (.cons (.v 19) .nil)))]])
  (.ret [.e (.un (.ext 0) (.v 20)), .e (.un (.ext 1) (.v 20))])))))
 (.ret [.e (.c .nils), .e (.c (.int .i64 2))])))⟩
noncomputable def r51 : ERow := ⟨Go.Proofs.Tryz.f51, ⟨[], []⟩, ⟨88, [0, 1, 6, 9, 27, 29, 34, 39, 40, 43, 45, 52, 55, 57, 68, 72, 76, 77, 80, 84, 85], [], [40, 52, 68, 77, 80, 85, 43, 55]⟩, 1, e_norm_one⟩

/-- whelk/norm.put [0=out, 1=r] -/
def e_norm_put : EFunc := ⟨2, 3,
 (.seq (.cond (.pick (.bi (.bin .geq) (.un .len (.v 0)) (.c (.int .i64 16))) (.c (.bool true)) (.bi (.bin .gtr) (.tup (.call 0 f_norm_Count) (.cons (.v 1) .nil)) (.c (.int .i64 40))))
  (.ret [.e (.c .nils), .e (.c (.int .i64 4))])
  (.skip))
 (.seq (.st [.eff (some 2) none (.append 1 24 T_norm_put_0 (.v 0) (.tup (.bslice 1 [.nils] 1 [0]) (.cons (.tup (.call 1 f_slices_Clip_norm_row_norm_Lit) (.cons (.v 1) .nil)) .nil)))])
 (.ret [.e (.v 2), .e (.c (.int .i64 0))])))⟩
noncomputable def r52 : ERow := ⟨Go.Proofs.Tryz.f52, ⟨[], []⟩, ⟨19, [0, 1, 18], [], []⟩, 2, e_norm_put⟩

/-- slices.Concat[whelk/norm.row,whelk/norm.Lit] [0=slices, 1=size, 2=newslice] FAILS [slices.go:496] -/
def b_slices_Concat_norm_row_norm_Lit_0 : EC :=
 (.seq (.cond (.bi (.bin .lss) (.v 5) (.v 4))
  (.skip)
  (.exit 0))
 (.seq (.block 1 (.seq (.st [.sets [(1, (.bi (.bin .add) (.v 1) (.un .len (.un (.ld none) (.bi (.idx 1) (.v 3) (.v 5))))))]])
  (.cond (.bi (.bin .lss) (.v 1) (.c (.int .i64 0)))
   (.st [.sets [(6, (.un (.iface T_slices_Concat_norm_row_norm_Lit_1) (.c (.str [108, 101, 110, 32, 111, 117, 116, 32, 111, 102, 32, 114, 97, 110, 103, 101]))))],
     .eff none none .fail])
   (.skip))))
 (.st [.sets [(5, (.bi (.bin .add) (.v 5) (.c (.int .i64 1))))]])))
def b_slices_Concat_norm_row_norm_Lit_1 : EC :=
 (.seq (.cond (.bi (.bin .lss) (.v 10) (.v 9))
  (.skip)
  (.exit 2))
 (.seq (.block 3 (.st [.eff (some 11) none (.append 11 168 T_slices_Concat_norm_row_norm_Lit_0 (.v 2) (.un (.ld none) (.bi (.idx 1) (.v 8) (.v 10)))),
    .sets [(2, (.v 11))]]))
 (.st [.sets [(10, (.bi (.bin .add) (.v 10) (.c (.int .i64 1))))]])))
def e_slices_Concat_norm_row_norm_Lit : EFunc := ⟨1, 12,
 (.seq (.st [.sets [(1, (.c (.int .i64 0)))]])
 (.seq (.seq (.st [.sets [(3, (.v 0)), (4, (.un .len (.v 0))), (5, (.c (.int .i64 0)))]])
 (.block 0 (.loop [true, true, false, true, true, true, false, false, false, false, false, false] b_slices_Concat_norm_row_norm_Lit_0)))
 (.seq (.st [.eff (some 7) none (.calls [true, true, true, true, true, true, true, true, true, true, true, true, true, true, true, true] f_slices_Grow_norm_row_norm_Lit (.cons (.c .nils) (.cons (.v 1) .nil))),
   .sets [(2, (.v 7))]])
 (.seq (.seq (.st [.sets [(8, (.v 0)), (9, (.un .len (.v 0))), (10, (.c (.int .i64 0)))]])
 (.block 2 (.loop [false, false, true, false, false, false, false, false, true, true, true, false] b_slices_Concat_norm_row_norm_Lit_1)))
 (.ret [.e (.v 2)])))))⟩
noncomputable def r53 : ERow := ⟨Go.Proofs.Tryz.f53, ⟨[], [(0, [true, false, false, true, false, false, false, false, false, true, true, true]), (2, [false, false, false, false, false, false, true, false, false, false, false, false, false, false, false, false, false, false, false, false, false, false, false, false, false, true, true, true])]⟩, ⟨36, [0, 3, 6, 9, 10, 11, 21, 24, 25, 26, 27, 33], [14, 30], []⟩, 1, e_slices_Concat_norm_row_norm_Lit⟩

/-- whelk/norm.clone [0=e, 1=e, 3=l, 4=k] -/
def b_norm_clone_0 : EC :=
 (.seq (.cond (.bi (.bin .lss) (.v 7) (.v 6))
  (.skip)
  (.exit 0))
 (.seq (.block 1 (.seq (.st [.eff (some 4) none (.zbox [(.int .i64 0), (.int .i64 0), (.int .i64 0), (.str []), (.str []), .nils] T_norm_clone_0),
    .eff none none (.store 6 (.v 4) (.un (.ld (some 6)) (.bi (.idx 6) (.v 5) (.v 7))))])
  (.st [.eff (some 8) none (.load (some 6) (.v 4)),
    .eff (some 9) none (.append 6 80 T_norm_clone_0 (.v 3) (.tup (.bslice 6 [(.int .i64 0), (.int .i64 0), (.int .i64 0), (.str []), (.str []), .nils] 1 [0]) (.cons (.tup (.call 0 f_norm_clone) (.cons (.v 8) .nil)) .nil))),
    .sets [(3, (.v 9))]])))
 (.st [.sets [(7, (.bi (.bin .add) (.v 7) (.c (.int .i64 1))))]])))
def e_norm_clone : EFunc := ⟨1, 11,
 (.seq (.st [.eff (some 1) none (.box 6 T_norm_clone_0 (.v 0)),
   .eff (some 2) none (.zbox [(.int .i64 0), (.int .i64 0), (.int .i64 0), (.str []), (.str []), .nils] T_norm_clone_0)])
 (.seq (.st [.sets [(3, (.c .nils))]])
 (.seq (.seq (.st [.eff (some 5) none (.load none (.un (.off 5) (.v 1))),
   .sets [(6, (.un .len (.v 5))), (7, (.c (.int .i64 0)))]])
 (.block 0 (.loop [false, true, true, true, false, true, true, true, false, false, false] b_norm_clone_0)))
 (.seq (.st [.eff none none (.store 1 (.un (.off 5) (.v 1)) (.tup (.call 1 f_slices_Clip_expr_Expr_expr_Expr) (.cons (.v 3) .nil)))])
 (.seq (.st [.eff (some 10) none (.load (some 6) (.v 1)),
   .eff none none (.store 6 (.v 2) (.v 10))])
 (.ret [.cell (.v 2) (some 6)]))))))⟩
noncomputable def r54 : ERow := ⟨Go.Proofs.Tryz.f54, ⟨[], [(0, [false, true, true, true, false, false, false, true, true, true])]⟩, ⟨23, [0, 1, 2, 3, 5, 7, 8, 9, 14, 17, 22], [12], []⟩, 1, e_norm_clone⟩

/-- slices.Clip[[]whelk/norm.Lit,whelk/norm.Lit] [0=s] -/
def e_slices_Clip_norm_Lit_norm_Lit : EFunc := ⟨1, 1,
 (.ret [.e (.lsub 11 false true true (.v 0) (.c .undef) (.un .len (.v 0)) (.un .len (.v 0)))])⟩
noncomputable def r55 : ERow := ⟨Go.Proofs.Tryz.f55, ⟨[], []⟩, ⟨9, [0], [], []⟩, 1, e_slices_Clip_norm_Lit_norm_Lit⟩

/-- whelk/whelkref12.alts [0=c, 1=c, 2=out, 3=i, 4=x, 5=x, 6=x, 7=x, 8=y, 9=out, 10=i] -/
def b_ref12_alts_0 : EC :=
 (.seq (.seq (.st [.eff (some 17) none (.load none (.un (.off 10) (.v 1)))])
 (.cond (.bi (.bin .lss) (.v 3) (.un .len (.v 17)))
  (.skip)
  (.exit 1)))
 (.seq (.block 2 (.seq (.st [.eff (some 19) none (.load none (.un (.off 10) (.v 1))),
    .sets [(18, (.tup (.call 0 f_ref12_alts) (.cons (.un (.ld (some 11)) (.bi (.idx 11) (.v 19) (.v 3))) .nil)))],
    .sets [(4, (.un (.ext 0) (.v 18)))]])
  (.seq (.cond (.bi (.bin .neq) (.un (.ext 1) (.v 18)) (.c (.int .i64 0)))
   (.ret [.e (.c .nils), .e (.un (.ext 1) (.v 18))])
   (.skip))
  (.seq (.st [.eff (some 20) none (.append 1 24 T_ref12_alts_0 (.v 2) (.v 4)),
    .sets [(2, (.v 20))]])
  (.cond (.un .not (.tup (.call 0 f_ref12_few) (.cons (.v 2) .nil)))
   (.ret [.e (.c .nils), .e (.c (.int .i64 4))])
   (.skip))))))
 (.st [.sets [(3, (.bi (.bin .add) (.v 3) (.c (.int .i64 1))))]])))
def b_ref12_alts_1 : EC :=
 (.seq (.cond (.bi (.bin .lss) (.v 10) (.un .len (.v 7)))
  (.skip)
  (.exit 3))
 (.seq (.block 4 (.st [.eff (some 31) none (.append 11 168 T_ref12_alts_1 (.tup (.bslice 11 [(.int .i64 0), (.str []), (.str []), .nils, (.int .i64 0), (.int .i64 0), (.int .i64 0), (.str []), (.str []), .nils, .nils] 0 []) .nil) (.un (.ld none) (.bi (.idx 1) (.v 7) (.v 10)))),
    .eff (some 32) none (.append 11 168 T_ref12_alts_1 (.v 31) (.tup (.call 0 f_ref12_negs) (.cons (.v 8) .nil))),
    .eff (some 33) none (.append 11 168 T_ref12_alts_1 (.v 9) (.tup (.bslice 11 [(.int .i64 0), (.str []), (.str []), .nils, (.int .i64 0), (.int .i64 0), (.int .i64 0), (.str []), (.str []), .nils, .nils] 1 [0]) (.cons (.tup (.build [(.int .i64 0), (.str []), (.str []), .nils, (.int .i64 0), (.int .i64 0), (.int .i64 0), (.str []), (.str []), .nils, .nils] [(0, 1), (10, 1)]) (.cons (.c (.int .i64 3)) (.cons (.v 32) .nil))) .nil))),
    .sets [(9, (.v 33))]]))
 (.st [.sets [(10, (.bi (.bin .add) (.v 10) (.c (.int .i64 1))))]])))
def e_ref12_alts : EFunc := ⟨1, 35,
 (.seq (.st [.eff (some 1) none (.box 11 T_ref12_alts_2 (.v 0))])
 (.seq (.seq (.st [.eff (some 11) none (.load none (.un (.off 0) (.v 1)))])
 (.block 0 (.cond (.bi (.bin .eql) (.v 11) (.c (.int .i64 1)))
   (.seq (.st [.eff (some 12) none (.load none (.un (.off 1) (.v 1))),
     .eff (some 13) none (.load (some 2) (.un (.off 2) (.v 1)))])
   (.ret [.e (.tup (.bslice 1 [.nils] 1 [0]) (.cons (.tup (.bslice 11 [(.int .i64 0), (.str []), (.str []), .nils, (.int .i64 0), (.int .i64 0), (.int .i64 0), (.str []), (.str []), .nils, .nils] 1 [0]) (.cons (.tup (.build [(.int .i64 0), (.str []), (.str []), .nils, (.int .i64 0), (.int .i64 0), (.int .i64 0), (.str []), (.str []), .nils, .nils] [(0, 1), (1, 1), (2, 2)]) (.cons (.c (.int .i64 1)) (.cons (.v 12) (.cons (.v 13) .nil)))) .nil)) .nil)), .e (.c (.int .i64 0))]))
   (.cond (.bi (.bin .eql) (.v 11) (.c (.int .i64 2)))
    (.seq (.st [.eff (some 14) none (.load (some 6) (.un (.off 4) (.v 1)))])
    (.ret [.e (.tup (.bslice 1 [.nils] 1 [0]) (.cons (.tup (.bslice 11 [(.int .i64 0), (.str []), (.str []), .nils, (.int .i64 0), (.int .i64 0), (.int .i64 0), (.str []), (.str []), .nils, .nils] 1 [0]) (.cons (.tup (.build [(.int .i64 0), (.str []), (.str []), .nils, (.int .i64 0), (.int .i64 0), (.int .i64 0), (.str []), (.str []), .nils, .nils] [(0, 1), (4, 6)]) (.cons (.c (.int .i64 2)) (.cons (.v 14) .nil))) .nil)) .nil)), .e (.c (.int .i64 0))]))
    (.cond (.bi (.bin .eql) (.v 11) (.c (.int .i64 4)))
     (.seq (.st [.eff (some 15) none (.load none (.un (.off 10) (.v 1))),
       .sets [(16, (.tup (.call 0 f_ref12_rows) (.cons (.v 15) .nil)))]])
     (.ret [.e (.un (.ext 0) (.v 16)), .e (.un (.ext 1) (.v 16))]))
     (.cond (.bi (.bin .eql) (.v 11) (.c (.int .i64 5)))
      (.seq (.st [.sets [(2, (.c .nils))]])
      (.seq (.seq (.st [.sets [(3, (.c (.int .i64 0)))]])
      (.block 1 (.loop [false, true, true, true, false, false, false, false, false, false, false, false, false, false, false, false, false, false, false, false, false, false, false, false, false, false, false, false, false, false, false, false, false, false, false] b_ref12_alts_0)))
      (.ret [.e (.v 2), .e (.c (.int .i64 0))])))
      (.cond (.bi (.bin .eql) (.v 11) (.c (.int .i64 3)))
       (.seq (.st [.eff (some 22) none (.load none (.un (.off 10) (.v 1))),
         .sets [(21, (.tup (.call 0 f_ref12_alts) (.cons (.un (.ld (some 11)) (.bi (.idx 11) (.v 22) (.c (.int .i64 0)))) .nil)))],
         .sets [(5, (.un (.ext 0) (.v 21)))]])
       (.seq (.cond (.bi (.bin .neq) (.un (.ext 1) (.v 21)) (.c (.int .i64 0)))
        (.ret [.e (.c .nils), .e (.un (.ext 1) (.v 21))])
        (.skip))
       (.seq (.st [.sets [(23, (.tup (.call 0 f_ref12_fit) (.cons (.tup (.bslice 1 [.nils] 1 [0]) (.cons (.tup (.call 0 f_ref12_negs) (.cons (.v 5) .nil)) .nil)) .nil)))]])
       (.ret [.e (.un (.ext 0) (.v 23)), .e (.un (.ext 1) (.v 23))]))))
       (.cond (.bi (.bin .eql) (.v 11) (.c (.int .i64 6)))
        (.seq (.st [.eff (some 25) none (.load none (.un (.off 10) (.v 1))),
          .sets [(24, (.tup (.call 0 f_ref12_rows) (.cons (.v 25) .nil)))],
          .sets [(6, (.un (.ext 0) (.v 24)))]])
        (.seq (.cond (.bi (.bin .neq) (.un (.ext 1) (.v 24)) (.c (.int .i64 0)))
         (.ret [.e (.c .nils), .e (.un (.ext 1) (.v 24))])
         (.skip))
        (.seq (.st [.sets [(26, (.tup (.call 0 f_ref12_negs) (.cons (.v 6) .nil)))]])
        (.ret [.e (.un (.ext 0) (.tup (.call 0 f_ref12_fit) (.cons (.tup (.bslice 1 [.nils] 1 [0]) (.cons (.tup (.bslice 11 [(.int .i64 0), (.str []), (.str []), .nils, (.int .i64 0), (.int .i64 0), (.int .i64 0), (.str []), (.str []), .nils, .nils] 1 [0]) (.cons (.tup (.build [(.int .i64 0), (.str []), (.str []), .nils, (.int .i64 0), (.int .i64 0), (.int .i64 0), (.str []), (.str []), .nils, .nils] [(0, 1), (10, 1)]) (.cons (.c (.int .i64 3)) (.cons (.v 26) .nil))) .nil)) .nil)) .nil))), .e (.un (.ext 1) (.tup (.call 0 f_ref12_fit) (.cons (.tup (.bslice 1 [.nils] 1 [0]) (.cons (.tup (.bslice 11 [(.int .i64 0), (.str []), (.str []), .nils, (.int .i64 0), (.int .i64 0), (.int .i64 0), (.str []), (.str []), .nils, .nils] 1 [0]) (.cons (.tup (.build [(.int .i64 0), (.str []), (.str []), .nils, (.int .i64 0), (.int .i64 0), (.int .i64 0), (.str []), (.str []), .nils, .nils] [(0, 1), (10, 1)]) (.cons (.c (.int .i64 3)) (.cons (.v 26) .nil))) .nil)) .nil)) .nil)))]))))
        (.cond (.bi (.bin .eql) (.v 11) (.c (.int .i64 7)))
         (.seq (.st [.eff (some 28) none (.load none (.un (.off 10) (.v 1))),
           .sets [(27, (.tup (.call 0 f_ref12_alts) (.cons (.un (.ld (some 11)) (.bi (.idx 11) (.v 28) (.c (.int .i64 0)))) .nil)))],
           .sets [(7, (.un (.ext 0) (.v 27)))]])
         (.seq (.cond (.bi (.bin .neq) (.un (.ext 1) (.v 27)) (.c (.int .i64 0)))
          (.ret [.e (.c .nils), .e (.un (.ext 1) (.v 27))])
          (.skip))
         (.seq (.st [.eff (some 30) none (.load none (.un (.off 10) (.v 1))),
           .sets [(29, (.tup (.call 0 f_ref12_rows) (.cons (.lsub 11 true false false (.v 30) (.c (.int .i64 1)) (.c .undef) (.c .undef)) .nil)))],
           .sets [(8, (.un (.ext 0) (.v 29)))]])
         (.seq (.cond (.bi (.bin .neq) (.un (.ext 1) (.v 29)) (.c (.int .i64 0)))
          (.ret [.e (.c .nils), .e (.un (.ext 1) (.v 29))])
          (.skip))
         (.seq (.st [.sets [(9, (.c .nils))]])
         (.seq (.seq (.st [.sets [(10, (.c (.int .i64 0)))]])
         (.block 3 (.loop [false, false, false, false, false, false, false, true, true, true, true, false, false, false, false, false, false, false, false, false, false, false, false, false, false, false, false, false, false, false, false, false, false, false, false] b_ref12_alts_1)))
         (.seq (.st [.sets [(34, (.tup (.call 0 f_ref12_fit) (.cons (.tup (.bslice 1 [.nils] 1 [0]) (.cons (.v 9) .nil)) .nil)))]])
         (.ret [.e (.un (.ext 0) (.v 34)), .e (.un (.ext 1) (.v 34))]))))))))
         (.skip))))))))))
 (.ret [.e (.c .nils), .e (.c (.int .i64 2))])))⟩
noncomputable def r56 : ERow := ⟨Go.Proofs.Tryz.f56, ⟨[], [(1, [false, true, false, false, true, true]), (3, [false, false, false, false, false, false, false, false, false, false, false, false, true, false, true, false, true, true])]⟩, ⟨156, [0, 1, 4, 5, 6, 8, 10, 12, 14, 16, 17, 19, 23, 25, 32, 39, 40, 47, 52, 54, 66, 73, 75, 87, 92, 94, 102, 111, 113, 122, 124, 144, 147, 150, 153], [57, 77, 115, 143], [40, 87, 102, 153, 52, 73, 92, 111, 122]⟩, 1, e_ref12_alts⟩

/-- whelk/whelkref12.few [0=l, 1=i] -/
def b_ref12_few_0 : EC :=
 (.seq (.cond (.bi (.bin .lss) (.v 1) (.un .len (.v 0)))
  (.skip)
  (.exit 0))
 (.seq (.block 1 (.cond (.bi (.bin .gtr) (.tup (.call 0 f_ref12_Count) (.cons (.un (.ld none) (.bi (.idx 1) (.v 0) (.v 1))) .nil)) (.c (.int .i64 40)))
   (.ret [.e (.c (.bool false))])
   (.skip)))
 (.st [.sets [(1, (.bi (.bin .add) (.v 1) (.c (.int .i64 1))))]])))
def e_ref12_few : EFunc := ⟨1, 2,
 (.seq (.cond (.bi (.bin .gtr) (.un .len (.v 0)) (.c (.int .i64 16)))
  (.ret [.e (.c (.bool false))])
  (.skip))
 (.seq (.seq (.st [.sets [(1, (.c (.int .i64 0)))]])
 (.block 0 (.loop [true, true] b_ref12_few_0)))
 (.ret [.e (.c (.bool true))])))⟩
noncomputable def r57 : ERow := ⟨Go.Proofs.Tryz.f57, ⟨[], [(0, [true, false, false, true])]⟩, ⟨19, [0, 3], [16], []⟩, 1, e_ref12_few⟩

/-- whelk/whelkref3.Same [0=a, 1=b, 2=a, 3=b] -/
def e_ref3_Same : EFunc := ⟨2, 12,
 (.seq (.st [.eff (some 2) none (.box 3 T_ref3_Same_0 (.v 0)),
   .eff (some 3) none (.box 3 T_ref3_Same_0 (.v 1))])
 (.seq (.st [.eff (some 4) none (.load none (.un (.off 0) (.v 2))),
   .eff (some 5) none (.load none (.un (.off 0) (.v 3))),
   .eff (some 6) (some ((.bi (.bin .eql) (.v 4) (.v 5)), true)) (.load none (.un (.off 1) (.v 2))),
   .eff (some 7) (some ((.bi (.bin .eql) (.v 4) (.v 5)), true)) (.load none (.un (.off 1) (.v 3))),
   .sets [(8, (.pick (.bi (.bin .eql) (.v 4) (.v 5)) (.bi (.bin .eql) (.v 6) (.v 7)) (.c (.bool false)))), (9, (.gd true (.pick (.bi (.bin .eql) (.v 4) (.v 5)) (.bi (.bin .eql) (.v 6) (.v 7)) (.c (.bool false))) (.un (.off 2) (.v 2))))],
   .eff (some 10) (some ((.v 8), true)) (.load none (.v 9)),
   .eff (some 11) (some ((.v 8), true)) (.load none (.un (.off 2) (.v 3)))])
 (.ret [.e (.pick (.v 8) (.bi (.bin .eql) (.v 10) (.v 11)) (.c (.bool false)))])))⟩
noncomputable def r58 : ERow := ⟨Go.Proofs.Tryz.f58, ⟨[], []⟩, ⟨24, [0, 1, 2, 3, 6, 8, 12, 14, 17, 18, 19, 21], [], []⟩, 2, e_ref3_Same⟩

/-- whelk/pat.Same [0=a, 1=b, 2=a, 3=b] -/
def e_pat_Same : EFunc := ⟨2, 9,
 (.seq (.st [.eff (some 2) none (.box 2 T_pat_Same_0 (.v 0)),
   .eff (some 3) none (.box 2 T_pat_Same_0 (.v 1))])
 (.seq (.st [.eff (some 4) none (.load none (.un (.off 0) (.v 2))),
   .eff (some 5) none (.load none (.un (.off 0) (.v 3))),
   .eff (some 6) (some ((.bi (.bin .eql) (.v 4) (.v 5)), true)) (.load none (.un (.off 1) (.v 2))),
   .eff (some 7) (some ((.bi (.bin .eql) (.v 4) (.v 5)), true)) (.load none (.un (.off 1) (.v 3))),
   .eff (some 8) (some ((.bi (.bin .eql) (.v 4) (.v 5)), true)) (.calls [false, false, true, true, true, true, true, true, true, true, true, true, true, true, true, true] f_slices_EqualFunc_pat_Test_pat_Test_pat_Test_pat_Test (.cons (.v 6) (.cons (.v 7) (.cons (.c (.func f_pat_Same_1 [])) .nil))))])
 (.ret [.e (.pick (.bi (.bin .eql) (.v 4) (.v 5)) (.v 8) (.c (.bool false)))])))⟩
noncomputable def r59 : ERow := ⟨Go.Proofs.Tryz.f59, ⟨[], []⟩, ⟨17, [0, 1, 2, 3, 6, 8, 12, 14, 15], [], []⟩, 2, e_pat_Same⟩

/-- whelk/expr.Same [0=a, 1=b, 2=a, 3=b] -/
def e_expr_Same : EFunc := ⟨2, 20,
 (.seq (.st [.eff (some 2) none (.box 6 T_expr_Same_0 (.v 0)),
   .eff (some 3) none (.box 6 T_expr_Same_0 (.v 1))])
 (.seq (.st [.eff (some 4) none (.load none (.un (.off 0) (.v 2))),
   .eff (some 5) none (.load none (.un (.off 0) (.v 3))),
   .sets [(6, (.bi (.bin .eql) (.v 4) (.v 5))), (7, (.gd true (.bi (.bin .eql) (.v 4) (.v 5)) (.un (.off 1) (.v 2))))],
   .eff (some 8) (some ((.v 6), true)) (.load (some 3) (.v 7)),
   .eff (some 9) (some ((.v 6), true)) (.load (some 3) (.un (.off 1) (.v 3))),
   .sets [(10, (.gd true (.v 6) (.tup (.call 0 f_val_Same) (.cons (.v 8) (.cons (.v 9) .nil)))))],
   .sets [(11, (.pick (.v 6) (.v 10) (.c (.bool false)))), (12, (.gd true (.pick (.v 6) (.v 10) (.c (.bool false))) (.un (.off 4) (.v 2))))],
   .eff (some 13) (some ((.v 11), true)) (.load none (.v 12)),
   .eff (some 14) (some ((.v 11), true)) (.load none (.un (.off 4) (.v 3))),
   .sets [(15, (.pick (.v 11) (.bi (.bin .eql) (.v 13) (.v 14)) (.c (.bool false)))), (16, (.gd true (.pick (.v 11) (.bi (.bin .eql) (.v 13) (.v 14)) (.c (.bool false))) (.un (.off 5) (.v 2))))],
   .eff (some 17) (some ((.v 15), true)) (.load none (.v 16)),
   .eff (some 18) (some ((.v 15), true)) (.load none (.un (.off 5) (.v 3))),
   .eff (some 19) (some ((.v 15), true)) (.calls [false, false, true, true, true, true, true, true, true, true, true, true, true, true, true, true] f_slices_EqualFunc_expr_Expr_expr_Expr_expr_Expr_expr_Expr (.cons (.v 17) (.cons (.v 18) (.cons (.c (.func f_expr_Same [])) .nil))))])
 (.ret [.e (.pick (.v 15) (.v 19) (.c (.bool false)))])))⟩
noncomputable def r60 : ERow := ⟨Go.Proofs.Tryz.f60, ⟨[], []⟩, ⟨31, [0, 1, 2, 3, 6, 8, 10, 11, 12, 14, 15, 17, 18, 19, 21, 24, 25, 26, 28, 29], [], [15]⟩, 2, e_expr_Same⟩

/-- whelk/whelkref4.blank [0=c] -/
def e_ref4_blank : EFunc := ⟨1, 1,
 (.ret [.e (.pick (.pick (.pick (.bi (.bin .eql) (.v 0) (.c (.int .u8 32))) (.c (.bool true)) (.bi (.bin .eql) (.v 0) (.c (.int .u8 9)))) (.c (.bool true)) (.bi (.bin .eql) (.v 0) (.c (.int .u8 10)))) (.c (.bool true)) (.bi (.bin .eql) (.v 0) (.c (.int .u8 13))))])⟩
noncomputable def r61 : ERow := ⟨Go.Proofs.Tryz.f61, ⟨[], []⟩, ⟨17, [0], [], []⟩, 1, e_ref4_blank⟩

/-- whelk/whelkref4.one [0=b, 1=at, 3=t, 4=s, 5=n, 6=e, 7=end, 8=s] -/
def b_ref4_one_0 : EC :=
 (.seq (.cond (.pick (.bi (.bin .lss) (.v 7) (.un .len (.v 0))) (.tup (.call 0 f_ref3_Sign) (.cons (.un (.ld none) (.bi (.idx 1) (.v 0) (.v 7))) .nil)) (.c (.bool false)))
  (.skip)
  (.exit 1))
 (.block 2 (.st [.sets [(7, (.bi (.bin .add) (.v 7) (.c (.int .i64 1))))]])))
def e_ref4_one : EFunc := ⟨2, 24,
 (.seq (.st [.eff (some 2) none (.zbox [(.int .i64 0), (.int .i64 0), (.int .i64 0), (.str [])] T_ref4_one_0)])
 (.seq (.st [.eff (some 3) none (.zbox [(.int .i64 0), (.int .i64 0), (.int .i64 0), (.str [])] T_ref4_one_0),
   .eff none none (.store 4 (.v 3) (.tup (.build [(.int .i64 0), (.int .i64 0), (.int .i64 0), (.str [])] [(1, 1)]) (.cons (.v 1) .nil)))])
 (.seq (.seq (.st [.sets [(9, (.un (.ld none) (.bi (.idx 1) (.v 0) (.v 1))))]])
 (.block 0 (.cond (.bi (.bin .eql) (.v 9) (.c (.int .u8 40)))
   (.seq (.st [.eff none none (.store 1 (.un (.off 0) (.v 3)) (.c (.int .i64 4)))])
   (.seq (.st [.eff (some 10) none (.load (some 4) (.v 3)),
     .eff none none (.store 4 (.v 2) (.v 10))])
   (.ret [.cell (.v 2) (some 4), .e (.bi (.bin .add) (.v 1) (.c (.int .i64 1))), .e (.c (.int .i64 0))])))
   (.cond (.bi (.bin .eql) (.v 9) (.c (.int .u8 41)))
    (.seq (.st [.eff none none (.store 1 (.un (.off 0) (.v 3)) (.c (.int .i64 5)))])
    (.seq (.st [.eff (some 11) none (.load (some 4) (.v 3)),
      .eff none none (.store 4 (.v 2) (.v 11))])
    (.ret [.cell (.v 2) (some 4), .e (.bi (.bin .add) (.v 1) (.c (.int .i64 1))), .e (.c (.int .i64 0))])))
    (.cond (.bi (.bin .eql) (.v 9) (.c (.int .u8 126)))
     (.seq (.st [.eff none none (.store 1 (.un (.off 0) (.v 3)) (.c (.int .i64 8)))])
     (.seq (.st [.eff (some 12) none (.load (some 4) (.v 3)),
       .eff none none (.store 4 (.v 2) (.v 12))])
     (.ret [.cell (.v 2) (some 4), .e (.bi (.bin .add) (.v 1) (.c (.int .i64 1))), .e (.c (.int .i64 0))])))
     (.cond (.bi (.bin .eql) (.v 9) (.c (.int .u8 34)))
      (.seq (.st [.sets [(13, (.tup (.call 0 f_ref4_text) (.cons (.v 0) (.cons (.bi (.bin .add) (.v 1) (.c (.int .i64 1))) .nil))))]])
      (.seq (.st [.eff none none (.store 1 (.un (.off 0) (.v 3)) (.c (.int .i64 3)))])
      (.seq (.st [.eff none none (.store 1 (.un (.off 3) (.v 3)) (.un (.ext 0) (.v 13)))])
      (.seq (.st [.eff (some 14) none (.load (some 4) (.v 3)),
        .eff none none (.store 4 (.v 2) (.v 14))])
      (.ret [.cell (.v 2) (some 4), .e (.un (.ext 1) (.v 13)), .e (.un (.ext 2) (.v 13))])))))
      (.cond (.bi (.bin .eql) (.v 9) (.c (.int .u8 63)))
       (.seq (.cond (.pick (.bi (.bin .lss) (.bi (.bin .add) (.v 1) (.c (.int .i64 1))) (.un .len (.v 0))) (.bi (.bin .eql) (.un (.ld none) (.bi (.idx 1) (.v 0) (.bi (.bin .add) (.v 1) (.c (.int .i64 1))))) (.c (.int .u8 42))) (.c (.bool false)))
        (.seq (.st [.sets [(15, (.tup (.call 0 f_ref4_name) (.cons (.v 0) (.cons (.bi (.bin .add) (.v 1) (.c (.int .i64 2))) .nil))))],
          .sets [(4, (.un (.ext 0) (.v 15))), (5, (.un (.ext 1) (.v 15))), (6, (.un (.ext 2) (.v 15)))]])
        (.seq (.cond (.pick (.bi (.bin .eql) (.v 6) (.c (.int .i64 0))) (.pick (.bi (.bin .eql) (.v 5) (.un .len (.v 0))) (.c (.bool true)) (.bi (.bin .neq) (.un (.ld none) (.bi (.idx 1) (.v 0) (.v 5))) (.c (.int .u8 42)))) (.c (.bool false)))
         (.st [.sets [(6, (.c (.int .i64 2)))]])
         (.skip))
        (.seq (.st [.eff none none (.store 1 (.un (.off 0) (.v 3)) (.c (.int .i64 7)))])
        (.seq (.st [.eff none none (.store 1 (.un (.off 3) (.v 3)) (.v 4))])
        (.seq (.st [.eff (some 16) none (.load (some 4) (.v 3)),
          .eff none none (.store 4 (.v 2) (.v 16))])
        (.ret [.cell (.v 2) (some 4), .e (.bi (.bin .add) (.v 5) (.c (.int .i64 1))), .e (.v 6)]))))))
        (.skip))
       (.seq (.st [.sets [(17, (.tup (.call 0 f_ref4_name) (.cons (.v 0) (.cons (.bi (.bin .add) (.v 1) (.c (.int .i64 1))) .nil))))]])
       (.seq (.st [.eff none none (.store 1 (.un (.off 0) (.v 3)) (.c (.int .i64 6)))])
       (.seq (.st [.eff none none (.store 1 (.un (.off 3) (.v 3)) (.un (.ext 0) (.v 17)))])
       (.seq (.st [.eff (some 18) none (.load (some 4) (.v 3)),
         .eff none none (.store 4 (.v 2) (.v 18))])
       (.ret [.cell (.v 2) (some 4), .e (.un (.ext 1) (.v 17)), .e (.un (.ext 2) (.v 17))]))))))
       (.skip))))))))
 (.seq (.st [.sets [(7, (.v 1))]])
 (.seq (.block 1 (.loop [true, true, true, true, false, false, false, true, false, false, false, false, false, false, false, false, false, false, false, false, false, false, false, false] b_ref4_one_0))
 (.seq (.st [.sets [(8, (.un .tostr (.lsub 1 true true false (.v 0) (.v 1) (.v 7) (.c .undef))))]])
 (.seq (.cond (.bi (.bin .eql) (.un .slen (.v 8)) (.c (.int .i64 0)))
  (.seq (.st [.eff (some 19) none (.load (some 4) (.v 3)),
    .eff none none (.store 4 (.v 2) (.v 19))])
  (.ret [.cell (.v 2) (some 4), .e (.c (.int .i64 0)), .e (.c (.int .i64 2))]))
  (.skip))
 (.seq (.cond (.tup (.call 0 f_ref1_Shape) (.cons (.v 8) .nil))
  (.seq (.st [.sets [(20, (.tup (.call 0 f_ref1_Parse) (.cons (.v 8) .nil)))]])
  (.seq (.st [.eff none none (.store 1 (.un (.off 0) (.v 3)) (.c (.int .i64 1)))])
  (.seq (.st [.eff none none (.store 1 (.un (.off 2) (.v 3)) (.un (.ext 0) (.v 20)))])
  (.seq (.st [.eff (some 21) none (.load (some 4) (.v 3)),
    .eff none none (.store 4 (.v 2) (.v 21))])
  (.ret [.cell (.v 2) (some 4), .e (.v 7), .e (.un (.ext 1) (.v 20))])))))
  (.skip))
 (.seq (.cond (.bi (.bin .gtr) (.un .slen (.v 8)) (.c (.int .i64 40)))
  (.seq (.st [.eff (some 22) none (.load (some 4) (.v 3)),
    .eff none none (.store 4 (.v 2) (.v 22))])
  (.ret [.cell (.v 2) (some 4), .e (.c (.int .i64 0)), .e (.c (.int .i64 4))]))
  (.skip))
 (.seq (.st [.eff none none (.store 1 (.un (.off 0) (.v 3)) (.c (.int .i64 2)))])
 (.seq (.st [.eff none none (.store 1 (.un (.off 3) (.v 3)) (.v 8))])
 (.seq (.st [.eff (some 23) none (.load (some 4) (.v 3)),
   .eff none none (.store 4 (.v 2) (.v 23))])
 (.ret [.cell (.v 2) (some 4), .e (.v 7), .e (.c (.int .i64 0))])))))))))))))⟩
noncomputable def r62 : ERow := ⟨Go.Proofs.Tryz.f62, ⟨[], [(1, [true, true, false, false, true, false, false, true, false, false, false, false, false, false, false, false, false, true])]⟩, ⟨165, [0, 1, 4, 7, 11, 12, 13, 17, 18, 26, 30, 36, 42, 47, 58, 76, 102, 106, 117, 142, 145, 153, 159, 163], [26, 73, 95, 129], [47, 76, 106, 145]⟩, 2, e_ref4_one⟩

/-- whelk/whelkref5.Head [0=n, 1=n] -/
def e_ref5_Head : EFunc := ⟨1, 6,
 (.seq (.st [.eff (some 1) none (.box 5 T_ref5_Head_0 (.v 0))])
 (.seq (.seq (.st [.eff (some 2) none (.load none (.un (.off 0) (.v 1))),
   .eff (some 3) (some ((.bi (.bin .eql) (.v 2) (.c (.int .i64 0))), true)) (.load none (.un (.off 4) (.v 1))),
   .eff (some 4) (some ((.pick (.bi (.bin .eql) (.v 2) (.c (.int .i64 0))) (.bi (.bin .gtr) (.un .len (.v 3)) (.c (.int .i64 0))) (.c (.bool false))), true)) (.load none (.un (.off 4) (.v 1)))])
 (.cond (.pick (.pick (.bi (.bin .eql) (.v 2) (.c (.int .i64 0))) (.bi (.bin .gtr) (.un .len (.v 3)) (.c (.int .i64 0))) (.c (.bool false))) (.bi (.bin .eql) (.un (.ld none) (.un (.off 0) (.bi (.idx 5) (.v 4) (.c (.int .i64 0))))) (.c (.int .i64 2))) (.c (.bool false)))
  (.seq (.st [.eff (some 5) none (.load none (.un (.off 4) (.v 1)))])
  (.ret [.e (.un (.ld none) (.un (.off 3) (.bi (.idx 5) (.v 5) (.c (.int .i64 0)))))]))
  (.skip)))
 (.ret [.e (.c (.str []))])))⟩
noncomputable def r63 : ERow := ⟨Go.Proofs.Tryz.f63, ⟨[], []⟩, ⟨25, [0, 1, 4, 8, 14, 21], [17, 24], []⟩, 1, e_ref5_Head⟩

/-- whelk/whelkref9.Find [0=l, 1=name, 2=i] -/
def b_ref9_Find_0 : EC :=
 (.seq (.cond (.bi (.bin .lss) (.v 2) (.un .len (.v 0)))
  (.skip)
  (.exit 0))
 (.seq (.block 1 (.cond (.bi (.bin .eql) (.un (.ld none) (.un (.off 0) (.bi (.idx 2) (.v 0) (.v 2)))) (.v 1))
   (.ret [.e (.v 2)])
   (.skip)))
 (.st [.sets [(2, (.bi (.bin .add) (.v 2) (.c (.int .i64 1))))]])))
def e_ref9_Find : EFunc := ⟨2, 3,
 (.seq (.seq (.st [.sets [(2, (.c (.int .i64 0)))]])
 (.block 0 (.loop [true, true, true] b_ref9_Find_0)))
 (.ret [.e (.c (.int .i64 (-1)))]))⟩
noncomputable def r64 : ERow := ⟨Go.Proofs.Tryz.f64, ⟨[], [(0, [true, true, false, false, false, true])]⟩, ⟨20, [0, 1, 5], [16], []⟩, 2, e_ref9_Find⟩

/-- (whelk/whelkref9.Template).Slot [0=t, 1=name, 2=t, 3=i] -/
def b_ref9_Template_Slot_0 : EC :=
 (.seq (.seq (.st [.eff (some 4) none (.load none (.un (.off 1) (.v 2)))])
 (.cond (.bi (.bin .lss) (.v 3) (.un .len (.v 4)))
  (.skip)
  (.exit 0)))
 (.seq (.block 1 (.seq (.st [.eff (some 5) none (.load none (.un (.off 1) (.v 2)))])
  (.cond (.bi (.bin .eql) (.un (.ld none) (.un (.off 0) (.bi (.idx 4) (.v 5) (.v 3)))) (.v 1))
   (.ret [.e (.v 3)])
   (.skip))))
 (.st [.sets [(3, (.bi (.bin .add) (.v 3) (.c (.int .i64 1))))]])))
def e_ref9_Template_Slot : EFunc := ⟨2, 6,
 (.seq (.st [.eff (some 2) none (.box 2 T_ref9_Template_Slot_0 (.v 0))])
 (.seq (.seq (.st [.sets [(3, (.c (.int .i64 0)))]])
 (.block 0 (.loop [false, true, true, true, false, false] b_ref9_Template_Slot_0)))
 (.ret [.e (.c (.int .i64 (-1)))])))⟩
noncomputable def r65 : ERow := ⟨Go.Proofs.Tryz.f65, ⟨[], [(0, [false, true, true, false, false, true])]⟩, ⟨22, [0, 1, 2, 5, 8, 14], [18], []⟩, 2, e_ref9_Template_Slot⟩

/-- whelk/whelkref11.term [0=n, 1=n, 3=t, 4=v] -/
def e_ref11_term : EFunc := ⟨1, 15,
 (.seq (.st [.eff (some 1) none (.box 5 T_ref11_term_0 (.v 0)),
   .eff (some 2) none (.zbox [(.int .i64 0), (.bool false), (.str []), (.int .i64 0), (.int .i64 0), (.str [])] T_ref11_term_1)])
 (.seq (.seq (.st [.eff (some 5) none (.load none (.un (.off 0) (.v 1))),
   .eff (some 6) (some ((.bi (.bin .eql) (.v 5) (.c (.int .i64 8))), true)) (.load none (.un (.off 4) (.v 1)))])
 (.cond (.pick (.bi (.bin .eql) (.v 5) (.c (.int .i64 8))) (.bi (.bin .eql) (.un .len (.v 6)) (.c (.int .i64 1))) (.c (.bool false)))
  (.seq (.st [.eff (some 8) none (.load none (.un (.off 4) (.v 1))),
    .sets [(7, (.tup (.call 0 f_ref11_term) (.cons (.un (.ld (some 5)) (.bi (.idx 5) (.v 8) (.c (.int .i64 0)))) .nil)))],
    .eff (some 3) none (.zbox [(.int .i64 0), (.bool false), (.str []), (.int .i64 0), (.int .i64 0), (.str [])] T_ref11_term_1),
    .eff none none (.store 6 (.v 3) (.un (.ext 0) (.v 7)))])
  (.seq (.st [.eff none none (.store 1 (.un (.off 1) (.v 3)) (.c (.bool true)))])
  (.seq (.st [.eff (some 9) none (.load (some 6) (.v 3)),
    .eff none none (.store 6 (.v 2) (.v 9))])
  (.ret [.cell (.v 2) (some 6), .e (.un (.ext 1) (.v 7))]))))
  (.skip)))
 (.seq (.seq (.st [.eff (some 10) none (.load none (.un (.off 0) (.v 1)))])
 (.cond (.bi (.bin .eql) (.v 10) (.c (.int .i64 6)))
  (.seq (.st [.eff (some 11) none (.load none (.un (.off 3) (.v 1))),
    .eff none none (.store 6 (.v 2) (.tup (.build [(.int .i64 0), (.bool false), (.str []), (.int .i64 0), (.int .i64 0), (.str [])] [(2, 1)]) (.cons (.v 11) .nil)))])
  (.ret [.cell (.v 2) (some 6), .e (.c (.bool true))]))
  (.skip)))
 (.seq (.st [.eff (some 13) none (.load (some 5) (.v 1)),
   .sets [(12, (.tup (.call 0 f_ref5_Value) (.cons (.v 13) .nil)))],
   .eff (some 4) none (.zbox [(.int .i64 0), (.int .i64 0), (.str [])] T_ref11_term_2),
   .eff none none (.store 3 (.v 4) (.un (.ext 0) (.v 12)))])
 (.seq (.st [.eff (some 14) none (.load (some 3) (.v 4)),
   .eff none none (.store 6 (.v 2) (.tup (.build [(.int .i64 0), (.bool false), (.str []), (.int .i64 0), (.int .i64 0), (.str [])] [(3, 3)]) (.cons (.v 14) .nil)))])
 (.ret [.cell (.v 2) (some 6), .e (.un (.ext 1) (.v 12))]))))))⟩
noncomputable def r66 : ERow := ⟨Go.Proofs.Tryz.f66, ⟨[], []⟩, ⟨42, [0, 1, 2, 4, 6, 9, 13, 17, 19, 26, 29, 32, 34, 35, 39], [21], [17, 34]⟩, 1, e_ref11_term⟩

/-- whelk/whelkref12.kind [0=s, 1=k] -/
def b_ref12_kind_0 : EC :=
 (.seq (.cond (.bi (.bin .leq) (.v 1) (.c (.int .i64 8)))
  (.skip)
  (.exit 0))
 (.seq (.block 1 (.cond (.bi (.bin .eql) (.tup (.call 0 f_ref12_word) (.cons (.v 1) .nil)) (.v 0))
   (.ret [.e (.v 1)])
   (.skip)))
 (.st [.sets [(1, (.bi (.bin .add) (.v 1) (.c (.int .i64 1))))]])))
def e_ref12_kind : EFunc := ⟨1, 2,
 (.seq (.seq (.st [.sets [(1, (.c (.int .i64 2)))]])
 (.block 0 (.loop [true, true] b_ref12_kind_0)))
 (.ret [.e (.c (.int .i64 0))]))⟩
noncomputable def r67 : ERow := ⟨Go.Proofs.Tryz.f67, ⟨[], [(0, [true, false, false, true])]⟩, ⟨13, [0, 3], [], []⟩, 1, e_ref12_kind⟩

/-- whelk/whelkref7.Parse [0=n, 1=funs, 2=n, 5=v, 6=h, 7=kids, 8=x, 9=e, 10=i, 11=k, 12=w] -/
def b_ref7_Parse_0 : EC :=
 (.seq (.cond (.bi (.bin .lss) (.v 10) (.un .len (.v 7)))
  (.skip)
  (.exit 2))
 (.seq (.block 3 (.seq (.st [.sets [(27, (.tup (.call 0 f_ref7_Parse) (.cons (.un (.ld (some 5)) (.bi (.idx 5) (.v 7) (.v 10))) (.cons (.v 1) .nil))))],
    .eff (some 11) none (.zbox [(.int .i64 0), (.int .i64 0), (.int .i64 0), (.str []), (.str []), .nils] T_ref7_Parse_0),
    .eff (some 12) none (.zbox [.nils, (.int .i64 0)] T_ref7_Parse_1),
    .eff none none (.store 6 (.v 11) (.un (.ext 0) (.v 27))),
    .eff none none (.store 2 (.v 12) (.un (.ext 1) (.v 27)))])
  (.seq (.seq (.st [.eff (some 28) none (.load none (.un (.off 1) (.v 12)))])
  (.cond (.bi (.bin .neq) (.v 28) (.c (.int .i64 0)))
   (.seq (.st [.eff (some 29) none (.load (some 2) (.v 12)),
     .chk (.tup .apart (.cons (.v 3) (.cons (.v 12) .nil))),
     .eff none none (.store 6 (.v 3) (.tup (.build [(.int .i64 0), (.int .i64 0), (.int .i64 0), (.str []), (.str []), .nils] []) .nil)),
     .chk (.tup .apart (.cons (.v 4) (.cons (.v 12) .nil))),
     .eff none none (.store 2 (.v 4) (.v 29))])
   (.ret [.cell (.v 3) (some 6), .cell (.v 4) (some 2)]))
   (.skip)))
  (.st [.eff (some 30) none (.load none (.un (.off 5) (.v 8))),
    .eff (some 31) none (.load (some 6) (.v 11)),
    .eff (some 32) none (.append 6 80 T_ref7_Parse_0 (.v 30) (.tup (.bslice 6 [(.int .i64 0), (.int .i64 0), (.int .i64 0), (.str []), (.str []), .nils] 1 [0]) (.cons (.v 31) .nil))),
    .eff none none (.store 1 (.un (.off 5) (.v 8)) (.v 32))]))))
 (.st [.sets [(10, (.bi (.bin .add) (.v 10) (.c (.int .i64 1))))]])))
def e_ref7_Parse : EFunc := ⟨2, 34,
 (.seq (.st [.eff (some 2) none (.box 5 T_ref7_Parse_2 (.v 0)),
   .eff (some 3) none (.zbox [(.int .i64 0), (.int .i64 0), (.int .i64 0), (.str []), (.str []), .nils] T_ref7_Parse_0),
   .eff (some 4) none (.zbox [.nils, (.int .i64 0)] T_ref7_Parse_1)])
 (.seq (.st [.eff (some 14) none (.load (some 5) (.v 2)),
   .sets [(13, (.tup (.call 0 f_ref5_Value) (.cons (.v 14) .nil)))],
   .eff (some 5) none (.zbox [(.int .i64 0), (.int .i64 0), (.str [])] T_ref7_Parse_3),
   .eff none none (.store 3 (.v 5) (.un (.ext 0) (.v 13)))])
 (.seq (.cond (.un (.ext 1) (.v 13))
  (.seq (.st [.eff (some 15) none (.load (some 3) (.v 5)),
    .eff none none (.store 6 (.v 3) (.tup (.build [(.int .i64 0), (.int .i64 0), (.int .i64 0), (.str []), (.str []), .nils] [(0, 1), (1, 3)]) (.cons (.c (.int .i64 1)) (.cons (.v 15) .nil)))),
    .eff none none (.store 2 (.v 4) (.tup (.build [.nils, (.int .i64 0)] []) .nil))])
  (.ret [.cell (.v 3) (some 6), .cell (.v 4) (some 2)]))
  (.skip))
 (.seq (.seq (.st [.eff (some 16) none (.load none (.un (.off 0) (.v 2)))])
 (.block 0 (.cond (.bi (.bin .eql) (.v 16) (.c (.int .i64 6)))
   (.seq (.st [.eff (some 17) none (.load none (.un (.off 3) (.v 2))),
     .eff none none (.store 6 (.v 3) (.tup (.build [(.int .i64 0), (.int .i64 0), (.int .i64 0), (.str []), (.str []), .nils] [(0, 1), (4, 1)]) (.cons (.c (.int .i64 2)) (.cons (.v 17) .nil)))),
     .eff none none (.store 2 (.v 4) (.tup (.build [.nils, (.int .i64 0)] []) .nil))])
   (.ret [.cell (.v 3) (some 6), .cell (.v 4) (some 2)]))
   (.cond (.bi (.bin .eql) (.v 16) (.c (.int .i64 7)))
    (.seq (.st [.eff (some 18) none (.load none (.un (.off 3) (.v 2))),
      .eff none none (.store 6 (.v 3) (.tup (.build [(.int .i64 0), (.int .i64 0), (.int .i64 0), (.str []), (.str []), .nils] [(0, 1), (4, 1)]) (.cons (.c (.int .i64 3)) (.cons (.v 18) .nil)))),
      .eff none none (.store 2 (.v 4) (.tup (.build [.nils, (.int .i64 0)] []) .nil))])
    (.ret [.cell (.v 3) (some 6), .cell (.v 4) (some 2)]))
    (.skip)))))
 (.seq (.st [.eff (some 19) none (.load (some 5) (.v 2)),
   .sets [(6, (.tup (.call 0 f_ref5_Head) (.cons (.v 19) .nil)))]])
 (.seq (.cond (.bi (.bin .eql) (.v 6) (.c (.str [])))
  (.seq (.st [.eff (some 20) none (.load (some 5) (.v 2)),
    .sets [(21, (.tup (.call 0 f_ref7_wrong) (.cons (.v 20) (.cons (.c (.int .i64 2)) .nil))))],
    .eff none none (.store 6 (.v 3) (.un (.ext 0) (.v 21))),
    .eff none none (.store 2 (.v 4) (.un (.ext 1) (.v 21)))])
  (.ret [.cell (.v 3) (some 6), .cell (.v 4) (some 2)]))
  (.skip))
 (.seq (.st [.eff (some 22) none (.load none (.un (.off 4) (.v 2))),
   .sets [(7, (.lsub 5 true false false (.v 22) (.c (.int .i64 1)) (.c .undef) (.c .undef)))]])
 (.seq (.st [.eff (some 8) none (.zbox [(.int .i64 0), (.int .i64 0), (.int .i64 0), (.str []), (.str []), .nils] T_ref7_Parse_0),
   .eff none none (.store 6 (.v 8) (.tup (.build [(.int .i64 0), (.int .i64 0), (.int .i64 0), (.str []), (.str []), .nils] [(0, 1), (4, 1)]) (.cons (.c (.int .i64 4)) (.cons (.v 6) .nil))))])
 (.seq (.block 1 (.cond (.bi (.bin .eql) (.v 6) (.c (.str [105, 102])))
   (.seq (.cond (.pick (.pick (.bi (.bin .neq) (.un .len (.v 7)) (.c (.int .i64 5))) (.c (.bool true)) (.un .not (.tup (.call 0 f_ref5_Same) (.cons (.un (.ld (some 5)) (.bi (.idx 5) (.v 7) (.c (.int .i64 1)))) (.cons (.tup (.call 0 f_ref5_Sym) (.cons (.c (.str [116, 104, 101, 110])) .nil)) .nil))))) (.c (.bool true)) (.un .not (.tup (.call 0 f_ref5_Same) (.cons (.un (.ld (some 5)) (.bi (.idx 5) (.v 7) (.c (.int .i64 3)))) (.cons (.tup (.call 0 f_ref5_Sym) (.cons (.c (.str [101, 108, 115, 101])) .nil)) .nil)))))
    (.seq (.st [.eff (some 25) none (.load (some 5) (.v 2)),
      .sets [(26, (.tup (.call 0 f_ref7_wrong) (.cons (.v 25) (.cons (.c (.int .i64 2)) .nil))))],
      .eff none none (.store 6 (.v 3) (.un (.ext 0) (.v 26))),
      .eff none none (.store 2 (.v 4) (.un (.ext 1) (.v 26)))])
    (.ret [.cell (.v 3) (some 6), .cell (.v 4) (some 2)]))
    (.skip))
   (.seq (.st [.sets [(7, (.tup (.bslice 5 [(.int .i64 0), (.int .i64 0), (.int .i64 0), (.str []), .nils] 3 [0, 1, 2]) (.cons (.un (.ld (some 5)) (.bi (.idx 5) (.v 7) (.c (.int .i64 0)))) (.cons (.un (.ld (some 5)) (.bi (.idx 5) (.v 7) (.c (.int .i64 2)))) (.cons (.un (.ld (some 5)) (.bi (.idx 5) (.v 7) (.c (.int .i64 4)))) .nil)))))]])
   (.st [.eff none none (.store 6 (.v 8) (.tup (.build [(.int .i64 0), (.int .i64 0), (.int .i64 0), (.str []), (.str []), .nils] [(0, 1)]) (.cons (.c (.int .i64 5)) .nil)))])))
   (.cond (.bi (.bin .eql) (.v 6) (.c (.str [97, 110, 100])))
    (.st [.eff none none (.store 6 (.v 8) (.tup (.build [(.int .i64 0), (.int .i64 0), (.int .i64 0), (.str []), (.str []), .nils] [(0, 1)]) (.cons (.c (.int .i64 6)) .nil)))])
    (.cond (.bi (.bin .eql) (.v 6) (.c (.str [111, 114])))
     (.st [.eff none none (.store 6 (.v 8) (.tup (.build [(.int .i64 0), (.int .i64 0), (.int .i64 0), (.str []), (.str []), .nils] [(0, 1)]) (.cons (.c (.int .i64 7)) .nil)))])
     (.seq (.st [.sets [(9, (.tup (.call 0 f_ref7_args) (.cons (.v 6) (.cons (.un .len (.v 7)) (.cons (.v 1) .nil)))))]])
     (.cond (.bi (.bin .neq) (.v 9) (.c (.int .i64 0)))
      (.seq (.st [.eff (some 23) none (.load (some 5) (.v 2)),
        .sets [(24, (.tup (.call 0 f_ref7_wrong) (.cons (.v 23) (.cons (.v 9) .nil))))],
        .eff none none (.store 6 (.v 3) (.un (.ext 0) (.v 24))),
        .eff none none (.store 2 (.v 4) (.un (.ext 1) (.v 24)))])
      (.ret [.cell (.v 3) (some 6), .cell (.v 4) (some 2)]))
      (.skip)))))))
 (.seq (.seq (.st [.sets [(10, (.c (.int .i64 0)))]])
 (.block 2 (.loop [false, true, false, true, true, false, false, true, true, false, true, false, false, false, false, false, false, false, false, false, false, false, false, false, false, false, false, false, false, false, false, false, false, false] b_ref7_Parse_0)))
 (.seq (.st [.eff (some 33) none (.load (some 6) (.v 8)),
   .eff none none (.store 6 (.v 3) (.v 33)),
   .eff none none (.store 2 (.v 4) (.tup (.build [.nils, (.int .i64 0)] []) .nil))])
 (.ret [.cell (.v 3) (some 6), .cell (.v 4) (some 2)]))))))))))))⟩
noncomputable def r68 : ERow := ⟨Go.Proofs.Tryz.f68, ⟨[(19, (.cons 0 0 (.cons 0 1 (.cons 0 2 (.cons 0 3 (.cons 0 4 (.cons 0 5 (.cons 1 6 (.cons 2 7 (.cons 2 8 (.cons 0 9 (.cons 0 10 (.cons 0 11 (.cons 0 12 (.cons 0 13 (.cons 1 14 (.cons 2 15 (.cons 2 16 (.cons 0 17 (.cons 0 18 .nil)))))))))))))))))))), (21, (.cons 0 0 (.cons 0 1 (.cons 0 3 (.cons 0 4 (.cons 0 6 (.cons 0 7 (.cons 1 2 (.cons 1 5 (.cons 1 8 (.cons 2 9 (.cons 0 10 .nil)))))))))))), (32, (.cons 0 0 (.cons 1 1 (.cons 2 2 (.cons 2 3 .nil)))))], [(2, [false, true, false, false, true, true, false, false, false, true, true, false, true])]⟩, ⟨134, [0, 1, 2, 4, 5, 6, 8, 9, 10, 11, 12, 13, 14, 15, 16, 21, 25, 29, 35, 38, 42, 43, 47, 59, 61, 85, 86, 112, 122, 125, 127, 128, 130, 132], [72, 80, 91, 94, 97, 116], [43, 86, 61, 15, 112]⟩, 2, e_ref7_Parse⟩

/-- slices.IndexFunc[[]whelk/cond.CE,whelk/cond.CE] [0=s, 1=f] -/
def b_slices_IndexFunc_cond_CE_cond_CE_0 : EC :=
 (.seq (.cond (.bi (.bin .lss) (.v 3) (.v 2))
  (.skip)
  (.exit 0))
 (.seq (.block 1 (.seq (.st [.eff (some 4) none (.callv (.v 1) (.cons (.un (.ld (some 11)) (.bi (.idx 11) (.v 0) (.v 3))) .nil))])
  (.cond (.v 4)
   (.ret [.e (.v 3)])
   (.skip))))
 (.st [.sets [(3, (.bi (.bin .add) (.v 3) (.c (.int .i64 1))))]])))
def e_slices_IndexFunc_cond_CE_cond_CE : EFunc := ⟨2, 5,
 (.seq (.seq (.st [.sets [(2, (.un .len (.v 0))), (3, (.c (.int .i64 0)))]])
 (.block 0 (.loop [true, true, true, true, false] b_slices_IndexFunc_cond_CE_cond_CE_0)))
 (.ret [.e (.c (.int .i64 (-1)))]))⟩
noncomputable def r69 : ERow := ⟨Go.Proofs.Tryz.f69, ⟨[], [(0, [true, true, false, false, false, false, false, true, true])]⟩, ⟨19, [0, 1, 7, 8, 16], [15], []⟩, 2, e_slices_IndexFunc_cond_CE_cond_CE⟩

/-- whelk/norm.or [0=l, 1=out, 2=c, 3=x] -/
def b_norm_or_0 : EC :=
 (.seq (.cond (.bi (.bin .lss) (.v 11) (.v 10))
  (.skip)
  (.exit 2))
 (.seq (.block 3 (.seq (.st [.eff (some 12) none (.calls [true, true, true, true, true, true, true, true, true, true, true, true, true, true, true, true] f_norm_put (.cons (.v 1) (.cons (.un (.ld none) (.bi (.idx 1) (.v 9) (.v 11))) .nil))),
    .sets [(1, (.un (.ext 0) (.v 12)))]])
  (.cond (.bi (.bin .neq) (.un (.ext 1) (.v 12)) (.c (.int .i64 0)))
   (.ret [.e (.c .nils), .e (.un (.ext 1) (.v 12))])
   (.skip))))
 (.st [.sets [(11, (.bi (.bin .add) (.v 11) (.c (.int .i64 1))))]])))
def b_norm_or_1 : EC :=
 (.seq (.cond (.bi (.bin .lss) (.v 6) (.v 5))
  (.skip)
  (.exit 0))
 (.seq (.block 1 (.seq (.st [.eff (some 2) none (.zbox [(.int .i64 0), (.str []), (.str []), .nils, (.int .i64 0), (.int .i64 0), (.int .i64 0), (.str []), (.str []), .nils, .nils] T_norm_or_0),
    .eff none none (.store 11 (.v 2) (.un (.ld (some 11)) (.bi (.idx 11) (.v 4) (.v 6))))])
  (.seq (.st [.eff (some 8) none (.load (some 11) (.v 2)),
    .sets [(7, (.tup (.call 0 f_norm_one) (.cons (.v 8) .nil)))],
    .sets [(3, (.un (.ext 0) (.v 7)))]])
  (.seq (.cond (.bi (.bin .neq) (.un (.ext 1) (.v 7)) (.c (.int .i64 0)))
   (.ret [.e (.c .nils), .e (.un (.ext 1) (.v 7))])
   (.skip))
  (.seq (.st [.sets [(9, (.v 3)), (10, (.un .len (.v 3))), (11, (.c (.int .i64 0)))]])
  (.block 2 (.loop [false, true, false, false, true, true, true, false, false, true, true, true, false] b_norm_or_0)))))))
 (.st [.sets [(6, (.bi (.bin .add) (.v 6) (.c (.int .i64 1))))]])))
def e_norm_or : EFunc := ⟨1, 13,
 (.seq (.st [.sets [(1, (.c .nils))]])
 (.seq (.seq (.st [.sets [(4, (.v 0)), (5, (.un .len (.v 0))), (6, (.c (.int .i64 0)))]])
 (.block 0 (.loop [false, true, false, false, true, true, true, false, false, false, false, false, false] b_norm_or_1)))
 (.ret [.e (.v 1), .e (.c (.int .i64 0))])))⟩
noncomputable def r70 : ERow := ⟨Go.Proofs.Tryz.f70, ⟨[], [(0, [false, false, false, false, true, false, false, false, false, false, false, true, true, true]), (2, [false, false, false, false, true, false, false, false, false, false, false, true, true, true, false, false, false, false, false, false, false, false, false, false, false, true, true, true])]⟩, ⟨43, [0, 4, 6, 7, 11, 12, 13, 17, 18, 25, 26, 27, 34], [16, 30], [17]⟩, 1, e_norm_or⟩

/-- whelk/norm.single [0=r, 1=err] -/
def e_norm_single : EFunc := ⟨2, 3,
 (.seq (.cond (.bi (.bin .neq) (.v 1) (.c (.int .i64 0)))
  (.ret [.e (.c .nils), .e (.v 1)])
  (.skip))
 (.seq (.st [.eff (some 2) none (.calls [true, true, true, true, true, true, true, true, true, true, true, true, true, true, true, true] f_norm_put (.cons (.c .nils) (.cons (.v 0) .nil)))])
 (.ret [.e (.un (.ext 0) (.v 2)), .e (.un (.ext 1) (.v 2))])))⟩
noncomputable def r71 : ERow := ⟨Go.Proofs.Tryz.f71, ⟨[], []⟩, ⟨13, [0, 1, 10], [], []⟩, 2, e_norm_single⟩

/-- whelk/norm.negs [0=l, 1=out] -/
def b_norm_negs_0 : EC :=
 (.seq (.cond (.bi (.bin .lss) (.v 4) (.v 3))
  (.skip)
  (.exit 0))
 (.seq (.block 1 (.st [.eff (some 5) none (.append 11 168 T_norm_negs_0 (.v 1) (.tup (.bslice 11 [(.int .i64 0), (.str []), (.str []), .nils, (.int .i64 0), (.int .i64 0), (.int .i64 0), (.str []), (.str []), .nils, .nils] 1 [0]) (.cons (.tup (.build [(.int .i64 0), (.str []), (.str []), .nils, (.int .i64 0), (.int .i64 0), (.int .i64 0), (.str []), (.str []), .nils, .nils] [(0, 1), (10, 1)]) (.cons (.c (.int .i64 3)) (.cons (.un (.ld none) (.bi (.idx 1) (.v 2) (.v 4))) .nil))) .nil))),
    .sets [(1, (.v 5))]]))
 (.st [.sets [(4, (.bi (.bin .add) (.v 4) (.c (.int .i64 1))))]])))
def e_norm_negs : EFunc := ⟨1, 6,
 (.seq (.st [.sets [(1, (.c .nils))]])
 (.seq (.seq (.st [.sets [(2, (.v 0)), (3, (.un .len (.v 0))), (4, (.c (.int .i64 0)))]])
 (.block 0 (.loop [false, true, true, true, true, false] b_norm_negs_0)))
 (.ret [.e (.v 1)])))⟩
noncomputable def r72 : ERow := ⟨Go.Proofs.Tryz.f72, ⟨[], [(0, [false, false, false, true, false, false, true, true, true])]⟩, ⟨19, [0, 3, 6, 7, 8, 16], [11], []⟩, 1, e_norm_negs⟩

/-- whelk/norm.forall [0=l, 1=x, 2=y, 3=out] -/
def b_norm_forall_0 : EC :=
 (.seq (.cond (.bi (.bin .lss) (.v 8) (.v 7))
  (.skip)
  (.exit 0))
 (.seq (.block 1 (.seq (.st [.eff (some 9) none (.callo f_slices_Concat_norm_row_norm_Lit (.cons (.tup (.bslice 1 [.nils] 2 [0, 1]) (.cons (.un (.ld none) (.bi (.idx 1) (.v 6) (.v 8))) (.cons (.tup (.call 0 f_norm_negs) (.cons (.v 2) .nil)) .nil))) .nil)),
    .eff (some 10) none (.calls [true, true, true, true, true, true, true, true, true, true, true, true, true, true, true, true] f_norm_put (.cons (.v 3) (.cons (.v 9) .nil))),
    .sets [(3, (.un (.ext 0) (.v 10)))]])
  (.cond (.bi (.bin .neq) (.un (.ext 1) (.v 10)) (.c (.int .i64 0)))
   (.ret [.e (.c .nils), .e (.un (.ext 1) (.v 10))])
   (.skip))))
 (.st [.sets [(8, (.bi (.bin .add) (.v 8) (.c (.int .i64 1))))]])))
def e_norm_forall : EFunc := ⟨1, 11,
 (.seq (.st [.sets [(4, (.tup (.call 0 f_norm_and) (.cons (.lsub 11 false true false (.v 0) (.c .undef) (.c (.int .i64 1)) (.c .undef)) .nil)))],
   .sets [(1, (.un (.ext 0) (.v 4)))]])
 (.seq (.cond (.bi (.bin .neq) (.un (.ext 1) (.v 4)) (.c (.int .i64 0)))
  (.ret [.e (.c .nils), .e (.un (.ext 1) (.v 4))])
  (.skip))
 (.seq (.st [.sets [(5, (.tup (.call 0 f_norm_and) (.cons (.lsub 11 true false false (.v 0) (.c (.int .i64 1)) (.c .undef) (.c .undef)) .nil)))],
   .sets [(2, (.un (.ext 0) (.v 5)))]])
 (.seq (.cond (.bi (.bin .neq) (.un (.ext 1) (.v 5)) (.c (.int .i64 0)))
  (.ret [.e (.c .nils), .e (.un (.ext 1) (.v 5))])
  (.skip))
 (.seq (.st [.sets [(3, (.c .nils))]])
 (.seq (.seq (.st [.sets [(6, (.v 1)), (7, (.un .len (.v 1))), (8, (.c (.int .i64 0)))]])
 (.block 0 (.loop [false, false, true, true, false, false, true, true, true, false, false] b_norm_forall_0)))
 (.ret [.e (.tup (.call 0 f_norm_negs) (.cons (.v 3) .nil)), .e (.c (.int .i64 0))])))))))⟩
noncomputable def r73 : ERow := ⟨Go.Proofs.Tryz.f73, ⟨[], [(0, [false, false, false, false, false, false, true, true, false, false, false, false, false, false, false, false, false, false, false, false, false, false, false, false, false, false, false, false, true, true, true])]⟩, ⟨50, [0, 4, 6, 7, 10, 19, 28, 29, 30, 40, 41], [33], [10, 19]⟩, 1, e_norm_forall⟩

/-- slices.Clip[whelk/norm.row,whelk/norm.Lit] [0=s] -/
def e_slices_Clip_norm_row_norm_Lit : EFunc := ⟨1, 1,
 (.ret [.e (.lsub 11 false true true (.v 0) (.c .undef) (.un .len (.v 0)) (.un .len (.v 0)))])⟩
noncomputable def r74 : ERow := ⟨Go.Proofs.Tryz.f74, ⟨[], []⟩, ⟨9, [0], [], []⟩, 1, e_slices_Clip_norm_row_norm_Lit⟩

/-- slices.Clip[[]whelk/expr.Expr,whelk/expr.Expr] [0=s] -/
def e_slices_Clip_expr_Expr_expr_Expr : EFunc := ⟨1, 1,
 (.ret [.e (.lsub 6 false true true (.v 0) (.c .undef) (.un .len (.v 0)) (.un .len (.v 0)))])⟩
noncomputable def r76 : ERow := ⟨Go.Proofs.Tryz.f76, ⟨[], []⟩, ⟨9, [0], [], []⟩, 1, e_slices_Clip_expr_Expr_expr_Expr⟩

/-- whelk/whelkref12.fit [0=l] -/
def e_ref12_fit : EFunc := ⟨1, 1,
 (.seq (.cond (.un .not (.tup (.call 0 f_ref12_few) (.cons (.v 0) .nil)))
  (.ret [.e (.c .nils), .e (.c (.int .i64 4))])
  (.skip))
 (.ret [.e (.v 0), .e (.c (.int .i64 0))]))⟩
noncomputable def r77 : ERow := ⟨Go.Proofs.Tryz.f77, ⟨[], []⟩, ⟨8, [0], [], []⟩, 1, e_ref12_fit⟩

/-- whelk/whelkref12.negs [0=l, 1=out, 2=i] -/
def b_ref12_negs_0 : EC :=
 (.seq (.cond (.bi (.bin .lss) (.v 2) (.un .len (.v 0)))
  (.skip)
  (.exit 0))
 (.seq (.block 1 (.st [.eff (some 3) none (.append 11 168 T_ref12_negs_0 (.v 1) (.tup (.bslice 11 [(.int .i64 0), (.str []), (.str []), .nils, (.int .i64 0), (.int .i64 0), (.int .i64 0), (.str []), (.str []), .nils, .nils] 1 [0]) (.cons (.tup (.build [(.int .i64 0), (.str []), (.str []), .nils, (.int .i64 0), (.int .i64 0), (.int .i64 0), (.str []), (.str []), .nils, .nils] [(0, 1), (10, 1)]) (.cons (.c (.int .i64 3)) (.cons (.un (.ld none) (.bi (.idx 1) (.v 0) (.v 2))) .nil))) .nil))),
    .sets [(1, (.v 3))]]))
 (.st [.sets [(2, (.bi (.bin .add) (.v 2) (.c (.int .i64 1))))]])))
def e_ref12_negs : EFunc := ⟨1, 4,
 (.seq (.st [.sets [(1, (.c .nils))]])
 (.seq (.seq (.st [.sets [(2, (.c (.int .i64 0)))]])
 (.block 0 (.loop [true, true, true, false] b_ref12_negs_0)))
 (.ret [.e (.v 1)])))⟩
noncomputable def r78 : ERow := ⟨Go.Proofs.Tryz.f78, ⟨[], [(0, [true, false, false, true, true])]⟩, ⟨20, [0, 3, 4, 18], [15], []⟩, 1, e_ref12_negs⟩

/-- slices.EqualFunc[[]whelk/pat.Test,[]whelk/pat.Test,whelk/pat.Test,whelk/pat.Test] [0=s1, 1=s2, 2=eq, 3=v1, 4=v2] -/
def b_slices_EqualFunc_pat_Test_pat_Test_pat_Test_pat_Test_0 : EC :=
 (.seq (.cond (.bi (.bin .lss) (.v 7) (.v 6))
  (.skip)
  (.exit 0))
 (.seq (.block 1 (.seq (.st [.eff (some 3) none (.zbox [(.int .i64 0), (.bool false), (.str []), (.int .i64 0), (.int .i64 0), (.str [])] T_slices_EqualFunc_pat_Test_pat_Test_pat_Test_pat_Test_0),
    .eff none none (.store 6 (.v 3) (.un (.ld (some 6)) (.bi (.idx 6) (.v 5) (.v 7))))])
  (.seq (.st [.eff (some 4) none (.zbox [(.int .i64 0), (.bool false), (.str []), (.int .i64 0), (.int .i64 0), (.str [])] T_slices_EqualFunc_pat_Test_pat_Test_pat_Test_pat_Test_0),
    .eff none none (.store 6 (.v 4) (.un (.ld (some 6)) (.bi (.idx 6) (.v 1) (.v 7))))])
  (.seq (.st [.eff (some 8) none (.load (some 6) (.v 3)),
    .eff (some 9) none (.load (some 6) (.v 4)),
    .eff (some 10) none (.callv (.v 2) (.cons (.v 8) (.cons (.v 9) .nil)))])
  (.cond (.un .not (.v 10))
   (.ret [.e (.c (.bool false))])
   (.skip))))))
 (.st [.sets [(7, (.bi (.bin .add) (.v 7) (.c (.int .i64 1))))]])))
def e_slices_EqualFunc_pat_Test_pat_Test_pat_Test_pat_Test : EFunc := ⟨3, 11,
 (.seq (.cond (.bi (.bin .neq) (.un .len (.v 0)) (.un .len (.v 1)))
  (.ret [.e (.c (.bool false))])
  (.skip))
 (.seq (.seq (.st [.sets [(5, (.v 0)), (6, (.un .len (.v 0))), (7, (.c (.int .i64 0)))]])
 (.block 0 (.loop [false, true, true, false, false, true, true, true, false, false, false] b_slices_EqualFunc_pat_Test_pat_Test_pat_Test_pat_Test_0)))
 (.ret [.e (.c (.bool true))])))⟩
noncomputable def r79 : ERow := ⟨Go.Proofs.Tryz.f79, ⟨[], [(0, [false, true, true, false, false, false, false, false, false, false, false, false, false, false, false, true, true, true])]⟩, ⟨32, [0, 1, 2, 8, 9, 15, 16, 17, 27, 28, 29], [21, 25], []⟩, 3, e_slices_EqualFunc_pat_Test_pat_Test_pat_Test_pat_Test⟩

/-- whelk/pat.Same$1 [0=x, 1=y, 2=x, 3=y] -/
def e_pat_Same_1 : EFunc := ⟨2, 16,
 (.seq (.st [.eff (some 2) none (.box 6 T_pat_Same_1_0 (.v 0)),
   .eff (some 3) none (.box 6 T_pat_Same_1_0 (.v 1))])
 (.seq (.st [.eff (some 4) none (.load none (.un (.off 0) (.v 2))),
   .eff (some 5) none (.load none (.un (.off 0) (.v 3))),
   .eff (some 6) (some ((.bi (.bin .eql) (.v 4) (.v 5)), true)) (.load none (.un (.off 1) (.v 2))),
   .eff (some 7) (some ((.bi (.bin .eql) (.v 4) (.v 5)), true)) (.load none (.un (.off 1) (.v 3))),
   .sets [(8, (.pick (.bi (.bin .eql) (.v 4) (.v 5)) (.bi (.eqs 0 false) (.v 6) (.v 7)) (.c (.bool false)))), (9, (.gd true (.pick (.bi (.bin .eql) (.v 4) (.v 5)) (.bi (.eqs 0 false) (.v 6) (.v 7)) (.c (.bool false))) (.un (.off 2) (.v 2))))],
   .eff (some 10) (some ((.v 8), true)) (.load none (.v 9)),
   .eff (some 11) (some ((.v 8), true)) (.load none (.un (.off 2) (.v 3))),
   .sets [(12, (.pick (.v 8) (.bi (.bin .eql) (.v 10) (.v 11)) (.c (.bool false)))), (13, (.gd true (.pick (.v 8) (.bi (.bin .eql) (.v 10) (.v 11)) (.c (.bool false))) (.un (.off 3) (.v 2))))],
   .eff (some 14) (some ((.v 12), true)) (.load (some 3) (.v 13)),
   .eff (some 15) (some ((.v 12), true)) (.load (some 3) (.un (.off 3) (.v 3)))])
 (.ret [.e (.pick (.v 12) (.tup (.call 0 f_val_Same) (.cons (.v 14) (.cons (.v 15) .nil))) (.c (.bool false)))])))⟩
noncomputable def r80 : ERow := ⟨Go.Proofs.Tryz.f80, ⟨[], []⟩, ⟨31, [0, 1, 2, 3, 6, 8, 12, 14, 17, 18, 19, 21, 24, 25, 26, 28], [], []⟩, 2, e_pat_Same_1⟩

/-- whelk/val.Same [0=a, 1=b, 2=a, 3=b] -/
def e_val_Same : EFunc := ⟨2, 6,
 (.seq (.st [.eff (some 2) none (.box 3 T_val_Same_0 (.v 0)),
   .eff (some 3) none (.box 3 T_val_Same_0 (.v 1))])
 (.seq (.st [.eff (some 4) none (.load (some 3) (.v 2)),
   .eff (some 5) none (.load (some 3) (.v 3))])
 (.ret [.e (.bi (.bin .eql) (.tup (.call 0 f_val_Compare) (.cons (.v 4) (.cons (.v 5) .nil))) (.c (.int .i64 0)))])))⟩
noncomputable def r81 : ERow := ⟨Go.Proofs.Tryz.f81, ⟨[], []⟩, ⟨9, [0, 1, 2, 3, 5, 6], [], []⟩, 2, e_val_Same⟩

/-- slices.EqualFunc[[]whelk/expr.Expr,[]whelk/expr.Expr,whelk/expr.Expr,whelk/expr.Expr] [0=s1, 1=s2, 2=eq, 3=v1, 4=v2] -/
def b_slices_EqualFunc_expr_Expr_expr_Expr_expr_Expr_expr_Expr_0 : EC :=
 (.seq (.cond (.bi (.bin .lss) (.v 7) (.v 6))
  (.skip)
  (.exit 0))
 (.seq (.block 1 (.seq (.st [.eff (some 3) none (.zbox [(.int .i64 0), (.int .i64 0), (.int .i64 0), (.str []), (.str []), .nils] T_slices_EqualFunc_expr_Expr_expr_Expr_expr_Expr_expr_Expr_0),
    .eff none none (.store 6 (.v 3) (.un (.ld (some 6)) (.bi (.idx 6) (.v 5) (.v 7))))])
  (.seq (.st [.eff (some 4) none (.zbox [(.int .i64 0), (.int .i64 0), (.int .i64 0), (.str []), (.str []), .nils] T_slices_EqualFunc_expr_Expr_expr_Expr_expr_Expr_expr_Expr_0),
    .eff none none (.store 6 (.v 4) (.un (.ld (some 6)) (.bi (.idx 6) (.v 1) (.v 7))))])
  (.seq (.st [.eff (some 8) none (.load (some 6) (.v 3)),
    .eff (some 9) none (.load (some 6) (.v 4)),
    .eff (some 10) none (.callv (.v 2) (.cons (.v 8) (.cons (.v 9) .nil)))])
  (.cond (.un .not (.v 10))
   (.ret [.e (.c (.bool false))])
   (.skip))))))
 (.st [.sets [(7, (.bi (.bin .add) (.v 7) (.c (.int .i64 1))))]])))
def e_slices_EqualFunc_expr_Expr_expr_Expr_expr_Expr_expr_Expr : EFunc := ⟨3, 11,
 (.seq (.cond (.bi (.bin .neq) (.un .len (.v 0)) (.un .len (.v 1)))
  (.ret [.e (.c (.bool false))])
  (.skip))
 (.seq (.seq (.st [.sets [(5, (.v 0)), (6, (.un .len (.v 0))), (7, (.c (.int .i64 0)))]])
 (.block 0 (.loop [false, true, true, false, false, true, true, true, false, false, false] b_slices_EqualFunc_expr_Expr_expr_Expr_expr_Expr_expr_Expr_0)))
 (.ret [.e (.c (.bool true))])))⟩
noncomputable def r82 : ERow := ⟨Go.Proofs.Tryz.f82, ⟨[], [(0, [false, true, true, false, false, false, false, false, false, false, false, false, false, false, false, true, true, true])]⟩, ⟨32, [0, 1, 2, 8, 9, 15, 16, 17, 27, 28, 29], [21, 25], []⟩, 3, e_slices_EqualFunc_expr_Expr_expr_Expr_expr_Expr_expr_Expr⟩

/-- whelk/whelkref4.text [0=b, 1=at, 2=s, 3=c] -/
def b_ref4_text_0 : EC :=
 (.seq (.cond (.bi (.bin .lss) (.v 1) (.un .len (.v 0)))
  (.skip)
  (.exit 0))
 (.block 1 (.seq (.st [.sets [(3, (.un (.ld none) (.bi (.idx 1) (.v 0) (.v 1))))]])
  (.seq (.cond (.bi (.bin .eql) (.v 3) (.c (.int .u8 34)))
   (.seq (.cond (.bi (.bin .gtr) (.un .slen (.v 2)) (.c (.int .i64 1000)))
    (.ret [.e (.c (.str [])), .e (.c (.int .i64 0)), .e (.c (.int .i64 4))])
    (.skip))
   (.ret [.e (.v 2), .e (.bi (.bin .add) (.v 1) (.c (.int .i64 1))), .e (.c (.int .i64 0))]))
   (.skip))
  (.seq (.cond (.bi (.bin .eql) (.v 3) (.c (.int .u8 92)))
   (.seq (.st [.sets [(1, (.bi (.bin .add) (.v 1) (.c (.int .i64 1))))]])
   (.seq (.cond (.bi (.bin .eql) (.v 1) (.un .len (.v 0)))
    (.ret [.e (.c (.str [])), .e (.c (.int .i64 0)), .e (.c (.int .i64 3))])
    (.skip))
   (.st [.sets [(3, (.un (.ld none) (.bi (.idx 1) (.v 0) (.v 1))))]])))
   (.skip))
  (.seq (.st [.sets [(2, (.bi (.bin .add) (.v 2) (.un .tostr (.tup (.bslice 1 [(.int .u8 0)] 1 [0]) (.cons (.v 3) .nil)))))]])
  (.st [.sets [(1, (.bi (.bin .add) (.v 1) (.c (.int .i64 1))))]])))))))
def e_ref4_text : EFunc := ⟨2, 4,
 (.seq (.st [.sets [(2, (.c (.str [])))]])
 (.seq (.block 0 (.loop [true, true, true, false] b_ref4_text_0))
 (.ret [.e (.c (.str [])), .e (.c (.int .i64 0)), .e (.c (.int .i64 3))])))⟩
noncomputable def r83 : ERow := ⟨Go.Proofs.Tryz.f83, ⟨[], [(0, [true, true, false, false, false, false, false, true])]⟩, ⟨44, [0, 1, 7, 8], [16, 36], []⟩, 2, e_ref4_text⟩

/-- whelk/whelkref4.name [0=b, 1=at, 2=end, 3=s] -/
def b_ref4_name_0 : EC :=
 (.seq (.cond (.pick (.bi (.bin .lss) (.v 2) (.un .len (.v 0))) (.tup (.call 0 f_ref3_Part) (.cons (.un (.ld none) (.bi (.idx 1) (.v 0) (.v 2))) .nil)) (.c (.bool false)))
  (.skip)
  (.exit 0))
 (.block 1 (.st [.sets [(2, (.bi (.bin .add) (.v 2) (.c (.int .i64 1))))]])))
def e_ref4_name : EFunc := ⟨2, 4,
 (.seq (.st [.sets [(2, (.v 1))]])
 (.seq (.block 0 (.loop [true, true, true, false] b_ref4_name_0))
 (.seq (.st [.sets [(3, (.un .tostr (.lsub 1 true true false (.v 0) (.v 1) (.v 2) (.c .undef))))]])
 (.seq (.cond (.bi (.bin .gtr) (.un .slen (.v 3)) (.c (.int .i64 40)))
  (.ret [.e (.c (.str [])), .e (.c (.int .i64 0)), .e (.c (.int .i64 4))])
  (.skip))
 (.seq (.cond (.un .not (.tup (.call 0 f_ref3_Good) (.cons (.v 3) .nil)))
  (.ret [.e (.c (.str [])), .e (.c (.int .i64 0)), .e (.c (.int .i64 2))])
  (.skip))
 (.ret [.e (.v 3), .e (.v 2), .e (.c (.int .i64 0))]))))))⟩
noncomputable def r84 : ERow := ⟨Go.Proofs.Tryz.f84, ⟨[], [(0, [true, true, false, false, false, false, false, true])]⟩, ⟨36, [0, 1, 7, 8], [18], []⟩, 2, e_ref4_name⟩

/-- whelk/whelkref3.Sign [0=c] -/
def e_ref3_Sign : EFunc := ⟨1, 1,
 (.ret [.e (.pick (.pick (.pick (.pick (.pick (.pick (.pick (.bi (.bin .geq) (.v 0) (.c (.int .u8 33))) (.bi (.bin .leq) (.v 0) (.c (.int .u8 126))) (.c (.bool false))) (.bi (.bin .neq) (.v 0) (.c (.int .u8 40))) (.c (.bool false))) (.bi (.bin .neq) (.v 0) (.c (.int .u8 41))) (.c (.bool false))) (.bi (.bin .neq) (.v 0) (.c (.int .u8 34))) (.c (.bool false))) (.bi (.bin .neq) (.v 0) (.c (.int .u8 59))) (.c (.bool false))) (.bi (.bin .neq) (.v 0) (.c (.int .u8 63))) (.c (.bool false))) (.bi (.bin .neq) (.v 0) (.c (.int .u8 126))) (.c (.bool false)))])⟩
noncomputable def r85 : ERow := ⟨Go.Proofs.Tryz.f85, ⟨[], []⟩, ⟨33, [0], [], []⟩, 1, e_ref3_Sign⟩

/-- whelk/whelkref1.Shape [0=s, 1=from, 2=i] -/
def b_ref1_Shape_0 : EC :=
 (.seq (.cond (.bi (.bin .lss) (.v 2) (.un .slen (.v 0)))
  (.skip)
  (.exit 0))
 (.seq (.block 1 (.cond (.pick (.bi (.bin .lss) (.bi .sidx (.v 0) (.v 2)) (.c (.int .u8 48))) (.c (.bool true)) (.bi (.bin .gtr) (.bi .sidx (.v 0) (.v 2)) (.c (.int .u8 57))))
   (.ret [.e (.c (.bool false))])
   (.skip)))
 (.st [.sets [(2, (.bi (.bin .add) (.v 2) (.c (.int .i64 1))))]])))
def e_ref1_Shape : EFunc := ⟨1, 3,
 (.seq (.st [.sets [(1, (.c (.int .i64 0)))]])
 (.seq (.cond (.pick (.bi (.bin .gtr) (.un .slen (.v 0)) (.c (.int .i64 0))) (.pick (.bi (.bin .eql) (.bi .sidx (.v 0) (.c (.int .i64 0))) (.c (.int .u8 43))) (.c (.bool true)) (.bi (.bin .eql) (.bi .sidx (.v 0) (.c (.int .i64 0))) (.c (.int .u8 45)))) (.c (.bool false)))
  (.st [.sets [(1, (.c (.int .i64 1)))]])
  (.skip))
 (.seq (.seq (.st [.sets [(2, (.v 1))]])
 (.block 0 (.loop [true, true, true] b_ref1_Shape_0)))
 (.ret [.e (.bi (.bin .gtr) (.un .slen (.v 0)) (.v 1))]))))⟩
noncomputable def r86 : ERow := ⟨Go.Proofs.Tryz.f86, ⟨[], [(0, [true, false, false, true, true])]⟩, ⟨39, [0, 3, 4], [], []⟩, 1, e_ref1_Shape⟩

/-- whelk/whelkref1.Parse [0=s, 1=neg, 2=v, 3=i, 4=d, 5=w, 6=x] -/
def b_ref1_Parse_0 : EC :=
 (.seq (.cond (.bi (.bin .lss) (.v 3) (.un .slen (.v 0)))
  (.skip)
  (.exit 0))
 (.seq (.block 1 (.seq (.cond (.pick (.bi (.bin .eql) (.bi .sidx (.v 0) (.v 3)) (.c (.int .u8 43))) (.c (.bool true)) (.bi (.bin .eql) (.bi .sidx (.v 0) (.v 3)) (.c (.int .u8 45))))
   (.exit 1)
   (.skip))
  (.seq (.st [.sets [(4, (.un (.conv .i64) (.bi (.bin .sub) (.bi .sidx (.v 0) (.v 3)) (.c (.int .u8 48)))))]])
  (.seq (.cond (.v 1)
   (.st [.sets [(4, (.bi (.bin .sub) (.c (.int .i64 0)) (.v 4)))]])
   (.skip))
  (.seq (.st [.sets [(7, (.tup (.call 0 f_ref1_Mul) (.cons (.v 2) (.cons (.c (.int .i64 10)) .nil))))],
    .sets [(5, (.un (.ext 0) (.v 7)))]])
  (.seq (.cond (.bi (.bin .neq) (.un (.ext 1) (.v 7)) (.c (.int .i64 0)))
   (.ret [.e (.c (.int .i64 0)), .e (.un (.ext 1) (.v 7))])
   (.skip))
  (.seq (.st [.sets [(8, (.tup (.call 0 f_ref1_Add) (.cons (.v 5) (.cons (.v 4) .nil))))],
    .sets [(6, (.un (.ext 0) (.v 8)))]])
  (.seq (.cond (.bi (.bin .neq) (.un (.ext 1) (.v 8)) (.c (.int .i64 0)))
   (.ret [.e (.c (.int .i64 0)), .e (.un (.ext 1) (.v 8))])
   (.skip))
  (.st [.sets [(2, (.v 6))]])))))))))
 (.st [.sets [(3, (.bi (.bin .add) (.v 3) (.c (.int .i64 1))))]])))
def e_ref1_Parse : EFunc := ⟨1, 9,
 (.seq (.cond (.un .not (.tup (.call 0 f_ref1_Shape) (.cons (.v 0) .nil)))
  (.ret [.e (.c (.int .i64 0)), .e (.c (.int .i64 2))])
  (.skip))
 (.seq (.st [.sets [(1, (.bi (.bin .eql) (.bi .sidx (.v 0) (.c (.int .i64 0))) (.c (.int .u8 45))))]])
 (.seq (.st [.sets [(2, (.c (.int .i64 0)))]])
 (.seq (.seq (.st [.sets [(3, (.c (.int .i64 0)))]])
 (.block 0 (.loop [true, true, true, true, false, false, false, false, false] b_ref1_Parse_0)))
 (.ret [.e (.v 2), .e (.c (.int .i64 0))])))))⟩
noncomputable def r87 : ERow := ⟨Go.Proofs.Tryz.f87, ⟨[], [(0, [true, false, false, false, true, true, true])]⟩, ⟨61, [0, 4, 5, 6, 7, 8, 10, 42, 50], [], [42, 50]⟩, 1, e_ref1_Parse⟩

/-- whelk/whelkref5.Value [0=n, 1=n] -/
def e_ref5_Value : EFunc := ⟨1, 9,
 (.seq (.st [.eff (some 1) none (.box 5 T_ref5_Value_0 (.v 0)),
   .eff (some 2) none (.zbox [(.int .i64 0), (.int .i64 0), (.str [])] T_ref5_Value_1)])
 (.seq (.seq (.st [.eff (some 3) none (.load none (.un (.off 0) (.v 1))),
   .eff (some 4) (some ((.bi (.bin .eql) (.v 3) (.c (.int .i64 1))), false)) (.load none (.un (.off 0) (.v 1))),
   .eff (some 5) (some ((.pick (.bi (.bin .eql) (.v 3) (.c (.int .i64 1))) (.c (.bool true)) (.bi (.bin .eql) (.v 4) (.c (.int .i64 2)))), false)) (.load none (.un (.off 0) (.v 1)))])
 (.cond (.pick (.pick (.bi (.bin .eql) (.v 3) (.c (.int .i64 1))) (.c (.bool true)) (.bi (.bin .eql) (.v 4) (.c (.int .i64 2)))) (.c (.bool true)) (.bi (.bin .eql) (.v 5) (.c (.int .i64 3))))
  (.seq (.st [.eff (some 6) none (.load none (.un (.off 0) (.v 1))),
    .eff (some 7) none (.load none (.un (.off 2) (.v 1))),
    .eff (some 8) none (.load none (.un (.off 3) (.v 1))),
    .eff none none (.store 3 (.v 2) (.tup (.build [(.int .i64 0), (.int .i64 0), (.str [])] [(0, 1), (1, 1), (2, 1)]) (.cons (.v 6) (.cons (.v 7) (.cons (.v 8) .nil)))))])
  (.ret [.cell (.v 2) (some 3), .e (.c (.bool true))]))
  (.skip)))
 (.seq (.st [.eff none none (.store 3 (.v 2) (.tup (.build [(.int .i64 0), (.int .i64 0), (.str [])] []) .nil))])
 (.ret [.cell (.v 2) (some 3), .e (.c (.bool false))]))))⟩
noncomputable def r88 : ERow := ⟨Go.Proofs.Tryz.f88, ⟨[], []⟩, ⟨25, [0, 1, 2, 5, 9, 14, 18, 20, 22], [], []⟩, 1, e_ref5_Value⟩

/-- whelk/whelkref12.word [0=kind] -/
def e_ref12_word : EFunc := ⟨1, 1,
 (.ret [.e (.un (.ld none) (.bi (.idx 1) (.tup (.bslice 1 [(.str [])] 9 [0, 1, 2, 3, 4, 5, 6, 7, 8]) (.cons (.c (.str [])) (.cons (.c (.str [])) (.cons (.c (.str [116, 101, 115, 116])) (.cons (.c (.str [110, 111, 116])) (.cons (.c (.str [97, 110, 100])) (.cons (.c (.str [111, 114])) (.cons (.c (.str [101, 120, 105, 115, 116, 115])) (.cons (.c (.str [102, 111, 114, 97, 108, 108])) (.cons (.c (.str [108, 111, 103, 105, 99, 97, 108])) .nil)))))))))) (.v 0)))])⟩
noncomputable def r89 : ERow := ⟨Go.Proofs.Tryz.f89, ⟨[], []⟩, ⟨7, [0], [6], []⟩, 1, e_ref12_word⟩

/-- whelk/whelkref7.wrong [0=n, 1=e, 2=n] -/
def e_ref7_wrong : EFunc := ⟨2, 6,
 (.seq (.st [.eff (some 2) none (.box 5 T_ref7_wrong_0 (.v 0)),
   .eff (some 3) none (.zbox [(.int .i64 0), (.int .i64 0), (.int .i64 0), (.str []), (.str []), .nils] T_ref7_wrong_1),
   .eff (some 4) none (.zbox [.nils, (.int .i64 0)] T_ref7_wrong_2)])
 (.seq (.st [.eff (some 5) none (.load none (.un (.off 1) (.v 2))),
   .eff none none (.store 6 (.v 3) (.tup (.build [(.int .i64 0), (.int .i64 0), (.int .i64 0), (.str []), (.str []), .nils] []) .nil)),
   .eff none none (.store 2 (.v 4) (.tup (.call 0 f_ref5_At) (.cons (.c (.str [99, 104, 97, 114])) (.cons (.v 5) (.cons (.v 1) .nil)))))])
 (.ret [.cell (.v 3) (some 6), .cell (.v 4) (some 2)])))⟩
noncomputable def r90 : ERow := ⟨Go.Proofs.Tryz.f90, ⟨[], []⟩, ⟨11, [0, 1, 2, 4, 5, 8], [], []⟩, 2, e_ref7_wrong⟩

/-- whelk/whelkref7.args [0=name, 1=n, 2=funs, 3=i] -/
def b_ref7_args_0 : EC :=
 (.seq (.cond (.bi (.bin .lss) (.v 3) (.un .len (.v 2)))
  (.skip)
  (.exit 0))
 (.seq (.block 1 (.cond (.bi (.bin .eql) (.un (.ld none) (.un (.off 0) (.bi (.idx 2) (.v 2) (.v 3)))) (.v 0))
   (.seq (.cond (.bi (.bin .neq) (.un (.ld none) (.un (.off 1) (.bi (.idx 2) (.v 2) (.v 3)))) (.v 1))
    (.ret [.e (.c (.int .i64 1))])
    (.skip))
   (.ret [.e (.c (.int .i64 0))]))
   (.skip)))
 (.st [.sets [(3, (.bi (.bin .add) (.v 3) (.c (.int .i64 1))))]])))
def e_ref7_args : EFunc := ⟨3, 4,
 (.seq (.seq (.st [.sets [(3, (.c (.int .i64 0)))]])
 (.block 0 (.loop [true, true, true, true] b_ref7_args_0)))
 (.seq (.cond (.un .not (.tup (.call 0 f_ref6_Known) (.cons (.v 0) .nil)))
  (.ret [.e (.c (.int .i64 5))])
  (.skip))
 (.seq (.cond (.un .not (.tup (.call 0 f_ref6_Fits) (.cons (.v 0) (.cons (.v 1) .nil))))
  (.ret [.e (.c (.int .i64 1))])
  (.skip))
 (.ret [.e (.c (.int .i64 0))]))))⟩
noncomputable def r91 : ERow := ⟨Go.Proofs.Tryz.f91, ⟨[], [(0, [true, true, true, false, false, false, false, true])]⟩, ⟨35, [0, 1, 2, 7], [18, 25], []⟩, 3, e_ref7_args⟩

/-- whelk/val.Compare [0=a, 1=b, 2=a, 3=b] -/
def e_val_Compare : EFunc := ⟨2, 10,
 (.seq (.st [.eff (some 2) none (.box 3 T_val_Compare_0 (.v 0)),
   .eff (some 3) none (.box 3 T_val_Compare_0 (.v 1))])
 (.seq (.st [.eff (some 4) none (.load none (.un (.off 0) (.v 2))),
   .eff (some 5) none (.load none (.un (.off 0) (.v 3))),
   .eff (some 6) none (.load none (.un (.off 1) (.v 2))),
   .eff (some 7) none (.load none (.un (.off 1) (.v 3))),
   .eff (some 8) none (.load none (.un (.off 2) (.v 2))),
   .eff (some 9) none (.load none (.un (.off 2) (.v 3)))])
 (.ret [.e (.tup (.call 0 f_cmp_Or_int) (.cons (.tup (.bslice 1 [(.int .i64 0)] 3 [0, 1, 2]) (.cons (.tup (.call 0 f_cmp_Compare_int) (.cons (.v 4) (.cons (.v 5) .nil))) (.cons (.tup (.call 0 f_cmp_Compare_int64) (.cons (.v 6) (.cons (.v 7) .nil))) (.cons (.tup (.call 0 f_cmp_Compare_string) (.cons (.v 8) (.cons (.v 9) .nil))) .nil)))) .nil))])))⟩
noncomputable def r92 : ERow := ⟨Go.Proofs.Tryz.f92, ⟨[(1, (.cons 0 0 (.cons 0 2 (.cons 0 5 (.cons 0 7 (.cons 0 10 (.cons 0 12 (.cons 1 1 (.cons 1 3 (.cons 1 6 (.cons 1 8 (.cons 1 11 (.cons 1 13 (.cons 2 4 (.cons 2 9 (.cons 2 14 (.cons 2 15 (.cons 2 16 (.cons 0 17 .nil)))))))))))))))))))], []⟩, ⟨22, [0, 1, 2, 3, 6, 8, 11, 13, 16, 18], [], []⟩, 2, e_val_Compare⟩

/-- whelk/whelkref3.Part [0=c] -/
def e_ref3_Part : EFunc := ⟨1, 1,
 (.ret [.e (.pick (.pick (.pick (.tup (.call 0 f_ref3_letter) (.cons (.v 0) .nil)) (.c (.bool true)) (.pick (.bi (.bin .geq) (.v 0) (.c (.int .u8 48))) (.bi (.bin .leq) (.v 0) (.c (.int .u8 57))) (.c (.bool false)))) (.c (.bool true)) (.bi (.bin .eql) (.v 0) (.c (.int .u8 45)))) (.c (.bool true)) (.bi (.bin .eql) (.v 0) (.c (.int .u8 95))))])⟩
noncomputable def r93 : ERow := ⟨Go.Proofs.Tryz.f93, ⟨[], []⟩, ⟨21, [0], [], []⟩, 1, e_ref3_Part⟩

/-- whelk/whelkref3.Good [0=s, 1=i] -/
def b_ref3_Good_0 : EC :=
 (.seq (.cond (.bi (.bin .lss) (.v 1) (.un .slen (.v 0)))
  (.skip)
  (.exit 0))
 (.seq (.block 1 (.cond (.un .not (.tup (.call 0 f_ref3_Part) (.cons (.bi .sidx (.v 0) (.v 1)) .nil)))
   (.ret [.e (.c (.bool false))])
   (.skip)))
 (.st [.sets [(1, (.bi (.bin .add) (.v 1) (.c (.int .i64 1))))]])))
def e_ref3_Good : EFunc := ⟨1, 2,
 (.seq (.cond (.pick (.pick (.bi (.bin .eql) (.un .slen (.v 0)) (.c (.int .i64 0))) (.c (.bool true)) (.bi (.bin .gtr) (.un .slen (.v 0)) (.c (.int .i64 40)))) (.c (.bool true)) (.un .not (.tup (.call 0 f_ref3_letter) (.cons (.bi .sidx (.v 0) (.c (.int .i64 0))) .nil))))
  (.ret [.e (.c (.bool false))])
  (.skip))
 (.seq (.seq (.st [.sets [(1, (.c (.int .i64 0)))]])
 (.block 0 (.loop [true, true] b_ref3_Good_0)))
 (.ret [.e (.c (.bool true))])))⟩
noncomputable def r94 : ERow := ⟨Go.Proofs.Tryz.f94, ⟨[], [(0, [true, false, false, true])]⟩, ⟨29, [0, 3], [], []⟩, 1, e_ref3_Good⟩

/-- whelk/whelkref1.Mul [0=a, 1=b, 2=x, 3=y, 4=top] -/
def e_ref1_Mul : EFunc := ⟨2, 5,
 (.seq (.st [.sets [(2, (.tup (.call 0 f_ref1_size) (.cons (.v 0) .nil)))]])
 (.seq (.st [.sets [(3, (.tup (.call 0 f_ref1_size) (.cons (.v 1) .nil)))]])
 (.seq (.st [.sets [(4, (.c (.int .u64 9223372036854775807)))]])
 (.seq (.cond (.bi (.eqs 0 true) (.bi (.bin .lss) (.v 0) (.c (.int .i64 0))) (.bi (.bin .lss) (.v 1) (.c (.int .i64 0))))
  (.st [.sets [(4, (.bi (.bin .add) (.v 4) (.c (.int .u64 1))))]])
  (.skip))
 (.seq (.cond (.pick (.bi (.bin .neq) (.v 2) (.c (.int .u64 0))) (.bi (.bin .gtr) (.v 3) (.bi (.bin .quo) (.v 4) (.v 2))) (.c (.bool false)))
  (.ret [.e (.c (.int .i64 0)), .e (.c (.int .i64 11))])
  (.skip))
 (.ret [.e (.bi (.bin .mul) (.v 0) (.v 1)), .e (.c (.int .i64 0))]))))))⟩
noncomputable def r95 : ERow := ⟨Go.Proofs.Tryz.f95, ⟨[], []⟩, ⟨32, [0, 1, 6, 7, 8], [], []⟩, 2, e_ref1_Mul⟩

/-- whelk/whelkref1.Add [0=a, 1=b] -/
def e_ref1_Add : EFunc := ⟨2, 2,
 (.seq (.cond (.pick (.pick (.bi (.bin .gtr) (.v 1) (.c (.int .i64 0))) (.bi (.bin .gtr) (.v 0) (.bi (.bin .sub) (.c (.int .i64 9223372036854775807)) (.v 1))) (.c (.bool false))) (.c (.bool true)) (.pick (.bi (.bin .lss) (.v 1) (.c (.int .i64 0))) (.bi (.bin .lss) (.v 0) (.bi (.bin .sub) (.c (.int .i64 (-9223372036854775808))) (.v 1))) (.c (.bool false))))
  (.ret [.e (.c (.int .i64 0)), .e (.c (.int .i64 11))])
  (.skip))
 (.ret [.e (.bi (.bin .add) (.v 0) (.v 1)), .e (.c (.int .i64 0))]))⟩
noncomputable def r96 : ERow := ⟨Go.Proofs.Tryz.f96, ⟨[], []⟩, ⟨27, [0, 1], [], []⟩, 2, e_ref1_Add⟩

/-- whelk/whelkref6.Known [0=name, 1=l, 2=i] -/
def b_ref6_Known_0 : EC :=
 (.seq (.cond (.bi (.bin .lss) (.v 2) (.un .len (.v 1)))
  (.skip)
  (.exit 0))
 (.seq (.block 1 (.cond (.bi (.bin .eql) (.un (.ld none) (.bi (.idx 1) (.v 1) (.v 2))) (.v 0))
   (.ret [.e (.c (.bool true))])
   (.skip)))
 (.st [.sets [(2, (.bi (.bin .add) (.v 2) (.c (.int .i64 1))))]])))
def e_ref6_Known : EFunc := ⟨1, 3,
 (.seq (.st [.sets [(1, (.tup (.call 0 f_ref6_Names) .nil))]])
 (.seq (.seq (.st [.sets [(2, (.c (.int .i64 0)))]])
 (.block 0 (.loop [true, true, true] b_ref6_Known_0)))
 (.ret [.e (.c (.bool false))])))⟩
noncomputable def r97 : ERow := ⟨Go.Proofs.Tryz.f97, ⟨[], [(0, [true, false, false, true, true])]⟩, ⟨18, [0, 3, 4], [15], []⟩, 1, e_ref6_Known⟩

/-- whelk/whelkref6.Fits [0=name, 1=n, 2=hi] -/
def e_ref6_Fits : EFunc := ⟨2, 4,
 (.seq (.st [.sets [(3, (.tup (.call 0 f_ref6_Arity) (.cons (.v 0) .nil)))],
   .sets [(2, (.un (.ext 1) (.v 3)))]])
 (.ret [.e (.pick (.bi (.bin .geq) (.v 1) (.un (.ext 0) (.v 3))) (.pick (.bi (.bin .lss) (.v 2) (.c (.int .i64 0))) (.c (.bool true)) (.bi (.bin .leq) (.v 1) (.v 2))) (.c (.bool false)))]))⟩
noncomputable def r98 : ERow := ⟨Go.Proofs.Tryz.f98, ⟨[], []⟩, ⟨24, [0, 1, 6, 7], [], [7]⟩, 2, e_ref6_Fits⟩

/-- cmp.Or[int] [0=vals, 1=zero] -/
def b_cmp_Or_int_0 : EC :=
 (.seq (.cond (.bi (.bin .lss) (.v 4) (.v 3))
  (.skip)
  (.exit 0))
 (.seq (.block 1 (.cond (.bi (.bin .neq) (.un (.ld none) (.bi (.idx 1) (.v 2) (.v 4))) (.v 1))
   (.ret [.e (.un (.ld none) (.bi (.idx 1) (.v 2) (.v 4)))])
   (.skip)))
 (.st [.sets [(4, (.bi (.bin .add) (.v 4) (.c (.int .i64 1))))]])))
def e_cmp_Or_int : EFunc := ⟨1, 5,
 (.seq (.st [.sets [(1, (.c (.int .i64 0)))]])
 (.seq (.seq (.st [.sets [(2, (.v 0)), (3, (.un .len (.v 0))), (4, (.c (.int .i64 0)))]])
 (.block 0 (.loop [false, true, true, true, true] b_cmp_Or_int_0)))
 (.ret [.e (.v 1)])))⟩
noncomputable def r99 : ERow := ⟨Go.Proofs.Tryz.f99, ⟨[], [(0, [false, false, false, true, false, false, true, true, true])]⟩, ⟨18, [0, 3, 6, 7, 8], [11], []⟩, 1, e_cmp_Or_int⟩

/-- cmp.Compare[int] [0=x, 1=y, 2=yNaN] -/
def e_cmp_Compare_int : EFunc := ⟨2, 3,
 (.seq (.st [.sets [(2, (.tup (.call 0 f_cmp_isNaN_int) (.cons (.v 1) .nil)))]])
 (.seq (.cond (.tup (.call 0 f_cmp_isNaN_int) (.cons (.v 0) .nil))
  (.seq (.cond (.v 2)
   (.ret [.e (.c (.int .i64 0))])
   (.skip))
  (.ret [.e (.c (.int .i64 (-1)))]))
  (.skip))
 (.seq (.cond (.v 2)
  (.ret [.e (.c (.int .i64 1))])
  (.skip))
 (.seq (.cond (.bi (.bin .lss) (.v 0) (.v 1))
  (.ret [.e (.c (.int .i64 (-1)))])
  (.skip))
 (.seq (.cond (.bi (.bin .gtr) (.v 0) (.v 1))
  (.ret [.e (.c (.int .i64 1))])
  (.skip))
 (.ret [.e (.c (.int .i64 0))]))))))⟩
noncomputable def r100 : ERow := ⟨Go.Proofs.Tryz.f100, ⟨[], []⟩, ⟨20, [0, 1, 6], [], []⟩, 2, e_cmp_Compare_int⟩

/-- cmp.Compare[int64] [0=x, 1=y, 2=yNaN] -/
def e_cmp_Compare_int64 : EFunc := ⟨2, 3,
 (.seq (.st [.sets [(2, (.tup (.call 0 f_cmp_isNaN_int64) (.cons (.v 1) .nil)))]])
 (.seq (.cond (.tup (.call 0 f_cmp_isNaN_int64) (.cons (.v 0) .nil))
  (.seq (.cond (.v 2)
   (.ret [.e (.c (.int .i64 0))])
   (.skip))
  (.ret [.e (.c (.int .i64 (-1)))]))
  (.skip))
 (.seq (.cond (.v 2)
  (.ret [.e (.c (.int .i64 1))])
  (.skip))
 (.seq (.cond (.bi (.bin .lss) (.v 0) (.v 1))
  (.ret [.e (.c (.int .i64 (-1)))])
  (.skip))
 (.seq (.cond (.bi (.bin .gtr) (.v 0) (.v 1))
  (.ret [.e (.c (.int .i64 1))])
  (.skip))
 (.ret [.e (.c (.int .i64 0))]))))))⟩
noncomputable def r101 : ERow := ⟨Go.Proofs.Tryz.f101, ⟨[], []⟩, ⟨20, [0, 1, 6], [], []⟩, 2, e_cmp_Compare_int64⟩

/-- cmp.Compare[string] [0=x, 1=y, 2=yNaN] -/
def e_cmp_Compare_string : EFunc := ⟨2, 3,
 (.seq (.st [.sets [(2, (.tup (.call 0 f_cmp_isNaN_string) (.cons (.v 1) .nil)))]])
 (.seq (.cond (.tup (.call 0 f_cmp_isNaN_string) (.cons (.v 0) .nil))
  (.seq (.cond (.v 2)
   (.ret [.e (.c (.int .i64 0))])
   (.skip))
  (.ret [.e (.c (.int .i64 (-1)))]))
  (.skip))
 (.seq (.cond (.v 2)
  (.ret [.e (.c (.int .i64 1))])
  (.skip))
 (.seq (.cond (.bi (.bin .lss) (.v 0) (.v 1))
  (.ret [.e (.c (.int .i64 (-1)))])
  (.skip))
 (.seq (.cond (.bi (.bin .gtr) (.v 0) (.v 1))
  (.ret [.e (.c (.int .i64 1))])
  (.skip))
 (.ret [.e (.c (.int .i64 0))]))))))⟩
noncomputable def r102 : ERow := ⟨Go.Proofs.Tryz.f102, ⟨[], []⟩, ⟨20, [0, 1, 6], [], []⟩, 2, e_cmp_Compare_string⟩

/-- whelk/whelkref3.letter [0=c] -/
def e_ref3_letter : EFunc := ⟨1, 1,
 (.ret [.e (.pick (.pick (.bi (.bin .geq) (.v 0) (.c (.int .u8 97))) (.bi (.bin .leq) (.v 0) (.c (.int .u8 122))) (.c (.bool false))) (.c (.bool true)) (.pick (.bi (.bin .geq) (.v 0) (.c (.int .u8 65))) (.bi (.bin .leq) (.v 0) (.c (.int .u8 90))) (.c (.bool false))))])⟩
noncomputable def r103 : ERow := ⟨Go.Proofs.Tryz.f103, ⟨[], []⟩, ⟨17, [0], [], []⟩, 1, e_ref3_letter⟩

/-- whelk/whelkref1.size [0=v] -/
def e_ref1_size : EFunc := ⟨1, 1,
 (.seq (.cond (.bi (.bin .lss) (.v 0) (.c (.int .i64 0)))
  (.ret [.e (.bi (.bin .add) (.un (.conv .u64) (.bi (.bin .sub) (.c (.int .i64 0)) (.bi (.bin .add) (.v 0) (.c (.int .i64 1))))) (.c (.int .u64 1)))])
  (.skip))
 (.ret [.e (.un (.conv .u64) (.v 0))]))⟩
noncomputable def r104 : ERow := ⟨Go.Proofs.Tryz.f104, ⟨[], []⟩, ⟨12, [0], [], []⟩, 1, e_ref1_size⟩

/-- whelk/whelkref6.Names [] -/
def e_ref6_Names : EFunc := ⟨0, 0,
 (.ret [.e (.tup (.bslice 1 [(.str [])] 21 [0, 1, 2, 3, 4, 5, 6, 7, 8, 9, 10, 11, 12, 13, 14, 15, 16, 17, 18, 19, 20]) (.cons (.c (.str [42])) (.cons (.c (.str [43])) (.cons (.c (.str [45])) (.cons (.c (.str [60])) (.cons (.c (.str [60, 61])) (.cons (.c (.str [60, 62])) (.cons (.c (.str [61])) (.cons (.c (.str [62])) (.cons (.c (.str [62, 61])) (.cons (.c (.str [97, 98, 115])) (.cons (.c (.str [100, 105, 118])) (.cons (.c (.str [101, 113])) (.cons (.c (.str [108, 101, 110, 103, 116, 104])) (.cons (.c (.str [109, 97, 120])) (.cons (.c (.str [109, 105, 110])) (.cons (.c (.str [109, 111, 100])) (.cons (.c (.str [110, 101, 113])) (.cons (.c (.str [110, 111, 116])) (.cons (.c (.str [115, 116, 114, 45, 99, 97, 116])) (.cons (.c (.str [115, 121, 109, 45, 99, 97, 116])) (.cons (.c (.str [116, 121, 112, 101])) .nil))))))))))))))))))))))])⟩
noncomputable def r105 : ERow := ⟨Go.Proofs.Tryz.f105, ⟨[], []⟩, ⟨2, [], [], []⟩, 0, e_ref6_Names⟩

/-- whelk/whelkref6.Arity [0=name] -/
def e_ref6_Arity : EFunc := ⟨1, 6,
 (.seq (.block 0 (.seq (.seq (.st [.sets [(1, (.bi (.bin .eql) (.v 0) (.c (.str [43]))))]])
  (.cond (.v 1)
   (.skip)
   (.seq (.st [.sets [(1, (.bi (.bin .eql) (.v 0) (.c (.str [42]))))]])
   (.cond (.v 1)
    (.skip)
    (.st [.sets [(1, (.bi (.bin .eql) (.v 0) (.c (.str [115, 116, 114, 45, 99, 97, 116]))))]])))))
  (.cond (.v 1)
   (.ret [.e (.c (.int .i64 0)), .e (.c (.int .i64 (-1)))])
   (.seq (.seq (.st [.sets [(2, (.bi (.bin .eql) (.v 0) (.c (.str [45]))))]])
   (.cond (.v 2)
    (.skip)
    (.seq (.st [.sets [(2, (.bi (.bin .eql) (.v 0) (.c (.str [109, 105, 110]))))]])
    (.cond (.v 2)
     (.skip)
     (.seq (.st [.sets [(2, (.bi (.bin .eql) (.v 0) (.c (.str [109, 97, 120]))))]])
     (.cond (.v 2)
      (.skip)
      (.st [.sets [(2, (.bi (.bin .eql) (.v 0) (.c (.str [115, 121, 109, 45, 99, 97, 116]))))]])))))))
   (.cond (.v 2)
    (.ret [.e (.c (.int .i64 1)), .e (.c (.int .i64 (-1)))])
    (.seq (.seq (.st [.sets [(3, (.bi (.bin .eql) (.v 0) (.c (.str [60]))))]])
    (.cond (.v 3)
     (.skip)
     (.seq (.st [.sets [(3, (.bi (.bin .eql) (.v 0) (.c (.str [60, 61]))))]])
     (.cond (.v 3)
      (.skip)
      (.seq (.st [.sets [(3, (.bi (.bin .eql) (.v 0) (.c (.str [62]))))]])
      (.cond (.v 3)
       (.skip)
       (.st [.sets [(3, (.bi (.bin .eql) (.v 0) (.c (.str [62, 61]))))]])))))))
    (.cond (.v 3)
     (.ret [.e (.c (.int .i64 2)), .e (.c (.int .i64 (-1)))])
     (.seq (.seq (.st [.sets [(4, (.bi (.bin .eql) (.v 0) (.c (.str [100, 105, 118]))))]])
     (.cond (.v 4)
      (.skip)
      (.seq (.st [.sets [(4, (.bi (.bin .eql) (.v 0) (.c (.str [109, 111, 100]))))]])
      (.cond (.v 4)
       (.skip)
       (.seq (.st [.sets [(4, (.bi (.bin .eql) (.v 0) (.c (.str [61]))))]])
       (.cond (.v 4)
        (.skip)
        (.seq (.st [.sets [(4, (.bi (.bin .eql) (.v 0) (.c (.str [60, 62]))))]])
        (.cond (.v 4)
         (.skip)
         (.seq (.st [.sets [(4, (.bi (.bin .eql) (.v 0) (.c (.str [101, 113]))))]])
         (.cond (.v 4)
          (.skip)
          (.st [.sets [(4, (.bi (.bin .eql) (.v 0) (.c (.str [110, 101, 113]))))]])))))))))))
     (.cond (.v 4)
      (.ret [.e (.c (.int .i64 2)), .e (.c (.int .i64 2))])
      (.seq (.seq (.st [.sets [(5, (.bi (.bin .eql) (.v 0) (.c (.str [97, 98, 115]))))]])
      (.cond (.v 5)
       (.skip)
       (.seq (.st [.sets [(5, (.bi (.bin .eql) (.v 0) (.c (.str [110, 111, 116]))))]])
       (.cond (.v 5)
        (.skip)
        (.seq (.st [.sets [(5, (.bi (.bin .eql) (.v 0) (.c (.str [108, 101, 110, 103, 116, 104]))))]])
        (.cond (.v 5)
         (.skip)
         (.st [.sets [(5, (.bi (.bin .eql) (.v 0) (.c (.str [116, 121, 112, 101]))))]])))))))
      (.cond (.v 5)
       (.ret [.e (.c (.int .i64 1)), .e (.c (.int .i64 1))])
       (.skip))))))))))))
 (.ret [.e (.c (.int .i64 0)), .e (.c (.int .i64 0))]))⟩
noncomputable def r106 : ERow := ⟨Go.Proofs.Tryz.f106, ⟨[], []⟩, ⟨31, [0, 5, 9, 14, 19, 26], [], []⟩, 1, e_ref6_Arity⟩

/-- cmp.isNaN[int] [0=x] -/
def e_cmp_isNaN_int : EFunc := ⟨1, 1,
 (.ret [.e (.bi (.bin .neq) (.v 0) (.v 0))])⟩
noncomputable def r107 : ERow := ⟨Go.Proofs.Tryz.f107, ⟨[], []⟩, ⟨6, [0], [], []⟩, 1, e_cmp_isNaN_int⟩

/-- cmp.isNaN[int64] [0=x] -/
def e_cmp_isNaN_int64 : EFunc := ⟨1, 1,
 (.ret [.e (.bi (.bin .neq) (.v 0) (.v 0))])⟩
noncomputable def r108 : ERow := ⟨Go.Proofs.Tryz.f108, ⟨[], []⟩, ⟨6, [0], [], []⟩, 1, e_cmp_isNaN_int64⟩

/-- cmp.isNaN[string] [0=x] -/
def e_cmp_isNaN_string : EFunc := ⟨1, 1,
 (.ret [.e (.bi (.bin .neq) (.v 0) (.v 0))])⟩
noncomputable def r109 : ERow := ⟨Go.Proofs.Tryz.f109, ⟨[], []⟩, ⟨6, [0], [], []⟩, 1, e_cmp_isNaN_string⟩

def eT : BT EFunc := (.node 56 e_ref12_alts (.node 29 e_ref12_logicals (.node 16 e_norm_Patterns (.node 9 e_ref12_SameLits (.node 6 e_norm_Norm (.node 4 e_law13_known (.node 3 e_law13_NormAny .leaf .leaf) (.node 5 e_law13_Conds .leaf .leaf)) (.node 8 e_ref12_Norm (.node 7 e_law12_To .leaf .leaf) .leaf)) (.node 13 e_norm_Spec (.node 11 e_norm_Count (.node 10 e_law13_Lits .leaf .leaf) (.node 12 e_ref12_Count .leaf .leaf)) (.node 15 e_law13_patterns (.node 14 e_ref12_Spec .leaf .leaf) .leaf))) (.node 23 e_norm_logical (.node 20 e_ref5_Read (.node 18 e_norm_Same (.node 17 e_ref12_Patterns .leaf .leaf) (.node 19 e_law13_ToAlt .leaf .leaf)) (.node 22 e_law11_Two (.node 21 e_ref12_Parse .leaf .leaf) .leaf)) (.node 26 e_norm_apart (.node 25 e_norm_join (.node 24 e_norm_and .leaf .leaf) .leaf) (.node 28 e_law7_To (.node 27 e_law11_To .leaf .leaf) .leaf)))) (.node 43 e_ref5_reader_node (.node 37 e_slices_Clip_pat_Pattern_pat_Pattern (.node 33 e_law11_Of (.node 31 e_ref11_Same (.node 30 e_ref12_rows .leaf .leaf) (.node 32 e_ref7_Same .leaf .leaf)) (.node 35 e_slices_Clip_pat_Test_pat_Test (.node 34 e_law7_Of .leaf .leaf) .leaf)) (.node 40 e_law13_ToLits (.node 39 e_norm_same (.node 38 e_slices_EqualFunc_norm_Lit_norm_Lit_norm_Lit_norm_Lit .leaf .leaf) .leaf) (.node 42 e_ref5_At (.node 41 e_ref4_Scan .leaf .leaf) .leaf))) (.node 50 e_norm_logical_1 (.node 47 e_ref12_one (.node 45 e_ref5_Sym (.node 44 e_ref5_Same .leaf .leaf) (.node 46 e_ref11_Parse .leaf .leaf)) (.node 49 e_slices_ContainsFunc_cond_CE_cond_CE (.node 48 e_ref3_Sym .leaf .leaf) .leaf)) (.node 53 e_slices_Concat_norm_row_norm_Lit (.node 52 e_norm_put (.node 51 e_norm_one .leaf .leaf) .leaf) (.node 55 e_slices_Clip_norm_Lit_norm_Lit (.node 54 e_norm_clone .leaf .leaf) .leaf))))) (.node 84 e_ref4_name (.node 70 e_norm_or (.node 63 e_ref5_Head (.node 60 e_expr_Same (.node 58 e_ref3_Same (.node 57 e_ref12_few .leaf .leaf) (.node 59 e_pat_Same .leaf .leaf)) (.node 62 e_ref4_one (.node 61 e_ref4_blank .leaf .leaf) .leaf)) (.node 67 e_ref12_kind (.node 65 e_ref9_Template_Slot (.node 64 e_ref9_Find .leaf .leaf) (.node 66 e_ref11_term .leaf .leaf)) (.node 69 e_slices_IndexFunc_cond_CE_cond_CE (.node 68 e_ref7_Parse .leaf .leaf) .leaf))) (.node 78 e_ref12_negs (.node 74 e_slices_Clip_norm_row_norm_Lit (.node 72 e_norm_negs (.node 71 e_norm_single .leaf .leaf) (.node 73 e_norm_forall .leaf .leaf)) (.node 77 e_ref12_fit (.node 76 e_slices_Clip_expr_Expr_expr_Expr .leaf .leaf) .leaf)) (.node 81 e_val_Same (.node 80 e_pat_Same_1 (.node 79 e_slices_EqualFunc_pat_Test_pat_Test_pat_Test_pat_Test .leaf .leaf) .leaf) (.node 83 e_ref4_text (.node 82 e_slices_EqualFunc_expr_Expr_expr_Expr_expr_Expr_expr_Expr .leaf .leaf) .leaf)))) (.node 97 e_ref6_Known (.node 91 e_ref7_args (.node 88 e_ref5_Value (.node 86 e_ref1_Shape (.node 85 e_ref3_Sign .leaf .leaf) (.node 87 e_ref1_Parse .leaf .leaf)) (.node 90 e_ref7_wrong (.node 89 e_ref12_word .leaf .leaf) .leaf)) (.node 94 e_ref3_Good (.node 93 e_ref3_Part (.node 92 e_val_Compare .leaf .leaf) .leaf) (.node 96 e_ref1_Add (.node 95 e_ref1_Mul .leaf .leaf) .leaf))) (.node 104 e_ref1_size (.node 101 e_cmp_Compare_int64 (.node 99 e_cmp_Or_int (.node 98 e_ref6_Fits .leaf .leaf) (.node 100 e_cmp_Compare_int .leaf .leaf)) (.node 103 e_ref3_letter (.node 102 e_cmp_Compare_string .leaf .leaf) .leaf)) (.node 107 e_cmp_isNaN_int (.node 106 e_ref6_Arity (.node 105 e_ref6_Names .leaf .leaf) .leaf) (.node 109 e_cmp_isNaN_string (.node 108 e_cmp_isNaN_int64 .leaf .leaf) .leaf))))))
noncomputable def rT : BT ERow := (.node 56 r56 (.node 29 r29 (.node 16 r16 (.node 9 r9 (.node 6 r6 (.node 4 r4 (.node 3 r3 .leaf .leaf) (.node 5 r5 .leaf .leaf)) (.node 8 r8 (.node 7 r7 .leaf .leaf) .leaf)) (.node 13 r13 (.node 11 r11 (.node 10 r10 .leaf .leaf) (.node 12 r12 .leaf .leaf)) (.node 15 r15 (.node 14 r14 .leaf .leaf) .leaf))) (.node 23 r23 (.node 20 r20 (.node 18 r18 (.node 17 r17 .leaf .leaf) (.node 19 r19 .leaf .leaf)) (.node 22 r22 (.node 21 r21 .leaf .leaf) .leaf)) (.node 26 r26 (.node 25 r25 (.node 24 r24 .leaf .leaf) .leaf) (.node 28 r28 (.node 27 r27 .leaf .leaf) .leaf)))) (.node 43 r43 (.node 37 r37 (.node 33 r33 (.node 31 r31 (.node 30 r30 .leaf .leaf) (.node 32 r32 .leaf .leaf)) (.node 35 r35 (.node 34 r34 .leaf .leaf) .leaf)) (.node 40 r40 (.node 39 r39 (.node 38 r38 .leaf .leaf) .leaf) (.node 42 r42 (.node 41 r41 .leaf .leaf) .leaf))) (.node 50 r50 (.node 47 r47 (.node 45 r45 (.node 44 r44 .leaf .leaf) (.node 46 r46 .leaf .leaf)) (.node 49 r49 (.node 48 r48 .leaf .leaf) .leaf)) (.node 53 r53 (.node 52 r52 (.node 51 r51 .leaf .leaf) .leaf) (.node 55 r55 (.node 54 r54 .leaf .leaf) .leaf))))) (.node 84 r84 (.node 70 r70 (.node 63 r63 (.node 60 r60 (.node 58 r58 (.node 57 r57 .leaf .leaf) (.node 59 r59 .leaf .leaf)) (.node 62 r62 (.node 61 r61 .leaf .leaf) .leaf)) (.node 67 r67 (.node 65 r65 (.node 64 r64 .leaf .leaf) (.node 66 r66 .leaf .leaf)) (.node 69 r69 (.node 68 r68 .leaf .leaf) .leaf))) (.node 78 r78 (.node 74 r74 (.node 72 r72 (.node 71 r71 .leaf .leaf) (.node 73 r73 .leaf .leaf)) (.node 77 r77 (.node 76 r76 .leaf .leaf) .leaf)) (.node 81 r81 (.node 80 r80 (.node 79 r79 .leaf .leaf) .leaf) (.node 83 r83 (.node 82 r82 .leaf .leaf) .leaf)))) (.node 97 r97 (.node 91 r91 (.node 88 r88 (.node 86 r86 (.node 85 r85 .leaf .leaf) (.node 87 r87 .leaf .leaf)) (.node 90 r90 (.node 89 r89 .leaf .leaf) .leaf)) (.node 94 r94 (.node 93 r93 (.node 92 r92 .leaf .leaf) .leaf) (.node 96 r96 (.node 95 r95 .leaf .leaf) .leaf))) (.node 104 r104 (.node 101 r101 (.node 99 r99 (.node 98 r98 .leaf .leaf) (.node 100 r100 .leaf .leaf)) (.node 103 r103 (.node 102 r102 .leaf .leaf) .leaf)) (.node 107 r107 (.node 106 r106 (.node 105 r105 .leaf .leaf) .leaf) (.node 109 r109 (.node 108 r108 .leaf .leaf) .leaf))))))
def efns : FuncId → Option EFunc := fun f => eT.get f
noncomputable def rows : FuncId → Option ERow := fun f => rT.get f

theorem ok3 : rowB Go.Proofs.Tryz.prog sh r3 = some e_law13_NormAny := rowB_of (by kernel_rfl)
theorem g3 : Go.Proofs.Tryz.prog.funcs[3]? = some Go.Proofs.Tryz.f3 := by kernel_rfl
theorem ok4 : rowB Go.Proofs.Tryz.prog sh r4 = some e_law13_known := rowB_of (by kernel_rfl)
theorem g4 : Go.Proofs.Tryz.prog.funcs[4]? = some Go.Proofs.Tryz.f4 := by kernel_rfl
theorem ok5 : rowB Go.Proofs.Tryz.prog sh r5 = some e_law13_Conds := rowB_of (by kernel_rfl)
theorem g5 : Go.Proofs.Tryz.prog.funcs[5]? = some Go.Proofs.Tryz.f5 := by kernel_rfl
theorem ok6 : rowB Go.Proofs.Tryz.prog sh r6 = some e_norm_Norm := rowB_of (by kernel_rfl)
theorem g6 : Go.Proofs.Tryz.prog.funcs[6]? = some Go.Proofs.Tryz.f6 := by kernel_rfl
theorem ok7 : rowB Go.Proofs.Tryz.prog sh r7 = some e_law12_To := rowB_of (by kernel_rfl)
theorem g7 : Go.Proofs.Tryz.prog.funcs[7]? = some Go.Proofs.Tryz.f7 := by kernel_rfl
theorem ok8 : rowB Go.Proofs.Tryz.prog sh r8 = some e_ref12_Norm := rowB_of (by kernel_rfl)
theorem g8 : Go.Proofs.Tryz.prog.funcs[8]? = some Go.Proofs.Tryz.f8 := by kernel_rfl
theorem ok9 : rowB Go.Proofs.Tryz.prog sh r9 = some e_ref12_SameLits := rowB_of (by kernel_rfl)
theorem g9 : Go.Proofs.Tryz.prog.funcs[9]? = some Go.Proofs.Tryz.f9 := by kernel_rfl
theorem ok10 : rowB Go.Proofs.Tryz.prog sh r10 = some e_law13_Lits := rowB_of (by kernel_rfl)
theorem g10 : Go.Proofs.Tryz.prog.funcs[10]? = some Go.Proofs.Tryz.f10 := by kernel_rfl
theorem ok11 : rowB Go.Proofs.Tryz.prog sh r11 = some e_norm_Count := rowB_of (by kernel_rfl)
theorem g11 : Go.Proofs.Tryz.prog.funcs[11]? = some Go.Proofs.Tryz.f11 := by kernel_rfl
theorem ok12 : rowB Go.Proofs.Tryz.prog sh r12 = some e_ref12_Count := rowB_of (by kernel_rfl)
theorem g12 : Go.Proofs.Tryz.prog.funcs[12]? = some Go.Proofs.Tryz.f12 := by kernel_rfl
theorem ok13 : rowB Go.Proofs.Tryz.prog sh r13 = some e_norm_Spec := rowB_of (by kernel_rfl)
theorem g13 : Go.Proofs.Tryz.prog.funcs[13]? = some Go.Proofs.Tryz.f13 := by kernel_rfl
theorem ok14 : rowB Go.Proofs.Tryz.prog sh r14 = some e_ref12_Spec := rowB_of (by kernel_rfl)
theorem g14 : Go.Proofs.Tryz.prog.funcs[14]? = some Go.Proofs.Tryz.f14 := by kernel_rfl
theorem ok15 : rowB Go.Proofs.Tryz.prog sh r15 = some e_law13_patterns := rowB_of (by kernel_rfl)
theorem g15 : Go.Proofs.Tryz.prog.funcs[15]? = some Go.Proofs.Tryz.f15 := by kernel_rfl
theorem ok16 : rowB Go.Proofs.Tryz.prog sh r16 = some e_norm_Patterns := rowB_of (by kernel_rfl)
theorem g16 : Go.Proofs.Tryz.prog.funcs[16]? = some Go.Proofs.Tryz.f16 := by kernel_rfl
theorem ok17 : rowB Go.Proofs.Tryz.prog sh r17 = some e_ref12_Patterns := rowB_of (by kernel_rfl)
theorem g17 : Go.Proofs.Tryz.prog.funcs[17]? = some Go.Proofs.Tryz.f17 := by kernel_rfl
theorem ok18 : rowB Go.Proofs.Tryz.prog sh r18 = some e_norm_Same := rowB_of (by kernel_rfl)
theorem g18 : Go.Proofs.Tryz.prog.funcs[18]? = some Go.Proofs.Tryz.f18 := by kernel_rfl
theorem ok19 : rowB Go.Proofs.Tryz.prog sh r19 = some e_law13_ToAlt := rowB_of (by kernel_rfl)
theorem g19 : Go.Proofs.Tryz.prog.funcs[19]? = some Go.Proofs.Tryz.f19 := by kernel_rfl
theorem ok20 : rowB Go.Proofs.Tryz.prog sh r20 = some e_ref5_Read := rowB_of (by kernel_rfl)
theorem g20 : Go.Proofs.Tryz.prog.funcs[20]? = some Go.Proofs.Tryz.f20 := by kernel_rfl
theorem ok21 : rowB Go.Proofs.Tryz.prog sh r21 = some e_ref12_Parse := rowB_of (by kernel_rfl)
theorem g21 : Go.Proofs.Tryz.prog.funcs[21]? = some Go.Proofs.Tryz.f21 := by kernel_rfl
theorem ok22 : rowB Go.Proofs.Tryz.prog sh r22 = some e_law11_Two := rowB_of (by kernel_rfl)
theorem g22 : Go.Proofs.Tryz.prog.funcs[22]? = some Go.Proofs.Tryz.f22 := by kernel_rfl
theorem ok23 : rowB Go.Proofs.Tryz.prog sh r23 = some e_norm_logical := rowB_of (by kernel_rfl)
theorem g23 : Go.Proofs.Tryz.prog.funcs[23]? = some Go.Proofs.Tryz.f23 := by kernel_rfl
theorem ok24 : rowB Go.Proofs.Tryz.prog sh r24 = some e_norm_and := rowB_of (by kernel_rfl)
theorem g24 : Go.Proofs.Tryz.prog.funcs[24]? = some Go.Proofs.Tryz.f24 := by kernel_rfl
theorem ok25 : rowB Go.Proofs.Tryz.prog sh r25 = some e_norm_join := rowB_of (by kernel_rfl)
theorem g25 : Go.Proofs.Tryz.prog.funcs[25]? = some Go.Proofs.Tryz.f25 := by kernel_rfl
theorem ok26 : rowB Go.Proofs.Tryz.prog sh r26 = some e_norm_apart := rowB_of (by kernel_rfl)
theorem g26 : Go.Proofs.Tryz.prog.funcs[26]? = some Go.Proofs.Tryz.f26 := by kernel_rfl
theorem ok27 : rowB Go.Proofs.Tryz.prog sh r27 = some e_law11_To := rowB_of (by kernel_rfl)
theorem g27 : Go.Proofs.Tryz.prog.funcs[27]? = some Go.Proofs.Tryz.f27 := by kernel_rfl
theorem ok28 : rowB Go.Proofs.Tryz.prog sh r28 = some e_law7_To := rowB_of (by kernel_rfl)
theorem g28 : Go.Proofs.Tryz.prog.funcs[28]? = some Go.Proofs.Tryz.f28 := by kernel_rfl
theorem ok29 : rowB Go.Proofs.Tryz.prog sh r29 = some e_ref12_logicals := rowB_of (by kernel_rfl)
theorem g29 : Go.Proofs.Tryz.prog.funcs[29]? = some Go.Proofs.Tryz.f29 := by kernel_rfl
theorem ok30 : rowB Go.Proofs.Tryz.prog sh r30 = some e_ref12_rows := rowB_of (by kernel_rfl)
theorem g30 : Go.Proofs.Tryz.prog.funcs[30]? = some Go.Proofs.Tryz.f30 := by kernel_rfl
theorem ok31 : rowB Go.Proofs.Tryz.prog sh r31 = some e_ref11_Same := rowB_of (by kernel_rfl)
theorem g31 : Go.Proofs.Tryz.prog.funcs[31]? = some Go.Proofs.Tryz.f31 := by kernel_rfl
theorem ok32 : rowB Go.Proofs.Tryz.prog sh r32 = some e_ref7_Same := rowB_of (by kernel_rfl)
theorem g32 : Go.Proofs.Tryz.prog.funcs[32]? = some Go.Proofs.Tryz.f32 := by kernel_rfl
theorem ok33 : rowB Go.Proofs.Tryz.prog sh r33 = some e_law11_Of := rowB_of (by kernel_rfl)
theorem g33 : Go.Proofs.Tryz.prog.funcs[33]? = some Go.Proofs.Tryz.f33 := by kernel_rfl
theorem ok34 : rowB Go.Proofs.Tryz.prog sh r34 = some e_law7_Of := rowB_of (by kernel_rfl)
theorem g34 : Go.Proofs.Tryz.prog.funcs[34]? = some Go.Proofs.Tryz.f34 := by kernel_rfl
theorem ok35 : rowB Go.Proofs.Tryz.prog sh r35 = some e_slices_Clip_pat_Test_pat_Test := rowB_of (by kernel_rfl)
theorem g35 : Go.Proofs.Tryz.prog.funcs[35]? = some Go.Proofs.Tryz.f35 := by kernel_rfl
theorem ok37 : rowB Go.Proofs.Tryz.prog sh r37 = some e_slices_Clip_pat_Pattern_pat_Pattern := rowB_of (by kernel_rfl)
theorem g37 : Go.Proofs.Tryz.prog.funcs[37]? = some Go.Proofs.Tryz.f37 := by kernel_rfl
theorem ok38 : rowB Go.Proofs.Tryz.prog sh r38 = some e_slices_EqualFunc_norm_Lit_norm_Lit_norm_Lit_norm_Lit := rowB_of (by kernel_rfl)
theorem g38 : Go.Proofs.Tryz.prog.funcs[38]? = some Go.Proofs.Tryz.f38 := by kernel_rfl
theorem ok39 : rowB Go.Proofs.Tryz.prog sh r39 = some e_norm_same := rowB_of (by kernel_rfl)
theorem g39 : Go.Proofs.Tryz.prog.funcs[39]? = some Go.Proofs.Tryz.f39 := by kernel_rfl
theorem ok40 : rowB Go.Proofs.Tryz.prog sh r40 = some e_law13_ToLits := rowB_of (by kernel_rfl)
theorem g40 : Go.Proofs.Tryz.prog.funcs[40]? = some Go.Proofs.Tryz.f40 := by kernel_rfl
theorem ok41 : rowB Go.Proofs.Tryz.prog sh r41 = some e_ref4_Scan := rowB_of (by kernel_rfl)
theorem g41 : Go.Proofs.Tryz.prog.funcs[41]? = some Go.Proofs.Tryz.f41 := by kernel_rfl
theorem ok42 : rowB Go.Proofs.Tryz.prog sh r42 = some e_ref5_At := rowB_of (by kernel_rfl)
theorem g42 : Go.Proofs.Tryz.prog.funcs[42]? = some Go.Proofs.Tryz.f42 := by kernel_rfl
theorem ok43 : rowB Go.Proofs.Tryz.prog sh r43 = some e_ref5_reader_node := rowB_of (by kernel_rfl)
theorem g43 : Go.Proofs.Tryz.prog.funcs[43]? = some Go.Proofs.Tryz.f43 := by kernel_rfl
theorem ok44 : rowB Go.Proofs.Tryz.prog sh r44 = some e_ref5_Same := rowB_of (by kernel_rfl)
theorem g44 : Go.Proofs.Tryz.prog.funcs[44]? = some Go.Proofs.Tryz.f44 := by kernel_rfl
theorem ok45 : rowB Go.Proofs.Tryz.prog sh r45 = some e_ref5_Sym := rowB_of (by kernel_rfl)
theorem g45 : Go.Proofs.Tryz.prog.funcs[45]? = some Go.Proofs.Tryz.f45 := by kernel_rfl
theorem ok46 : rowB Go.Proofs.Tryz.prog sh r46 = some e_ref11_Parse := rowB_of (by kernel_rfl)
theorem g46 : Go.Proofs.Tryz.prog.funcs[46]? = some Go.Proofs.Tryz.f46 := by kernel_rfl
theorem ok47 : rowB Go.Proofs.Tryz.prog sh r47 = some e_ref12_one := rowB_of (by kernel_rfl)
theorem g47 : Go.Proofs.Tryz.prog.funcs[47]? = some Go.Proofs.Tryz.f47 := by kernel_rfl
theorem ok48 : rowB Go.Proofs.Tryz.prog sh r48 = some e_ref3_Sym := rowB_of (by kernel_rfl)
theorem g48 : Go.Proofs.Tryz.prog.funcs[48]? = some Go.Proofs.Tryz.f48 := by kernel_rfl
theorem ok49 : rowB Go.Proofs.Tryz.prog sh r49 = some e_slices_ContainsFunc_cond_CE_cond_CE := rowB_of (by kernel_rfl)
theorem g49 : Go.Proofs.Tryz.prog.funcs[49]? = some Go.Proofs.Tryz.f49 := by kernel_rfl
theorem ok50 : rowB Go.Proofs.Tryz.prog sh r50 = some e_norm_logical_1 := rowB_of (by kernel_rfl)
theorem g50 : Go.Proofs.Tryz.prog.funcs[50]? = some Go.Proofs.Tryz.f50 := by kernel_rfl
theorem ok51 : rowB Go.Proofs.Tryz.prog sh r51 = some e_norm_one := rowB_of (by kernel_rfl)
theorem g51 : Go.Proofs.Tryz.prog.funcs[51]? = some Go.Proofs.Tryz.f51 := by kernel_rfl
theorem ok52 : rowB Go.Proofs.Tryz.prog sh r52 = some e_norm_put := rowB_of (by kernel_rfl)
theorem g52 : Go.Proofs.Tryz.prog.funcs[52]? = some Go.Proofs.Tryz.f52 := by kernel_rfl
theorem ok53 : rowB Go.Proofs.Tryz.prog sh r53 = some e_slices_Concat_norm_row_norm_Lit := rowB_of (by kernel_rfl)
theorem g53 : Go.Proofs.Tryz.prog.funcs[53]? = some Go.Proofs.Tryz.f53 := by kernel_rfl
theorem ok54 : rowB Go.Proofs.Tryz.prog sh r54 = some e_norm_clone := rowB_of (by kernel_rfl)
theorem g54 : Go.Proofs.Tryz.prog.funcs[54]? = some Go.Proofs.Tryz.f54 := by kernel_rfl
theorem ok55 : rowB Go.Proofs.Tryz.prog sh r55 = some e_slices_Clip_norm_Lit_norm_Lit := rowB_of (by kernel_rfl)
theorem g55 : Go.Proofs.Tryz.prog.funcs[55]? = some Go.Proofs.Tryz.f55 := by kernel_rfl
theorem ok56 : rowB Go.Proofs.Tryz.prog sh r56 = some e_ref12_alts := rowB_of (by kernel_rfl)
theorem g56 : Go.Proofs.Tryz.prog.funcs[56]? = some Go.Proofs.Tryz.f56 := by kernel_rfl
theorem ok57 : rowB Go.Proofs.Tryz.prog sh r57 = some e_ref12_few := rowB_of (by kernel_rfl)
theorem g57 : Go.Proofs.Tryz.prog.funcs[57]? = some Go.Proofs.Tryz.f57 := by kernel_rfl
theorem ok58 : rowB Go.Proofs.Tryz.prog sh r58 = some e_ref3_Same := rowB_of (by kernel_rfl)
theorem g58 : Go.Proofs.Tryz.prog.funcs[58]? = some Go.Proofs.Tryz.f58 := by kernel_rfl
theorem ok59 : rowB Go.Proofs.Tryz.prog sh r59 = some e_pat_Same := rowB_of (by kernel_rfl)
theorem g59 : Go.Proofs.Tryz.prog.funcs[59]? = some Go.Proofs.Tryz.f59 := by kernel_rfl
theorem ok60 : rowB Go.Proofs.Tryz.prog sh r60 = some e_expr_Same := rowB_of (by kernel_rfl)
theorem g60 : Go.Proofs.Tryz.prog.funcs[60]? = some Go.Proofs.Tryz.f60 := by kernel_rfl
theorem ok61 : rowB Go.Proofs.Tryz.prog sh r61 = some e_ref4_blank := rowB_of (by kernel_rfl)
theorem g61 : Go.Proofs.Tryz.prog.funcs[61]? = some Go.Proofs.Tryz.f61 := by kernel_rfl
theorem ok62 : rowB Go.Proofs.Tryz.prog sh r62 = some e_ref4_one := rowB_of (by kernel_rfl)
theorem g62 : Go.Proofs.Tryz.prog.funcs[62]? = some Go.Proofs.Tryz.f62 := by kernel_rfl
theorem ok63 : rowB Go.Proofs.Tryz.prog sh r63 = some e_ref5_Head := rowB_of (by kernel_rfl)
theorem g63 : Go.Proofs.Tryz.prog.funcs[63]? = some Go.Proofs.Tryz.f63 := by kernel_rfl
theorem ok64 : rowB Go.Proofs.Tryz.prog sh r64 = some e_ref9_Find := rowB_of (by kernel_rfl)
theorem g64 : Go.Proofs.Tryz.prog.funcs[64]? = some Go.Proofs.Tryz.f64 := by kernel_rfl
theorem ok65 : rowB Go.Proofs.Tryz.prog sh r65 = some e_ref9_Template_Slot := rowB_of (by kernel_rfl)
theorem g65 : Go.Proofs.Tryz.prog.funcs[65]? = some Go.Proofs.Tryz.f65 := by kernel_rfl
theorem ok66 : rowB Go.Proofs.Tryz.prog sh r66 = some e_ref11_term := rowB_of (by kernel_rfl)
theorem g66 : Go.Proofs.Tryz.prog.funcs[66]? = some Go.Proofs.Tryz.f66 := by kernel_rfl
theorem ok67 : rowB Go.Proofs.Tryz.prog sh r67 = some e_ref12_kind := rowB_of (by kernel_rfl)
theorem g67 : Go.Proofs.Tryz.prog.funcs[67]? = some Go.Proofs.Tryz.f67 := by kernel_rfl
theorem ok68 : rowB Go.Proofs.Tryz.prog sh r68 = some e_ref7_Parse := rowB_of (by kernel_rfl)
theorem g68 : Go.Proofs.Tryz.prog.funcs[68]? = some Go.Proofs.Tryz.f68 := by kernel_rfl
theorem ok69 : rowB Go.Proofs.Tryz.prog sh r69 = some e_slices_IndexFunc_cond_CE_cond_CE := rowB_of (by kernel_rfl)
theorem g69 : Go.Proofs.Tryz.prog.funcs[69]? = some Go.Proofs.Tryz.f69 := by kernel_rfl
theorem ok70 : rowB Go.Proofs.Tryz.prog sh r70 = some e_norm_or := rowB_of (by kernel_rfl)
theorem g70 : Go.Proofs.Tryz.prog.funcs[70]? = some Go.Proofs.Tryz.f70 := by kernel_rfl
theorem ok71 : rowB Go.Proofs.Tryz.prog sh r71 = some e_norm_single := rowB_of (by kernel_rfl)
theorem g71 : Go.Proofs.Tryz.prog.funcs[71]? = some Go.Proofs.Tryz.f71 := by kernel_rfl
theorem ok72 : rowB Go.Proofs.Tryz.prog sh r72 = some e_norm_negs := rowB_of (by kernel_rfl)
theorem g72 : Go.Proofs.Tryz.prog.funcs[72]? = some Go.Proofs.Tryz.f72 := by kernel_rfl
theorem ok73 : rowB Go.Proofs.Tryz.prog sh r73 = some e_norm_forall := rowB_of (by kernel_rfl)
theorem g73 : Go.Proofs.Tryz.prog.funcs[73]? = some Go.Proofs.Tryz.f73 := by kernel_rfl
theorem ok74 : rowB Go.Proofs.Tryz.prog sh r74 = some e_slices_Clip_norm_row_norm_Lit := rowB_of (by kernel_rfl)
theorem g74 : Go.Proofs.Tryz.prog.funcs[74]? = some Go.Proofs.Tryz.f74 := by kernel_rfl
theorem ok76 : rowB Go.Proofs.Tryz.prog sh r76 = some e_slices_Clip_expr_Expr_expr_Expr := rowB_of (by kernel_rfl)
theorem g76 : Go.Proofs.Tryz.prog.funcs[76]? = some Go.Proofs.Tryz.f76 := by kernel_rfl
theorem ok77 : rowB Go.Proofs.Tryz.prog sh r77 = some e_ref12_fit := rowB_of (by kernel_rfl)
theorem g77 : Go.Proofs.Tryz.prog.funcs[77]? = some Go.Proofs.Tryz.f77 := by kernel_rfl
theorem ok78 : rowB Go.Proofs.Tryz.prog sh r78 = some e_ref12_negs := rowB_of (by kernel_rfl)
theorem g78 : Go.Proofs.Tryz.prog.funcs[78]? = some Go.Proofs.Tryz.f78 := by kernel_rfl
theorem ok79 : rowB Go.Proofs.Tryz.prog sh r79 = some e_slices_EqualFunc_pat_Test_pat_Test_pat_Test_pat_Test := rowB_of (by kernel_rfl)
theorem g79 : Go.Proofs.Tryz.prog.funcs[79]? = some Go.Proofs.Tryz.f79 := by kernel_rfl
theorem ok80 : rowB Go.Proofs.Tryz.prog sh r80 = some e_pat_Same_1 := rowB_of (by kernel_rfl)
theorem g80 : Go.Proofs.Tryz.prog.funcs[80]? = some Go.Proofs.Tryz.f80 := by kernel_rfl
theorem ok81 : rowB Go.Proofs.Tryz.prog sh r81 = some e_val_Same := rowB_of (by kernel_rfl)
theorem g81 : Go.Proofs.Tryz.prog.funcs[81]? = some Go.Proofs.Tryz.f81 := by kernel_rfl
theorem ok82 : rowB Go.Proofs.Tryz.prog sh r82 = some e_slices_EqualFunc_expr_Expr_expr_Expr_expr_Expr_expr_Expr := rowB_of (by kernel_rfl)
theorem g82 : Go.Proofs.Tryz.prog.funcs[82]? = some Go.Proofs.Tryz.f82 := by kernel_rfl
theorem ok83 : rowB Go.Proofs.Tryz.prog sh r83 = some e_ref4_text := rowB_of (by kernel_rfl)
theorem g83 : Go.Proofs.Tryz.prog.funcs[83]? = some Go.Proofs.Tryz.f83 := by kernel_rfl
theorem ok84 : rowB Go.Proofs.Tryz.prog sh r84 = some e_ref4_name := rowB_of (by kernel_rfl)
theorem g84 : Go.Proofs.Tryz.prog.funcs[84]? = some Go.Proofs.Tryz.f84 := by kernel_rfl
theorem ok85 : rowB Go.Proofs.Tryz.prog sh r85 = some e_ref3_Sign := rowB_of (by kernel_rfl)
theorem g85 : Go.Proofs.Tryz.prog.funcs[85]? = some Go.Proofs.Tryz.f85 := by kernel_rfl
theorem ok86 : rowB Go.Proofs.Tryz.prog sh r86 = some e_ref1_Shape := rowB_of (by kernel_rfl)
theorem g86 : Go.Proofs.Tryz.prog.funcs[86]? = some Go.Proofs.Tryz.f86 := by kernel_rfl
theorem ok87 : rowB Go.Proofs.Tryz.prog sh r87 = some e_ref1_Parse := rowB_of (by kernel_rfl)
theorem g87 : Go.Proofs.Tryz.prog.funcs[87]? = some Go.Proofs.Tryz.f87 := by kernel_rfl
theorem ok88 : rowB Go.Proofs.Tryz.prog sh r88 = some e_ref5_Value := rowB_of (by kernel_rfl)
theorem g88 : Go.Proofs.Tryz.prog.funcs[88]? = some Go.Proofs.Tryz.f88 := by kernel_rfl
theorem ok89 : rowB Go.Proofs.Tryz.prog sh r89 = some e_ref12_word := rowB_of (by kernel_rfl)
theorem g89 : Go.Proofs.Tryz.prog.funcs[89]? = some Go.Proofs.Tryz.f89 := by kernel_rfl
theorem ok90 : rowB Go.Proofs.Tryz.prog sh r90 = some e_ref7_wrong := rowB_of (by kernel_rfl)
theorem g90 : Go.Proofs.Tryz.prog.funcs[90]? = some Go.Proofs.Tryz.f90 := by kernel_rfl
theorem ok91 : rowB Go.Proofs.Tryz.prog sh r91 = some e_ref7_args := rowB_of (by kernel_rfl)
theorem g91 : Go.Proofs.Tryz.prog.funcs[91]? = some Go.Proofs.Tryz.f91 := by kernel_rfl
theorem ok92 : rowB Go.Proofs.Tryz.prog sh r92 = some e_val_Compare := rowB_of (by kernel_rfl)
theorem g92 : Go.Proofs.Tryz.prog.funcs[92]? = some Go.Proofs.Tryz.f92 := by kernel_rfl
theorem ok93 : rowB Go.Proofs.Tryz.prog sh r93 = some e_ref3_Part := rowB_of (by kernel_rfl)
theorem g93 : Go.Proofs.Tryz.prog.funcs[93]? = some Go.Proofs.Tryz.f93 := by kernel_rfl
theorem ok94 : rowB Go.Proofs.Tryz.prog sh r94 = some e_ref3_Good := rowB_of (by kernel_rfl)
theorem g94 : Go.Proofs.Tryz.prog.funcs[94]? = some Go.Proofs.Tryz.f94 := by kernel_rfl
theorem ok95 : rowB Go.Proofs.Tryz.prog sh r95 = some e_ref1_Mul := rowB_of (by kernel_rfl)
theorem g95 : Go.Proofs.Tryz.prog.funcs[95]? = some Go.Proofs.Tryz.f95 := by kernel_rfl
theorem ok96 : rowB Go.Proofs.Tryz.prog sh r96 = some e_ref1_Add := rowB_of (by kernel_rfl)
theorem g96 : Go.Proofs.Tryz.prog.funcs[96]? = some Go.Proofs.Tryz.f96 := by kernel_rfl
theorem ok97 : rowB Go.Proofs.Tryz.prog sh r97 = some e_ref6_Known := rowB_of (by kernel_rfl)
theorem g97 : Go.Proofs.Tryz.prog.funcs[97]? = some Go.Proofs.Tryz.f97 := by kernel_rfl
theorem ok98 : rowB Go.Proofs.Tryz.prog sh r98 = some e_ref6_Fits := rowB_of (by kernel_rfl)
theorem g98 : Go.Proofs.Tryz.prog.funcs[98]? = some Go.Proofs.Tryz.f98 := by kernel_rfl
theorem ok99 : rowB Go.Proofs.Tryz.prog sh r99 = some e_cmp_Or_int := rowB_of (by kernel_rfl)
theorem g99 : Go.Proofs.Tryz.prog.funcs[99]? = some Go.Proofs.Tryz.f99 := by kernel_rfl
theorem ok100 : rowB Go.Proofs.Tryz.prog sh r100 = some e_cmp_Compare_int := rowB_of (by kernel_rfl)
theorem g100 : Go.Proofs.Tryz.prog.funcs[100]? = some Go.Proofs.Tryz.f100 := by kernel_rfl
theorem ok101 : rowB Go.Proofs.Tryz.prog sh r101 = some e_cmp_Compare_int64 := rowB_of (by kernel_rfl)
theorem g101 : Go.Proofs.Tryz.prog.funcs[101]? = some Go.Proofs.Tryz.f101 := by kernel_rfl
theorem ok102 : rowB Go.Proofs.Tryz.prog sh r102 = some e_cmp_Compare_string := rowB_of (by kernel_rfl)
theorem g102 : Go.Proofs.Tryz.prog.funcs[102]? = some Go.Proofs.Tryz.f102 := by kernel_rfl
theorem ok103 : rowB Go.Proofs.Tryz.prog sh r103 = some e_ref3_letter := rowB_of (by kernel_rfl)
theorem g103 : Go.Proofs.Tryz.prog.funcs[103]? = some Go.Proofs.Tryz.f103 := by kernel_rfl
theorem ok104 : rowB Go.Proofs.Tryz.prog sh r104 = some e_ref1_size := rowB_of (by kernel_rfl)
theorem g104 : Go.Proofs.Tryz.prog.funcs[104]? = some Go.Proofs.Tryz.f104 := by kernel_rfl
theorem ok105 : rowB Go.Proofs.Tryz.prog sh r105 = some e_ref6_Names := rowB_of (by kernel_rfl)
theorem g105 : Go.Proofs.Tryz.prog.funcs[105]? = some Go.Proofs.Tryz.f105 := by kernel_rfl
theorem ok106 : rowB Go.Proofs.Tryz.prog sh r106 = some e_ref6_Arity := rowB_of (by kernel_rfl)
theorem g106 : Go.Proofs.Tryz.prog.funcs[106]? = some Go.Proofs.Tryz.f106 := by kernel_rfl
theorem ok107 : rowB Go.Proofs.Tryz.prog sh r107 = some e_cmp_isNaN_int := rowB_of (by kernel_rfl)
theorem g107 : Go.Proofs.Tryz.prog.funcs[107]? = some Go.Proofs.Tryz.f107 := by kernel_rfl
theorem ok108 : rowB Go.Proofs.Tryz.prog sh r108 = some e_cmp_isNaN_int64 := rowB_of (by kernel_rfl)
theorem g108 : Go.Proofs.Tryz.prog.funcs[108]? = some Go.Proofs.Tryz.f108 := by kernel_rfl
theorem ok109 : rowB Go.Proofs.Tryz.prog sh r109 = some e_cmp_isNaN_string := rowB_of (by kernel_rfl)
theorem g109 : Go.Proofs.Tryz.prog.funcs[109]? = some Go.Proofs.Tryz.f109 := by kernel_rfl

theorem efns_eq : efnsOf rows = efns := efnsOf_tree rT eT rfl

theorem rows_ok : RowsOk Go.Proofs.Tryz.prog sh rows := rowsOk_of (t := rT) ⟨⟨g56, by rfl, ok56⟩, ⟨⟨g29, by rfl, ok29⟩, ⟨⟨g16, by rfl, ok16⟩, ⟨⟨g9, by rfl, ok9⟩, ⟨⟨g6, by rfl, ok6⟩, ⟨⟨g4, by rfl, ok4⟩, ⟨⟨g3, by rfl, ok3⟩, trivial, trivial⟩, ⟨⟨g5, by rfl, ok5⟩, trivial, trivial⟩⟩, ⟨⟨g8, by rfl, ok8⟩, ⟨⟨g7, by rfl, ok7⟩, trivial, trivial⟩, trivial⟩⟩, ⟨⟨g13, by rfl, ok13⟩, ⟨⟨g11, by rfl, ok11⟩, ⟨⟨g10, by rfl, ok10⟩, trivial, trivial⟩, ⟨⟨g12, by rfl, ok12⟩, trivial, trivial⟩⟩, ⟨⟨g15, by rfl, ok15⟩, ⟨⟨g14, by rfl, ok14⟩, trivial, trivial⟩, trivial⟩⟩⟩, ⟨⟨g23, by rfl, ok23⟩, ⟨⟨g20, by rfl, ok20⟩, ⟨⟨g18, by rfl, ok18⟩, ⟨⟨g17, by rfl, ok17⟩, trivial, trivial⟩, ⟨⟨g19, by rfl, ok19⟩, trivial, trivial⟩⟩, ⟨⟨g22, by rfl, ok22⟩, ⟨⟨g21, by rfl, ok21⟩, trivial, trivial⟩, trivial⟩⟩, ⟨⟨g26, by rfl, ok26⟩, ⟨⟨g25, by rfl, ok25⟩, ⟨⟨g24, by rfl, ok24⟩, trivial, trivial⟩, trivial⟩, ⟨⟨g28, by rfl, ok28⟩, ⟨⟨g27, by rfl, ok27⟩, trivial, trivial⟩, trivial⟩⟩⟩⟩, ⟨⟨g43, by rfl, ok43⟩, ⟨⟨g37, by rfl, ok37⟩, ⟨⟨g33, by rfl, ok33⟩, ⟨⟨g31, by rfl, ok31⟩, ⟨⟨g30, by rfl, ok30⟩, trivial, trivial⟩, ⟨⟨g32, by rfl, ok32⟩, trivial, trivial⟩⟩, ⟨⟨g35, by rfl, ok35⟩, ⟨⟨g34, by rfl, ok34⟩, trivial, trivial⟩, trivial⟩⟩, ⟨⟨g40, by rfl, ok40⟩, ⟨⟨g39, by rfl, ok39⟩, ⟨⟨g38, by rfl, ok38⟩, trivial, trivial⟩, trivial⟩, ⟨⟨g42, by rfl, ok42⟩, ⟨⟨g41, by rfl, ok41⟩, trivial, trivial⟩, trivial⟩⟩⟩, ⟨⟨g50, by rfl, ok50⟩, ⟨⟨g47, by rfl, ok47⟩, ⟨⟨g45, by rfl, ok45⟩, ⟨⟨g44, by rfl, ok44⟩, trivial, trivial⟩, ⟨⟨g46, by rfl, ok46⟩, trivial, trivial⟩⟩, ⟨⟨g49, by rfl, ok49⟩, ⟨⟨g48, by rfl, ok48⟩, trivial, trivial⟩, trivial⟩⟩, ⟨⟨g53, by rfl, ok53⟩, ⟨⟨g52, by rfl, ok52⟩, ⟨⟨g51, by rfl, ok51⟩, trivial, trivial⟩, trivial⟩, ⟨⟨g55, by rfl, ok55⟩, ⟨⟨g54, by rfl, ok54⟩, trivial, trivial⟩, trivial⟩⟩⟩⟩⟩, ⟨⟨g84, by rfl, ok84⟩, ⟨⟨g70, by rfl, ok70⟩, ⟨⟨g63, by rfl, ok63⟩, ⟨⟨g60, by rfl, ok60⟩, ⟨⟨g58, by rfl, ok58⟩, ⟨⟨g57, by rfl, ok57⟩, trivial, trivial⟩, ⟨⟨g59, by rfl, ok59⟩, trivial, trivial⟩⟩, ⟨⟨g62, by rfl, ok62⟩, ⟨⟨g61, by rfl, ok61⟩, trivial, trivial⟩, trivial⟩⟩, ⟨⟨g67, by rfl, ok67⟩, ⟨⟨g65, by rfl, ok65⟩, ⟨⟨g64, by rfl, ok64⟩, trivial, trivial⟩, ⟨⟨g66, by rfl, ok66⟩, trivial, trivial⟩⟩, ⟨⟨g69, by rfl, ok69⟩, ⟨⟨g68, by rfl, ok68⟩, trivial, trivial⟩, trivial⟩⟩⟩, ⟨⟨g78, by rfl, ok78⟩, ⟨⟨g74, by rfl, ok74⟩, ⟨⟨g72, by rfl, ok72⟩, ⟨⟨g71, by rfl, ok71⟩, trivial, trivial⟩, ⟨⟨g73, by rfl, ok73⟩, trivial, trivial⟩⟩, ⟨⟨g77, by rfl, ok77⟩, ⟨⟨g76, by rfl, ok76⟩, trivial, trivial⟩, trivial⟩⟩, ⟨⟨g81, by rfl, ok81⟩, ⟨⟨g80, by rfl, ok80⟩, ⟨⟨g79, by rfl, ok79⟩, trivial, trivial⟩, trivial⟩, ⟨⟨g83, by rfl, ok83⟩, ⟨⟨g82, by rfl, ok82⟩, trivial, trivial⟩, trivial⟩⟩⟩⟩, ⟨⟨g97, by rfl, ok97⟩, ⟨⟨g91, by rfl, ok91⟩, ⟨⟨g88, by rfl, ok88⟩, ⟨⟨g86, by rfl, ok86⟩, ⟨⟨g85, by rfl, ok85⟩, trivial, trivial⟩, ⟨⟨g87, by rfl, ok87⟩, trivial, trivial⟩⟩, ⟨⟨g90, by rfl, ok90⟩, ⟨⟨g89, by rfl, ok89⟩, trivial, trivial⟩, trivial⟩⟩, ⟨⟨g94, by rfl, ok94⟩, ⟨⟨g93, by rfl, ok93⟩, ⟨⟨g92, by rfl, ok92⟩, trivial, trivial⟩, trivial⟩, ⟨⟨g96, by rfl, ok96⟩, ⟨⟨g95, by rfl, ok95⟩, trivial, trivial⟩, trivial⟩⟩⟩, ⟨⟨g104, by rfl, ok104⟩, ⟨⟨g101, by rfl, ok101⟩, ⟨⟨g99, by rfl, ok99⟩, ⟨⟨g98, by rfl, ok98⟩, trivial, trivial⟩, ⟨⟨g100, by rfl, ok100⟩, trivial, trivial⟩⟩, ⟨⟨g103, by rfl, ok103⟩, ⟨⟨g102, by rfl, ok102⟩, trivial, trivial⟩, trivial⟩⟩, ⟨⟨g107, by rfl, ok107⟩, ⟨⟨g106, by rfl, ok106⟩, ⟨⟨g105, by rfl, ok105⟩, trivial, trivial⟩, trivial⟩, ⟨⟨g109, by rfl, ok109⟩, ⟨⟨g108, by rfl, ok108⟩, trivial, trivial⟩, trivial⟩⟩⟩⟩⟩⟩
abbrev T_slices_Clone_pat_Test_pat_Test_0 : Nat := 108
/-- slices.Clone[[]whelk/pat.Test,whelk/pat.Test] [0=s] -/
def e_slices_Clone_pat_Test_pat_Test : EFunc := ⟨1, 2,
 (.seq (.cond (.bi (.eqs 3 false) (.v 0) (.c .nils))
  (.ret [.e (.c .nils)])
  (.skip))
 (.seq (.st [.eff (some 1) none (.append 6 64 T_slices_Clone_pat_Test_pat_Test_0 (.tup (.bslice 6 [(.int .i64 0), (.bool false), (.str []), (.int .i64 0), (.int .i64 0), (.str [])] 0 []) .nil) (.v 0))])
 (.ret [.e (.v 1)])))⟩
noncomputable def r36 : ERow := ⟨Go.Proofs.Tryz.f36, ⟨[], []⟩, ⟨8, [0, 7], [], []⟩, 1, e_slices_Clone_pat_Test_pat_Test⟩
theorem ok36 : rowB Go.Proofs.Tryz.prog sh r36 = some e_slices_Clone_pat_Test_pat_Test := rowB_of (by kernel_rfl)
theorem g36 : Go.Proofs.Tryz.prog.funcs[36]? = some Go.Proofs.Tryz.f36 := by kernel_rfl
noncomputable def cT : BT ERow := (.node 36 r36 .leaf .leaf)
noncomputable def crows : FuncId → Option ERow := fun f => cT.get f
theorem crows_ok : RowsOk Go.Proofs.Tryz.prog sh crows := rowsOk_of (t := cT) ⟨⟨g36, by rfl, ok36⟩, trivial, trivial⟩

theorem follows_ok : Go.Proofs.Tryz.prog.follows .mixedOrders = true := by kernel_rfl

end Go.Proofs.YtgjklaobjnjhpaaGreatPe.NormzCode
