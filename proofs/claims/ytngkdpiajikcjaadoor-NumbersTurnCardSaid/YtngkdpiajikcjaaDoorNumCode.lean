/- THE CODES of the functions that the laws reach, told by expressions, and that they are the program's own (made by program: tool/gen.py, tool/code.py). -/
import Derived.Test.YtngkdpiajikcjaaDoorEcRow
import Derived.Test.YtngkdpiajikcjaaDoorProg
import Derived.KernelRfl
set_option maxRecDepth 100000
set_option linter.unusedVariables false
namespace Go.Proofs.YtngkdpiajikcjaaDoorPe.NumCode
open Go Go.Proofs.YtngkdpiajikcjaaDoorPe

abbrev f_law1_NumbersAny : Nat := 3
abbrev f_law1_NumbersWords : Nat := 4
abbrev f_law1_NumbersFuel : Nat := 5
abbrev f_law1_NumbersParts : Nat := 6
abbrev f_law1_NumbersEnds : Nat := 7
abbrev f_law1_NumbersTurn : Nat := 8
abbrev f_law1_known : Nat := 9
abbrev f_num_Add : Nat := 10
abbrev f_ref1_Add : Nat := 11
abbrev f_num_Sub : Nat := 12
abbrev f_ref1_Sub : Nat := 13
abbrev f_num_Mul : Nat := 14
abbrev f_ref1_Mul : Nat := 15
abbrev f_num_Div : Nat := 16
abbrev f_ref1_Div : Nat := 17
abbrev f_num_Mod : Nat := 18
abbrev f_ref1_Mod : Nat := 19
abbrev f_num_Parse : Nat := 20
abbrev f_ref1_Parse : Nat := 21
abbrev f_num_Text : Nat := 22
abbrev f_ref1_Text : Nat := 23
abbrev f_num_Fuel_Use : Nat := 24
abbrev f_math_bits_Mul64 : Nat := 25
abbrev f_num_abs : Nat := 26
abbrev f_ref1_size : Nat := 27
abbrev f_strings_HasPrefix : Nat := 28
abbrev f_ref1_Shape : Nat := 29
abbrev f_strconv_FormatInt : Nat := 30
abbrev f_internal_stringslite_HasPrefix : Nat := 31

def sh : Nat → Nat
  | 24 => 3
  | _ => 0

/-- whelk/whelklaw1.NumbersAny [0=a, 1=b, 2=e, 3=f] -/
def e_law1_NumbersAny : EFunc := ⟨2, 14,
 (.seq (.cond (.un .not (.tup (.call 0 f_law1_known) .nil))
  (.ret [.e (.c (.bool false))])
  (.skip))
 (.seq (.st [.sets [(4, (.tup (.call 0 f_num_Add) (.cons (.v 0) (.cons (.v 1) .nil))))],
   .sets [(2, (.un (.ext 1) (.v 4)))]])
 (.seq (.st [.sets [(5, (.tup (.call 0 f_ref1_Add) (.cons (.v 0) (.cons (.v 1) .nil))))],
   .sets [(3, (.un (.ext 1) (.v 5)))]])
 (.seq (.cond (.pick (.bi (.bin .neq) (.un (.ext 0) (.v 4)) (.un (.ext 0) (.v 5))) (.c (.bool true)) (.bi (.bin .neq) (.v 2) (.v 3)))
  (.ret [.e (.c (.bool false))])
  (.skip))
 (.seq (.st [.sets [(6, (.tup (.call 0 f_num_Sub) (.cons (.v 0) (.cons (.v 1) .nil))))],
   .sets [(2, (.un (.ext 1) (.v 6)))]])
 (.seq (.st [.sets [(7, (.tup (.call 0 f_ref1_Sub) (.cons (.v 0) (.cons (.v 1) .nil))))],
   .sets [(3, (.un (.ext 1) (.v 7)))]])
 (.seq (.cond (.pick (.bi (.bin .neq) (.un (.ext 0) (.v 6)) (.un (.ext 0) (.v 7))) (.c (.bool true)) (.bi (.bin .neq) (.v 2) (.v 3)))
  (.ret [.e (.c (.bool false))])
  (.skip))
 (.seq (.st [.sets [(8, (.tup (.call 0 f_num_Mul) (.cons (.v 0) (.cons (.v 1) .nil))))],
   .sets [(2, (.un (.ext 1) (.v 8)))]])
 (.seq (.st [.sets [(9, (.tup (.call 0 f_ref1_Mul) (.cons (.v 0) (.cons (.v 1) .nil))))],
   .sets [(3, (.un (.ext 1) (.v 9)))]])
 (.seq (.cond (.pick (.bi (.bin .neq) (.un (.ext 0) (.v 8)) (.un (.ext 0) (.v 9))) (.c (.bool true)) (.bi (.bin .neq) (.v 2) (.v 3)))
  (.ret [.e (.c (.bool false))])
  (.skip))
 (.seq (.st [.sets [(10, (.tup (.call 0 f_num_Div) (.cons (.v 0) (.cons (.v 1) .nil))))],
   .sets [(2, (.un (.ext 1) (.v 10)))]])
 (.seq (.st [.sets [(11, (.tup (.call 0 f_ref1_Div) (.cons (.v 0) (.cons (.v 1) .nil))))],
   .sets [(3, (.un (.ext 1) (.v 11)))]])
 (.seq (.cond (.pick (.bi (.bin .neq) (.un (.ext 0) (.v 10)) (.un (.ext 0) (.v 11))) (.c (.bool true)) (.bi (.bin .neq) (.v 2) (.v 3)))
  (.ret [.e (.c (.bool false))])
  (.skip))
 (.seq (.st [.sets [(12, (.tup (.call 0 f_num_Mod) (.cons (.v 0) (.cons (.v 1) .nil))))],
   .sets [(2, (.un (.ext 1) (.v 12)))]])
 (.seq (.st [.sets [(13, (.tup (.call 0 f_ref1_Mod) (.cons (.v 0) (.cons (.v 1) .nil))))],
   .sets [(3, (.un (.ext 1) (.v 13)))]])
 (.ret [.e (.pick (.bi (.bin .eql) (.un (.ext 0) (.v 12)) (.un (.ext 0) (.v 13))) (.bi (.bin .eql) (.v 2) (.v 3)) (.c (.bool false)))]))))))))))))))))⟩
noncomputable def r3 : ERow := ⟨Go.Proofs.Tryd.f3, ⟨[], []⟩, ⟨111, [0, 1, 6, 8, 11, 17, 31, 37, 51, 57, 71, 77, 91, 97], [], [11, 17, 31, 37, 51, 57, 71, 77, 91, 97]⟩, 2, e_law1_NumbersAny⟩

/-- whelk/whelklaw1.NumbersWords [0=s, 1=n, 2=e, 3=f, 4=t, 5=x, 6=g] -/
def e_law1_NumbersWords : EFunc := ⟨2, 10,
 (.seq (.cond (.un .not (.tup (.call 0 f_law1_known) .nil))
  (.ret [.e (.c (.bool false))])
  (.skip))
 (.seq (.cond (.bi (.bin .gtr) (.un .slen (.v 0)) (.c (.int .i64 100)))
  (.ret [.e (.c (.bool true))])
  (.skip))
 (.seq (.st [.sets [(7, (.tup (.call 0 f_num_Parse) (.cons (.v 0) .nil)))],
   .sets [(2, (.un (.ext 1) (.v 7)))]])
 (.seq (.st [.sets [(8, (.tup (.call 0 f_ref1_Parse) (.cons (.v 0) .nil)))],
   .sets [(3, (.un (.ext 1) (.v 8)))]])
 (.seq (.st [.sets [(4, (.tup (.call 0 f_num_Text) (.cons (.v 1) .nil)))]])
 (.seq (.st [.sets [(9, (.tup (.call 0 f_num_Parse) (.cons (.v 4) .nil)))],
   .sets [(5, (.un (.ext 0) (.v 9))), (6, (.un (.ext 1) (.v 9)))]])
 (.ret [.e (.pick (.pick (.pick (.pick (.bi (.bin .eql) (.un (.ext 0) (.v 7)) (.un (.ext 0) (.v 8))) (.bi (.bin .eql) (.v 2) (.v 3)) (.c (.bool false))) (.bi (.bin .eql) (.v 4) (.tup (.call 0 f_ref1_Text) (.cons (.v 1) .nil))) (.c (.bool false))) (.bi (.bin .eql) (.v 5) (.v 1)) (.c (.bool false))) (.bi (.bin .eql) (.v 6) (.c (.int .i64 0))) (.c (.bool false)))])))))))⟩
noncomputable def r4 : ERow := ⟨Go.Proofs.Tryd.f4, ⟨[], []⟩, ⟨57, [0, 1, 6, 8, 9, 10, 11, 17, 22, 29], [], [17, 22, 29]⟩, 2, e_law1_NumbersWords⟩

/-- whelk/whelklaw1.NumbersFuel [0=left, 1=l, 2=x, 3=m, 4=i, 5=e, 6=want] -/
def b_law1_NumbersFuel_0 : EC :=
 (.seq (.cond (.bi (.bin .lss) (.v 4) (.un .len (.v 1)))
  (.skip)
  (.exit 0))
 (.seq (.block 1 (.seq (.st [.eff (some 7) none (.calls [true, true, true, true, true, true, true, true, true, true, true, true, true, true, true, true] f_num_Fuel_Use (.cons (.v 2) (.cons (.un (.ld none) (.bi (.idx 1) (.v 1) (.v 4))) .nil))),
    .sets [(5, (.v 7))]])
  (.seq (.st [.sets [(6, (.c (.int .i64 0)))]])
  (.seq (.block 2 (.cond (.bi (.bin .lss) (.un (.ld none) (.bi (.idx 1) (.v 1) (.v 4))) (.c (.int .i64 0)))
    (.st [.sets [(6, (.c (.int .i64 1)))]])
    (.cond (.bi (.bin .lss) (.v 3) (.un (.ld none) (.bi (.idx 1) (.v 1) (.v 4))))
     (.seq (.st [.sets [(6, (.c (.int .i64 9)))]])
     (.st [.sets [(3, (.c (.int .i64 0)))]]))
     (.st [.sets [(3, (.bi (.bin .sub) (.v 3) (.un (.ld none) (.bi (.idx 1) (.v 1) (.v 4)))))]]))))
  (.seq (.st [.eff (some 8) (some ((.bi (.bin .neq) (.v 5) (.v 6)), false)) (.load none (.un (.off 0) (.v 2)))])
  (.cond (.pick (.bi (.bin .neq) (.v 5) (.v 6)) (.c (.bool true)) (.bi (.bin .neq) (.v 8) (.v 3)))
   (.ret [.e (.c (.bool false))])
   (.skip)))))))
 (.st [.sets [(4, (.bi (.bin .add) (.v 4) (.c (.int .i64 1))))]])))
def e_law1_NumbersFuel : EFunc := ⟨2, 9,
 (.seq (.cond (.un .not (.tup (.call 0 f_law1_known) .nil))
  (.ret [.e (.c (.bool false))])
  (.skip))
 (.seq (.cond (.pick (.pick (.bi (.bin .lss) (.v 0) (.c (.int .i64 0))) (.c (.bool true)) (.bi (.bin .gtr) (.v 0) (.c (.int .i64 1099511627776)))) (.c (.bool true)) (.bi (.bin .gtr) (.un .len (.v 1)) (.c (.int .i64 60))))
  (.ret [.e (.c (.bool true))])
  (.skip))
 (.seq (.st [.eff (some 2) none (.zbox [(.int .i64 0)]),
   .eff none none (.store 1 (.v 2) (.tup (.build [(.int .i64 0)] [(0, 1)]) (.cons (.v 0) .nil)))])
 (.seq (.st [.sets [(3, (.v 0))]])
 (.seq (.seq (.st [.sets [(4, (.c (.int .i64 0)))]])
 (.block 0 (.loop [false, true, true, true, true, false, false, false, false] b_law1_NumbersFuel_0)))
 (.ret [.e (.c (.bool true))]))))))⟩
noncomputable def r5 : ERow := ⟨Go.Proofs.Tryd.f5, ⟨[], [(0, [false, true, false, false, false, true, true, true])]⟩, ⟨65, [0, 1, 5, 6, 7, 8, 9, 36, 61], [35, 47, 54, 41], []⟩, 2, e_law1_NumbersFuel⟩

/-- whelk/whelklaw1.NumbersParts [0=a, 1=b, 2=q, 3=e, 4=r, 5=f, 6=s] -/
def e_law1_NumbersParts : EFunc := ⟨2, 11,
 (.seq (.cond (.un .not (.tup (.call 0 f_law1_known) .nil))
  (.ret [.e (.c (.bool false))])
  (.skip))
 (.seq (.st [.sets [(7, (.tup (.call 0 f_num_Div) (.cons (.v 0) (.cons (.v 1) .nil))))],
   .sets [(2, (.un (.ext 0) (.v 7))), (3, (.un (.ext 1) (.v 7)))]])
 (.seq (.st [.sets [(8, (.tup (.call 0 f_num_Mod) (.cons (.v 0) (.cons (.v 1) .nil))))],
   .sets [(4, (.un (.ext 0) (.v 8))), (5, (.un (.ext 1) (.v 8)))]])
 (.seq (.cond (.bi (.bin .eql) (.v 1) (.c (.int .i64 0)))
  (.ret [.e (.pick (.bi (.bin .eql) (.v 3) (.c (.int .i64 11))) (.bi (.bin .eql) (.v 5) (.c (.int .i64 11))) (.c (.bool false)))])
  (.skip))
 (.seq (.cond (.bi (.bin .neq) (.v 3) (.c (.int .i64 0)))
  (.ret [.e (.pick (.pick (.pick (.bi (.bin .eql) (.v 0) (.c (.int .i64 (-9223372036854775808)))) (.bi (.bin .eql) (.v 1) (.c (.int .i64 (-1)))) (.c (.bool false))) (.bi (.bin .eql) (.v 5) (.c (.int .i64 0))) (.c (.bool false))) (.bi (.bin .eql) (.v 4) (.c (.int .i64 0))) (.c (.bool false)))])
  (.skip))
 (.seq (.st [.sets [(9, (.tup (.call 0 f_num_Mul) (.cons (.v 2) (.cons (.v 1) .nil))))]])
 (.seq (.st [.sets [(10, (.tup (.call 0 f_num_Add) (.cons (.un (.ext 0) (.v 9)) (.cons (.v 4) .nil))))],
   .sets [(6, (.un (.ext 0) (.v 10)))]])
 (.ret [.e (.pick (.pick (.pick (.bi (.bin .eql) (.bi (.bin .add) (.bi (.bin .add) (.v 5) (.un (.ext 1) (.v 9))) (.un (.ext 1) (.v 10))) (.c (.int .i64 0))) (.bi (.bin .eql) (.v 6) (.v 0)) (.c (.bool false))) (.pick (.bi (.bin .eql) (.v 4) (.c (.int .i64 0))) (.c (.bool true)) (.bi (.eqs 0 false) (.bi (.bin .lss) (.v 4) (.c (.int .i64 0))) (.bi (.bin .lss) (.v 0) (.c (.int .i64 0))))) (.c (.bool false))) (.pick (.pick (.pick (.bi (.bin .gtr) (.v 1) (.c (.int .i64 0))) (.bi (.bin .lss) (.v 4) (.v 1)) (.c (.bool false))) (.bi (.bin .lss) (.bi (.bin .sub) (.c (.int .i64 0)) (.v 4)) (.v 1)) (.c (.bool false))) (.c (.bool true)) (.pick (.pick (.bi (.bin .lss) (.v 1) (.c (.int .i64 0))) (.bi (.bin .gtr) (.v 4) (.v 1)) (.c (.bool false))) (.bi (.bin .gtr) (.bi (.bin .sub) (.c (.int .i64 0)) (.v 4)) (.v 1)) (.c (.bool false)))) (.c (.bool false)))]))))))))⟩
noncomputable def r6 : ERow := ⟨Go.Proofs.Tryd.f6, ⟨[], []⟩, ⟨115, [0, 1, 5, 6, 7, 8, 11, 15, 21, 51, 57], [], [15, 21, 51, 57]⟩, 2, e_law1_NumbersParts⟩

/-- whelk/whelklaw1.NumbersEnds [0=d, 1=k, 2=a, 3=_, 4=f, 5=b, 6=_, 7=h, 8=_, 9=i, 10=_, 11=j, 12=m] -/
def e_law1_NumbersEnds : EFunc := ⟨1, 20,
 (.seq (.cond (.un .not (.tup (.call 0 f_law1_known) .nil))
  (.ret [.e (.c (.bool false))])
  (.skip))
 (.seq (.st [.sets [(1, (.un (.conv .i64) (.v 0)))]])
 (.seq (.st [.sets [(13, (.tup (.call 0 f_num_Add) (.cons (.bi (.bin .sub) (.c (.int .i64 9223372036854775807)) (.v 1)) (.cons (.v 1) .nil))))],
   .sets [(2, (.un (.ext 0) (.v 13)))]])
 (.seq (.st [.sets [(14, (.tup (.call 0 f_num_Add) (.cons (.bi (.bin .sub) (.c (.int .i64 9223372036854775807)) (.v 1)) (.cons (.bi (.bin .add) (.v 1) (.c (.int .i64 1))) .nil))))],
   .sets [(3, (.un (.ext 0) (.v 14))), (4, (.un (.ext 1) (.v 14)))]])
 (.seq (.st [.sets [(15, (.tup (.call 0 f_num_Sub) (.cons (.bi (.bin .add) (.c (.int .i64 (-9223372036854775808))) (.v 1)) (.cons (.v 1) .nil))))],
   .sets [(5, (.un (.ext 0) (.v 15)))]])
 (.seq (.st [.sets [(16, (.tup (.call 0 f_num_Sub) (.cons (.bi (.bin .add) (.c (.int .i64 (-9223372036854775808))) (.v 1)) (.cons (.bi (.bin .add) (.v 1) (.c (.int .i64 1))) .nil))))],
   .sets [(6, (.un (.ext 0) (.v 16))), (7, (.un (.ext 1) (.v 16)))]])
 (.seq (.st [.sets [(17, (.tup (.call 0 f_num_Mul) (.cons (.c (.int .i64 (-9223372036854775808))) (.cons (.c (.int .i64 (-1))) .nil))))],
   .sets [(8, (.un (.ext 0) (.v 17))), (9, (.un (.ext 1) (.v 17)))]])
 (.seq (.st [.sets [(18, (.tup (.call 0 f_num_Div) (.cons (.c (.int .i64 (-9223372036854775808))) (.cons (.c (.int .i64 (-1))) .nil))))],
   .sets [(10, (.un (.ext 0) (.v 18))), (11, (.un (.ext 1) (.v 18)))]])
 (.seq (.st [.sets [(19, (.tup (.call 0 f_num_Mod) (.cons (.c (.int .i64 (-9223372036854775808))) (.cons (.c (.int .i64 (-1))) .nil))))],
   .sets [(12, (.un (.ext 0) (.v 19)))]])
 (.ret [.e (.pick (.pick (.pick (.pick (.pick (.pick (.pick (.bi (.bin .eql) (.bi (.bin .add) (.bi (.bin .add) (.un (.ext 1) (.v 13)) (.un (.ext 1) (.v 15))) (.un (.ext 1) (.v 19))) (.c (.int .i64 0))) (.bi (.bin .eql) (.v 2) (.c (.int .i64 9223372036854775807))) (.c (.bool false))) (.bi (.bin .eql) (.v 5) (.c (.int .i64 (-9223372036854775808)))) (.c (.bool false))) (.bi (.bin .eql) (.v 12) (.c (.int .i64 0))) (.c (.bool false))) (.bi (.bin .eql) (.v 4) (.c (.int .i64 11))) (.c (.bool false))) (.bi (.bin .eql) (.v 7) (.c (.int .i64 11))) (.c (.bool false))) (.bi (.bin .eql) (.v 9) (.c (.int .i64 11))) (.c (.bool false))) (.bi (.bin .eql) (.v 11) (.c (.int .i64 11))) (.c (.bool false)))]))))))))))⟩
noncomputable def r7 : ERow := ⟨Go.Proofs.Tryd.f7, ⟨[], []⟩, ⟨98, [0, 3, 4, 6, 7, 8, 10, 11, 12, 13, 14, 15, 16, 22, 29, 37, 44, 52, 56, 60], [], [22, 29, 37, 44, 52, 56, 60]⟩, 1, e_law1_NumbersEnds⟩

/-- whelk/whelklaw1.NumbersTurn [0=a, 1=b, 2=e, 3=f, 4=u, 5=g, 6=v, 7=h, 8=p, 9=i, 10=q, 11=j] -/
def e_law1_NumbersTurn : EFunc := ⟨2, 18,
 (.seq (.cond (.un .not (.tup (.call 0 f_law1_known) .nil))
  (.ret [.e (.c (.bool false))])
  (.skip))
 (.seq (.st [.sets [(12, (.tup (.call 0 f_num_Add) (.cons (.v 0) (.cons (.v 1) .nil))))],
   .sets [(2, (.un (.ext 1) (.v 12)))]])
 (.seq (.st [.sets [(13, (.tup (.call 0 f_num_Add) (.cons (.v 1) (.cons (.v 0) .nil))))],
   .sets [(3, (.un (.ext 1) (.v 13)))]])
 (.seq (.st [.sets [(14, (.tup (.call 0 f_num_Mul) (.cons (.v 0) (.cons (.v 1) .nil))))],
   .sets [(4, (.un (.ext 0) (.v 14))), (5, (.un (.ext 1) (.v 14)))]])
 (.seq (.st [.sets [(15, (.tup (.call 0 f_num_Mul) (.cons (.v 1) (.cons (.v 0) .nil))))],
   .sets [(6, (.un (.ext 0) (.v 15))), (7, (.un (.ext 1) (.v 15)))]])
 (.seq (.st [.sets [(16, (.tup (.call 0 f_num_Sub) (.cons (.v 0) (.cons (.v 1) .nil))))],
   .sets [(8, (.un (.ext 0) (.v 16))), (9, (.un (.ext 1) (.v 16)))]])
 (.seq (.st [.sets [(17, (.tup (.call 0 f_num_Sub) (.cons (.v 1) (.cons (.v 0) .nil))))],
   .sets [(10, (.un (.ext 0) (.v 17))), (11, (.un (.ext 1) (.v 17)))]])
 (.ret [.e (.pick (.pick (.pick (.pick (.bi (.bin .eql) (.un (.ext 0) (.v 12)) (.un (.ext 0) (.v 13))) (.bi (.bin .eql) (.v 2) (.v 3)) (.c (.bool false))) (.bi (.bin .eql) (.v 4) (.v 6)) (.c (.bool false))) (.bi (.bin .eql) (.v 5) (.v 7)) (.c (.bool false))) (.pick (.pick (.bi (.bin .neq) (.v 9) (.c (.int .i64 0))) (.c (.bool true)) (.bi (.bin .neq) (.v 11) (.c (.int .i64 0)))) (.c (.bool true)) (.bi (.bin .eql) (.v 8) (.bi (.bin .sub) (.c (.int .i64 0)) (.v 10)))) (.c (.bool false)))]))))))))⟩
noncomputable def r8 : ERow := ⟨Go.Proofs.Tryd.f8, ⟨[], []⟩, ⟨87, [0, 1, 6, 8, 9, 10, 11, 12, 13, 14, 15, 16, 19, 25, 31, 37, 43, 49], [], [19, 25, 31, 37, 43, 49]⟩, 2, e_law1_NumbersTurn⟩

/-- whelk/whelklaw1.known [0=e, 1=_, 2=f, 3=d, 4=g, 5=m, 6=h, 7=p, 8=i, 9=x] -/
def e_law1_known : EFunc := ⟨0, 22,
 (.seq (.st [.sets [(10, (.tup (.call 0 f_num_Add) (.cons (.c (.int .i64 2)) (.cons (.c (.int .i64 3)) .nil))))],
   .sets [(0, (.un (.ext 1) (.v 10)))]])
 (.seq (.st [.sets [(11, (.tup (.call 0 f_num_Add) (.cons (.c (.int .i64 9223372036854775807)) (.cons (.c (.int .i64 1)) .nil))))],
   .sets [(1, (.un (.ext 0) (.v 11))), (2, (.un (.ext 1) (.v 11)))]])
 (.seq (.st [.sets [(12, (.tup (.call 0 f_num_Div) (.cons (.c (.int .i64 (-7))) (.cons (.c (.int .i64 2)) .nil))))],
   .sets [(3, (.un (.ext 0) (.v 12))), (4, (.un (.ext 1) (.v 12)))]])
 (.seq (.st [.sets [(13, (.tup (.call 0 f_num_Mod) (.cons (.c (.int .i64 (-7))) (.cons (.c (.int .i64 2)) .nil))))],
   .sets [(5, (.un (.ext 0) (.v 13))), (6, (.un (.ext 1) (.v 13)))]])
 (.seq (.st [.sets [(14, (.tup (.call 0 f_num_Parse) (.cons (.c (.str [45, 49, 50])) .nil)))],
   .sets [(7, (.un (.ext 0) (.v 14))), (8, (.un (.ext 1) (.v 14)))]])
 (.seq (.st [.eff (some 9) none (.zbox [(.int .i64 0)]),
   .eff none none (.store 1 (.v 9) (.tup (.build [(.int .i64 0)] [(0, 1)]) (.cons (.c (.int .i64 3)) .nil)))])
 (.seq (.st [.eff (some 15) none (.calls [true, true, true, true, true, true, true, true, true, true, true, true, true, true, true, true] f_num_Fuel_Use (.cons (.v 9) (.cons (.c (.int .i64 2)) .nil)))])
 (.seq (.st [.eff (some 16) none (.calls [true, true, true, true, true, true, true, true, true, true, true, true, true, true, true, true] f_num_Fuel_Use (.cons (.v 9) (.cons (.c (.int .i64 2)) .nil)))])
 (.seq (.st [.sets [(17, (.pick (.pick (.pick (.pick (.pick (.bi (.bin .eql) (.un (.ext 0) (.v 10)) (.c (.int .i64 5))) (.bi (.bin .eql) (.bi (.bin .add) (.bi (.bin .add) (.bi (.bin .add) (.bi (.bin .add) (.v 0) (.v 4)) (.v 6)) (.v 8)) (.v 15)) (.c (.int .i64 0))) (.c (.bool false))) (.bi (.bin .eql) (.v 2) (.c (.int .i64 11))) (.c (.bool false))) (.bi (.bin .eql) (.v 3) (.c (.int .i64 (-3)))) (.c (.bool false))) (.bi (.bin .eql) (.v 5) (.c (.int .i64 (-1)))) (.c (.bool false))) (.bi (.bin .eql) (.v 7) (.c (.int .i64 (-12)))) (.c (.bool false)))), (18, (.gd true (.pick (.pick (.pick (.pick (.pick (.bi (.bin .eql) (.un (.ext 0) (.v 10)) (.c (.int .i64 5))) (.bi (.bin .eql) (.bi (.bin .add) (.bi (.bin .add) (.bi (.bin .add) (.bi (.bin .add) (.v 0) (.v 4)) (.v 6)) (.v 8)) (.v 15)) (.c (.int .i64 0))) (.c (.bool false))) (.bi (.bin .eql) (.v 2) (.c (.int .i64 11))) (.c (.bool false))) (.bi (.bin .eql) (.v 3) (.c (.int .i64 (-3)))) (.c (.bool false))) (.bi (.bin .eql) (.v 5) (.c (.int .i64 (-1)))) (.c (.bool false))) (.bi (.bin .eql) (.v 7) (.c (.int .i64 (-12)))) (.c (.bool false))) (.tup (.call 0 f_num_Text) (.cons (.c (.int .i64 (-12))) .nil))))],
   .sets [(19, (.pick (.pick (.v 17) (.bi (.bin .eql) (.v 18) (.c (.str [45, 49, 50]))) (.c (.bool false))) (.bi (.bin .eql) (.v 16) (.c (.int .i64 9))) (.c (.bool false)))), (20, (.gd true (.pick (.pick (.v 17) (.bi (.bin .eql) (.v 18) (.c (.str [45, 49, 50]))) (.c (.bool false))) (.bi (.bin .eql) (.v 16) (.c (.int .i64 9))) (.c (.bool false))) (.un (.off 0) (.v 9))))],
   .eff (some 21) (some ((.v 19), true)) (.load none (.v 20))])
 (.ret [.e (.pick (.v 19) (.bi (.bin .eql) (.v 21) (.c (.int .i64 0))) (.c (.bool false)))]))))))))))⟩
noncomputable def r9 : ERow := ⟨Go.Proofs.Tryd.f9, ⟨[], []⟩, ⟨80, [2, 3, 4, 5, 6, 7, 8, 9, 10, 11, 14, 18, 22, 26, 30, 35, 36, 67, 68, 75, 76, 77], [], [68, 14, 18, 22, 26, 30]⟩, 0, e_law1_known⟩

/-- whelk/num.Add [0=a, 1=b] -/
def e_num_Add : EFunc := ⟨2, 2,
 (.seq (.cond (.pick (.pick (.bi (.bin .gtr) (.v 1) (.c (.int .i64 0))) (.bi (.bin .gtr) (.v 0) (.bi (.bin .sub) (.c (.int .i64 9223372036854775807)) (.v 1))) (.c (.bool false))) (.c (.bool true)) (.pick (.bi (.bin .lss) (.v 1) (.c (.int .i64 0))) (.bi (.bin .lss) (.v 0) (.bi (.bin .sub) (.c (.int .i64 (-9223372036854775808))) (.v 1))) (.c (.bool false))))
  (.ret [.e (.c (.int .i64 0)), .e (.c (.int .i64 11))])
  (.skip))
 (.ret [.e (.bi (.bin .add) (.v 0) (.v 1)), .e (.c (.int .i64 0))]))⟩
noncomputable def r10 : ERow := ⟨Go.Proofs.Tryd.f10, ⟨[], []⟩, ⟨27, [0, 1], [], []⟩, 2, e_num_Add⟩

/-- whelk/whelkref1.Add [0=a, 1=b] -/
def e_ref1_Add : EFunc := ⟨2, 2,
 (.seq (.cond (.pick (.pick (.bi (.bin .gtr) (.v 1) (.c (.int .i64 0))) (.bi (.bin .gtr) (.v 0) (.bi (.bin .sub) (.c (.int .i64 9223372036854775807)) (.v 1))) (.c (.bool false))) (.c (.bool true)) (.pick (.bi (.bin .lss) (.v 1) (.c (.int .i64 0))) (.bi (.bin .lss) (.v 0) (.bi (.bin .sub) (.c (.int .i64 (-9223372036854775808))) (.v 1))) (.c (.bool false))))
  (.ret [.e (.c (.int .i64 0)), .e (.c (.int .i64 11))])
  (.skip))
 (.ret [.e (.bi (.bin .add) (.v 0) (.v 1)), .e (.c (.int .i64 0))]))⟩
noncomputable def r11 : ERow := ⟨Go.Proofs.Tryd.f11, ⟨[], []⟩, ⟨27, [0, 1], [], []⟩, 2, e_ref1_Add⟩

/-- whelk/num.Sub [0=a, 1=b] -/
def e_num_Sub : EFunc := ⟨2, 2,
 (.seq (.cond (.pick (.pick (.bi (.bin .lss) (.v 1) (.c (.int .i64 0))) (.bi (.bin .gtr) (.v 0) (.bi (.bin .add) (.c (.int .i64 9223372036854775807)) (.v 1))) (.c (.bool false))) (.c (.bool true)) (.pick (.bi (.bin .gtr) (.v 1) (.c (.int .i64 0))) (.bi (.bin .lss) (.v 0) (.bi (.bin .add) (.c (.int .i64 (-9223372036854775808))) (.v 1))) (.c (.bool false))))
  (.ret [.e (.c (.int .i64 0)), .e (.c (.int .i64 11))])
  (.skip))
 (.ret [.e (.bi (.bin .sub) (.v 0) (.v 1)), .e (.c (.int .i64 0))]))⟩
noncomputable def r12 : ERow := ⟨Go.Proofs.Tryd.f12, ⟨[], []⟩, ⟨27, [0, 1], [], []⟩, 2, e_num_Sub⟩

/-- whelk/whelkref1.Sub [0=a, 1=b] -/
def e_ref1_Sub : EFunc := ⟨2, 2,
 (.seq (.cond (.pick (.pick (.bi (.bin .lss) (.v 1) (.c (.int .i64 0))) (.bi (.bin .gtr) (.v 0) (.bi (.bin .add) (.c (.int .i64 9223372036854775807)) (.v 1))) (.c (.bool false))) (.c (.bool true)) (.pick (.bi (.bin .gtr) (.v 1) (.c (.int .i64 0))) (.bi (.bin .lss) (.v 0) (.bi (.bin .add) (.c (.int .i64 (-9223372036854775808))) (.v 1))) (.c (.bool false))))
  (.ret [.e (.c (.int .i64 0)), .e (.c (.int .i64 11))])
  (.skip))
 (.ret [.e (.bi (.bin .sub) (.v 0) (.v 1)), .e (.c (.int .i64 0))]))⟩
noncomputable def r13 : ERow := ⟨Go.Proofs.Tryd.f13, ⟨[], []⟩, ⟨27, [0, 1], [], []⟩, 2, e_ref1_Sub⟩

/-- whelk/num.Mul [0=a, 1=b, 2=lo, 3=minus] -/
def e_num_Mul : EFunc := ⟨2, 6,
 (.seq (.st [.sets [(4, (.tup (.call 0 f_math_bits_Mul64) (.cons (.tup (.call 0 f_num_abs) (.cons (.v 0) .nil)) (.cons (.tup (.call 0 f_num_abs) (.cons (.v 1) .nil)) .nil))))],
   .sets [(2, (.un (.ext 1) (.v 4)))]])
 (.seq (.st [.sets [(3, (.bi (.eqs 0 true) (.bi (.bin .lss) (.v 0) (.c (.int .i64 0))) (.bi (.bin .lss) (.v 1) (.c (.int .i64 0)))))]])
 (.seq (.block 0 (.seq (.seq (.st [.sets [(5, (.bi (.bin .gtr) (.un (.ext 0) (.v 4)) (.c (.int .u64 0))))]])
  (.cond (.v 5)
   (.skip)
   (.seq (.st [.sets [(5, (.bi (.bin .gtr) (.v 2) (.c (.int .u64 9223372036854775808))))]])
   (.cond (.v 5)
    (.skip)
    (.st [.sets [(5, (.pick (.bi (.bin .eql) (.v 2) (.c (.int .u64 9223372036854775808))) (.un .not (.v 3)) (.c (.bool false))))]])))))
  (.cond (.v 5)
   (.ret [.e (.c (.int .i64 0)), .e (.c (.int .i64 11))])
   (.cond (.v 3)
    (.ret [.e (.un (.conv .i64) (.bi (.bin .sub) (.c (.int .u64 0)) (.v 2))), .e (.c (.int .i64 0))])
    (.skip)))))
 (.ret [.e (.un (.conv .i64) (.v 2)), .e (.c (.int .i64 0))]))))⟩
noncomputable def r14 : ERow := ⟨Go.Proofs.Tryd.f14, ⟨[], []⟩, ⟨40, [0, 1, 7, 8, 9, 22], [], [9]⟩, 2, e_num_Mul⟩

/-- whelk/whelkref1.Mul [0=a, 1=b, 2=x, 3=y, 4=top] -/
def e_ref1_Mul : EFunc := ⟨2, 5,
 (.seq (.st [.sets [(2, (.tup (.call 0 f_ref1_size) (.cons (.v 0) .nil)))]])
 (.seq (.st [.sets [(3, (.tup (.call 0 f_ref1_size) (.cons (.v 1) .nil)))]])
 (.seq (.st [.sets [(4, (.c (.int .u64 9223372036854775807)))]])
 (.seq (.cond (.bi (.eqs 0 true) (.bi (.bin .lss) (.v 0) (.c (.int .i64 0))) (.bi (.bin .lss) (.v 1) (.c (.int .i64 0))))
  (.st [.sets [(4, (.bi (.bin .add) (.v 4) (.c (.int .u64 1))))]])
  (.skip))
 (.seq (.cond (.pick (.bi (.bin .neq) (.v 2) (.c (.int .u64 0))) (.bi (.bin .gtr) (.v 3) (.bi (.bin .quo) (.v 4) (.v 2))) (.c (.bool false)))
  (.ret [.e (.c (.int .i64 0)), .e (.c (.int .i64 11))])
  (.skip))
 (.ret [.e (.bi (.bin .mul) (.v 0) (.v 1)), .e (.c (.int .i64 0))]))))))⟩
noncomputable def r15 : ERow := ⟨Go.Proofs.Tryd.f15, ⟨[], []⟩, ⟨32, [0, 1, 6, 7, 8], [], []⟩, 2, e_ref1_Mul⟩

/-- whelk/num.Div [0=a, 1=b] -/
def e_num_Div : EFunc := ⟨2, 2,
 (.seq (.cond (.pick (.bi (.bin .eql) (.v 1) (.c (.int .i64 0))) (.c (.bool true)) (.pick (.bi (.bin .eql) (.v 0) (.c (.int .i64 (-9223372036854775808)))) (.bi (.bin .eql) (.v 1) (.c (.int .i64 (-1)))) (.c (.bool false))))
  (.ret [.e (.c (.int .i64 0)), .e (.c (.int .i64 11))])
  (.skip))
 (.ret [.e (.bi (.bin .quo) (.v 0) (.v 1)), .e (.c (.int .i64 0))]))⟩
noncomputable def r16 : ERow := ⟨Go.Proofs.Tryd.f16, ⟨[], []⟩, ⟨19, [0, 1], [], []⟩, 2, e_num_Div⟩

/-- whelk/whelkref1.Div [0=a, 1=b] -/
def e_ref1_Div : EFunc := ⟨2, 2,
 (.seq (.cond (.pick (.bi (.bin .eql) (.v 1) (.c (.int .i64 0))) (.c (.bool true)) (.pick (.bi (.bin .eql) (.v 0) (.c (.int .i64 (-9223372036854775808)))) (.bi (.bin .eql) (.v 1) (.c (.int .i64 (-1)))) (.c (.bool false))))
  (.ret [.e (.c (.int .i64 0)), .e (.c (.int .i64 11))])
  (.skip))
 (.ret [.e (.bi (.bin .quo) (.v 0) (.v 1)), .e (.c (.int .i64 0))]))⟩
noncomputable def r17 : ERow := ⟨Go.Proofs.Tryd.f17, ⟨[], []⟩, ⟨19, [0, 1], [], []⟩, 2, e_ref1_Div⟩

/-- whelk/num.Mod [0=a, 1=b] -/
def e_num_Mod : EFunc := ⟨2, 2,
 (.seq (.block 0 (.cond (.bi (.bin .eql) (.v 1) (.c (.int .i64 0)))
   (.ret [.e (.c (.int .i64 0)), .e (.c (.int .i64 11))])
   (.cond (.bi (.bin .eql) (.v 1) (.c (.int .i64 (-1))))
    (.ret [.e (.c (.int .i64 0)), .e (.c (.int .i64 0))])
    (.skip))))
 (.ret [.e (.bi (.bin .rem) (.v 0) (.v 1)), .e (.c (.int .i64 0))]))⟩
noncomputable def r18 : ERow := ⟨Go.Proofs.Tryd.f18, ⟨[], []⟩, ⟨14, [0, 1], [], []⟩, 2, e_num_Mod⟩

/-- whelk/whelkref1.Mod [0=a, 1=b] -/
def e_ref1_Mod : EFunc := ⟨2, 2,
 (.seq (.block 0 (.cond (.bi (.bin .eql) (.v 1) (.c (.int .i64 0)))
   (.ret [.e (.c (.int .i64 0)), .e (.c (.int .i64 11))])
   (.cond (.bi (.bin .eql) (.v 1) (.c (.int .i64 (-1))))
    (.ret [.e (.c (.int .i64 0)), .e (.c (.int .i64 0))])
    (.skip))))
 (.ret [.e (.bi (.bin .rem) (.v 0) (.v 1)), .e (.c (.int .i64 0))]))⟩
noncomputable def r19 : ERow := ⟨Go.Proofs.Tryd.f19, ⟨[], []⟩, ⟨14, [0, 1], [], []⟩, 2, e_ref1_Mod⟩

/-- whelk/num.Parse [0=s, 1=digits, 2=minus, 3=n, 4=t, 5=c] -/
def b_num_Parse_0 : EC :=
 (.seq (.cond (.bi (.bin .lss) (.v 7) (.v 6))
  (.skip)
  (.exit 3))
 (.seq (.block 4 (.cond (.pick (.bi (.bin .lss) (.bi .sidx (.v 1) (.v 7)) (.c (.int .u8 48))) (.c (.bool true)) (.bi (.bin .gtr) (.bi .sidx (.v 1) (.v 7)) (.c (.int .u8 57))))
   (.ret [.e (.c (.int .i64 0)), .e (.c (.int .i64 2))])
   (.skip)))
 (.st [.sets [(7, (.bi (.bin .add) (.v 7) (.c (.int .i64 1))))]])))
def b_num_Parse_1 : EC :=
 (.seq (.cond (.bi (.bin .lss) (.v 9) (.v 8))
  (.skip)
  (.exit 5))
 (.seq (.block 6 (.seq (.st [.sets [(10, (.tup (.call 0 f_num_Mul) (.cons (.v 3) (.cons (.c (.int .i64 10)) .nil))))],
    .sets [(4, (.un (.ext 0) (.v 10))), (5, (.un (.ext 1) (.v 10)))]])
  (.seq (.cond (.bi (.bin .eql) (.v 5) (.c (.int .i64 0)))
   (.st [.sets [(11, (.tup (.call 0 f_num_Sub) (.cons (.v 4) (.cons (.un (.conv .i64) (.bi (.bin .sub) (.bi .sidx (.v 1) (.v 9)) (.c (.int .u8 48)))) .nil))))],
     .sets [(4, (.un (.ext 0) (.v 11))), (5, (.un (.ext 1) (.v 11)))]])
   (.skip))
  (.seq (.cond (.bi (.bin .neq) (.v 5) (.c (.int .i64 0)))
   (.ret [.e (.c (.int .i64 0)), .e (.v 5)])
   (.skip))
  (.st [.sets [(3, (.v 4))]])))))
 (.st [.sets [(9, (.bi (.bin .add) (.v 9) (.c (.int .i64 1))))]])))
def e_num_Parse : EFunc := ⟨1, 13,
 (.seq (.st [.sets [(1, (.v 0)), (2, (.c (.bool false)))]])
 (.seq (.block 0 (.seq (.block 2 (.seq (.block 1 (.seq (.seq (.cond (.tup (.call 0 f_strings_HasPrefix) (.cons (.v 0) (.cons (.c (.str [45])) .nil)))
     (.exit 1)
     (.skip))
    (.cond (.tup (.call 0 f_strings_HasPrefix) (.cons (.v 0) (.cons (.c (.str [43])) .nil)))
     (.exit 2)
     (.skip)))
    (.exit 0)))
   (.st [.sets [(2, (.c (.bool true)))]])))
  (.seq (.st [.sets [(1, (.ssub true false (.v 0) (.c (.int .i64 1)) (.c .undef)))]])
  (.exit 0))))
 (.seq (.cond (.bi (.bin .eql) (.v 1) (.c (.str [])))
  (.ret [.e (.c (.int .i64 0)), .e (.c (.int .i64 2))])
  (.skip))
 (.seq (.seq (.st [.sets [(6, (.un .slen (.v 1))), (7, (.c (.int .i64 0)))]])
 (.block 3 (.loop [false, true, true, false, false, false, true, true, false, false, false, false, false] b_num_Parse_0)))
 (.seq (.st [.sets [(3, (.c (.int .i64 0)))]])
 (.seq (.seq (.st [.sets [(8, (.un .slen (.v 1))), (9, (.c (.int .i64 0)))]])
 (.block 5 (.loop [false, true, true, true, false, false, false, false, true, true, false, false, false] b_num_Parse_1)))
 (.seq (.cond (.v 2)
  (.ret [.e (.v 3), .e (.c (.int .i64 0))])
  (.skip))
 (.seq (.st [.sets [(12, (.tup (.call 0 f_num_Sub) (.cons (.c (.int .i64 0)) (.cons (.v 3) .nil))))]])
 (.ret [.e (.un (.ext 0) (.v 12)), .e (.un (.ext 1) (.v 12))])))))))))⟩
noncomputable def r20 : ERow := ⟨Go.Proofs.Tryd.f20, ⟨[], [(3, [false, false, false, false, true, true, false, false, false, false, false, false, false, false, false, false, false, false, false, false, false, false, false, true, true]), (5, [false, false, false, false, true, true, false, true, false, false, false, false, false, false, false, false, false, false, false, false, false, false, false, false, false, false, false, false, false, false, false, false, false, false, false, false, false, false, false, true, true])]⟩, ⟨71, [0, 4, 5, 7, 9, 10, 23, 24, 39, 40, 43, 50, 68], [], [68, 43, 50]⟩, 1, e_num_Parse⟩

/-- whelk/whelkref1.Parse [0=s, 1=neg, 2=v, 3=i, 4=d, 5=w, 6=x] -/
def b_ref1_Parse_0 : EC :=
 (.seq (.cond (.bi (.bin .lss) (.v 3) (.un .slen (.v 0)))
  (.skip)
  (.exit 0))
 (.seq (.block 1 (.seq (.cond (.pick (.bi (.bin .eql) (.bi .sidx (.v 0) (.v 3)) (.c (.int .u8 43))) (.c (.bool true)) (.bi (.bin .eql) (.bi .sidx (.v 0) (.v 3)) (.c (.int .u8 45))))
   (.exit 1)
   (.skip))
  (.seq (.st [.sets [(4, (.un (.conv .i64) (.bi (.bin .sub) (.bi .sidx (.v 0) (.v 3)) (.c (.int .u8 48)))))]])
  (.seq (.cond (.v 1)
   (.st [.sets [(4, (.bi (.bin .sub) (.c (.int .i64 0)) (.v 4)))]])
   (.skip))
  (.seq (.st [.sets [(7, (.tup (.call 0 f_ref1_Mul) (.cons (.v 2) (.cons (.c (.int .i64 10)) .nil))))],
    .sets [(5, (.un (.ext 0) (.v 7)))]])
  (.seq (.cond (.bi (.bin .neq) (.un (.ext 1) (.v 7)) (.c (.int .i64 0)))
   (.ret [.e (.c (.int .i64 0)), .e (.un (.ext 1) (.v 7))])
   (.skip))
  (.seq (.st [.sets [(8, (.tup (.call 0 f_ref1_Add) (.cons (.v 5) (.cons (.v 4) .nil))))],
    .sets [(6, (.un (.ext 0) (.v 8)))]])
  (.seq (.cond (.bi (.bin .neq) (.un (.ext 1) (.v 8)) (.c (.int .i64 0)))
   (.ret [.e (.c (.int .i64 0)), .e (.un (.ext 1) (.v 8))])
   (.skip))
  (.st [.sets [(2, (.v 6))]])))))))))
 (.st [.sets [(3, (.bi (.bin .add) (.v 3) (.c (.int .i64 1))))]])))
def e_ref1_Parse : EFunc := ⟨1, 9,
 (.seq (.cond (.un .not (.tup (.call 0 f_ref1_Shape) (.cons (.v 0) .nil)))
  (.ret [.e (.c (.int .i64 0)), .e (.c (.int .i64 2))])
  (.skip))
 (.seq (.st [.sets [(1, (.bi (.bin .eql) (.bi .sidx (.v 0) (.c (.int .i64 0))) (.c (.int .u8 45))))]])
 (.seq (.st [.sets [(2, (.c (.int .i64 0)))]])
 (.seq (.seq (.st [.sets [(3, (.c (.int .i64 0)))]])
 (.block 0 (.loop [true, true, true, true, false, false, false, false, false] b_ref1_Parse_0)))
 (.ret [.e (.v 2), .e (.c (.int .i64 0))])))))⟩
noncomputable def r21 : ERow := ⟨Go.Proofs.Tryd.f21, ⟨[], [(0, [true, false, false, false, true, true, true])]⟩, ⟨61, [0, 4, 5, 6, 7, 8, 10, 42, 50], [], [42, 50]⟩, 1, e_ref1_Parse⟩

/-- whelk/num.Text [0=n] -/
def e_num_Text : EFunc := ⟨1, 1,
 (.ret [.e (.tup (.call 0 f_strconv_FormatInt) (.cons (.v 0) (.cons (.c (.int .i64 10)) .nil)))])⟩
noncomputable def r22 : ERow := ⟨Go.Proofs.Tryd.f22, ⟨[], []⟩, ⟨5, [0], [], []⟩, 1, e_num_Text⟩

/-- whelk/whelkref1.Text [0=n, 1=u, 2=s] -/
def b_ref1_Text_0 : EC :=
 (.seq (.cond (.bi (.bin .geq) (.v 1) (.c (.int .u64 10)))
  (.skip)
  (.exit 0))
 (.block 1 (.seq (.st [.sets [(1, (.bi (.bin .quo) (.v 1) (.c (.int .u64 10))))]])
  (.st [.sets [(2, (.bi (.bin .add) (.un .tostr (.tup (.bslice 1 [(.int .u8 0)] 1 [0]) (.cons (.un (.conv .u8) (.bi (.bin .add) (.c (.int .u64 48)) (.bi (.bin .rem) (.v 1) (.c (.int .u64 10))))) .nil))) (.v 2)))]]))))
def e_ref1_Text : EFunc := ⟨1, 3,
 (.seq (.st [.sets [(1, (.tup (.call 0 f_ref1_size) (.cons (.v 0) .nil)))]])
 (.seq (.st [.sets [(2, (.un .tostr (.tup (.bslice 1 [(.int .u8 0)] 1 [0]) (.cons (.un (.conv .u8) (.bi (.bin .add) (.c (.int .u64 48)) (.bi (.bin .rem) (.v 1) (.c (.int .u64 10))))) .nil))))]])
 (.seq (.block 0 (.loop [true, true, true] b_ref1_Text_0))
 (.seq (.cond (.bi (.bin .lss) (.v 0) (.c (.int .i64 0)))
  (.ret [.e (.bi (.bin .add) (.c (.str [45])) (.v 2))])
  (.skip))
 (.ret [.e (.v 2)])))))⟩
noncomputable def r23 : ERow := ⟨Go.Proofs.Tryd.f23, ⟨[], [(0, [true, false, false, true, true])]⟩, ⟨30, [0, 3, 4], [], []⟩, 1, e_ref1_Text⟩

/-- (*whelk/num.Fuel).Use [0=f, 1=n] -/
def e_num_Fuel_Use : EFunc := ⟨2, 4,
 (.seq (.block 0 (.cond (.bi (.bin .lss) (.v 1) (.c (.int .i64 0)))
   (.ret [.e (.c (.int .i64 1))])
   (.seq (.st [.eff (some 2) none (.load none (.un (.off 0) (.un .nilchk (.v 0))))])
   (.cond (.bi (.bin .lss) (.v 2) (.v 1))
    (.seq (.st [.eff none none (.store 1 (.un (.off 0) (.un .nilchk (.v 0))) (.c (.int .i64 0)))])
    (.ret [.e (.c (.int .i64 9))]))
    (.skip)))))
 (.seq (.st [.eff (some 3) none (.load none (.un (.off 0) (.un .nilchk (.v 0)))),
   .eff none none (.store 1 (.un (.off 0) (.un .nilchk (.v 0))) (.bi (.bin .sub) (.v 3) (.v 1)))])
 (.ret [.e (.c (.int .i64 0))])))⟩
noncomputable def r24 : ERow := ⟨Go.Proofs.Tryd.f24, ⟨[], []⟩, ⟨26, [0, 1, 12, 21], [], []⟩, 2, e_num_Fuel_Use⟩

/-- math/bits.Mul64 [0=x, 1=y] -/
def e_math_bits_Mul64 : EFunc := ⟨2, 2,
 (.ret [.e (.bi (.bin .add) (.bi (.bin .add) (.bi (.bin .mul) (.bi (.bin .shr) (.v 0) (.c (.int .u64 32))) (.bi (.bin .shr) (.v 1) (.c (.int .u64 32)))) (.bi (.bin .shr) (.bi (.bin .add) (.bi (.bin .mul) (.bi (.bin .shr) (.v 0) (.c (.int .u64 32))) (.bi (.bin .and) (.v 1) (.c (.int .u64 4294967295)))) (.bi (.bin .shr) (.bi (.bin .mul) (.bi (.bin .and) (.v 0) (.c (.int .u64 4294967295))) (.bi (.bin .and) (.v 1) (.c (.int .u64 4294967295)))) (.c (.int .u64 32)))) (.c (.int .u64 32)))) (.bi (.bin .shr) (.bi (.bin .add) (.bi (.bin .and) (.bi (.bin .add) (.bi (.bin .mul) (.bi (.bin .shr) (.v 0) (.c (.int .u64 32))) (.bi (.bin .and) (.v 1) (.c (.int .u64 4294967295)))) (.bi (.bin .shr) (.bi (.bin .mul) (.bi (.bin .and) (.v 0) (.c (.int .u64 4294967295))) (.bi (.bin .and) (.v 1) (.c (.int .u64 4294967295)))) (.c (.int .u64 32)))) (.c (.int .u64 4294967295))) (.bi (.bin .mul) (.bi (.bin .and) (.v 0) (.c (.int .u64 4294967295))) (.bi (.bin .shr) (.v 1) (.c (.int .u64 32))))) (.c (.int .u64 32)))), .e (.bi (.bin .mul) (.v 0) (.v 1))])⟩
noncomputable def r25 : ERow := ⟨Go.Proofs.Tryd.f25, ⟨[], []⟩, ⟨51, [0, 1], [], []⟩, 2, e_math_bits_Mul64⟩

/-- whelk/num.abs [0=a] -/
def e_num_abs : EFunc := ⟨1, 1,
 (.seq (.cond (.bi (.bin .lss) (.v 0) (.c (.int .i64 0)))
  (.ret [.e (.bi (.bin .sub) (.c (.int .u64 0)) (.un (.conv .u64) (.v 0)))])
  (.skip))
 (.ret [.e (.un (.conv .u64) (.v 0))]))⟩
noncomputable def r26 : ERow := ⟨Go.Proofs.Tryd.f26, ⟨[], []⟩, ⟨10, [0], [], []⟩, 1, e_num_abs⟩

/-- whelk/whelkref1.size [0=v] -/
def e_ref1_size : EFunc := ⟨1, 1,
 (.seq (.cond (.bi (.bin .lss) (.v 0) (.c (.int .i64 0)))
  (.ret [.e (.bi (.bin .add) (.un (.conv .u64) (.bi (.bin .sub) (.c (.int .i64 0)) (.bi (.bin .add) (.v 0) (.c (.int .i64 1))))) (.c (.int .u64 1)))])
  (.skip))
 (.ret [.e (.un (.conv .u64) (.v 0))]))⟩
noncomputable def r27 : ERow := ⟨Go.Proofs.Tryd.f27, ⟨[], []⟩, ⟨12, [0], [], []⟩, 1, e_ref1_size⟩

/-- strings.HasPrefix [0=s, 1=prefix] -/
def e_strings_HasPrefix : EFunc := ⟨2, 2,
 (.ret [.e (.tup (.call 0 f_internal_stringslite_HasPrefix) (.cons (.v 0) (.cons (.v 1) .nil)))])⟩
noncomputable def r28 : ERow := ⟨Go.Proofs.Tryd.f28, ⟨[], []⟩, ⟨8, [0, 1], [], []⟩, 2, e_strings_HasPrefix⟩

/-- whelk/whelkref1.Shape [0=s, 1=from, 2=i] -/
def b_ref1_Shape_0 : EC :=
 (.seq (.cond (.bi (.bin .lss) (.v 2) (.un .slen (.v 0)))
  (.skip)
  (.exit 0))
 (.seq (.block 1 (.cond (.pick (.bi (.bin .lss) (.bi .sidx (.v 0) (.v 2)) (.c (.int .u8 48))) (.c (.bool true)) (.bi (.bin .gtr) (.bi .sidx (.v 0) (.v 2)) (.c (.int .u8 57))))
   (.ret [.e (.c (.bool false))])
   (.skip)))
 (.st [.sets [(2, (.bi (.bin .add) (.v 2) (.c (.int .i64 1))))]])))
def e_ref1_Shape : EFunc := ⟨1, 3,
 (.seq (.st [.sets [(1, (.c (.int .i64 0)))]])
 (.seq (.cond (.pick (.bi (.bin .gtr) (.un .slen (.v 0)) (.c (.int .i64 0))) (.pick (.bi (.bin .eql) (.bi .sidx (.v 0) (.c (.int .i64 0))) (.c (.int .u8 43))) (.c (.bool true)) (.bi (.bin .eql) (.bi .sidx (.v 0) (.c (.int .i64 0))) (.c (.int .u8 45)))) (.c (.bool false)))
  (.st [.sets [(1, (.c (.int .i64 1)))]])
  (.skip))
 (.seq (.seq (.st [.sets [(2, (.v 1))]])
 (.block 0 (.loop [true, true, true] b_ref1_Shape_0)))
 (.ret [.e (.bi (.bin .gtr) (.un .slen (.v 0)) (.v 1))]))))⟩
noncomputable def r29 : ERow := ⟨Go.Proofs.Tryd.f29, ⟨[], [(0, [true, false, false, true, true])]⟩, ⟨39, [0, 3, 4], [], []⟩, 1, e_ref1_Shape⟩

/-- internal/stringslite.HasPrefix [0=s, 1=prefix] -/
def e_internal_stringslite_HasPrefix : EFunc := ⟨2, 2,
 (.ret [.e (.pick (.bi (.bin .geq) (.un .slen (.v 0)) (.un .slen (.v 1))) (.bi (.bin .eql) (.ssub false true (.v 0) (.c .undef) (.un .slen (.v 1))) (.v 1)) (.c (.bool false)))])⟩
noncomputable def r31 : ERow := ⟨Go.Proofs.Tryd.f31, ⟨[], []⟩, ⟨18, [0, 1], [], []⟩, 2, e_internal_stringslite_HasPrefix⟩

def eT : BT EFunc := (.node 17 e_ref1_Div (.node 10 e_num_Add (.node 6 e_law1_NumbersParts (.node 4 e_law1_NumbersWords (.node 3 e_law1_NumbersAny .leaf .leaf) (.node 5 e_law1_NumbersFuel .leaf .leaf)) (.node 8 e_law1_NumbersTurn (.node 7 e_law1_NumbersEnds .leaf .leaf) (.node 9 e_law1_known .leaf .leaf))) (.node 14 e_num_Mul (.node 12 e_num_Sub (.node 11 e_ref1_Add .leaf .leaf) (.node 13 e_ref1_Sub .leaf .leaf)) (.node 16 e_num_Div (.node 15 e_ref1_Mul .leaf .leaf) .leaf))) (.node 24 e_num_Fuel_Use (.node 21 e_ref1_Parse (.node 19 e_ref1_Mod (.node 18 e_num_Mod .leaf .leaf) (.node 20 e_num_Parse .leaf .leaf)) (.node 23 e_ref1_Text (.node 22 e_num_Text .leaf .leaf) .leaf)) (.node 28 e_strings_HasPrefix (.node 26 e_num_abs (.node 25 e_math_bits_Mul64 .leaf .leaf) (.node 27 e_ref1_size .leaf .leaf)) (.node 31 e_internal_stringslite_HasPrefix (.node 29 e_ref1_Shape .leaf .leaf) .leaf))))
noncomputable def rT : BT ERow := (.node 17 r17 (.node 10 r10 (.node 6 r6 (.node 4 r4 (.node 3 r3 .leaf .leaf) (.node 5 r5 .leaf .leaf)) (.node 8 r8 (.node 7 r7 .leaf .leaf) (.node 9 r9 .leaf .leaf))) (.node 14 r14 (.node 12 r12 (.node 11 r11 .leaf .leaf) (.node 13 r13 .leaf .leaf)) (.node 16 r16 (.node 15 r15 .leaf .leaf) .leaf))) (.node 24 r24 (.node 21 r21 (.node 19 r19 (.node 18 r18 .leaf .leaf) (.node 20 r20 .leaf .leaf)) (.node 23 r23 (.node 22 r22 .leaf .leaf) .leaf)) (.node 28 r28 (.node 26 r26 (.node 25 r25 .leaf .leaf) (.node 27 r27 .leaf .leaf)) (.node 31 r31 (.node 29 r29 .leaf .leaf) .leaf))))
def efns : FuncId → Option EFunc := fun f => eT.get f
noncomputable def rows : FuncId → Option ERow := fun f => rT.get f

theorem ok3 : rowB Go.Proofs.Tryd.prog sh r3 = some e_law1_NumbersAny := by kernel_rfl
theorem g3 : Go.Proofs.Tryd.prog.funcs[3]? = some Go.Proofs.Tryd.f3 := by kernel_rfl
theorem ok4 : rowB Go.Proofs.Tryd.prog sh r4 = some e_law1_NumbersWords := by kernel_rfl
theorem g4 : Go.Proofs.Tryd.prog.funcs[4]? = some Go.Proofs.Tryd.f4 := by kernel_rfl
theorem ok5 : rowB Go.Proofs.Tryd.prog sh r5 = some e_law1_NumbersFuel := by kernel_rfl
theorem g5 : Go.Proofs.Tryd.prog.funcs[5]? = some Go.Proofs.Tryd.f5 := by kernel_rfl
theorem ok6 : rowB Go.Proofs.Tryd.prog sh r6 = some e_law1_NumbersParts := by kernel_rfl
theorem g6 : Go.Proofs.Tryd.prog.funcs[6]? = some Go.Proofs.Tryd.f6 := by kernel_rfl
theorem ok7 : rowB Go.Proofs.Tryd.prog sh r7 = some e_law1_NumbersEnds := by kernel_rfl
theorem g7 : Go.Proofs.Tryd.prog.funcs[7]? = some Go.Proofs.Tryd.f7 := by kernel_rfl
theorem ok8 : rowB Go.Proofs.Tryd.prog sh r8 = some e_law1_NumbersTurn := by kernel_rfl
theorem g8 : Go.Proofs.Tryd.prog.funcs[8]? = some Go.Proofs.Tryd.f8 := by kernel_rfl
theorem ok9 : rowB Go.Proofs.Tryd.prog sh r9 = some e_law1_known := by kernel_rfl
theorem g9 : Go.Proofs.Tryd.prog.funcs[9]? = some Go.Proofs.Tryd.f9 := by kernel_rfl
theorem ok10 : rowB Go.Proofs.Tryd.prog sh r10 = some e_num_Add := by kernel_rfl
theorem g10 : Go.Proofs.Tryd.prog.funcs[10]? = some Go.Proofs.Tryd.f10 := by kernel_rfl
theorem ok11 : rowB Go.Proofs.Tryd.prog sh r11 = some e_ref1_Add := by kernel_rfl
theorem g11 : Go.Proofs.Tryd.prog.funcs[11]? = some Go.Proofs.Tryd.f11 := by kernel_rfl
theorem ok12 : rowB Go.Proofs.Tryd.prog sh r12 = some e_num_Sub := by kernel_rfl
theorem g12 : Go.Proofs.Tryd.prog.funcs[12]? = some Go.Proofs.Tryd.f12 := by kernel_rfl
theorem ok13 : rowB Go.Proofs.Tryd.prog sh r13 = some e_ref1_Sub := by kernel_rfl
theorem g13 : Go.Proofs.Tryd.prog.funcs[13]? = some Go.Proofs.Tryd.f13 := by kernel_rfl
theorem ok14 : rowB Go.Proofs.Tryd.prog sh r14 = some e_num_Mul := by kernel_rfl
theorem g14 : Go.Proofs.Tryd.prog.funcs[14]? = some Go.Proofs.Tryd.f14 := by kernel_rfl
theorem ok15 : rowB Go.Proofs.Tryd.prog sh r15 = some e_ref1_Mul := by kernel_rfl
theorem g15 : Go.Proofs.Tryd.prog.funcs[15]? = some Go.Proofs.Tryd.f15 := by kernel_rfl
theorem ok16 : rowB Go.Proofs.Tryd.prog sh r16 = some e_num_Div := by kernel_rfl
theorem g16 : Go.Proofs.Tryd.prog.funcs[16]? = some Go.Proofs.Tryd.f16 := by kernel_rfl
theorem ok17 : rowB Go.Proofs.Tryd.prog sh r17 = some e_ref1_Div := by kernel_rfl
theorem g17 : Go.Proofs.Tryd.prog.funcs[17]? = some Go.Proofs.Tryd.f17 := by kernel_rfl
theorem ok18 : rowB Go.Proofs.Tryd.prog sh r18 = some e_num_Mod := by kernel_rfl
theorem g18 : Go.Proofs.Tryd.prog.funcs[18]? = some Go.Proofs.Tryd.f18 := by kernel_rfl
theorem ok19 : rowB Go.Proofs.Tryd.prog sh r19 = some e_ref1_Mod := by kernel_rfl
theorem g19 : Go.Proofs.Tryd.prog.funcs[19]? = some Go.Proofs.Tryd.f19 := by kernel_rfl
theorem ok20 : rowB Go.Proofs.Tryd.prog sh r20 = some e_num_Parse := by kernel_rfl
theorem g20 : Go.Proofs.Tryd.prog.funcs[20]? = some Go.Proofs.Tryd.f20 := by kernel_rfl
theorem ok21 : rowB Go.Proofs.Tryd.prog sh r21 = some e_ref1_Parse := by kernel_rfl
theorem g21 : Go.Proofs.Tryd.prog.funcs[21]? = some Go.Proofs.Tryd.f21 := by kernel_rfl
theorem ok22 : rowB Go.Proofs.Tryd.prog sh r22 = some e_num_Text := by kernel_rfl
theorem g22 : Go.Proofs.Tryd.prog.funcs[22]? = some Go.Proofs.Tryd.f22 := by kernel_rfl
theorem ok23 : rowB Go.Proofs.Tryd.prog sh r23 = some e_ref1_Text := by kernel_rfl
theorem g23 : Go.Proofs.Tryd.prog.funcs[23]? = some Go.Proofs.Tryd.f23 := by kernel_rfl
theorem ok24 : rowB Go.Proofs.Tryd.prog sh r24 = some e_num_Fuel_Use := by kernel_rfl
theorem g24 : Go.Proofs.Tryd.prog.funcs[24]? = some Go.Proofs.Tryd.f24 := by kernel_rfl
theorem ok25 : rowB Go.Proofs.Tryd.prog sh r25 = some e_math_bits_Mul64 := by kernel_rfl
theorem g25 : Go.Proofs.Tryd.prog.funcs[25]? = some Go.Proofs.Tryd.f25 := by kernel_rfl
theorem ok26 : rowB Go.Proofs.Tryd.prog sh r26 = some e_num_abs := by kernel_rfl
theorem g26 : Go.Proofs.Tryd.prog.funcs[26]? = some Go.Proofs.Tryd.f26 := by kernel_rfl
theorem ok27 : rowB Go.Proofs.Tryd.prog sh r27 = some e_ref1_size := by kernel_rfl
theorem g27 : Go.Proofs.Tryd.prog.funcs[27]? = some Go.Proofs.Tryd.f27 := by kernel_rfl
theorem ok28 : rowB Go.Proofs.Tryd.prog sh r28 = some e_strings_HasPrefix := by kernel_rfl
theorem g28 : Go.Proofs.Tryd.prog.funcs[28]? = some Go.Proofs.Tryd.f28 := by kernel_rfl
theorem ok29 : rowB Go.Proofs.Tryd.prog sh r29 = some e_ref1_Shape := by kernel_rfl
theorem g29 : Go.Proofs.Tryd.prog.funcs[29]? = some Go.Proofs.Tryd.f29 := by kernel_rfl
theorem ok31 : rowB Go.Proofs.Tryd.prog sh r31 = some e_internal_stringslite_HasPrefix := by kernel_rfl
theorem g31 : Go.Proofs.Tryd.prog.funcs[31]? = some Go.Proofs.Tryd.f31 := by kernel_rfl

theorem efns_eq : efnsOf rows = efns := efnsOf_tree rT eT rfl

theorem rows_ok : RowsOk Go.Proofs.Tryd.prog sh rows := rowsOk_of (t := rT) ⟨⟨g17, by rfl, ok17⟩, ⟨⟨g10, by rfl, ok10⟩, ⟨⟨g6, by rfl, ok6⟩, ⟨⟨g4, by rfl, ok4⟩, ⟨⟨g3, by rfl, ok3⟩, trivial, trivial⟩, ⟨⟨g5, by rfl, ok5⟩, trivial, trivial⟩⟩, ⟨⟨g8, by rfl, ok8⟩, ⟨⟨g7, by rfl, ok7⟩, trivial, trivial⟩, ⟨⟨g9, by rfl, ok9⟩, trivial, trivial⟩⟩⟩, ⟨⟨g14, by rfl, ok14⟩, ⟨⟨g12, by rfl, ok12⟩, ⟨⟨g11, by rfl, ok11⟩, trivial, trivial⟩, ⟨⟨g13, by rfl, ok13⟩, trivial, trivial⟩⟩, ⟨⟨g16, by rfl, ok16⟩, ⟨⟨g15, by rfl, ok15⟩, trivial, trivial⟩, trivial⟩⟩⟩, ⟨⟨g24, by rfl, ok24⟩, ⟨⟨g21, by rfl, ok21⟩, ⟨⟨g19, by rfl, ok19⟩, ⟨⟨g18, by rfl, ok18⟩, trivial, trivial⟩, ⟨⟨g20, by rfl, ok20⟩, trivial, trivial⟩⟩, ⟨⟨g23, by rfl, ok23⟩, ⟨⟨g22, by rfl, ok22⟩, trivial, trivial⟩, trivial⟩⟩, ⟨⟨g28, by rfl, ok28⟩, ⟨⟨g26, by rfl, ok26⟩, ⟨⟨g25, by rfl, ok25⟩, trivial, trivial⟩, ⟨⟨g27, by rfl, ok27⟩, trivial, trivial⟩⟩, ⟨⟨g31, by rfl, ok31⟩, ⟨⟨g29, by rfl, ok29⟩, trivial, trivial⟩, trivial⟩⟩⟩⟩

theorem follows_ok : Go.Proofs.Tryd.prog.follows .mixedOrders = true := by kernel_rfl

end Go.Proofs.YtngkdpiajikcjaaDoorPe.NumCode
